import Derived.Test.YtcfmiocdlcapoaaGreatMCS17
import Derived.Test.YtcfmiocdlcapoaaGreatMCS18
import Derived.RangeFuncSeq
import Derived.Shelf.RegionOpen
import Derived.Test.YtcfmiocdlcapoaaGreatMCS19
namespace Go.Proofs.YtcfmiocdlcapoaaGreat
set_option linter.all false
set_option maxRecDepth 100000
set_option maxHeartbeats 8000000
open Go.RowKit Go.Proofs.Tryz
theorem sO (m : Nat) (a : OA) (n c : Nat) (L : Ll) (ao : OA) (no co : Nat) (Q : Lz) (w : World) (hi : ch w a n L) (hq : Ints w ao no Q) (hL : ∀r ∈ L,r.length=m) (hQ : pA m Q) (hn : n<=1000000) (hno : no<=1000000) :
  Calls prog 113 #[.slice a n c,.slice ao no co] w λe w'=>∃a1 c1 R,e = .returned (.slice a1 n c1)/\aP w' w.heap.size a1 n c1 R (L.map (aQ Q))/\NS w w':=by
 have Hlen:=Z5 hi.len;have hpla:=hi.pl;have HLl:=Z5 hL;have HQ:=Z5 hQ;obtain ⟨L2,hL2⟩ : ∃L2,L.map (aQ Q)=L2:=⟨_,rfl⟩
 have hl2 : L2.length=n:=by rw [<- hL2,Jl];exact Hlen.out
 have Hl2:=Z5 hl2;have HLk : Hid (∀k,k<n->an L2 k=aQ Q (an L k)):=λk hk=>by rw [<- hL2];exact nL _ L (by rw [Hlen.out];exact hk)
 rw [hL2];clear hL2 hl2 hL hQ;go_enter func113,ntmps113;go_wp2_with fail;go_loopw [5,6] (λsv iv wr=>∃(k : Nat) (a1 : OA) (c1 : Nat),k<=n/\iv = .int .i64 k/\sv = .slice a1 k c1/\(∃R,aP wr w.heap.size a1 k c1 R (L2.take k))/\NS w wr) (λ_ iv _=>n - (intOf iv).toNat);case atStart=>exact ⟨0,none,0,I7 _,rfl,rfl,⟨[],by simpa using NB w w.heap.size⟩,I1 _ _⟩
 case round =>
  obtain ⟨k,a1,c1,hk,rfl,rfl,⟨R,hO⟩,hbr⟩:=hrel
  by_cases hlt : k<n
  ·obtain ⟨ra,rn,rc,hcell,hrow⟩:=(hi.aa hbr).cell k hlt
   have hkL : k<L.length:=by rw [Hlen.out];exact hlt
   have hrl : rn=m:=by rw [<- hrow.len,aE hkL];exact HLl.out _ (JA hkL)
   have Htk : Hid (L2.take (k+1)=L2.take k ++ [aQ Q (an L k)]):=by show _=_;rw [Ja (by rw [Hl2.out];exact hlt),<- HLk.out k hlt,aE (by rw [Hl2.out];exact hlt)]
   obtain ⟨l,hl⟩ : ∃l,an L k=l:=⟨_,rfl⟩
   rw [hl] at Htk hrow
   have hpk:=BW ra rn rc l ao no co Q wr hrow (hq.aa hbr) (by rw [hrl];exact HQ.out) hno
   have hsz:=hbr.size
   clear hl hrl
   go_wp2_with fail
   refine hpk.mono ?_
   rintro e w3 ⟨a3,c3,rfl,hown3,hb3⟩
   have hO3:=hO.aa (Nh hb3 (aw w3 (.cells #[.slice a3 (aQ Q l).length c3] 22)))
   have hs3 : w.heap.size<=(w3.alloc (.cells #[.slice a3 (aQ Q l).length c3] 22)).heap.size:=by have h1:=hb3.size;simp;omega
   clear hpk
   go_wp2_with (at_builtin;refine bg rfl _ _ 25 22 rfl (.slice none 0 0) 24 underlying25 di rfl w.heap.size a1 k c1 _ rfl hO3.own ⟨w3.heap.size,0,none⟩ 1 (.slice a3 (aQ Q l).length c3) rfl (bk w3 _ _) rfl (by omega) (by unfold maxLen;omega) hs3 ?_;intro a5 c5 w5 hown5 hgr5 hap5)
   go_roundw
   case rel =>
    have hb4 : NS wr (w3.alloc (.cells #[.slice a3 (aQ Q l).length c3] 22)):=Nh hb3 (aw _ _)
    have hown4 : (w3.alloc (.cells #[.slice a3 (aQ Q l).length c3] 22)).ownsRow w.heap.size 3 1 (.slice a3 (aQ Q l).length c3) (aQ Q l).length ((aQ Q l).map (Value.int .i64)) :=
     aU (aX hown3 (aw _ _)) hsz
    have hra : a3 ≠ none->¬ bS a1 R (aj a3):=λh0 hI=>by have h1:=(aM hown3 h0).1;have h2:=(hO.lt _ hI).2;omega
    have hP:=Ny hO3 hown4 hra hown5 hgr5 hap5
    have hb5 : NS w w5:=Nk (Nh hbr hb4) hO3.own hgr5 (IZ _) (Ji hsz hb4.size)
    exact ⟨k+1,a5,c5,by omega,by go_num,rfl,⟨_,by rw [Htk.out];exact hP⟩,hb5⟩
   case measure=>simp [intOf] <;> omega
  ·obtain rfl : k=n:=by omega
   rw [I8 (by rw [Hl2.out];exact IZ _)] at hO
   have HO:=Z5 hO
   clear hO
   go_wp2_with fail
   go_ret
   exact ⟨a1,c1,R,rfl,HO.out,hbr⟩
theorem oh (P M : Int) (am : OA) (mn cm : Nat) (mod : Lz) (m : Nat) (a : OA) (n c : Nat) (L : Ll) (ao : OA) (no co : Nat) (Q : Lz) (w : World) (hmod : Ints w am mn mod) (hi : ch w a n L) (hq : Ints w ao no Q)
  (hE : aJ P M mod m L=0) (hQ : pA m Q) (hno : no<=1000000) :
  Calls prog 172 #[.agg #[.int .i64 P,.int .i64 M,.slice am mn cm],.slice a n c,.slice ao no co] w λe w'=>e = .returned (.int .i64 (gD (ah P M.toNat mod).ops L Q).length)/\NS w w':=by
 have hql:=hq.len;obtain ⟨N',em,hm1,hm64,F,hR⟩:=br hE;obtain rfl : m=N':=by omega
 have hn : n<=256:=by rw [<- hi.len];exact (dP hE).choose_spec.2.2.2.1
 have hB:=(bl hE).1;have hinv:=lj (P:=P) (M:=M) (mod:=mod) (by rw [da];exact hB);have hgr:=uo F hR hQ;have hpr:=jY hR hQ;rw [hql] at hgr hpr;obtain ⟨k,rfl,hel,_,hF,hA,_⟩:=fU hB;obtain ⟨k',e2,hrf,hmods⟩:=eK (by rw [da];exact hB);obtain rfl : k=k':=by omega
 rw [Jd] at hgr hpr hinv hR ⊢;have hag:=(fV hA hF.cl (by rw [hel];exact hpr) no (IZ _)).1;rw [hag] at hgr;rw [<- hel] at hpr;have HKp : Hid (∀V,NS w V->Calls prog 113 #[.slice a n c,.slice ao no co] V λe w'=>NS V w'/\∃a1 c1,e = .returned (.slice a1 n c1)/\ch w' a1 n (L.map (aQ Q))):=λV hV=>by refine (sO m a n c L ao no co Q V (hi.aa hV) (hq.aa hV) (λr hr=>(hR r hr).1) hQ (by omega) hno).mono ?_;rintro e w' ⟨a1,c1,R,rfl,hO,hb⟩;exact ⟨hb,a1,c1,rfl,hO.l7⟩
 have HCn : Hid (∀V a1 c1,NS w V->ch V a1 n (L.map (aQ Q))->∀V2,NS V V2->Calls prog 120 #[.agg #[.int .i64 P,.int .i64 k,.slice am mn cm],.slice a1 n c1,.int .i64 no] V2 λe w' =>
   NS V2 w'/\∃v ap cp,e = .returned (.tuple #[v,.slice ap (gD (ah P k mod).ops L Q).length cp])):=λV a1 c1 hV hM V2 hV2=>by refine (mA P k am mn cm mod a1 n c1 no (L.map (aQ Q)) V2 ⟨hrf,hmods V2 am mn (hmod.aa (Nh hV hV2))⟩ (hM.aa hV2) hpr hno (by omega) hinv).mono ?_;rintro e w' ⟨a4,c4,ap,cp,rfl,_,_,hb⟩;exact ⟨hb,_,ap,cp,by rw [<- hgr]⟩
 obtain ⟨r,hr⟩ : ∃r,(gD (ah P k mod).ops L Q).length=r:=⟨_,rfl⟩
 rw [hr] at HCn ⊢;clear hE em F hR hB hinv hgr hpr hel hF hA e2 hrf hmods hag hr hQ hql hmod hi hq;go_enter func172,ntmps172;go_upto_region 1 with fail;obtain ⟨W,hW⟩ : ∃W : World,W=w.alloc (.cells #[.int .i64 P,.int .i64 k,.slice am mn cm] 24):=⟨_,rfl⟩
 rw [<- hW];have hbW : NS w W:=by rw [hW];exact aw _ _
 have x0 : aZ W w.heap.size [.int .i64 P,.int .i64 k,.slice am mn cm]:=by rw [hW];exact Nj _ _ _ rfl
 have hS : ∀V,NS W V->V.cell? ⟨w.heap.size,0,none⟩=some (.int .i64 P)/\V.cell? ⟨w.heap.size,1,none⟩=some (.int .i64 k)/\V.cell? ⟨w.heap.size,2,none⟩=some (.slice am mn cm)/\NS W V:=λV hV=>by have x1:=x0.aa hV;exact ⟨x1.cell 0 rfl,x1.cell 1 rfl,x1.cell 2 rfl,hV⟩
 have HS:=Z5 hS;have HbW:=Z5 hbW;clear hW x0 hS hbW;go_region_held3 (λV=>V.cell? ⟨w.heap.size,0,none⟩=some (.int .i64 P)/\V.cell? ⟨w.heap.size,1,none⟩=some (.int .i64 k)/\V.cell? ⟨w.heap.size,2,none⟩=some (.slice am mn cm)/\NS W V)
  ((refine HS.out _ ?_;first | exact (I1 _ _).drew | (go_split_ands;exact Nh (by assumption) (by assumption))))
  (first
   | (go_at_call 113;((with_reducible refine (HKp.out _ (Nh HbW.out (by go_split_ands;assumption))).mono ?_);rintro e w6 ⟨hb6,a6,c6,rfl,hM6⟩;have hb7 : NS W w6:=(by go_split_ands;exact Nh (by assumption) hb6);have Hr2:=Z5 (HCn.out w6 a6 c6 (Nh HbW.out hb7) hM6);clear hM6))
   | (go_at_call 120;((with_reducible refine (Hr2.out _ (by first | exact I1 _ _ | exact hb4)).mono ?_);rintro e w8 ⟨hb8,v8,ap8,cp8,rfl⟩)))
 all_goals (
  go_wp2_with fail
  go_ret
  exact ⟨rfl,Nh HbW.out (by go_split_ands;assumption)⟩)
theorem pj {σ : Type} (I : World->σ->Prop) (J : σ->Nat->Prop) (val : σ->Ll) (F : Lz->Lz->Ll->Int × Ll) (pb W : Nat)
  (sa : OA) (ns cs : Nat) (s : Lz) (az : OA) (nz cz : Nat) (z : Lz) (at' : OA) (nt ct : Nat) (t : Lz) (w : World) (σ0 : σ)
  (hI0 : I w σ0) (hIb : ∀V V' σ,I V σ->aA V V' (λb=>w.heap.size<=b/\¬ J σ b) (λb=>w.heap.size<=b/\¬ J σ b)->I V' σ) (hp : w.cell? ⟨pb,9,none⟩=some (.int .i64 W)) (hS : ∀V σ,I V σ->Ints V sa ns s/\Ints V at' nt t)
  (hJ : ∀V σ x,I V σ->J σ x->x<V.heap.size) (hz : Ints w az nz z) (htn : t.Nodup) (hns : ns<=1000) (hnz : nz<=1000) (hnt : nt<=1000) (hWs : ns<=W)
  (hF : ns<W->∀(V : World) (σ : σ) (a1 : OA) (c1 : Nat) (a2 : OA) (c2 k : Nat) (zc : Lz),k<nt->zc=z ++ (t.take k).filter (λx=>decide (¬ x ∈ z))->¬ nth t k ∈ z->I V σ->aA w V (J σ0) (J σ) ->
   Ints V a1 (ns+1) (s ++ [nth t k])->Ints V a2 zc.length zc->¬ J σ (aj a1)->(a2 ≠ none->¬ J σ (aj a2)) ->
   Calls prog 239 #[.pointer (some ⟨pb,0,none⟩),.slice a1 (ns+1) c1,.slice a2 zc.length c2] V
    λe V'=>∃σ',I V' σ'/\aA V V' (J σ) (J σ')/\e = .returned (.int .i64 (F (s ++ [nth t k]) zc (val σ)).1)/\((F (s ++ [nth t k]) zc (val σ)).1=0->val σ'=(F (s ++ [nth t k]) zc (val σ)).2)) :
  Calls prog 264 #[.pointer (some ⟨pb,0,none⟩),.slice sa ns cs,.slice az nz cz,.slice at' nt ct,.func (.func 239) #[.pointer (some ⟨pb,0,none⟩)] #[]] w
   λe w'=>∃σ',I w' σ'/\aA w w' (J σ0) (J σ')/\e = .returned (.int .i64 (eS F s z (if ns<W then t.filter (λx=>decide (¬ x ∈ z)) else []) (val σ0)).1) /\
    ((eS F s z (if ns<W then t.filter (λx=>decide (¬ x ∈ z)) else []) (val σ0)).1=0->val σ'=(eS F s z (if ns<W then t.filter (λx=>decide (¬ x ∈ z)) else []) (val σ0)).2):=by
 obtain ⟨KB,hKB⟩ : ∃KB,eS F s z (if ns<W then t.filter (λx=>decide (¬ x ∈ z)) else []) (val σ0)=KB:=⟨_,rfl⟩
 rw [hKB];have HKB:=Z5 hKB;clear hKB;have Hzl:=Z5 hz.len;have Htl:=Z5 (hS w σ0 hI0).2.len;have Hsl:=Z5 (hS w σ0 hI0).1.len;have hplt:=(hS w σ0 hI0).2.pl;have HS:=Z5 hS;have HI0:=Z5 hI0;have HIb:=Z5 hIb;have HJ:=Z5 hJ;have Htn:=Z5 htn;have HF:=Z5 hF;clear hS hI0 hIb hJ htn hF;by_cases hW : ns=W
 ·have hd : ((ns : Int) == (W : Int))=true:=by simp;omega
  have Hk : Hid (KB=(0,val σ0)):=by show _=_;rw [<- HKB.out,I5 (by omega)];rfl
  go_enter func264,ntmps264;clear hW;go_wp2_with fail;go_ret;exact ⟨σ0,HI0.out,Ns _ _,by rw [Hk.out];rfl,λ_=>by rw [Hk.out]⟩
 have hd : ((ns : Int) == (W : Int))=false:=by simp;omega
 have hlW : ns<W:=by omega
 have HKB : Hid (KB=eS F s z (t.filter (λx=>decide (¬ x ∈ z))) (val σ0)):=by show _=_;rw [<- HKB.out,I6 hlW]
 have HF:=Z5 (HF.out hlW);clear hlW hW;go_enter func264,ntmps264;go_wp2_with fail;refine (eG az nz cz z hz (by omega)).mono ?_;rintro e w1 ⟨a0,c0,rfl,hown0,hb1⟩;have hI1:=HIb.out w w1 σ0 HI0.out (Nn hb1 _);go_wp2_with fail;go_loopw [2,25] (λzv iv wr=>∃(k : Nat) (aq : OA) (cq : Nat) (zc : Lz) (σ : σ),k<=nt/\iv = .int .i64 k/\zv = .slice aq zc.length cq/\Hid (zc=z ++ (t.take k).filter (λx=>decide (¬ x ∈ z))) /\
   wr.ownsRow w.heap.size 3 1 (.slice aq zc.length cq) zc.length (zc.map (Value.int .i64))/\Hid (I wr σ)/\Hid (aA w wr (J σ0) (J σ))/\Hid (aq ≠ none->¬ J σ (aj aq)) /\
   Hid (KB=eS F s zc ((t.drop k).filter (λx=>decide (¬ x ∈ z))) (val σ))/\zc.length<=nz+k)
  (λ_ iv _=>nt - (intOf iv).toNat)
 case atStart =>
  refine ⟨0,a0,c0,z,σ0,I7 _,rfl,rfl,?_,hown0,hI1,Nn hb1 _,?_,?_,by rw [Hzl.out];omega⟩
  ·show _=_;simp
  ·show a0 ≠ none->_
   intro ha hj
   have h1:=HJ.out w σ0 _ HI0.out hj
   have h2:=(aM hown0 ha).1
   omega
  ·show _=_;rw [Kx];exact HKB.out
 case round =>
  obtain ⟨k,aq,cq,zc,σ,hk,rfl,rfl,hzc,hop,hI,hM,hap,hkb,hzn⟩:=hrel
  generalize wr=U at *
  by_cases hlt : k<nt
  ·have htU:=(HS.out U σ hI.out).2
   have hsU:=(HS.out U σ hI.out).1
   have ck:=htU.cell k hlt
   obtain ⟨hzi,_⟩:=Ni hop
   have hktl : k<t.length:=by rw [Htl.out];exact hlt
   have Htk:=Z5 (show t.take (k+1)=t.take k ++ [nth t k] from nN t hktl)
   have Hdk:=Z5 (show t.drop k=nth t k :: t.drop (k+1) by rw [ai hktl];exact Jt hktl)
   have Hzm : Hid (nth t k ∈ zc ↔ nth t k ∈ z):=by
    show _ ↔ _;rw [hzc.out,JM,K7];constructor
    ·rintro (h | h)
     ·exact h
     ·exfalso;have hn : (t.take k ++ t.drop k).Nodup:=by rw [Lt];exact Htn.out
      rw [J2] at hn;exact hn.2.2 _ h.1 (nth t k) (by rw [Hdk.out];simp) rfl
    ·exact .inl
   by_cases hmz : nth t k ∈ z
   ·have hmd : decide (nth t k ∈ zc)=true:=by simpa using Hzm.out.2 hmz
    have HcA:=Z5 (cN aq zc.length cq zc (nth t k) U hzi)
    rw [hmd] at HcA
    have Hzc2 : Hid (zc=z ++ (t.take (k+1)).filter (λx=>decide (¬ x ∈ z))):=by show _=_;rw [Htk.out,Lc,Kr (by simpa using hmz),KQ,KC];exact hzc.out
    have Hkb2 : Hid (KB=eS F s zc ((t.drop (k+1)).filter (λx=>decide (¬ x ∈ z))) (val σ)):=by show _=_;rw [hkb.out,Hdk.out,Kr (by simpa using hmz)]
    clear hmz hmd
    go_wp2_with fail
    refine HcA.out.mono ?_
    rintro e w6 ⟨rfl,rfl⟩
    go_wp2_with fail
    go_roundw
    case rel=>exact ⟨k+1,aq,cq,zc,σ,by omega,by go_num,rfl,Hzc2.out,hop,hI.out,hM.out,hap.out,Hkb2.out,by omega⟩
    case measure=>simp [intOf] <;> omega
   ·have hmd : decide (nth t k ∈ zc)=false:=by simpa using λh=>hmz (Hzm.out.1 h)
    have HcA:=Z5 (cN aq zc.length cq zc (nth t k) U hzi)
    rw [hmd] at HcA
    have Hzc2 : Hid (zc ++ [nth t k]=z ++ (t.take (k+1)).filter (λx=>decide (¬ x ∈ z))):=by show _=_;rw [Htk.out,Lc,Ks (by simpa using hmz),KQ,<- JQ,<- hzc.out]
    have Hkb2 : Hid (KB=if (F (s ++ [nth t k]) zc (val σ)).1=0 then eS F s (zc ++ [nth t k]) ((t.drop (k+1)).filter (λx=>decide (¬ x ∈ z))) (F (s ++ [nth t k]) zc (val σ)).2 else ((F (s ++ [nth t k]) zc (val σ)).1,[])):=by show _=_;rw [hkb.out,Hdk.out,Ks (by simpa using hmz),eS]
    have HFk:=Z5 (λV σ a1 c1 a2 c2=>HF.out V σ a1 c1 a2 c2 k zc hlt hzc.out hmz)
    have hszU:=hM.out.size
    clear hmz hmd
    go_wp2_with fail
    refine HcA.out.mono ?_
    rintro e w6 ⟨rfl,rfl⟩
    go_wp2_with fail
    refine (eG sa ns cs s hsU (by omega)).mono ?_
    rintro e w7 ⟨a7,c7,rfl,hown7,hb7⟩
    rw [Hsl.out] at hown7
    rw [Hsl.out]
    obtain ⟨x,hx⟩ : ∃x,nth t k=x:=⟨_,rfl⟩
    rw [hx] at ck Hzc2 Hkb2 HFk Htk Hdk Hzm HcA ⊢
    have hcn:=bk w7 (.int .i64 x) 3
    have hbn:=aw w7 (.cells #[.int .i64 x] 3)
    go_wp2_with (at_builtin;refine bg rfl _ _ 22 3 rfl (.int .i64 0) 8 underlying22 ba rfl w6.heap.size a7 ns c7 _ rfl (hown7.alloc _) ⟨w7.heap.size,0,none⟩ 1 (.int .i64 x) rfl hcn rfl (by omega) (by unfold maxLen;omega) (Ji hb7.size hbn.size) ?_;intro a8 c8 w8 hown8 hgr8 hap8)
    have hb68 : NS w6 w8:=Nk (Nh hb7 hbn) (hown7.alloc _) hgr8 (IZ _) (Ji hb7.size hbn.size)
    have own8 : w8.ownsRow w6.heap.size 3 1 (.slice a8 (ns+1) c8) (ns+1) ((s ++ [x]).map (Value.int .i64)):=by simpa using hown8
    have hz8:=hzi.aa hb68
    clear hown7 hown8 hgr8 hap8 hcn hbn
    go_wp2_with fail
    refine (eG aq zc.length cq zc hz8 (by omega)).mono ?_
    rintro e w9 ⟨a9,c9,rfl,hown9,hb9⟩
    have hb69:=Nh hb68 hb9
    have hI9:=HIb.out w6 w9 σ hI.out (Nn hb69 _)
    have hM9 : aA w w9 (J σ0) (J σ):=hM.out.mY (hb69.mono hszU)
    have hs9:=(Ni own8).1.aa hb9
    have hz9:=(Ni hown9).1
    have hn8 : ¬ J σ (aj a8):=λhj=>by have h1:=HJ.out w6 σ _ hI.out hj;have h2:=(fB own8 (by omega)).1;omega
    have hn9 : a9 ≠ none->¬ J σ (aj a9):=λha hj=>by have h1:=HJ.out w6 σ _ hI.out hj;have h2:=(aM hown9 ha).1;have h3:=hb68.size;omega
    have hopz:=aX hop hb69
    have HCall:=Z5 (HFk.out w9 σ a8 c8 a9 c9 hI9 hM9 hs9 hz9 hn8 hn9)
    clear HFk hI9 hs9 hz9 hn8 hn9 hz8 own8 hown9
    generalize F (s ++ [x]) zc (val σ)=FR at *
    obtain ⟨fe,fv⟩:=FR
    dsimp only at HCall Hkb2
    go_wp2_with fail
    refine HCall.out.mono ?_
    rintro e w10 ⟨σ',hI',hM',rfl,hval⟩
    have hM10:=Z5 (hM9.trans hM')
    have hapz : aq ≠ none->¬ J σ' (aj aq):=λha=>hM'.not (aM hopz ha).2 (hap.out ha)
    have hopq:=hM'.own hopz hap.out
    have Hapz:=Z5 hapz
    have HI':=Z5 hI'
    clear HCall hM9 hM' hapz hI' hopz
    by_cases hfe : fe=0
    ·have Hval : Hid (val σ'=fv):=hval hfe
     subst hfe
     rw [I6 rfl] at Hkb2
     have hcn:=bk w10 (.int .i64 x) 3
     have hbn:=aw w10 (.cells #[.int .i64 x] 3)
     have hsz10:=hM10.out.size
     clear hval
     go_wp2_with (at_builtin;refine bg rfl _ _ 22 3 rfl (.int .i64 0) 8 underlying22 ba rfl w.heap.size aq zc.length cq _ rfl (hopq.alloc _) ⟨w10.heap.size,0,none⟩ 1 (.int .i64 x) rfl hcn rfl (by omega) (by unfold maxLen;omega) (Ji hsz10 hbn.size) ?_;intro a11 c11 w11 hown11 hgr11 hap11)
     go_roundw
     case rel =>
      have hb11 : Below w.heap.size w10 w11:=Nk (hbn.mono hsz10) (hopq.alloc _) hgr11 (IZ _) (Ji hsz10 hbn.size)
      have hK : aA w10 w11 (λb=>w.heap.size<=b/\¬ J σ' b) (λb=>w.heap.size<=b/\¬ J σ' b):=(Nn hbn _).trans (Nu hgr11 λha=>⟨(aM hopq ha).1,Hapz.out ha⟩)
      refine ⟨k+1,a11,c11,zc ++ [x],σ',by omega,by go_num,by simp,Hzc2.out,by simpa using hown11,HIb.out w10 w11 σ' HI'.out hK,hM10.out.mY hb11,?_,?_,by simp;omega⟩
      ·show a11 ≠ none->_
       intro ha hj
       have h1:=HJ.out w10 σ' _ HI'.out hj
       have h2 : cJ aq (aj a11):=by
        by_cases h0 : aq=none
        ·exact .inl h0
        ·exact .inr λe=>Hapz.out h0 (by rw [e];exact hj)
       rcases hap11 _ (Jv h1 hbn.size) h2 with h3 | h3
       ·exact ha h3
       ·exact h3 rfl
      ·show _=_
       rw [Hkb2.out,Hval.out]
     case measure=>simp [intOf] <;> omega
    ·have hfe' : (fe != 0)=true:=by simpa using hfe
     have Hk2 : Hid (KB=(fe,[])):=by show _=_;rw [Hkb2.out,I5 hfe]
     have Hfe:=Z5 hfe
     clear hfe hval
     go_wp2_with fail
     go_ret
     exact ⟨σ',HI'.out,hM10.out,by rw [Hk2.out];rfl,λh0=>absurd (by rw [Hk2.out] at h0;exact h0) Hfe.out⟩
  ·obtain rfl : k=nt:=by omega
   have Hf : Hid (KB=(0,val σ)):=by show _=_;rw [hkb.out,JD (by rw [Htl.out];exact IZ _),KQ,eS]
   go_wp2_with fail
   go_ret
   exact ⟨σ,hI.out,hM.out,by rw [Hf.out];rfl,λ_=>by rw [Hf.out]⟩
def qR (P M : Int) (mod : Lz) (N : Int) (L : Ll) (S : Ll) : Int:=if aJ P M mod N L=0 then iF N S else aJ P M mod N L
theorem BG (P M : Int) (mod : Lz) (N : Int) (L : Ll) (Q : Lz) : qR P M mod N L [Q]=dD P M mod N L Q:=rfl
theorem gH (P M : Int) (am : OA) (mn cm : Nat) (mod : Lz) (N : Int) (a : OA) (n c : Nat) (L : Ll) (w : World) (hmod : Ints w am mn mod) (hi : ch w a n L) :
  Calls prog 22 #[.agg #[.int .i64 P,.int .i64 M,.slice am mn cm,.int .i64 N,.slice a n c]] w λe w'=>e = .returned (.int .i64 (aJ P M mod N L))/\NS w w':=by rw [<- tB];exact kW P M am mn cm mod N a n c L w hmod hi lj
theorem Cl (P M : Int) (am : OA) (mn cm : Nat) (mod : Lz) (N : Int) (a : OA) (n c : Nat) (L : Ll) (sa : OA) (ns cs : Nat) (S : Ll) (w : World) (hmod : Ints w am mn mod) (hi : ch w a n L) (hs : ch w sa ns S) :
  Calls prog 110 #[.agg #[.int .i64 P,.int .i64 M,.slice am mn cm,.int .i64 N,.slice a n c],.slice sa ns cs] w λe w'=>e = .returned (.int .i64 (qR P M mod N L S))/\NS w w':=by
 have Hlen:=Z5 hs.len;have hpl:=hs.pl;have hmax:=hs.max;unfold maxLen at hmax;have HE : Hid (aJ P M mod N L ≠ 0->qR P M mod N L S=aJ P M mod N L):=λh=>by rw [qR,I5 h]
 have HZ : Hid (aJ P M mod N L=0->qR P M mod N L S=iF N S):=λh=>by rw [qR,I6 h]
 have HC0 : Hid (∀V,NS w V->Calls prog 22 #[.agg #[.int .i64 P,.int .i64 M,.slice am mn cm,.int .i64 N,.slice a n c]] V λe w'=>e = .returned (.int .i64 (aJ P M mod N L))/\NS V w') :=
  λV hV=>gH P M am mn cm mod N a n c L V (hmod.aa hV) (hi.aa hV)
 obtain ⟨x,hx⟩ : ∃x,aJ P M mod N L=x:=⟨_,rfl⟩
 rw [hx] at HE HZ HC0;obtain ⟨y,hy⟩ : ∃y,qR P M mod N L S=y:=⟨_,rfl⟩
 rw [hy] at HE HZ ⊢;clear hx hy hmod hi;go_enter func110,ntmps110;go_wp2_with fail;obtain ⟨W,hW⟩ : ∃W : World,W=w.alloc (.cells #[.int .i64 P,.int .i64 M,.slice am mn cm,.int .i64 N,.slice a n c] 27):=⟨_,rfl⟩
 rw [<- hW];have hbW : NS w W:=by rw [hW];exact aw _ _
 have x0 : aZ W w.heap.size [.int .i64 P,.int .i64 M,.slice am mn cm,.int .i64 N,.slice a n c]:=by rw [hW];exact Nj _ _ _ rfl
 have hS : ∀V,NS W V->V.cell? ⟨w.heap.size,3,none⟩=some (.int .i64 N)/\NS W V:=λV hV=>⟨(x0.aa hV).cell 3 rfl,hV⟩
 have HS:=Z5 hS;have HbW:=Z5 hbW;have hsW:=hs.aa hbW;have HC:=Z5 (HC0.out W hbW);have c0:=x0.cell 0 rfl;have c1:=x0.cell 1 rfl;have c2:=x0.cell 2 rfl;have c3:=x0.cell 3 rfl;have c4:=x0.cell 4 rfl;clear hW x0 hS hs HC0;go_wp2_with fail;refine HC.out.mono ?_;rintro e w1 ⟨rfl,hb1⟩;clear c0 c1 c2 c3 c4 HC;go_wp2_with fail;go_loopw [5,6] (λev iv wr=>∃k : Nat,k<=ns/\iv = .int .i64 k/\NS W wr/\((ev = .int .i64 0/\Hid (x=0/\(S.take k).all (cF N)=true))\/(ev = .int .i64 y/\y ≠ 0))) (λ_ iv _=>ns - (intOf iv).toNat);case atStart =>
  refine ⟨0,I7 _,rfl,hb1,?_⟩
  by_cases h0 : x=0
  ·exact .inl ⟨by rw [h0],⟨h0,by simp⟩⟩
  ·exact .inr ⟨by rw [HE.out h0],by rw [HE.out h0];exact h0⟩
 case round =>
  obtain ⟨k,hk,rfl,hbr,⟨rfl,hall⟩ | ⟨rfl,hne⟩⟩:=hrel
  ·by_cases hlt : k<ns
   ·obtain ⟨ra,rn,rc,hcell,hrow⟩:=(hsW.aa hbr).cell k hlt
    have hkS : k<S.length:=by rw [Hlen.out];exact hlt
    have Hng : Hid (an S k=S[k]):=aE hkS
    obtain ⟨z,hz⟩ : ∃z,cF N (an S k)=z:=⟨_,rfl⟩
    have HR : Hid (∀V,NS wr V->Calls prog 33 #[.slice ra rn rc,.int .i64 N] V λe w'=>e = .returned (.bool z)/\NS V w'):=λV hV=>by refine (rN N ra rn rc _ V (hrow.aa hV)).mono ?_;rintro e w' ⟨rfl,hd⟩;exact ⟨by rw [hz],hd.below⟩
    have HS2 : Hid (∀V,NS wr V->V.cell? ⟨w.heap.size,3,none⟩=some (.int .i64 N)/\V.cell? ⟨aj sa,aL sa+k,none⟩=some (.slice ra rn rc)/\NS wr V):=λV hV=>by exact ⟨(HS.out V (Nh hbr hV)).1,(hV.cell (Jf wr _ hcell)).trans hcell,hV⟩
    have Hz : Hid (cF N S[k]=z):=by show _=_;rw [<- Hng.out];exact hz
    have Hbr:=Z5 hbr
    clear hz hrow hbr Hng
    go_wp2_with fail
    cases z
    ·have Hy : Hid (y=6):=by show _=_;rw [HZ.out hall.out.1,iF,I5 (by rw [db hkS Hz.out];simp)]
     go_region_held3 (λV=>V.cell? ⟨w.heap.size,3,none⟩=some (.int .i64 N)/\V.cell? ⟨aj sa,aL sa+k,none⟩=some (.slice ra rn rc)/\NS wr V)
      ((refine HS2.out _ ?_;first | exact (I1 _ _).drew | (go_split_ands;exact Nh (by assumption) (by assumption))))
      (first
       | (go_at_call 33;((with_reducible refine (HR.out _ (by go_split_ands;assumption)).mono ?_);rintro e w6 ⟨rfl,hb6⟩)))
     all_goals (
      go_wp2_with fail
      go_roundw
      case rel=>exact ⟨k+1,by omega,by go_num,Nh Hbr.out (by go_split_ands;assumption),.inr ⟨by rw [Hy.out],by rw [Hy.out];omega⟩⟩
      case measure=>simp [intOf] <;> omega)
    ·go_region_held3 (λV=>V.cell? ⟨w.heap.size,3,none⟩=some (.int .i64 N)/\V.cell? ⟨aj sa,aL sa+k,none⟩=some (.slice ra rn rc)/\NS wr V)
      ((refine HS2.out _ ?_;first | exact (I1 _ _).drew | (go_split_ands;exact Nh (by assumption) (by assumption))))
      (first
       | (go_at_call 33;((with_reducible refine (HR.out _ (by go_split_ands;assumption)).mono ?_);rintro e w6 ⟨rfl,hb6⟩)))
     all_goals (
      go_wp2_with fail
      go_roundw
      case rel=>exact ⟨k+1,by omega,by go_num,Nh Hbr.out (by go_split_ands;assumption),.inl ⟨rfl,⟨hall.out.1,cX hkS hall.out.2 Hz.out⟩⟩⟩
      case measure=>simp [intOf] <;> omega)
   ·obtain rfl : k=ns:=by omega
    have Hy : Hid (y=0):=by have h:=hall.out.2;rw [I8 (by rw [Hlen.out];exact IZ _)] at h;show _=_;rw [HZ.out hall.out.1,iF,I6 h]
    have hF:=Nh HbW.out hbr
    go_wp2_with fail
    go_ret
    exact ⟨aH Hy.out.symm,hF⟩
  ·have hne' : (y == 0)=false:=by simpa using hne
   have hF:=Nh HbW.out hbr
   clear hne
   by_cases hlt : k<ns
   ·go_wp2_with fail
    go_ret
    exact ⟨rfl,hF⟩
   ·obtain rfl : k=ns:=by omega
    go_wp2_with fail
    go_ret
    exact ⟨rfl,hF⟩
theorem j9 (a : OA) (n c : Nat) (Q : Lz) (w : World) (hi : Ints w a n Q) (hn : n<=1000000) :
  Calls prog 105 #[.slice a n c] w λe w'=>∃a1 c1,e = .returned (.slice a1 n c1)/\w'.ownsRow w.heap.size 3 1 (.slice a1 n c1) n ((bA Q).map (Value.int .i64))/\NS w w':=by
 have Hlen:=Z5 hi.len;have hO:=ff w 3;have hal:=Z5 ((I1 w.heap.size w).alloc (IZ _) (.cells #[] 3));go_enter func105,ntmps105;go_upto_region 1 with fail;iterate 7 go_step
 have hbal:=hal.out;generalize w.alloc (.cells #[] 3)=W0 at *;have hiW:=hi.aa hbal;refine ee (by rfl) (.tmp 6) (.tmp 7) 22 3 (by rfl) (.int .i64 0) 8 underlying22 ba (by rfl) w.heap.size _ 0 0 [] (by rfl) hO a n c (Q.map (Value.int .i64)) (by rfl) hiW.pl (by simp [Hlen.out]) (Np hiW) (ints_oneCell _ _) (by omega) (by unfold maxLen;omega) (J7 hbal) ?_;intro a3 c3 w3 hown3 hgr3 hap3;have hb3 : NS w w3:=Nk (B:=w.heap.size) (e:=3) (xs:=[]) hbal hO hgr3 (IZ _) (J7 hbal);rw [Kk] at hown3 ⊢;rw [JL] at hown3;clear hgr3 hap3 hiW hbal hO hal hi;have H3:=Z5 hown3;clear hown3;go_wp2_with fail;go_loopw [4] (λiv wr=>∃(i : Nat) (X : Lz),1<=i/\i<=n+1/\iv = .int .i64 i/\Hid (X.Perm Q/\wE X i)/\wr.ownsRow w.heap.size 3 1 (.slice a3 n c3) n (X.map (Value.int .i64))/\NS w wr) (λiv _=>n+1 - (intOf iv).toNat);case atStart=>exact ⟨1,Q,IZ _,by omega,rfl,⟨LU _,λp q h1 h2=>by omega⟩,H3.out,hb3⟩
 case round =>
  clear H3 hb3
  obtain ⟨i,X,hi1,hin,rfl,hX,hown,hbr⟩:=hrel
  have hi1' : (1 : Int)<=i:=by omega
  by_cases hlt : i<n
  ·have hlt' : (i : Int)<n:=by omega
   go_wp2_with fail
   go_loopw [5] (λjv wr2=>∃(j : Nat) (Y : Lz),j<=i/\jv = .int .i64 j/\Hid (Y.Perm Q/\ya Y i j)/\wr2.ownsRow w.heap.size 3 1 (.slice a3 n c3) n (Y.map (Value.int .i64))/\NS w wr2) (λjv _=>(intOf jv).toNat)
   case atStart=>exact ⟨i,X,IZ _,rfl,⟨hX.out.1,hX.out.2.start⟩,hown,hbr⟩
   case round =>
    clear hown hbr hX
    obtain ⟨j,Y,hji,rfl,hY,hown,hbr⟩:=hrel
    obtain ⟨hints,hmine⟩:=Ni hown
    have hpl:=hints.pl
    have HYl:=Z5 hints.len
    by_cases hj0 : j=0
    ·have d3 : decide (0<j)=false:=by simp;omega
     have Hd : Hid (Y.Perm Q/\wE Y (i+1)):=⟨hY.out.1,hY.out.2.done hji (.inl hj0)⟩
     clear hj0 hints hmine
     have hown2:=λm=>aX hown (Nq (NL (No wr) m))
     have hbr2:=λm=>Nh hbr (Nq (NL (No wr) m))
     have Hn:=Z5 (Jg hown2 hbr2)
     clear hown2 hbr2
     go_wp2_with fail
     go_quiet (fail)
     go_wp2
     go_roundw
     case rel=>exact ⟨i+1,Y,by omega,by omega,by go_num,Hd,Hn.out.1 _,Hn.out.2 _⟩
     case measure=>simp [intOf] <;> omega
    ·have d3 : decide (0<j)=true:=by simp;omega
     have d4 : (0 : Int)<=(j : Int) - 1:=by omega
     have d5 : (1 : Int)<=(j : Int):=by omega
     have d6 : (j : Int) - 1<n:=by omega
     have d7 : (j : Int)<n:=by omega
     have e1 : ((j : Int) - 1).toNat=j - 1:=by omega
     have kw : IntKind.i64.wrap ((j : Int) - 1)=(j : Int) - 1:=Jj _ (by omega)
     have cj:=hints.cell j (by omega)
     have cp:=hints.cell (j - 1) (by omega)
     have hown2:=λm=>aX hown (Nq (NL (No wr) m))
     have hbr2:=λm=>Nh hbr (Nq (NL (No wr) m))
     have Hn:=Z5 (Jg hown2 hbr2)
     clear hown2 hbr2
     by_cases h2 : nth Y j<nth Y (j - 1)
     ·have h2' : decide (nth Y j<nth Y (j - 1))=true:=by simpa using h2
      have hjY : j<Y.length:=by rw [HYl.out];omega
      have Hd : Hid ((swp Y j).Perm Q/\ya (swp Y j) i (j - 1)):=⟨(EC (by omega) hjY).trans hY.out.1,hY.out.2.step (by omega) hji hjY h2⟩
      clear hj0 hints hmine h2 hjY
      go_wp2_with fail
      go_quiet (fail)
      have hown2:=Hn.out.1 nq
      have hbr2:=Hn.out.2 nq
      clear Hn hown hbr cj cp h2'
      generalize wr.drewN nq=W2 at *
      obtain ⟨hints,hmine⟩:=Ni hown2
      have cj:=hints.cell j (by omega)
      have cp:=hints.cell (j - 1) (by omega)
      have fj:=(hmine (by omega)).2 j (by omega)
      have fp:=(hmine (by omega)).2 (j - 1) (by omega)
      have hB:=(hmine (by omega)).1
      have k3 : (W2.setCell ⟨aj a3,aL a3+j,none⟩ (.int .i64 (nth Y (j - 1)))).cell? ⟨aj a3,aL a3+(j - 1),none⟩=some (.int .i64 (nth Y (j - 1))):=by rw [Jw _ _ _ _ (by simp <;> omega)];exact cp
      have hown3:=bT (bT hown2 j (by omega) (.int .i64 (nth Y (j - 1)))) (j - 1) (by omega) (.int .i64 (nth Y j))
      rw [<- Jq,<- Jq] at hown3
      have hbr3:=(hbr2.setCell (p:=⟨aj a3,aL a3+j,none⟩) hB (.int .i64 (nth Y (j - 1)))).setCell (p:=⟨aj a3,aL a3+(j - 1),none⟩) hB (.int .i64 (nth Y j))
      have Hn:=Z5 (Jg hown3 hbr3)
      clear hown3 hbr3 hints hmine hown2 hbr2
      go_wp2_with fail
      go_region
      go_wp2_with fail
      go_roundw
      case rel=>exact ⟨j - 1,swp Y j,by omega,by go_num,Hd,aX Hn.out.1 (I1 _ _).drew,Nh Hn.out.2 (I1 _ _).drew⟩
      case measure=>simp [intOf] <;> omega
     ·have h2' : decide (nth Y j<nth Y (j - 1))=false:=by simpa using h2
      have Hd : Hid (Y.Perm Q/\wE Y (i+1)):=⟨hY.out.1,hY.out.2.done hji (.inr (by omega))⟩
      clear hj0 hints hmine h2
      go_wp2_with fail
      go_quiet (fail)
      go_wp2
      go_roundw
      case rel=>exact ⟨i+1,Y,by omega,by omega,by go_num,Hd,Hn.out.1 _,Hn.out.2 _⟩
      case measure=>simp [intOf] <;> omega
  ·have hXl:=(Ni hown).1.len
   have He : Hid (X=bA Q):=hX.out.2.sort (by omega) hX.out.1
   have hF:=Z5 (Jg hown hbr)
   clear hXl hown hbr
   go_wp2_with fail
   go_ret
   exact ⟨a3,c3,rfl,by rw [<- He.out];exact hF.out.1,hF.out.2⟩
theorem EV {m : Nat} {Q : Lz} (h : cF m Q=true) : pA m Q:=λj hj=>⟨(fC h hj).1,(fC h hj).2.1⟩
theorem Fk {P M : Int} {mod : Lz} {N : Int} {L : Ll} {Q : Lz} (h : dD P M mod N L Q=0) : aJ P M mod N L=0/\cF N Q=true:=by
 unfold dD at h;by_cases h1 : aJ P M mod N L=0
 ·refine ⟨h1,?_⟩;rw [I6 h1,lz] at h;by_cases h2 : cF N Q=true
  ·exact h2
  ·rw [I5 h2] at h;omega
 ·rw [I5 h1] at h;exact absurd h h1
theorem EB {P M : Int} {mod : Lz} {N : Int} {L : Ll} {Q : Lz} (h : dD P M mod N L Q=0) : yC P M mod N L Q=pG (ah P M.toNat mod).ops L Q:=by
 unfold yC pG;rw [h];by_cases h1 : (gD (ah P M.toNat mod).ops L Q).length=Q.length
 ·rw [h1];simp
 ·simp [h1]
theorem Ce (P M : Int) (am : OA) (mn cm : Nat) (mod : Lz) (m : Nat) (a : OA) (n c : Nat) (L : Ll) (ao : OA) (no co : Nat) (Q : Lz) (w : World) (hmod : Ints w am mn mod) (hi : ch w a n L) (hq : Ints w ao no Q)
  (hE : aJ P M mod m L=0) (hQ : pA m Q) (hno : no<=1000000) :
  Calls prog 111 #[.agg #[.int .i64 P,.int .i64 M,.slice am mn cm,.int .i64 m,.slice a n c],.slice ao no co] w λe w'=>e = .returned (.bool (pG (ah P M.toNat mod).ops L Q))/\NS w w':=by
 have HO : Hid (∀V,NS w V->Calls prog 172 #[.agg #[.int .i64 P,.int .i64 M,.slice am mn cm],.slice a n c,.slice ao no co] V λe w'=>e = .returned (.int .i64 (gD (ah P M.toNat mod).ops L Q).length)/\NS V w') :=
  λV hV=>oh P M am mn cm mod m a n c L ao no co Q V (hmod.aa hV) (hi.aa hV) (hq.aa hV) hE hQ hno
 have HB : Hid (pG (ah P M.toNat mod).ops L Q=(decide (no=n) && decide ((gD (ah P M.toNat mod).ops L Q).length=no))):=by show _=_;unfold pG;rw [hq.len,hi.len]
 obtain ⟨r,hr⟩ : ∃r,(gD (ah P M.toNat mod).ops L Q).length=r:=⟨_,rfl⟩
 obtain ⟨z,hz⟩ : ∃z,pG (ah P M.toNat mod).ops L Q=z:=⟨_,rfl⟩
 rw [hr] at HO HB;rw [hz] at HB ⊢;clear hr hz hmod hi hq hE hQ;go_enter func111,ntmps111;go_upto_region 1 with fail;obtain ⟨W,hW⟩ : ∃W : World,W=w.alloc (.cells #[.int .i64 P,.int .i64 M,.slice am mn cm,.int .i64 m,.slice a n c] 27):=⟨_,rfl⟩
 rw [<- hW];have hbW : NS w W:=by rw [hW];exact aw _ _
 have x0 : aZ W w.heap.size [.int .i64 P,.int .i64 M,.slice am mn cm,.int .i64 m,.slice a n c]:=by rw [hW];exact Nj _ _ _ rfl
 have hS : ∀V,NS W V->V.cell? ⟨w.heap.size,0,none⟩=some (.int .i64 P)/\V.cell? ⟨w.heap.size,1,none⟩=some (.int .i64 M)/\V.cell? ⟨w.heap.size,2,none⟩=some (.slice am mn cm)/\V.cell? ⟨w.heap.size,4,none⟩=some (.slice a n c)/\NS W V:=λV hV=>by have x1:=x0.aa hV;exact ⟨x1.cell 0 rfl,x1.cell 1 rfl,x1.cell 2 rfl,x1.cell 4 rfl,hV⟩
 have HS:=Z5 hS;have HbW:=Z5 hbW;clear hW x0 hS hbW;by_cases hl : no=n
 ·subst hl;have Hz : Hid (z=decide (r=no)):=by show _=_;rw [HB.out];simp
  have hrr : ((r : Int) == no)=decide (r=no):=by
   by_cases h : r=no
   ·simp [h]
   ·simp only [h,decide_false];simp;omega
  go_region_held3 (λV=>V.cell? ⟨w.heap.size,0,none⟩=some (.int .i64 P)/\V.cell? ⟨w.heap.size,1,none⟩=some (.int .i64 M)/\V.cell? ⟨w.heap.size,2,none⟩=some (.slice am mn cm)/\V.cell? ⟨w.heap.size,4,none⟩=some (.slice a no c)/\NS W V)
   ((refine HS.out _ ?_;first | exact (I1 _ _).drew | (go_split_ands;exact Nh (by assumption) (by assumption))))
   (first
    | (go_at_call 172;((with_reducible refine (HO.out _ (Nh HbW.out (by go_split_ands;assumption))).mono ?_);rintro e w6 ⟨rfl,hb6⟩)))
  all_goals (
   go_wp2_with fail
   go_ret
   exact ⟨bd (by rw [Hz.out]),Nh HbW.out (by go_split_ands;assumption)⟩)
 ·have hl1 : ((no : Int) == (n : Int))=false:=by simp;omega
  have Hz : Hid (z=false):=by show _=_;rw [HB.out,Jn hl];rfl
  obtain ⟨c0,c1,c2,c4,_⟩:=HS.out W (I1 _ _);clear hl;go_quiet (fail);go_wp2;go_ret;exact ⟨bd Hz.out.symm,below_drewN HbW.out _⟩
theorem xz (rk : Lz->Nat) (Q : Lz) (most : Nat) : ∀k,(gr rk Q most k).length<=k
 | 0=>IZ _
 | k+1=>by
  have ih:=xz rk Q most k;rw [gr];split
  ·rw [Jh];simp;omega
  ·omega
theorem rJ (rk : Lz->Nat) (Q : Lz) (most : Nat) : ∀k,k<=Q.length->∀x ∈ gr rk Q most k,x ∈ Q
 | 0,_,x,hx=>by simp [gr] at hx
 | k+1,hk,x,hx=>by
  rw [gr] at hx;split at hx
  ·rcases List.mem_append.1 hx with h | h
   ·exact rJ rk Q most k (by omega) x h
   ·rw [List.mem_singleton.1 h];exact aK (by omega)
  ·exact rJ rk Q most k (by omega) x hx
theorem AY {m : Nat} {Q : Lz} (h : pA m Q) {x : Int} (hx : x ∈ Q) : 0<=x/\x<m:=by obtain ⟨j,hj,rfl⟩:=List.mem_iff_getElem.1 hx;rw [<- ai hj];exact h j hj
theorem Ev {m : Nat} {Q : Lz} (h : ∀x ∈ Q,0<=x/\x<(m : Int)) : pA m Q:=λj hj=>h _ (aK hj)
theorem o5 (P M : Int) (am : OA) (mn cm : Nat) (mod : Lz) (m : Nat) (a : OA) (n c : Nat) (L : Ll) (ao : OA) (no co : Nat) (Q : Lz) (most : Nat) (w : World) (hmod : Ints w am mn mod) (hi : ch w a n L) (hq : Ints w ao no Q)
  (hE : aJ P M mod m L=0) (hQ : pA m Q) (hno : no<=1000) :
  Calls prog 104 #[.agg #[.int .i64 P,.int .i64 M,.slice am mn cm],.slice a n c,.slice ao no co,.int .i64 most] w λe w' =>
   ∃a1 c1,e = .returned (.slice a1 (gr (pN (ah P M.toNat mod).ops L) Q most no).length c1)/\w'.ownsRow w.heap.size 3 1 (.slice a1 (gr (pN (ah P M.toNat mod).ops L) Q most no).length c1) (gr (pN (ah P M.toNat mod).ops L) Q most no).length ((bA (gr (pN (ah P M.toNat mod).ops L) Q most no)).map (Value.int .i64))/\NS w w':=by
 have Hql:=Z5 hq.len;have hplo:=hq.pl;obtain ⟨rk,hrk⟩ : ∃rk,pN (ah P M.toNat mod).ops L=rk:=⟨_,rfl⟩
 have HO : Hid (∀V a5 c5 l,NS w V->V.ownsRow w.heap.size 3 1 (.slice a5 l.length c5) l.length (l.map (Value.int .i64))->l.length<=2000->pA m l ->
   Calls prog 172 #[.agg #[.int .i64 P,.int .i64 M,.slice am mn cm],.slice a n c,.slice a5 l.length c5] V λe w'=>e = .returned (.int .i64 (rk l))/\NS V w'):=λV a5 c5 l hV ho hl hil=>by have h:=oh P M am mn cm mod m a n c L a5 l.length c5 l V (hmod.aa hV) (hi.aa hV) (Ni ho).1 hE hil (by omega);rw [<- hrk];exact h
 rw [hrk];obtain ⟨G,hG⟩ : ∃G,gr rk Q most=G:=⟨_,rfl⟩
 have Hgm : Hid (∀k,k<=no->pA m (G k)/\(G k).length<=k):=λk hk=>by rw [<- hG];exact ⟨Ev λx hx=>AY hQ (rJ rk Q most k (by rw [Hql.out];exact hk) x hx),xz rk Q most k⟩
 have HG1 : Hid (∀k,(G k).length<most->rk (G k ++ [nth Q k])=(G k).length+1->G (k+1)=G k ++ [nth Q k]):=λk h1 h2=>by rw [<- hG] at h1 h2 ⊢;rw [gr,I6 ⟨h1,h2⟩]
 have HG2 : Hid (∀k,rk (G k ++ [nth Q k]) ≠ (G k).length+1->G (k+1)=G k):=λk h2=>by rw [<- hG] at h2 ⊢;rw [gr,I5 λh=>h2 h.2]
 have HG3 : Hid (∀k,k<=no->most<=(G k).length->G no=G k):=λk h1 h2=>by rw [<- hG] at h2 ⊢;exact sM h1 h2
 have HG0 : Hid (G 0=[]):=by rw [<- hG];rfl
 have HQ:=Z5 hQ;rw [hG];clear hG hrk hmod hi hE hQ;go_enter func104,ntmps104;go_wp2_with fail;obtain ⟨W,hW⟩ : ∃W : World,W=w.alloc (.cells #[.int .i64 P,.int .i64 M,.slice am mn cm] 24):=⟨_,rfl⟩
 rw [<- hW];have hbW : NS w W:=by rw [hW];exact aw _ _
 have x0 : aZ W w.heap.size [.int .i64 P,.int .i64 M,.slice am mn cm]:=by rw [hW];exact Nj _ _ _ rfl
 have hqW:=hq.aa hbW;have HS : Hid (∀V,NS W V->V.cell? ⟨w.heap.size,0,none⟩=some (.int .i64 P)/\V.cell? ⟨w.heap.size,1,none⟩=some (.int .i64 M)/\V.cell? ⟨w.heap.size,2,none⟩=some (.slice am mn cm)):=λV hV=>by have x1:=x0.aa hV;exact ⟨x1.cell 0 rfl,x1.cell 1 rfl,x1.cell 2 rfl⟩
 have HbW:=Z5 hbW;clear hW x0 hbW hq;go_loopw [9,10] (λov iv wr=>∃(k g : Nat) (a1 : OA) (c1 : Nat),k<=no/\Hid ((G k).length=g)/\iv = .int .i64 k/\ov = .slice a1 g c1/\wr.ownsRow W.heap.size 3 1 (.slice a1 g c1) g ((G k).map (Value.int .i64))/\NS W wr) (λ_ iv _=>no - (intOf iv).toNat);case atStart=>exact ⟨0,0,none,0,I7 _,by show _=_;rw [HG0.out];rfl,rfl,rfl,by rw [HG0.out];exact ⟨rfl,.inl ⟨rfl,rfl⟩⟩,I1 _ _⟩
 case round =>
  obtain ⟨k,g,a1,c1,hk,Hgl,rfl,rfl,hown,hbr⟩:=hrel
  by_cases hcond : k<no/\g<most
  ·obtain ⟨hlt,hgm⟩:=hcond
   have hgk : g<=1000:=by have h:=(Hgm.out k hk).2;rw [Hgl.out] at h;omega
   have hcx:=(hqW.aa hbr).cell k hlt
   obtain ⟨z,hz⟩ : ∃z,nth Q k=z:=⟨_,rfl⟩
   have hzm : 0<=z/\z<m:=by rw [<- hz];exact HQ.out k (by rw [Hql.out];exact hlt)
   have hg1:=HG1.out k
   have hg2:=HG2.out k
   rw [hz] at hcx hg1 hg2
   rw [Hgl.out] at hg1 hg2
   have hin:=(Hgm.out k hk).1
   have hinz : pA m (G k ++ [z]):=Ev λx hx=>by
    rcases List.mem_append.1 hx with h | h
    ·exact AY hin h
    ·rw [List.mem_singleton.1 h];exact hzm
   have hpl1:=(Ni hown).1.pl
   have hbwr:=Nh HbW.out hbr
   have HOf : Hid (∀V a5 c5,NS wr V->V.ownsRow wr.heap.size 3 1 (.slice a5 (g+1) c5) (g+1) ((G k).map (Value.int .i64) ++ [.int .i64 z]) ->
     Calls prog 172 #[.agg #[.int .i64 P,.int .i64 M,.slice am mn cm],.slice a n c,.slice a5 (g+1) c5] V λe w'=>e = .returned (.int .i64 (rk (G k ++ [z])))/\NS V w'):=λV a5 c5 hV ho=>by
    have hl : (G k ++ [z]).length=g+1:=by rw [Jh,Hgl.out];rfl
    have h1:=HO.out V a5 c5 (G k ++ [z]) (Nh hbwr hV) (by rw [hl];exact aU (by simpa using ho) (by have:=hbwr.size;omega)) (by omega) hinz;rw [hl] at h1;exact h1
   have HS2 : Hid (∀V,NS wr V->V.cell? ⟨w.heap.size,0,none⟩=some (.int .i64 P)/\V.cell? ⟨w.heap.size,1,none⟩=some (.int .i64 M)/\V.cell? ⟨w.heap.size,2,none⟩=some (.slice am mn cm)):=λV hV=>HS.out V (Nh hbr hV)
   have HS4 : Hid (∀V,NS wr V->V.cell? ⟨aj ao,aL ao+k,none⟩=some (.int .i64 z)/\Ints V a1 g (G k)/\NS wr V):=λV hV=>by refine ⟨?_,(Ni (aX hown hV)).1,hV⟩;have h:=((hqW.aa hbr).aa hV).cell k hlt;rwa [hz] at h
   have Hbr:=Z5 hbr
   have Hown:=Z5 hown
   have hGl:=Hgl.out
   have Hg1:=Z5 hg1
   have Hg2:=Z5 hg2
   obtain ⟨Gk,hGk⟩ : ∃Gk,G k=Gk:=⟨_,rfl⟩
   rw [hGk] at HOf HS4 Hown hGl Hg1 Hg2 hinz hin Hgl
   obtain ⟨r,hr⟩ : ∃r,rk (Gk ++ [z])=r:=⟨_,rfl⟩
   rw [hr] at HOf Hg1 Hg2
   have HGk:=Z5 hGk
   clear hr hz hcx hown hbr hg1 hg2 hin hinz hGk hbwr hzm
   go_wp2_with fail
   go_cut [11] (λv wx=>∃a5 c5,v = .slice a5 (g+1) c5/\wx.ownsRow wr.heap.size 3 1 (.slice a5 (g+1) c5) (g+1) (Gk.map (Value.int .i64) ++ [.int .i64 z])/\NS wr wx)
   case first =>
    have hO:=ff wr 3
    have hO2 : ((wr.alloc (.cells #[.int .i64 z] 3)).alloc (.cells #[] 3)).ownsRow wr.heap.size 3 1 (.slice (some ⟨wr.heap.size+1,0,none⟩) 0 0) 0 []:=by have h:=aU (ff (wr.alloc (.cells #[.int .i64 z] 3)) 3) (B':=wr.heap.size) (by simp);rwa [Lw] at h
    go_region_held3 (λV=>V.cell? ⟨aj ao,aL ao+k,none⟩=some (.int .i64 z)/\Ints V a1 g Gk/\NS wr V)
     ((refine HS4.out _ ?_;first | exact (I1 _ _).drew | exact hb5 | exact Nh hb5 hb6 | exact hb4 | exact Nl hb4 _ | exact ((I1 _ _).alloc (IZ _) _).drew | (go_split_ands;exact Nl (by assumption) _)))
     (first
      | (obtain ⟨_,hI9,hB9⟩:=(by assumption : _/\Ints _ a1 g Gk/\NS wr _);refine bH (by rfl) (.tmp 24) (.tmp 25) 22 3 (by rfl) (.int .i64 0) 8 underlying22 ba (by rfl) wr.heap.size _ 0 0 [] (by rfl) (by first | exact hO | exact hO.alloc _ | exact hO2) a1 g c1 (Gk.map (Value.int .i64)) (by rfl) hpl1 (by simp [hGl]) (Np hI9) (ints_oneCell _ _) (by omega) (by unfold maxLen;omega) (J7 hB9) ?_;intro a4 c4 w4 hown4 hgr4 hap4;have hb4 : NS wr w4:=Nk (B:=wr.heap.size) (e:=3) (xs:=[]) hB9 (by first | exact hO | exact hO.alloc _ | exact hO2) hgr4 (IZ _) (J7 hB9);rw [Kk] at hown4 ⊢;rw [JL] at hown4;(first | (have hc4:=bC (ad:=⟨wr.heap.size+1,0,none⟩) (v:=.int .i64 z) hgr4 (bM _ _ _ (by simp)) (.inr (by simp))) | (have hc4:=bC (ad:=⟨wr.heap.size,0,none⟩) (v:=.int .i64 z) hgr4 (aY (bM _ _ _ rfl) _) (.inr (by simp))) | skip))
      | (refine bH (by rfl) (.tmp 26) (.tmp 31) 22 3 (by rfl) (.int .i64 0) 8 underlying22 ba (by rfl) wr.heap.size a4 g c4 (Gk.map (Value.int .i64)) (by rfl) (by first | exact hown4 | exact hown4.alloc _) _ 1 1 [.int .i64 z] (by rfl) (λ_=>rfl) rfl (by intro j hj;obtain rfl : j=0:=(by omega);first | exact bM _ _ _ rfl | exact hc4) (by intro y hy;simp at hy;subst hy;rfl) (by omega) (by unfold maxLen;omega) (by first | exact hb4.size | exact (Nl hb4 _).size) ?_;intro a5 c5 w5 hown5 hgr5 hap5;have hb5 : NS wr w5:=(by first | exact Nk (Nl hb4 _) (hown4.alloc _) hgr5 (IZ _) (Nl hb4 _).size | exact Nk hb4 hown4 hgr5 (IZ _) hb4.size)))
    all_goals (go_wp2_with fail;go_meet;exact ⟨a5,c5,rfl,hown5,hb5⟩)
   obtain ⟨a5,c5,rfl,hown5,hb5⟩:=hcut
   generalize wc=V at *
   obtain ⟨q0,q1,q2⟩:=HS2.out V hb5
   have HOf2:=Z5 (HOf.out V a5 c5 hb5 hown5)
   have H5:=Z5 (Jg hown5 hb5)
   clear hown5 hb5 HOf
   go_wp2_with fail
   refine HOf2.out.mono ?_
   rintro e w6 ⟨rfl,hb6⟩
   clear q0 q1 q2 HOf2
   have hbw6:=Nh Hbr.out (Nh H5.out.2 hb6)
   by_cases hr : r=g+1
   ·have hrr : ((r : Int) == (g : Int)+1)=true:=by rw [hr];simp
    have HGn : Hid (G (k+1)=Gk ++ [z]):=Hg1.out hgm hr
    clear hr
    go_wp2_with fail
    go_roundw
    case rel=>exact ⟨k+1,g+1,a5,c5,by omega,by show _=_;rw [HGn.out,Jh,hGl];rfl,by go_num,rfl,by rw [HGn.out];exact aU (aX (by simpa using H5.out.1) hb6) (Hbr.out.size),hbw6⟩
    case measure=>simp [intOf] <;> omega
   ·have hrr : ((r : Int) == (g : Int)+1)=false:=by simp;omega
    have HGn : Hid (G (k+1)=Gk):=Hg2.out hr
    clear hr
    go_wp2_with fail
    go_roundw
    case rel=>exact ⟨k+1,g,a1,c1,by omega,by show _=_;rw [HGn.out];exact hGl,by go_num,rfl,by rw [HGn.out];exact aX Hown.out (Nh H5.out.2 hb6),hbw6⟩
    case measure=>simp [intOf] <;> omega
  ·have HGe : Hid (G no=G k):=by
    show _=_;by_cases hlt : k<no
    ·exact HG3.out k hk (by rw [Hgl.out];omega)
    ·obtain rfl : k=no:=by omega
     rfl
   have hgk : g<=1000:=by have h:=(Hgm.out k hk).2;rw [Hgl.out] at h;omega
   have hbwr:=Nh HbW.out hbr
   have Hso:=Z5 (j9 a1 g c1 (G k) wr (Ni hown).1 (by omega))
   have hsz:=hbwr.size
   have Hbr:=Z5 hbwr
   clear hown hbr hbwr
   by_cases hlt : k<no
   ·have hgm : ¬ g<most:=λh=>hcond ⟨hlt,h⟩
    clear hcond
    go_wp2_with fail
    refine Hso.out.mono ?_
    rintro e w7 ⟨a7,c7,rfl,hown7,hb7⟩
    have hF:=Nh Hbr.out hb7
    have hown8:=aU hown7 hsz
    clear hown7
    have HF:=Z5 (Jg hown8 hF)
    clear hown8 hF
    go_wp2_with fail
    go_ret
    rw [HGe.out,Hgl.out]
    exact ⟨a7,c7,rfl,HF.out.1,HF.out.2⟩
   ·obtain rfl : k=no:=by omega
    clear hcond
    go_wp2_with fail
    refine Hso.out.mono ?_
    rintro e w7 ⟨a7,c7,rfl,hown7,hb7⟩
    have hF:=Nh Hbr.out hb7
    have hown8:=aU hown7 hsz
    clear hown7
    have HF:=Z5 (Jg hown8 hF)
    clear hown8 hF
    go_wp2_with fail
    go_ret
    rw [Hgl.out]
    exact ⟨a7,c7,rfl,HF.out.1,HF.out.2⟩
def Ap (P M : Int) (am : OA) (mn cm : Nat) (mod : Lz) (N : Int) (a : OA) (n c : Nat) (L : Ll) (W : Int) (w : World) (e : Ending) (w' : World) : Prop :=
 NS w w'/\((aJ P M mod N L ≠ 0/\e = .returned (.tuple #[.pointer none,.int .i64 (aJ P M mod N L)])) \/
 (aJ P M mod N L=0/\∃(b : Nat) (w2 : World),e = .returned (.tuple #[.pointer (some ⟨w2.heap.size,0,none⟩),.int .i64 0])/\NS w w2/\dT w2 b (ah P M.toNat mod)/\NS w2 w' /\
  aZ w' w2.heap.size [.pointer (some ⟨b,0,none⟩),.int .i64 P,.int .i64 M,.slice am mn cm,.int .i64 N,.slice a n c,.slice none 0 0,.bool false,.int .i64 0,.int .i64 W,.slice none 0 0,.int .i64 0]))
theorem zW (P M : Int) (am : OA) (mn cm : Nat) (mod : Lz) (N : Int) (a : OA) (n c : Nat) (L : Ll) (W : Int) (w : World) (hmod : Ints w am mn mod) (hi : ch w a n L) :
  Calls prog 234 #[.agg #[.int .i64 P,.int .i64 M,.slice am mn cm,.int .i64 N,.slice a n c],.int .i64 W] w (Ap P M am mn cm mod N a n c L W w):=by
 go_enter func234,ntmps234;go_wp2_with fail;obtain ⟨U,hU⟩ : ∃U : World,U=w.alloc (.cells #[.int .i64 P,.int .i64 M,.slice am mn cm,.int .i64 N,.slice a n c] 27):=⟨_,rfl⟩
 rw [<- hU];have hbU : NS w U:=by rw [hU];exact aw _ _
 have x0 : aZ U w.heap.size [.int .i64 P,.int .i64 M,.slice am mn cm,.int .i64 N,.slice a n c]:=by rw [hU];exact Nj _ _ _ rfl
 have HX:=Z5 x0;clear hU x0;refine (fN P M am mn cm mod N a n c L U (hmod.aa hbU) (hi.aa hbU)).mono ?_;rintro e w1 ⟨rfl,hb1⟩;have hbw1:=Nh hbU hb1;by_cases hE : aJ P M mod N L=0
 ·obtain ⟨hf,_⟩:=bl hE;have HE:=Z5 hE;have Hf:=Z5 hf;rw [hE];have x1:=HX.out.aa hb1;have c0:=x1.cell 0 rfl;have c1:=x1.cell 1 rfl;have c2:=x1.cell 2 rfl;have hm1:=(hmod.aa hbU).aa hb1;clear hE x1 hf;go_wp2_with fail;refine (fG P M am mn cm mod w1 hm1).mono ?_;rintro e w2 (⟨hB,rfl,hb2⟩ | ⟨hB,b,rfl,hG,hbl,hb2⟩)
  ·rw [Hf.out] at hB;cases hB
  ·clear hB;have hg:=hG.gf;have x2:=(HX.out.aa hb1).aa hb2;have e0:=x2.cell 0 rfl;have e1:=x2.cell 1 rfl;have e2:=x2.cell 2 rfl;have e3:=x2.cell 3 rfl;have e4:=x2.cell 4 rfl;clear x2 c0 c1 c2;go_wp2_with fail;go_ret2;exact ⟨Nh (Nh hbw1 hb2) (aw _ _),.inr ⟨HE.out,b,w2,rfl,Nh hbw1 hb2,hg,aw _ _,Nj w2 [.pointer (some ⟨b,0,none⟩),.int .i64 P,.int .i64 M,.slice am mn cm,.int .i64 N,.slice a n c,.slice none 0 0,.bool false,.int .i64 0,.int .i64 W,.slice none 0 0,.int .i64 0] _ rfl⟩⟩
 ·have HE:=Z5 hE;have hE' : (aJ P M mod N L != 0)=true:=by simpa using hE
  clear hE;go_wp2_with fail;go_ret2;exact ⟨hbw1,.inl ⟨HE.out,rfl⟩⟩
def dB (P M : Int) (mod : Lz) (N : Int) (L : Ll) (mm W : Int) : Int :=
 if aJ P M mod N L=0 then (if mm<0\/(L.length : Int)<mm\/W<0\/N<W then 6 else 0) else aJ P M mod N L
def AF (P M : Int) (am : OA) (mn cm : Nat) (mod : Lz) (m : Nat) (a : OA) (n c : Nat) (L : Ll) (ay : OA) (ny cy : Nat) (C : jg) (w w' : World) (pb : Nat) : Prop :=
 ∃(b : Nat) (w2 : World),pb=w2.heap.size/\NS w w2/\Ab w2 b (ah P M.toNat mod) a n L m ay ny C/\NS w2 w'/\aZ w' pb (mz b P M am mn cm m a n c ay ny cy C (.slice none 0 0) 0)
def z7 (P M : Int) (am : OA) (mn cm : Nat) (mod : Lz) (N : Int) (a : OA) (n c : Nat) (L : Ll) (mm W : Int) (w : World) (e : Ending) (w' : World) : Prop :=
 NS w w'/\((dB P M mod N L mm W ≠ 0/\e = .returned (.tuple #[.pointer none,.int .i64 (dB P M mod N L mm W)])) \/
 (dB P M mod N L mm W=0/\∃pb,e = .returned (.tuple #[.pointer (some ⟨pb,0,none⟩),.int .i64 0])/\AF P M am mn cm mod N.toNat a n c L none 0 0 ⟨mm.toNat,W.toNat,false,[]⟩ w w' pb))
theorem pW (P M : Int) (am : OA) (mn cm : Nat) (mod : Lz) (N : Int) (a : OA) (n c : Nat) (L : Ll) (mm W : Int) (w : World) (hmod : Ints w am mn mod) (hi : ch w a n L) :
  Calls prog 184 #[.agg #[.int .i64 P,.int .i64 M,.slice am mn cm,.int .i64 N,.slice a n c],.int .i64 mm,.int .i64 W] w (z7 P M am mn cm mod N a n c L mm W w):=by
 have Hil:=Z5 hi.len;go_enter func184,ntmps184;go_wp2_with fail;obtain ⟨U,hU⟩ : ∃U : World,U=w.alloc (.cells #[.int .i64 P,.int .i64 M,.slice am mn cm,.int .i64 N,.slice a n c] 27):=⟨_,rfl⟩
 rw [<- hU];have hbU : NS w U:=by rw [hU];exact aw _ _
 have x0 : aZ U w.heap.size [.int .i64 P,.int .i64 M,.slice am mn cm,.int .i64 N,.slice a n c]:=by rw [hU];exact Nj _ _ _ rfl
 have HX:=Z5 x0;clear hU x0;refine (zW P M am mn cm mod N a n c L W U (hmod.aa hbU) (hi.aa hbU)).mono ?_;rintro e w1 ⟨hb1,⟨hE,rfl⟩ | ⟨hE,b,w2,rfl,hb2,hG,hb3,hB⟩⟩
 ·have HE : Hid (dB P M mod N L mm W=aJ P M mod N L):=I5 hE;have Hne:=Z5 hE;have hE1 : (aJ P M mod N L == 0)=false:=by simpa using hE
  have hE2 : (aJ P M mod N L != 0)=true:=by simpa using hE
  have hbF:=Nh hbU hb1;clear hE;go_wp2_with fail;go_ret2;exact ⟨hbF,.inl ⟨by rw [HE.out];exact Hne.out,by rw [HE.out];rfl⟩⟩
 ·have hbF:=Nh hbU hb1;have x1:=HX.out.aa hb1;have c3:=x1.cell 3 rfl;have c4:=x1.cell 4 rfl;have HE : Hid (dB P M mod N L mm W=if mm<0\/(n : Int)<mm\/W<0\/N<W then 6 else 0):=by show _=_;rw [dB,I6 hE,Hil.out]
  have Hrw:=Z5 (dP hE);have HB:=Z5 hB;have hf8:=hB.frozen 8;have h8:=hB.cell 8 rfl;clear x1 hB hE;by_cases h1 : mm<0
  ·have HE2 : Hid (dB P M mod N L mm W=6):=by show _=_;rw [HE.out,I6 (.inl h1)]
   have d1 : decide (mm<0)=true:=by simpa using h1
   clear h1;go_wp2_with fail;go_ret2;exact ⟨hbF,.inl ⟨by rw [HE2.out];decide,by rw [HE2.out];rfl⟩⟩
  have d1 : decide (mm<0)=false:=by simpa using h1
  by_cases h2 : (n : Int)<mm
  ·have HE2 : Hid (dB P M mod N L mm W=6):=by show _=_;rw [HE.out,I6 (.inr (.inl h2))]
   have d2 : decide ((n : Int)<mm)=true:=by simpa using h2
   clear h1 h2;go_wp2_with fail;go_ret2;exact ⟨hbF,.inl ⟨by rw [HE2.out];decide,by rw [HE2.out];rfl⟩⟩
  have d2 : decide ((n : Int)<mm)=false:=by simpa using h2
  by_cases h3 : W<0
  ·have HE2 : Hid (dB P M mod N L mm W=6):=by show _=_;rw [HE.out,I6 (.inr (.inr (.inl h3)))]
   have d3 : decide (W<0)=true:=by simpa using h3
   clear h1 h2 h3;go_wp2_with fail;go_ret2;exact ⟨hbF,.inl ⟨by rw [HE2.out];decide,by rw [HE2.out];rfl⟩⟩
  have d3 : decide (W<0)=false:=by simpa using h3
  by_cases h4 : N<W
  ·have HE2 : Hid (dB P M mod N L mm W=6):=by show _=_;rw [HE.out,I6 (.inr (.inr (.inr h4)))]
   have d4 : decide (N<W)=true:=by simpa using h4
   clear h1 h2 h3 h4;go_wp2_with fail;go_ret2;exact ⟨hbF,.inl ⟨by rw [HE2.out];decide,by rw [HE2.out];rfl⟩⟩
  have d4 : decide (N<W)=false:=by simpa using h4
  have HE2 : Hid (dB P M mod N L mm W=0):=by
   show _=_;rw [HE.out,I5];rintro (h | h | h | h)
   ·exact h1 h
   ·exact h2 h
   ·exact h3 h
   ·exact h4 h
  obtain ⟨m,hm,hm1,hm2,hLl,hRw⟩:=Hrw.out;have HCl : Hid (AF P M am mn cm mod N.toNat a n c L none 0 0 ⟨mm.toNat,W.toNat,false,[]⟩ w (w1.setCell ⟨w2.heap.size,8,none⟩ (.int .i64 mm)) w2.heap.size):=by
   have hn256 : n<=1000000:=by rw [<- Hil.out];omega
   have hPE : Ab w2 b (ah P M.toNat mod) a n L N.toNat none 0 ⟨mm.toNat,W.toNat,false,[]⟩ :=
    { g:=hG,l7:=(hi.aa hbU).aa hb2,rws:=by rw [hm,Jd];exact hRw,n6:=hn256,m6:=by omega,w6:=by show W.toNat<=64;omega,c0:=rfl }
   refine ⟨b,w2,rfl,Nh hbU hb2,hPE,hb3.setCell (by simp) _,?_⟩;have h5:=HB.out.setCell 8 (.int .i64 mm);rw [mz];dsimp only;rw [Kc (show 0<=N by omega),Kc (show 0<=mm by omega),Kc (show 0<=W by omega)];exact h5
  have hbF2:=hbF.setCell (p:=⟨w2.heap.size,8,none⟩) (Ji hbU.size hb2.size) (.int .i64 mm);clear h1 h2 h3 h4 hm hm1 hm2;go_wp2_with fail;go_ret2;exact ⟨hbF2,.inr ⟨HE2.out,w2.heap.size,rfl,HCl.out⟩⟩
theorem gB {n : Int} (h : -9223372036854775808<=n/\n<=9223372036854775807) : wrap64 n=n:=by unfold wrap64;omega
def jH (N d : Int) : Int:=if d<1\/N+1<d then -1 else d - 1
theorem nf (P M : Int) (am : OA) (mn cm : Nat) (N : Int) (a : OA) (n c : Nat) (d : Int) (w : World) :
  Calls prog 122 #[.agg #[.int .i64 P,.int .i64 M,.slice am mn cm,.int .i64 N,.slice a n c],.int .i64 d] w λe w'=>(∃z : Int,e = .returned (.int .i64 z)/\(1<=N->N<=64->z=jH N d))/\NS w w':=by
 have hb:=aw w (.cells #[.int .i64 P,.int .i64 M,.slice am mn cm,.int .i64 N,.slice a n c] 27);go_enter func122,ntmps122;by_cases h1 : d<1
 ·have d1 : decide (d<1)=true:=by simpa using h1
  have Hz : Hid (1<=N->N<=64->(-1 : Int)=jH N d):=λ_ _=>by rw [jH,I6 (.inl h1)]
  clear h1;go_wp2_with fail;go_ret;exact ⟨⟨-1,rfl,Hz.out⟩,hb⟩
 have d1 : decide (d<1)=false:=by simpa using h1
 by_cases h2 : wrap64 (N+1)<d
 ·have d2 : decide (wrap64 (N+1)<d)=true:=by simpa using h2
  have Hz : Hid (1<=N->N<=64->(-1 : Int)=jH N d):=λh3 h4=>by rw [show wrap64 (N+1)=N+1 from gB (by omega)] at h2;rw [jH,I6 (.inr h2)]
  clear h1 h2;go_wp2_with fail;go_ret;exact ⟨⟨-1,rfl,Hz.out⟩,hb⟩
 have d2 : decide (wrap64 (N+1)<d)=false:=by simpa using h2
 have Hz : Hid (1<=N->N<=64->wrap64 (d - 1)=jH N d):=λh3 h4=>by rw [show wrap64 (N+1)=N+1 from gB (by omega)] at h2;rw [jH,I5 (by omega)];exact gB (by omega)
 clear h1 h2;go_wp2_with fail;go_ret;exact ⟨⟨_,rfl,Hz.out⟩,hb⟩
def kH (l : Lz) (v : Int) (k : Nat) : Bool:=decide (v ∈ l.take k)
theorem nX {l : Lz} {k : Nat} (v : Int) (h : k<l.length) : kH l v (k+1)=(kH l v k || decide (nth l k=v)):=by unfold kH;rw [Ja h,ai h];simp only [JM,JN,Bool.decide_or];congr 1;simp [eq_comm]
theorem rp {l : Lz} {n : Nat} (v : Int) (h : l.length=n) : kH l v n=decide (v ∈ l):=by unfold kH;rw [I8 (by omega)]
theorem tJ (a : OA) (n c : Nat) (l : Lz) (v : Int) (w : World) (h : Ints w a n l) :
  Calls prog 106 #[.slice a n c,.int .i64 v] w λe w'=>e = .returned (.bool (decide (v ∈ l)))/\w'=w:=by
 have Hl:=Z5 h.len;have hpl:=h.pl;have hmax:=h.max;unfold maxLen at hmax;go_enter func106,ntmps106;go_wp2_with fail;go_loopw [5] (λiv wr=>∃k : Nat,k<=n/\iv = .int .i64 k/\Hid (kH l v k=false)/\wr=w) (λi _=>n - (intOf i).toNat);case atStart=>exact ⟨0,I7 _,rfl,by show _=_;simp [kH],rfl⟩
 case round =>
  obtain ⟨k,hk,rfl,hno,rfl⟩:=hrel
  by_cases hlt : k<n
  ·have c1:=h.cell k hlt
   have Hs:=Z5 (nX (l:=l) v (show k<l.length by rw [Hl.out];exact hlt))
   by_cases he : nth l k=v
   ·have he' : (nth l k == v)=true:=by rw [he];simp
    have Hm : Hid (decide (v ∈ l)=true):=by show _=_;rw [<- he];simpa using aK (show k<l.length by rw [Hl.out];exact hlt)
    clear he
    go_wp2_with fail
    go_ret
    exact ⟨bd Hm.out.symm,rfl⟩
   ·have he' : (nth l k == v)=false:=by simpa using he
    have Hn2 : Hid (kH l v (k+1)=false):=by show _=_;rw [Hs.out,hno.out,Jn he];rfl
    clear he
    go_wp2_with fail
    go_roundw
    case rel=>exact ⟨k+1,by omega,by go_num,Hn2.out,by simp⟩
    case measure=>simp [intOf] <;> omega
  ·obtain rfl : k=n:=by omega
   have Hm : Hid (decide (v ∈ l)=false):=by show _=_;rw [<- rp v Hl.out];exact hno.out
   go_wp2_with fail
   go_ret
   exact ⟨bd Hm.out.symm,rfl⟩
theorem mf (a : OA) (n c : Nat) (l : Lz) (m : Nat) (w : World) (h : Ints w a n l) (hm : m<=1000) :
  Calls prog 103 #[.slice a n c,.int .i64 m] w λe w'=>∃a1 c1,e = .returned (.slice a1 (bz false l m).length c1) /\
   w'.ownsRow w.heap.size 3 1 (.slice a1 (bz false l m).length c1) (bz false l m).length ((bz false l m).map (Value.int .i64))/\NS w w':=by
 have Hl:=Z5 h.len;have hpl:=h.pl;have hmax:=h.max;unfold maxLen at hmax;obtain ⟨G,hG⟩ : ∃G,bz false l=G:=⟨_,rfl⟩
 have HG1 : Hid (∀k : Nat,decide ((k : Int) ∈ l)=false->G (k+1)=G k ++ [(k : Int)]):=λk h=>by rw [<- hG,bz,I6 h]
 have HG2 : Hid (∀k : Nat,decide ((k : Int) ∈ l)=true->G (k+1)=G k):=λk h=>by rw [<- hG,bz,I5 (by rw [h];decide)]
 have HGl : Hid (∀k,(G k).length<=k):=λk=>by rw [<- hG];exact gk _ _ _
 have HG0 : Hid (G 0=[]):=by rw [<- hG];rfl
 rw [hG];clear hG;go_enter func103,ntmps103;go_wp2_with fail;go_loopw [5,6] (λov iv wr=>∃(i g : Nat) (a1 : OA) (c1 : Nat),i<=m/\iv = .int .i64 i/\Hid ((G i).length=g)/\ov = .slice a1 g c1/\wr.ownsRow w.heap.size 3 1 (.slice a1 g c1) g ((G i).map (Value.int .i64))/\NS w wr) (λ_ iv _=>m - (intOf iv).toNat);case atStart=>exact ⟨0,0,none,0,I7 _,rfl,by show _=_;rw [HG0.out];rfl,rfl,by rw [HG0.out];exact bX,I1 _ _⟩
 case round =>
  obtain ⟨i,g,a1,c1,hi,rfl,Hg,rfl,hown,hbr⟩:=hrel
  by_cases hlt : i<m
  ·have hiW:=h.aa hbr
   have hgi : g<=1000:=by have h1:=HGl.out i;rw [Hg.out] at h1;omega
   generalize wr=X1 at *
   go_wp2_with fail
   go_loopw [7,8] (λbv kv ws=>∃k : Nat,k<=n/\kv = .int .i64 k/\bv = .bool (kH l i k)/\ws=X1) (λ_ kv _=>n - (intOf kv).toNat)
   case atStart=>exact ⟨0,I7 _,rfl,by simp [kH],rfl⟩
   case round =>
    obtain ⟨k,hk,rfl,rfl,rfl⟩:=hrel
    by_cases hltk : k<n
    ·have ck:=hiW.cell k hltk
     have Hs:=Z5 (nX (l:=l) (i : Int) (show k<l.length by rw [Hl.out];exact hltk))
     obtain ⟨b,hb⟩ : ∃b,kH l i k=b:=⟨_,rfl⟩
     rw [hb] at Hs ⊢
     clear hb
     cases b
     ·by_cases he : nth l k=i
      ·have he' : (nth l k == (i : Int))=true:=by rw [he];simp
       have Hn : Hid (kH l i (k+1)=true):=by show _=_;rw [Hs.out,Jm he];rfl
       clear he
       go_wp2_with fail
       go_roundw
       case rel=>exact ⟨k+1,by omega,by go_num,by rw [Hn.out],by simp⟩
       case measure=>simp [intOf] <;> omega
      ·have he' : (nth l k == (i : Int))=false:=by simpa using he
       have Hn : Hid (kH l i (k+1)=false):=by show _=_;rw [Hs.out,Jn he];rfl
       clear he
       go_wp2_with fail
       go_roundw
       case rel=>exact ⟨k+1,by omega,by go_num,by rw [Hn.out],by simp⟩
       case measure=>simp [intOf] <;> omega
     ·have Hn : Hid (kH l i (k+1)=true):=by show _=_;rw [Hs.out];rfl
      go_wp2_with fail
      go_roundw
      case rel=>exact ⟨k+1,by omega,by go_num,by rw [Hn.out],by simp⟩
      case measure=>simp [intOf] <;> omega
    ·obtain rfl : k=n:=by omega
     rw [rp (i : Int) Hl.out]
     have hH1:=HG1.out i
     have hH2:=HG2.out i
     obtain ⟨b,hb⟩ : ∃b,decide ((i : Int) ∈ l)=b:=⟨_,rfl⟩
     rw [hb] at hH1 hH2 ⊢
     clear hb
     cases b
     ·have Hn:=Z5 (hH1 rfl)
      clear hH1 hH2
      have hsz:=hbr.size
      have hcn:=bk wr (.int .i64 i) 3
      have hbn:=aw wr (.cells #[.int .i64 i] 3)
      go_wp2_with (at_builtin;refine bg rfl _ _ 22 3 rfl (.int .i64 0) 8 underlying22 ba rfl w.heap.size a1 g c1 _ rfl (hown.alloc _) ⟨wr.heap.size,0,none⟩ 1 (.int .i64 i) rfl hcn rfl (by omega) (by unfold maxLen;omega) (by simp;omega) ?_;intro a5 c5 w5 hown5 hgr5 hap5)
      go_roundw
      case rel =>
       refine ⟨i+1,g+1,a5,c5,by omega,by go_num,by show _=_;rw [Hn.out,Jh,Hg.out];rfl,rfl,by rw [Hn.out];simpa using hown5,Nk (Nl hbr _) (hown.alloc _) hgr5 (IZ _) (Nl hbr _).size⟩
      case measure=>simp [intOf] <;> omega
     ·have Hn:=Z5 (hH2 rfl)
      clear hH1 hH2
      go_wp2_with fail
      go_roundw
      case rel=>exact ⟨i+1,g,a1,c1,by omega,by go_num,by show _=_;rw [Hn.out];exact Hg.out,rfl,by rw [Hn.out];exact hown,hbr⟩
      case measure=>simp [intOf] <;> omega
  ·obtain rfl : i=m:=by omega
   have HF:=Z5 (Jg hown hbr)
   clear hown hbr
   go_wp2_with fail
   go_ret
   rw [Hg.out]
   exact ⟨a1,c1,rfl,HF.out.1,HF.out.2⟩
theorem xD (k : Nat) (w : World) (hk1000 : k<=1000) :
  Calls prog 227 #[.int .i64 k] w λe w'=>∃a1 c1 R,e = .returned (.slice a1 k c1)/\aP w' w.heap.size a1 k c1 R (dH k)/\NS w w':=by
 go_enter func227,ntmps227;go_wp2_with fail;go_loopw [3,4] (λov iv wr=>∃(i : Nat) (a1 : OA) (c1 : Nat),i<=k/\iv = .int .i64 i/\ov = .slice a1 i c1/\(∃R,aP wr w.heap.size a1 i c1 R ((dH k).take i))/\NS w wr) (λ_ iv _=>k - (intOf iv).toNat);case atStart=>exact ⟨0,none,0,I7 _,rfl,rfl,⟨[],by simpa using NB w w.heap.size⟩,I1 _ _⟩
 case round =>
  obtain ⟨i,a1,c1,hi,rfl,rfl,⟨R,hO⟩,hbr⟩:=hrel
  by_cases hlt : i<k
  ·have Htk : Hid ((dH k).take (i+1)=(dH k).take i ++ [ez k i]):=by show _=_;rw [Ja (by rw [bV];exact hlt),<- aE (by rw [bV];exact hlt),gJ hlt]
   have hsz:=hbr.size
   have hlt2 : (i : Int)<k:=by omega
   go_upto_region 7 with (at_make;refine cC rfl _ _ 22 3 rfl (.int .i64 0) 8 underlying22 ba rfl k rfl rfl (by omega) (by unfold maxLen;omega) ?_;intro a5 w5 hown5 hbel5 hge5 hlt5;have hown6 : w5.ownsRow wr.heap.size 3 1 (.slice a5 k k) k ((List.replicate k (0 : Int)).map (Value.int .i64)):=(by rw [Lb];exact hown5);obtain ⟨hints,hmine⟩:=Ni hown6;have hpl5:=hints.pl;have cz:=hints.cell i hlt;have fz:=(hmine (by omega)).2 i hlt;have hBz:=(hmine (by omega)).1)
   have hown7:=bT hown6 i hlt (.int .i64 1)
   rw [<- Jq] at hown7
   have hbY:=hbel5.setCell (p:=⟨aj a5,aL a5+i,none⟩) hBz (.int .i64 1)
   obtain ⟨Y,hY⟩ : ∃Y,w5.setCell ⟨aj a5,aL a5+i,none⟩ (.int .i64 1)=Y:=⟨_,rfl⟩
   rw [hY] at hown7 hbY ⊢
   have hown8 : Y.ownsRow wr.heap.size 3 1 (.slice a5 (ez k i).length k) (ez k i).length ((ez k i).map (Value.int .i64)):=by rw [fF];exact hown7
   have hul:=fF k i
   clear hY hown5 hown6 hints hmine cz fz hBz hown7 hbel5 hge5 hlt5 hpl5
   have hO3:=hO.aa (Nh hbY (aw Y (.cells #[.slice a5 k k] 22)))
   have hs3 : w.heap.size<=(Y.alloc (.cells #[.slice a5 k k] 22)).heap.size:=by have h1:=hbY.size;simp;omega
   go_wp2_with (at_builtin;refine bg rfl _ _ 25 22 rfl (.slice none 0 0) 24 underlying25 di rfl w.heap.size a1 i c1 _ rfl hO3.own ⟨Y.heap.size,0,none⟩ 1 (.slice a5 k k) rfl (bk Y _ _) rfl (by omega) (by unfold maxLen;omega) hs3 ?_;intro a6 c6 w6 hown6 hgr6 hap6)
   go_roundw
   case rel =>
    have hb4 : NS wr (Y.alloc (.cells #[.slice a5 k k] 22)):=Nh hbY (aw _ _)
    have hown4 : (Y.alloc (.cells #[.slice a5 k k] 22)).ownsRow w.heap.size 3 1 (.slice a5 (ez k i).length k) (ez k i).length ((ez k i).map (Value.int .i64)) :=
     aU (aX hown8 (aw _ _)) hsz
    have hra : a5 ≠ none->¬ bS a1 R (aj a5):=λh0 hI=>by have h1:=(aM hown8 h0).1;have h2:=(hO.lt _ hI).2;omega
    have hP:=Ny hO3 hown4 hra (by rw [hul];exact hown6) hgr6 hap6
    have hb5 : NS w w6:=Nk (Nh hbr hb4) hO3.own hgr6 (IZ _) (Ji hsz hb4.size)
    exact ⟨i+1,a6,c6,by omega,by go_num,rfl,⟨_,by rw [Htk.out];exact hP⟩,hb5⟩
   case measure=>simp [intOf] <;> omega
  ·obtain rfl : i=k:=by omega
   rw [I8 (by rw [bV];exact IZ _)] at hO
   have HO:=Z5 hO
   clear hO
   go_wp2_with fail
   go_ret
   exact ⟨a1,c1,R,rfl,HO.out,hbr⟩
section
variable {O : aS} {El : Int->Prop} {m : Nat} {L : Ll}
theorem Fl (F : dw O El) (hL : cw El m L) {Q : Lz} {x : Int} (h : ¬ oV O El L.length (bs L) (gA Q) x.toNat) : pN O L (Q ++ [x])=pN O L Q+1:=by have h1:=kL F hL (Q ++ [x]);rw [u9] at h1;exact h1.uniq (Rk.ind _ h (kL F hL Q))
theorem jo {Q : Lz} : pG O L Q=true ↔ Q.length=L.length/\pN O L Q=Q.length:=by unfold pG pN;simp
theorem Dw (F : dw O El) (hL : cw El m L) (hfull : Rk (oV O El L.length (bs L)) (List.range m) L.length) {Q : Lz} (hQ : pA m Q) (hall : ∀x,x<m->(x : Int) ∈ Q) : pG O L (gD O L Q)=true:=by
 have h1 : (gD O L Q).length=L.length:=by
  refine (kL F hL Q).same (iL F hL) hfull λx=>?_;rw [rG,Lm];constructor
  ·rintro ⟨y,hy,rfl⟩;obtain ⟨j,hj,rfl⟩:=List.mem_iff_getElem.1 hy;have:=hQ j hj;rw [ai hj] at this;omega
  ·intro hx;exact ⟨x,hall x hx,by simp⟩
 have h2:=(uP F hL Q Q.length).1;exact jo.2 ⟨h1,(kL F hL (gD O L Q)).uniq h2⟩
end
theorem tj {P M : Int} {mod : Lz} {m : Nat} {L : Ll} (hE : aJ P M mod m L=0) : Rk (oV (ah P M.toNat mod).ops (ah P M.toNat mod).El L.length (bs L)) (List.range m) L.length:=by
 obtain ⟨N',e,hm1,hm64,F,hR⟩:=br hE;obtain rfl : m=N':=by omega
 have h6:=(dR (bl hE).2.2.2).2;rw [Jd] at h6;have hcan : iE (ah P M.toNat mod).ops m L=L:=h6;have h:=FI F hR;rwa [hcan] at h
theorem CP {O : aS} {L : Ll} {Q : Lz} (h : Q.Nodup) : (gD O L Q).Nodup:=by
 have key : ∀k,k<=Q.length->(bU O L Q k).2.Nodup/\∀x ∈ (bU O L Q k).2,x ∈ Q.take k:=λk=>by
  induction k with
  | zero=>intro _;exact ⟨by simp [bU],λx hx=>by simp [bU] at hx⟩
  | succ k ih =>
   intro hk
   obtain ⟨h1,h2⟩:=ih (by omega)
   have e : Q.take (k+1)=Q.take k ++ [nth Q k]:=by rw [Ja (by omega),ai (by omega)]
   rw [bU]
   split
   ·have hn : ¬ nth Q k ∈ Q.take k:=by have h3 : (Q.take (k+1)).Nodup:=(KS _ _).nodup h;rw [e,J2] at h3;intro hm;exact h3.2.2 _ hm _ (by simp) rfl
    refine ⟨?_,λx hx=>?_⟩
    ·rw [J2]
     exact ⟨h1,by simp,λx hx y hy=>by rw [JN] at hy;subst hy;exact λe=>hn (e ▸ h2 _ hx)⟩
    ·rw [e,JM]
     rcases List.mem_append.1 hx with hx | hx
     ·exact .inl (h2 x hx)
     ·exact .inr hx
   ·exact ⟨h1,λx hx=>by rw [e,JM];exact .inl (h2 x hx)⟩
 exact (key _ (IZ _)).1
def pd (m : Nat) (Q : Lz) : Prop:=Q.Perm ((List.range m).map Int.ofNat)
theorem pd.mem {m : Nat} {Q : Lz} (h : pd m Q) {x : Int} : x ∈ Q ↔ ∃j : Nat,j<m/\x=j:=by
 rw [h.mem_iff,Lj];constructor
 ·rintro ⟨j,hj,rfl⟩;exact ⟨j,List.mem_range.1 hj,rfl⟩
 ·rintro ⟨j,hj,rfl⟩;exact ⟨j,List.mem_range.2 hj,rfl⟩
theorem pd.nodup {m : Nat} {Q : Lz} (h : pd m Q) : Q.Nodup:=by refine h.nodup_iff.2 ?_;rw [LV,MP];exact List.nodup_range.imp λh e=>h (Int.ofNat.inj e)
theorem pd.IT {m : Nat} {Q : Lz} (h : pd m Q) : pA m Q:=λj hj=>by obtain ⟨i,hi,e⟩:=h.mem.1 (aK hj);omega
section
variable {P M : Int} {mod : Lz} {m : Nat} {L : Ll}
theorem Dn (hE : aJ P M mod m L=0) {Q : Lz} (hQ : pd m Q) :
  cF m (bA (gD (ah P M.toNat mod).ops L Q))=true/\pG (ah P M.toNat mod).ops L (bA (gD (ah P M.toNat mod).ops L Q))=true:=by
 obtain ⟨N',e,hm1,hm64,F,hR⟩:=br hE;obtain rfl : m=N':=by omega
 refine ⟨Ae (CP hQ.nodup) λx hx=>?_,?_⟩
 ·obtain ⟨j,hj,rfl⟩:=hQ.mem.1 (kJ _ L Q _ (IZ _) x hx);omega
 ·rw [Eg F hR (dc _)];exact Dw F hR (tj hE) hQ.IT λx hx=>hQ.mem.2 ⟨x,hx,rfl⟩
end
section
open Go.RowKit Go.Shelf
structure WX where
 a : OA
 c : Nat
 l : Lz
structure IX (V : World) (b : Nat) (G : cW) (Bc Bat By Bg Bf l : Nat) (ag : OA) (k cg : Nat) (L : Ll) : Prop where
 gen : V.cell? ⟨Bc,4,none⟩=some (.slice ag k cg)
 l7 : ch V ag k L
 yl : V.cell? ⟨By,0,none⟩=some (.func (.yield l) #[] #[])
 gp : V.cell? ⟨Bg,0,none⟩=some (.pointer (some ⟨b,0,none⟩))
 gf : dT V b G
 fr : V.cell? ⟨Bf,0,none⟩=some (.func (.func 151) #[] #[.pointer (some ⟨Bc,0,none⟩),.pointer (some ⟨Bat,0,none⟩),.pointer (some ⟨By,0,none⟩),.pointer (some ⟨Bg,0,none⟩),.pointer (some ⟨Bf,0,none⟩)])
 lt : Bat<V.heap.size
attribute [local go_sem] M9
theorem aA.wide {w w' : World} {M I : Nat->Prop} (h : aA w w' M M) (hMI : ∀x,M x->I x) : aA w w' I I :=
 ⟨h.os,h.tape,h.output,h.size,λb hb hI=>h.block b hb λhm=>hI (hMI _ hm),λ_ h=>.inl h⟩
end
theorem yO {w : World} {b : Nat} {G : cW} (h : dT w b G) :
  Calls prog 149 #[.pointer (some ⟨b,0,none⟩)] w λe w'=>e = .returned (.int .i64 (G.q : Nat))/\w=w':=by have hc:=h.cq;go_enter func149,ntmps149;go_wp2;go_ret;exact ⟨rfl,rfl⟩
theorem lY (L : Ll) {r : Nat} (h : r<L.length) : L.drop r=an L r :: L.drop (r+1):=by rw [aE h];exact Jt h
theorem aP.F0 {B : Nat} {w : World} {a : OA} {n c : Nat} {R : La} {L : Ll} (h : aP w B a n c R L) : cH B w a n L :=
 ⟨h.ll,h.pl,h.max,λhn=>(aM h.own (h.ne hn)).1,λi hi=>⟨_,_,_,h.cell hi,h.ints hi,λhm=>by refine (aM (h.row i hi) λe=>?_).1;have:=(h.ints hi).pl hm;rw [e] at this;cases this⟩⟩
theorem GK {P M : Int} {mod : Lz} {m : Nat} {L : Ll} {Q : Lz} (hE : aJ P M mod m L=0) (hQ : Q.length<=m) : gr (pN (ah P M.toNat mod).ops L) Q m Q.length=gD (ah P M.toNat mod).ops L Q:=by obtain ⟨N',em,hm1,hm64,F,hR⟩:=br hE;exact Gc F hR Q (λk hk=>by have:=rT (ah P M.toNat mod).ops L Q k;omega) _ (IZ _)
end Go.Proofs.YtcfmiocdlcapoaaGreat
