import Derived.Test.YtcfmiocdlcapoaaGreatK21
import Derived.Test.YtcfmiocdlcapoaaGreatK19
import Derived.Test.YtcfmiocdlcapoaaGreatK6
import Derived.Test.YtcfmiocdlcapoaaGreatK7
import Derived.Test.YtcfmiocdlcapoaaGreatK4
import Derived.Test.YtcfmiocdlcapoaaGreatK8
import Derived.Test.YtcfmiocdlcapoaaGreatK10
import Derived.Test.YtcfmiocdlcapoaaGreatK12
import Derived.Test.YtcfmiocdlcapoaaGreatK18
import Derived.Test.YtcfmiocdlcapoaaGreatK23
import Derived.Test.YtcfmiocdlcapoaaGreatK22
import Derived.Test.YtcfmiocdlcapoaaGreatK17
namespace Go.Proofs.YtcfmiocdlcapoaaGreat
set_option linter.unusedVariables false
set_option linter.unusedSimpArgs false
set_option linter.unusedSectionVars false
set_option maxRecDepth 100000
set_option maxHeartbeats 8000000
open Go.RowKit
def nS (O : aQ) (m : Nat) (A B : Ll) : Ll:=A.map λr=>bj O m r B B.length
theorem Ct (P M : Int) (am : OA) (mn cm : Nat) (mod : Lz) (k : Nat) (a : OA) (n c : Nat) (A : Ll) (m : Nat) (ab : OA) (cb : Nat) (B : Ll) (w : World) (hmod : Ints w am mn mod) (hi : bZ w a n A) (hb : bZ w ab k B)
  (hfB : bA P M mod=true) (hA : bH (aa P M.toNat mod).El k A) (hBr : bH (aa P M.toNat mod).El m B) (hk : k<=64) (hm1 : 1<=m) (hm : m<=64) (hn : n<=64) :
  Calls Tryz.prog 157 #[.agg #[.int .i64 P,.int .i64 M,.slice am mn cm],.agg #[.int .i64 k,.slice a n c],.agg #[.int .i64 m,.slice ab k cb]] w
   λe w'=>∃a1 c1,e = .returned (.tuple #[.agg #[.int .i64 m,.slice a1 n c1],.int .i64 0])/\bN w.heap.size w' a1 n (nS (aa P M.toNat mod).ops m A B)/\Below w.heap.size w w':=by
 have hAl:=hi.len
 have hBl:=hb.len
 have F:=eX hfB
 have hmE1 : ew (aa P M.toNat mod).q k A=0:=(eg (ld hfB (show k<=256 by omega) (show A.length<=256 by omega) hA)).2
 have hmE2 : ew (aa P M.toNat mod).q m B=0:=(eg (ld hfB (show m<=256 by omega) (show B.length<=256 by omega) hBr)).2
 have hpla:=hi.pl
 obtain ⟨G,hGG⟩ : ∃G,aa P M.toNat mod=G:=⟨_,rfl⟩
 rw [hGG] at hA hBr F hmE1 hmE2 ⊢
 obtain ⟨L2,hL2⟩ : ∃L2,nS G.ops m A B=L2:=⟨_,rfl⟩
 have HL2l : Hid (L2.length=n):=by show _=_;rw [<- hL2,nS,List.length_map];exact hAl
 have HLk : Hid (∀j,j<n->L2.take (j+1)=L2.take j ++ [bj G.ops m (aj A j) B k]):=λj hj=>by
  have hj' : j<L2.length:=by rw [HL2l.out];exact hj
  rw [List.take_succ_eq_append_getElem hj',<- aE hj',<- hL2,nS,ql _ A (by omega),hBl]
 rw [hL2]
 have HAr : Hid (∀j,j<n->(aj A j).length=k/\∀x ∈ aj A j,G.El x):=λj hj=>hA.row (by omega)
 have HBr:=Z5 hBr
 have HFl:=Z5 F
 have HBl:=Z5 hBl
 have HB:=Z5 hfB
 have HmE:=Z5 (And.intro hmE1 hmE2)
 have HGG:=Z5 hGG
 clear hA hBr F hAl hBl hfB hmE1 hmE2 hGG hL2
 go_enter Tryz.func157,Tryz.ntmps157
 go_wp2_with fail
 obtain ⟨W,hW⟩ : ∃W : World,W=(((((w.alloc (.cells #[.int .i64 P,.int .i64 M,.slice am mn cm] 24)).alloc (.cells #[.int .i64 k,.slice a n c] 82)).alloc (.cells #[.int .i64 m,.slice ab k cb] 82)).alloc (.cells #[.int .i64 0,.slice none 0 0] 82)).alloc (.cells #[.int .i64 k,.slice a n c,.int .i64 m,.slice ab k cb] 82)):=⟨_,rfl⟩
 rw [<- hW]
 have hbW : Below w.heap.size w W:=by rw [hW];exact (((((Below.refl _ _).alloc (Nat.le_refl _) _).alloc (by simp) _).alloc (by simp;omega) _).alloc (by simp;omega) _).alloc (by simp;omega) _
 have hsW : W.heap.size=w.heap.size+5:=by rw [hW];simp
 have x1 : aV W (w.heap.size+1) [.int .i64 k,.slice a n c]:=by rw [hW];exact (((aV.new _ _ _ (by simp)).alloc _).alloc _).alloc _
 have x2 : aV W (w.heap.size+1+1) [.int .i64 m,.slice ab k cb]:=by rw [hW];exact ((aV.new _ _ _ (by simp)).alloc _).alloc _
 have x3 : aV W (w.heap.size+1+1+1) [.int .i64 0,.slice none 0 0]:=by rw [hW];exact (aV.new _ _ _ (by simp)).alloc _
 have q3 : ∀i v,[Value.int .i64 k,.slice a n c,.int .i64 m,.slice ab k cb][i]? = some v->W.cell? ⟨w.heap.size+1+1+1+1,i,none⟩=some v:=λi v hv=>by
  have h : aV W (w.heap.size+1+1+1+1) [.int .i64 k,.slice a n c,.int .i64 m,.slice ab k cb]:=by rw [hW];exact aV.new _ _ _ (by simp)
  exact h.cell i hv
 have hMs : vd W (some ⟨w.heap.size+1+1+1+1,0,none⟩) 2 [((k : Int),A),((m : Int),B)]:=⟨rfl,λ_=>rfl,by unfold maxLen;omega,λi hi'=>by
  match i,hi' with
  | 0,_=>exact ⟨a,n,c,by simpa using q3 0 _ rfl,by simpa using q3 1 _ rfl,hi.ah hbW⟩
  | 1,_=>exact ⟨ab,k,cb,by simpa using q3 2 _ rfl,by simpa using q3 3 _ rfl,hb.ah hbW⟩⟩
 have HX:=Z5 (And.intro x1 (And.intro x2 x3))
 have HsW:=Z5 hsW
 have HbW:=Z5 hbW
 clear hW hsW x1 x2 x3 q3
 refine (lf P M am mn cm mod _ 2 2 _ W (hmod.ah hbW) hMs).mono ?_
 rintro e w1 ⟨hb1,hcase⟩
 have hms : matsE (aa P M.toNat mod).q [((k : Int),A),((m : Int),B)]=0:=by
  rw [HGG.out]
  simp [matsE,HmE.out.1,HmE.out.2]
 rcases hcase with ⟨hB,_⟩ | ⟨_,er,h0,h1,_⟩ | ⟨_,_,b,rfl,hG,hbl⟩
 ·rw [HB.out] at hB;exact absurd hB (by decide)
 ·rw [hms] at h1;exact absurd h1.symm h0
 rw [HGG.out] at hG
 have hbw1:=Below.next hbW hb1
 have r1:=HX.out.1.ah hb1
 have r2:=HX.out.2.1.ah hb1
 have m0:=r1.cell 0 rfl
 have m1:=r1.cell 1 rfl
 have p0:=r2.cell 0 rfl
 have p1:=r2.cell 1 rfl
 have hkk : ((k : Int) != k)=false:=by simp
 clear hMs hbW r1 r2 hbl hmod hms
 go_upto_region 6 with fail
 obtain ⟨g,hg⟩ : ∃g,w1.heap.size=g:=⟨_,rfl⟩
 have HGs:=Z5 hg
 clear hg
 go_cut [10] (λv wx=>v = .pointer (some ⟨w1.heap.size,0,none⟩)/\kI wx w1.heap.size (.int .i64 m) none 0 0 [] []/\Below w1.heap.size w1 wx)
 case first =>
  go_wp2_with fail
  go_meet
  exact ⟨rfl,kI.start (aV.new w1 [.int .i64 m,.slice none 0 0] _ rfl),an _ _⟩
 obtain ⟨rfl,hO0,hbc⟩:=hcut
 generalize wc=U at *
 have hs3:=HGs.out
 rw [hs3] at hO0 ⊢
 have HbU:=Z5 (Below.next hb1 hbc)
 have HbU1:=Z5 hbc
 have HS : Hid (∀V,Below W.heap.size W V->V.cell? ⟨w.heap.size+1,0,none⟩=some (.int .i64 k)/\V.cell? ⟨w.heap.size+1,1,none⟩=some (.slice a n c)/\V.cell? ⟨w.heap.size+1+1,0,none⟩=some (.int .i64 m)/\V.cell? ⟨w.heap.size+1+1,1,none⟩=some (.slice ab k cb)):=λV hV=>by
  have r1:=HX.out.1.ah hV
  have r2:=HX.out.2.1.ah hV
  exact ⟨r1.cell 0 rfl,r1.cell 1 rfl,r2.cell 0 rfl,r2.cell 1 rfl⟩
 clear m0 m1 p0 p1
 obtain ⟨m0,m1,p0,p1⟩:=HS.out U HbU.out
 have hgU:=hO0.lt
 have hgW : W.heap.size<=g:=by have:=hb1.size;omega
 have hw1g : w1.heap.size<=g:=by omega
 clear hbc hs3
 go_wp2_with fail
 clear m0 m1 p0 p1
 go_loopw [38] (λiv wr=>∃(j : Nat) (a1 : OA) (c1 : Nat) (Rr : La),j<=n/\iv = .int .i64 j/\kI wr g (.int .i64 m) a1 j c1 Rr (L2.take j)/\Below g U wr) (λiv _=>n - (intOf iv).toNat)
 case atStart=>exact ⟨0,none,0,[],Nat.zero_le _,rfl,by simpa using hO0,Below.refl _ _⟩
 case round =>
  clear hO0
  obtain ⟨j,a1,c1,Rr,hj,rfl,hO,hbr⟩:=hrel
  have hbWr:=Below.trans HbU.out (hbr.mono hgW)
  have hbwr:=Below.next HbW.out hbWr
  have hb1r : Below w1.heap.size w1 wr:=Below.trans HbU1.out (hbr.mono hw1g)
  have hgr:=hO.lt
  by_cases hltj : j<n
  ·obtain ⟨ra,rn,rc,hcell,hrow⟩:=(hi.ah hbwr).cell j hltj
   have hA:=HAr.out j hltj
   have hrn : rn=k:=by rw [<- hrow.len];exact hA.1
   rw [hrn] at hcell hrow
   have Htk:=Z5 (HLk.out j hltj)
   obtain ⟨l,hl⟩ : ∃l,aj A j=l:=⟨_,rfl⟩
   rw [hl] at Htk hrow hA
   have Hvec : Hid (∀V,Below wr.heap.size wr V->Calls Tryz.prog 141 #[.pointer (some ⟨b,0,none⟩),.slice ra k rc,.slice ab k cb,.int .i64 m] V λe w' =>
     ∃a1 c1,e = .returned (.slice a1 m c1)/\w'.ownsRow V.heap.size 3 1 (.slice a1 m c1) m ((bj G.ops m l B k).map (Value.int .i64))/\Below V.heap.size V w'):=λV hV =>
    Ig ra rc l ab k cb B m (hG.ah (Below.next hb1r hV)) HFl.out (hrow.ah hV) (hb.ah (Below.next hbwr hV)) (λt ht=>hA.2 _ (aN (by rw [hA.1];exact ht))) HBr.out hm1 (by omega) (by omega)
   have hvl : (bj G.ops m l B k).length=m:=(dO HFl.out HBr.out (x:=l) (λt ht=>hA.2 _ (aN (by rw [hA.1,<- HBl.out];exact ht))) k (by rw [HBl.out];exact Nat.le_refl _)).1.1
   obtain ⟨pk,hpk⟩ : ∃pk,bj G.ops m l B k=pk:=⟨_,rfl⟩
   rw [hpk] at Hvec hvl Htk
   have Hvl:=Z5 hvl
   have Hbr:=Z5 hbr
   have HbWr:=Z5 hbWr
   have HO:=Z5 hO
   have g1:=hO.c1
   obtain ⟨_,_,p0,p1⟩:=HS.out wr hbWr
   clear hl hrn hpk hvl hA hrow hbr hbWr hbwr hb1r hO
   go_wp2_with fail
   go_region_law ((first
    | (go_simp;go_at_call 141;((with_reducible refine (Hvec.out _ (Below.refl _ _).drew).mono ?_);rintro e w4 ⟨a4,c4,rfl,hown4,hb4⟩;have hb4':=Below.next (Below.refl wr.heap.size wr).drew hb4;have hs4:=HO.out.ah hb4';have g2:=hs4.c1;have g3:=aS hs4.c1 (.cells #[.slice a4 m c4] 22)))
    | (refine bg (by rfl) (.tmp 43) (.tmp 51) 25 22 (by rfl) (.slice none 0 0) 24 Tryz.underlying25 ch (by rfl) (g+1) a1 j c1 (List.zipWith e9 Rr (L2.take j)) (by rfl) ((hs4.om.ah (an _ _)).own) (some ⟨w4.heap.size,0,none⟩) 1 1 [.slice a4 m c4] (by rfl) (λ_=>rfl) rfl (by intro y hy;obtain rfl : y=0:=(by omega);exact bs _ _ _ rfl) (by intro y hy;simp at hy;subst hy;rfl) (by omega) (by unfold maxLen;omega) (by have e2:=hs4.lt;simp;omega) ?_;intro a5 c5 w5 hown5 hgr5 hap5;have k5:=(hs4.dW hgr5).2.1;have f5:=(hs4.dW hgr5).2.2)))
   all_goals (
    go_wp2_with fail
    go_roundw
    case rel =>
     have hra : a4 ≠ none->¬ bL a1 Rr (ablk a4):=λh0 hI=>by
      have h1:=(aR hown4 h0).1
      have h2:=(HO.out.om.lt _ hI).2
      have h3 : wr.drew.heap.size=wr.heap.size:=rfl
      omega
     obtain ⟨hP,hbP⟩:=hs4.push Hvl.out (aP hown4 (show g+1<=wr.drew.heap.size from hgr)) hra hown5 hgr5 hap5
     exact ⟨j+1,a5,c5,_,by omega,by go_num,by rw [Htk.out];exact hP,Below.trans Hbr.out ((hb4'.mono (by omega)).trans hbP)⟩
    case measure=>simp [intOf] <;> omega)
  ·obtain rfl : j=n:=by omega
   rw [List.take_of_length_le (by rw [HL2l.out];exact Nat.le_refl _)] at hO
   have g0:=hO.c0
   have g1:=hO.c1
   have z6:=HX.out.2.2.ah hbWr
   have z0:=z6.cell 0 rfl
   have z1:=z6.cell 1 rfl
   have f0:=z6.frozen 0
   have f1:=z6.frozen 1
   have hs:=HsW.out
   have hMN : bN (g+1) wr a1 j L2:=bN.own hO.om
   have HF:=Z5 (And.intro (((hMN.setCell (p:=⟨w.heap.size+1+1+1,0,none⟩) (by simp;omega) (.int .i64 m)).setCell (p:=⟨w.heap.size+1+1+1,1,none⟩) (by simp;omega) (.slice a1 j c1)).mono (show w.heap.size<=g+1 by omega))
    ((hbwr.setCell (p:=⟨w.heap.size+1+1+1,0,none⟩) (by simp;omega) (.int .i64 m)).setCell (p:=⟨w.heap.size+1+1+1,1,none⟩) (by simp;omega) (.slice a1 j c1)))
   clear hMN z6 hO
   go_wp2_with fail
   exact bodyPost_ret (v:=.tuple #[.agg #[.int .i64 m,.slice a1 j c1],.int .i64 0]) (by simp [results,Tryz.results157,go_sem,z0,z1]) rfl ⟨a1,c1,rfl,HF.out.1,HF.out.2⟩
theorem r9 {σ : Type} (I : World->σ->Prop) (J : σ->Nat->Prop) (val : σ->Ll) (F : Lz->Lz->Ll->Int × Ll) (pb W : Nat)
  (sa : OA) (ns cs : Nat) (s : Lz) (az : OA) (nz cz : Nat) (z : Lz) (at' : OA) (nt ct : Nat) (t : Lz) (w : World) (σ0 : σ)
  (hI0 : I w σ0) (hIb : ∀V V' σ,I V σ->aB V V' (λb=>w.heap.size<=b/\¬ J σ b) (λb=>w.heap.size<=b/\¬ J σ b)->I V' σ) (hp : w.cell? ⟨pb,9,none⟩=some (.int .i64 W)) (hS : ∀V σ,I V σ->Ints V sa ns s/\Ints V at' nt t)
  (hJ : ∀V σ x,I V σ->J σ x->x<V.heap.size) (hz : Ints w az nz z) (htn : t.Nodup) (hns : ns<=1000) (hnz : nz<=1000) (hnt : nt<=1000) (hWs : ns<=W)
  (hF : ns<W->∀(V : World) (σ : σ) (a1 : OA) (c1 : Nat) (a2 : OA) (c2 k : Nat) (zc : Lz),k<nt->zc=z ++ (t.take k).filter (λx=>decide (¬ x ∈ z))->¬ nth t k ∈ z->I V σ->aB w V (J σ0) (J σ) ->
   Ints V a1 (ns+1) (s ++ [nth t k])->Ints V a2 zc.length zc->¬ J σ (ablk a1)->(a2 ≠ none->¬ J σ (ablk a2)) ->
   Calls Tryz.prog 239 #[.pointer (some ⟨pb,0,none⟩),.slice a1 (ns+1) c1,.slice a2 zc.length c2] V
    λe V'=>∃σ',I V' σ'/\aB V V' (J σ) (J σ')/\e = .returned (.int .i64 (F (s ++ [nth t k]) zc (val σ)).1)/\((F (s ++ [nth t k]) zc (val σ)).1=0->val σ'=(F (s ++ [nth t k]) zc (val σ)).2)) :
  Calls Tryz.prog 264 #[.pointer (some ⟨pb,0,none⟩),.slice sa ns cs,.slice az nz cz,.slice at' nt ct,.func (.func 239) #[.pointer (some ⟨pb,0,none⟩)] #[]] w
   λe w'=>∃σ',I w' σ'/\aB w w' (J σ0) (J σ')/\e = .returned (.int .i64 (iF F s z (if ns<W then t.filter (λx=>decide (¬ x ∈ z)) else []) (val σ0)).1) /\
    ((iF F s z (if ns<W then t.filter (λx=>decide (¬ x ∈ z)) else []) (val σ0)).1=0->val σ'=(iF F s z (if ns<W then t.filter (λx=>decide (¬ x ∈ z)) else []) (val σ0)).2):=by
 obtain ⟨KB,hKB⟩ : ∃KB,iF F s z (if ns<W then t.filter (λx=>decide (¬ x ∈ z)) else []) (val σ0)=KB:=⟨_,rfl⟩
 rw [hKB]
 have HKB:=Z5 hKB
 clear hKB
 have Hzl:=Z5 hz.len
 have Htl:=Z5 (hS w σ0 hI0).2.len
 have Hsl:=Z5 (hS w σ0 hI0).1.len
 have hplt:=(hS w σ0 hI0).2.pl
 have HS:=Z5 hS
 have HI0:=Z5 hI0
 have HIb:=Z5 hIb
 have HJ:=Z5 hJ
 have Htn:=Z5 htn
 have HF:=Z5 hF
 clear hS hI0 hIb hJ htn hF
 by_cases hW : ns=W
 ·have hd : ((ns : Int) == (W : Int))=true:=by simp;omega
  have Hk : Hid (KB=(0,val σ0)):=by
   show _=_
   rw [<- HKB.out,if_neg (by omega)];rfl
  go_enter Tryz.func264,Tryz.ntmps264
  clear hW
  go_wp2_with fail
  go_ret
  exact ⟨σ0,HI0.out,aB.refl _ _,by rw [Hk.out];rfl,λ_=>by rw [Hk.out]⟩
 have hd : ((ns : Int) == (W : Int))=false:=by simp;omega
 have hlW : ns<W:=by omega
 have HKB : Hid (KB=iF F s z (t.filter (λx=>decide (¬ x ∈ z))) (val σ0)):=by
  show _=_
  rw [<- HKB.out,if_pos hlW]
 have HF:=Z5 (HF.out hlW)
 clear hlW hW
 go_enter Tryz.func264,Tryz.ntmps264
 go_wp2_with fail
 refine (ef az nz cz z hz (by omega)).mono ?_
 rintro e w1 ⟨a0,c0,rfl,hown0,hb1⟩
 have hI1:=HIb.out w w1 σ0 HI0.out (aB.bq hb1 _)
 go_wp2_with fail
 go_loopw [2,25] (λzv iv wr=>∃(k : Nat) (aq : OA) (cq : Nat) (zc : Lz) (σ : σ),k<=nt/\iv = .int .i64 k/\zv = .slice aq zc.length cq/\Hid (zc=z ++ (t.take k).filter (λx=>decide (¬ x ∈ z))) /\
   wr.ownsRow w.heap.size 3 1 (.slice aq zc.length cq) zc.length (zc.map (Value.int .i64))/\Hid (I wr σ)/\Hid (aB w wr (J σ0) (J σ))/\Hid (aq ≠ none->¬ J σ (ablk aq)) /\
   Hid (KB=iF F s zc ((t.drop k).filter (λx=>decide (¬ x ∈ z))) (val σ))/\zc.length<=nz+k)
  (λ_ iv _=>nt - (intOf iv).toNat)
 case atStart =>
  refine ⟨0,a0,c0,z,σ0,Nat.zero_le _,rfl,rfl,?_,hown0,hI1,aB.bq hb1 _,?_,?_,by rw [Hzl.out];omega⟩
  ·show _=_;simp
  ·show a0 ≠ none->_
   intro ha hj
   have h1:=HJ.out w σ0 _ HI0.out hj
   have h2:=(aR hown0 ha).1
   omega
  ·show _=_;rw [List.drop_zero];exact HKB.out
 case round =>
  obtain ⟨k,aq,cq,zc,σ,hk,rfl,rfl,hzc,hop,hI,hM,hap,hkb,hzn⟩:=hrel
  generalize wr=U at *
  by_cases hlt : k<nt
  ·have htU:=(HS.out U σ hI.out).2
   have hsU:=(HS.out U σ hI.out).1
   have ck:=htU.cell k hlt
   obtain ⟨hzi,_⟩:=Ints.own hop
   have hktl : k<t.length:=by rw [Htl.out];exact hlt
   have Htk:=Z5 (show t.take (k+1)=t.take k ++ [nth t k] from tf t hktl)
   have Hdk:=Z5 (show t.drop k=nth t k :: t.drop (k+1) by rw [ai hktl];exact List.drop_eq_getElem_cons hktl)
   have Hzm : Hid (nth t k ∈ zc ↔ nth t k ∈ z):=by
    show _ ↔ _
    rw [hzc.out,List.mem_append,List.mem_filter]
    constructor
    ·rintro (h | h)
     ·exact h
     ·exfalso
      have hn : (t.take k ++ t.drop k).Nodup:=by rw [List.take_append_drop];exact Htn.out
      rw [List.nodup_append] at hn
      exact hn.2.2 _ h.1 (nth t k) (by rw [Hdk.out];simp) rfl
    ·exact .inl
   by_cases hmz : nth t k ∈ z
   ·have hmd : decide (nth t k ∈ zc)=true:=by simpa using Hzm.out.2 hmz
    have HcA:=Z5 (cB aq zc.length cq zc (nth t k) U hzi)
    rw [hmd] at HcA
    have Hzc2 : Hid (zc=z ++ (t.take (k+1)).filter (λx=>decide (¬ x ∈ z))):=by
     show _=_
     rw [Htk.out,List.filter_append,List.filter_cons_of_neg (by simpa using hmz),List.filter_nil,List.append_nil];exact hzc.out
    have Hkb2 : Hid (KB=iF F s zc ((t.drop (k+1)).filter (λx=>decide (¬ x ∈ z))) (val σ)):=by
     show _=_
     rw [hkb.out,Hdk.out,List.filter_cons_of_neg (by simpa using hmz)]
    clear hmz hmd
    go_wp2_with fail
    refine HcA.out.mono ?_
    rintro e w6 ⟨rfl,rfl⟩
    go_wp2_with fail
    go_roundw
    case rel=>exact ⟨k+1,aq,cq,zc,σ,by omega,by go_num,rfl,Hzc2.out,hop,hI.out,hM.out,hap.out,Hkb2.out,by omega⟩
    case measure=>simp [intOf] <;> omega
   ·have hmd : decide (nth t k ∈ zc)=false:=by simpa using λh=>hmz (Hzm.out.1 h)
    have HcA:=Z5 (cB aq zc.length cq zc (nth t k) U hzi)
    rw [hmd] at HcA
    have Hzc2 : Hid (zc ++ [nth t k]=z ++ (t.take (k+1)).filter (λx=>decide (¬ x ∈ z))):=by
     show _=_
     rw [Htk.out,List.filter_append,List.filter_cons_of_pos (by simpa using hmz),List.filter_nil,<- List.append_assoc,<- hzc.out]
    have Hkb2 : Hid (KB=if (F (s ++ [nth t k]) zc (val σ)).1=0 then iF F s (zc ++ [nth t k]) ((t.drop (k+1)).filter (λx=>decide (¬ x ∈ z))) (F (s ++ [nth t k]) zc (val σ)).2 else ((F (s ++ [nth t k]) zc (val σ)).1,[])):=by
     show _=_
     rw [hkb.out,Hdk.out,List.filter_cons_of_pos (by simpa using hmz),iF]
    have HFk:=Z5 (λV σ a1 c1 a2 c2=>HF.out V σ a1 c1 a2 c2 k zc hlt hzc.out hmz)
    have hszU:=hM.out.size
    clear hmz hmd
    go_wp2_with fail
    refine HcA.out.mono ?_
    rintro e w6 ⟨rfl,rfl⟩
    go_wp2_with fail
    refine (ef sa ns cs s hsU (by omega)).mono ?_
    rintro e w7 ⟨a7,c7,rfl,hown7,hb7⟩
    rw [Hsl.out] at hown7
    rw [Hsl.out]
    obtain ⟨x,hx⟩ : ∃x,nth t k=x:=⟨_,rfl⟩
    rw [hx] at ck Hzc2 Hkb2 HFk Htk Hdk Hzm HcA ⊢
    have hcn:=br w7 (.int .i64 x) 3
    have hbn:=an w7 (.cells #[.int .i64 x] 3)
    go_wp2_with (at_builtin;refine bk rfl _ _ 22 3 rfl (.int .i64 0) 8 Tryz.underlying22 aX rfl w6.heap.size a7 ns c7 _ rfl (hown7.alloc _) ⟨w7.heap.size,0,none⟩ 1 (.int .i64 x) rfl hcn rfl (by omega) (by unfold maxLen;omega) (Nat.le_trans hb7.size hbn.size) ?_;intro a8 c8 w8 hown8 hgr8 hap8)
    have hb68 : Below w6.heap.size w6 w8:=Below.app (Below.next hb7 hbn) (hown7.alloc _) hgr8 (Nat.le_refl _) (Nat.le_trans hb7.size hbn.size)
    have own8 : w8.ownsRow w6.heap.size 3 1 (.slice a8 (ns+1) c8) (ns+1) ((s ++ [x]).map (Value.int .i64)):=by simpa using hown8
    have hz8:=hzi.ah hb68
    clear hown7 hown8 hgr8 hap8 hcn hbn
    go_wp2_with fail
    refine (ef aq zc.length cq zc hz8 (by omega)).mono ?_
    rintro e w9 ⟨a9,c9,rfl,hown9,hb9⟩
    have hb69:=Below.next hb68 hb9
    have hI9:=HIb.out w6 w9 σ hI.out (aB.bq hb69 _)
    have hM9 : aB w w9 (J σ0) (J σ):=hM.out.pS (hb69.mono hszU)
    have hs9:=(Ints.own own8).1.ah hb9
    have hz9:=(Ints.own hown9).1
    have hn8 : ¬ J σ (ablk a8):=λhj=>by
     have h1:=HJ.out w6 σ _ hI.out hj
     have h2:=(fJ own8 (by omega)).1
     omega
    have hn9 : a9 ≠ none->¬ J σ (ablk a9):=λha hj=>by
     have h1:=HJ.out w6 σ _ hI.out hj
     have h2:=(aR hown9 ha).1
     have h3:=hb68.size
     omega
    have hopz:=aW hop hb69
    have HCall:=Z5 (HFk.out w9 σ a8 c8 a9 c9 hI9 hM9 hs9 hz9 hn8 hn9)
    clear HFk hI9 hs9 hz9 hn8 hn9 hz8 own8 hown9
    generalize F (s ++ [x]) zc (val σ)=FR at *
    obtain ⟨fe,fv⟩:=FR
    dsimp only at HCall Hkb2
    go_wp2_with fail
    refine HCall.out.mono ?_
    rintro e w10 ⟨σ',hI',hM',rfl,hval⟩
    have hM10:=Z5 (hM9.trans hM')
    have hapz : aq ≠ none->¬ J σ' (ablk aq):=λha=>hM'.not (aR hopz ha).2 (hap.out ha)
    have hopq:=hM'.own hopz hap.out
    have Hapz:=Z5 hapz
    have HI':=Z5 hI'
    clear HCall hM9 hM' hapz hI' hopz
    by_cases hfe : fe=0
    ·have Hval : Hid (val σ'=fv):=hval hfe
     subst hfe
     rw [if_pos rfl] at Hkb2
     have hcn:=br w10 (.int .i64 x) 3
     have hbn:=an w10 (.cells #[.int .i64 x] 3)
     have hsz10:=hM10.out.size
     clear hval
     go_wp2_with (at_builtin;refine bk rfl _ _ 22 3 rfl (.int .i64 0) 8 Tryz.underlying22 aX rfl w.heap.size aq zc.length cq _ rfl (hopq.alloc _) ⟨w10.heap.size,0,none⟩ 1 (.int .i64 x) rfl hcn rfl (by omega) (by unfold maxLen;omega) (Nat.le_trans hsz10 hbn.size) ?_;intro a11 c11 w11 hown11 hgr11 hap11)
     go_roundw
     case rel =>
      have hb11 : Below w.heap.size w10 w11:=Below.app (hbn.mono hsz10) (hopq.alloc _) hgr11 (Nat.le_refl _) (Nat.le_trans hsz10 hbn.size)
      have hK : aB w10 w11 (λb=>w.heap.size<=b/\¬ J σ' b) (λb=>w.heap.size<=b/\¬ J σ' b):=(aB.bq hbn _).trans (aB.grown hgr11 λha=>⟨(aR hopq ha).1,Hapz.out ha⟩)
      refine ⟨k+1,a11,c11,zc ++ [x],σ',by omega,by go_num,by simp,Hzc2.out,by simpa using hown11,HIb.out w10 w11 σ' HI'.out hK,hM10.out.pS hb11,?_,?_,by simp;omega⟩
      ·show a11 ≠ none->_
       intro ha hj
       have h1:=HJ.out w10 σ' _ HI'.out hj
       have h2 : db aq (ablk a11):=by
        by_cases h0 : aq=none
        ·exact .inl h0
        ·exact .inr λe=>Hapz.out h0 (by rw [e];exact hj)
       rcases hap11 _ (Nat.lt_of_lt_of_le h1 hbn.size) h2 with h3 | h3
       ·exact ha h3
       ·exact h3 rfl
      ·show _=_
       rw [Hkb2.out,Hval.out]
     case measure=>simp [intOf] <;> omega
    ·have hfe' : (fe != 0)=true:=by simpa using hfe
     have Hk2 : Hid (KB=(fe,[])):=by show _=_;rw [Hkb2.out,if_neg hfe]
     have Hfe:=Z5 hfe
     clear hfe hval
     go_wp2_with fail
     go_ret
     exact ⟨σ',HI'.out,hM10.out,by rw [Hk2.out];rfl,λh0=>absurd (by rw [Hk2.out] at h0;exact h0) Hfe.out⟩
  ·obtain rfl : k=nt:=by omega
   have Hf : Hid (KB=(0,val σ)):=by
    show _=_
    rw [hkb.out,List.drop_of_length_le (by rw [Htl.out];exact Nat.le_refl _),List.filter_nil,iF]
   go_wp2_with fail
   go_ret
   exact ⟨σ,hI.out,hM.out,by rw [Hf.out];rfl,λ_=>by rw [Hf.out]⟩
def kW (P M : Int) (mod : Lz) (N : Int) (L : Ll) (Q : Lz) : Int :=
 if dR P M mod N L Q ≠ 0 then dR P M mod N L Q else if Av P M mod N L Q=true then 0 else 9
def cQ (O : aQ) (m : Nat) (L : Ll) (Q : Lz) : Ll:=nS O m (kS O (L.map (aG Q)) Q.length) L
def mj (P M : Int) (mod : Lz) (N : Int) (L : Ll) (Q : Lz) (w : World) (e : Ending) (w' : World) : Prop :=
 Below w.heap.size w w'/\((kW P M mod N L Q ≠ 0/\e = .returned (.tuple #[.agg #[.int .i64 0,.slice none 0 0],.int .i64 (kW P M mod N L Q)])) \/
  (kW P M mod N L Q=0/\∃m : Nat,N=m/\∃a c,e = .returned (.tuple #[.agg #[.int .i64 m,.slice a L.length c],.int .i64 0])/\bN w.heap.size w' a L.length (cQ (aa P M.toNat mod).ops m L Q)))
theorem Gv {P M : Int} {mod : Lz} {N : Int} {L : Ll} {Q : Lz} (h : Av P M mod N L Q=true) :
  aL P M mod N L=0/\bF N Q=true/\(i7 (aa P M.toNat mod).ops L Q).length=Q.length/\Q.length=L.length:=by
 unfold Av at h
 simp only [Bool.and_eq_true,decide_eq_true_eq] at h
 obtain ⟨h1,h2,h3⟩:=h
 have hE : aL P M mod N L=0:=by
  unfold dR at h1
  split at h1
  ·assumption
  ·rename_i h0;exact absurd h1 h0
 refine ⟨hE,?_,h2,by omega⟩
 rw [dR,if_pos hE,nO] at h1
 split at h1
 ·assumption
 ·omega
theorem sC {O : aQ} {El : Int->Prop} (F : cK O El) {D : Ll} {k : Nat} (hD : bH El k D) : bH El k (kS O D k):=λr hr=>by
 unfold kS at hr
 obtain ⟨s,hs,rfl⟩:=List.mem_map.1 hr
 have h:=lu F (lK hD (o4 F.zero F.one k)) k (by omega) s hs
 exact ⟨by rw [List.length_drop,h.1];omega,λx hx=>h.2 x (List.mem_of_mem_drop hx)⟩
theorem sX (P M : Int) (am : OA) (mn cm : Nat) (mod : Lz) (N : Int) (a : OA) (n c : Nat) (L : Ll) (ao : OA) (no co : Nat) (Q : Lz) (w : World)
  (hmod : Ints w am mn mod) (hi : bZ w a n L) (hq : Ints w ao no Q) :
  Calls Tryz.prog 99 #[.agg #[.int .i64 P,.int .i64 M,.slice am mn cm,.int .i64 N,.slice a n c],.slice ao no co] w (mj P M mod N L Q w):=by
 have Hql:=Z5 hq.len
 have Hil:=Z5 hi.len
 go_enter Tryz.func99,Tryz.ntmps99
 go_wp2_with fail
 obtain ⟨W,hW⟩ : ∃W : World,W=(w.alloc (.cells #[.int .i64 P,.int .i64 M,.slice am mn cm,.int .i64 N,.slice a n c] 27)).alloc (.cells #[.int .i64 0,.slice none 0 0] 82):=⟨_,rfl⟩
 rw [<- hW]
 have hbW : Below w.heap.size w W:=by rw [hW];exact dH _ _ _
 have hsW : W.heap.size=w.heap.size+2:=by rw [hW];simp
 have x0 : aV W w.heap.size [.int .i64 P,.int .i64 M,.slice am mn cm,.int .i64 N,.slice a n c]:=by rw [hW];exact (aV.new _ _ _ rfl).alloc _
 have z0 : aV W (w.heap.size+1) [.int .i64 0,.slice none 0 0]:=by rw [hW];exact aV.new _ _ _ (by simp)
 have hS : ∀V,Below W.heap.size W V->V.cell? ⟨w.heap.size,0,none⟩=some (.int .i64 P)/\V.cell? ⟨w.heap.size,1,none⟩=some (.int .i64 M)/\V.cell? ⟨w.heap.size,2,none⟩=some (.slice am mn cm)/\V.cell? ⟨w.heap.size,3,none⟩=some (.int .i64 N)/\V.cell? ⟨w.heap.size,4,none⟩=some (.slice a n c) /\
   aV V (w.heap.size+1) [.int .i64 0,.slice none 0 0]:=λV hV=>by
  have x1:=x0.ah hV
  exact ⟨x1.cell 0 rfl,x1.cell 1 rfl,x1.cell 2 rfl,x1.cell 3 rfl,x1.cell 4 rfl,z0.ah hV⟩
 have HS:=Z5 hS
 have HbW:=Z5 hbW
 have HsW:=Z5 hsW
 clear hW x0 z0 hS
 refine (C1 P M am mn cm mod N a n c L ao no co Q W (hmod.ah hbW) (hi.ah hbW) (hq.ah hbW)).mono ?_
 rintro e w1 ⟨rfl,hb1⟩
 have hbw1:=Below.next hbW hb1
 have hend : ∀er : Int,kW P M mod N L Q ≠ 0->kW P M mod N L Q=er->mj P M mod N L Q w (.returned (.tuple #[.agg #[.int .i64 0,.slice none 0 0],.int .i64 er])) ((w1.setCell ⟨w.heap.size+1,0,none⟩ (.int .i64 0)).setCell ⟨w.heap.size+1,1,none⟩ (.slice none 0 0)):=λer h0 h1 =>
  ⟨(hbw1.setCell (p:=⟨w.heap.size+1,0,none⟩) (by simp) _).setCell (p:=⟨w.heap.size+1,1,none⟩) (by simp) _,.inl ⟨h0,by rw [h1]⟩⟩
 have Hend:=Z5 hend
 have zz:=(HS.out w1 hb1).2.2.2.2.2
 have z0:=zz.cell 0 rfl
 have z1:=zz.cell 1 rfl
 have f0:=zz.frozen 0
 have f1:=zz.frozen 1
 clear hend zz hbW hsW
 by_cases hr : dR P M mod N L Q=0
 rotate_left
 ·have hs : kW P M mod N L Q=dR P M mod N L Q:=by rw [kW,if_pos hr]
  have HF:=Z5 (Hend.out (dR P M mod N L Q) (by rw [hs];exact hr) hs)
  have hr' : (dR P M mod N L Q != 0)=true:=by simpa using hr
  clear hr hs Hend
  generalize dR P M mod N L Q=er at *
  go_wp2_with fail
  exact bodyPost_ret (v:=.tuple #[.agg #[.int .i64 0,.slice none 0 0],.int .i64 er]) (by simp [results,Tryz.results99,go_sem,z0,z1]) rfl HF.out
 rw [hr]
 by_cases hv : Av P M mod N L Q=true
 rotate_left
 ·have hs : kW P M mod N L Q=9:=by rw [kW,if_neg (by simpa using hr),if_neg hv]
  have HF:=Z5 (Hend.out 9 (by rw [hs];decide) hs)
  have hv' : Av P M mod N L Q=false:=by simpa using hv
  rw [hv']
  clear hr hs Hend hv hv'
  go_wp2_with fail
  exact bodyPost_ret (v:=.tuple #[.agg #[.int .i64 0,.slice none 0 0],.int .i64 9]) (by simp [results,Tryz.results99,go_sem,z0,z1]) rfl HF.out
 have hs0 : kW P M mod N L Q=0:=by rw [kW,if_neg (by simpa using hr),if_pos hv]
 have Hs0:=Z5 hs0
 obtain ⟨hE,hok,hg,hl⟩:=Gv hv
 obtain ⟨m,rfl,hm1,hm64,F,hR⟩:=ba hE
 have hQ : qp m Q:=λj hj=>by have:=gh hok hj;omega
 have hno : no=n:=by rw [<- Hql.out,hl,Hil.out]
 have hqm : (Q.length : Int)<=m:=lj hok (by omega)
 have hn64 : n<=64:=by rw [<- Hil.out,<- hl];omega
 have hpv:=Es F hR hQ hl hg
 have hDr : bH (aa P M.toNat mod).El n (L.map (aG Q)):=by have h:=fo hR hQ;rw [Hql.out,hno] at h;exact h
 have hIr:=sC F hDr
 have hqn : Q.length=n:=by rw [Hql.out];exact hno
 rw [hqn] at hpv
 have hfB:=(bh hE).1
 have hsyl : cQ (aa P M.toNat mod).ops m L Q=nS (aa P M.toNat mod).ops m (kS (aa P M.toNat mod).ops (L.map (aG Q)) n) L:=by rw [cQ,hqn]
 have HCo : Hid (∀V,Below w.heap.size w V->Calls Tryz.prog 155 #[.agg #[.int .i64 P,.int .i64 M,.slice am mn cm],.agg #[.int .i64 m,.slice a n c],.slice ao no co] V λe w' =>
   ∃a1 c1,e = .returned (.tuple #[.agg #[.int .i64 n,.slice a1 n c1],.int .i64 0])/\bZ w' a1 n (L.map (aG Q))/\Below V.heap.size V w'):=λV hV=>by
  refine (mE P M am mn cm mod m a n c L ao no co Q V (hmod.ah hV) (hi.ah hV) (hq.ah hV) hE hQ (by omega)).mono ?_
  rintro e w' ⟨a1,c1,rfl,hM,hb⟩
  exact ⟨a1,c1,by rw [hqn],hM.kK,hb⟩
 have HIn : Hid (∀V a1 c1,Below w.heap.size w V->bZ V a1 n (L.map (aG Q))->Calls Tryz.prog 168 #[.agg #[.int .i64 P,.int .i64 M,.slice am mn cm],.agg #[.int .i64 n,.slice a1 n c1]] V λe w' =>
   ∃a2 c2,e = .returned (.tuple #[.agg #[.int .i64 n,.slice a2 n c2],.int .i64 0])/\bZ w' a2 n (kS (aa P M.toNat mod).ops (L.map (aG Q)) n)/\Below V.heap.size V w'):=λV a1 c1 hV hM=>by
  refine (zE P M am mn cm mod n a1 c1 (L.map (aG Q)) V (hmod.ah hV) hM hfB hDr hn64 hpv).mono ?_
  rintro e w' ⟨a2,c2,rfl,hM2,hb⟩
  exact ⟨a2,c2,rfl,hM2.kK,hb⟩
 have HMu : Hid (∀V a2 c2,Below w.heap.size w V->bZ V a2 n (kS (aa P M.toNat mod).ops (L.map (aG Q)) n)->Calls Tryz.prog 157 #[.agg #[.int .i64 P,.int .i64 M,.slice am mn cm],.agg #[.int .i64 n,.slice a2 n c2],.agg #[.int .i64 m,.slice a n c]] V λe w' =>
   ∃a3 c3,e = .returned (.tuple #[.agg #[.int .i64 m,.slice a3 n c3],.int .i64 0])/\bN V.heap.size w' a3 n (cQ (aa P M.toNat mod).ops m L Q)/\Below V.heap.size V w'):=λV a2 c2 hV hM=>by
  rw [hsyl]
  exact Ct P M am mn cm mod n a2 n c2 _ m a c L V (hmod.ah hV) hM (hi.ah hV) hfB hIr hR hn64 hm1 hm64 hn64
 have HPost : Hid (∀a3 c3 w',Below w.heap.size w w'->bN w.heap.size w' a3 n (cQ (aa P M.toNat mod).ops m L Q)->mj P M mod m L Q w (.returned (.tuple #[.agg #[.int .i64 m,.slice a3 n c3],.int .i64 0])) w'):=λa3 c3 w' h1 h2=>by
  rw [<- Hil.out] at h2 ⊢
  exact ⟨h1,.inr ⟨Hs0.out,m,rfl,a3,c3,rfl,h2⟩⟩
 obtain ⟨D,hD⟩ : ∃D,L.map (aG Q)=D:=⟨_,rfl⟩
 obtain ⟨Iv,hIv⟩ : ∃Iv,kS (aa P M.toNat mod).ops D n=Iv:=⟨_,rfl⟩
 rw [hD] at HCo HIn HMu
 rw [hIv] at HIn HMu
 rw [hv]
 clear hr hv hs0 hE hok hg hl hQ hno hqm hpv hDr hIr hqn hfB hsyl hD hIv F hR Hend z0 z1 f0 f1
 obtain ⟨c0,c1,c2,c3,c4,_⟩:=HS.out w1 hb1
 have hb8:=an w1 (.cells #[.int .i64 m,.slice a n c] 82)
 have x8:=aV.new w1 [.int .i64 m,.slice a n c] 82 rfl
 have HX8:=Z5 x8
 obtain ⟨d0,d1,d2,d3,d4,_⟩:=HS.out _ (Below.next hb1 hb8)
 clear x8
 go_wp2_with fail
 refine (HCo.out _ (Below.next hbw1 hb8)).mono ?_
 rintro e w2 ⟨a1,c1',rfl,hM1,hb2⟩
 have hb9:=an w2 (.cells #[.int .i64 n,.slice a1 n c1'] 82)
 have hk2:=Below.next hb2 hb9
 have hbk2:=Below.next (Below.next hb1 hb8) hk2
 clear c0 c1 c2 c3 c4 d0 d1 d2 d3 d4 HCo
 obtain ⟨c0,c1,c2,c3,c4,_⟩:=HS.out _ hbk2
 have Hin:=Z5 (HIn.out _ a1 c1' (Below.next HbW.out hbk2) (hM1.ah hb9))
 clear hM1 HIn
 go_wp2_with fail
 refine Hin.out.mono ?_
 rintro e w3 ⟨a2,c2',rfl,hM2,hb3⟩
 have hb10:=an w3 (.cells #[.int .i64 n,.slice a2 n c2'] 82)
 have hk3:=Below.next hb3 hb10
 have hbk3:=Below.next hbk2 hk3
 clear c0 c1 c2 c3 c4 Hin
 obtain ⟨c0,c1,c2,c3,c4,_⟩:=HS.out _ hbk3
 have x8:=HX8.out.ah (Below.next hk2 hk3)
 have e0:=x8.cell 0 rfl
 have e1:=x8.cell 1 rfl
 have Hmu:=Z5 (HMu.out _ a2 c2' (Below.next HbW.out hbk3) (hM2.ah hb10))
 clear hM2 HMu x8
 go_wp2_with fail
 refine Hmu.out.mono ?_
 rintro e w4 ⟨a3,c3',rfl,hM3,hb4⟩
 have hbk4:=Below.next hbk3 hb4
 have zz:=(HS.out w4 hbk4).2.2.2.2.2
 have z0:=zz.cell 0 rfl
 have z1:=zz.cell 1 rfl
 have f0:=zz.frozen 0
 have f1:=zz.frozen 1
 have hs:=HsW.out
 have hsz:=hbk3.size
 have HF:=Z5 (HPost.out a3 c3' _ (((Below.next HbW.out hbk4).setCell (p:=⟨w.heap.size+1,0,none⟩) (by simp) (.int .i64 m)).setCell (p:=⟨w.heap.size+1,1,none⟩) (by simp) (.slice a3 n c3'))
  (((hM3.setCell (p:=⟨w.heap.size+1,0,none⟩) (by simp at hsz ⊢;omega) (.int .i64 m)).setCell (p:=⟨w.heap.size+1,1,none⟩) (by simp at hsz ⊢;omega) (.slice a3 n c3')).mono (by simp at hsz ⊢;omega)))
 clear c0 c1 c2 c3 c4 e0 e1 Hmu zz hM3 HPost
 go_wp2_with fail
 exact bodyPost_ret (v:=.tuple #[.agg #[.int .i64 m,.slice a3 n c3'],.int .i64 0]) (by simp [results,Tryz.results99,go_sem,z0,z1]) rfl HF.out
def A0 (P M : Int) (am : OA) (mn cm : Nat) (mod : Lz) (N : Int) (a : OA) (n c : Nat) (L : Ll) (W : Int) (w : World) (e : Ending) (w' : World) : Prop :=
 Below w.heap.size w w'/\((aL P M mod N L ≠ 0/\e = .returned (.tuple #[.pointer none,.int .i64 (aL P M mod N L)])) \/
 (aL P M mod N L=0/\∃(b : Nat) (w2 : World),e = .returned (.tuple #[.pointer (some ⟨w2.heap.size,0,none⟩),.int .i64 0])/\Below w.heap.size w w2/\eD w2 b (aa P M.toNat mod)/\Below w2.heap.size w2 w' /\
  aV w' w2.heap.size [.pointer (some ⟨b,0,none⟩),.int .i64 P,.int .i64 M,.slice am mn cm,.int .i64 N,.slice a n c,.slice none 0 0,.bool false,.int .i64 0,.int .i64 W,.slice none 0 0,.int .i64 0]))
theorem AL (P M : Int) (am : OA) (mn cm : Nat) (mod : Lz) (N : Int) (a : OA) (n c : Nat) (L : Ll) (W : Int) (w : World) (hmod : Ints w am mn mod) (hi : bZ w a n L) :
  Calls Tryz.prog 234 #[.agg #[.int .i64 P,.int .i64 M,.slice am mn cm,.int .i64 N,.slice a n c],.int .i64 W] w (A0 P M am mn cm mod N a n c L W w):=by
 go_enter Tryz.func234,Tryz.ntmps234
 go_wp2_with fail
 obtain ⟨U,hU⟩ : ∃U : World,U=w.alloc (.cells #[.int .i64 P,.int .i64 M,.slice am mn cm,.int .i64 N,.slice a n c] 27):=⟨_,rfl⟩
 rw [<- hU]
 have hbU : Below w.heap.size w U:=by rw [hU];exact an _ _
 have x0 : aV U w.heap.size [.int .i64 P,.int .i64 M,.slice am mn cm,.int .i64 N,.slice a n c]:=by rw [hU];exact aV.new _ _ _ rfl
 have HX:=Z5 x0
 clear hU x0
 refine (fb P M am mn cm mod N a n c L U (hmod.ah hbU) (hi.ah hbU)).mono ?_
 rintro e w1 ⟨rfl,hb1⟩
 have hbw1:=Below.next hbU hb1
 by_cases hE : aL P M mod N L=0
 ·obtain ⟨hf,_⟩:=bh hE
  have HE:=Z5 hE
  have Hf:=Z5 hf
  rw [hE]
  have x1:=HX.out.ah hb1
  have c0:=x1.cell 0 rfl
  have c1:=x1.cell 1 rfl
  have c2:=x1.cell 2 rfl
  have hm1:=(hmod.ah hbU).ah hb1
  clear hE x1 hf
  go_wp2_with fail
  refine (fH P M am mn cm mod w1 hm1).mono ?_
  rintro e w2 (⟨hB,rfl,hb2⟩ | ⟨hB,b,rfl,hG,hbl,hb2⟩)
  ·rw [Hf.out] at hB;cases hB
  ·clear hB
   have hg:=hG.gf
   have x2:=(HX.out.ah hb1).ah hb2
   have e0:=x2.cell 0 rfl
   have e1:=x2.cell 1 rfl
   have e2:=x2.cell 2 rfl
   have e3:=x2.cell 3 rfl
   have e4:=x2.cell 4 rfl
   clear x2 c0 c1 c2
   go_wp2_with fail
   go_ret2
   exact ⟨Below.next (Below.next hbw1 hb2) (an _ _),.inr ⟨HE.out,b,w2,rfl,Below.next hbw1 hb2,hg,an _ _,aV.new w2 [.pointer (some ⟨b,0,none⟩),.int .i64 P,.int .i64 M,.slice am mn cm,.int .i64 N,.slice a n c,.slice none 0 0,.bool false,.int .i64 0,.int .i64 W,.slice none 0 0,.int .i64 0] _ rfl⟩⟩
 ·have HE:=Z5 hE
  have hE' : (aL P M mod N L != 0)=true:=by simpa using hE
  clear hE
  go_wp2_with fail
  go_ret2
  exact ⟨hbw1,.inl ⟨HE.out,rfl⟩⟩
def ij (P M : Int) (mod : Lz) (N : Int) (L : Ll) (mm W : Int) : Int :=
 if aL P M mod N L=0 then (if mm<0\/(L.length : Int)<mm\/W<0\/N<W then 6 else 0) else aL P M mod N L
def B7 (P M : Int) (am : OA) (mn cm : Nat) (mod : Lz) (m : Nat) (a : OA) (n c : Nat) (L : Ll) (ay : OA) (ny cy : Nat) (C : lB) (w w' : World) (pb : Nat) : Prop :=
 ∃(b : Nat) (w2 : World),pb=w2.heap.size/\Below w.heap.size w w2/\BO w2 b (aa P M.toNat mod) a n L m ay ny C/\Below w2.heap.size w2 w'/\aV w' pb (ou b P M am mn cm m a n c ay ny cy C (.slice none 0 0) 0)
def BI (P M : Int) (am : OA) (mn cm : Nat) (mod : Lz) (N : Int) (a : OA) (n c : Nat) (L : Ll) (mm W : Int) (w : World) (e : Ending) (w' : World) : Prop :=
 Below w.heap.size w w'/\((ij P M mod N L mm W ≠ 0/\e = .returned (.tuple #[.pointer none,.int .i64 (ij P M mod N L mm W)])) \/
 (ij P M mod N L mm W=0/\∃pb,e = .returned (.tuple #[.pointer (some ⟨pb,0,none⟩),.int .i64 0])/\B7 P M am mn cm mod N.toNat a n c L none 0 0 ⟨mm.toNat,W.toNat,false,[]⟩ w w' pb))
theorem uB (P M : Int) (am : OA) (mn cm : Nat) (mod : Lz) (N : Int) (a : OA) (n c : Nat) (L : Ll) (mm W : Int) (w : World) (hmod : Ints w am mn mod) (hi : bZ w a n L) :
  Calls Tryz.prog 184 #[.agg #[.int .i64 P,.int .i64 M,.slice am mn cm,.int .i64 N,.slice a n c],.int .i64 mm,.int .i64 W] w (BI P M am mn cm mod N a n c L mm W w):=by
 have Hil:=Z5 hi.len
 go_enter Tryz.func184,Tryz.ntmps184
 go_wp2_with fail
 obtain ⟨U,hU⟩ : ∃U : World,U=w.alloc (.cells #[.int .i64 P,.int .i64 M,.slice am mn cm,.int .i64 N,.slice a n c] 27):=⟨_,rfl⟩
 rw [<- hU]
 have hbU : Below w.heap.size w U:=by rw [hU];exact an _ _
 have x0 : aV U w.heap.size [.int .i64 P,.int .i64 M,.slice am mn cm,.int .i64 N,.slice a n c]:=by rw [hU];exact aV.new _ _ _ rfl
 have HX:=Z5 x0
 clear hU x0
 refine (AL P M am mn cm mod N a n c L W U (hmod.ah hbU) (hi.ah hbU)).mono ?_
 rintro e w1 ⟨hb1,⟨hE,rfl⟩ | ⟨hE,b,w2,rfl,hb2,hG,hb3,hB⟩⟩
 ·have HE : Hid (ij P M mod N L mm W=aL P M mod N L):=if_neg hE
  have Hne:=Z5 hE
  have hE1 : (aL P M mod N L == 0)=false:=by simpa using hE
  have hE2 : (aL P M mod N L != 0)=true:=by simpa using hE
  have hbF:=Below.next hbU hb1
  clear hE
  go_wp2_with fail
  go_ret2
  exact ⟨hbF,.inl ⟨by rw [HE.out];exact Hne.out,by rw [HE.out];rfl⟩⟩
 ·have hbF:=Below.next hbU hb1
  have x1:=HX.out.ah hb1
  have c3:=x1.cell 3 rfl
  have c4:=x1.cell 4 rfl
  have HE : Hid (ij P M mod N L mm W=if mm<0\/(n : Int)<mm\/W<0\/N<W then 6 else 0):=by show _=_;rw [ij,if_pos hE,Hil.out]
  have Hrw:=Z5 (eJ hE)
  have HB:=Z5 hB
  have hf8:=hB.frozen 8
  have h8:=hB.cell 8 rfl
  clear x1 hB hE
  by_cases h1 : mm<0
  ·have HE2 : Hid (ij P M mod N L mm W=6):=by show _=_;rw [HE.out,if_pos (.inl h1)]
   have d1 : decide (mm<0)=true:=by simpa using h1
   clear h1
   go_wp2_with fail
   go_ret2
   exact ⟨hbF,.inl ⟨by rw [HE2.out];decide,by rw [HE2.out];rfl⟩⟩
  have d1 : decide (mm<0)=false:=by simpa using h1
  by_cases h2 : (n : Int)<mm
  ·have HE2 : Hid (ij P M mod N L mm W=6):=by show _=_;rw [HE.out,if_pos (.inr (.inl h2))]
   have d2 : decide ((n : Int)<mm)=true:=by simpa using h2
   clear h1 h2
   go_wp2_with fail
   go_ret2
   exact ⟨hbF,.inl ⟨by rw [HE2.out];decide,by rw [HE2.out];rfl⟩⟩
  have d2 : decide ((n : Int)<mm)=false:=by simpa using h2
  by_cases h3 : W<0
  ·have HE2 : Hid (ij P M mod N L mm W=6):=by show _=_;rw [HE.out,if_pos (.inr (.inr (.inl h3)))]
   have d3 : decide (W<0)=true:=by simpa using h3
   clear h1 h2 h3
   go_wp2_with fail
   go_ret2
   exact ⟨hbF,.inl ⟨by rw [HE2.out];decide,by rw [HE2.out];rfl⟩⟩
  have d3 : decide (W<0)=false:=by simpa using h3
  by_cases h4 : N<W
  ·have HE2 : Hid (ij P M mod N L mm W=6):=by show _=_;rw [HE.out,if_pos (.inr (.inr (.inr h4)))]
   have d4 : decide (N<W)=true:=by simpa using h4
   clear h1 h2 h3 h4
   go_wp2_with fail
   go_ret2
   exact ⟨hbF,.inl ⟨by rw [HE2.out];decide,by rw [HE2.out];rfl⟩⟩
  have d4 : decide (N<W)=false:=by simpa using h4
  have HE2 : Hid (ij P M mod N L mm W=0):=by
   show _=_
   rw [HE.out,if_neg]
   rintro (h | h | h | h)
   ·exact h1 h
   ·exact h2 h
   ·exact h3 h
   ·exact h4 h
  obtain ⟨m,hm,hm1,hm2,hLl,hRw⟩:=Hrw.out
  have HCl : Hid (B7 P M am mn cm mod N.toNat a n c L none 0 0 ⟨mm.toNat,W.toNat,false,[]⟩ w (w1.setCell ⟨w2.heap.size,8,none⟩ (.int .i64 mm)) w2.heap.size):=by
   have hn256 : n<=1000000:=by rw [<- Hil.out];omega
   have hPE : BO w2 b (aa P M.toNat mod) a n L N.toNat none 0 ⟨mm.toNat,W.toNat,false,[]⟩ :=
    { g:=hG,kK:=(hi.ah hbU).ah hb2,rws:=by rw [hm,Int.toNat_natCast];exact hRw,n6:=hn256,m6:=by omega,w6:=by show W.toNat<=64;omega,c0:=rfl }
   refine ⟨b,w2,rfl,Below.next hbU hb2,hPE,hb3.setCell (by simp) _,?_⟩
   have h5:=HB.out.setCell 8 (.int .i64 mm)
   rw [ou]
   dsimp only
   rw [Int.toNat_of_nonneg (show 0<=N by omega),Int.toNat_of_nonneg (show 0<=mm by omega),Int.toNat_of_nonneg (show 0<=W by omega)]
   exact h5
  have hbF2:=hbF.setCell (p:=⟨w2.heap.size,8,none⟩) (Nat.le_trans hbU.size hb2.size) (.int .i64 mm)
  clear h1 h2 h3 h4 hm hm1 hm2
  go_wp2_with fail
  go_ret2
  exact ⟨hbF2,.inr ⟨HE2.out,w2.heap.size,rfl,HCl.out⟩⟩
theorem lC {n : Int} (h : -9223372036854775808<=n/\n<=9223372036854775807) : wrap64 n=n:=by unfold wrap64;omega
def ry (N d : Int) : Int:=if d<1\/N+1<d then -1 else d - 1
theorem pa (P M : Int) (am : OA) (mn cm : Nat) (N : Int) (a : OA) (n c : Nat) (d : Int) (w : World) :
  Calls Tryz.prog 122 #[.agg #[.int .i64 P,.int .i64 M,.slice am mn cm,.int .i64 N,.slice a n c],.int .i64 d] w λe w'=>(∃z : Int,e = .returned (.int .i64 z)/\(1<=N->N<=64->z=ry N d))/\Below w.heap.size w w':=by
 have hb:=an w (.cells #[.int .i64 P,.int .i64 M,.slice am mn cm,.int .i64 N,.slice a n c] 27)
 go_enter Tryz.func122,Tryz.ntmps122
 by_cases h1 : d<1
 ·have d1 : decide (d<1)=true:=by simpa using h1
  have Hz : Hid (1<=N->N<=64->(-1 : Int)=ry N d):=λ_ _=>by rw [ry,if_pos (.inl h1)]
  clear h1
  go_wp2_with fail
  go_ret
  exact ⟨⟨-1,rfl,Hz.out⟩,hb⟩
 have d1 : decide (d<1)=false:=by simpa using h1
 by_cases h2 : wrap64 (N+1)<d
 ·have d2 : decide (wrap64 (N+1)<d)=true:=by simpa using h2
  have Hz : Hid (1<=N->N<=64->(-1 : Int)=ry N d):=λh3 h4=>by
   rw [show wrap64 (N+1)=N+1 from lC (by omega)] at h2
   rw [ry,if_pos (.inr h2)]
  clear h1 h2
  go_wp2_with fail
  go_ret
  exact ⟨⟨-1,rfl,Hz.out⟩,hb⟩
 have d2 : decide (wrap64 (N+1)<d)=false:=by simpa using h2
 have Hz : Hid (1<=N->N<=64->wrap64 (d - 1)=ry N d):=λh3 h4=>by
  rw [show wrap64 (N+1)=N+1 from lC (by omega)] at h2
  rw [ry,if_neg (by omega)]
  exact lC (by omega)
 clear h1 h2
 go_wp2_with fail
 go_ret
 exact ⟨⟨_,rfl,Hz.out⟩,hb⟩
def Gr (K : Int) (Q : Lz) (W : Int) : Bool:=decide (0<=K) && decide (K<=64) && decide (0<=W) && decide (W<=K) && decide (Q.length<=64)
def flTo (K W : Int) (Q : Lz) : Nat->Int
 | 0=>0
 | k+1=>flTo K W Q k+max 0 (W+1 - (K - nth Q k))
def uA (K : Int) (x : Int) : Bool:=decide (0<=x) && decide (x<=K)
def uE (K : Int) (Q : Lz) (W : Int) : Int × Int:=if Gr K Q W=true/\Q.all (uA K)=true then (flTo K W Q Q.length,0) else (0,6)
theorem wV {K W : Int} {Q : Lz} (hK : 0<=K/\K<=64) (hW : 0<=W/\W<=K) (hQ : Q.all (uA K)=true) : ∀k,k<=Q.length->0<=flTo K W Q k/\flTo K W Q k<=200 * k
 | 0,_=>by simp [flTo]
 | k+1,h=>by
  have ih:=wV hK hW hQ k (by omega)
  have hq:=List.all_eq_true.1 hQ _ (aN (i:=k) (by omega))
  unfold uA at hq
  simp only [Bool.and_eq_true,decide_eq_true_eq] at hq
  rw [flTo]
  omega
theorem Dh (K : Int) (a : OA) (n c : Nat) (Q : Lz) (X : Int) (w : World) (hi : Ints w a n Q) :
  Calls Tryz.prog 102 #[.int .i64 K,.slice a n c,.int .i64 X] w λe w'=>e = .returned (.tuple #[.int .i64 (uE K Q X).1,.int .i64 (uE K Q X).2])/\w'=w:=by
 have Hl:=Z5 hi.len
 have hpl:=hi.pl
 have hmax:=hi.max
 unfold maxLen at hmax
 go_enter Tryz.func102,Tryz.ntmps102
 go_upto_region 1 with fail
 have bad : Gr K Q X=false->uE K Q X=(0,6):=λh=>by rw [uE,if_neg (by rw [h];simp)]
 have Hbad:=Z5 bad
 clear bad
 have hfl : Gr K Q X=(decide (0<=K) && decide (K<=64) && decide (0<=X) && decide (X<=K) && decide (n<=64)):=by rw [Gr,Hl.out]
 by_cases h1 : K<0
 ·have d1 : decide (K<0)=true:=by simpa using h1
  have HV:=Z5 (Hbad.out (by rw [hfl];simp;omega))
  clear h1 hfl
  go_wp2_with fail
  go_ret2
  exact ⟨by rw [HV.out];rfl,rfl⟩
 have d1 : decide (K<0)=false:=by simpa using h1
 by_cases h2 : 64<K
 ·have d2 : decide (64<K)=true:=by simpa using h2
  have HV:=Z5 (Hbad.out (by rw [hfl];simp;omega))
  clear h1 h2 hfl
  go_wp2_with fail
  go_ret2
  exact ⟨by rw [HV.out];rfl,rfl⟩
 have d2 : decide (64<K)=false:=by simpa using h2
 by_cases h3 : X<0
 ·have d3 : decide (X<0)=true:=by simpa using h3
  have HV:=Z5 (Hbad.out (by rw [hfl];simp;omega))
  clear h1 h2 h3 hfl
  go_wp2_with fail
  go_ret2
  exact ⟨by rw [HV.out];rfl,rfl⟩
 have d3 : decide (X<0)=false:=by simpa using h3
 by_cases h4 : K<X
 ·have d4 : decide (K<X)=true:=by simpa using h4
  have HV:=Z5 (Hbad.out (by rw [hfl];simp;omega))
  clear h1 h2 h3 h4 hfl
  go_wp2_with fail
  go_ret2
  exact ⟨by rw [HV.out];rfl,rfl⟩
 have d4 : decide (K<X)=false:=by simpa using h4
 by_cases h5 : 64<n
 ·have d5 : decide ((64 : Int)<n)=true:=by simp;omega
  have HV:=Z5 (Hbad.out (by rw [hfl];simp;omega))
  clear h1 h2 h3 h4 h5 hfl
  go_wp2_with fail
  go_ret2
  exact ⟨by rw [HV.out];rfl,rfl⟩
 have d5 : decide ((64 : Int)<n)=false:=by simp;omega
 have HB : Hid (Gr K Q X=true):=by show _=_;rw [hfl];simp;omega
 have HV2 : Hid (uE K Q X=if Q.all (uA K)=true then (flTo K X Q n,0) else (0,6)):=by
  show _=_
  rw [uE,HB.out,Hl.out]
  simp
 clear hfl
 go_wp2_with fail
 go_loop [8,33] (λsv iv=>∃k : Nat,k<=n/\iv = .int .i64 k/\sv = .int .i64 (flTo K X Q k)/\Hid (∀j,j<k->uA K (nth Q j)=true)) (λ_ iv=>n - (intOf iv).toNat)
 case atStart=>exact ⟨0,Nat.zero_le _,rfl,rfl,λj hj=>by omega⟩
 case round =>
  obtain ⟨k,hk,rfl,rfl,hall⟩:=hrel
  have hbd : 0<=flTo K X Q k/\flTo K X Q k<=200 * k:=by
   have h:=wV (K:=K) (W:=X) (Q:=Q.take k) (by omega) (by omega) (by
    rw [List.all_eq_true]
    intro x hx
    obtain ⟨j,hj,rfl⟩:=List.mem_iff_getElem.1 hx
    rw [List.length_take] at hj
    have:=hall.out j (by omega)
    rwa [List.getElem_take,<- ai (by omega)]) k (by rw [List.length_take];have:=Hl.out;omega)
   have he : ∀j,j<=k->flTo K X (Q.take k) j=flTo K X Q j:=λj=>by
    induction j with
    | zero=>intro _;rfl
    | succ j ih =>
     intro hj
     have e : nth (Q.take k) j=nth Q j:=by unfold nth;simp only [List.getD_eq_getElem?_getD,List.getElem?_take];rw [if_pos (by omega)]
     rw [flTo,flTo,ih (by omega),e]
   rwa [he k (Nat.le_refl _)] at h
  by_cases hlt : k<n
  ·have ck:=hi.cell k hlt
   have Hst : Hid (flTo K X Q (k+1)=flTo K X Q k+max 0 (X+1 - (K - nth Q k))):=rfl
   have Hx : Hid (∀y,nth Q k=y->uA K y=true->∀j,j<k+1->uA K (nth Q j)=true):=λy hy h j hj=>by
    by_cases e : j=k
    ·subst e;rw [hy];exact h
    ·exact hall.out j (by omega)
   have Hno : Hid (uA K (nth Q k)=false->uE K Q X=(0,6)):=λh=>by
    rw [HV2.out,if_neg]
    intro h2
    have:=List.all_eq_true.1 h2 _ (aN (i:=k) (by rw [Hl.out];exact hlt))
    rw [h] at this
    exact absurd this (by decide)
   obtain ⟨y,hy⟩ : ∃y,nth Q k=y:=⟨_,rfl⟩
   have Hx2:=λh=>Hx.out y hy h
   rw [hy] at ck Hno Hst
   clear hy Hx
   by_cases q1 : y<0
   ·have e1 : decide (y<0)=true:=by simpa using q1
    have HV:=Z5 (Hno.out (by unfold uA;simp;omega))
    clear q1 Hx2 hbd
    go_wp2_with fail
    go_ret2
    exact ⟨by rw [HV.out];rfl,rfl⟩
   have e1 : decide (y<0)=false:=by simpa using q1
   by_cases q2 : K<y
   ·have e2 : decide (K<y)=true:=by simpa using q2
    have HV:=Z5 (Hno.out (by unfold uA;simp;omega))
    clear q1 q2 Hx2 hbd
    go_wp2_with fail
    go_ret2
    exact ⟨by rw [HV.out];rfl,rfl⟩
   have e2 : decide (K<y)=false:=by simpa using q2
   have Hx3:=Z5 (Hx2 (by unfold uA;simp;omega))
   clear Hx2
   have k1 : IntKind.i64.wrap (X+1)=X+1:=IntWalk.i64_in _ (by omega)
   have k2 : IntKind.i64.wrap (K - y)=K - y:=IntWalk.i64_in _ (by omega)
   have k3 : IntKind.i64.wrap (X+1 - (K - y))=X+1 - (K - y):=IntWalk.i64_in _ (by omega)
   have k4 : IntKind.i64.wrap (flTo K X Q k+max 0 (X+1 - (K - y)))=flTo K X Q k+max 0 (X+1 - (K - y)):=IntWalk.i64_in _ (by omega)
   rw [<- Ax] at k4
   rw [<- Ax] at Hst
   clear hbd
   generalize flTo K X Q k=t at *
   go_wp2_with fail
   go_round
   case rel=>exact ⟨k+1,by omega,by go_num,by first | (rw [Hst.out,show (if K - y<X+1 then X+1 - (K - y) else 0)=(if 0<X+1 - (K - y) then X+1 - (K - y) else 0) from by split <;> split <;> omega];exact congrArg (Value.int .i64) ((IntWalk.i64_left _).symm.trans k4)) | (rw [Hst.out,<- Ax];exact congrArg (Value.int .i64) ((IntWalk.i64_left _).symm.trans k4)) | (rw [Hst.out,show max 0 (X+1 - (K - y))=(if 0<X+1 - (K - y) then X+1 - (K - y) else 0) from by omega];exact congrArg (Value.int .i64) ((IntWalk.i64_left _).symm.trans k4)),Hx3.out⟩
   case measure=>simp [intOf] <;> omega
  ·obtain rfl : k=n:=by omega
   have HV : Hid (uE K Q X=(flTo K X Q k,0)):=by
    show _=_
    rw [HV2.out,if_pos]
    rw [List.all_eq_true]
    intro x hx
    obtain ⟨j,hj,rfl⟩:=List.mem_iff_getElem.1 hx
    have:=hall.out j (by have:=Hl.out;omega)
    rwa [ai hj] at this
   clear hbd
   go_wp2_with fail
   go_ret2
   exact ⟨by rw [HV.out];rfl,rfl⟩
section
open Go.RowKit
end
theorem F4 {P M : Int} {mod : Lz} {N : Int} {L : Ll} {Q : Lz} (h : dR P M mod N L Q=0) : Av P M mod N L Q=rh (aa P M.toNat mod).ops L Q:=by
 unfold Av rh
 rw [h]
 by_cases h1 : (i7 (aa P M.toNat mod).ops L Q).length=Q.length
 ·rw [h1];simp
 ·simp [h1]
section
open Go.RowKit
end
section
open Go.RowKit
end
section
open Go.RowKit
end
theorem vw (O : aQ) (L : Ll) (Q : Lz) {k : Nat} : ∀d,∀x ∈ (cI O L Q k).2,x ∈ (cI O L Q (k+d)).2
 | 0,x,hx=>hx
 | d+1,x,hx=>by
  have h:=vw O L Q d x hx
  rw [<- Nat.add_assoc,cI]
  split
  ·exact List.mem_append.2 (.inl h)
  ·exact h
theorem qA (O : aQ) (L : Ll) (Q : Lz) : ∀k,k<=Q.length->∀x ∈ (cI O L Q k).2,x ∈ Q.take k
 | 0,_,x,hx=>by simp [cI] at hx
 | k+1,hk,x,hx=>by
  have e : Q.take (k+1)=Q.take k ++ [nth Q k]:=by rw [List.take_succ_eq_append_getElem (by omega),ai (by omega)]
  rw [e,List.mem_append]
  rw [cI] at hx
  split at hx
  ·rcases List.mem_append.1 hx with hx | hx
   ·exact .inl (qA O L Q k (by omega) x hx)
   ·exact .inr hx
  ·exact .inl (qA O L Q k (by omega) x hx)
theorem Dt {U S : Lz} (h : dI U S S.length=0) : ∀x ∈ S,x ∈ U:=λx hx=>by
 rw [ka _ _ _ (Nat.le_refl _),List.take_of_length_le (Nat.le_refl _)] at h
 have h0 : S.countP (λx=>decide (¬ x ∈ U))=0:=by omega
 rw [List.countP_eq_zero] at h0
 have:=h0 x hx
 simpa using this
theorem Dp (m : Nat) (U : Lz) : rJ m (fA m U):=by
 have h1 : (fA m U).Nodup:=by
  rw [fA,List.nodup_append]
  refine ⟨(gO false U m).imp λh=>by omega,(gO true U m).imp λh=>by omega,λx hx y hy e=>?_⟩
  subst e
  obtain ⟨j,_,e1,h1⟩:=(cJ m).1 hx
  obtain ⟨i,_,e2,h2⟩:=(cJ m).1 hy
  obtain rfl : i=j:=by omega
  rw [h1] at h2;exact absurd h2 (by decide)
 refine (List.perm_ext_iff_of_nodup h1 ?_).2 λx=>?_
 ·rw [List.nodup_iff_pairwise_ne,List.pairwise_map]
  exact List.nodup_range.imp λh e=>h (Int.ofNat.inj e)
 ·rw [uy,List.mem_map]
  constructor
  ·rintro ⟨j,hj,rfl⟩;exact ⟨j,List.mem_range.2 hj,rfl⟩
  ·rintro ⟨j,hj,rfl⟩;exact ⟨j,List.mem_range.1 hj,rfl⟩
section
variable {O : aQ} {El : Int->Prop} {m : Nat} {L : Ll}
theorem yX (F : cK O El) {x : Nat} (h : nR O El L.length (bf L) [] x) : ∀i,i<L.length->nth (aj L i) x=0:=λi hi=>by
 have h1:=h _ (kc.zD F hi) (by simp)
 rwa [cZ _ _ _ hi] at h1
theorem IB (F : cK O El) (hL : bH El m L) {U : Lz} (h : dI U (cX O L m U) (cX O L m U).length=0) {j : Nat} (hj : j<m) (hjU : ¬ (j : Int) ∈ U) : ∀i,i<L.length->nth (aj L i) j=0:=by
 have h1:=Dt h
 have hk : (frTo false U m).length<=(fA m U).length:=by rw [fA,List.length_append];omega
 have htk : (fA m U).take (frTo false U m).length=frTo false U m:=by rw [fA,List.take_left'];rfl
 have hnil : (cI O L (fA m U) (frTo false U m).length).2=[]:=by
  rw [List.eq_nil_iff_forall_not_mem]
  intro x hx
  have h2:=qA O L (fA m U) _ hk x hx
  rw [htk] at h2
  obtain ⟨i,_,rfl,h3⟩:=(cJ m).1 h2
  have h4:=vw O L (fA m U) ((fA m U).length - (frTo false U m).length) _ hx
  rw [show (frTo false U m).length+((fA m U).length - (frTo false U m).length)=(fA m U).length by omega] at h4
  have h5:=h1 _ h4
  simp at h3
  exact h3 h5
 have h6:=(xx F hL (fA m U) (frTo false U m).length).2.2 j (by
  rw [gV]
  have hm : (j : Int) ∈ frTo false U m:=(cJ m).2 ⟨j,hj,rfl,by simpa using hjU⟩
  obtain ⟨i,hi,e⟩:=List.mem_iff_getElem.1 hm
  refine ⟨i,hi,?_⟩
  have e2 : nth (fA m U) i=nth (frTo false U m) i:=by rw [<- htk,mB hi]
  rw [e2,ai hi,e]
  simp)
 rw [hnil] at h6
 exact yX F h6
def qx (O : aQ) (L : Ll) (m : Nat) : Lz->List (Lz × Int)->Prop
 | U,[]=>∀j,j<m->¬ (j : Int) ∈ U->∀i,i<L.length->nth (aj L i) j=0
 | U,t :: T=>bF m t.1=true/\rh O L t.1=true/\1<=t.2/\t.2=dI U t.1 t.1.length/\qx O L m (U ++ t.1) T
theorem vL {P M : Int} {mod : Lz} (hE : aL P M mod m L=0) : ∀(f : Nat) (U : Lz) (T0 : List (Lz × Int)),(frTo false U m).length<f ->
  ∃T,famGo (aa P M.toNat mod).ops L m f U T0=T0 ++ T/\qx (aa P M.toNat mod).ops L m U T/\T.length<=(frTo false U m).length
 | 0,_,_,h=>by omega
 | f+1,U,T0,h=>by
  obtain ⟨N',e,hm1,hm64,F,hR⟩:=ba hE
  obtain rfl : m=N':=by omega
  rw [famGo]
  by_cases h0 : dI U (cX (aa P M.toNat mod).ops L m U) (cX (aa P M.toNat mod).ops L m U).length=0
  ·rw [if_pos h0]
   exact ⟨[],by simp,λj hj hjU=>IB F hR h0 hj hjU,by simp⟩
  ·rw [if_neg h0]
   have hless:=tU h0
   obtain ⟨T,h1,h2,h3⟩:=vL hE f (U ++ bP (cX (aa P M.toNat mod).ops L m U)) (T0 ++ [(bP (cX (aa P M.toNat mod).ops L m U),dI U (cX (aa P M.toNat mod).ops L m U) (cX (aa P M.toNat mod).ops L m U).length)]) (by omega)
   obtain ⟨p1,p2⟩:=Fy hE (Dp m U)
   have hbd:=nf U (cX (aa P M.toNat mod).ops L m U) (cX (aa P M.toNat mod).ops L m U).length
   refine ⟨(bP (cX (aa P M.toNat mod).ops L m U),dI U (cX (aa P M.toNat mod).ops L m U) (cX (aa P M.toNat mod).ops L m U).length) :: T,by rw [h1];simp,⟨p1,p2,by omega,?_,h2⟩,by simp;omega⟩
   exact (vV (dw _)).symm
theorem fg {P M : Int} {mod : Lz} (hE : aL P M mod m L=0) : qx (aa P M.toNat mod).ops L m [] (fu (aa P M.toNat mod).ops L m)/\(fu (aa P M.toNat mod).ops L m).length<=m:=by
 have hl : (frTo false [] m).length<=m:=eQ _ _ _
 obtain ⟨T,h1,h2,h3⟩:=vL hE (m+1) [] [] (by omega)
 rw [fu,h1,List.nil_append]
 exact ⟨h2,by omega⟩
end
def bw (x : Lz) : Nat:=x.countP λy=>decide (y ≠ 0)
section
open Go.RowKit
end
section
open Go.RowKit
end
section
open Go.RowKit
end
section
open Go.RowKit
end
end Go.Proofs.YtcfmiocdlcapoaaGreat
