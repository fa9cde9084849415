import Derived.Test.YtcfmiocdlcapoaaGreatHBS9
import Derived.Test.YtcfmiocdlcapoaaGreatHBS18
namespace Go.Proofs.YtcfmiocdlcapoaaGreat
set_option linter.all false
set_option maxRecDepth 100000
set_option maxHeartbeats 8000000
open Go.RowKit Tryz
def iR (D U : ZZ) : ZZ:=List.zipWith (λr s=>r ++ s) D U
theorem lp {k : Nat} : ∀ {D U : ZZ},D.length=U.length->(∀r ∈ D,r.length=k)->(iR D U).map (List.take k)=D
 | [],[],_,_=>rfl
 | [],_ :: _,h,_=>by simp at h
 | _ :: _,[],h,_=>by simp at h
 | r :: D,u :: U,h,hr=>by have ih:=lp (k:=k) (D:=D) (U:=U) (by simpa using h) λx hx=>hr x (Ni _ hx);unfold iR at ih ⊢;rw [NX,Nc,ih];have:=hr r (Nl ..);rw [<- this,QI];rfl
theorem nP {k : Nat} : ∀ {D U : ZZ},D.length=U.length->(∀r ∈ D,r.length=k)->(iR D U).map (List.drop k)=U
 | [],[],_,_=>rfl
 | [],_ :: _,h,_=>by simp at h
 | _ :: _,[],h,_=>by simp at h
 | r :: D,u :: U,h,hr=>by have ih:=nP (k:=k) (D:=D) (U:=U) (by simpa using h) λx hx=>hr x (Ni _ hx);unfold iR at ih ⊢;rw [NX,Nc,ih];have:=hr r (Nl ..);rw [<- this,List.drop_left'];rfl
theorem mK {El : Int->Prop} {k m : Nat} : ∀ {D U : ZZ},bx El k D->bx El m U->bx El (k+m) (iR D U)
 | [],_,_,_=>λr hr=>by simp [iR] at hr
 | _ :: _,[],_,_=>λr hr=>by simp [iR] at hr
 | d :: D,u :: U,hD,hU=>by
  have ih:=mK (D:=D) (U:=U) (λr hr=>hD r (Ni _ hr)) (λr hr=>hU r (Ni _ hr));intro r hr;unfold iR at hr ih;rw [NX] at hr;rcases List.mem_cons.1 hr with rfl | hr
  ·have h1:=hD d (Nl ..);have h2:=hU u (Nl ..);refine ⟨by rw [Mp,h1.1,h2.1],λx hx=>?_⟩;rcases List.mem_append.1 hx with hx | hx
   ·exact h1.2 x hx
   ·exact h2.2 x hx
  ·exact ih r hr
theorem tX {El : Int->Prop} (h0 : El 0) (h1 : El 1) (n : Nat) : bx El n (fN n):=λr hr=>by
 unfold fN at hr;obtain ⟨i,_,rfl⟩:=List.mem_map.1 hr;refine ⟨kE n i,λx hx=>?_⟩;unfold fi at hx;rcases Ny hx with hx | rfl
 ·rw [NC hx];exact h0
 ·exact h1
def oW (O : aJ) (D : ZZ) (k : Nat) : ZZ:=(aC O (iR D (fN k)) k).1.map (List.drop k)
theorem FL (O : aJ) {D : ZZ} {k : Nat} (h : D.length=k) : (oW O D k).length=k:=by unfold oW;rw [Mx,cN];simp [iR,cW,h]
theorem zE (P M : Int) (am : OA) (mn cm : Nat) (mod : Lz) (k : Nat) (a : OA) (c : Nat) (D : ZZ) (w : World) (hmod : Ints w am mn mod) (hi : cU w a k D)
  (hB : bQ P M mod=true) (hR : bx (aa P M.toNat mod).El k D) (hk : k<=64) (hpv : (aC (aa P M.toNat mod).ops (iR D (fN k)) k).2.length=k) :
  Calls prog 168 #[.agg #[.int .i64 P,.int .i64 M,.slice am mn cm],.agg #[.int .i64 k,.slice a k c]] w
   λe w'=>∃a1 c1,e = .returned (.tuple #[.agg #[.int .i64 k,.slice a1 k c1],.int .i64 0])/\bX w.heap.size w' a1 k (oW (aa P M.toNat mod).ops D k)/\Rs w w':=by
 have hDl:=hi.len;have F:=jy hB;have hmE : eZ (aa P M.toNat mod).q k D=0:=by have h:=sD hB (show k<=256 by omega) (show D.length<=256 by omega) hR;exact (fF h).2
 have hJr:=mK hR (tX F.zero F.one k);have hJt:=lp (U:=fN k) (by rw [cW];exact hDl) (λr hr=>(hR r hr).1);have hJd:=nP (U:=fN k) (by rw [cW];exact hDl) (λr hr=>(hR r hr).1);have hpla:=hi.pl;have HDr : Hid (∀l ∈ D,l.length<=1000000):=λl hl=>by rw [(hR l hl).1];omega
 obtain ⟨G,hGG⟩ : ∃G,aa P M.toNat mod=G:=⟨_,rfl⟩
 unfold oW;obtain ⟨J,hJ⟩ : ∃J,iR D (fN k)=J:=⟨_,rfl⟩
 rw [hGG,hJ] at hpv hJr;rw [hJ] at hJt hJd;rw [hGG,hJ];have HJ:=Z5 (My hJr (My hJt hJd));have Hpv:=Z5 hpv;have HDl:=Z5 hDl;have HGG:=Z5 hGG;have HB:=Z5 hB;have HmE:=Z5 hmE;clear hJr hJt hJd hpv hDl hGG F hR hJ hB hmE;go_enter func168,ntmps168;go_wp2_with fail;obtain ⟨W,hW⟩ : ∃W : World,W=((((w.alloc (.cells #[.int .i64 P,.int .i64 M,.slice am mn cm] 24)).alloc (.cells #[.int .i64 k,.slice a k c] 82)).alloc (.cells #[.int .i64 0,.slice none 0 0] 82)).alloc (.cells #[.int .i64 k,.slice a k c] 82)):=⟨_,rfl⟩
 rw [<- hW];have hbW : Rs w W:=by rw [hW];exact ((((Mi _ _).alloc (Mf _) _).alloc (by simp) _).alloc (by simp;omega) _).alloc (by simp;omega) _
 have hsW : W.heap.size=w.heap.size+4:=by rw [hW];simp
 have x1 : bf W (w.heap.size+1) [.int .i64 k,.slice a k c]:=by rw [hW];exact ((QS _ _ _ (by simp)).alloc _).alloc _
 have x2 : bf W (w.heap.size+1+1) [.int .i64 0,.slice none 0 0]:=by rw [hW];exact (QS _ _ _ (by simp)).alloc _
 have q3 : W.cell? ⟨w.heap.size+1+1+1,0,none⟩=some (.int .i64 k)/\W.cell? ⟨w.heap.size+1+1+1,1,none⟩=some (.slice a k c):=by rw [hW];exact ⟨aE _ _ _ (by simp) 0,aE _ _ _ (by simp) 1⟩
 have hMs : uE W (some ⟨w.heap.size+1+1+1,0,none⟩) 1 [((k : Int),D)]:=⟨rfl,λ_=>rfl,by unfold maxLen;omega,λi hi'=>by
  have : i=0:=by simp at hi';omega
  subst this;exact ⟨a,k,c,by simpa using q3.1,by simpa using q3.2,hi.ah hbW⟩⟩
 have HX:=Z5 (My x1 x2);have HsW:=Z5 hsW;have HbW:=Z5 hbW;clear hW hsW x1 x2 q3;refine (kH P M am mn cm mod _ 1 1 _ W (hmod.ah hbW) hMs).mono ?_;rintro e w1 ⟨hb1,hcase⟩;rw [jq] at hcase;rcases hcase with ⟨hB,_⟩ | ⟨_,er,h0,h1,_⟩ | ⟨_,_,b,rfl,hG,hbl⟩
 ·rw [HB.out] at hB;exact absurd hB (by decide)
 ·rw [HmE.out] at h1;exact absurd h1.symm h0
 rw [HGG.out] at hG;have hbw1:=QQ hbW hb1;have r1:=HX.out.1.ah hb1;have m0:=r1.cell 0 rfl;have m1:=r1.cell 1 rfl;have hkk : ((k : Int) != k)=false:=by simp
 have hi1:=hi.ah hbw1;clear hMs hbW r1 hbl hmod hi;go_wp2_with fail;refine (GB k w1 (by omega)).mono ?_;rintro e w2 ⟨ae,ce,S,rfl,hOu,hb2⟩;rw [cW] at hOu ⊢;have HS : Hid (∀V,Rs w2 V->V.cell? ⟨w.heap.size+1,0,none⟩=some (.int .i64 k)/\V.cell? ⟨w.heap.size+1,1,none⟩=some (.slice a k c)):=λV hV=>by have r2:=HX.out.1.ah (QQ (QQ hb1 hb2) hV);exact ⟨r2.cell 0 rfl,r2.cell 1 rfl⟩
 have Hcl : Hid (∀V,Rs w2 V->Calls prog 213 #[.slice a k c] V λe w'=>∃a1 c1 R,e = .returned (.slice a1 k c1)/\aY w' V.heap.size a1 k c1 R D/\Rs V w'):=λV hV=>by refine (vw a k c D (hi1.ah (QQ hb2 hV)) (by omega) HDr.out).mono ?_;rintro e w' ⟨a1,c1,R,rfl,h1,h2⟩;rw [HDl.out] at h1 ⊢;exact ⟨a1,c1,R,rfl,h1,h2⟩
 have Hel : Hid (∀V V2 a1 c1 R,Rs w2 V->aY V2 V.heap.size a1 k c1 R D->Rs V V2->∀V3,Rs V2 V3 ->
   Calls prog 214 #[.pointer (some ⟨b,0,none⟩),.slice a1 k c1,.int .i64 k,.slice ae k ce] V3 λe w'=>∃ap cp d,e = .returned (.tuple #[.slice ap k cp,.int .i64 d]) /\
    bX w1.heap.size w' ae k ((aC G.ops J k).1.map (List.drop k))/\Rs w1 w'):=λV V2 a1 c1 R hV hO hV2 V3 hV3=>by
  have hb13 : Rs w1 V3:=QQ (QQ hb2 hV) (QQ hV2 hV3);have hsz2:=hb2.size;have hszV:=hV.size;have hO2 : dU V3 w1.heap.size a1 k c1 R ae ce S k J:=by refine ⟨by rw [HJ.out.2.1];exact (hO.ah hV3).mono (by omega),by rw [HJ.out.2.2];exact (hOu.ah (QQ hV (QQ hV2 hV3))),λx hx hx2=>?_⟩;have h1:=(hO.lt x hx).1;have h2:=(hOu.lt x hx2).2;omega
  refine (tF w1 a1 k c1 k k (k+k) R ae ce S J hG hb13 hO2 HJ.out.1 (Mf _) (by omega) (by omega) (by omega)).mono ?_;rintro e w' ⟨R',S',ap,cp,d,rfl,hO',_,_,hb'⟩;exact ⟨ap,cp,d,by rw [Hpv.out],Ro hO'.om2,hb'⟩
 obtain ⟨k0,k1⟩:=HS.out w2 (Mi _ _);have HbW1:=Z5 (My hb1 hbw1);clear hOu hi1 hG m0 m1 hb1 hbw1;go_wp2_with fail;go_cut [9] (λv wx=>∃ap cp,v = .slice ap k cp/\bX w1.heap.size wx ae k ((aC G.ops J k).1.map (List.drop k))/\Rs w1 wx);case first =>
  go_region_law ((first
   | (go_simp;go_at_call 213;((with_reducible refine (Hcl.out _ (Mi _ _).drew).mono ?_);rintro e w4 ⟨a4,c4,R4,rfl,hO4,hb4⟩;obtain ⟨k0,k1⟩:=HS.out w4 (QQ (Mi _ _).drew hb4)))
   | (go_simp;go_at_call 214;((with_reducible refine (Hel.out _ w4 a4 c4 R4 (Mi _ _).drew hO4 hb4 _ (by first | exact Mi _ _ | exact (Mi _ _).drew)).mono ?_);rintro e w5 ⟨ap,cp,d,rfl,hM5,hb5⟩))))
  all_goals (
   go_wp2_with fail
   go_meet
   exact ⟨ap,cp,rfl,hM5,hb5⟩)
 obtain ⟨ap,cp,rfl,hM,hbc⟩:=hcut;generalize wc=U at *;have r2:=HX.out.1.ah (QQ HbW1.out.1 hbc);have k0':=r2.cell 0 rfl;have z6:=HX.out.2.ah (QQ HbW1.out.1 hbc);have z0:=z6.cell 0 rfl;have z1:=z6.cell 1 rfl;have f0:=z6.frozen 0;have f1:=z6.frozen 1;have hs:=HsW.out;have hs1:=HbW1.out.1.size;have HF:=Z5 (My (((hM.setCell (p:=⟨w.heap.size+1+1,0,none⟩) (by simp;omega) (.int .i64 k)).setCell (p:=⟨w.heap.size+1+1,1,none⟩) (by simp;omega) (.slice ae k ce)).mono (show w.heap.size<=w1.heap.size by omega))
  (((QQ HbW1.out.2 hbc).setCell (p:=⟨w.heap.size+1+1,0,none⟩) (by simp;omega) (.int .i64 k)).setCell (p:=⟨w.heap.size+1+1,1,none⟩) (by simp;omega) (.slice ae k ce)))
 clear hM z6 r2 k0 k1 HS Hcl Hel;go_wp2_with fail;exact bodyPost_ret (v:=.tuple #[.agg #[.int .i64 k,.slice ae k ce],.int .i64 0]) (by simp [results,results168,go_sem,z0,z1]) rfl ⟨ae,ce,rfl,HF.out.1,HF.out.2⟩
def AG (n : Nat) (Q : Lz) (L : ZZ) (w : World) (e : Ending) (w' : World) : Prop :=
 ∃a1 c1,e = .returned (.tuple #[.agg #[.int .i64 Q.length,.slice a1 n c1],.int .i64 0])/\bX w.heap.size w' a1 n (L.map (aO Q))/\Rs w w'
theorem qG (P M : Int) (am : OA) (mn cm : Nat) (mod : Lz) (m : Nat) (a : OA) (n c : Nat) (L : ZZ) (ao : OA) (no co : Nat) (Q : Lz) (w : World) (hmod : Ints w am mn mod) (hi : cU w a n L) (hq : Ints w ao no Q)
  (hE : aH P M mod m L=0) (hQ : qW m Q) (hno : no<=256) :
  Calls prog 155 #[.agg #[.int .i64 P,.int .i64 M,.slice am mn cm],.agg #[.int .i64 m,.slice a n c],.slice ao no co] w (AG n Q L w):=by
 have Hlen:=Z5 hi.len;have Hql:=Z5 hq.len;have hplq:=hq.pl;have hpla:=hi.pl;obtain ⟨N',e,hm1,hm64,F,hR⟩:=aS hE;obtain rfl : m=N':=by omega
 have hL256:=(eJ hE).choose_spec.2.2.2.1;have hn : n<=256:=by rw [<- hi.len];exact hL256
 obtain ⟨h5,h6⟩:=dK (bL hE).2.2.2;obtain ⟨hfB,h8⟩:=fF h5;have HLl : Hid (∀k,k<n->(ai L k).length=m):=λk hk=>(hR.row (i:=k) (by rw [hi.len];exact hk)).1;have HQ:=Z5 hQ;obtain ⟨L2,hL2⟩ : ∃L2,L.map (aO Q)=L2:=⟨_,rfl⟩
 have HL2l : Hid (L2.length=n):=by show _=_;rw [<- hL2,Mx];exact Hlen.out
 have HLk : Hid (∀k,k<n->L2.take (k+1)=L2.take k ++ [aO Q (ai L k)]):=λk hk=>by
  have hk' : k<L2.length:=by rw [HL2l.out];exact hk
  rw [Mu hk',<- aF hk',<- hL2,Ac _ L (by rw [Hlen.out];exact hk)]
 unfold AG;rw [hL2,Hql.out];clear hE h5 h6 e hL256 F hR hQ hL2;go_enter func155,ntmps155;go_wp2_with fail;obtain ⟨W,hW⟩ : ∃W : World,W=((((w.alloc (.cells #[.int .i64 P,.int .i64 M,.slice am mn cm] 24)).alloc (.cells #[.int .i64 m,.slice a n c] 82)).alloc (.cells #[.int .i64 0,.slice none 0 0] 82)).alloc (.cells #[.int .i64 m,.slice a n c] 82)):=⟨_,rfl⟩
 rw [<- hW];have hbW : Rs w W:=by rw [hW];exact ((((Mi _ _).alloc (Mf _) _).alloc (by simp) _).alloc (by simp;omega) _).alloc (by simp;omega) _
 have hsW : W.heap.size=w.heap.size+4:=by rw [hW];simp
 have x1 : bf W (w.heap.size+1) [.int .i64 m,.slice a n c]:=by rw [hW];exact ((QS _ _ _ (by simp)).alloc _).alloc _
 have x2 : bf W (w.heap.size+1+1) [.int .i64 0,.slice none 0 0]:=by rw [hW];exact (QS _ _ _ (by simp)).alloc _
 have q3 : W.cell? ⟨w.heap.size+1+1+1,0,none⟩=some (.int .i64 m)/\W.cell? ⟨w.heap.size+1+1+1,1,none⟩=some (.slice a n c):=by rw [hW];exact ⟨aE _ _ _ (by simp) 0,aE _ _ _ (by simp) 1⟩
 have hMs : uE W (some ⟨w.heap.size+1+1+1,0,none⟩) 1 [((m : Int),L)]:=⟨rfl,λ_=>rfl,by unfold maxLen;omega,λi hi'=>by
  have : i=0:=by simp at hi';omega
  subst this;exact ⟨a,n,c,by simpa using q3.1,by simpa using q3.2,hi.ah hbW⟩⟩
 have HX:=Z5 (My x1 x2);have HsW:=Z5 hsW;have HbW:=Z5 hbW;clear hW hsW x1 x2 q3;refine (kH P M am mn cm mod _ 1 1 _ W (hmod.ah hbW) hMs).mono ?_;rintro e w1 ⟨hb1,hcase⟩;rw [jq] at hcase;rcases hcase with ⟨hB,_⟩ | ⟨_,er,h0,h1,_⟩ | ⟨_,_,b,rfl,hG,hbl⟩
 ·rw [hfB] at hB;exact absurd hB (by decide)
 ·rw [h8] at h1;exact absurd h1.symm h0
 have hbw1:=QQ hbW hb1;have r1:=HX.out.1.ah hb1;have m0:=r1.cell 0 rfl;have m1:=r1.cell 1 rfl;have hq1:=hq.ah hbw1;have d256 : decide ((256 : Int)<no)=false:=by simp;omega
 clear hMs hfB h8 hbW r1 hG hbl;go_wp2_with fail;go_loop [35] (λiv=>∃k : Nat,k<=no/\iv = .int .i64 k) (λiv=>no - (intOf iv).toNat);case atStart=>exact ⟨0,Mj _,rfl⟩
 case round =>
  obtain ⟨k,hk,rfl⟩:=hrel
  by_cases hlt : k<no
  ·have cq:=hq1.cell k hlt
   have hb:=HQ.out k (by rw [Hql.out];exact hlt)
   have e1 : decide (nth Q k<0)=false:=by simp;omega
   have e2 : decide ((m : Int)<=nth Q k)=false:=by simp;omega
   clear hb
   go_wp2_with fail
   go_round
   case rel=>exact ⟨k+1,by omega,by go_num⟩
   case measure=>simp [intOf] <;> omega
  ·obtain rfl : k=no:=by omega
   go_upto_region 12 with fail
   obtain ⟨g,hg⟩ : ∃g,w1.heap.size=g:=⟨_,rfl⟩
   have HG:=Z5 hg
   clear hg
   go_cut [12] (λv wx=>v = .pointer (some ⟨w1.heap.size,0,none⟩)/\nI wx w1.heap.size (.int .i64 k) none 0 0 [] []/\Rs w1 wx)
   case first =>
    go_wp2_with fail
    go_meet
    exact ⟨rfl,nI.start (QS w1 [.int .i64 k,.slice none 0 0] _ rfl),aB _ _⟩
   obtain ⟨rfl,hO0,hbc⟩:=hcut
   generalize wc=U at *
   have hs3:=HG.out
   rw [hs3] at hO0 ⊢
   have HbU:=Z5 (QQ hb1 hbc)
   have r1:=HX.out.1.ah HbU.out
   clear m0 m1
   have m0:=r1.cell 0 rfl
   have m1:=r1.cell 1 rfl
   have hgU:=hO0.lt
   have hgW : W.heap.size<=g:=by have:=hb1.size;omega
   have hqU:=hq1.ah hbc
   clear r1 hbc hs3 hq1
   go_wp2_with fail
   clear m0 m1
   go_loopw [55] (λiv wr=>∃(j : Nat) (a1 : OA) (c1 : Nat) (Rr : Z4),j<=n/\iv = .int .i64 j/\nI wr g (.int .i64 k) a1 j c1 Rr (L2.take j)/\Below g U wr) (λiv _=>n - (intOf iv).toNat)
   case atStart=>exact ⟨0,none,0,[],Mj _,rfl,by simpa using hO0,Mi _ _⟩
   case round =>
    clear hO0
    obtain ⟨j,a1,c1,Rr,hj,rfl,hO,hbr⟩:=hrel
    have hbWr:=MS HbU.out (hbr.mono hgW)
    have hbwr:=QQ HbW.out hbWr
    have hgr:=hO.lt
    by_cases hltj : j<n
    ·obtain ⟨ra,rn,rc,hcell,hrow⟩:=(hi.ah hbwr).cell j hltj
     have hrn : rn=m:=by rw [<- hrow.len];exact HLl.out j hltj
     rw [hrn] at hcell hrow
     have Htk:=Z5 (HLk.out j hltj)
     obtain ⟨l,hl⟩ : ∃l,ai L j=l:=⟨_,rfl⟩
     rw [hl] at Htk hrow
     have hplr:=hrow.pl
     obtain ⟨pk,hpk⟩ : ∃pk,aO Q l=pk:=⟨_,rfl⟩
     have Hpk:=Z5 hpk
     have hpl : pk.length=k:=by rw [<- hpk];simp [aO];exact Hql.out
     have Hpl:=Z5 hpl
     clear hl hrn hpk hpl
     go_wp2_with (at_make;refine b9 rfl _ _ 22 3 rfl (.int .i64 0) 8 underlying22 bt rfl k rfl rfl (by omega) (by unfold maxLen;omega) ?_;intro a5 w5 hown hbel hge hlt5)
     have hown0 : w5.ownsRow wr.heap.size 3 1 (.slice a5 k k) k ((fA pk (List.replicate k 0) 0).map (Value.int .i64)):=by rw [eU,NR];exact hown
     clear hown hge hlt5 hcell
     generalize wr=X1 at *
     go_loopw [64] (λjv ws=>∃t : Nat,t<=k/\jv = .int .i64 t/\ws.ownsRow X1.heap.size 3 1 (.slice a5 k k) k ((fA pk (List.replicate k 0) t).map (Value.int .i64))/\Rs X1 ws) (λjv _=>k - (intOf jv).toNat)
     case atStart=>exact ⟨0,Mj _,rfl,hown0,hbel⟩
     case round =>
      clear hown0 hbel
      obtain ⟨t,ht,rfl,hown,hbs⟩:=hrel
      by_cases hltt : t<k
      ·have hbU1 : Rs w wr:=QQ hbwr hbs
       have cq:=(hq.ah hbU1).cell t hltt
       have hqb:=HQ.out t (by rw [Hql.out];exact hltt)
       obtain ⟨z,hz⟩ : ∃z : Nat,nth Q t=z:=⟨(nth Q t).toNat,by omega⟩
       have hzm : z<m:=by omega
       have cr:=(hrow.ah hbs).cell z hzm
       have Hst : Hid ((fA pk (List.replicate k 0) t).set t (nth l z)=fA pk (List.replicate k 0) (t+1)):=by show _=_;have h1:=eH pk (List.replicate k 0) t (by rw [Hpl.out,Nb]) (by rw [Nb];exact hltt);rw [<- Hpk.out,ed Q l (by rw [Hql.out];exact hltt),hz,Mm] at h1;rw [<- Hpk.out];exact h1
       rw [hz] at cq
       obtain ⟨hints,hmine⟩:=QR hown
       have hpl5:=hints.pl
       have cz:=hints.cell t hltt
       have fz:=(hmine (by omega)).2 t hltt
       have hB:=(hmine (by omega)).1
       clear hz hqb
       go_wp2_with fail
       go_roundw
       case rel =>
        have h:=bN hown t hltt (.int .i64 (nth l z))
        rw [<- MH,Hst.out] at h
        exact ⟨t+1,by omega,by go_num,h,hbs.setCell hB _⟩
       case measure=>simp [intOf] <;> omega
      ·obtain rfl : t=k:=by omega
       rw [fT pk (List.replicate t 0) t (by simp [Hpl.out]) (by simp)] at hown
       have hs:=hO.ah hbs
       have hOk:=hs.om.ah (aB wr (.cells #[.slice a5 t t] 22))
       have hcp:=hs.c1
       have hgs:=hs.lt
       go_wp2_with (at_builtin;refine bj rfl _ _ 25 22 rfl (.slice none 0 0) 24 underlying25 fg rfl (g+1) a1 j c1 _ rfl hOk.own ⟨wr.heap.size,0,none⟩ 1 (.slice a5 t t) rfl (bm wr _ _) rfl (by omega) (by unfold maxLen;omega) (by simp;omega) ?_;intro a6 c6 w6 hown6 hgr6 hap6;have hk6:=(hs.xX hgr6).2.1;have hf6:=(hs.xX hgr6).2.2)
       go_roundw
       case rel =>
        have hra : a5 ≠ none->¬ bS a1 Rr (an a5):=λh0 hI=>by have h1:=(aZ hown h0).1;have h2:=(hO.om.lt _ hI).2;omega
        obtain ⟨hP,hbP⟩:=hs.push Hpl.out (bg hown (by omega)) hra hown6 hgr6 hap6
        exact ⟨j+1,a6,c6,_,by omega,by go_num,by rw [Htk.out,Hpk.out];exact hP,MS hbr ((hbs.mono (by omega)).trans hbP)⟩
       case measure=>simp [intOf] <;> omega
    ·obtain rfl : j=n:=by omega
     rw [Ms (by rw [HL2l.out];exact Mf _)] at hO
     have g0:=hO.c0
     have g1:=hO.c1
     have z6:=HX.out.2.ah hbWr
     have z0:=z6.cell 0 rfl
     have z1:=z6.cell 1 rfl
     have f0:=z6.frozen 0
     have f1:=z6.frozen 1
     have hs:=HsW.out
     have hMN : bX (g+1) wr a1 j L2:=Ro hO.om
     have HF:=Z5 (My (((hMN.setCell (p:=⟨w.heap.size+1+1,0,none⟩) (by simp;omega) (.int .i64 k)).setCell (p:=⟨w.heap.size+1+1,1,none⟩) (by simp;omega) (.slice a1 j c1)).mono (show w.heap.size<=g+1 by omega))
      ((hbwr.setCell (p:=⟨w.heap.size+1+1,0,none⟩) (by simp;omega) (.int .i64 k)).setCell (p:=⟨w.heap.size+1+1,1,none⟩) (by simp;omega) (.slice a1 j c1)))
     clear hMN z6 hO
     go_wp2_with fail
     exact bodyPost_ret (v:=.tuple #[.agg #[.int .i64 k,.slice a1 j c1],.int .i64 0]) (by simp [results,results155,go_sem,z0,z1]) rfl ⟨a1,c1,rfl,HF.out.1,HF.out.2⟩
def pC (O : aJ) (m : Nat) (A B : ZZ) : ZZ:=A.map λr=>bK O m r B B.length
theorem Dg (P M : Int) (am : OA) (mn cm : Nat) (mod : Lz) (k : Nat) (a : OA) (n c : Nat) (A : ZZ) (m : Nat) (ab : OA) (cb : Nat) (B : ZZ) (w : World) (hmod : Ints w am mn mod) (hi : cU w a n A) (hb : cU w ab k B)
  (hfB : bQ P M mod=true) (hA : bx (aa P M.toNat mod).El k A) (hBr : bx (aa P M.toNat mod).El m B) (hk : k<=64) (hm1 : 1<=m) (hm : m<=64) (hn : n<=64) :
  Calls prog 157 #[.agg #[.int .i64 P,.int .i64 M,.slice am mn cm],.agg #[.int .i64 k,.slice a n c],.agg #[.int .i64 m,.slice ab k cb]] w
   λe w'=>∃a1 c1,e = .returned (.tuple #[.agg #[.int .i64 m,.slice a1 n c1],.int .i64 0])/\bX w.heap.size w' a1 n (pC (aa P M.toNat mod).ops m A B)/\Rs w w':=by
 have hAl:=hi.len;have hBl:=hb.len;have F:=jy hfB;have hmE1 : eZ (aa P M.toNat mod).q k A=0:=(fF (sD hfB (show k<=256 by omega) (show A.length<=256 by omega) hA)).2;have hmE2 : eZ (aa P M.toNat mod).q m B=0:=(fF (sD hfB (show m<=256 by omega) (show B.length<=256 by omega) hBr)).2;have hpla:=hi.pl;obtain ⟨G,hGG⟩ : ∃G,aa P M.toNat mod=G:=⟨_,rfl⟩
 rw [hGG] at hA hBr F hmE1 hmE2 ⊢;obtain ⟨L2,hL2⟩ : ∃L2,pC G.ops m A B=L2:=⟨_,rfl⟩
 have HL2l : Hid (L2.length=n):=by show _=_;rw [<- hL2,pC,Mx];exact hAl
 have HLk : Hid (∀j,j<n->L2.take (j+1)=L2.take j ++ [bK G.ops m (ai A j) B k]):=λj hj=>by
  have hj' : j<L2.length:=by rw [HL2l.out];exact hj
  rw [Mu hj',<- aF hj',<- hL2,pC,Ac _ A (by omega),hBl]
 rw [hL2];have HAr : Hid (∀j,j<n->(ai A j).length=k/\∀x ∈ ai A j,G.El x):=λj hj=>hA.row (by omega);have HBr:=Z5 hBr;have HFl:=Z5 F;have HBl:=Z5 hBl;have HB:=Z5 hfB;have HmE:=Z5 (My hmE1 hmE2);have HGG:=Z5 hGG;clear hA hBr F hAl hBl hfB hmE1 hmE2 hGG hL2;go_enter func157,ntmps157;go_wp2_with fail;obtain ⟨W,hW⟩ : ∃W : World,W=(((((w.alloc (.cells #[.int .i64 P,.int .i64 M,.slice am mn cm] 24)).alloc (.cells #[.int .i64 k,.slice a n c] 82)).alloc (.cells #[.int .i64 m,.slice ab k cb] 82)).alloc (.cells #[.int .i64 0,.slice none 0 0] 82)).alloc (.cells #[.int .i64 k,.slice a n c,.int .i64 m,.slice ab k cb] 82)):=⟨_,rfl⟩
 rw [<- hW];have hbW : Rs w W:=by rw [hW];exact (((((Mi _ _).alloc (Mf _) _).alloc (by simp) _).alloc (by simp;omega) _).alloc (by simp;omega) _).alloc (by simp;omega) _
 have hsW : W.heap.size=w.heap.size+5:=by rw [hW];simp
 have x1 : bf W (w.heap.size+1) [.int .i64 k,.slice a n c]:=by rw [hW];exact (((QS _ _ _ (by simp)).alloc _).alloc _).alloc _
 have x2 : bf W (w.heap.size+1+1) [.int .i64 m,.slice ab k cb]:=by rw [hW];exact ((QS _ _ _ (by simp)).alloc _).alloc _
 have x3 : bf W (w.heap.size+1+1+1) [.int .i64 0,.slice none 0 0]:=by rw [hW];exact (QS _ _ _ (by simp)).alloc _
 have q3 : ∀i v,[Value.int .i64 k,.slice a n c,.int .i64 m,.slice ab k cb][i]? = some v->W.cell? ⟨w.heap.size+1+1+1+1,i,none⟩=some v:=λi v hv=>by
  have h : bf W (w.heap.size+1+1+1+1) [.int .i64 k,.slice a n c,.int .i64 m,.slice ab k cb]:=by rw [hW];exact QS _ _ _ (by simp)
  exact h.cell i hv
 have hMs : uE W (some ⟨w.heap.size+1+1+1+1,0,none⟩) 2 [((k : Int),A),((m : Int),B)]:=⟨rfl,λ_=>rfl,by unfold maxLen;omega,λi hi'=>by
  match i,hi' with
  | 0,_=>exact ⟨a,n,c,by simpa using q3 0 _ rfl,by simpa using q3 1 _ rfl,hi.ah hbW⟩
  | 1,_=>exact ⟨ab,k,cb,by simpa using q3 2 _ rfl,by simpa using q3 3 _ rfl,hb.ah hbW⟩⟩
 have HX:=Z5 (My x1 (My x2 x3));have HsW:=Z5 hsW;have HbW:=Z5 hbW;clear hW hsW x1 x2 x3 q3;refine (kH P M am mn cm mod _ 2 2 _ W (hmod.ah hbW) hMs).mono ?_;rintro e w1 ⟨hb1,hcase⟩;have hms : jd (aa P M.toNat mod).q [((k : Int),A),((m : Int),B)]=0:=by rw [HGG.out];simp [jd,HmE.out.1,HmE.out.2]
 rcases hcase with ⟨hB,_⟩ | ⟨_,er,h0,h1,_⟩ | ⟨_,_,b,rfl,hG,hbl⟩
 ·rw [HB.out] at hB;exact absurd hB (by decide)
 ·rw [hms] at h1;exact absurd h1.symm h0
 rw [HGG.out] at hG;have hbw1:=QQ hbW hb1;have r1:=HX.out.1.ah hb1;have r2:=HX.out.2.1.ah hb1;have m0:=r1.cell 0 rfl;have m1:=r1.cell 1 rfl;have p0:=r2.cell 0 rfl;have p1:=r2.cell 1 rfl;have hkk : ((k : Int) != k)=false:=by simp
 clear hMs hbW r1 r2 hbl hmod hms;go_upto_region 6 with fail;obtain ⟨g,hg⟩ : ∃g,w1.heap.size=g:=⟨_,rfl⟩
 have HGs:=Z5 hg;clear hg;go_cut [10] (λv wx=>v = .pointer (some ⟨w1.heap.size,0,none⟩)/\nI wx w1.heap.size (.int .i64 m) none 0 0 [] []/\Rs w1 wx);case first =>
  go_wp2_with fail
  go_meet
  exact ⟨rfl,nI.start (QS w1 [.int .i64 m,.slice none 0 0] _ rfl),aB _ _⟩
 obtain ⟨rfl,hO0,hbc⟩:=hcut;generalize wc=U at *;have hs3:=HGs.out;rw [hs3] at hO0 ⊢;have HbU:=Z5 (QQ hb1 hbc);have HbU1:=Z5 hbc;have HS : Hid (∀V,Rs W V->V.cell? ⟨w.heap.size+1,0,none⟩=some (.int .i64 k)/\V.cell? ⟨w.heap.size+1,1,none⟩=some (.slice a n c)/\V.cell? ⟨w.heap.size+1+1,0,none⟩=some (.int .i64 m)/\V.cell? ⟨w.heap.size+1+1,1,none⟩=some (.slice ab k cb)):=λV hV=>by have r1:=HX.out.1.ah hV;have r2:=HX.out.2.1.ah hV;exact ⟨r1.cell 0 rfl,r1.cell 1 rfl,r2.cell 0 rfl,r2.cell 1 rfl⟩
 clear m0 m1 p0 p1;obtain ⟨m0,m1,p0,p1⟩:=HS.out U HbU.out;have hgU:=hO0.lt;have hgW : W.heap.size<=g:=by have:=hb1.size;omega
 have hw1g : w1.heap.size<=g:=by omega
 clear hbc hs3;go_wp2_with fail;clear m0 m1 p0 p1;go_loopw [38] (λiv wr=>∃(j : Nat) (a1 : OA) (c1 : Nat) (Rr : Z4),j<=n/\iv = .int .i64 j/\nI wr g (.int .i64 m) a1 j c1 Rr (L2.take j)/\Below g U wr) (λiv _=>n - (intOf iv).toNat);case atStart=>exact ⟨0,none,0,[],Mj _,rfl,by simpa using hO0,Mi _ _⟩
 case round =>
  clear hO0
  obtain ⟨j,a1,c1,Rr,hj,rfl,hO,hbr⟩:=hrel
  have hbWr:=MS HbU.out (hbr.mono hgW)
  have hbwr:=QQ HbW.out hbWr
  have hb1r : Rs w1 wr:=MS HbU1.out (hbr.mono hw1g)
  have hgr:=hO.lt
  by_cases hltj : j<n
  ·obtain ⟨ra,rn,rc,hcell,hrow⟩:=(hi.ah hbwr).cell j hltj
   have hA:=HAr.out j hltj
   have hrn : rn=k:=by rw [<- hrow.len];exact hA.1
   rw [hrn] at hcell hrow
   have Htk:=Z5 (HLk.out j hltj)
   obtain ⟨l,hl⟩ : ∃l,ai A j=l:=⟨_,rfl⟩
   rw [hl] at Htk hrow hA
   have Hvec : Hid (∀V,Rs wr V->Calls prog 141 #[.pointer (some ⟨b,0,none⟩),.slice ra k rc,.slice ab k cb,.int .i64 m] V λe w' =>
     ∃a1 c1,e = .returned (.slice a1 m c1)/\w'.ownsRow V.heap.size 3 1 (.slice a1 m c1) m ((bK G.ops m l B k).map (Value.int .i64))/\Rs V w'):=λV hV =>
    Js ra rc l ab k cb B m (hG.ah (QQ hb1r hV)) HFl.out (hrow.ah hV) (hb.ah (QQ hbwr hV)) (λt ht=>hA.2 _ (aN (by rw [hA.1];exact ht))) HBr.out hm1 (by omega) (by omega)
   have hvl : (bK G.ops m l B k).length=m:=(gH HFl.out HBr.out (x:=l) (λt ht=>hA.2 _ (aN (by rw [hA.1,<- HBl.out];exact ht))) k (by rw [HBl.out];exact Mf _)).1.1
   obtain ⟨pk,hpk⟩ : ∃pk,bK G.ops m l B k=pk:=⟨_,rfl⟩
   rw [hpk] at Hvec hvl Htk
   have Hvl:=Z5 hvl
   have Hbr:=Z5 hbr
   have HbWr:=Z5 hbWr
   have HO:=Z5 hO
   have g1:=hO.c1
   obtain ⟨_,_,p0,p1⟩:=HS.out wr hbWr
   clear hl hrn hpk hvl hA hrow hbr hbWr hbwr hb1r hO
   go_wp2_with fail
   go_region_law ((first
    | (go_simp;go_at_call 141;((with_reducible refine (Hvec.out _ (Mi _ _).drew).mono ?_);rintro e w4 ⟨a4,c4,rfl,hown4,hb4⟩;have hb4':=QQ (Mi wr.heap.size wr).drew hb4;have hs4:=HO.out.ah hb4';have g2:=hs4.c1;have g3:=aM hs4.c1 (.cells #[.slice a4 m c4] 22)))
    | (refine iQ (by rfl) (.tmp 43) (.tmp 51) 25 22 (by rfl) (.slice none 0 0) 24 underlying25 fg (by rfl) (g+1) a1 j c1 (List.zipWith jx Rr (L2.take j)) (by rfl) ((hs4.om.ah (aB _ _)).own) (some ⟨w4.heap.size,0,none⟩) 1 1 [.slice a4 m c4] (by rfl) (λ_=>rfl) rfl (by intro y hy;obtain rfl : y=0:=(by omega);exact dq _ _ _ rfl) (by intro y hy;simp at hy;subst hy;rfl) (by omega) (by unfold maxLen;omega) (by have e2:=hs4.lt;simp;omega) ?_;intro a5 c5 w5 hown5 hgr5 hap5;have k5:=(hs4.xX hgr5).2.1;have f5:=(hs4.xX hgr5).2.2)))
   all_goals (
    go_wp2_with fail
    go_roundw
    case rel =>
     have hra : a4 ≠ none->¬ bS a1 Rr (an a4):=λh0 hI=>by have h1:=(aZ hown4 h0).1;have h2:=(HO.out.om.lt _ hI).2;have h3 : wr.drew.heap.size=wr.heap.size:=rfl;omega
     obtain ⟨hP,hbP⟩:=hs4.push Hvl.out (bg hown4 (show g+1<=wr.drew.heap.size from hgr)) hra hown5 hgr5 hap5
     exact ⟨j+1,a5,c5,_,by omega,by go_num,by rw [Htk.out];exact hP,MS Hbr.out ((hb4'.mono (by omega)).trans hbP)⟩
    case measure=>simp [intOf] <;> omega)
  ·obtain rfl : j=n:=by omega
   rw [Ms (by rw [HL2l.out];exact Mf _)] at hO
   have g0:=hO.c0
   have g1:=hO.c1
   have z6:=HX.out.2.2.ah hbWr
   have z0:=z6.cell 0 rfl
   have z1:=z6.cell 1 rfl
   have f0:=z6.frozen 0
   have f1:=z6.frozen 1
   have hs:=HsW.out
   have hMN : bX (g+1) wr a1 j L2:=Ro hO.om
   have HF:=Z5 (My (((hMN.setCell (p:=⟨w.heap.size+1+1+1,0,none⟩) (by simp;omega) (.int .i64 m)).setCell (p:=⟨w.heap.size+1+1+1,1,none⟩) (by simp;omega) (.slice a1 j c1)).mono (show w.heap.size<=g+1 by omega))
    ((hbwr.setCell (p:=⟨w.heap.size+1+1+1,0,none⟩) (by simp;omega) (.int .i64 m)).setCell (p:=⟨w.heap.size+1+1+1,1,none⟩) (by simp;omega) (.slice a1 j c1)))
   clear hMN z6 hO
   go_wp2_with fail
   exact bodyPost_ret (v:=.tuple #[.agg #[.int .i64 m,.slice a1 j c1],.int .i64 0]) (by simp [results,results157,go_sem,z0,z1]) rfl ⟨a1,c1,rfl,HF.out.1,HF.out.2⟩
def Bm (P M : Int) (mod : Lz) (N : Int) (L : ZZ) (Q : Lz) : Bool :=
 decide (eT P M mod N L Q=0) && (decide ((jP (aa P M.toNat mod).ops L Q).length=Q.length) && decide ((jP (aa P M.toNat mod).ops L Q).length=L.length))
theorem DK (P M : Int) (am : OA) (mn cm : Nat) (mod : Lz) (N : Int) (a : OA) (n c : Nat) (L : ZZ) (ao : OA) (no co : Nat) (Q : Lz) (w : World)
  (hmod : Ints w am mn mod) (hi : cU w a n L) (hq : Ints w ao no Q) :
  Calls prog 167 #[.agg #[.int .i64 P,.int .i64 M,.slice am mn cm,.int .i64 N,.slice a n c],.slice ao no co] w
   λe w'=>e = .returned (.tuple #[.bool (Bm P M mod N L Q),.int .i64 (eT P M mod N L Q)])/\Rs w w':=by
 have hql:=hq.len;have hil:=hi.len;go_enter func167,ntmps167;go_wp2_with fail;obtain ⟨W,hW⟩ : ∃W : World,W=w.alloc (.cells #[.int .i64 P,.int .i64 M,.slice am mn cm,.int .i64 N,.slice a n c] 27):=⟨_,rfl⟩
 rw [<- hW];have hbW : Rs w W:=by rw [hW];exact aB _ _
 have x0 : bf W w.heap.size [.int .i64 P,.int .i64 M,.slice am mn cm,.int .i64 N,.slice a n c]:=by rw [hW];exact QS _ _ _ rfl
 have HX:=Z5 x0;clear hW x0;refine (zl P M am mn cm mod N a n c L ao no co Q W (hmod.ah hbW) (hi.ah hbW) (hq.ah hbW)).mono ?_;rintro e w1 ⟨hb1,⟨hE,rfl⟩ | ⟨hE,rfl⟩⟩
 ·have HV : Hid (Bm P M mod N L Q=false):=by show _=_;unfold Bm;rw [M1 hE];rfl
  have hE1 : (eT P M mod N L Q == 0)=false:=by simpa using hE
  have hbw1:=QQ hbW hb1;clear hE hql hil;go_wp2_with fail;go_ret2;exact ⟨by rw [HV.out];rfl,hbw1⟩
 ·have HV : Hid (Bm P M mod N L Q=(decide ((jP (aa P M.toNat mod).ops L Q).length=no) && decide ((jP (aa P M.toNat mod).ops L Q).length=n))):=by show _=_;unfold Bm;rw [MO hE,hql,hil];rfl
  have hbw1:=QQ hbW hb1;have xU:=HX.out.ah hb1;have b4:=xU.cell 4 rfl;have HE:=Z5 hE;clear hE hql hil xU;obtain ⟨r,hr⟩ : ∃r,(jP (aa P M.toNat mod).ops L Q).length=r:=⟨_,rfl⟩
  rw [hr] at HV ⊢;clear hr;by_cases h1 : r=no
  ·subst h1;have h1' : ((r : Int) == r)=true:=by simp
   by_cases h2 : r=n
   ·subst h2;have HV2 : Hid (Bm P M mod N L Q=true):=by show _=_;rw [HV.out];simp
    clear HV;go_wp2_with fail;go_ret2;exact ⟨by rw [HV2.out,HE.out];rfl,hbw1⟩
   ·have h2' : ((r : Int) == n)=false:=by simp only [beq_eq_false_iff_ne,ne_eq];omega
    have HV2 : Hid (Bm P M mod N L Q=false):=by show _=_;rw [HV.out];simp [h2]
    clear h2 HV;go_wp2_with fail;go_ret2;exact ⟨by rw [HV2.out,HE.out];rfl,hbw1⟩
  ·have h1' : ((r : Int) == no)=false:=by simp only [beq_eq_false_iff_ne,ne_eq];omega
   have HV2 : Hid (Bm P M mod N L Q=false):=by show _=_;rw [HV.out];simp [h1]
   clear h1 HV;go_wp2_with fail;go_ret2;exact ⟨by rw [HV2.out,HE.out];rfl,hbw1⟩
theorem yN {l : Lz} {x : Int} {i : Nat} (h : i<l.length) : nth (l ++ [x]) i=nth l i:=by simp only [nth,Mk];rw [ML h]
theorem F9 (l : Lz) (x : Int) : nth (l ++ [x]) l.length=x:=by simp [nth]
theorem zA (l : Lz) (x : Int) : ∀k,k<=l.length->kT (l ++ [x]) k=kT l k
 | 0,_=>rfl
 | k+1,h=>by rw [kT,kT,yN (by omega),zA l x k (by omega)]
theorem wm (l : Lz) (x : Int) : kT (l ++ [x]) (l ++ [x]).length=x.toNat :: kT l l.length:=by rw [Mp,Mz,kT,F9,zA l x l.length (Mf _)]
def gA (Q : Lz) : Z6:=kT Q Q.length
theorem nX (l : Lz) (x : Int) : gA (l ++ [x])=x.toNat :: gA l:=wm l x
theorem dp {Q : Lz} {x : Nat} : x ∈ gA Q ↔ ∃y ∈ Q,y.toNat=x:=by
 unfold gA;rw [gR];constructor
 ·rintro ⟨j,hj,e⟩;exact ⟨nth Q j,aN hj,e⟩
 ·rintro ⟨y,hy,e⟩;obtain ⟨j,hj,rfl⟩:=List.mem_iff_getElem.1 hy;exact ⟨j,hj,by rw [aj hj];exact e⟩
section
variable {O : aJ} {El : Int->Prop} {m : Nat} {L : ZZ}
def jI (O : aJ) (L : ZZ) (Q : Lz) : Nat:=(jP O L Q).length
theorem dP (F : bR O El) (hL : bx El m L) (Q : Lz) : Rk (ie O El L.length (aK L)) (gA Q) (jI O L Q):=pN F hL Q
theorem Bu (F : bR O El) (hL : bx El m L) (Q : Lz) : ∀k,Rk (ie O El L.length (aK L)) (gA (cO O L Q k).2) (cO O L Q k).2.length /\
  (∀x ∈ gA (cO O L Q k).2,x ∈ kT Q k)/\(∀x ∈ kT Q k,ie O El L.length (aK L) (gA (cO O L Q k).2) x)
 | 0=>⟨.nil,λx hx=>by simp [gA,cO,kT] at hx,λx hx=>by simp [kT] at hx⟩
 | k+1=>by
  obtain ⟨h1,h2,h3⟩:=Bu F hL Q k;obtain ⟨g1,g2,_⟩:=B2 F hL Q k;have hC:=da F hL;have hc:=ch hL F.zero;have htk:=me F g1 (hc (nth Q k).toNat);have hcl : ie O El L.length (aK L) (kT Q k) (nth Q k).toNat ↔ (cO O L Q k).1.eh O (aK L (nth Q k).toNat)=false:=by rw [htk];exact ⟨λh φ hφ h0=>h φ hφ ((g2 φ hφ).2 h0),λh φ hφ h0=>h φ hφ ((g2 φ hφ).1 h0)⟩
  rw [cO];by_cases ht : (cO O L Q k).1.eh O (aK L (nth Q k).toNat)=true
  ·simp only [Mg ht];rw [nX,Mp,Mz];refine ⟨.ind _ (λh=>?_) h1,λx hx=>?_,λx hx=>?_⟩
   ·have:=hcl.1 (hC.sub h2 h);rw [ht] at this;exact absurd this (by decide)
   ·rw [kT];rcases List.mem_cons.1 hx with rfl | hx
    ·exact Nl ..
    ·exact Ni _ (h2 x hx)
   ·rw [kT] at hx;rcases List.mem_cons.1 hx with rfl | hx
    ·exact hC.mem _ _ (Nl ..)
    ·exact hC.sub (λy hy=>Ni _ hy) (h3 x hx)
  ·simp only [Mh ht];have hf : (cO O L Q k).1.eh O (aK L (nth Q k).toNat)=false:=by simpa using ht
   refine ⟨h1,λx hx=>?_,λx hx=>?_⟩
   ·rw [kT];exact Ni _ (h2 x hx)
   ·rw [kT] at hx;rcases List.mem_cons.1 hx with rfl | hx
    ·exact hC.mono _ _ h3 _ (hcl.2 hf)
    ·exact h3 x hx
theorem Ih (F : bR O El) (hL : bx El m L) {Q Q' : Lz} (h : ∀x ∈ gA Q,ie O El L.length (aK L) (gA Q') x) : jI O L Q<=jI O L Q':=Rm (da F hL) (dP F hL Q) (dP F hL Q') h
theorem Ic (F : bR O El) (hL : bx El m L) {Q Q' : Lz} (h : ∀x,x ∈ gA Q ↔ x ∈ gA Q') : jI O L Q=jI O L Q':=Q9 (da F hL) (dP F hL Q) (dP F hL Q') h
theorem Fc (F : bR O El) (hL : bx El m L) {Q Q' : Lz} (h : Q.Perm Q') : jI O L Q=jI O L Q' :=
 Ic F hL λx=>by rw [dp,dp];exact ⟨λ⟨y,hy,e⟩=>⟨y,h.mem_iff.1 hy,e⟩,λ⟨y,hy,e⟩=>⟨y,h.mem_iff.2 hy,e⟩⟩
end
theorem iq (f : Lz->Lz) (hf : f []=[]) (L : ZZ) (i : Nat) : ai (L.map f) i=f (ai L i):=by
 by_cases h : i<L.length
 ·exact bH f L h
 ·rw [mg (by simpa using h),mg (by omega),hf]
section
variable {O : aJ} {k : Nat}
theorem qD {J : ZZ} {c : Nat} (hc : c<k) : ∀f i,dR (J.map (List.take k)) c i f=dR J c i f
 | 0,i=>rfl
 | f+1,i=>by rw [dR,dR,iq _ OD,jo _ hc,qD hc f (i+1)]
theorem xx {J : ZZ} {c : Nat} (hc : c<k) (i : Nat) : aW (J.map (List.take k)) c i=aW J c i:=by unfold aW;rw [Mx,qD hc]
theorem ud {pv r : Lz} {c : Nat} (hc : c<k) : bT O (pv.take k) c (r.take k)=(bT O pv c r).take k:=by
 unfold bT;rw [jo _ hc];split
 ·rfl
 ·rw [qs]
theorem ob {J : ZZ} {t c : Nat} (hc : c<k) : ∀i,aR O t c (J.map (List.take k)) i=(aR O t c J i).map (List.take k)
 | 0=>rfl
 | i+1=>by
  rw [aR,aR,ob hc i];split
  ·rfl
  ·rw [iq _ OD,iq _ OD,ud hc,MH]
theorem wO {J : ZZ} {t c : Nat} (hc : c<k) : bq O (J.map (List.take k)) t c=(bq O J t c).map (List.take k):=by
 unfold bq;rw [iq _ OD,jo _ hc];split
 ·rfl
 ·rw [MH,List.map_take]
theorem wA {J : ZZ} {t i : Nat} : bk (J.map (List.take k)) t i=(bk J t i).map (List.take k):=by unfold bk;rw [iq _ OD,iq _ OD,MH,MH]
theorem Ai {J : ZZ} {t i c : Nat} (hc : c<k) : eB O (J.map (List.take k)) t i c=(eB O J t i c).map (List.take k):=by
 have h : ∀J : ZZ,aR O t c (bq O (J.map (List.take k)) t c) (bq O (J.map (List.take k)) t c).length=(aR O t c (bq O J t c) (bq O J t c).length).map (List.take k):=λJ=>by rw [wO hc,Mx,ob hc]
 unfold eB;split
 ·exact h J
 ·rw [wA];exact h _
theorem qi {J : ZZ} : ∀c,c<=k->(aC O (J.map (List.take k)) c).1=(aC O J c).1.map (List.take k)/\(aC O (J.map (List.take k)) c).2=(aC O J c).2
 | 0,_=>⟨rfl,rfl⟩
 | c+1,h=>by
  obtain ⟨h1,h2⟩:=qi (J:=J) c (by omega);simp only [aC];rw [h1,h2,Mx,xx (by omega)];split
  ·split
   ·exact ⟨h1,h2⟩
   ·exact ⟨Ai (by omega),rfl⟩
  ·exact ⟨h1,h2⟩
end
section
variable {O : aJ} {El : Int->Prop} {m : Nat}
theorem IF (F : bR O El) {L : ZZ} (hL : bx El m L) {Q : Lz} (hQ : qW m Q) : (aC O (L.map (aO Q)) Q.length).2.length=(jP O L Q).length:=by
 refine Q9 (da F hL) (Jq F hL hQ) (pN F hL Q) λx=>?_;rw [gR,Oc];constructor
 ·rintro ⟨j,hj,rfl⟩;exact ⟨j,List.mem_range.1 hj,rfl⟩
 ·rintro ⟨j,hj,e⟩;exact ⟨j,List.mem_range.2 hj,e⟩
theorem FO (F : bR O El) {L : ZZ} (hL : bx El m L) {Q : Lz} (hQ : qW m Q) (hl : Q.length=L.length) (hg : (jP O L Q).length=Q.length) :
  (aC O (iR (L.map (aO Q)) (fN Q.length)) Q.length).2.length=Q.length:=by have hJ:=lp (k:=Q.length) (D:=L.map (aO Q)) (U:=fN Q.length) (by rw [Mx,cW];omega) (λr hr=>by obtain ⟨s,_,rfl⟩:=List.mem_map.1 hr;simp [aO]);have h:=(qi (O:=O) (k:=Q.length) (J:=iR (L.map (aO Q)) (fN Q.length)) Q.length (Mf _)).2;rw [hJ] at h;rw [<- h,IF F hL hQ,hg]
end
def aL (b : Bool) (U : Lz) : Nat->Lz
 | 0=>[]
 | k+1=>if decide ((k : Int) ∈ U)=b then aL b U k ++ [(k : Int)] else aL b U k
theorem bh {b : Bool} {U : Lz} {x : Int} : ∀k,x ∈ aL b U k ↔ ∃j : Nat,j<k/\x=j/\decide ((j : Int) ∈ U)=b
 | 0=>by simp [aL]
 | k+1=>by
  rw [aL];by_cases h : decide ((k : Int) ∈ U)=b
  ·rw [Mg h,M0,bh k,MK];constructor
   ·rintro (⟨j,hj,e,hb⟩ | e)
    ·exact ⟨j,by omega,e,hb⟩
    ·exact ⟨k,by omega,e,h⟩
   ·rintro ⟨j,hj,e,hb⟩;by_cases ejk : j=k
    ·subst ejk;exact .inr e
    ·exact .inl ⟨j,by omega,e,hb⟩
  ·rw [Mh h,bh k];constructor
   ·rintro ⟨j,hj,e,hb⟩;exact ⟨j,by omega,e,hb⟩
   ·rintro ⟨j,hj,e,hb⟩;by_cases ejk : j=k
    ·subst ejk;exact absurd hb h
    ·exact ⟨j,by omega,e,hb⟩
theorem fM (b : Bool) (U : Lz) : ∀k,(aL b U k).length<=k
 | 0=>Mf _
 | k+1=>by have:=fM b U k;rw [aL];split <;> simp <;> omega
theorem sd (U : Lz) : ∀k,(aL false U k).length+(aL true U k).length=k
 | 0=>rfl
 | k+1=>by
  have:=sd U k;rw [aL,aL];by_cases h : (k : Int) ∈ U
  ·simp [h];omega
  ·simp [h];omega
def gO (m : Nat) (U : Lz) : Lz:=aL false U m ++ aL true U m
theorem zP (m : Nat) (U : Lz) : (gO m U).length=m:=by rw [gO,Mp,sd]
theorem tK {m : Nat} {U : Lz} {x : Int} : x ∈ gO m U ↔ ∃j : Nat,j<m/\x=j:=by
 rw [gO,M0,bh,bh];constructor
 ·rintro (⟨j,hj,e,_⟩ | ⟨j,hj,e,_⟩) <;> exact ⟨j,hj,e⟩
 ·rintro ⟨j,hj,e⟩;by_cases h : (j : Int) ∈ U
  ·exact .inr ⟨j,hj,e,by simpa using h⟩
  ·exact .inl ⟨j,hj,e,by simpa using h⟩
theorem I1 (m : Nat) (U : Lz) : qW m (gO m U):=λj hj=>by obtain ⟨i,hi,e⟩:=tK.1 (aN hj);omega
def fO (U S : Lz) : Nat->Int
 | 0=>0
 | k+1=>if nth S k ∈ U then fO U S k else fO U S k+1
theorem oo (U S : Lz) : ∀k,0<=fO U S k/\fO U S k<=k
 | 0=>by simp [fO]
 | k+1=>by have:=oo U S k;rw [fO];split <;> omega
theorem AL {U S : Lz} : ∀k,k<=S.length->fO U S k ≠ 0->∃x ∈ S,¬ x ∈ U
 | 0,_,h=>absurd rfl h
 | k+1,hk,h=>by
  rw [fO] at h;split at h
  ·exact AL k (by omega) h
  ·rename_i h1;exact ⟨_,aN (by omega),h1⟩
def fu (O : aJ) (L : ZZ) (m : Nat) (U : Lz) : Lz:=jP O L (gO m U)
def oF (O : aJ) (L : ZZ) (m : Nat) : Nat->Lz->List (Lz × Int)->List (Lz × Int)
 | 0,_,T=>T
 | f+1,U,T=>if fO U (fu O L m U) (fu O L m U).length=0 then T else oF O L m f (U ++ b8 (fu O L m U)) (T ++ [(b8 (fu O L m U),fO U (fu O L m U) (fu O L m U).length)])
def gN (O : aJ) (L : ZZ) (m : Nat) : List (Lz × Int):=oF O L m (m+1) [] []
theorem vx {U V : Lz} (h : ∀x ∈ U,x ∈ V) : ∀k,(aL false V k).length<=(aL false U k).length
 | 0=>Mf _
 | k+1=>by
  have ih:=vx h k;rw [aL,aL];by_cases h1 : (k : Int) ∈ U
  ·simp [h1,h _ h1];exact ih
  ·by_cases h2 : (k : Int) ∈ V
   ·simp [h1,h2];omega
   ·simp [h1,h2];exact ih
theorem vO {U V : Lz} (h : ∀x ∈ U,x ∈ V) {x : Nat} (hx : ¬ (x : Int) ∈ U) (hv : (x : Int) ∈ V) : ∀k,x<k->(aL false V k).length<(aL false U k).length
 | 0,hk=>by omega
 | k+1,hk=>by
  by_cases e : x=k
  ·subst e;have ih:=vx h x;rw [aL,aL];simp [hx,hv];omega
  ·have ih:=vO h hx hv k (by omega);rw [aL,aL];by_cases h1 : (k : Int) ∈ U
   ·simp [h1,h _ h1];exact ih
   ·by_cases h2 : (k : Int) ∈ V
    ·simp [h1,h2];omega
    ·simp [h1,h2];exact ih
theorem l0 (O : aJ) (L : ZZ) (Q : Lz) : ∀k,k<=Q.length->∀x ∈ (cO O L Q k).2,x ∈ Q
 | 0,_,x,hx=>by simp [cO] at hx
 | k+1,hk,x,hx=>by
  rw [cO] at hx;split at hx
  ·rcases List.mem_append.1 hx with hx | hx
   ·exact l0 O L Q k (by omega) x hx
   ·rw [MK] at hx;rw [hx];exact aN (by omega)
  ·exact l0 O L Q k (by omega) x hx
theorem I7 {O : aJ} {L : ZZ} {m : Nat} {U : Lz} {x : Int} (hx : x ∈ fu O L m U) : ∃j : Nat,j<m/\x=j:=tK.1 (l0 O L (gO m U) _ (Mf _) x hx)
theorem Ay {O : aJ} {L : ZZ} {m : Nat} {U : Lz} (h : fO U (fu O L m U) (fu O L m U).length ≠ 0) : (aL false (U ++ b8 (fu O L m U)) m).length<(aL false U m).length:=by obtain ⟨x,hx,hn⟩:=AL _ (Mf _) h;obtain ⟨j,hj,rfl⟩:=I7 hx;exact vO (λy hy=>List.mem_append.2 (.inl hy)) hn (List.mem_append.2 (.inr ((dE _).mem_iff.2 hx))) m hj
def oY (P M : Int) (mod : Lz) (N : Int) (L : ZZ) (Q : Lz) : Int :=
 if eT P M mod N L Q ≠ 0 then eT P M mod N L Q else if Bm P M mod N L Q=true then 0 else 9
def ew (O : aJ) (m : Nat) (L : ZZ) (Q : Lz) : ZZ:=pC O m (oW O (L.map (aO Q)) Q.length) L
def xC (P M : Int) (mod : Lz) (N : Int) (L : ZZ) (Q : Lz) (w : World) (e : Ending) (w' : World) : Prop :=
 Rs w w'/\((oY P M mod N L Q ≠ 0/\e = .returned (.tuple #[.agg #[.int .i64 0,.slice none 0 0],.int .i64 (oY P M mod N L Q)])) \/
  (oY P M mod N L Q=0/\∃m : Nat,N=m/\∃a c,e = .returned (.tuple #[.agg #[.int .i64 m,.slice a L.length c],.int .i64 0])/\bX w.heap.size w' a L.length (ew (aa P M.toNat mod).ops m L Q)))
theorem FI {P M : Int} {mod : Lz} {N : Int} {L : ZZ} {Q : Lz} (h : Bm P M mod N L Q=true) :
  aH P M mod N L=0/\bG N Q=true/\(jP (aa P M.toNat mod).ops L Q).length=Q.length/\Q.length=L.length:=by
 unfold Bm at h;simp only [MC,MG] at h;obtain ⟨h1,h2,h3⟩:=h;have hE : aH P M mod N L=0:=by
  unfold eT at h1;split at h1
  ·assumption
  ·rename_i h0;exact absurd h1 h0
 refine ⟨hE,?_,h2,by omega⟩;rw [eT,Mg hE,mH] at h1;split at h1
 ·assumption
 ·omega
theorem zM {O : aJ} {El : Int->Prop} (F : bR O El) {D : ZZ} {k : Nat} (hD : bx El k D) : bx El k (oW O D k):=λr hr=>by unfold oW at hr;obtain ⟨s,hs,rfl⟩:=List.mem_map.1 hr;have h:=kA F (mK hD (tX F.zero F.one k)) k (by omega) s hs;exact ⟨by rw [NQ,h.1];omega,λx hx=>h.2 x (On hx)⟩
theorem sS (P M : Int) (am : OA) (mn cm : Nat) (mod : Lz) (N : Int) (a : OA) (n c : Nat) (L : ZZ) (ao : OA) (no co : Nat) (Q : Lz) (w : World)
  (hmod : Ints w am mn mod) (hi : cU w a n L) (hq : Ints w ao no Q) :
  Calls prog 99 #[.agg #[.int .i64 P,.int .i64 M,.slice am mn cm,.int .i64 N,.slice a n c],.slice ao no co] w (xC P M mod N L Q w):=by
 have Hql:=Z5 hq.len;have Hil:=Z5 hi.len;go_enter func99,ntmps99;go_wp2_with fail;obtain ⟨W,hW⟩ : ∃W : World,W=(w.alloc (.cells #[.int .i64 P,.int .i64 M,.slice am mn cm,.int .i64 N,.slice a n c] 27)).alloc (.cells #[.int .i64 0,.slice none 0 0] 82):=⟨_,rfl⟩
 rw [<- hW];have hbW : Rs w W:=by rw [hW];exact iD _ _ _
 have hsW : W.heap.size=w.heap.size+2:=by rw [hW];simp
 have x0 : bf W w.heap.size [.int .i64 P,.int .i64 M,.slice am mn cm,.int .i64 N,.slice a n c]:=by rw [hW];exact (QS _ _ _ rfl).alloc _
 have z0 : bf W (w.heap.size+1) [.int .i64 0,.slice none 0 0]:=by rw [hW];exact QS _ _ _ (by simp)
 have hS : ∀V,Rs W V->V.cell? ⟨w.heap.size,0,none⟩=some (.int .i64 P)/\V.cell? ⟨w.heap.size,1,none⟩=some (.int .i64 M)/\V.cell? ⟨w.heap.size,2,none⟩=some (.slice am mn cm)/\V.cell? ⟨w.heap.size,3,none⟩=some (.int .i64 N)/\V.cell? ⟨w.heap.size,4,none⟩=some (.slice a n c) /\
   bf V (w.heap.size+1) [.int .i64 0,.slice none 0 0]:=λV hV=>by have x1:=x0.ah hV;exact ⟨x1.cell 0 rfl,x1.cell 1 rfl,x1.cell 2 rfl,x1.cell 3 rfl,x1.cell 4 rfl,z0.ah hV⟩
 have HS:=Z5 hS;have HbW:=Z5 hbW;have HsW:=Z5 hsW;clear hW x0 z0 hS;refine (DK P M am mn cm mod N a n c L ao no co Q W (hmod.ah hbW) (hi.ah hbW) (hq.ah hbW)).mono ?_;rintro e w1 ⟨rfl,hb1⟩;have hbw1:=QQ hbW hb1;have hend : ∀er : Int,oY P M mod N L Q ≠ 0->oY P M mod N L Q=er->xC P M mod N L Q w (.returned (.tuple #[.agg #[.int .i64 0,.slice none 0 0],.int .i64 er])) ((w1.setCell ⟨w.heap.size+1,0,none⟩ (.int .i64 0)).setCell ⟨w.heap.size+1,1,none⟩ (.slice none 0 0)):=λer h0 h1 =>
  ⟨(hbw1.setCell (p:=⟨w.heap.size+1,0,none⟩) (by simp) _).setCell (p:=⟨w.heap.size+1,1,none⟩) (by simp) _,.inl ⟨h0,by rw [h1]⟩⟩
 have Hend:=Z5 hend;have zz:=(HS.out w1 hb1).2.2.2.2.2;have z0:=zz.cell 0 rfl;have z1:=zz.cell 1 rfl;have f0:=zz.frozen 0;have f1:=zz.frozen 1;clear hend zz hbW hsW;by_cases hr : eT P M mod N L Q=0;rotate_left
 ·have hs : oY P M mod N L Q=eT P M mod N L Q:=by rw [oY,Mg hr]
  have HF:=Z5 (Hend.out (eT P M mod N L Q) (by rw [hs];exact hr) hs);have hr' : (eT P M mod N L Q != 0)=true:=by simpa using hr
  clear hr hs Hend;generalize eT P M mod N L Q=er at *;go_wp2_with fail;exact bodyPost_ret (v:=.tuple #[.agg #[.int .i64 0,.slice none 0 0],.int .i64 er]) (by simp [results,results99,go_sem,z0,z1]) rfl HF.out
 rw [hr];by_cases hv : Bm P M mod N L Q=true;rotate_left
 ·have hs : oY P M mod N L Q=9:=by rw [oY,Mh (by simpa using hr),Mh hv]
  have HF:=Z5 (Hend.out 9 (by rw [hs];decide) hs);have hv' : Bm P M mod N L Q=false:=by simpa using hv
  rw [hv'];clear hr hs Hend hv hv';go_wp2_with fail;exact bodyPost_ret (v:=.tuple #[.agg #[.int .i64 0,.slice none 0 0],.int .i64 9]) (by simp [results,results99,go_sem,z0,z1]) rfl HF.out
 have hs0 : oY P M mod N L Q=0:=by rw [oY,Mh (by simpa using hr),Mg hv]
 have Hs0:=Z5 hs0;obtain ⟨hE,hok,hg,hl⟩:=FI hv;obtain ⟨m,rfl,hm1,hm64,F,hR⟩:=aS hE;have hQ : qW m Q:=λj hj=>by have:=gr hok hj;omega
 have hno : no=n:=by rw [<- Hql.out,hl,Hil.out]
 have hqm : (Q.length : Int)<=m:=mq hok (by omega);have hn64 : n<=64:=by rw [<- Hil.out,<- hl];omega
 have hpv:=FO F hR hQ hl hg;have hDr : bx (aa P M.toNat mod).El n (L.map (aO Q)):=by have h:=lQ hR hQ;rw [Hql.out,hno] at h;exact h
 have hIr:=zM F hDr;have hqn : Q.length=n:=by rw [Hql.out];exact hno
 rw [hqn] at hpv;have hfB:=(bL hE).1;have hsyl : ew (aa P M.toNat mod).ops m L Q=pC (aa P M.toNat mod).ops m (oW (aa P M.toNat mod).ops (L.map (aO Q)) n) L:=by rw [ew,hqn]
 have HCo : Hid (∀V,Rs w V->Calls prog 155 #[.agg #[.int .i64 P,.int .i64 M,.slice am mn cm],.agg #[.int .i64 m,.slice a n c],.slice ao no co] V λe w' =>
   ∃a1 c1,e = .returned (.tuple #[.agg #[.int .i64 n,.slice a1 n c1],.int .i64 0])/\cU w' a1 n (L.map (aO Q))/\Rs V w'):=λV hV=>by refine (qG P M am mn cm mod m a n c L ao no co Q V (hmod.ah hV) (hi.ah hV) (hq.ah hV) hE hQ (by omega)).mono ?_;rintro e w' ⟨a1,c1,rfl,hM,hb⟩;exact ⟨a1,c1,by rw [hqn],hM.rC,hb⟩
 have HIn : Hid (∀V a1 c1,Rs w V->cU V a1 n (L.map (aO Q))->Calls prog 168 #[.agg #[.int .i64 P,.int .i64 M,.slice am mn cm],.agg #[.int .i64 n,.slice a1 n c1]] V λe w' =>
   ∃a2 c2,e = .returned (.tuple #[.agg #[.int .i64 n,.slice a2 n c2],.int .i64 0])/\cU w' a2 n (oW (aa P M.toNat mod).ops (L.map (aO Q)) n)/\Rs V w'):=λV a1 c1 hV hM=>by refine (zE P M am mn cm mod n a1 c1 (L.map (aO Q)) V (hmod.ah hV) hM hfB hDr hn64 hpv).mono ?_;rintro e w' ⟨a2,c2,rfl,hM2,hb⟩;exact ⟨a2,c2,rfl,hM2.rC,hb⟩
 have HMu : Hid (∀V a2 c2,Rs w V->cU V a2 n (oW (aa P M.toNat mod).ops (L.map (aO Q)) n)->Calls prog 157 #[.agg #[.int .i64 P,.int .i64 M,.slice am mn cm],.agg #[.int .i64 n,.slice a2 n c2],.agg #[.int .i64 m,.slice a n c]] V λe w' =>
   ∃a3 c3,e = .returned (.tuple #[.agg #[.int .i64 m,.slice a3 n c3],.int .i64 0])/\bX V.heap.size w' a3 n (ew (aa P M.toNat mod).ops m L Q)/\Rs V w'):=λV a2 c2 hV hM=>by rw [hsyl];exact Dg P M am mn cm mod n a2 n c2 _ m a c L V (hmod.ah hV) hM (hi.ah hV) hfB hIr hR hn64 hm1 hm64 hn64
 have HPost : Hid (∀a3 c3 w',Rs w w'->bX w.heap.size w' a3 n (ew (aa P M.toNat mod).ops m L Q)->xC P M mod m L Q w (.returned (.tuple #[.agg #[.int .i64 m,.slice a3 n c3],.int .i64 0])) w'):=λa3 c3 w' h1 h2=>by rw [<- Hil.out] at h2 ⊢;exact ⟨h1,.inr ⟨Hs0.out,m,rfl,a3,c3,rfl,h2⟩⟩
 obtain ⟨D,hD⟩ : ∃D,L.map (aO Q)=D:=⟨_,rfl⟩
 obtain ⟨Iv,hIv⟩ : ∃Iv,oW (aa P M.toNat mod).ops D n=Iv:=⟨_,rfl⟩
 rw [hD] at HCo HIn HMu;rw [hIv] at HIn HMu;rw [hv];clear hr hv hs0 hE hok hg hl hQ hno hqm hpv hDr hIr hqn hfB hsyl hD hIv F hR Hend z0 z1 f0 f1;obtain ⟨c0,c1,c2,c3,c4,_⟩:=HS.out w1 hb1;have hb8:=aB w1 (.cells #[.int .i64 m,.slice a n c] 82);have x8:=QS w1 [.int .i64 m,.slice a n c] 82 rfl;have HX8:=Z5 x8;obtain ⟨d0,d1,d2,d3,d4,_⟩:=HS.out _ (QQ hb1 hb8);clear x8;go_wp2_with fail;refine (HCo.out _ (QQ hbw1 hb8)).mono ?_;rintro e w2 ⟨a1,c1',rfl,hM1,hb2⟩;have hb9:=aB w2 (.cells #[.int .i64 n,.slice a1 n c1'] 82);have hk2:=QQ hb2 hb9;have hbk2:=QQ (QQ hb1 hb8) hk2;clear c0 c1 c2 c3 c4 d0 d1 d2 d3 d4 HCo;obtain ⟨c0,c1,c2,c3,c4,_⟩:=HS.out _ hbk2;have Hin:=Z5 (HIn.out _ a1 c1' (QQ HbW.out hbk2) (hM1.ah hb9));clear hM1 HIn;go_wp2_with fail;refine Hin.out.mono ?_;rintro e w3 ⟨a2,c2',rfl,hM2,hb3⟩;have hb10:=aB w3 (.cells #[.int .i64 n,.slice a2 n c2'] 82);have hk3:=QQ hb3 hb10;have hbk3:=QQ hbk2 hk3;clear c0 c1 c2 c3 c4 Hin;obtain ⟨c0,c1,c2,c3,c4,_⟩:=HS.out _ hbk3;have x8:=HX8.out.ah (QQ hk2 hk3);have e0:=x8.cell 0 rfl;have e1:=x8.cell 1 rfl;have Hmu:=Z5 (HMu.out _ a2 c2' (QQ HbW.out hbk3) (hM2.ah hb10));clear hM2 HMu x8;go_wp2_with fail;refine Hmu.out.mono ?_;rintro e w4 ⟨a3,c3',rfl,hM3,hb4⟩;have hbk4:=QQ hbk3 hb4;have zz:=(HS.out w4 hbk4).2.2.2.2.2;have z0:=zz.cell 0 rfl;have z1:=zz.cell 1 rfl;have f0:=zz.frozen 0;have f1:=zz.frozen 1;have hs:=HsW.out;have hsz:=hbk3.size;have HF:=Z5 (HPost.out a3 c3' _ (((QQ HbW.out hbk4).setCell (p:=⟨w.heap.size+1,0,none⟩) (by simp) (.int .i64 m)).setCell (p:=⟨w.heap.size+1,1,none⟩) (by simp) (.slice a3 n c3'))
  (((hM3.setCell (p:=⟨w.heap.size+1,0,none⟩) (by simp at hsz ⊢;omega) (.int .i64 m)).setCell (p:=⟨w.heap.size+1,1,none⟩) (by simp at hsz ⊢;omega) (.slice a3 n c3')).mono (by simp at hsz ⊢;omega)))
 clear c0 c1 c2 c3 c4 e0 e1 Hmu zz hM3 HPost;go_wp2_with fail;exact bodyPost_ret (v:=.tuple #[.agg #[.int .i64 m,.slice a3 n c3'],.int .i64 0]) (by simp [results,results99,go_sem,z0,z1]) rfl HF.out
def yp (O : aJ) (L : ZZ) (Q : Lz) : Bool:=decide (Q.length=L.length) && decide ((jP O L Q).length=Q.length)
theorem Mb.set {m : Nat} {A : Lz} (hA : ∀k,k<A.length->0<=nth A k/\nth A k<m) {t : Nat} (ht : t<A.length) {j : Int} (hj : 0<=j/\j<m) : ∀k,k<A.length->0<=nth (A.set t j) k/\nth (A.set t j) k<m:=λk hk=>by
 rw [dD _ _ _ _ ht];split
 ·exact hj
 ·exact hA k hk
theorem jL (U S : Lz) : ∀k,k<=S.length->fO U S k=((S.take k).countP λx=>decide (¬ x ∈ U) : Nat)
 | 0,_=>by simp [fO]
 | k+1,h=>by
  rw [fO,jL U S k (by omega),Mu (by omega),OH,aj (by omega)];by_cases h1 : S[k] ∈ U
  ·simp [h1]
  ·simp [h1]
theorem EK {U S S' : Lz} (h : S.Perm S') : fO U S S.length=fO U S' S'.length:=by rw [jL _ _ _ (Mf _),jL _ _ _ (Mf _),Ms (Mf _),Ms (Mf _),h.countP_eq]
theorem eK (b : Bool) (U : Lz) : ∀k,(aL b U k).Pairwise (λx y=>x<y)
 | 0=>Py
 | k+1=>by
  have ih:=eK b U k;rw [aL];split
  ·rw [P9];refine ⟨ih,by simp,λx hx y hy=>?_⟩;rw [MK] at hy;obtain ⟨j,hj,rfl,_⟩:=(bh k).1 hx;omega
  ·exact ih
theorem Ec {m : Nat} {U : Lz} (hn : U.Nodup) (hU : ∀x ∈ U,0<=x/\x<(m : Int)) : b8 U=aL true U m:=by
 have h:=eK true U m;refine (lf (h.imp λh=>by omega) ((Oo (h.imp λh=>by omega) hn).2 λx=>?_)).symm;rw [bh];constructor
 ·rintro ⟨j,_,rfl,h1⟩;simpa using h1
 ·intro hx;have h1:=hU x hx;exact ⟨x.toNat,by omega,by omega,by rw [show ((x.toNat : Nat) : Int)=x by omega];simpa using hx⟩
theorem rQ {m : Nat} {U : Lz} (hn : U.Nodup) (hU : ∀x ∈ U,0<=x/\x<(m : Int)) : U.length<=m:=by rw [<- gK,Ec hn hU];exact fM _ _ _
theorem qj {N : Int} {A : Lz} (h : bG N A=true) : A.Nodup:=by
 refine ug λi j hij hj=>?_;have key : ∀d i,i+d<A.length->0<d->nth A i<nth A (i+d):=λd=>by
  induction d with
  | zero=>intro i _ h0;omega
  | succ d ih =>
   intro i hi _
   have h1:=(gr h hi).2.2 (by omega)
   rw [show i+(d+1) - 1=i+d by omega] at h1
   by_cases h0 : d=0
   ·subst h0;exact h1
   ·have:=ih i (by omega) (by omega);omega
 have:=key (j - i) i (by omega) (by omega);rw [show i+(j - i)=j by omega] at this;omega
section
variable {O : aJ} {El : Int->Prop} {m : Nat} {L : ZZ}
theorem G7 (F : bR O El) (hL : bx El m L) {Q Q' : Lz} (h : Q.Perm Q') : yp O L Q=yp O L Q':=by have h1:=Fc F hL h;unfold jI at h1;rw [yp,yp,h1,h.length_eq]
end
section
variable {O : aJ} {El : Int->Prop} {m : Nat} {L : ZZ}
theorem ru (F : bR O El) (hL : bx El m L) {Q : Lz} {x : Int} (h : ¬ ie O El L.length (aK L) (gA Q) x.toNat) : jI O L (Q ++ [x])=jI O L Q+1:=by have h1:=dP F hL (Q ++ [x]);rw [nX] at h1;exact h1.uniq (Rk.ind _ h (dP F hL Q))
theorem lC {Q : Lz} : yp O L Q=true ↔ Q.length=L.length/\jI O L Q=Q.length:=by unfold yp jI;simp
theorem Ie (F : bR O El) (hL : bx El m L) (hfull : Rk (ie O El L.length (aK L)) (List.range m) L.length) {Q : Lz} (hQ : qW m Q) (hall : ∀x,x<m->(x : Int) ∈ Q) : yp O L (jP O L Q)=true:=by
 have h1 : (jP O L Q).length=L.length:=by
  refine (dP F hL Q).same (da F hL) hfull λx=>?_;rw [dp,M8];constructor
  ·rintro ⟨y,hy,rfl⟩;obtain ⟨j,hj,rfl⟩:=List.mem_iff_getElem.1 hy;have:=hQ j hj;rw [aj hj] at this;omega
  ·intro hx;exact ⟨x,hall x hx,by simp⟩
 have h2:=(Bu F hL Q Q.length).1;exact lC.2 ⟨h1,(dP F hL (jP O L Q)).uniq h2⟩
end
theorem gg {P M : Int} {mod : Lz} {m : Nat} {L : ZZ} (hE : aH P M mod m L=0) : Rk (ie (aa P M.toNat mod).ops (aa P M.toNat mod).El L.length (aK L)) (List.range m) L.length:=by
 obtain ⟨N',e,hm1,hm64,F,hR⟩:=aS hE;obtain rfl : m=N':=by omega
 have h6:=(dK (bL hE).2.2.2).2;rw [Mm] at h6;have hcan : dX (aa P M.toNat mod).ops m L=L:=h6;have h:=mB F hR;rwa [hcan] at h
theorem Ez {O : aJ} {L : ZZ} {Q : Lz} (h : Q.Nodup) : (jP O L Q).Nodup:=by
 have key : ∀k,k<=Q.length->(cO O L Q k).2.Nodup/\∀x ∈ (cO O L Q k).2,x ∈ Q.take k:=λk=>by
  induction k with
  | zero=>intro _;exact ⟨by simp [cO],λx hx=>by simp [cO] at hx⟩
  | succ k ih =>
   intro hk
   obtain ⟨h1,h2⟩:=ih (by omega)
   have e : Q.take (k+1)=Q.take k ++ [nth Q k]:=by rw [Mu (by omega),aj (by omega)]
   rw [cO]
   split
   ·have hn : ¬ nth Q k ∈ Q.take k:=by have h3 : (Q.take (k+1)).Nodup:=(OR _ _).nodup h;rw [e,Nq] at h3;intro hm;exact h3.2.2 _ hm _ (by simp) rfl
    refine ⟨?_,λx hx=>?_⟩
    ·rw [Nq]
     exact ⟨h1,by simp,λx hx y hy=>by rw [MK] at hy;subst hy;exact λe=>hn (e ▸ h2 _ hx)⟩
    ·rw [e,M0]
     rcases List.mem_append.1 hx with hx | hx
     ·exact .inl (h2 x hx)
     ·exact .inr hx
   ·exact ⟨h1,λx hx=>by rw [e,M0];exact .inl (h2 x hx)⟩
 exact (key _ (Mf _)).1
def mW (m : Nat) (Q : Lz) : Prop:=Q.Perm ((List.range m).map Int.ofNat)
theorem mW.mem {m : Nat} {Q : Lz} (h : mW m Q) {x : Int} : x ∈ Q ↔ ∃j : Nat,j<m/\x=j:=by
 rw [h.mem_iff,Oc];constructor
 ·rintro ⟨j,hj,rfl⟩;exact ⟨j,List.mem_range.1 hj,rfl⟩
 ·rintro ⟨j,hj,rfl⟩;exact ⟨j,List.mem_range.2 hj,rfl⟩
theorem mW.len {m : Nat} {Q : Lz} (h : mW m Q) : Q.length=m:=by rw [h.length_eq];simp
theorem mW.nodup {m : Nat} {Q : Lz} (h : mW m Q) : Q.Nodup:=by refine h.nodup_iff.2 ?_;rw [Pq,Nr];exact List.nodup_range.imp λh e=>h (Int.ofNat.inj e)
theorem mW.Mc {m : Nat} {Q : Lz} (h : mW m Q) : qW m Q:=λj hj=>by obtain ⟨i,hi,e⟩:=h.mem.1 (aN hj);omega
section
variable {P M : Int} {mod : Lz} {m : Nat} {L : ZZ}
theorem Fq (hE : aH P M mod m L=0) {Q : Lz} (hQ : mW m Q) :
  bG m (b8 (jP (aa P M.toNat mod).ops L Q))=true/\yp (aa P M.toNat mod).ops L (b8 (jP (aa P M.toNat mod).ops L Q))=true:=by
 obtain ⟨N',e,hm1,hm64,F,hR⟩:=aS hE;obtain rfl : m=N':=by omega
 refine ⟨BE (Ez hQ.nodup) λx hx=>?_,?_⟩
 ·obtain ⟨j,hj,rfl⟩:=hQ.mem.1 (l0 _ L Q _ (Mf _) x hx);omega
 ·rw [G7 F hR (dE _)];exact Ie F hR (gg hE) hQ.Mc λx hx=>hQ.mem.2 ⟨x,hx,rfl⟩
end
def y8 (O : aJ) (L : ZZ) (Q : Lz) (most : Nat) : Lz:=(jP O L Q).take most
def jR (m : Nat) (s z : Lz) : Lz:=b8 z ++ aL false (s ++ z) m
structure la where
 M : Nat
 W : Nat
 cos : Bool
 y : Lz
def vr (m : Nat) (s t : Lz) : Bool:=bG m t && t.all λx=>decide (¬ x ∈ s)
structure LS where
 rows : ZZ
 sum : Lz
 top : Nat
def xH (O : aJ) (v : Lz) (i : Nat) (r : Lz) : Lz :=
 if nth v i=0 then v else List.zipWith (λa y=>if y=0 then a else O.add a (O.neg (O.mul (nth v i) y))) v r
def oq (O : aJ) (t i : Nat) (L : ZZ) : Nat->ZZ
 | 0=>L
 | l+1=>if t<l then (oq O t i L l).set l (xH O (ai (oq O t i L l) l) i (ai (oq O t i L l) t)) else oq O t i L l
def Gx (O : aJ) (L : ZZ) (t k i : Nat) : ZZ :=
 oq O t i ((bk L t k).set t ((ai (bk L t k) t).map (O.mul (O.inv (nth (ai (bk L t k) t) i))))) L.length
def JS (O : aJ) (st : LS) (i : Nat) : LS :=
 if aW st.rows i st.top=st.rows.length then st
 else ⟨Gx O st.rows st.top (aW st.rows i st.top) i,xH O st.sum i (ai (Gx O st.rows st.top (aW st.rows i st.top) i) st.top),st.top+1⟩
def GY (O : aJ) (L : ZZ) (y t : Lz) : Nat->LS
 | 0=>⟨L,y,0⟩
 | k+1=>JS O (GY O L y t k) (nth t k).toNat
def Ft (s v : Lz) : Nat->Nat
 | 0=>0
 | k+1=>if nth v k ≠ 0/\¬ (k : Int) ∈ s then Ft s v k+1 else Ft s v k
def BK (O : aJ) (L : ZZ) (y s t : Lz) : Nat:=Ft s (GY O L y t t.length).sum (GY O L y t t.length).sum.length
def ey (O : aJ) (L : ZZ) (m : Nat) (C : la) (s t : Lz) : Bool :=
 vr m s t && (decide ((jP O L t).length=t.length) &&
  if C.cos=true then decide ((jP O L (aL false s m)).length=t.length) && decide (C.W<s.length+BK O L C.y s t) else decide (t.length=C.M))
def zQ (C : la) (s z t : Lz) : Lz:=if s.length<C.W then t.filter λx=>decide (¬ x ∈ z) else []
def Em (F : Lz->Lz->ZZ->Option ZZ) (s : Lz) : Lz->Lz->ZZ->Option ZZ
 | _,[],ts=>some ts
 | z,k :: ks,ts=>match F (s ++ [k]) z ts with
  | none=>none
  | some ts'=>Em F s (z ++ [k]) ks ts'
def ld (O : aJ) (L : ZZ) (m : Nat) (C : la) : Nat->Lz->Lz->ZZ->Option ZZ
 | 0,s,_,ts=>match ts with
  | []=>none
  | t :: ts=>if ey O L m C s t=true then some ts else none
 | d+1,s,z,ts=>match ts with
  | []=>none
  | t :: ts=>if ey O L m C s t=true then Em (ld O L m C d) s z (zQ C s z t) ts else none
def CQ (O : aJ) (L : ZZ) (m : Nat) (C : la) (T : ZZ) : Int :=
 match ld O L m C C.W [] [] T with
 | some []=>0
 | _=>13
def fb (O : aJ) (L : ZZ) (m : Nat) (C : la) (s z : Lz) : Lz:=b8 (y8 O L (jR m s z) (if C.cos=true then m else C.M))
def iA (F : Lz->Lz->ZZ->Int × ZZ) (s : Lz) : Lz->Lz->ZZ->Int × ZZ
 | _,[],T=>(0,T)
 | z,k :: ks,T=>if (F (s ++ [k]) z T).1=0 then iA F s (z ++ [k]) ks (F (s ++ [k]) z T).2 else ((F (s ++ [k]) z T).1,[])
def ko (O : aJ) (L : ZZ) (m : Nat) (C : la) : Nat->Lz->Lz->ZZ->Int × ZZ
 | 0,s,z,T=>if ey O L m C s (fb O L m C s z)=true then if T.length=65536 then (8,[]) else (0,T ++ [fb O L m C s z]) else (11,[])
 | d+1,s,z,T=>if ey O L m C s (fb O L m C s z)=true then if T.length=65536 then (8,[]) else iA (ko O L m C d) s z (zQ C s z (fb O L m C s z)) (T ++ [fb O L m C s z]) else (11,[])
def uR (O : aJ) (L : ZZ) (m : Nat) (C : la) : Int × ZZ:=ko O L m C C.W [] [] []
theorem yr (O : aJ) (L : ZZ) (Q : Lz) {k : Nat} : ∀j,k<=j->(cO O L Q k).2 <+: (cO O L Q j).2
 | 0,h=>by
   obtain rfl : k=0:=by omega
   exact NO
 | j+1,h=>by
  by_cases e : k=j+1
  ·subst e;exact NO
  ·refine (yr O L Q j (by omega)).trans ?_;rw [cO];split
   ·exact Pr _ _
   ·exact NO
theorem FM {O : aJ} {L : ZZ} {Q : Lz} {k most : Nat} (hk : k<=Q.length) (h : (cO O L Q k).2.length=most) : y8 O L Q most=(cO O L Q k).2:=by obtain ⟨l,hl⟩:=yr O L Q Q.length hk;rw [y8,jP,<- hl,<- h,List.take_left]
theorem Ju {O : aJ} {L : ZZ} {Q : Lz} {most : Nat} (h : (cO O L Q Q.length).2.length<=most) : y8 O L Q most=(cO O L Q Q.length).2:=by rw [y8,jP,Ms h]
theorem Ds (O : aJ) (L : ZZ) (Q : Lz) : ∀k,(cO O L Q k).2.length<=k
 | 0=>Mf _
 | k+1=>by
  have ih:=Ds O L Q k;rw [cO];split
  ·simp;omega
  ·dsimp only;omega
theorem A7 (O : aJ) (L : ZZ) (Q : Lz) : (jP O L Q).length<=Q.length:=Ds O L Q _
theorem Gj {O : aJ} {L : ZZ} {Q : Lz} {most : Nat} (h : Q.length<=most) : y8 O L Q most=jP O L Q :=
 Ms (Mt (A7 O L Q) h)
theorem CO {O : aJ} {L : ZZ} {Q : Lz} {most : Nat} : ∀x ∈ y8 O L Q most,x ∈ Q:=λx hx =>
 l0 O L Q Q.length (Mf _) x (Nd hx)
theorem F5 (m : Nat) (s z : Lz) : (jR m s z).length<=z.length+m:=by unfold jR;have:=fM false (s ++ z) m;rw [Mp,gK];omega
theorem zU {m : Nat} {s z : Lz} {x : Int} (h : x ∈ jR m s z) : x ∈ z\/(0<=x/\x<m/\¬ x ∈ s/\¬ x ∈ z):=by
 unfold jR at h;rcases List.mem_append.1 h with h | h
 ·exact .inl ((dE z).mem_iff.1 h)
 ·obtain ⟨j,hj,rfl,hd⟩:=(bh m).1 h;have : ¬ (j : Int) ∈ s ++ z:=by simpa using hd
  rw [M0] at this;exact .inr ⟨by omega,by omega,λh=>this (.inl h),λh=>this (.inr h)⟩
theorem Ga {m : Nat} {s t : Lz} (h : vr m s t=true) : bG m t=true/\∀x ∈ t,¬ x ∈ s:=by unfold vr at h;rw [MC,MX] at h;exact ⟨h.1,λx hx=>by simpa using h.2 x hx⟩
theorem F3 {O : aJ} {L : ZZ} {m : Nat} {C : la} {s t : Lz} (h : ey O L m C s t=true) : bG m t=true/\∀x ∈ t,¬ x ∈ s:=by unfold ey at h;rw [MC] at h;exact Ga h.1
section
theorem kc : ∀ {s T : Lz},s.Nodup->(∀x ∈ s,x ∈ T)->s.length<=T.length
 | [],_,_,_=>Mj _
 | x :: s,T,hn,h=>by have hx : x ∈ T:=h x (by simp);have hn':=List.nodup_cons.1 hn;have h1 : ∀y ∈ s,y ∈ T.erase x:=λy hy=>(Qa (λ(e : y=x)=>hn'.1 (by rw [<- e];exact hy))).2 (h y (by simp [hy]));have h2:=kc hn'.2 h1;rw [PD hx] at h2;have : 0<T.length:=PM hx;simp only [MT];omega
variable {O : aJ} {L : ZZ} {m : Nat} {C : la}
end
section
theorem lP (O : aJ) (v : Lz) (i : Nat) (r : Lz) (h : r.length=v.length) : (xH O v i r).length=v.length:=by unfold xH;split <;> simp [h]
theorem F0 (O : aJ) (v : Lz) (i : Nat) (r : Lz) (j : Nat) (h : r.length=v.length) (hj : j<v.length) (h0 : nth v i ≠ 0) :
  nth (xH O v i r) j=if nth r j=0 then nth v j else O.add (nth v j) (O.neg (O.mul (nth v i) (nth r j))):=by unfold xH;rw [Mh h0,aj (show j<_ by simp [h];omega),aj hj,aj (show j<r.length by omega)];simp
theorem JC {O : aJ} {El : Int->Prop} (hO : sV O El) {v r : Lz} {i : Nat} (hv : ∀x ∈ v,El x) (hr : ∀x ∈ r,El x) (hl : r.length=v.length) (hi : i<v.length) : ∀x ∈ xH O v i r,El x:=by
 intro x hx;by_cases h0 : nth v i=0
 ·unfold xH at hx;rw [Mg h0] at hx;exact hv x hx
 ·obtain ⟨j,hj,rfl⟩:=List.mem_iff_getElem.1 hx;rw [lP O v i r hl] at hj;have h1:=F0 O v i r j hl hj h0;rw [aj (show j<(xH O v i r).length by rw [lP O v i r hl];exact hj)] at h1;rw [h1];have e1 : El (nth v j):=hv _ (aN hj);have e2 : El (nth r j):=hr _ (aN (by omega));have e3 : El (nth v i):=hv _ (aN hi);split
  ·exact e1
  ·exact hO.add _ _ e1 (hO.neg _ (hO.mul _ _ e3 e2))
variable {w : World} {b : Nat} {G : cJ}
end
section
def bn : Nat->Nat->Nat
 | _,0=>1
 | 0,_+1=>1
 | r+1,d+1=>bn r (d+1)+bn (r+1) d
variable {O : aJ} {El : Int->Prop} {m : Nat} {L : ZZ}
theorem ma (F : bR O El) (hL : bx El m L) (Q : Lz) (x : Int) : jI O L (Q ++ [x])<=jI O L Q+1:=by
 have h1:=dP F hL (Q ++ [x]);rw [nX] at h1;have h2:=dP F hL Q;generalize jI O L (Q ++ [x])=n at *;cases h1 with
 | dep _ _ h=>rw [h2.uniq h];omega
 | ind _ _ h=>rw [h2.uniq h];omega
theorem BG (O : aJ) (L : ZZ) (Q : Lz) : jI O L Q<=Q.length:=A7 O L Q
theorem sH (F : bR O El) (hL : bx El m L) {Q Q' : Lz} (h : ∀x ∈ Q,x ∈ Q') : jI O L Q<=jI O L Q' :=
 Ih F hL λx hx=>by obtain ⟨y,hy,e⟩:=dp.1 hx;exact (da F hL).mem _ _ (dp.2 ⟨y,h y hy,e⟩)
variable {C : la}
structure Fk (O : aJ) (L : ZZ) (m : Nat) (C : la) (s z : Lz) : Prop where
 sn : s.Nodup
 sb : ∀x ∈ s,0<=x/\x<(m : Int)
 zn : z.Nodup
 zb : ∀x ∈ z,0<=x/\x<(m : Int)
 sz : ∀x ∈ z,¬ x ∈ s
 zi : jI O L z=z.length
 zk : ¬ C.cos=true->z.length<=C.M
theorem Fk.root : Fk O L m C [] []:=⟨by simp,λx hx=>by simp at hx,by simp,λx hx=>by simp at hx,λx hx=>by simp at hx,rfl,λ_=>Mj _⟩
theorem Ea {s z : Lz} (hz : z.Nodup) : (jR m s z).Nodup:=by
 unfold jR;rw [Nq];refine ⟨(dE z).nodup_iff.2 hz,(eK false (s ++ z) m).imp λh=>by omega,λa ha b hb e=>?_⟩;obtain ⟨j,hj,rfl,hd⟩:=(bh m).1 hb;have hn : ¬ (j : Int) ∈ s ++ z:=by simpa using hd
 exact hn (List.mem_append.2 (.inr ((dE z).mem_iff.1 (e ▸ ha))))
theorem Gr {s z : Lz} {x : Int} : x ∈ fb O L m C s z ↔ x ∈ y8 O L (jR m s z) (if C.cos=true then m else C.M):=(dE _).mem_iff
theorem BJ {s z : Lz} (hz : z.Nodup) : (fb O L m C s z).Nodup:=by unfold fb;refine (dE _).nodup_iff.2 ?_;unfold y8;refine OI (OR _ _) ?_;exact gr_nodup (Ea hz)
where gr_nodup {Q : Lz} (hQ : Q.Nodup) : (jP O L Q).Nodup := OI (gr_sub Q Q.length (Mf _)) (by rw [QA]; exact hQ)
      gr_sub (Q : Lz) : ∀k,k<=Q.length->((cO O L Q k).2).Sublist (Q.take k)
 | 0,_=>by simp [cO]
 | k+1,h=>by
  have ih:=gr_sub Q k (by omega);rw [cO,Mu (by omega)];split
  ·rw [aj (show k<Q.length by omega)];exact ih.append (List.Sublist.refl _)
  ·exact ih.trans (List.sublist_append_left _ _)
end
section
theorem jj (O : aJ) (t i : Nat) (L : ZZ) : ∀l,(oq O t i L l).length=L.length
 | 0=>rfl
 | l+1=>by
  rw [oq];split
  ·rw [M9];exact jj O t i L l
  ·exact jj O t i L l
theorem bx.L9 {O : aJ} {El : Int->Prop} {m : Nat} (hO : sV O El) {L : ZZ} {t i : Nat} (hL : bx El m L) (ht : t<L.length) (hi : i<m) : ∀l,l<=L.length->bx El m (oq O t i L l)
 | 0,_=>hL
 | l+1,hl=>by
  have ih:=bx.L9 hO hL ht hi l (by omega);rw [oq];split
  ·have h1:=ih.row (i:=l) (by rw [jj];omega);have h2:=ih.row (i:=t) (by rw [jj];omega);exact ih.set l ⟨by rw [lP _ _ _ _ (by rw [h1.1,h2.1])];exact h1.1,JC hO h1.2 h2.2 (by rw [h1.1,h2.1]) (by rw [h1.1];exact hi)⟩
  ·exact ih
variable {w : World} {b : Nat} {G : cJ}
end
theorem xj {L : ZZ} {i t : Nat} (ht : t<=L.length) (h : aW L i t ≠ L.length) : t<=aW L i t/\aW L i t<L.length/\nth (ai L (aW L i t)) i ≠ 0:=by
 have h1:=lj (c:=i) ht;refine ⟨h1.1,by omega,?_⟩;unfold aW;refine fP L i _ _ ?_;have : aW L i t<L.length:=by omega
 unfold aW at this;omega
theorem aw.ow {w V V' : World} {I I' : Nat->Prop} (h : aw w V I I') (g : Below w.heap.size V V') : aw w V' I I' :=
 ⟨g.os.trans h.os,g.tape.trans h.tape,g.output.trans h.output,Mt h.size g.size,λb hb hi=>(g.block b hb).trans (h.block b hb hi),h.grow⟩
theorem aw.grown {w w' : World} {K : Nat->Prop} {a : OA} {n c : Nat} (hg : w.grownBy w' (Value.slice a n c).ownBlock) (hK : a ≠ none->K (an a)) : aw w w' K K :=
 ⟨hg.os,hg.tape,hg.output,hg.size,λb hb hi=>hg.block b hb λe=>by
  cases a with
  | none=>cases e
  | some ad =>
   have h1 : b=ad.block:=by simpa [Value.ownBlock] using e
   exact hi (h1 ▸ hK (by simp)),λb hb=>.inl hb⟩
theorem Ints.cQ {w w' : World} {I I' : Nat->Prop} {a : OA} {n : Nat} {l : Lz} (h : Ints w a n l) (hM : aw w w' I I') (hI : 0<n->¬ I (an a)) : Ints w' a n l :=
 h.of_block λhn=>hM.block _ (h.lt hn) (hI hn)
theorem bf.cQ {w w' : World} {I I' : Nat->Prop} {b : Nat} {cs : List Value} (h : bf w b cs) (hM : aw w w' I I') (hI : ¬ I b) : bf w' b cs:=by have hb:=hM.block b h.1 hI;refine ⟨ME h.1 hM.size,λi v hv=>(MI (w:=w) (a:=⟨b,i,none⟩) hb).trans (h.2.1 i v hv),λi=>?_⟩;rw [<- h.2.2 i];unfold World.frozen?;simp only [hb]
theorem aw.put (w : World) (b i : Nat) (v : Value) : aw w (w.setCell ⟨b,i,none⟩ v) (λx=>x=b) (λx=>x=b):=by have hb0 : Below 0 w (w.setCell ⟨b,i,none⟩ v):=(Mi 0 w).setCell (Mj _) v;exact ⟨hb0.os,hb0.tape,hb0.output,hb0.size,λx hx hI=>MB _ _ _ _ λe=>hI e,λx hx=>.inl hx⟩
section
open Go.RowKit
end
def QZ:=@aw.grown
def Rp:=@aw.put
end Go.Proofs.YtcfmiocdlcapoaaGreat
