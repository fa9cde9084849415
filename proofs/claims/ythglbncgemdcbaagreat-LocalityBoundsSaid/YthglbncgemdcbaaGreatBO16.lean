import Derived.Test.YthglbncgemdcbaaGreatBO14
import Derived.RangeFuncSeq
import Derived.Shelf.RegionOpen
namespace Go.Proofs.YthglbncgemdcbaaGreat
set_option linter.all false
set_option maxRecDepth 100000
set_option maxHeartbeats 8000000
open Go.RowKit Go.Proofs.Tryz
def Ju (O:aL) (m:Nat) (A B:ZZ):ZZ:=A.map λr=>cmbTo O m r B B.length
theorem JU (P M:Int) (am:OA) (mn cm:Nat) (mod:Lz) (k:Nat) (a:OA) (n c:Nat) (A:ZZ) (m:Nat) (r:OA) (cb:Nat) (B:ZZ) (w:ej) (hmod:Ints w am mn mod) (hi:bP w a n A) (hb:bP w r k B)
  (K:bw P M mod=true) (N:bz (ah P M.toNat mod).El k A) (hBr:bz (ah P M.toNat mod).El m B) (hk:k<=64) (hm1:1<=m) (hm:m<=64) (hn:n<=64) :
  Calls prog 205 #[.agg #[cG P,cG M,.slice am mn cm],.agg #[cG k,.slice a n c],.agg #[cG m,.slice r k cb]] w
   λe w'=>∃a1 c1,e = ec #[.agg #[cG m,.slice a1 n c1],cG 0]/\bJ w.heap.size w' a1 n (Ju (ah P M.toNat mod).ops m A B)/\SJ w w':=by
 have hAl:=hi.len;have hBl:=hb.len;have F:=dY K;have E:e9 (ah P M.toNat mod).q k A=0:=(gk (iR K (show k<=256 by omega) (show A.length<=256 by omega) N)).2;have z:e9 (ah P M.toNat mod).q m B=0:=(gk (iR K (show m<=256 by omega) (show B.length<=256 by omega) hBr)).2;have hpla:=hi.pl;obtain ⟨G,hGG⟩:∃G,ah P M.toNat mod=G:=⟨_,rfl⟩
 rw [hGG] at N hBr F E z ⊢;obtain ⟨L2,hL2⟩:∃L2,Ju G.ops m A B=L2:=⟨_,rfl⟩
 have HL2l:Hid (L2.length=n):=by show _=_;rw [<- hL2,Ju,No];exact hAl
 have HLk:Hid (∀j,j<n->L2.take (j+1)=L2.take j ++ [cmbTo G.ops m (aj A j) B k]):=λj hj=>by
  have hj':j<L2.length:=by rw [HL2l.out];exact hj
  rw [Nh hj',<- aH hj',<- hL2,Ju,oT _ A (by omega),hBl]
 rw [hL2];have HAr:Hid (∀j,j<n->(aj A j).length=k/\∀x ∈ aj A j,G.El x):=λj hj=>N.row (by omega);have HBr:=Z5 hBr;have HFl:=Z5 F;have HBl:=Z5 hBl;have HB:=Z5 K;have HmE:=Z5 (Ng E z);have HGG:=Z5 hGG;clear N hBr F hAl hBl K E z hGG hL2;go_enter func205,ntmps205;go_wp2_with fail;obtain ⟨W,hW⟩:∃W:ej,W=(((((w.alloc (.cells #[cG P,cG M,.slice am mn cm] 24)).alloc (.cells #[cG k,.slice a n c] 94)).alloc (.cells #[cG m,.slice r k cb] 94)).alloc (.cells #[cG 0,ds] 94)).alloc (.cells #[cG k,.slice a n c,cG m,.slice r k cb] 94)):=⟨_,rfl⟩
 rw [<- hW];have Q:SJ w W:=by rw [hW];exact (((((M5 _ _).alloc (M4 _) _).alloc (by simp) _).alloc (by simp;omega) _).alloc (by simp;omega) _).alloc (by simp;omega) _
 have hsW:W.heap.size=w.heap.size+5:=by rw [hW];simp
 have x1:aQ W (w.heap.size+1) [cG k,.slice a n c]:=by rw [hW];exact (((RV _ _ _ (by simp)).alloc _).alloc _).alloc _
 have x2:aQ W (w.heap.size+1+1) [cG m,.slice r k cb]:=by rw [hW];exact ((RV _ _ _ (by simp)).alloc _).alloc _
 have x3:aQ W (w.heap.size+1+1+1) [cG 0,ds]:=by rw [hW];exact (RV _ _ _ (by simp)).alloc _
 have q3:∀i v,[Value.int .i64 k,.slice a n c,cG m,.slice r k cb][i]? = some v->W.cell? ⟨w.heap.size+1+1+1+1,i,none⟩=some v:=λi v hv=>by
  have h:aQ W (w.heap.size+1+1+1+1) [cG k,.slice a n c,cG m,.slice r k cb]:=by rw [hW];exact RV _ _ _ (by simp)
  exact h.cell i hv
 have hMs:xz W (some ⟨w.heap.size+1+1+1+1,0,none⟩) 2 [((k:Int),A),((m:Int),B)]:=⟨rfl,λ_=>rfl,by unfold maxLen;omega,λi hi'=>by
  match i,hi' with
  | 0,_=>exact ⟨a,n,c,by simpa using q3 0 _ rfl,by simpa using q3 1 _ rfl,hi.ai Q⟩
  | 1,_=>exact ⟨r,k,cb,by simpa using q3 2 _ rfl,by simpa using q3 3 _ rfl,hb.ai Q⟩⟩
 have HX:=Z5 (Ng x1 (Ng x2 x3));have HsW:=Z5 hsW;have HbW:=Z5 Q;clear hW hsW x1 x2 x3 q3;refine (l6 P M am mn cm mod _ 2 2 _ W (hmod.ai Q) hMs).mono ?_;rintro e w1 ⟨D,hcase⟩;have hms:matsE (ah P M.toNat mod).q [((k:Int),A),((m:Int),B)]=0:=by rw [HGG.out];simp [matsE,HmE.1,HmE.2]
 rcases hcase with ⟨hB,_⟩ | ⟨_,er,h0,h1,_⟩ | ⟨_,_,b,rfl,hG,hbl⟩
 ·rw [HB.out] at hB;exact absurd hB (by decide)
 ·rw [hms] at h1;exact absurd h1.symm h0
 rw [HGG.out] at hG;have hbw1:=RU Q D;have r1:=HX.1.ai D;have r2:=HX.2.1.ai D;have m0:=r1.cell 0 rfl;have m1:=r1.cell 1 rfl;have p0:=r2.cell 0 rfl;have p1:=r2.cell 1 rfl;have hkk:((k:Int) != k)=false:=by simp
 clear hMs Q r1 r2 hbl hmod hms;go_upto_region 6 with fail;obtain ⟨g,hg⟩:∃g,w1.heap.size=g:=⟨_,rfl⟩
 have HGs:=Z5 hg;clear hg;go_cut [10] (λv wx=>v = ea w1.heap.size 0/\jF wx w1.heap.size (cG m) none 0 0 [] []/\SJ w1 wx);case first =>
  go_wp2_with fail
  go_meet
  exact ⟨rfl,jF.start (RV w1 [cG m,ds] _ rfl),aD _ _⟩
 obtain ⟨rfl,hO0,hbc⟩:=hcut;generalize wc=U at *;have hs3:=HGs.out;rw [hs3] at hO0 ⊢;have HbU:=Z5 (RU D hbc);have HbU1:=Z5 hbc;have HS:Hid (∀V,SJ W V->V.cell? ⟨w.heap.size+1,0,none⟩=some (cG k)/\V.cell? ⟨w.heap.size+1,1,none⟩=some (.slice a n c)/\V.cell? ⟨w.heap.size+1+1,0,none⟩=some (cG m)/\V.cell? ⟨w.heap.size+1+1,1,none⟩=some (.slice r k cb)):=λV hV=>by have r1:=HX.1.ai hV;have r2:=HX.2.1.ai hV;exact ⟨r1.cell 0 rfl,r1.cell 1 rfl,r2.cell 0 rfl,r2.cell 1 rfl⟩
 clear m0 m1 p0 p1;obtain ⟨m0,m1,p0,p1⟩:=HS U HbU.out;have hgU:=hO0.lt;have hgW:W.heap.size<=g:=by have:=D.size;omega
 have hw1g:w1.heap.size<=g:=by omega
 clear hbc hs3;go_wp2_with fail;clear m0 m1 p0 p1;go_loopw [38] (λiv wr=>∃(j:Nat) (a1:OA) (c1:Nat) (Rr:Z4),j<=n/\iv = cG j/\jF wr g (cG m) a1 j c1 Rr (L2.take j)/\Below g U wr) (λiv _=>n - (intOf iv).toNat);case atStart=>exact ⟨0,none,0,[],Nb _,rfl,by simpa using hO0,M5 _ _⟩
 case round =>
  clear hO0
  obtain ⟨j,a1,c1,Rr,hj,rfl,hO,hbr⟩:=hrel
  have Y:=NK HbU.out (hbr.mono hgW)
  have S:=RU HbW.out Y
  have hb1r:SJ w1 wr:=NK HbU1.out (hbr.mono hw1g)
  have hgr:=hO.lt
  by_cases I:j<n
  ·obtain ⟨ra,rn,rc,hcell,Z⟩:=(hi.ai S).cell j I
   have N:=HAr j I
   have hrn:rn=k:=by rw [<- Z.len];exact N.1
   rw [hrn] at hcell Z
   have Htk:=Z5 (HLk j I)
   obtain ⟨l,hl⟩:∃l,aj A j=l:=⟨_,rfl⟩
   rw [hl] at Htk Z N
   have Hvec:Hid (∀V,SJ wr V->Calls prog 147 #[ea b 0,.slice ra k rc,.slice r k cb,cG m] V λe w' =>
     ∃a1 c1,e = .returned (.slice a1 m c1)/\w'.ownsRow V.heap.size 3 1 (.slice a1 m c1) m ((cmbTo G.ops m l B k).map (Value.int .i64))/\SJ V w'):=λV hV =>
    JT ra rc l r k cb B m (hG.ai (RU hb1r hV)) HFl.out (Z.ai hV) (hb.ai (RU S hV)) (λt ht=>N.2 _ (aG (by rw [N.1];exact ht))) HBr.out hm1 (by omega) (by omega)
   have hvl:(cmbTo G.ops m l B k).length=m:=(iZ HFl.out HBr.out (x:=l) (λt ht=>N.2 _ (aG (by rw [N.1,<- HBl.out];exact ht))) k (by rw [HBl.out];exact M4 _)).1.1
   obtain ⟨pk,hpk⟩:∃pk,cmbTo G.ops m l B k=pk:=⟨_,rfl⟩
   rw [hpk] at Hvec hvl Htk
   have Hvl:=Z5 hvl
   have Hbr:=Z5 hbr
   have HbWr:=Z5 Y
   have HO:=Z5 hO
   have g1:=hO.c1
   obtain ⟨_,_,p0,p1⟩:=HS wr Y
   clear hl hrn hpk hvl N Z hbr Y S hb1r hO
   go_wp2_with fail
   go_region_law ((first
    | (go_simp;go_at_call 147;((with_reducible refine (Hvec.out _ (M5 _ _).drew).mono ?_);rintro e w4 ⟨a4,c4,rfl,C,hb4⟩;have hb4':=RU (M5 wr.heap.size wr).drew hb4;have X:=HO.out.ai hb4';have g2:=X.c1;have g3:=aU X.c1 (.cells #[.slice a4 m c4] 22)))
    | (refine gB (by rfl) (.tmp 43) (.tmp 51) 25 22 (by rfl) ds 24 underlying25 ed (by rfl) (g+1) a1 j c1 (List.zipWith jD Rr (L2.take j)) (by rfl) ((X.om.ai (aD _ _)).own) (some ⟨w4.heap.size,0,none⟩) 1 1 [.slice a4 m c4] (by rfl) (λ_=>rfl) rfl (by intro y hy;obtain rfl:y=0:=(by omega);exact dB _ _ _ rfl) (by intro y hy;simp at hy;subst hy;rfl) (by omega) (by unfold maxLen;omega) (by have e2:=X.lt;simp;omega) ?_;intro a5 c5 w5 hown5 H hap5;have k5:=(X.lO H).2.1;have f5:=(X.lO H).2.2)))
   all_goals (
    go_wp2_with fail
    go_roundw
    case rel =>
     have hra:a4 ≠ none->¬ bN a1 Rr (ablk a4):=λh0 hI=>by have h1:=(aP C h0).1;have h2:=(HO.om.lt _ hI).2;have h3:wr.drew.heap.size=wr.heap.size:=rfl;omega
     obtain ⟨hP,hbP⟩:=X.push Hvl.out (bq C (show g+1<=wr.drew.heap.size from hgr)) hra hown5 H hap5
     exact ⟨j+1,a5,c5,_,by omega,by go_num,by rw [Htk.out];exact hP,NK Hbr.out ((hb4'.mono (by omega)).trans hbP)⟩
    case measure=>simp [intOf]<;>omega)
  ·obtain rfl:j=n:=by omega
   rw [Nj (by rw [HL2l.out];exact M4 _)] at hO
   have g0:=hO.c0
   have g1:=hO.c1
   have z6:=HX.2.2.ai Y
   have z0:=z6.cell 0 rfl
   have z1:=z6.cell 1 rfl
   have f0:=z6.frozen 0
   have f1:=z6.frozen 1
   have hs:=HsW.out
   have hMN:bJ (g+1) wr a1 j L2:=Sq hO.om
   have HF:=Z5 (Ng (((hMN.setCell (p:=⟨w.heap.size+1+1+1,0,none⟩) (by simp;omega) (cG m)).setCell (p:=⟨w.heap.size+1+1+1,1,none⟩) (by simp;omega) (.slice a1 j c1)).mono (show w.heap.size<=g+1 by omega))
    ((S.setCell (p:=⟨w.heap.size+1+1+1,0,none⟩) (by simp;omega) (cG m)).setCell (p:=⟨w.heap.size+1+1+1,1,none⟩) (by simp;omega) (.slice a1 j c1)))
   clear hMN z6 hO
   go_wp2_with fail
   exact bodyPost_ret (v:=.tuple #[.agg #[cG m,.slice a1 j c1],cG 0]) (by simp [results,results205,go_sem,z0,z1]) rfl ⟨a1,c1,rfl,HF.1,HF.2⟩
def Lg (K:Int) (Q:Lz) (W:Int):Bool:=decide (0<=K) && decide (K<=64) && decide (0<=W) && decide (W<=K) && decide (Q.length<=64)
def flTo (K W:Int) (Q:Lz):Nat->Int
 | 0=>0
 | k+1=>flTo K W Q k+max 0 (W+1 - (K - nth Q k))
def Du (K:Int) (x:Int):Bool:=decide (0<=x) && decide (x<=K)
def Dq (K:Int) (Q:Lz) (W:Int):Int × Int:=if Lg K Q W=true/\Q.all (Du K)=true then (flTo K W Q Q.length,0) else (0,6)
theorem C5 {K W:Int} {Q:Lz} (V:0<=K/\K<=64) (X:0<=W/\W<=K) (Z:Q.all (Du K)=true):∀k,k<=Q.length->0<=flTo K W Q k/\flTo K W Q k<=200 * k
 | 0,_=>by simp [flTo]
 | k+1,h=>by have U:=C5 V X Z k (by omega);have Y:=List.all_eq_true.1 Z _ (aG (i:=k) (by omega));unfold Du at Y;simp only [Nx,NM] at Y;rw [flTo];omega
theorem E0 (K:Int) (a:OA) (n c:Nat) (Q:Lz) (X:Int) (w:ej) (hi:Ints w a n Q) :
  Calls prog 156 #[cG K,.slice a n c,cG X] w λe w'=>e = ec #[cG (Dq K Q X).1,cG (Dq K Q X).2]/\w'=w:=by
 have C:=Z5 hi.len;have hpl:=hi.pl;have D:=hi.max;unfold maxLen at D;go_enter func156,ntmps156;go_upto_region 1 with fail;have bad:Lg K Q X=false->Dq K Q X=(0,6):=λh=>by rw [Dq,M8 (by rw [h];simp)]
 have Y:=Z5 bad;clear bad;have Z:Lg K Q X=(decide (0<=K) && decide (K<=64) && decide (0<=X) && decide (X<=K) && decide (n<=64)):=by rw [Lg,C.out]
 by_cases h1:K<0
 ·have d1:decide (K<0)=true:=by simpa using h1
  have V:=Z5 (Y (by rw [Z];simp;omega));clear h1 Z;go_wp2_with fail;go_ret2;exact ⟨by rw [V.out];rfl,rfl⟩
 have d1:decide (K<0)=false:=by simpa using h1
 by_cases h2:64<K
 ·have d2:decide (64<K)=true:=by simpa using h2
  have V:=Z5 (Y (by rw [Z];simp;omega));clear h1 h2 Z;go_wp2_with fail;go_ret2;exact ⟨by rw [V.out];rfl,rfl⟩
 have d2:decide (64<K)=false:=by simpa using h2
 by_cases h3:X<0
 ·have d3:decide (X<0)=true:=by simpa using h3
  have V:=Z5 (Y (by rw [Z];simp;omega));clear h1 h2 h3 Z;go_wp2_with fail;go_ret2;exact ⟨by rw [V.out];rfl,rfl⟩
 have d3:decide (X<0)=false:=by simpa using h3
 by_cases h4:K<X
 ·have d4:decide (K<X)=true:=by simpa using h4
  have V:=Z5 (Y (by rw [Z];simp;omega));clear h1 h2 h3 h4 Z;go_wp2_with fail;go_ret2;exact ⟨by rw [V.out];rfl,rfl⟩
 have d4:decide (K<X)=false:=by simpa using h4
 by_cases h5:64<n
 ·have d5:decide ((64:Int)<n)=true:=by simp;omega
  have V:=Z5 (Y (by rw [Z];simp;omega));clear h1 h2 h3 h4 h5 Z;go_wp2_with fail;go_ret2;exact ⟨by rw [V.out];rfl,rfl⟩
 have d5:decide ((64:Int)<n)=false:=by simp;omega
 have HB:Hid (Lg K Q X=true):=by show _=_;rw [Z];simp;omega
 have B:Hid (Dq K Q X=if Q.all (Du K)=true then (flTo K X Q n,0) else (0,6)):=by show _=_;rw [Dq,HB.out,C.out];simp
 clear Z;go_wp2_with fail;go_loop [8,33] (λsv r=>∃k:Nat,k<=n/\r = cG k/\sv = cG (flTo K X Q k)/\Hid (∀j,j<k->Du K (nth Q j)=true)) (λ_ r=>n - (intOf r).toNat);case atStart=>exact ⟨0,Nb _,rfl,rfl,λj F=>by omega⟩
 case round =>
  obtain ⟨k,hk,rfl,rfl,S⟩:=hrel
  have I:0<=flTo K X Q k/\flTo K X Q k<=200 * k:=by
   have h:=C5 (K:=K) (W:=X) (Q:=Q.take k) (by omega) (by omega) (by rw [NZ];intro x hx;obtain ⟨j,F,rfl⟩:=List.mem_iff_getElem.1 hx;rw [NH] at F;have:=S j (by omega);rwa [PX,<- an (by omega)]) k (by rw [NH];have:=C.out;omega);have he:∀j,j<=k->flTo K X (Q.take k) j=flTo K X Q j:=λj=>by
    induction j with
    | zero=>intro _;rfl
    | succ j ih =>
     intro F
     have e:nth (Q.take k) j=nth Q j:=by unfold nth;simp only [Na,Ol];rw [M7 (by omega)]
     rw [flTo,flTo,ih (by omega),e]
   rwa [he k (M4 _)] at h
  by_cases E:k<n
  ·have ck:=hi.cell k E
   have U:Hid (flTo K X Q (k+1)=flTo K X Q k+max 0 (X+1 - (K - nth Q k))):=rfl
   have Hx:Hid (∀y,nth Q k=y->Du K y=true->∀j,j<k+1->Du K (nth Q j)=true):=λy hy h j F=>by
    by_cases e:j=k
    ·subst e;rw [hy];exact h
    ·exact S j (by omega)
   have H:Hid (Du K (nth Q k)=false->Dq K Q X=(0,6)):=λh=>by rw [B.out,M8];intro h2;have:=List.all_eq_true.1 h2 _ (aG (i:=k) (by rw [C.out];exact E));rw [h] at this;exact absurd this (by decide)
   obtain ⟨y,hy⟩:∃y,nth Q k=y:=⟨_,rfl⟩
   have N:=λh=>Hx y hy h
   rw [hy] at ck H U
   clear hy Hx
   by_cases A:y<0
   ·have e1:decide (y<0)=true:=by simpa using A
    have V:=Z5 (H (by unfold Du;simp;omega))
    clear A N I
    go_wp2_with fail
    go_ret2
    exact ⟨by rw [V.out];rfl,rfl⟩
   have e1:decide (y<0)=false:=by simpa using A
   by_cases q2:K<y
   ·have e2:decide (K<y)=true:=by simpa using q2
    have V:=Z5 (H (by unfold Du;simp;omega))
    clear A q2 N I
    go_wp2_with fail
    go_ret2
    exact ⟨by rw [V.out];rfl,rfl⟩
   have e2:decide (K<y)=false:=by simpa using q2
   have Hx3:=Z5 (N (by unfold Du;simp;omega))
   clear N
   have k1:IntKind.i64.wrap (X+1)=X+1:=Nn _ (by omega)
   have k2:IntKind.i64.wrap (K - y)=K - y:=Nn _ (by omega)
   have k3:IntKind.i64.wrap (X+1 - (K - y))=X+1 - (K - y):=Nn _ (by omega)
   have z:IntKind.i64.wrap (flTo K X Q k+max 0 (X+1 - (K - y)))=flTo K X Q k+max 0 (X+1 - (K - y)):=Nn _ (by omega)
   rw [<- Bk] at z
   rw [<- Bk] at U
   clear I
   generalize flTo K X Q k=t at *
   go_wp2_with fail
   go_round
   case rel=>exact ⟨k+1,by omega,by go_num,by first|(rw [U.out,show (if K - y<X+1 then X+1 - (K - y) else 0)=(if 0<X+1 - (K - y) then X+1 - (K - y) else 0) from by split<;>split<;>omega];exact congrArg (Value.int .i64) ((QA _).symm.trans z))|(rw [U.out,<- Bk];exact congrArg (Value.int .i64) ((QA _).symm.trans z))|(rw [U.out,show max 0 (X+1 - (K - y))=(if 0<X+1 - (K - y) then X+1 - (K - y) else 0) from by omega];exact congrArg (Value.int .i64) ((QA _).symm.trans z)),Hx3⟩
   case measure=>simp [intOf]<;>omega
  ·obtain rfl:k=n:=by omega
   have V:Hid (Dq K Q X=(flTo K X Q k,0)):=by show _=_;rw [B.out,M7];rw [NZ];intro x hx;obtain ⟨j,F,rfl⟩:=List.mem_iff_getElem.1 hx;have:=S j (by have:=C.out;omega);rwa [an F] at this
   clear I
   go_wp2_with fail
   go_ret2
   exact ⟨by rw [V.out];rfl,rfl⟩
def qc (P M:Int) (mod:Lz) (N:Int) (L:ZZ) (Q:Lz):Int :=
 if fw P M mod N L Q ≠ 0 then fw P M mod N L Q else if BF P M mod N L Q=true then 0 else 9
def en (O:aL) (m:Nat) (L:ZZ) (Q:Lz):ZZ:=Ju O m (pE O (L.map (bg Q)) Q.length) L
def wT (P M:Int) (mod:Lz) (N:Int) (L:ZZ) (Q:Lz) (w:ej) (e:Ending) (w':ej):Prop :=
 SJ w w'/\((qc P M mod N L Q ≠ 0/\e = ec #[.agg #[cG 0,ds],cG (qc P M mod N L Q)]) \/
  (qc P M mod N L Q=0/\∃m:Nat,N=m/\∃a c,e = ec #[.agg #[cG m,.slice a L.length c],cG 0]/\bJ w.heap.size w' a L.length (en (ah P M.toNat mod).ops m L Q)))
theorem H5 {P M:Int} {mod:Lz} {N:Int} {L:ZZ} {Q:Lz} (h:BF P M mod N L Q=true) :
  aI P M mod N L=0/\dZ N Q=true/\(jm (ah P M.toNat mod).ops L Q).length=Q.length/\Q.length=L.length:=by
 unfold BF at h;simp only [Nx,NM] at h;obtain ⟨h1,h2,h3⟩:=h;have Z:aI P M mod N L=0:=by
  unfold fw at h1;split at h1
  ·assumption
  ·rename_i h0;exact absurd h1 h0
 refine ⟨Z,?_,h2,by omega⟩;rw [fw,M7 Z,pS] at h1;split at h1
 ·assumption
 ·omega
theorem A6 {O:aL} {El:Int->Prop} (F:bQ O El) {D:ZZ} {k:Nat} (X:bz El k D):bz El k (pE O D k):=λr Z=>by unfold pE at Z;obtain ⟨s,V,rfl⟩:=List.mem_map.1 Z;have h:=jo F (mN X (sL F.zero F.one k)) k (by omega) s V;exact ⟨by rw [OK,h.1];omega,λx Y=>h.2 x (PA Y)⟩
theorem tA (P M:Int) (am:OA) (S C:Nat) (mod:Lz) (N:Int) (a:OA) (n c:Nat) (L:ZZ) (ao:OA) (no co:Nat) (Q:Lz) (w:ej)
  (Y:Ints w am S mod) (hi:bP w a n L) (hq:Ints w ao no Q) :
  Calls prog 153 #[.agg #[cG P,cG M,.slice am S C,cG N,.slice a n c],.slice ao no co] w (wT P M mod N L Q w):=by
 have Hql:=Z5 hq.len;have Hil:=Z5 hi.len;go_enter func153,ntmps153;go_wp2_with fail;obtain ⟨W,hW⟩:∃W:ej,W=(w.alloc (.cells #[cG P,cG M,.slice am S C,cG N,.slice a n c] 27)).alloc (.cells #[cG 0,ds] 94):=⟨_,rfl⟩
 rw [<- hW];have U:SJ w W:=by rw [hW];exact dP _ _ _
 have hsW:W.heap.size=w.heap.size+2:=by rw [hW];simp
 have x0:aQ W w.heap.size [cG P,cG M,.slice am S C,cG N,.slice a n c]:=by rw [hW];exact (RV _ _ _ rfl).alloc _
 have z0:aQ W (w.heap.size+1) [cG 0,ds]:=by rw [hW];exact RV _ _ _ (by simp)
 have hS:∀V,SJ W V->V.cell? ⟨w.heap.size,0,none⟩=some (cG P)/\V.cell? ⟨w.heap.size,1,none⟩=some (cG M)/\V.cell? ⟨w.heap.size,2,none⟩=some (.slice am S C)/\V.cell? ⟨w.heap.size,3,none⟩=some (cG N)/\V.cell? ⟨w.heap.size,4,none⟩=some (.slice a n c) /\
   aQ V (w.heap.size+1) [cG 0,ds]:=λV A=>by have x1:=x0.ai A;exact ⟨x1.cell 0 rfl,x1.cell 1 rfl,x1.cell 2 rfl,x1.cell 3 rfl,x1.cell 4 rfl,z0.ai A⟩
 have HS:=Z5 hS;have HbW:=Z5 U;have HsW:=Z5 hsW;clear hW x0 z0 hS;refine (Es P M am S C mod N a n c L ao no co Q W (Y.ai U) (hi.ai U) (hq.ai U)).mono ?_;rintro e w1 ⟨rfl,z⟩;have hbw1:=RU U z;have hend:∀er:Int,qc P M mod N L Q ≠ 0->qc P M mod N L Q=er->wT P M mod N L Q w (ec #[.agg #[cG 0,ds],cG er]) ((w1.setCell ⟨w.heap.size+1,0,none⟩ (cG 0)).setCell ⟨w.heap.size+1,1,none⟩ ds):=λer h0 h1 =>
  ⟨(hbw1.setCell (p:=⟨w.heap.size+1,0,none⟩) (by simp) _).setCell (p:=⟨w.heap.size+1,1,none⟩) (by simp) _,.inl ⟨h0,by rw [h1]⟩⟩
 have Z:=Z5 hend;have B:=(HS w1 z).2.2.2.2.2;have z0:=B.cell 0 rfl;have z1:=B.cell 1 rfl;have f0:=B.frozen 0;have f1:=B.frozen 1;clear hend B U hsW;by_cases hr:fw P M mod N L Q=0;rotate_left
 ·have hs:qc P M mod N L Q=fw P M mod N L Q:=by rw [qc,M7 hr]
  have HF:=Z5 (Z (fw P M mod N L Q) (by rw [hs];exact hr) hs);have hr':(fw P M mod N L Q != 0)=true:=by simpa using hr
  clear hr hs Z;generalize fw P M mod N L Q=er at *;go_wp2_with fail;exact bodyPost_ret (v:=.tuple #[.agg #[cG 0,ds],cG er]) (by simp [results,results153,go_sem,z0,z1]) rfl HF.out
 rw [hr];by_cases hv:BF P M mod N L Q=true;rotate_left
 ·have hs:qc P M mod N L Q=9:=by rw [qc,M8 (by simpa using hr),M8 hv]
  have HF:=Z5 (Z.out 9 (by rw [hs];decide) hs);have hv':BF P M mod N L Q=false:=by simpa using hv
  rw [hv'];clear hr hs Z hv hv';go_wp2_with fail;exact bodyPost_ret (v:=.tuple #[.agg #[cG 0,ds],cG 9]) (by simp [results,results153,go_sem,z0,z1]) rfl HF.out
 have hs0:qc P M mod N L Q=0:=by rw [qc,M8 (by simpa using hr),M7 hv]
 have Hs0:=Z5 hs0;obtain ⟨hE,hok,hg,hl⟩:=H5 hv;obtain ⟨m,rfl,hm1,hm64,F,hR⟩:=aT hE;have hQ:Ga m Q:=λj hj=>by have:=gL hok hj;omega
 have hno:no=n:=by rw [<- Hql.out,hl,Hil.out]
 have hqm:(Q.length:Int)<=m:=mM hok (by omega);have I:n<=64:=by rw [<- Hil.out,<- hl];omega
 have hpv:=Jt F hR hQ hl hg;have hDr:bz (ah P M.toNat mod).El n (L.map (bg Q)):=by have h:=ot hR hQ;rw [Hql.out,hno] at h;exact h
 have hIr:=A6 F hDr;have hqn:Q.length=n:=by rw [Hql.out];exact hno
 rw [hqn] at hpv;have hfB:=(aX hE).1;have hsyl:en (ah P M.toNat mod).ops m L Q=Ju (ah P M.toNat mod).ops m (pE (ah P M.toNat mod).ops (L.map (bg Q)) n) L:=by rw [en,hqn]
 have HCo:Hid (∀V,SJ w V->Calls prog 203 #[.agg #[cG P,cG M,.slice am S C],.agg #[cG m,.slice a n c],.slice ao no co] V λe w' =>
   ∃a1 c1,e = ec #[.agg #[cG n,.slice a1 n c1],cG 0]/\bP w' a1 n (L.map (bg Q))/\SJ V w'):=λV A=>by refine (AU P M am S C mod m a n c L ao no co Q V (Y.ai A) (hi.ai A) (hq.ai A) hE hQ (by omega)).mono ?_;rintro e w' ⟨a1,c1,rfl,hM,hb⟩;exact ⟨a1,c1,by rw [hqn],hM.lL,hb⟩
 have HIn:Hid (∀V a1 c1,SJ w V->bP V a1 n (L.map (bg Q))->Calls prog 204 #[.agg #[cG P,cG M,.slice am S C],.agg #[cG n,.slice a1 n c1]] V λe w' =>
   ∃a2 c2,e = ec #[.agg #[cG n,.slice a2 n c2],cG 0]/\bP w' a2 n (pE (ah P M.toNat mod).ops (L.map (bg Q)) n)/\SJ V w'):=λV a1 c1 A hM=>by refine (zF P M am S C mod n a1 c1 (L.map (bg Q)) V (Y.ai A) hM hfB hDr I hpv).mono ?_;rintro e w' ⟨a2,c2,rfl,hM2,hb⟩;exact ⟨a2,c2,rfl,hM2.lL,hb⟩
 have HMu:Hid (∀V a2 c2,SJ w V->bP V a2 n (pE (ah P M.toNat mod).ops (L.map (bg Q)) n)->Calls prog 205 #[.agg #[cG P,cG M,.slice am S C],.agg #[cG n,.slice a2 n c2],.agg #[cG m,.slice a n c]] V λe w' =>
   ∃a3 H,e = ec #[.agg #[cG m,.slice a3 n H],cG 0]/\bJ V.heap.size w' a3 n (en (ah P M.toNat mod).ops m L Q)/\SJ V w'):=λV a2 c2 A hM=>by rw [hsyl];exact JU P M am S C mod n a2 n c2 _ m a c L V (Y.ai A) hM (hi.ai A) hfB hIr hR I hm1 hm64 I
 have K:Hid (∀a3 H w',SJ w w'->bJ w.heap.size w' a3 n (en (ah P M.toNat mod).ops m L Q)->wT P M mod m L Q w (ec #[.agg #[cG m,.slice a3 n H],cG 0]) w'):=λa3 H w' h1 h2=>by rw [<- Hil.out] at h2 ⊢;exact ⟨h1,.inr ⟨Hs0,m,rfl,a3,H,rfl,h2⟩⟩
 obtain ⟨D,hD⟩:∃D,L.map (bg Q)=D:=⟨_,rfl⟩
 obtain ⟨Iv,hIv⟩:∃Iv,pE (ah P M.toNat mod).ops D n=Iv:=⟨_,rfl⟩
 rw [hD] at HCo HIn HMu;rw [hIv] at HIn HMu;rw [hv];clear hr hv hs0 hE hok hg hl hQ hno hqm hpv hDr hIr hqn hfB hsyl hD hIv F hR Z z0 z1 f0 f1;obtain ⟨c0,c1,c2,H,c4,_⟩:=HS w1 z;have hb8:=aD w1 (.cells #[cG m,.slice a n c] 94);have x8:=RV w1 [cG m,.slice a n c] 94 rfl;have HX8:=Z5 x8;obtain ⟨d0,d1,d2,d3,d4,_⟩:=HS _ (RU z hb8);clear x8;go_wp2_with fail;refine (HCo _ (RU hbw1 hb8)).mono ?_;rintro e w2 ⟨a1,c1',rfl,hM1,hb2⟩;have hb9:=aD w2 (.cells #[cG n,.slice a1 n c1'] 94);have hk2:=RU hb2 hb9;have E:=RU (RU z hb8) hk2;clear c0 c1 c2 H c4 d0 d1 d2 d3 d4 HCo;obtain ⟨c0,c1,c2,H,c4,_⟩:=HS _ E;have Hin:=Z5 (HIn _ a1 c1' (RU HbW.out E) (hM1.ai hb9));clear hM1 HIn;go_wp2_with fail;refine Hin.mono ?_;rintro e w3 ⟨a2,c2',rfl,hM2,hb3⟩;have hb10:=aD w3 (.cells #[cG n,.slice a2 n c2'] 94);have hk3:=RU hb3 hb10;have X:=RU E hk3;clear c0 c1 c2 H c4 Hin;obtain ⟨c0,c1,c2,H,c4,_⟩:=HS _ X;have x8:=HX8.ai (RU hk2 hk3);have e0:=x8.cell 0 rfl;have e1:=x8.cell 1 rfl;have Hmu:=Z5 (HMu _ a2 c2' (RU HbW.out X) (hM2.ai hb10));clear hM2 HMu x8;go_wp2_with fail;refine Hmu.mono ?_;rintro e w4 ⟨a3,r,rfl,hM3,hb4⟩;have hbk4:=RU X hb4;have B:=(HS w4 hbk4).2.2.2.2.2;have z0:=B.cell 0 rfl;have z1:=B.cell 1 rfl;have f0:=B.frozen 0;have f1:=B.frozen 1;have hs:=HsW.out;have hsz:=X.size;have HF:=Z5 (K a3 r _ (((RU HbW.out hbk4).setCell (p:=⟨w.heap.size+1,0,none⟩) (by simp) (cG m)).setCell (p:=⟨w.heap.size+1,1,none⟩) (by simp) (.slice a3 n r))
  (((hM3.setCell (p:=⟨w.heap.size+1,0,none⟩) (by simp at hsz ⊢;omega) (cG m)).setCell (p:=⟨w.heap.size+1,1,none⟩) (by simp at hsz ⊢;omega) (.slice a3 n r)).mono (by simp at hsz ⊢;omega)))
 clear c0 c1 c2 H c4 e0 e1 Hmu B hM3 K;go_wp2_with fail;exact bodyPost_ret (v:=.tuple #[.agg #[cG m,.slice a3 n r],cG 0]) (by simp [results,results153,go_sem,z0,z1]) rfl HF.out
section
variable {O:aL} {El:Int->Prop} {m:Nat} {L:ZZ}
theorem Kl (F:bQ O El) (Z:bz El m L) {Q:Lz} {x:Int} (h:¬ lu O El L.length (bp L) (gA Q) x.toNat):EP O L (Q ++ [x])=EP O L Q+1:=by have h1:=nK F Z (Q ++ [x]);rw [Eb] at h1;exact h1.uniq (Rk.ind _ h (nK F Z Q))
theorem kT {Q:Lz}:yE O L Q=true ↔ Q.length=L.length/\EP O L Q=Q.length:=by unfold yE EP;simp
theorem Gj (F:bQ O El) (X:bz El m L) (Z:Rk (lu O El L.length (bp L)) (List.range m) L.length) {Q:Lz} (U:Ga m Q) (Y:∀x,x<m->(x:Int) ∈ Q):yE O L (jm O L Q)=true:=by
 have h1:(jm O L Q).length=L.length:=by
  refine (nK F X Q).same (gd F X) Z λx=>?_;rw [tV,OG];constructor
  ·rintro ⟨y,hy,rfl⟩;obtain ⟨j,V,rfl⟩:=List.mem_iff_getElem.1 hy;have:=U j V;rw [an V] at this;omega
  ·intro S;exact ⟨x,Y x S,by simp⟩
 have h2:=(Cy F X Q Q.length).1;exact kT.2 ⟨h1,(nK F X (jm O L Q)).uniq h2⟩
end
theorem pJ {P M:Int} {mod:Lz} {m:Nat} {L:ZZ} (X:aI P M mod m L=0):Rk (lu (ah P M.toNat mod).ops (ah P M.toNat mod).El L.length (bp L)) (List.range m) L.length:=by
 obtain ⟨U,e,S,V,F,Q⟩:=aT X;obtain rfl:m=U:=by omega
 have Y:=(dF (aX X).2.2.2).2;rw [M9] at Y;have Z:bI (ah P M.toNat mod).ops m L=L:=Y;have h:=rJ F Q;rwa [Z] at h
theorem Fc {O:aL} {L:ZZ} {Q:Lz} (h:Q.Nodup):(jm O L Q).Nodup:=by
 have key:∀k,k<=Q.length->(grTo O L Q k).2.Nodup/\∀x ∈ (grTo O L Q k).2,x ∈ Q.take k:=λk=>by
  induction k with
  | zero=>intro _;exact ⟨by simp [grTo],λx Z=>by simp [grTo] at Z⟩
  | succ k X =>
   intro V
   obtain ⟨h1,h2⟩:=X (by omega)
   have e:Q.take (k+1)=Q.take k ++ [nth Q k]:=by rw [Nh (by omega),an (by omega)]
   rw [grTo]
   split
   ·have Y:¬ nth Q k ∈ Q.take k:=by have h3:(Q.take (k+1)).Nodup:=(PY _ _).nodup h;rw [e,Oj] at h3;intro hm;exact h3.2.2 _ hm _ (by simp) rfl
    refine ⟨?_,λx Z=>?_⟩
    ·rw [Oj]
     exact ⟨h1,by simp,λx Z y hy=>by rw [NR] at hy;subst hy;exact λe=>Y (e ▸ h2 _ Z)⟩
    ·rw [e,NW]
     rcases List.mem_append.1 Z with Z | Z
     ·exact .inl (h2 x Z)
     ·exact .inr Z
   ·exact ⟨h1,λx Z=>by rw [e,NW];exact .inl (h2 x Z)⟩
 exact (key _ (M4 _)).1
def qG (m:Nat) (Q:Lz):Prop:=Q.Perm ((List.range m).map Int.ofNat)
theorem qG.mem {m:Nat} {Q:Lz} (h:qG m Q) {x:Int}:x ∈ Q ↔ ∃j:Nat,j<m/\x=j:=by
 rw [h.mem_iff,OW];constructor
 ·rintro ⟨j,Z,rfl⟩;exact ⟨j,List.mem_range.1 Z,rfl⟩
 ·rintro ⟨j,Z,rfl⟩;exact ⟨j,List.mem_range.2 Z,rfl⟩
theorem qG.nodup {m:Nat} {Q:Lz} (h:qG m Q):Q.Nodup:=by refine h.nodup_iff.2 ?_;rw [Qs,OH];exact List.nodup_range.imp λh e=>h (Int.ofNat.inj e)
theorem qG.MZ {m:Nat} {Q:Lz} (h:qG m Q):Ga m Q:=λj Z=>by obtain ⟨i,hi,e⟩:=h.mem.1 (aG Z);omega
section
variable {P M:Int} {mod:Lz} {m:Nat} {L:ZZ}
theorem IY (X:aI P M mod m L=0) {Q:Lz} (Z:qG m Q) :
  dZ m (bF (jm (ah P M.toNat mod).ops L Q))=true/\yE (ah P M.toNat mod).ops L (bF (jm (ah P M.toNat mod).ops L Q))=true:=by
 obtain ⟨S,e,N,V,F,U⟩:=aT X;obtain rfl:m=S:=by omega
 refine ⟨Bp (Fc Z.nodup) λx Y=>?_,?_⟩
 ·obtain ⟨j,K,rfl⟩:=Z.mem.1 (lZ _ L Q _ (M4 _) x Y);omega
 ·rw [Jq F U (cB _)];exact Gj F U (pJ X) Z.MZ λx Y=>Z.mem.2 ⟨x,Y,rfl⟩
end
def gO (O:aL) (u:Lz) (a:Int) (r:Lz):Lz:=if a=0 then u else List.zipWith (λy x=>if x=0 then y else O.add y (O.mul a x)) u r
def wlkS (O:aL) (q:Nat):ZZ->Lz->ZZ
 | [],u=>[u]
 | r :: L,u=>(List.range q).flatMap λ(a:Nat)=>wlkS O q L (gO O u a r)
def oZ (O:aL) (q:Nat) (r:Lz) (L:ZZ) (u:Lz) (a:Nat):ZZ:=(List.range a).flatMap λ(i:Nat)=>wlkS O q L (gO O u i r)
theorem Bt (O:aL) (q:Nat) (r:Lz) (L:ZZ) (u:Lz) (a:Nat):oZ O q r L u (a+1)=oZ O q r L u a ++ wlkS O q L (gO O u a r):=by unfold oZ;rw [Ot,List.flatMap_append,List.flatMap_singleton]
theorem lY (O:aL) (q:Nat):∀(L:ZZ) (u:Lz),(wlkS O q L u).length=q ^ L.length
 | [],u=>by simp [wlkS]
 | r :: L,u=>by rw [wlkS,Ql];have h:(List.range q).map (λ(a:Nat)=>(wlkS O q L (gO O u a r)).length)=(List.range q).map λ_=>q ^ L.length:=N6 λa _=>lY O q L _;rw [h,QQ,PZ,OI,NO,Pf,Oz]
theorem xw (O:aL) (q:Nat) (r:Lz) (L:ZZ) (u:Lz) (a:Nat):(oZ O q r L u a).length=a * q ^ L.length:=by unfold oZ;rw [Ql];have h:(List.range a).map (λ(i:Nat)=>(wlkS O q L (gO O u i r)).length)=(List.range a).map λ_=>q ^ L.length:=N6 λi _=>lY O q L _;rw [h,QQ,PZ,OI]
theorem jL (O:aL) (u:Lz) (a:Int) (r:Lz) (h:r.length=u.length):(gO O u a r).length=u.length:=by unfold gO;split<;>simp [h]
theorem tE (O:aL) (u:Lz) (a:Int) (r:Lz) (j:Nat) (h:r.length=u.length) (Z:j<u.length) (h0:a ≠ 0) :
  nth (gO O u a r) j=if nth r j=0 then nth u j else O.add (nth u j) (O.mul a (nth r j)):=by unfold gO;rw [M8 h0,an (show j<_ by simp [h];omega),an Z,an (show j<r.length by omega)];simp
theorem Ds {O:aL} {El:Int->Prop} (V:qV O El) {u r:Lz} {a:Int} (hu:∀x ∈ u,El x) (U:∀x ∈ r,El x) (ha:El a) (X:r.length=u.length):∀x ∈ gO O u a r,El x:=by
 intro x Y;by_cases h0:a=0
 ·unfold gO at Y;rw [M7 h0] at Y;exact hu x Y
 ·obtain ⟨j,Z,rfl⟩:=List.mem_iff_getElem.1 Y;rw [jL O u a r X] at Z;have h1:=tE O u a r j X Z h0;rw [an (show j<(gO O u a r).length by rw [jL O u a r X];exact Z)] at h1;rw [h1];split
  ·exact hu _ (aG Z)
  ·exact V.add _ _ (hu _ (aG Z)) (V.mul _ _ ha (U _ (aG (by omega))))
theorem MW {G:bX} {x:Int} (h:G.El x):(decide (0<=x) && decide (x<G.q))=true:=by unfold bX.El at h;simp;exact h
theorem Bv {w:ej} {b:Nat} {G:bX} (q:Nat) (x:Int) (X:w.cell? ⟨q,0,none⟩=some (ea b 0)) (h:dg w b G) (Y:G.El x) :
  Calls prog 241 #[cG x,ea q 0] w λe w'=>e = .returned (.bool false)/\w=w':=by have Z:=MW Y;go_enter func241,ntmps241;go_wp2_with fail;refine (Mc x h).mono ?_;rintro e w' ⟨rfl,rfl⟩;rw [Z];go_wp2_with fail;go_ret;exact ⟨rfl,rfl⟩
theorem Ai (q:Nat) (a:OA) (n c:Nat) (l:Lz) (w:ej) (hi:Ints w a n l) (V:∀k,k<n->Calls prog 241 #[cG (nth l k),ea q 0] w λe w'=>e = .returned (.bool false)/\w=w') :
  Calls prog 111 #[.slice a n c,.func (.func 241) #[] #[ea q 0]] w λe w'=>e = .returned (cG (-1))/\w=w':=by
 have U:=hi.pl;have Z:=hi.max;have Q:=Z5 V;unfold maxLen at Z;clear V;go_enter func111,ntmps111;go_wp2_with fail;go_loop [8] (λX=>∃k:Nat,k<=n/\X = cG k) (λX=>n - (intOf X).toNat);case atStart=>exact ⟨0,Nb _,rfl⟩
 case round =>
  obtain ⟨k,K,rfl⟩:=hrel
  by_cases Y:k<n
  ·have N:=hi.cell k Y
   have S:=Z5 (Q k Y)
   go_wp2_with fail
   refine S.mono ?_
   rintro e w' ⟨rfl,rfl⟩
   go_wp2_with fail
   go_round
   case rel=>exact ⟨k+1,by omega,by go_num⟩
   case measure=>simp [intOf]<;>omega
  ·obtain rfl:k=n:=by omega
   go_wp2_with fail
   go_ret
   exact ⟨rfl,rfl⟩
theorem uM (q:Nat) (a:OA) (n c:Nat) (l:Lz) (w:ej) (hi:Ints w a n l) (Z:∀k,k<n->Calls prog 241 #[cG (nth l k),ea q 0] w λe w'=>e = .returned (.bool false)/\w=w') :
  Calls prog 53 #[.slice a n c,.func (.func 241) #[] #[ea q 0]] w λe w'=>e = .returned (.bool false)/\w=w':=by have Y:=Z5 (Ai q a n c l w hi Z);clear Z;go_enter func53,ntmps53;go_wp2_with fail;refine Y.mono ?_;rintro e w' ⟨rfl,rfl⟩;go_wp2_with fail;go_ret;exact ⟨rfl,rfl⟩
theorem yB {w:ej} {b:Nat} {G:bX} (m:Nat) (a:OA) (n c:Nat) (ap:OA) (np cp:Nat) (V:OA) (S:Nat) (x:Lz) (h:dg w b G) (K:Ints w V m x) (U:Vc G.El m x) :
  Calls prog 191 #[.agg #[ea b 0,cG m,.slice a n c,.slice ap np cp],.slice V m S] w λe w'=>e = .returned (cG 0)/\SJ w w':=by
 go_enter func191,ntmps191;go_wp2_with fail;obtain ⟨W,Y⟩:∃W:ej,W=w.alloc (.cells #[ea b 0,cG m,.slice a n c,.slice ap np cp] 210):=⟨_,rfl⟩
 rw [<- Y];have Z:SJ w W:=by rw [Y];exact aD _ _
 have X:aQ W w.heap.size [ea b 0,cG m,.slice a n c,.slice ap np cp]:=by rw [Y];exact RV _ _ _ rfl
 have c0:=X.cell 0 rfl;have c1:=X.cell 1 rfl;have Q:((m:Int) != m)=false:=by simp
 have N:=Z5 (uM w.heap.size V m S x W (K.ai Z) λk I =>
  Bv w.heap.size (nth x k) c0 (h.ai Z) (U.at I))
 clear Y X;go_wp2_with fail;refine N.mono ?_;rintro e w' ⟨rfl,rfl⟩;go_wp2_with fail;go_ret;exact ⟨rfl,Z⟩
theorem qD {w:ej} {b:Nat} {G:bX} (m:Nat) (a:OA) (n c:Nat) (R:ZZ) (ap:OA) (cp:Nat) (C:Lz) (ax:OA) (cx:Nat) (x:Lz)
  (h:dg w b G) (hi:bP w a n R) (hp:Ints w ap n C) (hx:Ints w ax m x) (hOk:BS.Ok G.El m ⟨R,C⟩) (hxe:Vc G.El m x) (hn:n<=1000000) (hm:m<=1000000) :
  Calls prog 242 #[.agg #[ea b 0,cG m,.slice a n c,.slice ap n cp],.slice ax m cx] w
   λe w'=>∃a1 c1 v2,e = ec #[.slice a1 m c1,v2]/\w'.ownsRow w.heap.size 3 1 (.slice a1 m c1) m ((redTo G.ops R C x n).map (Value.int .i64))/\SJ w w':=by
 have hcl:=Sk h;have hrl:R.length=n:=hi.len;have hred:=kG hcl hOk.rws (Q:=C) hOk.plc hxe;have Hred:=Z5 hred;have HOk:=Z5 hOk;have Hrl:=Z5 hrl;have Hxl:=Z5 hxe.1;have hplp:=hp.pl;have hplr:=hi.pl;clear hred hOk hrl hcl;go_enter func242,ntmps242;go_wp2_with fail;obtain ⟨W,hW⟩:∃W:ej,W=w.alloc (.cells #[ea b 0,cG m,.slice a n c,.slice ap n cp] 210):=⟨_,rfl⟩
 rw [<- hW];have hbW:SJ w W:=by rw [hW];exact aD _ _
 have x0:aQ W w.heap.size [ea b 0,cG m,.slice a n c,.slice ap n cp]:=by rw [hW];exact RV _ _ _ rfl
 have HX:=Z5 x0;have HbW:=Z5 hbW;clear hW x0;refine (cZ ax m cx x (hx.ai hbW) hm).mono ?_;rintro e w1 ⟨a1,c1,rfl,X,hb1⟩;rw [Hxl.out] at X ⊢;have ha1:a1 ≠ none->ablk a1<w1.heap.size:=λh0=>(aP X h0).2;have ha1W:a1 ≠ none->W.heap.size<=ablk a1:=λh0=>(aP X h0).1;have x1:=HX.ai hb1;have q2:=x1.cell 2 rfl;have q3:=x1.cell 3 rfl;have hs1:=hb1.size;clear x1;go_wp2_with fail;go_loopw [5,16] (λtv iv wr=>∃(k:Nat) (F:OA) (ct:Nat) (xs:List Value),k<=n/\iv = cG k/\tv = .slice F k ct/\wr.ownsRow W.heap.size 3 1 (.slice a1 m c1) m ((redTo G.ops R C x k).map (Value.int .i64)) /\
   wr.ownsRow w1.heap.size 3 1 (.slice F k ct) k xs/\SJ W wr/\w1.heap.size<=wr.heap.size) (λ_ iv _=>n - (intOf iv).toNat)
 case atStart=>exact ⟨0,none,0,[],Nb _,rfl,rfl,X,cJ,hb1,M4 _⟩
 case round =>
  clear q2 q3 X
  obtain ⟨k,F,ct,xs,hkn,rfl,rfl,N,V,hbr,hsr⟩:=hrel
  have xr:=HX.ai hbr
  have hbwr:=RU HbW.out hbr
  by_cases hlt:k<n
  ·have hkr:k<R.length:=by rw [Hrl.out];exact hlt
   have hrow:=HOk.rws.row hkr
   have hplc:0<=nth C k/\nth C k<m:=HOk.plc k hkr
   obtain ⟨ra,rn,rc,er,ir⟩:=hi.cell k hlt
   have hrn:rn=m:=by rw [<- ir.len];exact hrow.1
   rw [hrn] at er ir
   have ep:=(hp.ai hbwr).cell k hlt
   obtain ⟨H,hpn⟩:∃H:Nat,nth C k=H:=⟨(nth C k).toNat,by omega⟩
   rw [hpn] at ep hplc
   have hpnn:H<m:=by omega
   have hrd:=Hred k (by omega)
   have hrd1:=Hred (k+1) (by omega)
   have hstep:redTo G.ops R C x (k+1)=dM G.ops (redTo G.ops R C x k) H (aj R k):=by rw [redTo,hpn]
   have Hstep:=Z5 hstep
   have D:=Z5 hrow
   clear hstep hpn hrn
   obtain ⟨u,hu⟩:∃u,redTo G.ops R C x k=u:=⟨_,rfl⟩
   rw [hu] at N hrd
   have Hu:=Z5 hu
   obtain ⟨iu,mu⟩:=RW N
   have eu:=iu.cell H hpnn
   have hpu:=iu.pl
   have E:=Z5 hrd
   clear hu hrow hrd hrd1
   have hne1:a1 ≠ none:=λe=>by have:=hpu (by omega);rw [e] at this;cases this
   have ha1':=ha1 hne1
   have hapt:dq F (ablk a1):=by
    by_cases h0:F=none
    ·exact .inl h0
    ·have:=(aP V h0).1;exact .inr (by omega)
   have hcn:=bh wr (cG (nth u H)) 3
   have hbn:=aD wr (.cells #[cG (nth u H)] 3)
   have hbnx:=NK hbr (hbn.mono (by omega))
   have HN5:Hid (∀(a5:OA) (c5:Nat) (w5:ej),(wr.alloc (.cells #[cG (nth u H)] 3)).grownBy w5 (Value.slice F k ct).ownBlock->SJ W w5/\w5.ownsRow W.heap.size 3 1 (.slice a1 m c1) m (u.map (Value.int .i64))/\w1.heap.size<=w5.heap.size):=λa5 c5 w5 Z =>
    ⟨RY hbnx (V.alloc _) Z (by omega) (by simp;omega),gN (N.alloc _) Z hapt,by have:=Z.size;simp at this;omega⟩
   clear hbnx mu
   by_cases hz:nth u H=0
   ·have hz':(nth u H != 0)=false:=by simpa using hz
    have Hn:Hid (redTo G.ops R C x (k+1)=u):=by show _=_;rw [Hstep.out,Hu.out,dM,M9,M7 hz]
    clear hz
    go_wp2_with (at_builtin;refine bd rfl _ _ 22 3 rfl (cG 0) 8 underlying22 br rfl w1.heap.size F k ct xs rfl (V.alloc _) ⟨wr.heap.size,0,none⟩ 1 (cG (nth u H)) rfl hcn rfl (by omega) (by unfold maxLen;omega) (by simp;omega) ?_;intro a5 c5 w5 I Z hap5)
    go_roundw
    case rel =>
     obtain ⟨h1,h2,h3⟩:=HN5 a5 c5 w5 Z
     exact ⟨k+1,a5,c5,_,by omega,by go_num,rfl,by rw [Hn.out];exact h2,I,h1,h3⟩
    case measure=>simp [intOf]<;>omega
   ·have hz':(nth u H != 0)=true:=by simpa using hz
    have Hn:Hid (redTo G.ops R C x (k+1)=dH G.ops u (nth u H) (aj R k)):=by show _=_;rw [Hstep.out,Hu.out,dM,M9,M8 hz]
    have hxe2:G.El (nth u H):=E.2 _ (aG (by rw [E.1];exact hpnn))
    have hSl:(dH G.ops u (nth u H) (aj R k)).length=u.length:=ez _ _ _ _ (by rw [D.1,E.1])
    have hSn:=λi hi=>ey G.ops u (nth u H) (aj R k) i (by rw [D.1,E.1]) hi
    have HSl:=Z5 hSl
    have HSn:=Z5 hSn
    clear hz hSl hSn
    have hplr2:=ir.pl
    go_upto_region 8 with (at_builtin;refine bd rfl _ _ 22 3 rfl (cG 0) 8 underlying22 br rfl w1.heap.size F k ct xs rfl (V.alloc _) ⟨wr.heap.size,0,none⟩ 1 (cG (nth u H)) rfl hcn rfl (by omega) (by unfold maxLen;omega) (by simp;omega) ?_;intro a5 c5 w5 I Z hap5)
    obtain ⟨hbU,r,hsU⟩:=HN5 a5 c5 w5 Z
    have hna5:a5 ≠ none->¬ (a1 ≠ none/\ablk a5=ablk a1):=λh0 h1=>by have:=(aP I h0).1;omega
    clear HN5 Z hap5 hcn hbn eu iu ep xr N V hapt
    generalize w5=U at *
    have hbwU:=RU HbW.out hbU
    have xU:=HX.ai hbU
    have q1:=xU.cell 1 rfl
    have q2:=xU.cell 2 rfl
    have erU:=aC hbwU er
    clear xU
    go_wp2_with fail
    clear q1 q2 erU
    generalize nth u H=y at *
    generalize dH G.ops u y (aj R k)=S at *
    go_loopw [38] (λiv wx=>∃j:Nat,j<=m/\iv = cG j/\wx.ownsRow W.heap.size 3 1 (.slice a1 m c1) m ((eJ S u j).map (Value.int .i64))/\ch a1 U wx) (λiv _=>m - (intOf iv).toNat)
    case atStart=>exact ⟨0,Nb _,rfl,by rw [dX];exact r,Sg _ _⟩
    case round =>
     clear r
     obtain ⟨j,hj,rfl,K,Y⟩:=hrel
     have hbx0:Below W.heap.size U wr:=Y.below ha1W hbU.size
     have hbx:=NK hbU hbx0
     have hbwx:=RU HbW.out hbx
     by_cases B:j<m
     ·have cj:=(ir.ai hbwx).cell j B
      have f0:=(HX.ai hbx).cell 0 rfl
      obtain ⟨im,mm⟩:=RW K
      have cm:=im.cell j B
      have fm:=(mm (by omega)).2 j B
      have hju:j<u.length:=by rw [E.1];exact B
      have A:=dS S u j j HSl.out (by omega)
      rw [M8 (by omega)] at A
      rw [A] at cm
      have z:=dU S u j HSl.out hju
      rw [HSn j hju] at z
      have Hset:=Z5 z
      have ely:G.El (nth (aj R k) j):=D.2 _ (aG (by rw [D.1];exact B))
      have elv:G.El (nth u j):=E.2 _ (aG hju)
      have hGr:dg wr b G:=h.ai hbwx
      have elm:∀x y,G.El (G.mul x y):=λx y=>Sr h x y
      have HG:Hid (dg wr.drew b G/\∀n,dg (wr.drewN n) b G):=⟨hGr.ai (M5 _ _).drew,λn=>hGr.drewN n⟩
      clear z A
      go_wp2_with fail
      go_region_law ((first
       | (go_simp;go_at_call 57;((with_reducible refine (lp y (nth (aj R k) j) HG.out.1 hxe2 ely).mono ?_);rintro e w4 ⟨m4,rfl,rfl⟩))
       | (go_simp;go_at_call 57;((with_reducible refine (lp y (nth (aj R k) j) (HG.out.2 _) hxe2 ely).mono ?_);rintro e w4 ⟨m4,rfl,rfl⟩))
       | (go_simp;go_at_call 199;((with_reducible refine (JR (nth u j) (G.mul y (nth (aj R k) j)) (HG.out.2 _) elv (elm _ _)).mono ?_);rintro e w4 ⟨m5,rfl,rfl⟩))))
      all_goals (
       go_wp2_with fail
       go_roundw
       case rel =>
        have hdr:bm wr (wr.drewN (1+m4+m5)):=⟨_,rfl⟩
        refine ⟨j+1,by omega,by go_num,?_,Y.trans ((Sc hdr).trans (Sl _ j _ hne1))⟩
        have h1:=bA (w:=wr.drewN (1+m4+m5)) K j B (cG (G.sub (nth u j) (G.mul y (nth (aj R k) j))))
        rw [<- Ny,show G.sub (nth u j) (G.mul y (nth (aj R k) j))=G.ops.add (nth u j) (G.ops.neg (G.ops.mul y (nth (aj R k) j))) from rfl,Hset.out] at h1
        exact h1
       case measure=>simp [intOf]<;>omega)
     ·obtain rfl:j=m:=by omega
      rw [eD S u j (by rw [HSl.out,E.1]) E.1] at K
      have hown6:=aB.own Y I hna5
      have hsx:=Y.size
      go_wp2_with fail
      go_roundw
      case rel=>exact ⟨k+1,a5,c5,_,by omega,by go_num,rfl,by rw [Hn.out];exact K,hown6,hbx,by omega⟩
      case measure=>simp [intOf]<;>omega
  ·obtain rfl:k=n:=by omega
   have hF:=bq N HbW.size
   have HF:=Z5 hF
   clear hF N V xr
   go_wp2_with fail
   go_ret2
   exact ⟨a1,c1,_,rfl,HF,hbwr⟩
theorem BH {w:ej} {b:Nat} {G:bX} (m:Nat) (a:OA) (n c:Nat) (R:ZZ) (ap:OA) (cp:Nat) (Z:Lz) (Y:OA) (U:Nat) (x:Lz)
  (h:dg w b G) (hi:bP w a n R) (Q:Ints w ap n Z) (N:Ints w Y m x) (V:BS.Ok G.El m ⟨R,Z⟩) (X:Vc G.El m x) (S:n<=1000000) (hm:m<=1000000) :
  Calls prog 242 #[.agg #[ea b 0,cG m,.slice a n c,.slice ap n cp],.slice Y m U] w
   λe w'=>∃a1 c1 v2,e = ec #[.slice a1 m c1,v2]/\Ints w' a1 m (redTo G.ops R Z x n)/\SJ w w' :=
 (qD m a n c R ap cp Z Y U x h hi Q N V X S hm).mono λ_ _ ⟨a1,c1,v2,h1,h2,h3⟩=>⟨a1,c1,v2,h1,(RW h2).1,h3⟩
theorem qW {σ:Type} (I:ej->σ->Prop) (J:σ->Nat->Prop) (val:σ->ZZ) (F:Lz->Lz->ZZ->Int × ZZ) (pb W:Nat)
  (sa:OA) (ns cs:Nat) (s:Lz) (az:OA) (nz cz:Nat) (z:Lz) (at':OA) (nt ct:Nat) (t:Lz) (w:ej) (Z:σ)
  (hI0:I w Z) (hIb:∀V V' σ,I V σ->aB V V' (λb=>w.heap.size<=b/\¬ J σ b) (λb=>w.heap.size<=b/\¬ J σ b)->I V' σ) (hp:w.cell? ⟨pb,9,none⟩=some (cG W)) (hS:∀V σ,I V σ->Ints V sa ns s/\Ints V at' nt t)
  (hJ:∀V σ x,I V σ->J σ x->x<V.heap.size) (hz:Ints w az nz z) (htn:t.Nodup) (hns:ns<=1000) (hnz:nz<=1000) (hnt:nt<=1000) (hWs:ns<=W)
  (hF:ns<W->∀(V:ej) (σ:σ) (a1:OA) (c1:Nat) (a2:OA) (c2 k:Nat) (Y:Lz),k<nt->Y=z ++ (t.take k).filter (λx=>decide (¬ x ∈ z))->¬ nth t k ∈ z->I V σ->aB w V (J Z) (J σ) ->
   Ints V a1 (ns+1) (s ++ [nth t k])->Ints V a2 Y.length Y->¬ J σ (ablk a1)->(a2 ≠ none->¬ J σ (ablk a2)) ->
   Calls prog 184 #[ea pb 0,.slice a1 (ns+1) c1,.slice a2 Y.length c2] V
    λe V'=>∃X,I V' X/\aB V V' (J σ) (J X)/\e = .returned (cG (F (s ++ [nth t k]) Y (val σ)).1)/\((F (s ++ [nth t k]) Y (val σ)).1=0->val X=(F (s ++ [nth t k]) Y (val σ)).2)) :
  Calls prog 234 #[ea pb 0,.slice sa ns cs,.slice az nz cz,.slice at' nt ct,.func (.func 184) #[ea pb 0] #[]] w
   λe w'=>∃X,I w' X/\aB w w' (J Z) (J X)/\e = .returned (cG (gT F s z (if ns<W then t.filter (λx=>decide (¬ x ∈ z)) else []) (val Z)).1) /\
    ((gT F s z (if ns<W then t.filter (λx=>decide (¬ x ∈ z)) else []) (val Z)).1=0->val X=(gT F s z (if ns<W then t.filter (λx=>decide (¬ x ∈ z)) else []) (val Z)).2):=by
 obtain ⟨KB,hKB⟩:∃KB,gT F s z (if ns<W then t.filter (λx=>decide (¬ x ∈ z)) else []) (val Z)=KB:=⟨_,rfl⟩
 rw [hKB];have HKB:=Z5 hKB;clear hKB;have Hzl:=Z5 hz.len;have Htl:=Z5 (hS w Z hI0).2.len;have Hsl:=Z5 (hS w Z hI0).1.len;have hplt:=(hS w Z hI0).2.pl;have HS:=Z5 hS;have HI0:=Z5 hI0;have HIb:=Z5 hIb;have HJ:=Z5 hJ;have Htn:=Z5 htn;have HF:=Z5 hF;clear hS hI0 hIb hJ htn hF;by_cases hW:ns=W
 ·have hd:((ns:Int) == (W:Int))=true:=by simp;omega
  have Hk:Hid (KB=(0,val Z)):=by show _=_;rw [<- HKB.out,M8 (by omega)];rfl
  go_enter func234,ntmps234;clear hW;go_wp2_with fail;go_ret;exact ⟨Z,HI0,Sb _ _,by rw [Hk.out];rfl,λ_=>by rw [Hk.out]⟩
 have hd:((ns:Int) == (W:Int))=false:=by simp;omega
 have hlW:ns<W:=by omega
 have HKB:Hid (KB=gT F s z (t.filter (λx=>decide (¬ x ∈ z))) (val Z)):=by show _=_;rw [<- HKB.out,M7 hlW]
 have HF:=Z5 (HF hlW);clear hlW hW;go_enter func234,ntmps234;go_wp2_with fail;refine (cZ az nz cz z hz (by omega)).mono ?_;rintro e w1 ⟨a0,c0,rfl,hown0,hb1⟩;have hI1:=HIb w w1 Z HI0.out (RZ hb1 _);go_wp2_with fail;go_loopw [2,25] (λzv iv wr=>∃(k:Nat) (B:OA) (cq:Nat) (Y:Lz) (σ:σ),k<=nt/\iv = cG k/\zv = .slice B Y.length cq/\Hid (Y=z ++ (t.take k).filter (λx=>decide (¬ x ∈ z))) /\
   wr.ownsRow w.heap.size 3 1 (.slice B Y.length cq) Y.length (Y.map (Value.int .i64))/\Hid (I wr σ)/\Hid (aB w wr (J Z) (J σ))/\Hid (B ≠ none->¬ J σ (ablk B)) /\
   Hid (KB=gT F s Y ((t.drop k).filter (λx=>decide (¬ x ∈ z))) (val σ))/\Y.length<=nz+k)
  (λ_ iv _=>nt - (intOf iv).toNat)
 case atStart =>
  refine ⟨0,a0,c0,z,Z,Nb _,rfl,rfl,?_,hown0,hI1,RZ hb1 _,?_,?_,by rw [Hzl.out];omega⟩
  ·show _=_;simp
  ·show a0 ≠ none->_
   intro ha hj
   have h1:=HJ w Z _ HI0.out hj
   have h2:=(aP hown0 ha).1
   omega
  ·show _=_;rw [O9];exact HKB
 case round =>
  obtain ⟨k,B,cq,Y,σ,hk,rfl,rfl,hzc,hop,hI,hM,hap,hkb,hzn⟩:=hrel
  generalize wr=U at *
  by_cases hlt:k<nt
  ·have htU:=(HS U σ hI.out).2
   have hsU:=(HS U σ hI.out).1
   have ck:=htU.cell k hlt
   obtain ⟨hzi,_⟩:=RW hop
   have hktl:k<t.length:=by rw [Htl.out];exact hlt
   have Htk:=Z5 (show t.take (k+1)=t.take k ++ [nth t k] from rZ t hktl)
   have Hdk:=Z5 (show t.drop k=nth t k :: t.drop (k+1) by rw [an hktl];exact NX hktl)
   have Hzm:Hid (nth t k ∈ Y ↔ nth t k ∈ z):=by
    show _ ↔ _;rw [hzc.out,NW,OT];constructor
    ·rintro (h | h)
     ·exact h
     ·exfalso;have hn:(t.take k ++ t.drop k).Nodup:=by rw [QX];exact Htn
      rw [Oj] at hn;exact hn.2.2 _ h.1 (nth t k) (by rw [Hdk.out];simp) rfl
    ·exact .inl
   by_cases N:nth t k ∈ z
   ·have hmd:decide (nth t k ∈ Y)=true:=by simpa using Hzm.2 N
    have j:=Z5 (bS B Y.length cq Y (nth t k) U hzi)
    rw [hmd] at j
    have A:Hid (Y=z ++ (t.take (k+1)).filter (λx=>decide (¬ x ∈ z))):=by show _=_;rw [Htk.out,Pk,Pb (by simpa using N),Pp,OS];exact hzc
    have S:Hid (KB=gT F s Y ((t.drop (k+1)).filter (λx=>decide (¬ x ∈ z))) (val σ)):=by show _=_;rw [hkb.out,Hdk.out,Pb (by simpa using N)]
    clear N hmd
    go_wp2_with fail
    refine j.mono ?_
    rintro e w6 ⟨rfl,rfl⟩
    go_wp2_with fail
    go_roundw
    case rel=>exact ⟨k+1,B,cq,Y,σ,by omega,by go_num,rfl,A,hop,hI,hM,hap,S,by omega⟩
    case measure=>simp [intOf]<;>omega
   ·have hmd:decide (nth t k ∈ Y)=false:=by simpa using λh=>N (Hzm.1 h)
    have j:=Z5 (bS B Y.length cq Y (nth t k) U hzi)
    rw [hmd] at j
    have A:Hid (Y ++ [nth t k]=z ++ (t.take (k+1)).filter (λx=>decide (¬ x ∈ z))):=by show _=_;rw [Htk.out,Pk,Pc (by simpa using N),Pp,<- Oa,<- hzc.out]
    have S:Hid (KB=if (F (s ++ [nth t k]) Y (val σ)).1=0 then gT F s (Y ++ [nth t k]) ((t.drop (k+1)).filter (λx=>decide (¬ x ∈ z))) (F (s ++ [nth t k]) Y (val σ)).2 else ((F (s ++ [nth t k]) Y (val σ)).1,[])):=by show _=_;rw [hkb.out,Hdk.out,Pc (by simpa using N),gT]
    have HFk:=Z5 (λV σ a1 c1 a2 c2=>HF V σ a1 c1 a2 c2 k Y hlt hzc.out N)
    have hszU:=hM.size
    clear N hmd
    go_wp2_with fail
    refine j.mono ?_
    rintro e w6 ⟨rfl,rfl⟩
    go_wp2_with fail
    refine (cZ sa ns cs s hsU (by omega)).mono ?_
    rintro e w7 ⟨a7,c7,rfl,K,hb7⟩
    rw [Hsl.out] at K
    rw [Hsl.out]
    obtain ⟨x,hx⟩:∃x,nth t k=x:=⟨_,rfl⟩
    rw [hx] at ck A S HFk Htk Hdk Hzm j ⊢
    have hcn:=bh w7 (cG x) 3
    have Q:=aD w7 (.cells #[cG x] 3)
    go_wp2_with (at_builtin;refine bd rfl _ _ 22 3 rfl (cG 0) 8 underlying22 br rfl w6.heap.size a7 ns c7 _ rfl (K.alloc _) ⟨w7.heap.size,0,none⟩ 1 (cG x) rfl hcn rfl (by omega) (by unfold maxLen;omega) (Np hb7.size Q.size) ?_;intro a8 c8 w8 hown8 hgr8 hap8)
    have hb68:SJ w6 w8:=RY (RU hb7 Q) (K.alloc _) hgr8 (M4 _) (Np hb7.size Q.size)
    have own8:w8.ownsRow w6.heap.size 3 1 (.slice a8 (ns+1) c8) (ns+1) ((s ++ [x]).map (Value.int .i64)):=by simpa using hown8
    have hz8:=hzi.ai hb68
    clear K hown8 hgr8 hap8 hcn Q
    go_wp2_with fail
    refine (cZ B Y.length cq Y hz8 (by omega)).mono ?_
    rintro e w9 ⟨a9,c9,rfl,C,hb9⟩
    have hb69:=RU hb68 hb9
    have hI9:=HIb w6 w9 σ hI.out (RZ hb69 _)
    have hM9:aB w w9 (J Z) (J σ):=hM.oH (hb69.mono hszU)
    have hs9:=(RW own8).1.ai hb9
    have hz9:=(RW C).1
    have hn8:¬ J σ (ablk a8):=λhj=>by have h1:=HJ w6 σ _ hI.out hj;have h2:=(ew own8 (by omega)).1;omega
    have hn9:a9 ≠ none->¬ J σ (ablk a9):=λha hj=>by have h1:=HJ w6 σ _ hI.out hj;have h2:=(aP C ha).1;have h3:=hb68.size;omega
    have hopz:=bj hop hb69
    have E:=Z5 (HFk w9 σ a8 c8 a9 c9 hI9 hM9 hs9 hz9 hn8 hn9)
    clear HFk hI9 hs9 hz9 hn8 hn9 hz8 own8 C
    generalize F (s ++ [x]) Y (val σ)=FR at *
    obtain ⟨fe,fv⟩:=FR
    dsimp only at E S
    go_wp2_with fail
    refine E.mono ?_
    rintro e D ⟨X,hI',hM',rfl,hval⟩
    have hM10:=Z5 (hM9.trans hM')
    have hapz:B ≠ none->¬ J X (ablk B):=λha=>hM'.not (aP hopz ha).2 (hap ha)
    have hopq:=hM'.own hopz hap.out
    have Hapz:=Z5 hapz
    have HI':=Z5 hI'
    clear E hM9 hM' hapz hI' hopz
    by_cases r:fe=0
    ·have Hval:Hid (val X=fv):=hval r
     subst r
     rw [M7 rfl] at S
     have hcn:=bh D (cG x) 3
     have Q:=aD D (.cells #[cG x] 3)
     have H:=hM10.size
     clear hval
     go_wp2_with (at_builtin;refine bd rfl _ _ 22 3 rfl (cG 0) 8 underlying22 br rfl w.heap.size B Y.length cq _ rfl (hopq.alloc _) ⟨D.heap.size,0,none⟩ 1 (cG x) rfl hcn rfl (by omega) (by unfold maxLen;omega) (Np H Q.size) ?_;intro a11 c11 w11 hown11 hgr11 hap11)
     go_roundw
     case rel =>
      have hb11:Below w.heap.size D w11:=RY (Q.mono H) (hopq.alloc _) hgr11 (M4 _) (Np H Q.size)
      have hK:aB D w11 (λb=>w.heap.size<=b/\¬ J X b) (λb=>w.heap.size<=b/\¬ J X b):=(RZ Q _).trans (Se hgr11 λha=>⟨(aP hopq ha).1,Hapz ha⟩)
      refine ⟨k+1,a11,c11,Y ++ [x],X,by omega,by go_num,by simp,A,by simpa using hown11,HIb D w11 X HI'.out hK,hM10.oH hb11,?_,?_,by simp;omega⟩
      ·show a11 ≠ none->_
       intro ha hj
       have h1:=HJ D X _ HI'.out hj
       have h2:dq B (ablk a11):=by
        by_cases h0:B=none
        ·exact .inl h0
        ·exact .inr λe=>Hapz h0 (by rw [e];exact hj)
       rcases hap11 _ (Nz h1 Q.size) h2 with h3 | h3
       ·exact ha h3
       ·exact h3 rfl
      ·show _=_
       rw [S.out,Hval.out]
     case measure=>simp [intOf]<;>omega
    ·have hfe':(fe != 0)=true:=by simpa using r
     have Hk2:Hid (KB=(fe,[])):=by show _=_;rw [S.out,M8 r]
     have Hfe:=Z5 r
     clear r hval
     go_wp2_with fail
     go_ret
     exact ⟨X,HI',hM10,by rw [Hk2.out];rfl,λh0=>absurd (by rw [Hk2.out] at h0;exact h0) Hfe.out⟩
  ·obtain rfl:k=nt:=by omega
   have Hf:Hid (KB=(0,val σ)):=by show _=_;rw [hkb.out,Ob (by rw [Htl.out];exact M4 _),Pp,gT]
   go_wp2_with fail
   go_ret
   exact ⟨σ,hI,hM,by rw [Hf.out];rfl,λ_=>by rw [Hf.out]⟩
section
open Go.RowKit Go.Shelf
structure WX where
 a:OA
 c:Nat
 l:Lz
structure Lx (V:ej) (b:Nat) (G:bX) (Bc Bat By Bg Bf l:Nat) (ag:OA) (k cg:Nat) (L:ZZ):Prop where
 gen:V.cell? ⟨Bc,4,none⟩=some (.slice ag k cg)
 lL:bP V ag k L
 yl:V.cell? ⟨By,0,none⟩=some (.func (.yield l) #[] #[])
 gp:V.cell? ⟨Bg,0,none⟩=some (ea b 0)
 gf:dg V b G
 fr:V.cell? ⟨Bf,0,none⟩=some (.func (.func 251) #[] #[ea Bc 0,ea Bat 0,ea By 0,ea Bg 0,ea Bf 0])
 lt:Bat<V.heap.size
def zL (V:ej) (B i:Nat):Prop:=V.cell? ⟨B,0,none⟩=some (cG i)/\V.frozen? ⟨B,0,none⟩=false
theorem zL.of_block {V Z:ej} {B i:Nat} (h:zL V B i) (hb:Z.heap[B]? = V.heap[B]?):zL Z B i :=
 ⟨(NG (w:=V) (a:=⟨B,0,none⟩) hb).trans h.1,(NI (w:=V) (a:=⟨B,0,none⟩) hb).trans h.2⟩
theorem zL.ai {V Z:ej} {B i:Nat} (h:zL V B i) (hb:SJ V Z):zL Z B i:=h.of_block (hb.block _ (Nf _ _ h.1))
attribute [local go_sem] QO
def Mb (l n:Nat) (J:List WX->ej->Prop) (M:Nat->Prop) (m:Nat) (pre:List WX) (x:WX) (V:ej):Prop :=
 YieldAt Fence.wide m prog l #[cG (pre.length:Nat),.slice x.a n x.c] V λe Z=>e = .returned (.bool true)/\J (pre ++ [x]) Z/\aB V Z M M
theorem aB.wide {w w':ej} {M I:Nat->Prop} (h:aB w w' M M) (Z:∀x,M x->I x):aB w w' I I :=
 ⟨h.os,h.tape,h.output,h.size,λb hb hI=>h.block b hb λhm=>hI (Z _ hm),λ_ h=>.inl h⟩
theorem aB.setAt (w:ej) {I:Nat->Prop} {B:Nat} (Y:I B) (v:Value):aB w (w.setCell ⟨B,0,none⟩ v) I I:=by have Z:Below 0 w (w.setCell ⟨B,0,none⟩ v):=(M5 0 w).setCell (Nb _) v;exact ⟨Z.os,Z.tape,Z.output,Z.size,λb hb hI=>Nt _ _ _ _ λe=>hI (e ▸ Y),λb hb=>.inl hb⟩
theorem xO {W0:ej} {b:Nat} {G:bX} {Bc Bat By Bg Bf l:Nat} {ag:OA} {k cg n:Nat} {L:ZZ} {I:Nat->Prop}
  (J:List WX->ej->Prop) (M:Nat->Prop) (hMI:∀x,M x->I x) (hIB:I Bat) (hMB:¬ M Bat) (hIl:∀x,I x->x<W0.heap.size)
  (HE:∀V,aB W0 V I I->Lx V b G Bc Bat By Bg Bf l ag k cg L)
  (z:∀pre V V',J pre V->SJ V V'->J pre V')
  (hJb:∀pre V v,(∀x ∈ pre,ablk x.a ≠ Bat)->J pre V->J pre (V.setCell ⟨Bat,0,none⟩ v))
  (N:Nat)
  (hY:∀m pre x V,aB W0 V I I->J pre V->pre.length<N->Ints V x.a n x.l->(∀j,I j->j ≠ ablk x.a)->Mb l n J M m pre x V)
  (hN:N<=1000000) (hn:n<=1000000) (hn1:1<=n)
  (D:OA) (cu:Nat) (u:Lz) (pre:List WX) (W:ej) (hW:aB W0 W I I) (hJ:J pre W) (hp:∀x ∈ pre,ablk x.a ≠ Bat)
  (K:zL W Bat pre.length) (hu:Ints W D n u) (C:∀j,I j->j ≠ ablk D) (hlt:pre.length<N) :
  Calls prog 251 #[cG k,.slice D n cu,ea Bc 0,ea Bat 0,ea By 0,ea Bg 0,ea Bf 0] W
   λe V=>e = .returned (.bool true)/\∃xs:List WX,xs.map WX.l=[u]/\J (pre ++ xs) V/\(∀x ∈ pre ++ xs,ablk x.a ≠ Bat)/\zL V Bat (pre ++ xs).length/\aB W V I I:=by
 obtain rfl:u.length=n:=hu.len;have E:=HE W hW;obtain ⟨cgen,hmat,cyl,cgp,hgf,cfr,hltB⟩:=E;have A:=K.1;have hfz:=K.2;clear hmat cgp hgf cfr;have H:=Z5 HE;have HJa:=Z5 z;have HJb:=Z5 hJb;have HY:=Z5 hY;have Hau:=Z5 C;have Hp:=Z5 hp;clear HE z hJb hY C hp;refine (callsIn_wide (n:=8)).1 ?_;refine callsIn_of_wp func251 rfl trivial ?_ rfl;simp only [ntmps251,O5,NO,Pn,Nat.reduceAdd,Nat.reduceSub,ON,OO,O6,OU,Oy,OD];gi_wp2;obtain ⟨Y,Z⟩:∃Y,Y=W.setCell ⟨Bat,0,none⟩ (Value.int .i64 ((pre.length:Int)+1)):=⟨_,rfl⟩
 rw [<- Z];have S:aB W Y I I:=by rw [Z];exact aB.setAt _ hIB _
 have X:=hW.trans S;have cyl1:=(H Y X).yl;have cat1:Y.cell? ⟨Bat,0,none⟩=some (cG ((pre.length:Int)+1)):=by rw [Z];exact PJ _ _ _ (by rw [A];rfl)
 have fat1:Y.frozen? ⟨Bat,0,none⟩=false:=by rw [Z,NY];exact hfz
 have hu1:Ints Y D u.length u:=hu.cQ S (λ_ h=>Hau _ h rfl);have hJ1:J pre Y:=by rw [Z];exact HJb _ _ _ Hp.out hJ
 have B:Ints Y.drew D u.length u:=hu1.ai (M5 _ _).drew;have HS:Hid (∀V a4 c4,V.ownsRow Y.drew.heap.size 3 1 (.slice a4 u.length c4) u.length (u.map (Value.int .i64))->Below Y.drew.heap.size Y.drew V ->
   V.cell? ⟨By,0,none⟩=some (.func (.yield l) #[] #[])/\V.cell? ⟨Bat,0,none⟩=some (cG ((pre.length:Int)+1))/\V.frozen? ⟨Bat,0,none⟩=false/\ablk a4 ≠ Bat/\aB W V I I/\Mb l u.length J M 7 pre ⟨a4,c4,u⟩ V):=by intro V a4 c4 ho hb;have U:SJ Y V:=(M5 _ Y).drew.trans hb;have F:aB Y V I I:=RZ U I;obtain ⟨ia,_⟩:=RW ho;have hne:=aP ho (λe=>by have:=ia.pl (by omega);rw [e] at this;cases this);have hBl:Bat<Y.heap.size:=(H Y X).lt;have hsz:Y.drew.heap.size=Y.heap.size:=rfl;refine ⟨(H V (X.trans F)).yl,(U.cell (p:=⟨Bat,0,none⟩) hBl).trans cat1,(U.frozen (p:=⟨Bat,0,none⟩) hBl).trans fat1,by show ablk a4 ≠ _;omega,S.trans F,?_⟩;refine HY.out 7 pre ⟨a4,c4,u⟩ V (X.trans F) (HJa _ _ _ hJ1 U) hlt ia λj hj=>?_;have h1:=hIl j hj;have h2:=X.size;show j ≠ ablk a4;omega
 clear Z hJ1 X hu1 S A;have hwr:IntKind.i64.wrap ((pre.length:Nat):Int)=(pre.length:Nat):=Nn _ (by omega);have hmx:prog.follows .mixedOrders=true:=by kernel_rfl
 gi_region_with_o (first
  | ((try refine ⟨trivial,?_⟩);gi_at_call 115;refine (callsIn_wide.2 (cZ D u.length cu u B hn)).mono ?_;rintro e w4 ⟨a4,c4,rfl,ho4,hb4⟩;obtain ⟨cyl4,Q,r,hne4,hm4,fn,tmps,assign,body,hy,hR⟩:=HS _ _ _ ho4 hb4)
  | (refine hR.mono ?_;rintro e V ⟨rfl,hJ5,hm5⟩))
 all_goals gi_wp2
 all_goals go_ret
 all_goals exact ⟨rfl,[⟨a4,c4,u⟩],rfl,hJ5,λx hx=>by
   rcases List.mem_append.1 hx with hx | hx
   ·exact Hp x hx
   ·rw [List.mem_singleton.1 hx];exact hne4,by
   have h1:zL V Bat (pre.length+1):=zL.of_block ⟨Q,r⟩ (hm5.block _ (Nf _ _ Q) hMB);rw [Ni];exact h1,hm4.trans (hm5.wide hMI)⟩
end
theorem uX (O:aL) (L:ZZ) (Q:Lz) {k:Nat}:∀d,∀x ∈ (grTo O L Q k).2,x ∈ (grTo O L Q (k+d)).2
 | 0,x,Z=>Z
 | d+1,x,Z=>by
  have h:=uX O L Q d x Z;rw [<- Pq,grTo];split
  ·exact List.mem_append.2 (.inl h)
  ·exact h
theorem pQ (O:aL) (L:ZZ) (Q:Lz):∀k,k<=Q.length->∀x ∈ (grTo O L Q k).2,x ∈ Q.take k
 | 0,_,x,Z=>by simp [grTo] at Z
 | k+1,Y,x,Z=>by
  have e:Q.take (k+1)=Q.take k ++ [nth Q k]:=by rw [Nh (by omega),an (by omega)]
  rw [e,NW];rw [grTo] at Z;split at Z
  ·rcases List.mem_append.1 Z with Z | Z
   ·exact .inl (pQ O L Q k (by omega) x Z)
   ·exact .inr Z
  ·exact .inl (pQ O L Q k (by omega) x Z)
theorem Fw {U S:Lz} (h:fE U S S.length=0):∀x ∈ S,x ∈ U:=λx Z=>by
 rw [jq _ _ _ (M4 _),Nj (M4 _)] at h;have h0:S.countP (λx=>decide (¬ x ∈ U))=0:=by omega
 rw [PK] at h0;have:=h0 x Z;simpa using this
theorem E8 (m:Nat) (U:Lz):qG m (gC m U):=by
 have h1:(gC m U).Nodup:=by
  rw [gC,Oj];refine ⟨(kF false U m).imp λh=>by omega,(kF true U m).imp λh=>by omega,λx Y y hy e=>?_⟩;subst e;obtain ⟨j,_,e1,h1⟩:=(eE m).1 Y;obtain ⟨i,_,X,h2⟩:=(eE m).1 hy;obtain rfl:i=j:=by omega
  rw [h1] at h2;exact absurd h2 (by decide)
 refine (Pz h1 ?_).2 λx=>?_
 ·rw [Qs,OH];exact List.nodup_range.imp λh e=>h (Int.ofNat.inj e)
 ·rw [sq,OW];constructor
  ·rintro ⟨j,Z,rfl⟩;exact ⟨j,List.mem_range.2 Z,rfl⟩
  ·rintro ⟨j,Z,rfl⟩;exact ⟨j,List.mem_range.1 Z,rfl⟩
section
variable {O:aL} {El:Int->Prop} {m:Nat} {L:ZZ}
theorem yK (F:bQ O El) {x:Nat} (h:lu O El L.length (bp L) [] x):∀i,i<L.length->nth (aj L i) x=0:=λi hi=>by have h1:=h _ (j7.zq F hi) (by simp);rwa [dx _ _ _ hi] at h1
theorem KV (F:bQ O El) (Q:bz El m L) {U:Lz} (h:fE U (fu O L m U) (fu O L m U).length=0) {j:Nat} (K:j<m) (X:¬ (j:Int) ∈ U):∀i,i<L.length->nth (aj L i) j=0:=by
 have h1:=Fw h;have I:(frTo false U m).length<=(gC m U).length:=by rw [gC,Ni];omega
 have Z:(gC m U).take (frTo false U m).length=frTo false U m:=by rw [gC,RO];rfl
 have Y:(grTo O L (gC m U) (frTo false U m).length).2=[]:=by rw [List.eq_nil_iff_forall_not_mem];intro x S;have h2:=pQ O L (gC m U) _ I x S;rw [Z] at h2;obtain ⟨i,_,rfl,h3⟩:=(eE m).1 h2;have h4:=uX O L (gC m U) ((gC m U).length - (frTo false U m).length) _ S;rw [show (frTo false U m).length+((gC m U).length - (frTo false U m).length)=(gC m U).length by omega] at h4;have h5:=h1 _ h4;simp at h3;exact h3 h5
 have V:=(Cy F Q (gC m U) (frTo false U m).length).2.2 j (by
  rw [gJ];have hm:(j:Int) ∈ frTo false U m:=(eE m).2 ⟨j,K,rfl,by simpa using X⟩;obtain ⟨i,hi,e⟩:=List.mem_iff_getElem.1 hm;refine ⟨i,hi,?_⟩;have N:nth (gC m U) i=nth (frTo false U m) i:=by rw [<- Z,ou hi]
  rw [N,an hi,e];simp)
 rw [Y] at V;exact yK F V
def pR (O:aL) (L:ZZ) (m:Nat):Lz->List (Lz × Int)->Prop
 | U,[]=>∀j,j<m->¬ (j:Int) ∈ U->∀i,i<L.length->nth (aj L i) j=0
 | U,t :: T=>dZ m t.1=true/\yE O L t.1=true/\1<=t.2/\t.2=fE U t.1 t.1.length/\pR O L m (U ++ t.1) T
theorem vr {P M:Int} {mod:Lz} (Y:aI P M mod m L=0):∀(f:Nat) (U:Lz) (Z:List (Lz × Int)),(frTo false U m).length<f ->
  ∃T,famGo (ah P M.toNat mod).ops L m f U Z=Z ++ T/\pR (ah P M.toNat mod).ops L m U T/\T.length<=(frTo false U m).length
 | 0,_,_,h=>by omega
 | f+1,U,Z,h=>by
  obtain ⟨Q,e,E,S,F,N⟩:=aT Y;obtain rfl:m=Q:=by omega
  rw [famGo];by_cases h0:fE U (fu (ah P M.toNat mod).ops L m U) (fu (ah P M.toNat mod).ops L m U).length=0
  ·rw [M7 h0];exact ⟨[],by simp,λj I V=>KV F N h0 I V,by simp⟩
  ·rw [M8 h0];have X:=zp h0;obtain ⟨T,h1,h2,h3⟩:=vr Y f (U ++ bF (fu (ah P M.toNat mod).ops L m U)) (Z ++ [(bF (fu (ah P M.toNat mod).ops L m U),fE U (fu (ah P M.toNat mod).ops L m U) (fu (ah P M.toNat mod).ops L m U).length)]) (by omega);obtain ⟨H,p2⟩:=IY Y (E8 m U);have K:=oB U (fu (ah P M.toNat mod).ops L m U) (fu (ah P M.toNat mod).ops L m U).length;refine ⟨(bF (fu (ah P M.toNat mod).ops L m U),fE U (fu (ah P M.toNat mod).ops L m U) (fu (ah P M.toNat mod).ops L m U).length) :: T,by rw [h1];simp,⟨H,p2,by omega,?_,h2⟩,by simp;omega⟩;exact (En (cB _)).symm
theorem gh {P M:Int} {mod:Lz} (Z:aI P M mod m L=0):pR (ah P M.toNat mod).ops L m [] (gD (ah P M.toNat mod).ops L m)/\(gD (ah P M.toNat mod).ops L m).length<=m:=by have Y:(frTo false [] m).length<=m:=iG _ _ _;obtain ⟨T,h1,h2,h3⟩:=vr Z (m+1) [] [] (by omega);rw [gD,h1,Oy];exact ⟨h2,by omega⟩
end
def bY (x:Lz):Nat:=x.countP λy=>decide (y ≠ 0)
def K7 (x:Lz) (U:Lz) (m:Nat):Nat:=(List.range m).countP λj=>decide (nth x j ≠ 0/\(j:Int) ∈ U)
theorem oI {p p':Nat->Bool} {s:Nat} (h:∀j,j ≠ s->p j=p' j):∀m,(List.range m).countP p'+(if s<m/\p s=true then 1 else 0)=(List.range m).countP p+(if s<m/\p' s=true then 1 else 0)
 | 0=>by simp
 | m+1=>by
  have Z:=oI h m;rw [Ot,PN,PN,P3,P3];by_cases e:s=m
  ·subst e;simp at Z;by_cases h1:p s=true<;>by_cases h2:p' s=true<;>simp [h1,h2]<;>omega
  ·have h3:=h m (λY=>e Y.symm);rw [h3];by_cases h4:s<m
   ·simp only [h4,show s<m+1 by omega,true_and] at Z ⊢;omega
   ·simp only [h4,show ¬ s<m+1 by omega,false_and] at Z ⊢;simp at Z ⊢;omega
theorem JA (x U:Lz) (m:Nat) {s:Int} (h0:0<=s) (hm:s<m):K7 x (U ++ [s]) m=K7 x U m+(if nth x s.toNat ≠ 0/\¬ s ∈ U then 1 else 0):=by
 have h:=oI (p:=λj=>decide (nth x j ≠ 0/\(j:Int) ∈ U)) (p':=λj=>decide (nth x j ≠ 0/\(j:Int) ∈ U ++ [s])) (s:=s.toNat) (λj Y=>by
  have:((j:Int) ∈ U ++ [s]) ↔ ((j:Int) ∈ U):=by rw [NW,NR];exact ⟨λh=>h.elim id λe=>absurd (by omega) Y,.inl⟩
  simp [this]) m
 have e:((s.toNat:Nat):Int)=s:=by omega
 have Z:s.toNat<m:=by omega
 unfold K7;simp only [e,Z,true_and,NM,NW,NR,or_true,and_true] at h;have X:(List.range m).countP (λj=>decide (nth x j ≠ 0/\(j:Int) ∈ U ++ [s]))=(List.range m).countP (λj=>decide (nth x j ≠ 0/\((j:Int) ∈ U\/(j:Int)=s))):=by simp
 rw [X];by_cases h1:nth x s.toNat=0
 ·simp [h1] at h ⊢;exact h
 ·by_cases h2:s ∈ U
  ·simp [h1,h2] at h ⊢;omega
  ·simp [h1,h2] at h ⊢;omega
theorem Dm (x:Lz) (m:Nat):∀(S U:Lz),S.Nodup->(∀s ∈ S,0<=s/\s<(m:Int))->K7 x (U ++ S) m=K7 x U m+S.countP λs=>decide (nth x s.toNat ≠ 0/\¬ s ∈ U)
 | [],U,_,_=>by simp
 | s :: S,U,Z,hb=>by
  rw [List.nodup_cons] at Z;have h1:=hb s (Og ..);have Y:=Dm x m S (U ++ [s]) Z.2 λy hy=>hb y (NC _ hy);rw [Oa,List.singleton_append] at Y;rw [Y,JA x U m h1.1 h1.2,Pd];have e:S.countP (λy=>decide (nth x y.toNat ≠ 0/\¬ y ∈ U ++ [s]))=S.countP (λy=>decide (nth x y.toNat ≠ 0/\¬ y ∈ U)):=by refine List.countP_congr λy hy=>?_;have:y ≠ s:=λe=>Z.1 (e ▸ hy);simp [this]
  rw [e];simp only [NM];omega
theorem L3 (x U:Lz) (m:Nat) (Z:x.length=m):K7 x U m<=bY x:=by
 have h:bY x=(List.range m).countP λj=>decide (nth x j ≠ 0):=by
  have e:x=(List.range m).map (nth x):=by refine Ou (by simp [Z]) λi h1 h2=>?_;rw [Oc,O1,an h1]
  conv=>lhs;rw [bY,e,Qf]
  rfl
 rw [h];exact List.countP_mono_left λj _ h=>by simp at h ⊢;exact h.1
theorem qA {O:aL} {L:ZZ} {m:Nat} {x:Lz} {v:Int}:∀(T:List (Lz × Int)) (U:Lz),pR O L m U T->(∀t ∈ T,v<(bY (bg t.1 x):Int)) ->
  flTo L.length v (T.map (·.2)) T.length+K7 x U m<=(K7 x (U ++ (T.map (·.1)).flatten) m:Int)
 | [],U,_,_=>by simp [flTo]
 | t :: T,U,h,hw=>by
  obtain ⟨h1,h2,h3,h4,h5⟩:=h;have Z:=qA T (U ++ t.1) h5 λy hy=>hw y (NC _ hy);have H:t.1.length=L.length:=(kT.1 h2).1;have Y:∀s ∈ t.1,0<=s/\s<(m:Int):=λs I=>by obtain ⟨k,V,rfl⟩:=List.mem_iff_getElem.1 I;have:=gL h1 V;rw [an V] at this;exact ⟨this.1,this.2.1⟩
  have ha:=Dm x m t.1 U (qp h1) Y;have N:=hw t (Og ..);have X:∀(r:Int) (R:Lz),∀k,flTo L.length v (r :: R) (k+1)=max 0 (v+1 - (L.length - r))+flTo L.length v R k:=λr R k=>by
   induction k with
   | zero=>simp [flTo,nth]
   | succ k Z=>rw [flTo,Z,flTo];simp [nth];omega
  have E:(bY (bg t.1 x):Int)<=(t.1.countP λs=>decide (nth x s.toNat ≠ 0/\¬ s ∈ U):Nat)+(L.length - t.2):=by
   have e1:bY (bg t.1 x)=t.1.countP λs=>decide (nth x s.toNat ≠ 0):=by unfold bY bg;rw [Qf];rfl
   have F:t.2=(t.1.countP (λs=>decide (¬ s ∈ U)):Nat):=by rw [h4,jq _ _ _ (M4 _),Nj (M4 _)]
   have Q:∀S:Lz,(S.countP λs=>decide (nth x s.toNat ≠ 0))+S.countP (λs=>decide (¬ s ∈ U))<=(S.countP λs=>decide (nth x s.toNat ≠ 0/\¬ s ∈ U))+S.length:=λS=>by
    induction S with
    | nil=>simp
    | cons s S Z =>
     rw [Pd,Pd,Pd,NO]
     by_cases K:nth x s.toNat=0<;>by_cases p2:s ∈ U<;>simp [K,p2] at Z ⊢<;>omega
   have:=Q t.1;omega
  rw [Oq,NO,X,Oq,List.flatten_cons,<- Oa];omega
theorem EN {P M:Int} {mod:Lz} {m:Nat} {L:ZZ} (Z:aI P M mod m L=0) {x:Lz} (N:x.length=m) {v:Int} (H:0<=v/\v<=(L.length:Int)) (X:L.length<=64)
  (hw:∀t ∈ gD (ah P M.toNat mod).ops L m,v<(bY (bg t.1 x):Int)) :
  ∃f:Int,Dq L.length ((gD (ah P M.toNat mod).ops L m).map (·.2)) v=(f,0)/\f<=(bY x:Int):=by
 obtain ⟨h1,h2⟩:=gh Z;obtain ⟨E,e,S,Y,_,_⟩:=aT Z;generalize gD (ah P M.toNat mod).ops L m=T at *;have hb:=qA T [] h1 hw;have hle:=L3 x ([] ++ (T.map (·.1)).flatten) m N;have K:∀(T:List (Lz × Int)) (U:Lz),pR (ah P M.toNat mod).ops L m U T->(T.map (·.2)).all (Du L.length)=true:=λT=>by
  induction T with
  | nil=>intro U _;rfl
  | cons t T I =>
   rintro U ⟨F,q2,D,C,Q⟩
   have V:=oB U t.1 t.1.length
   have X:t.1.length=L.length:=(kT.1 q2).1
   rw [Oq,Qx,I _ Q,Re]
   unfold Du
   simp;omega
 refine ⟨flTo L.length v (T.map (·.2)) T.length,?_,?_⟩
 ·rw [Dq,M7,No];refine ⟨?_,K T [] h1⟩;unfold Lg;simp [No];omega
 ·omega
section
variable {O:aL} {El:Int->Prop} {m:Nat}
theorem lK.La (F:bQ O El) {L:ZZ} {P:Lz} {c:Nat} (h:lK L P c) (S:bz El m L) {v:Lz} (U:Vc El L.length v) {V:Lz->Int} (Y:j7 O El L.length V)
  {t:Nat} (N:t<=P.length) (h0:∀j,j<t->V (bp L (nth P j).toNat)=0):∀k,k<=t->Vc El L.length (iW O L P v k)/\V (iW O L P v k)=V v/\∀i,i<L.length->nth (iW O L P v k) i=if i<k then 0 else nth v i
 | 0,_=>⟨U,rfl,λi _=>by rw [M8 (by omega)];rfl⟩
 | k+1,K=>by
  obtain ⟨h1,h2,h3⟩:=h.La F S U Y N h0 k (by omega);have hle:=h.le;have Z:=dw S F.zero (nth P k).toNat;have X:=h1.at (i:=k) (by omega);refine ⟨h1.sub F Z X,?_,λi hi=>?_⟩
  ·rw [iW,Y.sub _ _ _ h1 Z X,h0 k (by omega),F.df X,F.gw,F.add_zero _ (Y.el _ h1),h2]
  ·rw [iW,ey O _ _ _ i (by rw [Z.1,h1.1]) (by rw [h1.1];exact hi),dx L _ i hi,h.one k i (by omega) hi];by_cases e:i=k
   ·subst e;rw [M7 rfl,F.iH X,F.add_neg _ X,M7 (by omega)]
   ·rw [M8 e,F.df X,F.gw,F.add_zero _ (h1.at hi),h3 i hi];by_cases Q:i<k
    ·rw [M7 Q,M7 (by omega)]
    ·rw [M8 Q,M8 (by omega)]
theorem DF {P:Lz} (ha:∀i j,i<j->j<P.length->nth P i<nth P j) {x:Int} (X:¬ x ∈ P):∀k,k<=P.length->∃t,t<=k/\(∀j,j<t->nth P j<x)/\∀j,t<=j->j<k->x<nth P j
 | 0,_=>⟨0,M4 _,λj Y=>by omega,λj _ Y=>by omega⟩
 | k+1,U=>by
  obtain ⟨t,h1,h2,h3⟩:=DF ha X k (by omega);have hne:nth P k ≠ x:=λe=>X (e ▸ aG (by omega));by_cases V:t=k
  ·subst V;by_cases Z:nth P t<x
   ·exact ⟨t+1,by omega,λj Y=>by
     by_cases e:j=t
     ·subst e;exact Z
     ·exact h2 j (by omega),λj h4 h5=>by omega⟩
   ·exact ⟨t,by omega,h2,λj h4 h5=>by
     obtain rfl:j=t:=by omega
     omega⟩
  ·refine ⟨t,by omega,h2,λj h4 h5=>?_⟩;by_cases e:j=k
   ·subst e;have:=ha t j (by omega) (by omega);have:=h3 t (M4 _) (by omega);omega
   ·exact h3 j h4 (by omega)
theorem Kr (F:bQ O El) {R:ZZ} {P:Lz} (V:bz El m R) (X:lK R P m) (S:pz R P) {f:Nat->Int} (Q:RS O El m R f) {x:Nat} (U:x<m) (h0:∀y,y<x->f y=0) (hne:f x ≠ 0):(x:Int) ∈ P:=by
 refine NB λN=>hne ?_;obtain ⟨t,h1,h2,h3⟩:=DF S.asc N P.length (M4 _);obtain ⟨e,he,h⟩:=Q;have Y:=X.lt;obtain ⟨I,q2,H⟩:=X.La F V (dw V F.zero x) he h1 (λj K=>by have:=h2 j K;have:=Y j (by omega);rw [<- h _ (by omega)];exact h0 _ (by omega)) t (M4 _);rw [h x U,<- q2];refine he.zero F I λi hi=>?_;rw [H i hi];split
 ·rfl
 ·rw [dx R x i hi];by_cases Z:i<P.length
  ·have:=h3 i (by omega) Z;exact S.lead i x Z (by omega)
  ·exact X.zero i x (by omega) hi U
theorem zw (F:bQ O El) {R:ZZ} {P:Lz} (U:bz El m R) (Y:lK R P m) {f:Nat->Int} (V:RS O El m R f) (h0:∀j,j<P.length->f (nth P j).toNat=0):∀x,x<m->f x=0:=λx X=>by obtain ⟨e,he,h⟩:=V;rw [h x X];refine Y.all F U X e he λy hy=>?_;obtain ⟨j,Z,rfl⟩:=(gJ P _ _).1 hy;rw [<- h _ (by have:=Y.lt j Z;omega)];exact h0 j Z
theorem AX {P:Lz} (ha:∀i j,i<j->j<P.length->nth P i<nth P j):P.Pairwise λx y=>x<y:=by rw [O3];intro i j hi Y Z;have:=ha i j Z Y;rwa [an hi,an Y] at this
theorem Ip {P Z:Lz} (ha:∀i j,i<j->j<P.length->nth P i<nth P j) (Y:∀i j,i<j->j<Z.length->nth Z i<nth Z j) (h:∀x,x ∈ P ↔ x ∈ Z):P=Z:=by have h1:=AX ha;have h2:=AX Y;exact lX (h1.imp λh=>by omega) (h2.imp λh=>by omega) ((Pz (h1.imp λh=>by omega) (h2.imp λh=>by omega)).2 h)
theorem AM (F:bQ O El) {R Z:ZZ} {P Y:Lz} (H:bz El m R) (E:bz El m Z) (N:lK R P m) (X:lK Z Y m) (I:pz R P) (U:pz Z Y) (hlen:R.length=P.length) (V:Z.length=Y.length)
  (h1:eY O El m R Z) (h2:eY O El m Z R):R=Z:=by
 have key:∀ {R Z:ZZ} {P Y:Lz},bz El m R->lK R P m->pz R P->lK Z Y m->pz Z Y->Z.length=Y.length->eY O El m Z R->∀x ∈ Y,x ∈ P:=λ{R Z P Y} H N I X U V h2 x K=>by obtain ⟨i,hi,rfl⟩:=List.mem_iff_getElem.1 K;have hb:=X.lt i hi;have h3:=Kr F H N I (h2 i (by omega)) (x:=(nth Y i).toNat) (by omega) (λy hy=>U.lead i y hi hy) (by show nth (aj Z i) (nth Y i).toNat ≠ 0;rw [X.one i i hi (by omega),M7 rfl];decide);rw [show (((nth Y i).toNat:Nat):Int)=nth Y i by omega,an hi] at h3;exact h3
 have B:P=Y:=Ip I.asc U.asc λx=>⟨key E X U N I hlen h1 x,key H N I X U V h2 x⟩
 subst B;refine Ou (by omega) λi hi S=>?_;have C:=H _ (NL hi);have Q:=E _ (NL S);refine fy (by rw [C.1,Q.1]) λx K=>?_;rw [C.1] at K;have r:=zw F H N ((h2 i S).comb F (Sx F (m:=m) hi) F.one) (λj z=>by
  show O.add (nth (aj Z i) (nth P j).toNat) (O.neg (O.mul (nth (aj R i) (nth P j).toNat) 1))=0;rw [X.one j i z S,N.one j i z hi];split
  ·rw [F.iH F.one,F.add_neg _ F.one]
  ·rw [F.iH F.zero,F.add_neg _ F.zero]) x K
 have D:O.add (nth (aj Z i) x) (O.neg (O.mul (nth (aj R i) x) 1))=0:=r;have e1:El (nth R[i] x):=C.2 _ (aG (by rw [C.1];exact K));have A:El (nth Z[i] x):=Q.2 _ (aG (by rw [Q.1];exact K));rw [aH hi,aH S,F.iH e1] at D;have h4:=F.l8 A (F.cl.neg _ e1) D;have h5:=congrArg O.neg h4;rwa [F.neg_neg e1,F.neg_neg A] at h5
theorem mg (F:bQ O El) (n k:Nat):Vc El n (gQ n k):=by
 refine ⟨ka n k,λx Z=>?_⟩;unfold gQ at Z;rcases Oe Z with Z | rfl
 ·rw [N3 Z];exact F.zero
 ·exact F.one
theorem mC {n k i:Nat} (Z:k<n):nth (gQ n k) i=if i=k then 1 else 0:=by
 unfold gQ;rw [eT _ _ _ _ (by simpa using Z)];split
 ·rfl
 ·unfold nth;simp only [Na,NP];split<;>rfl
def cutTo (O:aL) (n:Nat) (v:Lz):Nat->Lz
 | 0=>v
 | k+1=>dH O (cutTo O n v k) (nth v k) (gQ n k)
theorem zD (F:bQ O El) {n:Nat} {V:Lz->Int} (Z:j7 O El n V) {v:Lz} (X:Vc El n v):∀k,k<=n->Vc El n (cutTo O n v k)/\(∀i,i<n->nth (cutTo O n v k) i=if i<k then 0 else nth v i) /\
  O.add (V (cutTo O n v k)) (dotN O (λt=>V (gQ n t)) (λt=>nth v t) k)=V v
 | 0,_=>⟨X,λi _=>by rw [M8 (by omega)];rfl,by rw [dotN];exact F.add_zero _ (Z.el _ X)⟩
 | k+1,Q=>by
  obtain ⟨h1,h2,h3⟩:=zD F Z X k (by omega);have hu:=mg F n k;have Y:=X.at (i:=k) (by omega);refine ⟨h1.sub F hu Y,λi hi=>?_,?_⟩
  ·rw [cutTo,ey O _ _ _ i (by rw [hu.1,h1.1]) (by rw [h1.1];exact hi),mC (by omega),h2 i hi];by_cases e:i=k
   ·subst e;rw [M7 rfl,M8 (by omega),F.iH Y,F.add_neg _ Y,M7 (by omega)]
   ·rw [M8 e,F.df Y,F.gw];by_cases U:i<k
    ·rw [M7 U,M7 (by omega),F.add_zero _ F.zero]
    ·rw [M8 U,M8 (by omega),F.add_zero _ (X.at hi)]
  ·have hm:=F.cl.mul _ _ Y (Z.el _ hu);have hd:=mR F (a:=λt=>V (gQ n t)) (b:=λt=>nth v t) k (λp _=>Z.el _ (mg F n p)) (λp S=>X.at (by omega));rw [cutTo,Z.sub _ _ _ h1 hu Y,dotN,F.mul_comm _ _ (Z.el _ hu) Y,F.Em (Z.el _ h1) (F.cl.neg _ hm) hd hm,F.po hm,F.add_zero _ (F.cl.add _ _ (Z.el _ h1) hd),h3]
theorem uT (F:bQ O El) {n:Nat} {Y:Lz->Int} (Z:j7 O El n Y) {v:Lz} (X:Vc El n v):Y v=dotN O (λt=>Y (gQ n t)) (λt=>nth v t) n:=by obtain ⟨h1,h2,h3⟩:=zD F Z X n (M4 _);rw [<- h3,Z.zero F h1 λi hi=>by rw [h2 i hi,M7 hi],F.ui (mR F n (λp _=>Z.el _ (mg F n p)) (λp V=>X.at V))]
theorem mQ (F:bQ O El) {L:ZZ} (Z:bz El m L) {x:Lz} (Y:∀k,k<L.length->El (nth x k)) {y:Nat} (hy:y<m):∀k,k<=L.length->nth (cmbTo O m x L k) y=dotN O (λt=>nth x t) (λt=>nth (aj L t) y) k
 | 0,_=>by rw [cmbTo,dotN];unfold nth;simp only [Na,NP];split<;>rfl
 | k+1,Q=>by
  have V:=mQ F Z Y hy k (by omega);obtain ⟨h1,_⟩:=iZ F Z Y k (by omega);have X:=Z.row (i:=k) (by omega);have hd:=mR F (a:=λt=>nth x t) (b:=λt=>nth (aj L t) y) k (λp S=>Y p (by omega)) (λp S=>R0 (Z.row (i:=p) (by omega)) hy);rw [cmbTo,dotN];split
  ·rename_i U;rw [V,U,F.lI (R0 X hy),F.add_zero _ hd]
  ·rw [gY O _ _ _ y (by rw [X.1,h1.1]) (by rw [h1.1];exact hy),V];split
   ·rename_i e1;show _=O.add _ (O.mul (nth x k) (nth (aj L k) y));rw [e1,F.df (Y k (by omega)),F.add_zero _ hd]
   ·rfl
theorem Lo {P:Lz} {k:Nat} (X:P.length=k) (hb:∀j,j<k->0<=nth P j/\nth P j<k) (ha:∀i j,i<j->j<P.length->nth P i<nth P j):∀j,j<k->nth P j=j:=by
 have h1:∀j,j<k->(j:Int)<=nth P j:=λj=>by
  induction j with
  | zero=>intro h;exact (hb 0 h).1
  | succ j Z=>intro h;have:=Z (by omega);have:=ha j (j+1) (by omega) (by omega);omega
 have h2:∀d j,j+d+1=k->nth P j<=j:=λd=>by
  induction d with
  | zero=>intro j h;have:=hb j (by omega);omega
  | succ d Z=>intro j h;have:=Z (j+1) (by omega);have:=ha j (j+1) (by omega) (by omega);omega
 intro j Y;have:=h1 j Y;have:=h2 (k - j - 1) j (by omega);omega
theorem A0 (F:bQ O El) {L:ZZ} (A:bz El m L) {Q:Lz} (hQ:Ga m Q) (V:Q.length=L.length) (hg:(jm O L Q).length=Q.length) (i:Nat) (hi:i<L.length) :
  ∃e,j7 O El L.length e/\(∀y,y<m->nth (aj (en O m L Q) i) y=e (bp L y))/\∀j,j<Q.length->e (bp L (nth Q j).toNat)=if i=j then 1 else 0:=by
 have z:=ot A hQ;have I:=Jt F A hQ V hg;have Z:=mN z (sL F.zero F.one Q.length);have E:(L.map (bg Q)).length=Q.length:=by rw [No,V]
 have X:(iD (L.map (bg Q)) (fF Q.length)).length=Q.length:=by simp [iD,da,V]
 have C:=kK (D:=L.map (bg Q)) (U:=fF Q.length) (k:=Q.length) (by rw [da,E]) (λr hr=>(z r hr).1);have H:=nM (D:=L.map (bg Q)) (U:=fF Q.length) (k:=Q.length) (by rw [da,E]) (λr hr=>(z r hr).1);obtain ⟨J,hJ⟩:∃J,iD (L.map (bg Q)) (fF Q.length)=J:=⟨_,rfl⟩
 have B:en O m L Q=Ju O m ((aE O J Q.length).1.map (List.drop Q.length)) L:=by rw [en,pE,hJ]
 rw [hJ] at I Z X C H;obtain ⟨h1,h2,_⟩:=iI F Z Q.length (by omega);have h3:=qi F Z Q.length (by omega);have hel:(aE O J Q.length).1.length=Q.length:=by rw [bW,X]
 have hEr:=jo F Z Q.length (by omega);have hid:=Lo I (λj hj=>h1.lt j (by omega)) h3.asc;obtain ⟨e,he,N⟩:=h2 i (by omega);rw [X,V] at he;have K:∀x,x<Q.length->bp J x=bp L (nth Q x).toNat:=λx N=>by
  have e1:bp J x=bp (J.map (List.take Q.length)) x:=by unfold bp;rw [PE];exact N6 λr _=>(ou N).symm
  rw [e1,C];unfold bp;rw [PE];exact N6 λr _=>fM Q r N
 have S:∀x,x<Q.length->bp J (Q.length+x)=gQ L.length x:=λx N=>by
  have e1:bp J (Q.length+x)=bp (J.map (List.drop Q.length)) x:=by unfold bp;rw [PE];refine N6 λr _=>?_;unfold nth;simp only [Na,Function.comp,Qp]
  rw [e1,H];refine fy (by rw [db,da,ka,V]) λt Y=>?_;rw [db,da] at Y;rw [dx _ _ _ (by rw [da];exact Y),pH Y,mC Y,<- V,mC N];by_cases e:x=t
  ·subst e;simp
  ·rw [M8 e,M8 λe2=>e e2.symm]
 have hT:∀t,t<Q.length->nth (aj ((aE O J Q.length).1.map (List.drop Q.length)) i) t=e (gQ L.length t):=λt Y=>by rw [gU _ List.drop_nil,<- S t Y,<- N _ (by omega)];unfold nth;simp only [Na,Qp]
 have hTl:((aE O J Q.length).1.map (List.drop Q.length)).length=L.length:=by rw [No,hel,V]
 refine ⟨e,he,λy hy=>?_,λj hj=>?_⟩
 ·rw [B,Ju,bK _ _ (by rw [hTl];exact hi)];rw [mQ F A (λt Y=>by rw [hT t (by omega)];exact he.el _ (mg F _ t)) hy _ (M4 _),uT F he (dw A F.zero y)];exact gu _ λt Y=>⟨hT t (by omega),(dx L y t Y).symm⟩
 ·rw [<- K j hj,<- N _ (by omega)];have:=h1.one j i (by omega) (by omega);rw [hid j hj,M9] at this;exact this
end
section
variable {P M:Int} {mod:Lz} {m:Nat} {L:ZZ}
theorem ob (hE:aI P M mod m L=0) {Q:Lz} (hQ:Ga m Q) (hl:Q.length=L.length) (hg:(jm (ah P M.toNat mod).ops L Q).length=Q.length) :
  bz (ah P M.toNat mod).El m (en (ah P M.toNat mod).ops m L Q)/\(en (ah P M.toNat mod).ops m L Q).length=L.length/\(en (ah P M.toNat mod).ops m L Q).map (bg Q)=fF Q.length /\
  b8 (ah P M.toNat mod) (en (ah P M.toNat mod).ops m L Q) m=L:=by
 obtain ⟨N',e,hm1,hm64,F,V⟩:=aT hE;obtain rfl:m=N':=by omega
 have C:=pJ hE;have h6:=(dF (aX hE).2.2.2).2;rw [M9] at h6;have hcan:bI (ah P M.toNat mod).ops m L=L:=h6;obtain ⟨hPv,hLd⟩:=dc F V;have hcl:=cU F V;rw [hcan] at hPv hLd hcl;have X:=λi hi=>A0 F V hQ hl hg i hi;have hD:=ot V hQ;have hIr:=A6 F hD;have hIl:(pE (ah P M.toNat mod).ops (L.map (bg Q)) Q.length).length=L.length:=by rw [Jh _ (by rw [No,hl]),hl]
 have I:(en (ah P M.toNat mod).ops m L Q).length=L.length:=by unfold en Ju;rw [No,hIl]
 have Y:bz (ah P M.toNat mod).El m (en (ah P M.toNat mod).ops m L Q):=λr hr=>by unfold en Ju at hr;obtain ⟨s,hs,rfl⟩:=List.mem_map.1 hr;have hs2:=hIr s hs;exact (iZ F V (λk hk=>hs2.2 _ (aG (by rw [hs2.1];omega))) _ (M4 _)).1
 show _/\_/\_/\bI (ah P M.toNat mod).ops m (en (ah P M.toNat mod).ops m L Q)=L;generalize en (ah P M.toNat mod).ops m L Q=S at *;generalize (ah P M.toNat mod).ops=O at *;generalize (ah P M.toNat mod).El=El at *;refine ⟨Y,I,?_,?_⟩
 ·refine Ou (by rw [No,da,I,hl]) λi h1 h2=>?_;rw [No,I] at h1;rw [<- aH,<- aH,bK _ _ (by rw [I];exact h1),pH (by omega)];obtain ⟨e,he,hy,K⟩:=X i h1;refine fy (by rw [ka];simp [bg]) λj hj2=>?_;have D:j<Q.length:=by simpa [bg] using hj2
  have hqj:=hQ j D;rw [fM Q _ D,mC (by omega),hy _ (by omega),K j D];by_cases e2:i=j
  ·subst e2;simp
  ·rw [M8 e2,M8 λe3=>e2 e3.symm]
 ·obtain ⟨k1,k2⟩:=dc F Y;have k3:=cU F Y;obtain ⟨s1,s2⟩:=dC F Y;have hSL:eY O El m S L:=λi hi=>by obtain ⟨e,he,hy,_⟩:=X i (by omega);exact ⟨e,he,hy⟩
  have hclA:∀x,x<m->lu O El L.length (bp L) (gA Q) x:=λx hx=>by
   refine NB λhn=>?_;have h1:=Kl F V (Q:=Q) (x:=(x:Int)) (by simpa using hn);have h2:=Rk.le (gd F V) (nK F V (Q ++ [(x:Int)])) C λy hy=>by
    refine (gd F V).mem _ _ ?_;rw [OG];obtain ⟨z,E,rfl⟩:=tV.1 hy;rcases List.mem_append.1 E with E | E
    ·obtain ⟨j,K,rfl⟩:=List.mem_iff_getElem.1 E;have:=hQ j K;rw [an K] at this;omega
    ·rw [NR] at E;subst E;simpa using hx
   have h3:EP O L Q=Q.length:=hg;omega
  have hLS:eY O El m L S:=λi hi=>by
   have B:∀k,k<S.length->El (nth (bg Q (aj L i)) k):=λk hk=>by
    have hk2:k<Q.length:=by omega
    have:=hQ k hk2;rw [fM Q _ hk2];exact R0 (V.row (i:=i) hi) (by omega)
   obtain ⟨c1,c2⟩:=iZ F Y B S.length (M4 _);have hd:=(Sx F (m:=m) (O:=O) (El:=El) hi).comb F (hSL.rs c2) F.one;obtain ⟨e,he,hx⟩:=hd;have E:∀x,x<m->O.add (nth (aj L i) x) (O.neg (O.mul (nth (cmbTo O m (bg Q (aj L i)) S S.length) x) 1))=0:=λx U=>by
    have h1:O.add (nth (aj L i) x) (O.neg (O.mul (nth (cmbTo O m (bg Q (aj L i)) S S.length) x) 1))=e (bp L x):=hx x U;rw [h1];refine hclA x U e he λy hy=>?_;obtain ⟨q,hq,rfl⟩:=tV.1 hy;obtain ⟨j,K,rfl⟩:=List.mem_iff_getElem.1 hq;have hqj:=hQ j K;rw [an K] at hqj;have h2:O.add (nth (aj L i) (Q[j]).toNat) (O.neg (O.mul (nth (cmbTo O m (bg Q (aj L i)) S S.length) (Q[j]).toNat) 1))=e (bp L (Q[j]).toNat):=hx _ (by omega);rw [<- h2];have Z:El (nth (aj L i) (Q[j]).toNat):=R0 (V.row (i:=i) hi) (by omega);have h3:nth (cmbTo O m (bg Q (aj L i)) S S.length) (Q[j]).toNat=nth (aj L i) (Q[j]).toNat:=by
     rw [mQ F Y B (by omega) _ (M4 _)];have N:∀t,t<S.length->nth (aj S t) (Q[j]).toNat=if t=j then 1 else 0:=λt ht=>by obtain ⟨e',_,hy',hj'⟩:=X t (by omega);have h4:=hj' j K;rw [an K] at h4;rw [hy' _ (by omega),h4]
     have H:nth (bg Q (aj L i)) j=nth (aj L i) (Q[j]).toNat:=by rw [fM Q _ K,an K]
     rw [ki F (x:=j) (by
      show El (O.mul (nth (bg Q (aj L i)) j) (nth (aj S j) (Q[j]).toNat));rw [N j (by omega),M7 rfl,H,F.iH Z];exact Z) S.length (λp hp H=>by
      show O.mul (nth (bg Q (aj L i)) p) (nth (aj S p) (Q[j]).toNat)=0;rw [N p hp,M8 H,F.df (B p hp)]),M7 (by omega)]
     show O.mul (nth (bg Q (aj L i)) j) (nth (aj S j) (Q[j]).toNat)=_;rw [N j (by omega),M7 rfl,H,F.iH Z]
    rw [h3,F.iH Z,F.add_neg _ Z]
   refine c2.congr λx U=>?_;have h1:=E x U;have Z:El (nth (aj L i) x):=R0 (V.row (i:=i) hi) U;have A:=c1.at U;rw [F.iH A] at h1;have h4:=F.l8 Z (F.cl.neg _ A) h1;have h5:=congrArg O.neg h4;rw [F.neg_neg A,F.neg_neg Z] at h5;exact h5.symm
  exact AM F (dk F Y) V k1 hPv k2 hLd k3 hcl (s1.trans hSL) (hLS.trans s2)
end
theorem qX {σ:Type} (I:ej->σ->Prop) (J:σ->Nat->Prop) (val:σ->ZZ) (F:Lz->Lz->ZZ->Int × ZZ) (pb W:Nat)
  (sa:OA) (ns cs:Nat) (s:Lz) (az:OA) (nz cz:Nat) (z:Lz) (at':OA) (nt ct:Nat) (t:Lz) (w:ej) (Z:σ)
  (hI0:I w Z) (hIb:∀V V' σ,I V σ->aB V V' (λb=>w.heap.size<=b/\¬ J σ b) (λb=>w.heap.size<=b/\¬ J σ b)->I V' σ) (hp:w.cell? ⟨pb,9,none⟩=some (cG W)) (hS:∀V σ,I V σ->Ints V sa ns s/\Ints V at' nt t)
  (hJ:∀V σ x,I V σ->J σ x->x<V.heap.size) (hz:Ints w az nz z) (htn:t.Nodup) (hns:ns<=1000) (hnz:nz<=1000) (hnt:nt<=1000) (hWs:ns<=W)
  (hF:ns<W->∀(V:ej) (σ:σ) (a1:OA) (c1:Nat) (a2:OA) (c2 k:Nat) (Y:Lz),k<nt->Y=z ++ (t.take k).filter (λx=>decide (¬ x ∈ z))->¬ nth t k ∈ z->I V σ->aB w V (J Z) (J σ) ->
   Ints V a1 (ns+1) (s ++ [nth t k])->Ints V a2 Y.length Y->¬ J σ (ablk a1)->(a2 ≠ none->¬ J σ (ablk a2)) ->
   Calls prog 193 #[ea pb 0,.slice a1 (ns+1) c1,.slice a2 Y.length c2] V
    λe V'=>∃X,I V' X/\aB V V' (J σ) (J X)/\e = .returned (cG (F (s ++ [nth t k]) Y (val σ)).1)/\((F (s ++ [nth t k]) Y (val σ)).1=0->val X=(F (s ++ [nth t k]) Y (val σ)).2)) :
  Calls prog 234 #[ea pb 0,.slice sa ns cs,.slice az nz cz,.slice at' nt ct,.func (.func 193) #[ea pb 0] #[]] w
   λe w'=>∃X,I w' X/\aB w w' (J Z) (J X)/\e = .returned (cG (gT F s z (if ns<W then t.filter (λx=>decide (¬ x ∈ z)) else []) (val Z)).1) /\
    ((gT F s z (if ns<W then t.filter (λx=>decide (¬ x ∈ z)) else []) (val Z)).1=0->val X=(gT F s z (if ns<W then t.filter (λx=>decide (¬ x ∈ z)) else []) (val Z)).2):=by
 obtain ⟨KB,hKB⟩:∃KB,gT F s z (if ns<W then t.filter (λx=>decide (¬ x ∈ z)) else []) (val Z)=KB:=⟨_,rfl⟩
 rw [hKB];have HKB:=Z5 hKB;clear hKB;have Hzl:=Z5 hz.len;have Htl:=Z5 (hS w Z hI0).2.len;have Hsl:=Z5 (hS w Z hI0).1.len;have hplt:=(hS w Z hI0).2.pl;have HS:=Z5 hS;have HI0:=Z5 hI0;have HIb:=Z5 hIb;have HJ:=Z5 hJ;have Htn:=Z5 htn;have HF:=Z5 hF;clear hS hI0 hIb hJ htn hF;by_cases hW:ns=W
 ·have hd:((ns:Int) == (W:Int))=true:=by simp;omega
  have Hk:Hid (KB=(0,val Z)):=by show _=_;rw [<- HKB.out,M8 (by omega)];rfl
  go_enter func234,ntmps234;clear hW;go_wp2_with fail;go_ret;exact ⟨Z,HI0,Sb _ _,by rw [Hk.out];rfl,λ_=>by rw [Hk.out]⟩
 have hd:((ns:Int) == (W:Int))=false:=by simp;omega
 have hlW:ns<W:=by omega
 have HKB:Hid (KB=gT F s z (t.filter (λx=>decide (¬ x ∈ z))) (val Z)):=by show _=_;rw [<- HKB.out,M7 hlW]
 have HF:=Z5 (HF hlW);clear hlW hW;go_enter func234,ntmps234;go_wp2_with fail;refine (cZ az nz cz z hz (by omega)).mono ?_;rintro e w1 ⟨a0,c0,rfl,hown0,hb1⟩;have hI1:=HIb w w1 Z HI0.out (RZ hb1 _);go_wp2_with fail;go_loopw [2,25] (λzv iv wr=>∃(k:Nat) (B:OA) (cq:Nat) (Y:Lz) (σ:σ),k<=nt/\iv = cG k/\zv = .slice B Y.length cq/\Hid (Y=z ++ (t.take k).filter (λx=>decide (¬ x ∈ z))) /\
   wr.ownsRow w.heap.size 3 1 (.slice B Y.length cq) Y.length (Y.map (Value.int .i64))/\Hid (I wr σ)/\Hid (aB w wr (J Z) (J σ))/\Hid (B ≠ none->¬ J σ (ablk B)) /\
   Hid (KB=gT F s Y ((t.drop k).filter (λx=>decide (¬ x ∈ z))) (val σ))/\Y.length<=nz+k)
  (λ_ iv _=>nt - (intOf iv).toNat)
 case atStart =>
  refine ⟨0,a0,c0,z,Z,Nb _,rfl,rfl,?_,hown0,hI1,RZ hb1 _,?_,?_,by rw [Hzl.out];omega⟩
  ·show _=_;simp
  ·show a0 ≠ none->_
   intro ha hj
   have h1:=HJ w Z _ HI0.out hj
   have h2:=(aP hown0 ha).1
   omega
  ·show _=_;rw [O9];exact HKB
 case round =>
  obtain ⟨k,B,cq,Y,σ,hk,rfl,rfl,hzc,hop,hI,hM,hap,hkb,hzn⟩:=hrel
  generalize wr=U at *
  by_cases hlt:k<nt
  ·have htU:=(HS U σ hI.out).2
   have hsU:=(HS U σ hI.out).1
   have ck:=htU.cell k hlt
   obtain ⟨hzi,_⟩:=RW hop
   have hktl:k<t.length:=by rw [Htl.out];exact hlt
   have Htk:=Z5 (show t.take (k+1)=t.take k ++ [nth t k] from rZ t hktl)
   have Hdk:=Z5 (show t.drop k=nth t k :: t.drop (k+1) by rw [an hktl];exact NX hktl)
   have Hzm:Hid (nth t k ∈ Y ↔ nth t k ∈ z):=by
    show _ ↔ _;rw [hzc.out,NW,OT];constructor
    ·rintro (h | h)
     ·exact h
     ·exfalso;have hn:(t.take k ++ t.drop k).Nodup:=by rw [QX];exact Htn
      rw [Oj] at hn;exact hn.2.2 _ h.1 (nth t k) (by rw [Hdk.out];simp) rfl
    ·exact .inl
   by_cases N:nth t k ∈ z
   ·have hmd:decide (nth t k ∈ Y)=true:=by simpa using Hzm.2 N
    have j:=Z5 (bS B Y.length cq Y (nth t k) U hzi)
    rw [hmd] at j
    have A:Hid (Y=z ++ (t.take (k+1)).filter (λx=>decide (¬ x ∈ z))):=by show _=_;rw [Htk.out,Pk,Pb (by simpa using N),Pp,OS];exact hzc
    have S:Hid (KB=gT F s Y ((t.drop (k+1)).filter (λx=>decide (¬ x ∈ z))) (val σ)):=by show _=_;rw [hkb.out,Hdk.out,Pb (by simpa using N)]
    clear N hmd
    go_wp2_with fail
    refine j.mono ?_
    rintro e w6 ⟨rfl,rfl⟩
    go_wp2_with fail
    go_roundw
    case rel=>exact ⟨k+1,B,cq,Y,σ,by omega,by go_num,rfl,A,hop,hI,hM,hap,S,by omega⟩
    case measure=>simp [intOf]<;>omega
   ·have hmd:decide (nth t k ∈ Y)=false:=by simpa using λh=>N (Hzm.1 h)
    have j:=Z5 (bS B Y.length cq Y (nth t k) U hzi)
    rw [hmd] at j
    have A:Hid (Y ++ [nth t k]=z ++ (t.take (k+1)).filter (λx=>decide (¬ x ∈ z))):=by show _=_;rw [Htk.out,Pk,Pc (by simpa using N),Pp,<- Oa,<- hzc.out]
    have S:Hid (KB=if (F (s ++ [nth t k]) Y (val σ)).1=0 then gT F s (Y ++ [nth t k]) ((t.drop (k+1)).filter (λx=>decide (¬ x ∈ z))) (F (s ++ [nth t k]) Y (val σ)).2 else ((F (s ++ [nth t k]) Y (val σ)).1,[])):=by show _=_;rw [hkb.out,Hdk.out,Pc (by simpa using N),gT]
    have HFk:=Z5 (λV σ a1 c1 a2 c2=>HF V σ a1 c1 a2 c2 k Y hlt hzc.out N)
    have hszU:=hM.size
    clear N hmd
    go_wp2_with fail
    refine j.mono ?_
    rintro e w6 ⟨rfl,rfl⟩
    go_wp2_with fail
    refine (cZ sa ns cs s hsU (by omega)).mono ?_
    rintro e w7 ⟨a7,c7,rfl,K,hb7⟩
    rw [Hsl.out] at K
    rw [Hsl.out]
    obtain ⟨x,hx⟩:∃x,nth t k=x:=⟨_,rfl⟩
    rw [hx] at ck A S HFk Htk Hdk Hzm j ⊢
    have hcn:=bh w7 (cG x) 3
    have Q:=aD w7 (.cells #[cG x] 3)
    go_wp2_with (at_builtin;refine bd rfl _ _ 22 3 rfl (cG 0) 8 underlying22 br rfl w6.heap.size a7 ns c7 _ rfl (K.alloc _) ⟨w7.heap.size,0,none⟩ 1 (cG x) rfl hcn rfl (by omega) (by unfold maxLen;omega) (Np hb7.size Q.size) ?_;intro a8 c8 w8 hown8 hgr8 hap8)
    have hb68:SJ w6 w8:=RY (RU hb7 Q) (K.alloc _) hgr8 (M4 _) (Np hb7.size Q.size)
    have own8:w8.ownsRow w6.heap.size 3 1 (.slice a8 (ns+1) c8) (ns+1) ((s ++ [x]).map (Value.int .i64)):=by simpa using hown8
    have hz8:=hzi.ai hb68
    clear K hown8 hgr8 hap8 hcn Q
    go_wp2_with fail
    refine (cZ B Y.length cq Y hz8 (by omega)).mono ?_
    rintro e w9 ⟨a9,c9,rfl,C,hb9⟩
    have hb69:=RU hb68 hb9
    have hI9:=HIb w6 w9 σ hI.out (RZ hb69 _)
    have hM9:aB w w9 (J Z) (J σ):=hM.oH (hb69.mono hszU)
    have hs9:=(RW own8).1.ai hb9
    have hz9:=(RW C).1
    have hn8:¬ J σ (ablk a8):=λhj=>by have h1:=HJ w6 σ _ hI.out hj;have h2:=(ew own8 (by omega)).1;omega
    have hn9:a9 ≠ none->¬ J σ (ablk a9):=λha hj=>by have h1:=HJ w6 σ _ hI.out hj;have h2:=(aP C ha).1;have h3:=hb68.size;omega
    have hopz:=bj hop hb69
    have E:=Z5 (HFk w9 σ a8 c8 a9 c9 hI9 hM9 hs9 hz9 hn8 hn9)
    clear HFk hI9 hs9 hz9 hn8 hn9 hz8 own8 C
    generalize F (s ++ [x]) Y (val σ)=FR at *
    obtain ⟨fe,fv⟩:=FR
    dsimp only at E S
    go_wp2_with fail
    refine E.mono ?_
    rintro e D ⟨X,hI',hM',rfl,hval⟩
    have hM10:=Z5 (hM9.trans hM')
    have hapz:B ≠ none->¬ J X (ablk B):=λha=>hM'.not (aP hopz ha).2 (hap ha)
    have hopq:=hM'.own hopz hap.out
    have Hapz:=Z5 hapz
    have HI':=Z5 hI'
    clear E hM9 hM' hapz hI' hopz
    by_cases r:fe=0
    ·have Hval:Hid (val X=fv):=hval r
     subst r
     rw [M7 rfl] at S
     have hcn:=bh D (cG x) 3
     have Q:=aD D (.cells #[cG x] 3)
     have H:=hM10.size
     clear hval
     go_wp2_with (at_builtin;refine bd rfl _ _ 22 3 rfl (cG 0) 8 underlying22 br rfl w.heap.size B Y.length cq _ rfl (hopq.alloc _) ⟨D.heap.size,0,none⟩ 1 (cG x) rfl hcn rfl (by omega) (by unfold maxLen;omega) (Np H Q.size) ?_;intro a11 c11 w11 hown11 hgr11 hap11)
     go_roundw
     case rel =>
      have hb11:Below w.heap.size D w11:=RY (Q.mono H) (hopq.alloc _) hgr11 (M4 _) (Np H Q.size)
      have hK:aB D w11 (λb=>w.heap.size<=b/\¬ J X b) (λb=>w.heap.size<=b/\¬ J X b):=(RZ Q _).trans (Se hgr11 λha=>⟨(aP hopq ha).1,Hapz ha⟩)
      refine ⟨k+1,a11,c11,Y ++ [x],X,by omega,by go_num,by simp,A,by simpa using hown11,HIb D w11 X HI'.out hK,hM10.oH hb11,?_,?_,by simp;omega⟩
      ·show a11 ≠ none->_
       intro ha hj
       have h1:=HJ D X _ HI'.out hj
       have h2:dq B (ablk a11):=by
        by_cases h0:B=none
        ·exact .inl h0
        ·exact .inr λe=>Hapz h0 (by rw [e];exact hj)
       rcases hap11 _ (Nz h1 Q.size) h2 with h3 | h3
       ·exact ha h3
       ·exact h3 rfl
      ·show _=_
       rw [S.out,Hval.out]
     case measure=>simp [intOf]<;>omega
    ·have hfe':(fe != 0)=true:=by simpa using r
     have Hk2:Hid (KB=(fe,[])):=by show _=_;rw [S.out,M8 r]
     have Hfe:=Z5 r
     clear r hval
     go_wp2_with fail
     go_ret
     exact ⟨X,HI',hM10,by rw [Hk2.out];rfl,λh0=>absurd (by rw [Hk2.out] at h0;exact h0) Hfe.out⟩
  ·obtain rfl:k=nt:=by omega
   have Hf:Hid (KB=(0,val σ)):=by show _=_;rw [hkb.out,Ob (by rw [Htl.out];exact M4 _),Pp,gT]
   go_wp2_with fail
   go_ret
   exact ⟨σ,hI,hM,by rw [Hf.out];rfl,λ_=>by rw [Hf.out]⟩
theorem qg {w:ej} {b:Nat} {G:bX} (h:dg w b G) :
  Calls prog 63 #[ea b 0] w λe w'=>e = .returned (cG (G.q:Nat))/\w=w':=by have Z:=h.cq;go_enter func63,ntmps63;go_wp2;go_ret;exact ⟨rfl,rfl⟩
theorem mW (L:ZZ) {r:Nat} (h:r<L.length):L.drop r=aj L r :: L.drop (r+1):=by rw [aH h];exact NX h
def Ca (J:List WX->ej->Prop) (I:Nat->Prop) (W0:ej) (G:bX) (Bc Bat By Bg Bf n N:Nat) (R:ZZ) (r:Int) (d:Nat):Prop :=
 ∀(Z:OA) (Y:Nat) (u:Lz) (pre:List WX) (W:ej),aB W0 W I I->J pre W->(∀x ∈ pre,ablk x.a ≠ Bat) ->
  zL W Bat pre.length->Ints W Z n u->(∀j,I j->j ≠ ablk Z)->(∀x ∈ u,G.El x)->pre.length+G.q ^ d<=N ->
  Calls prog 251 #[cG r,.slice Z n Y,ea Bc 0,ea Bat 0,ea By 0,ea Bg 0,ea Bf 0] W
   λe V=>e = .returned (.bool true)/\∃xs:List WX,xs.map WX.l=wlkS G.ops G.q R u/\J (pre ++ xs) V/\(∀x ∈ pre ++ xs,ablk x.a ≠ Bat)/\zL V Bat (pre ++ xs).length/\aB W V I I
theorem wi {W0:ej} {b:Nat} {G:bX} {Bc Bat By Bg Bf l:Nat} {ag:OA} {k cg n:Nat} {L:ZZ} {I:Nat->Prop}
  (J:List WX->ej->Prop) (hIB:I Bat) (hIl:∀x,I x->x<W0.heap.size)
  (HE:∀V,aB W0 V I I->Lx V b G Bc Bat By Bg Bf l ag k cg L)
  (hJa:∀pre V V',J pre V->SJ V V'->J pre V')
  (N:Nat) (hn:n<=1000000) (hn1:1<=n) (hL:bz G.El n L) (hk6:k<=1000000) (hops:qV G.ops G.El) (d r:Nat) (hrd:r+(d+1)=k)
  (hI:Ca J I W0 G Bc Bat By Bg Bf n N (L.drop (r+1)) ((r:Int)+1) d):Ca J I W0 G Bc Bat By Bg Bf n N (L.drop r) r (d+1):=by
 intro au cu u pre W hW hJ hp hat hu hau hue hcnt;obtain rfl:u.length=n:=hu.len;have hrk:r<k:=by omega
 have E:=HE W hW;have hLl:L.length=k:=E.lL.len;have hq2:2<=G.q:=E.gf.q2;have hq256:G.q<=256:=E.gf.q256;have Hdrop:Hid (L.drop r=aj L r :: L.drop (r+1)):=mW L (by omega);have Hcnt:=Z5 hcnt;have HI:=Z5 hI;have HJa:=Z5 hJa;have HHE:=Z5 HE;have HIl:=Z5 hIl;have Hau:=Z5 hau;have Hue:=Z5 hue;have HL:=Z5 hL;have Hp:=Z5 hp;have HLl:=Z5 hLl;have Hhat:=Z5 hat;obtain ⟨cgen,hmat,cyl,cgp,hgf,cfr,hltB⟩:=E;have hne:(decide ((r:Int)=(k:Int)))=false:=by simp;omega
 clear hmat cyl cfr hltB hcnt hI hJa HE hIl hau hue hL hp hat hLl;go_enter func251,ntmps251;go_wp2_with (go_at_call 63;refine (qg hgf).mono ?_;rintro e w' ⟨rfl,rfl⟩);go_loopw [29] (λiv wr=>∃(t:Nat) (xs:List WX),t<=G.q/\iv = cG t/\xs.map WX.l=oZ G.ops G.q (aj L r) (L.drop (r+1)) u t/\J (pre ++ xs) wr/\Hid (∀x ∈ pre ++ xs,ablk x.a ≠ Bat) /\
   Hid (zL wr Bat (pre ++ xs).length)/\aB W wr I I) (λiv _=>G.q - (intOf iv).toNat)
 case atStart=>exact ⟨0,[],Nb _,rfl,by simp [oZ],by rw [OS];exact hJ,by rw [OS];exact Hp.out,by rw [OS];exact Hhat.out,Sb _ _⟩
 case round =>
  obtain ⟨t,xs,ht,rfl,hxs,hJx,hpx,hatx,hmx⟩:=hrel
  by_cases hlt:t<G.q
  ·generalize wr=X1 at *
   have B:=hW.trans hmx
   have hux:Ints X1 au u.length u:=hu.cQ hmx (λ_ h=>Hau _ h rfl)
   have EX:=HHE X1 B
   obtain ⟨ar,mr,cr,hrow,hrI⟩:=EX.lL.cell r (by omega)
   have Hxs:=Z5 hxs
   clear hxs
   have D:(aj L r).length=u.length:=(HL _ (jy (by rw [HLl.out];exact hrk))).1
   obtain rfl:mr=u.length:=by rw [<- D];exact hrI.len.symm
   have HrI:=Z5 hrI
   have hplG:=EX.lL.pl
   go_wp2_with (go_at_call 115;refine (cZ au u.length cu u hux hn).mono ?_;rintro e w4 ⟨a4,c4,rfl,ho4,hb4⟩;have E4:=HHE w4 (B.trans (RZ hb4 I));have g4:=E4.gen;have r4:=(hb4.cell (p:=⟨ablk ag,aN ag+r,none⟩) (Nf _ _ hrow)).trans hrow)
   have hNl:=jL G.ops u t (aj L r) D
   have hrE:∀x ∈ aj L r,G.El x:=(HL _ (jy (by rw [HLl.out];exact hrk))).2
   have hte:G.El (t:Int):=⟨by omega,by omega⟩
   have hNe:=Ds hops Hue.out hrE hte D
   have hNth:∀j,j<u.length->nth (gO G.ops u t (aj L r)) j=if (t:Int) ≠ 0/\nth (aj L r) j ≠ 0 then G.add (nth u j) (G.mul t (nth (aj L r) j)) else nth u j:=by
    intro j hj;by_cases h0:(t:Int)=0
    ·rw [M8 (λh=>h.1 h0)];unfold gO;rw [M7 h0]
    ·rw [tE G.ops u t _ j D hj h0];by_cases h1:nth (aj L r) j=0
     ·rw [M7 h1,M8 (λh=>h.2 h1)]
     ·rw [M8 h1,M7 ⟨h0,h1⟩];rfl
   have HNl:=Z5 hNl
   have HNe:=Z5 hNe
   have HNth:=Z5 hNth
   have HrE:=Z5 hrE
   have Hrl:=Z5 D
   have Hsuc:Hid (oZ G.ops G.q (aj L r) (L.drop (r+1)) u (t+1)=oZ G.ops G.q (aj L r) (L.drop (r+1)) u t ++ wlkS G.ops G.q (L.drop (r+1)) (gO G.ops u t (aj L r))):=Bt _ _ _ _ _ _
   have hlX:Hid (X1.heap.size ≥ W0.heap.size):=B.size
   have Hr:Hid (Ints X1 ar u.length (aj L r)):=hrI
   clear hNl hNe hNth hrE D hux EX E4 g4 r4 hrI HrI hplG
   generalize gO G.ops u t (aj L r)=Nw at *
   generalize hRo:aj L r=Ro at *
   have HRo:=Z5 hRo
   clear hRo
   go_loopw [40] (λiv wr=>∃Z:Nat,Z<=u.length/\iv = cG Z/\wr.ownsRow X1.heap.size 3 1 (.slice a4 u.length c4) u.length ((eJ Nw u Z).map (Value.int .i64))/\SJ X1 wr) (λiv _=>u.length - (intOf iv).toNat)
   case atStart=>exact ⟨0,Nb _,rfl,by rw [dX];exact ho4,hb4⟩
   case round =>
    obtain ⟨Z,hkk,rfl,Y,U⟩:=hrel
    have Er:=HHE wr (B.trans (RZ U I))
    by_cases S:Z<u.length
    ·have hir:=Hr.ai U
     have hpr:=hir.pl
     have cir:=hir.cell Z S
     have F:Nw.length=u.length:=HNl.out
     have X:=HNth Z S
     have Q:=dS Nw u Z Z F (by omega)
     rw [M8 (by omega)] at Q
     by_cases hz:(t:Int) ≠ 0/\nth Ro Z ≠ 0
     ·rw [M7 hz] at X
      have C:=dU Nw u Z F S
      rw [X] at C
      have Hset:=Z5 C
      obtain ⟨K,hmv⟩:=RW Y
      have hpv:=K.pl
      have cv1:=K.cell Z S
      have fv1:=(hmv (by omega)).2 Z S
      rw [Q] at cv1
      have elu:G.El (nth u Z):=Hue _ (aG S)
      have elr:G.El (nth Ro Z):=HrE _ (aG (by rw [Hrl.out];exact S))
      have cgr:=Er.gp
      have hGr:=Er.gf
      have elm:∀x y,G.El (G.mul x y):=λx y=>Sr hGr x y
      have HG:Hid (dg wr.drew b G/\∀n,dg (wr.drewN n) b G):=⟨hGr.ai (M5 _ _).drew,λn=>hGr.drewN n⟩
      have hz1:((t:Int) != 0)=true:=by simpa using hz.1
      have hz2:(nth Ro Z != 0)=true:=by simpa using hz.2
      have Hiv:=Z5 K
      clear X Q C F hz Er hGr hir K hmv
      go_wp2_with fail
      go_region_law ((first
       | (go_simp;go_at_call 57;((with_reducible refine (lp t (nth Ro Z) HG.out.1 hte elr).mono ?_);rintro e w4 ⟨m4,rfl,rfl⟩))
       | (go_simp;go_at_call 57;((with_reducible refine (lp t (nth Ro Z) (HG.out.2 _) hte elr).mono ?_);rintro e w4 ⟨m4,rfl,rfl⟩))
       | (go_simp;go_at_call 56;((with_reducible refine (Kb (nth u Z) (G.mul t (nth Ro Z)) (HG.out.2 _) elu (elm _ _)).mono ?_);rintro e w4 ⟨m5,rfl,rfl⟩))))
      all_goals (
       go_wp2_with fail
       go_roundw
       case rel =>
        have hdr:bm wr (wr.drewN (1+m4+m5)):=⟨_,rfl⟩
        have h1:=bA (w:=wr.drewN (1+m4+m5)) Y Z S (cG (G.add (nth u Z) (G.mul t (nth Ro Z))))
        rw [<- Ny,Hset.out] at h1
        have hlo:=(aP Y (λe=>by have:=hpv (by omega);rw [e] at this;cases this)).1
        exact ⟨Z+1,by omega,by go_num,h1,(U.trans (hdr.below.mono U.size)).trans ((M5 _ _).setCell (p:=⟨ablk a4,aN a4+Z,none⟩) hlo _)⟩
       case measure=>simp [intOf]<;>omega)
     ·rw [M8 hz] at X
      have H:=la Nw u Z F S X
      have A:=Z5 H
      by_cases h0:(t:Int)=0
      ·have hz1:((t:Int) != 0)=false:=by simpa using h0
       clear X Q H F hz h0 Er
       go_wp2_with fail
       go_roundw
       case rel=>exact ⟨Z+1,by omega,by go_num,by rw [A.out];exact Y,U⟩
       case measure=>simp [intOf]<;>omega
      ·have hz1:((t:Int) != 0)=true:=by simpa using h0
       have hz2:(nth Ro Z != 0)=false:=by
        have:nth Ro Z=0:=by
         by_cases h1:nth Ro Z=0
         ·exact h1
         ·exact absurd ⟨h0,h1⟩ hz
        simpa using this
       clear X Q H F hz h0 Er
       go_wp2_with fail
       go_roundw
       case rel=>exact ⟨Z+1,by omega,by go_num,by rw [A.out];exact Y,U⟩
       case measure=>simp [intOf]<;>omega
    ·obtain rfl:Z=u.length:=by omega
     rw [eD Nw u _ HNl.out rfl] at Y
     have hMr:aB X1 wr I I:=RZ U I
     have hfr:=Er.fr
     have hJr:=HJa _ _ _ hJx U
     have hatr:zL wr Bat (pre ++ xs).length:=zL.ai hatx.out U
     obtain ⟨K,_⟩:=RW Y
     have hblk:∀j,I j->j ≠ ablk a4:=λj hj=>by have h1:=HIl j hj;have h2:=(aP Y (λe=>by have:=K.pl (by omega);rw [e] at this;cases this)).1;have h3:X1.heap.size ≥ W0.heap.size:=hlX;omega
     have hxl:xs.length=t * G.q ^ d:=by have h1:=congrArg List.length Hxs.out;rw [No,xw,OK,HLl.out,show k - (r+1)=d by omega] at h1;exact h1
     have z:(pre ++ xs).length+G.q ^ d<=N:=by have h1:=Hcnt.out;have h2:(t+1) * G.q ^ d<=G.q * G.q ^ d:=Q7 _ (by omega);rw [Pf,Oz] at h1;rw [PT,RI] at h2;rw [Ni,hxl];omega
     have Hc:=Z5 (HI a4 c4 Nw (pre ++ xs) wr (B.trans hMr) hJr hpx.out hatr K hblk HNe.out z)
     clear K hblk hxl z hatr hJr Er
     go_wp2_with (go_at_call 251;refine Hc.mono ?_;rintro e V ⟨rfl,xs2,hx2,hJ2,hp2,hat2,hm2⟩)
     have Hx2:=Z5 hx2
     have Hp2:=Z5 hp2
     have Hat2:=Z5 hat2
     clear hx2 hp2 hat2
     go_wp2_with fail
     go_roundw
     case rel=>exact ⟨t+1,xs ++ xs2,by omega,by go_num,by rw [NT,Hxs.out,Hx2.out,<- Hsuc.out,HRo.out],by rw [<- Oa];exact hJ2,by rw [<- Oa];exact Hp2.out,by rw [<- Oa];exact Hat2.out,hmx.trans (hMr.trans hm2)⟩
     case measure=>simp [intOf]<;>omega
  ·obtain rfl:t=G.q:=by omega
   go_wp2_with fail
   go_ret
   refine ⟨rfl,xs,?_,hJx,hpx,hatx,hmx⟩
   rw [hxs,Hdrop.out];rfl
theorem Ae {W0:ej} {b:Nat} {G:bX} {Bc Bat By Bg Bf l:Nat} {ag:OA} {k cg n:Nat} {L:ZZ} {I:Nat->Prop}
  (J:List WX->ej->Prop) (M:Nat->Prop) (H:∀x,M x->I x) (S:I Bat) (Q:¬ M Bat) (X:∀x,I x->x<W0.heap.size)
  (D:∀V,aB W0 V I I->Lx V b G Bc Bat By Bg Bf l ag k cg L)
  (U:∀pre V V',J pre V->SJ V V'->J pre V')
  (K:∀pre V v,(∀x ∈ pre,ablk x.a ≠ Bat)->J pre V->J pre (V.setCell ⟨Bat,0,none⟩ v))
  (N:Nat)
  (hY:∀m pre x V,aB W0 V I I->J pre V->pre.length<N->Ints V x.a n x.l->(∀j,I j->j ≠ ablk x.a)->Mb l n J M m pre x V)
  (hN:N<=1000000) (C:n<=1000000) (Y:1<=n) (hL:bz G.El n L) (F:k<=1000000) (Z:qV G.ops G.El):∀(d r:Nat),r+d=k ->
   Ca J I W0 G Bc Bat By Bg Bf n N (L.drop r) r d
 | 0,r,z=>by obtain rfl:r=k:=z;intro au cu u pre W hW hJ hp A hu B hue E;refine (xO J M H S Q X D U K N hY hN C Y au cu u pre W hW hJ hp A hu B (by rw [Nat.pow_zero] at E;omega)).mono ?_;rintro e V ⟨he,xs,h1,h2⟩;refine ⟨he,xs,?_,h2⟩;rw [h1,Ob (by rw [(D W hW).lL.len];exact M4 _)];rfl
 | d+1,r,z=>wi J S X D U N C Y hL F Z d r z (Ae J M H S Q X D U K N hY hN C Y hL F Z d (r+1) (by omega))
section
open Go.RowKit
end
section
open Go.RowKit
end
theorem F7 {w:ej} {b:Nat} {G:bX} (q:Nat) (x:Int) (X:w.cell? ⟨q,0,none⟩=some (ea b 0)) (h:dg w b G) :
  Calls prog 144 #[cG x,ea q 0] w λe w'=>e = .returned (.bool (!(decide (0<=x) && decide (x<G.q))))/\w=w':=by
 go_enter func144,ntmps144;go_wp2_with fail;refine (Mc x h).mono ?_;rintro e w' ⟨rfl,rfl⟩;obtain ⟨z,Z⟩:∃z,(decide (0<=x) && decide (x<G.q))=z:=⟨_,rfl⟩
 have Y:=Z5 Z;rw [Z];clear Z;cases z
 ·go_wp2_with fail;go_ret;exact ⟨ba (by rw [Y.out];rfl),rfl⟩
 ·go_wp2_with fail;go_ret;exact ⟨ba (by rw [Y.out];rfl),rfl⟩
theorem Ak (p:Int->Bool) (q:Nat) (a:OA) (n c:Nat) (l:Lz) (w:ej) (hi:Ints w a n l) (K:∀k,k<n->Calls prog 144 #[cG (nth l k),ea q 0] w λe w'=>e = .returned (.bool (p (nth l k)))/\w=w') :
  Calls prog 111 #[.slice a n c,.func (.func 144) #[] #[ea q 0]] w λe w'=>∃z:Int,e = .returned (cG z)/\(0<=z ↔ l.any p=true)/\w=w':=by
 have F:=hi.pl;have V:=hi.max;have E:=Z5 K;have H:=Z5 hi.len;unfold maxLen at V;clear K;go_enter func111,ntmps111;go_wp2_with fail;go_loop [8] (λN=>∃k:Nat,k<=n/\N = cG k/\Hid (∀j,j<k->p (nth l j)=false)) (λN=>n - (intOf N).toNat);case atStart=>exact ⟨0,Nb _,rfl,λj Q=>by omega⟩
 case round =>
  obtain ⟨k,A,rfl,Y⟩:=hrel
  by_cases X:k<n
  ·have B:=hi.cell k X
   have Z:=E k X
   obtain ⟨z,U⟩:∃z,p (nth l k)=z:=⟨_,rfl⟩
   rw [U] at Z
   have I:=Z5 Z
   cases z
   ·have C:Hid (∀j,j<k+1->p (nth l j)=false):=λj Q=>by
     by_cases e:j=k
     ·subst e;exact U
     ·exact Y j (by omega)
    clear U Z Y
    go_wp2_with fail
    refine I.mono ?_
    rintro e w' ⟨rfl,rfl⟩
    go_wp2_with fail
    go_round
    case rel=>exact ⟨k+1,by omega,by go_num,C⟩
    case measure=>simp [intOf]<;>omega
   ·have S:Hid (l.any p=true):=by show _=_;rw [PG];exact ⟨nth l k,aG (by rw [H.out];exact X),U⟩
    clear U Z Y
    go_wp2_with fail
    refine I.mono ?_
    rintro e w' ⟨rfl,rfl⟩
    go_wp2_with fail
    go_ret
    exact ⟨k,rfl,⟨λ_=>by first|exact S.out|exact List.any_eq_true.1 S.out,λ_=>Pj _⟩,rfl⟩
  ·obtain rfl:k=n:=by omega
   have S:Hid (l.any p=false):=by show _=_;rw [P0];intro x D;obtain ⟨j,Q,rfl⟩:=List.mem_iff_getElem.1 D;have:=Y j (by rw [<- H.out];exact Q);rw [an Q] at this;rw [this];decide
   go_wp2_with fail
   go_ret
   exact ⟨-1,rfl,⟨λh=>absurd h (by omega),λh=>by have h2:l.any p=true:=(by first|exact h|exact List.any_eq_true.2 h);rw [S.out] at h2;exact absurd h2 (by decide)⟩,rfl⟩
theorem tw (p:Int->Bool) (q:Nat) (a:OA) (n c:Nat) (l:Lz) (w:ej) (hi:Ints w a n l) (V:∀k,k<n->Calls prog 144 #[cG (nth l k),ea q 0] w λe w'=>e = .returned (.bool (p (nth l k)))/\w=w') :
  Calls prog 53 #[.slice a n c,.func (.func 144) #[] #[ea q 0]] w λe w'=>e = .returned (.bool (l.any p))/\w=w':=by
 have U:=Z5 (Ak p q a n c l w hi V);clear V;go_enter func53,ntmps53;go_wp2_with fail;refine U.mono ?_;rintro e w' ⟨z,rfl,Z,rfl⟩;by_cases h0:0<=z
 ·have Y:Hid (l.any p=true):=Z.1 h0;have X:decide (0<=z)=true:=by simpa using h0
  clear Z h0;go_wp2_with fail;go_ret;exact ⟨ba Y.symm,rfl⟩
 ·have Y:Hid (l.any p=false):=by
   show _=_;cases h:l.any p
   ·rfl
   ·exact absurd (Z.2 h) h0
  have X:decide (0<=z)=false:=by simpa using h0
  clear Z h0;go_wp2_with fail;go_ret;exact ⟨ba Y.symm,rfl⟩
theorem xX (q:Int) (l:Lz):l.any (λx=>!(decide (0<=x) && decide (x<q))) = !(fC q l):=by
 unfold fC;induction l with
 | nil=>rfl
 | cons x l Z =>
  rw [List.any_cons,Qx,Z]
  unfold jx
  cases (decide (0<=x) && decide (x<q))<;>simp
theorem uh (P M:Int) (am:OA) (K B:Nat) (mod:Lz) (A:OA) (Z cx:Nat) (x:Lz) (n:Nat) (w:ej) (N:Ints w am K mod) (hx:Ints w A Z x) (hB:bw P M mod=true) :
  Calls prog 89 #[.agg #[cG P,cG M,.slice am K B],.slice A Z cx,cG n] w λe w'=>e = .returned (cG (uz (ah P M.toNat mod).q x n))/\SJ w w':=by
 have V:=hx.len;go_enter func89,ntmps89;go_upto_region 1 with fail;obtain ⟨W,C⟩:∃W:ej,W=w.alloc (.cells #[cG P,cG M,.slice am K B] 24):=⟨_,rfl⟩
 rw [<- C];have U:SJ w W:=by rw [C];exact aD _ _
 have E:aQ W w.heap.size [cG P,cG M,.slice am K B]:=by rw [C];exact RV _ _ _ rfl
 have c0:=E.cell 0 rfl;have c1:=E.cell 1 rfl;have c2:=E.cell 2 rfl;clear C E;by_cases F:Z=n;rotate_left
 ·have hnn:((Z:Int) != n)=true:=by simp;omega
  have I:Hid (uz (ah P M.toNat mod).q x n=4):=by show _=_;rw [uz,M8 (by omega)]
  clear F V;go_wp2_with fail;go_ret;exact ⟨aK I.symm,U⟩
 obtain rfl:Z=n:=F;have hnn:((Z:Int) != Z)=false:=by simp
 have I:Hid (uz (ah P M.toNat mod).q x Z=if fC (ah P M.toNat mod).q x=true then 0 else 2):=by show _=_;rw [uz,M7 V];rfl
 clear V;go_wp2_with fail;refine (dh P M am K B mod W (N.ai U)).mono ?_;rintro e D (⟨H,_,_⟩ | ⟨_,b,rfl,hG,hbl,r⟩)
 ·rw [hB] at H;cases H
 have X:=RU U r;have Q:=aD D (.cells #[ea b 0] 79);have j:=bh D (ea b 0) 79;have Y:=tw (λy=>!(decide (0<=y) && decide (y<(ah P M.toNat mod).q))) D.heap.size A Z cx x _ (hx.ai (RU X Q)) λk hk=>F7 D.heap.size (nth x k) j (hG.gf.ai Q);rw [xX] at Y;obtain ⟨z,hz⟩:∃z,fC (ah P M.toNat mod).q x=z:=⟨_,rfl⟩
 rw [hz] at Y I;have Hc:=Z5 Y;have hF:=RU X Q;have HF:=Z5 hF;clear c0 c1 c2 hG hbl hB hF Y hz;cases z
 ·have S:Hid (uz (ah P M.toNat mod).q x Z=2):=by show _=_;rw [I.out];rfl
  go_wp2_with fail;refine Hc.mono ?_;rintro e w' ⟨rfl,rfl⟩;go_wp2_with fail;go_ret;exact ⟨aK S.symm,HF⟩
 ·have S:Hid (uz (ah P M.toNat mod).q x Z=0):=by show _=_;rw [I.out];rfl
  go_wp2_with fail;refine Hc.mono ?_;rintro e w' ⟨rfl,rfl⟩;go_wp2_with fail;go_ret;exact ⟨aK S.symm,HF⟩
section
variable {O:aL} {El:Int->Prop} {m:Nat} {L:ZZ}
theorem mq {R:ZZ} {r:Lz} (h:r ∈ R):∃j,j<R.length/\aj R j=r:=by obtain ⟨j,Z,e⟩:=List.mem_iff_getElem.1 h;exact ⟨j,Z,by rw [aH Z];exact e⟩
theorem RS.el (F:bQ O El) (Y:bz El m L) {f:Nat->Int} (h:RS O El m L f) {x:Nat} (Z:x<m):El (f x):=by obtain ⟨e,he,h2⟩:=h;rw [h2 x Z];exact he.el _ (dw Y F.zero x)
structure M1 (O:aL) (El:Int->Prop) (m:Nat) (L R:ZZ) (Z:Lz):Prop where
 rws:bz El m R
 sub:eY O El m R L
 zero:∀r ∈ R,∀z ∈ Z,nth r z.toNat=0
 all:∀f,RS O El m L f->(∀z ∈ Z,f z.toNat=0)->RS O El m R f
 cnt:R.length+EP O L Z=L.length
end
section
structure RX where
 a:OA
 c:Nat
 l:Lz
structure fU (A:Nat->Prop) (w:ej) (a:OA) (n:Nat) (L:ZZ):Prop where
 len:L.length=n
 pl:Pl a n
 max:n<=maxLen
 no:0<n->¬ A (ablk a)
 cell:∀i,i<n->∃b m c,w.cell? ⟨ablk a,aN a+i,none⟩=some (.slice b m c)/\Ints w b m (aj L i)/\(0<m->¬ A (ablk b))
theorem fU.lL {A:Nat->Prop} {w:ej} {a:OA} {n:Nat} {L:ZZ} (h:fU A w a n L):bP w a n L :=
 ⟨h.len,h.pl,h.max,λi hi=>by obtain ⟨b,m,c,h1,h2,_⟩:=h.cell i hi;exact ⟨b,m,c,h1,h2⟩⟩
theorem fU.cQ {A Y:Nat->Prop} {w w':ej} {a:OA} {n:Nat} {L:ZZ} (h:fU A w a n L) (Z:aB w w' A Y):fU A w' a n L :=
 ⟨h.len,h.pl,h.max,h.no,λi hi=>by obtain ⟨b,m,c,h1,h2,h3⟩:=h.cell i hi;exact ⟨b,m,c,Z.cell h1 (h.no (by omega)),h2.cQ Z h3,h3⟩⟩
theorem fU.ai {A:Nat->Prop} {w w':ej} {a:OA} {n:Nat} {L:ZZ} (h:fU A w a n L) (hb:SJ w w'):fU A w' a n L:=h.cQ (RZ hb A)
theorem fU.G3 {A:Nat->Prop} {w:ej} {a:OA} {n:Nat} {L:ZZ} (h:bP w a n L) (Y:∀b,A b->w.heap.size<=b):fU A w a n L :=
 ⟨h.len,h.pl,h.max,λX Z=>by have:=Y _ Z;have:=h.lt X;omega,λi hi=>by obtain ⟨b,m,c,h1,h2⟩:=h.cell i hi;exact ⟨b,m,c,h1,h2,λhm Z=>by have:=Y _ Z;have:=h2.lt hm;omega⟩⟩
variable {w:ej} {b:Nat} {G:bX}
end
def BW (P M:Int) (am:OA) (Y X:Nat) (mod:Lz) (N:Int) (a:OA) (n c:Nat) (L:ZZ) (W:Int) (w:ej) (e:Ending) (w':ej):Prop :=
 SJ w w'/\((aI P M mod N L ≠ 0/\e = ec #[.pointer none,cG (aI P M mod N L)]) \/
 (aI P M mod N L=0/\∃(b:Nat) (Z:ej),e = ec #[ea Z.heap.size 0,cG 0]/\SJ w Z/\dg Z b (ah P M.toNat mod)/\SJ Z w' /\
  aQ w' Z.heap.size [ea b 0,cG P,cG M,.slice am Y X,cG N,.slice a n c,ds,.bool false,cG 0,cG W,ds,cG 0]))
theorem Bh (P M:Int) (am:OA) (Q K:Nat) (mod:Lz) (N:Int) (a:OA) (n c:Nat) (L:ZZ) (W:Int) (w:ej) (S:Ints w am Q mod) (hi:bP w a n L) :
  Calls prog 182 #[.agg #[cG P,cG M,.slice am Q K,cG N,.slice a n c],cG W] w (BW P M am Q K mod N a n c L W w):=by
 go_enter func182,ntmps182;go_wp2_with fail;obtain ⟨U,F⟩:∃U:ej,U=w.alloc (.cells #[cG P,cG M,.slice am Q K,cG N,.slice a n c] 27):=⟨_,rfl⟩
 rw [<- F];have V:SJ w U:=by rw [F];exact aD _ _
 have z:aQ U w.heap.size [cG P,cG M,.slice am Q K,cG N,.slice a n c]:=by rw [F];exact RV _ _ _ rfl
 have j:=Z5 z;clear F z;refine (cH P M am Q K mod N a n c L U (S.ai V) (hi.ai V)).mono ?_;rintro e w1 ⟨rfl,X⟩;have Z:=RU V X;by_cases I:aI P M mod N L=0
 ·obtain ⟨A,_⟩:=aX I;have C:=Z5 I;have Hf:=Z5 A;rw [I];have D:=j.ai X;have c0:=D.cell 0 rfl;have c1:=D.cell 1 rfl;have c2:=D.cell 2 rfl;have B:=(S.ai V).ai X;clear I D A;go_wp2_with fail;refine (dh P M am Q K mod w1 B).mono ?_;rintro e r (⟨E,rfl,Y⟩ | ⟨E,b,rfl,hG,hbl,Y⟩)
  ·rw [Hf.out] at E;cases E
  ·clear E;have hg:=hG.gf;have H:=(j.ai X).ai Y;have e0:=H.cell 0 rfl;have e1:=H.cell 1 rfl;have e2:=H.cell 2 rfl;have e3:=H.cell 3 rfl;have e4:=H.cell 4 rfl;clear H c0 c1 c2;go_wp2_with fail;go_ret2;exact ⟨RU (RU Z Y) (aD _ _),.inr ⟨C,b,r,rfl,RU Z Y,hg,aD _ _,RV r [ea b 0,cG P,cG M,.slice am Q K,cG N,.slice a n c,ds,.bool false,cG 0,cG W,ds,cG 0] _ rfl⟩⟩
 ·have C:=Z5 I;have hE':(aI P M mod N L != 0)=true:=by simpa using I
  clear I;go_wp2_with fail;go_ret2;exact ⟨Z,.inl ⟨C,rfl⟩⟩
def J4 (P M:Int) (am:OA) (U S:Nat) (mod:Lz) (m:Nat) (a:OA) (n c:Nat) (L:ZZ) (Y:OA) (V cy:Nat) (C:kW) (w w':ej) (X:Nat):Prop :=
 ∃(b:Nat) (Z:ej),X=Z.heap.size/\SJ w Z/\Ce Z b (ah P M.toNat mod) a n L m Y V C/\SJ Z w'/\aQ w' X (mT b P M am U S m a n c Y V cy C ds 0)
def cmpL:Lz->Lz->Int
 | [],[]=>0
 | [],_ :: _=>-1
 | _ :: _,[]=>1
 | x :: a,y :: b=>if x<y then -1 else if y<x then 1 else cmpL a b
def qy (a b:Lz):Bool:=decide (a.length<b.length) || (decide (a.length=b.length) && decide (cmpL a b<0))
theorem mG {a b:Lz}:qy a b=true ↔ a.length<b.length\/a.length=b.length/\cmpL a b<0:=by unfold qy;rw [Qe,Nx,NM,NM,NM]
end Go.Proofs.YthglbncgemdcbaaGreat
