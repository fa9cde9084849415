import Derived.Test.YtcfmiocdlcapoaaGreatMCS17
import Derived.Test.YtcfmiocdlcapoaaGreatMCS19
namespace Go.Proofs.YtcfmiocdlcapoaaGreat
set_option linter.all false
set_option maxRecDepth 100000
set_option maxHeartbeats 16000000
open Go.RowKit Go.Proofs.Tryz
def yE (O : aS) (m : Nat) (A B : Ll) : Ll:=A.map λr=>bw O m r B B.length
theorem Fj (P M : Int) (am : OA) (mn cm : Nat) (mod : Lz) (k : Nat) (a : OA) (n c : Nat) (A : Ll) (m : Nat) (ab : OA) (cb : Nat) (B : Ll) (w : World) (hmod : Ints w am mn mod) (hi : ch w a n A) (hb : ch w ab k B)
  (hfB : bp P M mod=true) (hA : cw (ah P M.toNat mod).El k A) (hBr : cw (ah P M.toNat mod).El m B) (hk : k<=64) (hm1 : 1<=m) (hm : m<=64) (hn : n<=64) :
  Calls prog 157 #[.agg #[.int .i64 P,.int .i64 M,.slice am mn cm],.agg #[.int .i64 k,.slice a n c],.agg #[.int .i64 m,.slice ab k cb]] w
   λe w'=>∃a1 c1,e = .returned (.tuple #[.agg #[.int .i64 m,.slice a1 n c1],.int .i64 0])/\cH w.heap.size w' a1 n (yE (ah P M.toNat mod).ops m A B)/\NS w w':=by
 have hAl:=hi.len;have hBl:=hb.len;have F:=fq hfB;have hmE1 : eW (ah P M.toNat mod).q k A=0:=(fo (jP hfB (show k<=256 by omega) (show A.length<=256 by omega) hA)).2;have hmE2 : eW (ah P M.toNat mod).q m B=0:=(fo (jP hfB (show m<=256 by omega) (show B.length<=256 by omega) hBr)).2;have hpla:=hi.pl;obtain ⟨G,hGG⟩ : ∃G,ah P M.toNat mod=G:=⟨_,rfl⟩
 rw [hGG] at hA hBr F hmE1 hmE2 ⊢;obtain ⟨L2,hL2⟩ : ∃L2,yE G.ops m A B=L2:=⟨_,rfl⟩
 have HL2l : Hid (L2.length=n):=by show _=_;rw [<- hL2,yE,Jl];exact hAl
 have HLk : Hid (∀j,j<n->L2.take (j+1)=L2.take j ++ [bw G.ops m (an A j) B k]):=λj hj=>by
  have hj' : j<L2.length:=by rw [HL2l.out];exact hj
  rw [Ja hj',<- aE hj',<- hL2,yE,nL _ A (by omega),hBl]
 rw [hL2];have HAr : Hid (∀j,j<n->(an A j).length=k/\∀x ∈ an A j,G.El x):=λj hj=>hA.row (by omega);have HBr:=Z5 hBr;have HFl:=Z5 F;have HBl:=Z5 hBl;have HB:=Z5 hfB;have HmE:=Z5 (Jg hmE1 hmE2);have HGG:=Z5 hGG;clear hA hBr F hAl hBl hfB hmE1 hmE2 hGG hL2;go_enter func157,ntmps157;go_wp2_with fail;obtain ⟨W,hW⟩ : ∃W : World,W=(((((w.alloc (.cells #[.int .i64 P,.int .i64 M,.slice am mn cm] 24)).alloc (.cells #[.int .i64 k,.slice a n c] 82)).alloc (.cells #[.int .i64 m,.slice ab k cb] 82)).alloc (.cells #[.int .i64 0,.slice none 0 0] 82)).alloc (.cells #[.int .i64 k,.slice a n c,.int .i64 m,.slice ab k cb] 82)):=⟨_,rfl⟩
 rw [<- hW];have hbW : NS w W:=by rw [hW];exact (((((I1 _ _).alloc (IZ _) _).alloc (by simp) _).alloc (by simp;omega) _).alloc (by simp;omega) _).alloc (by simp;omega) _
 have hsW : W.heap.size=w.heap.size+5:=by rw [hW];simp
 have x1 : aZ W (w.heap.size+1) [.int .i64 k,.slice a n c]:=by rw [hW];exact (((Nj _ _ _ (by simp)).alloc _).alloc _).alloc _
 have x2 : aZ W (w.heap.size+1+1) [.int .i64 m,.slice ab k cb]:=by rw [hW];exact ((Nj _ _ _ (by simp)).alloc _).alloc _
 have x3 : aZ W (w.heap.size+1+1+1) [.int .i64 0,.slice none 0 0]:=by rw [hW];exact (Nj _ _ _ (by simp)).alloc _
 have q3 : ∀i v,[Value.int .i64 k,.slice a n c,.int .i64 m,.slice ab k cb][i]? = some v->W.cell? ⟨w.heap.size+1+1+1+1,i,none⟩=some v:=λi v hv=>by
  have h : aZ W (w.heap.size+1+1+1+1) [.int .i64 k,.slice a n c,.int .i64 m,.slice ab k cb]:=by rw [hW];exact Nj _ _ _ (by simp)
  exact h.cell i hv
 have hMs : yh W (some ⟨w.heap.size+1+1+1+1,0,none⟩) 2 [((k : Int),A),((m : Int),B)]:=⟨rfl,λ_=>rfl,by unfold maxLen;omega,λi hi'=>by
  match i,hi' with
  | 0,_=>exact ⟨a,n,c,by simpa using q3 0 _ rfl,by simpa using q3 1 _ rfl,hi.aa hbW⟩
  | 1,_=>exact ⟨ab,k,cb,by simpa using q3 2 _ rfl,by simpa using q3 3 _ rfl,hb.aa hbW⟩⟩
 have HX:=Z5 (Jg x1 (Jg x2 x3));have HsW:=Z5 hsW;have HbW:=Z5 hbW;clear hW hsW x1 x2 x3 q3;refine (nj P M am mn cm mod _ 2 2 _ W (hmod.aa hbW) hMs).mono ?_;rintro e w1 ⟨hb1,hcase⟩;have hms : iG (ah P M.toNat mod).q [((k : Int),A),((m : Int),B)]=0:=by rw [HGG.out];simp [iG,HmE.out.1,HmE.out.2]
 rcases hcase with ⟨hB,_⟩ | ⟨_,er,h0,h1,_⟩ | ⟨_,_,b,rfl,hG,hbl⟩
 ·rw [HB.out] at hB;exact absurd hB (by decide)
 ·rw [hms] at h1;exact absurd h1.symm h0
 rw [HGG.out] at hG;have hbw1:=Nh hbW hb1;have r1:=HX.out.1.aa hb1;have r2:=HX.out.2.1.aa hb1;have m0:=r1.cell 0 rfl;have m1:=r1.cell 1 rfl;have p0:=r2.cell 0 rfl;have p1:=r2.cell 1 rfl;have hkk : ((k : Int) != k)=false:=by simp
 clear hMs hbW r1 r2 hbl hmod hms;go_upto_region 6 with fail;obtain ⟨g,hg⟩ : ∃g,w1.heap.size=g:=⟨_,rfl⟩
 have HGs:=Z5 hg;clear hg;go_cut [10] (λv wx=>v = .pointer (some ⟨w1.heap.size,0,none⟩)/\kB wx w1.heap.size (.int .i64 m) none 0 0 [] []/\NS w1 wx);case first =>
  go_wp2_with fail
  go_meet
  exact ⟨rfl,kB.start (Nj w1 [.int .i64 m,.slice none 0 0] _ rfl),aw _ _⟩
 obtain ⟨rfl,hO0,hbc⟩:=hcut;generalize wc=U at *;have hs3:=HGs.out;rw [hs3] at hO0 ⊢;have HbU:=Z5 (Nh hb1 hbc);have HbU1:=Z5 hbc;have HS : Hid (∀V,NS W V->V.cell? ⟨w.heap.size+1,0,none⟩=some (.int .i64 k)/\V.cell? ⟨w.heap.size+1,1,none⟩=some (.slice a n c)/\V.cell? ⟨w.heap.size+1+1,0,none⟩=some (.int .i64 m)/\V.cell? ⟨w.heap.size+1+1,1,none⟩=some (.slice ab k cb)):=λV hV=>by have r1:=HX.out.1.aa hV;have r2:=HX.out.2.1.aa hV;exact ⟨r1.cell 0 rfl,r1.cell 1 rfl,r2.cell 0 rfl,r2.cell 1 rfl⟩
 clear m0 m1 p0 p1;obtain ⟨m0,m1,p0,p1⟩:=HS.out U HbU.out;have hgU:=hO0.lt;have hgW : W.heap.size<=g:=by have:=hb1.size;omega
 have hw1g : w1.heap.size<=g:=by omega
 clear hbc hs3;go_wp2_with fail;clear m0 m1 p0 p1;go_loopw [38] (λiv wr=>∃(j : Nat) (a1 : OA) (c1 : Nat) (Rr : La),j<=n/\iv = .int .i64 j/\kB wr g (.int .i64 m) a1 j c1 Rr (L2.take j)/\Below g U wr) (λiv _=>n - (intOf iv).toNat);case atStart=>exact ⟨0,none,0,[],I7 _,rfl,by simpa using hO0,I1 _ _⟩
 case round =>
  clear hO0
  obtain ⟨j,a1,c1,Rr,hj,rfl,hO,hbr⟩:=hrel
  have hbWr:=Ju HbU.out (hbr.mono hgW)
  have hbwr:=Nh HbW.out hbWr
  have hb1r : NS w1 wr:=Ju HbU1.out (hbr.mono hw1g)
  have hgr:=hO.lt
  by_cases hltj : j<n
  ·obtain ⟨ra,rn,rc,hcell,hrow⟩:=(hi.aa hbwr).cell j hltj
   have hA:=HAr.out j hltj
   have hrn : rn=k:=by rw [<- hrow.len];exact hA.1
   rw [hrn] at hcell hrow
   have Htk:=Z5 (HLk.out j hltj)
   obtain ⟨l,hl⟩ : ∃l,an A j=l:=⟨_,rfl⟩
   rw [hl] at Htk hrow hA
   have Hvec : Hid (∀V,NS wr V->Calls prog 141 #[.pointer (some ⟨b,0,none⟩),.slice ra k rc,.slice ab k cb,.int .i64 m] V λe w' =>
     ∃a1 c1,e = .returned (.slice a1 m c1)/\w'.ownsRow V.heap.size 3 1 (.slice a1 m c1) m ((bw G.ops m l B k).map (Value.int .i64))/\NS V w'):=λV hV =>
    F6 ra rc l ab k cb B m (hG.aa (Nh hb1r hV)) HFl.out (hrow.aa hV) (hb.aa (Nh hbwr hV)) (λt ht=>hA.2 _ (aK (by rw [hA.1];exact ht))) HBr.out hm1 (by omega) (by omega)
   have hvl : (bw G.ops m l B k).length=m:=(jc HFl.out HBr.out (x:=l) (λt ht=>hA.2 _ (aK (by rw [hA.1,<- HBl.out];exact ht))) k (by rw [HBl.out];exact IZ _)).1.1
   obtain ⟨pk,hpk⟩ : ∃pk,bw G.ops m l B k=pk:=⟨_,rfl⟩
   rw [hpk] at Hvec hvl Htk
   have Hvl:=Z5 hvl
   have Hbr:=Z5 hbr
   have HbWr:=Z5 hbWr
   have HO:=Z5 hO
   have g1:=hO.c1
   obtain ⟨_,_,p0,p1⟩:=HS.out wr hbWr
   clear hl hrn hpk hvl hA hrow hbr hbWr hbwr hb1r hO
   go_wp2_with fail
   go_region_law ((first
    | (go_simp;go_at_call 141;((with_reducible refine (Hvec.out _ (I1 _ _).drew).mono ?_);rintro e w4 ⟨a4,c4,rfl,hown4,hb4⟩;have hb4':=Nh (I1 wr.heap.size wr).drew hb4;have hs4:=HO.out.aa hb4';have g2:=hs4.c1;have g3:=aY hs4.c1 (.cells #[.slice a4 m c4] 22)))
    | (refine bH (by rfl) (.tmp 43) (.tmp 51) 25 22 (by rfl) (.slice none 0 0) 24 underlying25 di (by rfl) (g+1) a1 j c1 (List.zipWith eY Rr (L2.take j)) (by rfl) ((hs4.om.aa (aw _ _)).own) (some ⟨w4.heap.size,0,none⟩) 1 1 [.slice a4 m c4] (by rfl) (λ_=>rfl) rfl (by intro y hy;obtain rfl : y=0:=(by omega);exact bM _ _ _ rfl) (by intro y hy;simp at hy;subst hy;rfl) (by omega) (by unfold maxLen;omega) (by have e2:=hs4.lt;simp;omega) ?_;intro a5 c5 w5 hown5 hgr5 hap5;have k5:=(hs4.jz hgr5).2.1;have f5:=(hs4.jz hgr5).2.2)))
   all_goals (
    go_wp2_with fail
    go_roundw
    case rel =>
     have hra : a4 ≠ none->¬ bS a1 Rr (aj a4):=λh0 hI=>by have h1:=(aM hown4 h0).1;have h2:=(HO.out.om.lt _ hI).2;have h3 : wr.drew.heap.size=wr.heap.size:=rfl;omega
     obtain ⟨hP,hbP⟩:=hs4.push Hvl.out (aU hown4 (show g+1<=wr.drew.heap.size from hgr)) hra hown5 hgr5 hap5
     exact ⟨j+1,a5,c5,_,by omega,by go_num,by rw [Htk.out];exact hP,Ju Hbr.out ((hb4'.mono (by omega)).trans hbP)⟩
    case measure=>simp [intOf] <;> omega)
  ·obtain rfl : j=n:=by omega
   rw [I8 (by rw [HL2l.out];exact IZ _)] at hO
   have g0:=hO.c0
   have g1:=hO.c1
   have z6:=HX.out.2.2.aa hbWr
   have z0:=z6.cell 0 rfl
   have z1:=z6.cell 1 rfl
   have f0:=z6.frozen 0
   have f1:=z6.frozen 1
   have hs:=HsW.out
   have hMN : cH (g+1) wr a1 j L2:=NG hO.om
   have HF:=Z5 (Jg (((hMN.setCell (p:=⟨w.heap.size+1+1+1,0,none⟩) (by simp;omega) (.int .i64 m)).setCell (p:=⟨w.heap.size+1+1+1,1,none⟩) (by simp;omega) (.slice a1 j c1)).mono (show w.heap.size<=g+1 by omega))
    ((hbwr.setCell (p:=⟨w.heap.size+1+1+1,0,none⟩) (by simp;omega) (.int .i64 m)).setCell (p:=⟨w.heap.size+1+1+1,1,none⟩) (by simp;omega) (.slice a1 j c1)))
   clear hMN z6 hO
   go_wp2_with fail
   exact bodyPost_ret (v:=.tuple #[.agg #[.int .i64 m,.slice a1 j c1],.int .i64 0]) (by simp [results,results157,go_sem,z0,z1]) rfl ⟨a1,c1,rfl,HF.out.1,HF.out.2⟩
def jB (P M : Int) (mod : Lz) (N : Int) (L : Ll) (Q : Lz) : Int :=
 if dD P M mod N L Q ≠ 0 then dD P M mod N L Q else if yC P M mod N L Q=true then 0 else 9
def dk (O : aS) (m : Nat) (L : Ll) (Q : Lz) : Ll:=yE O m (jE O (L.map (aQ Q)) Q.length) L
def kd (P M : Int) (mod : Lz) (N : Int) (L : Ll) (Q : Lz) (w : World) (e : Ending) (w' : World) : Prop :=
 NS w w'/\((jB P M mod N L Q ≠ 0/\e = .returned (.tuple #[.agg #[.int .i64 0,.slice none 0 0],.int .i64 (jB P M mod N L Q)])) \/
  (jB P M mod N L Q=0/\∃m : Nat,N=m/\∃a c,e = .returned (.tuple #[.agg #[.int .i64 m,.slice a L.length c],.int .i64 0])/\cH w.heap.size w' a L.length (dk (ah P M.toNat mod).ops m L Q)))
theorem ES {P M : Int} {mod : Lz} {N : Int} {L : Ll} {Q : Lz} (h : yC P M mod N L Q=true) :
  aJ P M mod N L=0/\cF N Q=true/\(gD (ah P M.toNat mod).ops L Q).length=Q.length/\Q.length=L.length:=by
 unfold yC at h;simp only [Jo,JH] at h;obtain ⟨h1,h2,h3⟩:=h;have hE : aJ P M mod N L=0:=by
  unfold dD at h1;split at h1
  ·assumption
  ·rename_i h0;exact absurd h1 h0
 refine ⟨hE,?_,h2,by omega⟩;rw [dD,I6 hE,lz] at h1;split at h1
 ·assumption
 ·omega
theorem rK {O : aS} {El : Int->Prop} (F : dw O El) {D : Ll} {k : Nat} (hD : cw El k D) : cw El k (jE O D k):=λr hr=>by unfold jE at hr;obtain ⟨s,hs,rfl⟩:=List.mem_map.1 hr;have h:=jI F (jX hD (nO F.zero F.one k)) k (by omega) s hs;exact ⟨by rw [Kg,h.1];omega,λx hx=>h.2 x (KV hx)⟩
theorem qW (P M : Int) (am : OA) (mn cm : Nat) (mod : Lz) (N : Int) (a : OA) (n c : Nat) (L : Ll) (ao : OA) (no co : Nat) (Q : Lz) (w : World)
  (hmod : Ints w am mn mod) (hi : ch w a n L) (hq : Ints w ao no Q) :
  Calls prog 99 #[.agg #[.int .i64 P,.int .i64 M,.slice am mn cm,.int .i64 N,.slice a n c],.slice ao no co] w (kd P M mod N L Q w):=by
 have Hql:=Z5 hq.len;have Hil:=Z5 hi.len;go_enter func99,ntmps99;go_wp2_with fail;obtain ⟨W,hW⟩ : ∃W : World,W=(w.alloc (.cells #[.int .i64 P,.int .i64 M,.slice am mn cm,.int .i64 N,.slice a n c] 27)).alloc (.cells #[.int .i64 0,.slice none 0 0] 82):=⟨_,rfl⟩
 rw [<- hW];have hbW : NS w W:=by rw [hW];exact dA _ _ _
 have hsW : W.heap.size=w.heap.size+2:=by rw [hW];simp
 have x0 : aZ W w.heap.size [.int .i64 P,.int .i64 M,.slice am mn cm,.int .i64 N,.slice a n c]:=by rw [hW];exact (Nj _ _ _ rfl).alloc _
 have z0 : aZ W (w.heap.size+1) [.int .i64 0,.slice none 0 0]:=by rw [hW];exact Nj _ _ _ (by simp)
 have hS : ∀V,NS W V->V.cell? ⟨w.heap.size,0,none⟩=some (.int .i64 P)/\V.cell? ⟨w.heap.size,1,none⟩=some (.int .i64 M)/\V.cell? ⟨w.heap.size,2,none⟩=some (.slice am mn cm)/\V.cell? ⟨w.heap.size,3,none⟩=some (.int .i64 N)/\V.cell? ⟨w.heap.size,4,none⟩=some (.slice a n c) /\
   aZ V (w.heap.size+1) [.int .i64 0,.slice none 0 0]:=λV hV=>by have x1:=x0.aa hV;exact ⟨x1.cell 0 rfl,x1.cell 1 rfl,x1.cell 2 rfl,x1.cell 3 rfl,x1.cell 4 rfl,z0.aa hV⟩
 have HS:=Z5 hS;have HbW:=Z5 hbW;have HsW:=Z5 hsW;clear hW x0 z0 hS;refine (Cr P M am mn cm mod N a n c L ao no co Q W (hmod.aa hbW) (hi.aa hbW) (hq.aa hbW)).mono ?_;rintro e w1 ⟨rfl,hb1⟩;have hbw1:=Nh hbW hb1;have hend : ∀er : Int,jB P M mod N L Q ≠ 0->jB P M mod N L Q=er->kd P M mod N L Q w (.returned (.tuple #[.agg #[.int .i64 0,.slice none 0 0],.int .i64 er])) ((w1.setCell ⟨w.heap.size+1,0,none⟩ (.int .i64 0)).setCell ⟨w.heap.size+1,1,none⟩ (.slice none 0 0)):=λer h0 h1 =>
  ⟨(hbw1.setCell (p:=⟨w.heap.size+1,0,none⟩) (by simp) _).setCell (p:=⟨w.heap.size+1,1,none⟩) (by simp) _,.inl ⟨h0,by rw [h1]⟩⟩
 have Hend:=Z5 hend;have zz:=(HS.out w1 hb1).2.2.2.2.2;have z0:=zz.cell 0 rfl;have z1:=zz.cell 1 rfl;have f0:=zz.frozen 0;have f1:=zz.frozen 1;clear hend zz hbW hsW;by_cases hr : dD P M mod N L Q=0;rotate_left
 ·have hs : jB P M mod N L Q=dD P M mod N L Q:=by rw [jB,I6 hr]
  have HF:=Z5 (Hend.out (dD P M mod N L Q) (by rw [hs];exact hr) hs);have hr' : (dD P M mod N L Q != 0)=true:=by simpa using hr
  clear hr hs Hend;generalize dD P M mod N L Q=er at *;go_wp2_with fail;exact bodyPost_ret (v:=.tuple #[.agg #[.int .i64 0,.slice none 0 0],.int .i64 er]) (by simp [results,results99,go_sem,z0,z1]) rfl HF.out
 rw [hr];by_cases hv : yC P M mod N L Q=true;rotate_left
 ·have hs : jB P M mod N L Q=9:=by rw [jB,I5 (by simpa using hr),I5 hv]
  have HF:=Z5 (Hend.out 9 (by rw [hs];decide) hs);have hv' : yC P M mod N L Q=false:=by simpa using hv
  rw [hv'];clear hr hs Hend hv hv';go_wp2_with fail;exact bodyPost_ret (v:=.tuple #[.agg #[.int .i64 0,.slice none 0 0],.int .i64 9]) (by simp [results,results99,go_sem,z0,z1]) rfl HF.out
 have hs0 : jB P M mod N L Q=0:=by rw [jB,I5 (by simpa using hr),I6 hv]
 have Hs0:=Z5 hs0;obtain ⟨hE,hok,hg,hl⟩:=ES hv;obtain ⟨m,rfl,hm1,hm64,F,hR⟩:=br hE;have hQ : pA m Q:=λj hj=>by have:=fC hok hj;omega
 have hno : no=n:=by rw [<- Hql.out,hl,Hil.out]
 have hqm : (Q.length : Int)<=m:=gE hok (by omega);have hn64 : n<=64:=by rw [<- Hil.out,<- hl];omega
 have hpv:=Eb F hR hQ hl hg;have hDr : cw (ah P M.toNat mod).El n (L.map (aQ Q)):=by have h:=jY hR hQ;rw [Hql.out,hno] at h;exact h
 have hIr:=rK F hDr;have hqn : Q.length=n:=by rw [Hql.out];exact hno
 rw [hqn] at hpv;have hfB:=(bl hE).1;have hsyl : dk (ah P M.toNat mod).ops m L Q=yE (ah P M.toNat mod).ops m (jE (ah P M.toNat mod).ops (L.map (aQ Q)) n) L:=by rw [dk,hqn]
 have HCo : Hid (∀V,NS w V->Calls prog 155 #[.agg #[.int .i64 P,.int .i64 M,.slice am mn cm],.agg #[.int .i64 m,.slice a n c],.slice ao no co] V λe w' =>
   ∃a1 c1,e = .returned (.tuple #[.agg #[.int .i64 n,.slice a1 n c1],.int .i64 0])/\ch w' a1 n (L.map (aQ Q))/\NS V w'):=λV hV=>by refine (yx P M am mn cm mod m a n c L ao no co Q V (hmod.aa hV) (hi.aa hV) (hq.aa hV) hE hQ (by omega)).mono ?_;rintro e w' ⟨a1,c1,rfl,hM,hb⟩;exact ⟨a1,c1,by rw [hqn],hM.l7,hb⟩
 have HIn : Hid (∀V a1 c1,NS w V->ch V a1 n (L.map (aQ Q))->Calls prog 168 #[.agg #[.int .i64 P,.int .i64 M,.slice am mn cm],.agg #[.int .i64 n,.slice a1 n c1]] V λe w' =>
   ∃a2 c2,e = .returned (.tuple #[.agg #[.int .i64 n,.slice a2 n c2],.int .i64 0])/\ch w' a2 n (jE (ah P M.toNat mod).ops (L.map (aQ Q)) n)/\NS V w'):=λV a1 c1 hV hM=>by refine (wB P M am mn cm mod n a1 c1 (L.map (aQ Q)) V (hmod.aa hV) hM hfB hDr hn64 hpv).mono ?_;rintro e w' ⟨a2,c2,rfl,hM2,hb⟩;exact ⟨a2,c2,rfl,hM2.l7,hb⟩
 have HMu : Hid (∀V a2 c2,NS w V->ch V a2 n (jE (ah P M.toNat mod).ops (L.map (aQ Q)) n)->Calls prog 157 #[.agg #[.int .i64 P,.int .i64 M,.slice am mn cm],.agg #[.int .i64 n,.slice a2 n c2],.agg #[.int .i64 m,.slice a n c]] V λe w' =>
   ∃a3 c3,e = .returned (.tuple #[.agg #[.int .i64 m,.slice a3 n c3],.int .i64 0])/\cH V.heap.size w' a3 n (dk (ah P M.toNat mod).ops m L Q)/\NS V w'):=λV a2 c2 hV hM=>by rw [hsyl];exact Fj P M am mn cm mod n a2 n c2 _ m a c L V (hmod.aa hV) hM (hi.aa hV) hfB hIr hR hn64 hm1 hm64 hn64
 have HPost : Hid (∀a3 c3 w',NS w w'->cH w.heap.size w' a3 n (dk (ah P M.toNat mod).ops m L Q)->kd P M mod m L Q w (.returned (.tuple #[.agg #[.int .i64 m,.slice a3 n c3],.int .i64 0])) w'):=λa3 c3 w' h1 h2=>by rw [<- Hil.out] at h2 ⊢;exact ⟨h1,.inr ⟨Hs0.out,m,rfl,a3,c3,rfl,h2⟩⟩
 obtain ⟨D,hD⟩ : ∃D,L.map (aQ Q)=D:=⟨_,rfl⟩
 obtain ⟨Iv,hIv⟩ : ∃Iv,jE (ah P M.toNat mod).ops D n=Iv:=⟨_,rfl⟩
 rw [hD] at HCo HIn HMu;rw [hIv] at HIn HMu;rw [hv];clear hr hv hs0 hE hok hg hl hQ hno hqm hpv hDr hIr hqn hfB hsyl hD hIv F hR Hend z0 z1 f0 f1;obtain ⟨c0,c1,c2,c3,c4,_⟩:=HS.out w1 hb1;have hb8:=aw w1 (.cells #[.int .i64 m,.slice a n c] 82);have x8:=Nj w1 [.int .i64 m,.slice a n c] 82 rfl;have HX8:=Z5 x8;obtain ⟨d0,d1,d2,d3,d4,_⟩:=HS.out _ (Nh hb1 hb8);clear x8;go_wp2_with fail;refine (HCo.out _ (Nh hbw1 hb8)).mono ?_;rintro e w2 ⟨a1,c1',rfl,hM1,hb2⟩;have hb9:=aw w2 (.cells #[.int .i64 n,.slice a1 n c1'] 82);have hk2:=Nh hb2 hb9;have hbk2:=Nh (Nh hb1 hb8) hk2;clear c0 c1 c2 c3 c4 d0 d1 d2 d3 d4 HCo;obtain ⟨c0,c1,c2,c3,c4,_⟩:=HS.out _ hbk2;have Hin:=Z5 (HIn.out _ a1 c1' (Nh HbW.out hbk2) (hM1.aa hb9));clear hM1 HIn;go_wp2_with fail;refine Hin.out.mono ?_;rintro e w3 ⟨a2,c2',rfl,hM2,hb3⟩;have hb10:=aw w3 (.cells #[.int .i64 n,.slice a2 n c2'] 82);have hk3:=Nh hb3 hb10;have hbk3:=Nh hbk2 hk3;clear c0 c1 c2 c3 c4 Hin;obtain ⟨c0,c1,c2,c3,c4,_⟩:=HS.out _ hbk3;have x8:=HX8.out.aa (Nh hk2 hk3);have e0:=x8.cell 0 rfl;have e1:=x8.cell 1 rfl;have Hmu:=Z5 (HMu.out _ a2 c2' (Nh HbW.out hbk3) (hM2.aa hb10));clear hM2 HMu x8;go_wp2_with fail;refine Hmu.out.mono ?_;rintro e w4 ⟨a3,c3',rfl,hM3,hb4⟩;have hbk4:=Nh hbk3 hb4;have zz:=(HS.out w4 hbk4).2.2.2.2.2;have z0:=zz.cell 0 rfl;have z1:=zz.cell 1 rfl;have f0:=zz.frozen 0;have f1:=zz.frozen 1;have hs:=HsW.out;have hsz:=hbk3.size;have HF:=Z5 (HPost.out a3 c3' _ (((Nh HbW.out hbk4).setCell (p:=⟨w.heap.size+1,0,none⟩) (by simp) (.int .i64 m)).setCell (p:=⟨w.heap.size+1,1,none⟩) (by simp) (.slice a3 n c3'))
  (((hM3.setCell (p:=⟨w.heap.size+1,0,none⟩) (by simp at hsz ⊢;omega) (.int .i64 m)).setCell (p:=⟨w.heap.size+1,1,none⟩) (by simp at hsz ⊢;omega) (.slice a3 n c3')).mono (by simp at hsz ⊢;omega)))
 clear c0 c1 c2 c3 c4 e0 e1 Hmu zz hM3 HPost;go_wp2_with fail;exact bodyPost_ret (v:=.tuple #[.agg #[.int .i64 m,.slice a3 n c3'],.int .i64 0]) (by simp [results,results99,go_sem,z0,z1]) rfl HF.out
section
open Go.RowKit
end
def nm (w : World) (e : Ending) (w' : World) : Prop:=∃z,e = .returned (.bool z)/\NS w w'
theorem B4 (a : OA) (n c K : Nat) (L : Ll) (w : World) (hi : ch w a n L) (hK : K<=100000) :
  Calls prog 63 #[.agg #[.int .i64 0,.slice a n c],.int .i64 K] w (nm w):=by
 have Hlen:=Z5 hi.len;have hpl:=hi.pl;have hmax:=hi.max;unfold maxLen at hmax;go_enter func63,ntmps63;go_upto_region 1 with fail;obtain ⟨W,hW⟩ : ∃W : World,W=w.alloc (.cells #[.int .i64 0,.slice a n c] 82):=⟨_,rfl⟩
 rw [<- hW];have hbW : NS w W:=by rw [hW];exact aw _ _
 have x0 : aZ W w.heap.size [.int .i64 0,.slice a n c]:=by rw [hW];exact Nj _ _ _ rfl
 have c0:=x0.cell 0 rfl;have c1:=x0.cell 1 rfl;have hiW:=hi.aa hbW;have HbW:=Z5 hbW;clear hW x0 hi hbW;by_cases h1 : K<n
 ·have d1 : decide (K<n)=true:=by simpa using h1
  have d1' : decide ((K : Int)<n)=true:=by simp;omega
  go_wp2_with fail;go_ret;exact ⟨_,rfl,HbW.out⟩
 ·have d1 : decide (K<n)=false:=by simpa using h1
  have d1' : decide ((K : Int)<n)=false:=by simp;omega
  go_wp2_with fail;go_loopw [5,6] (λlv iv wr=>∃k m : Nat,k<=n/\m<=K/\lv = .int .i64 m/\iv = .int .i64 k/\wr=W) (λ_ iv _=>n - (intOf iv).toNat);case atStart=>exact ⟨0,K - n,I7 _,by omega,by go_num,rfl,rfl⟩
  case round =>
   obtain ⟨k,m,hk,hm,rfl,rfl,rfl⟩:=hrel
   by_cases hlt : k<n
   ·obtain ⟨ra,rn,rc,hcell,hrow⟩:=hiW.cell k hlt
    by_cases h2 : m<rn
    ·have d2 : decide (m<rn)=true:=by simpa using h2
     have d2' : decide ((m : Int)<rn)=true:=by simp;omega
     go_wp2_with fail
     go_ret
     exact ⟨_,rfl,HbW.out⟩
    ·have d2 : decide (m<rn)=false:=by simpa using h2
     have d2' : decide ((m : Int)<rn)=false:=by simp;omega
     have d3 : (rn : Int)<=m:=by omega
     go_wp2_with fail
     go_roundw
     case rel=>exact ⟨k+1,m - rn,by omega,by omega,by go_num,by go_num,by first | rfl | trivial⟩
     case measure=>simp [intOf] <;> omega
   ·obtain rfl : k=n:=by omega
    go_wp2_with fail
    go_ret
    exact ⟨_,rfl,HbW.out⟩
theorem qe (P M : Int) (am : OA) (mn cm : Nat) (N : Int) (a : OA) (n c K : Nat) (L : Ll) (w : World) (hi : ch w a n L) (hK : K<=100000) :
  Calls prog 28 #[.agg #[.int .i64 P,.int .i64 M,.slice am mn cm,.int .i64 N,.slice a n c],.int .i64 K] w (nm w):=by have H:=Z5 (λV hV=>B4 a n c K L V (hi.aa hV) hK : ∀V,NS w V->_);clear hi;go_enter func28,ntmps28;go_wp2_with fail;have hbW:=aw w (.cells #[.int .i64 P,.int .i64 M,.slice am mn cm,.int .i64 N,.slice a n c] 27);refine (H.out _ hbW).mono ?_;rintro e w1 ⟨z,rfl,hb1⟩;have hF:=Nh hbW hb1;go_wp2_with fail;go_ret;exact ⟨z,rfl,hF⟩
def Fw : Value->Nat
 | .slice _ n _=>n
 | _=>0
theorem sR : (prog.info? 64).map (λi=>(i.zero,i.size,i.bytes))=some (some (.agg #[.slice none 0 0,.int .i64 0]),2,32):=by kernel_rfl
def CS (m : Nat) (U : Lz) : Nat->Lz
 | 0=>[]
 | 1=>bz false U m
 | _=>eB m U
theorem Dq (m : Nat) (U : Lz) {r : Nat} (hr : r<2) : CS m U (r+1)=CS m U r ++ bz (decide (r=1)) U m:=by
 match r,hr with
 | 0,_=>simp [CS]
 | 1,_=>simp [CS,eB]
theorem aZ.IE {w : World} {g : Nat} {x y : Value} (h : aZ w g [x,y]) (v : Value) : aZ (w.setCell ⟨g,1,none⟩ v) g [x,v]:=by
 have k0:=h.cell 0 rfl;have k1:=h.cell 1 rfl;refine ⟨by simp;exact h.1,λi u hu=>?_,λi=>by rw [J8];exact h.frozen i⟩;match i,hu with
 | 0,hu =>
  obtain rfl : x=u:=by simpa using hu
  rw [Jw _ _ _ _ (by simp)]
  exact k0
 | 1,hu =>
  obtain rfl : v=u:=by simpa using hu
  exact Jk _ _ _ k1
 | i+2,hu=>simp at hu
theorem oJ.mono {w : World} {B B' : Nat} {a : OA} {k c : Nat} {R : La} {T : List (Lz × Int)} (h : oJ w B a k c R T) (hB : B'<=B) : oJ w B' a k c R T:=by
 refine ⟨h.rl,h.tl,⟨h.own.1,?_⟩,λp hp=>?_⟩
 ·rcases h.own.2 with h2 | ⟨g,cap,cur,hv,hg,r⟩
  ·exact .inl h2
  ·exact .inr ⟨g,cap,cur,hv,Ji hB hg,r⟩
 ·obtain ⟨h1,h2,h3⟩:=h.row p hp;exact ⟨h1,λhn=>⟨Ji hB (h2 hn).1,(h2 hn).2⟩,h3⟩
def ko (P M : Int) (mod : Lz) (N : Int) (L : Ll) (w : World) (e : Ending) (w' : World) : Prop :=
 NS w w'/\((aJ P M mod N L ≠ 0/\e = .returned (.tuple #[.slice none 0 0,.int .i64 (aJ P M mod N L)])) \/
  (aJ P M mod N L=0/\∃m : Nat,N=m/\∃k a c R T,T=eo (ah P M.toNat mod).ops L m/\e = .returned (.tuple #[.slice a k c,.int .i64 0])/\oJ w' w.heap.size a k c R T))
theorem Ai (P M : Int) (am : OA) (mn cm : Nat) (mod : Lz) (N : Int) (a : OA) (n c : Nat) (L : Ll) (w : World) (hmod : Ints w am mn mod) (hi : ch w a n L) :
  Calls prog 31 #[.agg #[.int .i64 P,.int .i64 M,.slice am mn cm,.int .i64 N,.slice a n c]] w (ko P M mod N L w):=by
 have Hil:=Z5 hi.len;go_enter func31,ntmps31;go_wp2_with fail;obtain ⟨W,hW⟩ : ∃W : World,W=w.alloc (.cells #[.int .i64 P,.int .i64 M,.slice am mn cm,.int .i64 N,.slice a n c] 27):=⟨_,rfl⟩
 rw [<- hW];have hbW : NS w W:=by rw [hW];exact aw _ _
 have x0 : aZ W w.heap.size [.int .i64 P,.int .i64 M,.slice am mn cm,.int .i64 N,.slice a n c]:=by rw [hW];exact Nj _ _ _ rfl
 have HX:=Z5 x0;have HbW:=Z5 hbW;clear hW x0;refine (oR P M am mn cm mod N a n c L W (hmod.aa hbW) (hi.aa hbW)).mono ?_;rintro e w1 ⟨hb1,⟨hE,rfl⟩ | ⟨hE,b,rfl,hG⟩⟩
 ·have hbw1:=Nh hbW hb1;have HP : Hid (ko P M mod N L w (.returned (.tuple #[.slice none 0 0,.int .i64 (aJ P M mod N L)])) w1):=⟨hbw1,.inl ⟨hE,rfl⟩⟩
  have hE2 : (aJ P M mod N L != 0)=true:=by simpa using hE
  clear hE;generalize aJ P M mod N L=er at *;go_wp2_with fail;go_ret2;exact HP.out
 have hbw1:=Nh hbW hb1;obtain ⟨m,hm,hm1,hm64,hL256,hR⟩:=dP hE;subst hm;have hn : n<=256:=by rw [<- Hil.out];exact hL256
 have HP : Hid (∀k a' c' R T w',T=eo (ah P M.toNat mod).ops L m->NS w w'->oJ w' w.heap.size a' k c' R T->ko P M mod m L w (.returned (.tuple #[.slice a' k c',.int .i64 0])) w'):=λk a' c' R T w' h1 h2 h3 =>
  ⟨h2,.inr ⟨hE,m,rfl,k,a',c',R,T,h1,rfl,h3⟩⟩
 have Hgr : Hid (∀V aq nq cq U,NS w1 V->nq=(eB m U).length->Ints V aq nq (eB m U)->Calls prog 69 #[.pointer (some ⟨b,0,none⟩),.agg #[.int .i64 P,.int .i64 M,.slice am mn cm,.int .i64 m,.slice a n c],.slice aq nq cq] V (dh V (cG (ah P M.toNat mod).ops L m U))):=λV aq nq cq U hV hnq hq =>
  q8 P M am mn cm m a n c L m aq nq cq (eB m U) (hG.aa hV) (hi.aa (Nh hbw1 hV)) hR hq (λk hk=>AZ m U k (by omega)) (by omega) (by rw [hnq,kN];omega)
 have Hcl : Hid (∀U,(cG (ah P M.toNat mod).ops L m U).length<=m):=λU=>by have:=AQ (ah P M.toNat mod).ops L (eB m U);rw [kN] at this;exact this
 obtain ⟨O,hO⟩ : ∃O,(ah P M.toNat mod).ops=O:=⟨_,rfl⟩
 rw [hO] at HP Hgr Hcl;have HC : Hid (∀V,NS w1 V->V.cell? ⟨w.heap.size,0,none⟩=some (.int .i64 P)/\V.cell? ⟨w.heap.size,1,none⟩=some (.int .i64 M)/\V.cell? ⟨w.heap.size,2,none⟩=some (.slice am mn cm)/\V.cell? ⟨w.heap.size,3,none⟩=some (.int .i64 m)/\V.cell? ⟨w.heap.size,4,none⟩=some (.slice a n c)):=λV hV=>by have x1:=HX.out.aa (Nh hb1 hV);exact ⟨x1.cell 0 rfl,x1.cell 1 rfl,x1.cell 2 rfl,x1.cell 3 rfl,x1.cell 4 rfl⟩
 have Hbw1:=Z5 hbw1;have hO0:=oJ.start w1 w1.heap.size;clear hE hG hR hO hL256 hmod hi hbw1 hb1 hbW;go_wp2_with fail;go_loopw [6,7] (λov uv wr=>∃(k : Nat) (T : List (Lz × Int)) (ao : OA) (co : Nat) (R : La) (U : Lz) (au : OA) (cu : Nat),k<=m/\ov = .slice ao k co/\uv = .slice au U.length cu/\oJ wr w1.heap.size ao k co R T /\
   wr.ownsRow w1.heap.size 3 1 (.slice au U.length cu) U.length (U.map (Value.int .i64))/\Hid ((ao ≠ none->cJ au (aj ao))/\(∀r ∈ R,r.1 ≠ none->cJ au (aj r.1)))/\NS w1 wr/\Hid (eo O L m=ga O L m (m+1 - k) U T) /\
   k+(bz false U m).length<=m/\U.length<=64 * k) (λov _ _=>m+1 - Fw ov)
 case atStart=>exact ⟨0,[],none,0,[],[],none,0,I7 _,rfl,rfl,hO0,bX,⟨λh=>absurd rfl h,λr hr=>by simp at hr⟩,I1 _ _,rfl,by have:=gk false [] m;omega,by simp⟩
 case round =>
  clear hO0
  obtain ⟨k,T,ao,co,R,U,au,cu,hk,rfl,rfl,hOS,hU,hsep,hbr,hfam,hfr,hUl⟩:=hrel
  generalize wr=V0 at *
  obtain ⟨Un,hUn⟩ : ∃Un,U.length=Un:=⟨_,rfl⟩
  have HUn:=Z5 hUn
  rw [hUn] at hU hUl ⊢
  clear hUn
  have hIU:=(Ni hU).1
  obtain ⟨V1,hV1⟩ : ∃V1 : World,V1=V0.alloc (.cells #[.bool false,.bool true] 4):=⟨_,rfl⟩
  have hbV1 : NS V0 V1:=by rw [hV1];exact aw _ _
  have hsV1 : V1.heap.size=V0.heap.size+1:=by rw [hV1];simp
  have xb : aZ V1 V0.heap.size [.bool false,.bool true]:=by rw [hV1];exact Nj _ _ _ rfl
  have Hbl : Hid (∀V,NS V1 V->∀r,r<2->V.cell? ⟨V0.heap.size,r,none⟩=some (.bool (decide (r=1)))):=λV hV r hr=>by
   have h:=xb.aa hV;match r,hr with
   | 0,_=>exact h.cell 0 rfl
   | 1,_=>exact h.cell 1 rfl
  have HsV1:=Z5 hsV1
  clear xb hsV1
  go_upto_region 8 with fail
  rw [<- hV1]
  clear hV1
  go_loopw [8,25] (λqv iv wx=>∃(r : Nat) (aq : OA) (cq : Nat),r<=2/\iv = .int .i64 r/\qv = .slice aq (CS m U r).length cq/\wx.ownsRow V1.heap.size 3 1 (.slice aq (CS m U r).length cq) (CS m U r).length ((CS m U r).map (Value.int .i64))/\NS V1 wx) (λ_ iv _=>2 - (intOf iv).toNat)
  case atStart=>exact ⟨0,none,0,by omega,rfl,rfl,bX,I1 _ _⟩
  case round =>
   obtain ⟨r,aq,cq,hr,rfl,rfl,hop,hbx⟩:=hrel
   by_cases hlr : r<2
   ·have cb:=Hbl.out wr hbx r hlr
    obtain ⟨_,_,_,c3,_⟩:=HC.out wr (Nh hbr (Nh hbV1 hbx))
    have Hph:=Z5 (Dq m U hlr)
    have hphl : (CS m U r).length<=m:=by
     match r,hlr with
     | 0,_=>simp [CS]
     | 1,_=>exact gk false U m
    obtain ⟨il,hold⟩ : ∃il,decide (r=1)=il:=⟨_,rfl⟩
    rw [hold] at cb Hph
    obtain ⟨Ph,hPh⟩ : ∃Ph,CS m U r=Ph:=⟨_,rfl⟩
    rw [hPh] at hop Hph hphl
    rw [hPh]
    clear hold hPh
    have dr2 : decide ((r : Int)<2)=true:=by simp;omega
    generalize wr=X1 at *
    go_wp2_with fail
    clear cb c3
    go_loopw [8,31] (λqv iv wy=>∃(i : Nat) (aq : OA) (cq : Nat),i<=m/\iv = .int .i64 i/\qv = .slice aq (Ph ++ bz il U i).length cq/\wy.ownsRow V1.heap.size 3 1 (.slice aq (Ph ++ bz il U i).length cq) (Ph ++ bz il U i).length ((Ph ++ bz il U i).map (Value.int .i64))/\NS V1 wy) (λ_ iv _=>m - (intOf iv).toNat)
    case atStart=>exact ⟨0,aq,cq,I7 _,rfl,by simp [bz],by simpa [bz] using hop,hbx⟩
    case round =>
     clear hop hbx
     obtain ⟨i,aq,cq,hi,rfl,rfl,hop,hby⟩:=hrel
     by_cases hli : i<m
     ·have hIr:=hIU.aa (Nh hbV1 hby)
      have hca:=cN au Un cu U (i : Int) wr hIr
      have hql : (Ph ++ bz il U i).length<=200:=by have:=gk il U i;rw [Jh];omega
      have hsy:=hby.size
      by_cases hd : decide ((i : Int) ∈ U)=il
      ·have Hst : Hid (Ph ++ bz il U (i+1)=(Ph ++ bz il U i) ++ [(i : Int)]):=by show _=_;rw [bz,I6 hd,JQ]
       rw [hd] at hca
       have HcA:=Z5 hca
       have hoo : (il == il)=true:=by simp
       clear hd hca
       generalize Ph ++ bz il U i=q at *
       have hcn:=bk wr (.int .i64 i) 3
       have hbn:=aw wr (.cells #[.int .i64 i] 3)
       go_wp2_with fail
       refine HcA.out.mono ?_
       rintro e w5 ⟨rfl,rfl⟩
       go_wp2_with (at_builtin;refine bg rfl _ _ 22 3 rfl (.int .i64 0) 8 underlying22 ba rfl V1.heap.size aq q.length cq _ rfl (hop.alloc _) ⟨w5.heap.size,0,none⟩ 1 (.int .i64 i) rfl hcn rfl (by omega) (by unfold maxLen;omega) (by simp;omega) ?_;intro a5 c5 w6 hown5 hgr5 hap5)
       go_roundw
       case rel =>
        refine ⟨i+1,a5,c5,by omega,by go_num,by rw [Hst.out];simp,?_,Nk (Ju hby (hbn.mono hsy)) (hop.alloc _) hgr5 (IZ _) (Ji hsy hbn.size)⟩
        rw [Hst.out];simpa using hown5
       case measure=>simp [intOf] <;> omega
      ·have Hst : Hid (Ph ++ bz il U (i+1)=Ph ++ bz il U i):=by show _=_;rw [bz,I5 hd]
       have HcA:=Z5 hca
       have hoo : (decide ((i : Int) ∈ U) == il)=false:=by simpa using hd
       clear hd hca
       generalize Ph ++ bz il U i=q at *
       go_wp2_with fail
       refine HcA.out.mono ?_
       rintro e w5 ⟨rfl,rfl⟩
       go_wp2_with fail
       go_roundw
       case rel =>
        exact ⟨i+1,aq,cq,by omega,by go_num,by rw [Hst.out],by rw [Hst.out];exact hop,hby⟩
       case measure=>simp [intOf] <;> omega
     ·obtain rfl : i=m:=by omega
      go_wp2_with fail
      go_roundw
      case rel =>
       exact ⟨r+1,aq,cq,by omega,by go_num,by rw [Hph.out],by rw [Hph.out];exact hop,hby⟩
      case measure=>simp [intOf] <;> omega
   ·obtain rfl : r=2:=by omega
    have h2o : CS m U 2=eB m U:=rfl
    rw [h2o] at hop ⊢
    have dr3 : decide (((2 : Nat) : Int)<2)=false:=by decide
    generalize wr=V2 at *
    have hbV2 : NS V0 V2:=Nh hbV1 hbx
    have hb12 : NS w1 V2:=Nh hbr hbV2
    have Hg:=Z5 (Hgr.out V2 aq (eB m U).length cq U hb12 rfl (Ni hop).1)
    obtain ⟨c0,c1,c2,c3,c4⟩:=HC.out V2 hb12
    have hSl:=Hcl.out U
    have Hfam : Hid (eo O L m=ga O L m (m - k+1) U T):=by show _=_;rw [hfam.out,show m+1 - k=m - k+1 by omega]
    have Hless : Hid (dn U (cG O L m U) (cG O L m U).length ≠ 0->(bz false (U ++ bA (cG O L m U)) m).length<(bz false U m).length):=λh=>qE h
    have Hfam2 : Hid (dn U (cG O L m U) (cG O L m U).length=0->eo O L m=T):=λh=>by rw [Hfam.out,ga,I6 h]
    have Hfam3 : Hid (dn U (cG O L m U) (cG O L m U).length ≠ 0->eo O L m=ga O L m (m - k) (U ++ bA (cG O L m U)) (T ++ [(bA (cG O L m U),dn U (cG O L m U) (cG O L m U).length)])):=λh=>by rw [Hfam.out,ga,I5 h]
    obtain ⟨S,hS⟩ : ∃S,cG O L m U=S:=⟨_,rfl⟩
    rw [hS] at Hg hSl Hless Hfam2 Hfam3
    clear hS hop Hgr Hfam hfam h2o
    go_wp2_with fail
    refine Hg.out.mono ?_
    rintro e V3 ⟨a4,c4',rfl,hown4,hb3⟩
    obtain ⟨Sn,hSn⟩ : ∃Sn,S.length=Sn:=⟨_,rfl⟩
    rw [hSn] at hown4 hSl Hless Hfam2 Hfam3 ⊢
    have HSn:=Z5 hSn
    have hbV3 : NS V0 V3:=Nh hbV2 hb3
    have hIS:=(Ni hown4).1
    have hplS:=hIS.pl
    clear c0 c1 c2 c3 c4 Hg hSn
    obtain ⟨V4,hV4⟩ : ∃V4 : World,V4=V3.alloc (.cells #[.slice a4 Sn c4',.int .i64 0] 64):=⟨_,rfl⟩
    have x4 : aZ V4 V3.heap.size [.slice a4 Sn c4',.int .i64 0]:=by rw [hV4];exact Nj _ _ _ rfl
    have hb4 : NS V3 V4:=by rw [hV4];exact aw _ _
    go_upto_region 18 with fail
    rw [<- hV4]
    have y0:=x4.cell 0 rfl
    clear hV4
    go_wp2_with fail
    clear y0
    go_loopw [53] (λiv wy=>∃i : Nat,i<=Sn/\iv = .int .i64 i/\aZ wy V3.heap.size [.slice a4 Sn c4',.int .i64 (dn U S i)]/\NS V3 wy) (λiv _=>Sn - (intOf iv).toNat)
    case atStart=>exact ⟨0,I7 _,rfl,x4,hb4⟩
    case round =>
     clear x4 hb4
     obtain ⟨i,hi,rfl,hx,hby⟩:=hrel
     by_cases hli : i<Sn
     ·have cS:=(hIS.aa hby).cell i hli
      have hca:=cN au Un cu U (nth S i) wr (hIU.aa (Nh hbV3 hby))
      by_cases hin : nth S i ∈ U
      ·have Hn : Hid (dn U S (i+1)=dn U S i):=by show _=_;rw [dn,I6 hin]
       have hd : decide (nth S i ∈ U)=true:=by simpa using hin
       rw [hd] at hca
       have HcA:=Z5 hca
       clear hca hd hin
       go_wp2_with fail
       refine HcA.out.mono ?_
       rintro e w5 ⟨rfl,rfl⟩
       go_wp2_with fail
       go_roundw
       case rel=>exact ⟨i+1,by omega,by go_num,by rw [Hn.out];exact hx,hby⟩
       case measure=>simp [intOf] <;> omega
      ·have Hn : Hid (dn U S (i+1)=dn U S i+1):=by show _=_;rw [dn,I5 hin]
       have hd : decide (nth S i ∈ U)=false:=by simpa using hin
       rw [hd] at hca
       have HcA:=Z5 hca
       have hbd:=lD U S i
       have y1:=hx.cell 1 rfl
       have f1:=hx.frozen 1
       obtain ⟨z,hz⟩ : ∃z,dn U S i=z:=⟨_,rfl⟩
       rw [hz] at Hn hbd y1 hx
       have kz : IntKind.i64.wrap (z+1)=z+1:=Jj _ (by omega)
       have Hx:=Z5 (hx.IE (.int .i64 (z+1)))
       clear hca hd hin hz hx
       go_wp2_with fail
       refine HcA.out.mono ?_
       rintro e w5 ⟨rfl,rfl⟩
       go_wp2_with fail
       go_roundw
       case rel=>exact ⟨i+1,by omega,by go_num,by rw [Hn.out];exact Hx.out,hby.setCell (IZ _) _⟩
       case measure=>simp [intOf] <;> omega
     ·obtain rfl : i=Sn:=by omega
      generalize wr=V5 at *
      have hbV5 : NS V0 V5:=Nh hbV3 hby
      have y0:=hx.cell 0 rfl
      have y1:=hx.cell 1 rfl
      obtain ⟨rk,hrk⟩ : ∃rk,dn U S i=rk:=⟨_,rfl⟩
      rw [hrk] at y1 hx Hless Hfam2 Hfam3
      by_cases hz : rk=0
      ·have hz' : (rk == 0)=true:=by simpa using hz
       have HF:=Z5 (HP.out k ao co R T V5 (Hfam2.out hz).symm (Nh Hbw1.out (Nh hbr hbV5)) ((hOS.aa hbV5).mono Hbw1.out.size))
       clear hz hrk hOS hU hown4 Hless Hfam2 Hfam3
       go_wp2_with fail
       go_ret2
       exact HF.out
      ·have hz' : (rk == 0)=false:=by simpa using hz
       have hls:=Hless.out hz
       have hfam3:=Hfam3.out hz
       have hipos : 0<i:=by
        rcases JS i with h0 | h0
        ·subst h0;exact absurd hrk.symm hz
        ·exact h0
       have hown5:=aX hown4 hby
       have hsz02:=hbV2.size
       have hsz03:=hbV3.size
       have hsz25 : V2.heap.size<=V5.heap.size:=by have:=hb3.size;have:=hby.size;omega
       have HSo:=Z5 (pX V2.heap.size a4 i c4' S V5 hown5 hsz25 (by omega))
       have hsz12:=hb12.size
       have hsz35:=hby.size
       have ha4 : a4 ≠ none->V2.heap.size<=aj a4/\aj a4<V3.heap.size:=λh0=>aM hown4 h0
       have hau : au ≠ none->aj au<V0.heap.size:=λh0=>(aM hU h0).2
       have hap4g : cJ a4 V3.heap.size:=by
        by_cases h0 : a4=none
        ·exact .inl h0
        ·exact .inr (by have:=(ha4 h0).2;omega)
       have hapug : cJ au V3.heap.size:=by
        by_cases h0 : au=none
        ·exact .inl h0
        ·exact .inr (by have:=hau h0;omega)
       have hapu4 : a4 ≠ none->cJ au (aj a4):=λh4=>by
        by_cases h0 : au=none
        ·exact .inl h0
        ·exact .inr (by have:=hau h0;have:=(ha4 h4).1;omega)
       have hao : ao ≠ none->aj ao<V0.heap.size:=λh0=>(hOS.EY h0).2
       have hapo4 : a4 ≠ none->cJ ao (aj a4):=λh4=>by
        by_cases h0 : ao=none
        ·exact .inl h0
        ·exact .inr (by have:=hao h0;have:=(ha4 h4).1;omega)
       clear hrk hz hown4 hown5 Hless Hfam2 Hfam3
       go_wp2_with fail
       refine HSo.out.mono ?_
       rintro e V6 ⟨rfl,hown6,hgr6,hb6⟩
       have z0:=bC hgr6 y0 hap4g
       have z1:=bC hgr6 y1 hap4g
       have hbV6 : NS V0 V6:=hbV5.trans (hb6.mono hsz02)
       have hU6:=aX hU hbV6
       have hOS6:=hOS.aa hbV6
       have hIS6:=(Ni hown6).1
       have hSs : (bA S).length=i:=by rw [dy];exact HSn.out
       have hsz56:=hb6.size
       have hb16:=Nh hbr hbV6
       have hsz16:=hb16.size
       clear y0 y1 hx hOS hU hown6 HSo
       go_wp2_with ((first
        | (at_builtin;refine ee (by rfl) (.tmp 73) (.tmp 75) 22 3 (by rfl) (.int .i64 0) 8 underlying22 ba (by rfl) w1.heap.size au Un cu (U.map (Value.int .i64)) (by rfl) hU6 a4 i c4' ((bA S).map (Value.int .i64)) (by rfl) hplS (by simp [hSs]) (Np hIS6) (ints_oneCell _ _) (by omega) (by unfold maxLen;omega) hsz16 ?_;intro a7 c7 V7 hown7 hgr7 hap7;have k0:=bC hgr7 z0 hapug;have k1:=bC hgr7 z1 hapug;have hOS8:=(hOS6.grown hgr7 hsep.out.1 hsep.out.2).aa (aw V7 (.cells #[.slice a4 i c4',.int .i64 rk] 64)))
        | (at_builtin;refine nC (by rfl) (.tmp 77) (.tmp 79) 57 64 (by rfl) (.agg #[.slice none 0 0,.int .i64 0]) 32 underlying57 sR (by rfl) w1.heap.size ao k co (CR R T) (by rfl) hOS8.own V7.heap.size 1 (.slice a4 i c4') (.int .i64 rk) (by rfl) (aG _ _ _ rfl 0) (aG _ _ _ rfl 1) (by rfl) (by rfl) (by omega) (by unfold maxLen;omega) (by have:=hgr7.size;simp;omega) ?_;intro a9 c9 V9 hown9 hgr9 hap9)))
       go_roundw
       case rel =>
        have hUl2 : (U ++ bA S).length=Un+i:=by rw [Jh,HUn.out,hSs]
        have hne7 : a7 ≠ none:=λe=>by
         obtain ⟨a',c',hv,hp⟩:=Nx hown7;cases hv
         have:=hp (by omega);rw [e] at this;cases this
        have hsz67:=hgr7.size
        have hb8:=aw V7 (.cells #[.slice a4 i c4',.int .i64 rk] 64)
        have hsz78:=hb8.size
        have hapo7 : cJ ao (aj a7):=by
         by_cases h0 : ao=none
         ·exact .inl h0
         ·have h1:=hap7 (aj ao) (by have:=hao h0;omega) (hsep.out.1 h0);rcases h1 with h1 | h1
          ·exact absurd h1 hne7
          ·exact .inr λe=>h1 e.symm
        have hown79:=dU (aX hown7 hb8) hgr9 hapo7
        have hI8 : Ints (V7.alloc (.cells #[.slice a4 i c4',.int .i64 rk] 64)) a4 (bA S).length (bA S):=by rw [hSs];exact (hIS6.nG hgr7 λh=>hapu4 λe=>by have:=hplS h;rw [e] at this;cases this).aa hb8
        have hb17 : NS w1 V7:=Nk hb16 hU6 hgr7 (IZ _) hsz16
        have hb18:=Nh hb17 hb8
        have hOS9:=hOS8.push hI8 (λh0=>⟨by have:=(ha4 h0).1;omega,by have:=(ha4 h0).2;omega⟩) hapo4 (by rw [hSs];exact hown9) hgr9 hap9
        have hb19 : NS w1 V9:=hb18.grown hgr9 (by omega) λj hj=>by
         cases ao with
         | none=>simp [Value.ownBlock] at hj
         | some y=>simp [Value.ownBlock] at hj;rw [<- hj];exact (hOS8.EY (by simp)).1
        refine ⟨k+1,T ++ [(bA S,rk)],a9,c9,R ++ [(a4,c4')],U ++ bA S,a7,c7,by omega,rfl,by rw [hUl2],hOS9,by rw [hUl2,JR];exact hown79,⟨λh0=>?_,λr hr h0=>?_⟩,hb19,by rw [show m+1 - (k+1)=m - k by omega];exact hfam3,by omega,by rw [hUl2];omega⟩
        ·have h1:=hap9 (aj a7) (by have:=(aM hown7 hne7).2;omega) hapo7
         rcases h1 with h1 | h1
         ·exact absurd h1 h0
         ·exact .inr λe=>h1 e.symm
        ·rcases List.mem_append.1 hr with hr | hr
         ·exact hap7 _ (hOS6.zE hr h0).1.2 (hsep.out.2 r hr h0)
         ·rw [JN] at hr
          subst hr
          have h4 : aj a4<V3.heap.size:=(ha4 h0).2
          exact hap7 (aj a4) (by omega) (hapu4 h0)
       case measure=>simp [Fw] <;> omega

end Go.Proofs.YtcfmiocdlcapoaaGreat
