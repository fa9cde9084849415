import Derived.Test.YtjfiflldinnhmaaGreatHSO16
namespace Go.Proofs.YtjfiflldinnhmaaGreat
set_option linter.all false
set_option maxRecDepth 100000
set_option maxHeartbeats 8000000
open Go.RowKit Go.Proofs.Tryz
def uY (n : Nat) (Q : LI) (L : LL) (w : World) (e : Ending) (w' : World) : Prop :=
 ∃a1 c1,e = .returned (.tuple #[.agg #[.int .i64 Q.length,.slice a1 n c1],.int .i64 0])/\bX w.heap.size w' a1 n (L.map (bK Q))/\JA w w'
theorem tK (P M : Int) (am : OA) (mn cm : Nat) (mod : LI) (m : Nat) (a : OA) (n c : Nat) (L : LL) (ao : OA) (no co : Nat) (Q : LI) (w : World) (hmod : Ints w am mn mod) (hi : bY w a n L) (hq : Ints w ao no Q)
  (hE : aZ P M mod m L=0) (hQ : xz m Q) (hno : no<=256) :
  Calls prog 129 #[.agg #[.int .i64 P,.int .i64 M,.slice am mn cm],.agg #[.int .i64 m,.slice a n c],.slice ao no co] w (uY n Q L w):=by
 have Hlen:=Z5 hi.len;have Hql:=Z5 hq.len;have hplq:=hq.pl;have hpla:=hi.pl;obtain ⟨N',e,hm1,hm64,F,hR⟩:=dk hE;obtain rfl : m=N':=by omega
 have hL256:=(eE hE).choose_spec.2.2.2.1;have hn : n<=256:=by rw [<- hi.len];exact hL256
 obtain ⟨h5,h6⟩:=iE (dq hE).2.2.2;obtain ⟨hfB,h8⟩:=e8 h5;have HLl : Hid (∀k,k<n->(af L k).length=m):=λk hk=>(hR.row (i:=k) (by rw [hi.len];exact hk)).1;have HQ:=Z5 hQ;obtain ⟨L2,hL2⟩ : ∃L2,L.map (bK Q)=L2:=⟨_,rfl⟩
 have HL2l : Hid (L2.length=n):=by show _=_;rw [<- hL2,Fo];exact Hlen.out
 have HLk : Hid (∀k,k<n->L2.take (k+1)=L2.take k ++ [bK Q (af L k)]):=λk hk=>by
  have hk' : k<L2.length:=by rw [HL2l.out];exact hk
  rw [EV hk',<- aE hk',<- hL2,sZ _ L (by rw [Hlen.out];exact hk)]
 unfold uY;rw [hL2,Hql.out];clear hE h5 h6 e hL256 F hR hQ hL2;go_enter func129,ntmps129;go_wp2_with fail;obtain ⟨W,hW⟩ : ∃W : World,W=((((w.alloc (.cells #[.int .i64 P,.int .i64 M,.slice am mn cm] 24)).alloc (.cells #[.int .i64 m,.slice a n c] 87)).alloc (.cells #[.int .i64 0,.slice none 0 0] 87)).alloc (.cells #[.int .i64 m,.slice a n c] 87)):=⟨_,rfl⟩
 rw [<- hW];have hbW : JA w W:=by rw [hW];exact ((((EI _ _).alloc (EF _) _).alloc (by simp) _).alloc (by simp;omega) _).alloc (by simp;omega) _
 have hsW : W.heap.size=w.heap.size+4:=by rw [hW];simp
 have x1 : ba W (w.heap.size+1) [.int .i64 m,.slice a n c]:=by rw [hW];exact ((Ja _ _ _ (by simp)).alloc _).alloc _
 have x2 : ba W (w.heap.size+1+1) [.int .i64 0,.slice none 0 0]:=by rw [hW];exact (Ja _ _ _ (by simp)).alloc _
 have q3 : W.cell? ⟨w.heap.size+1+1+1,0,none⟩=some (.int .i64 m)/\W.cell? ⟨w.heap.size+1+1+1,1,none⟩=some (.slice a n c):=by rw [hW];exact ⟨aC _ _ _ (by simp) 0,aC _ _ _ (by simp) 1⟩
 have hMs : rF W (some ⟨w.heap.size+1+1+1,0,none⟩) 1 [((m : Int),L)]:=⟨rfl,λ_=>rfl,by unfold maxLen;omega,λi hi'=>by
  have : i=0:=by simp at hi';omega
  subst this;exact ⟨a,n,c,by simpa using q3.1,by simpa using q3.2,hi.aa hbW⟩⟩
 have HX:=Z5 (E6 x1 x2);have HsW:=Z5 hsW;have HbW:=Z5 hbW;clear hW hsW x1 x2 q3;refine (jQ P M am mn cm mod _ 1 1 _ W (hmod.aa hbW) hMs).mono ?_;rintro e w1 ⟨hb1,hcase⟩;rw [iY] at hcase;rcases hcase with ⟨hB,_⟩ | ⟨_,er,h0,h1,_⟩ | ⟨_,_,b,rfl,hG,hbl⟩
 ·rw [hfB] at hB;exact absurd hB (by decide)
 ·rw [h8] at h1;exact absurd h1.symm h0
 have hbw1:=I8 hbW hb1;have r1:=HX.out.1.aa hb1;have m0:=r1.cell 0 rfl;have m1:=r1.cell 1 rfl;have hq1:=hq.aa hbw1;have d256 : decide ((256 : Int)<no)=false:=by simp;omega
 clear hMs hfB h8 hbW r1 hG hbl;go_wp2_with fail;go_loop [35] (λiv=>∃k : Nat,k<=no/\iv = .int .i64 k) (λiv=>no - (intOf iv).toNat);case atStart=>exact ⟨0,EL _,rfl⟩
 case round =>
  obtain ⟨k,hk,rfl⟩:=hrel
  by_cases hlt : k<no
  ·have cq:=hq1.cell k hlt
   have hb:=HQ.out k (by rw [Hql.out];exact hlt)
   have e1 : decide (nth Q k<0)=false:=by simp;omega
   have e2 : decide ((m : Int)<=nth Q k)=false:=by simp;omega
   clear hb
   go_wp2_with fail
   go_round
   case rel=>exact ⟨k+1,by omega,by go_num⟩
   case measure=>simp [intOf] <;> omega
  ·obtain rfl : k=no:=by omega
   go_upto_region 12 with fail
   obtain ⟨g,hg⟩ : ∃g,w1.heap.size=g:=⟨_,rfl⟩
   have HG:=Z5 hg
   clear hg
   go_cut [12] (λv wx=>v = .pointer (some ⟨w1.heap.size,0,none⟩)/\kz wx w1.heap.size (.int .i64 k) none 0 0 [] []/\JA w1 wx)
   case first =>
    go_wp2_with fail
    go_meet
    exact ⟨rfl,kz.start (Ja w1 [.int .i64 k,.slice none 0 0] _ rfl),aA _ _⟩
   obtain ⟨rfl,hO0,hbc⟩:=hcut
   generalize wc=U at *
   have hs3:=HG.out
   rw [hs3] at hO0 ⊢
   have HbU:=Z5 (I8 hb1 hbc)
   have r1:=HX.out.1.aa HbU.out
   clear m0 m1
   have m0:=r1.cell 0 rfl
   have m1:=r1.cell 1 rfl
   have hgU:=hO0.lt
   have hgW : W.heap.size<=g:=by have:=hb1.size;omega
   have hqU:=hq1.aa hbc
   clear r1 hbc hs3 hq1
   go_wp2_with fail
   clear m0 m1
   go_loopw [55] (λiv wr=>∃(j : Nat) (a1 : OA) (c1 : Nat) (Rr : LA),j<=n/\iv = .int .i64 j/\kz wr g (.int .i64 k) a1 j c1 Rr (L2.take j)/\Below g U wr) (λiv _=>n - (intOf iv).toNat)
   case atStart=>exact ⟨0,none,0,[],EL _,rfl,by simpa using hO0,EI _ _⟩
   case round =>
    clear hO0
    obtain ⟨j,a1,c1,Rr,hj,rfl,hO,hbr⟩:=hrel
    have hbWr:=Ft HbU.out (hbr.mono hgW)
    have hbwr:=I8 HbW.out hbWr
    have hgr:=hO.lt
    by_cases hltj : j<n
    ·obtain ⟨ra,rn,rc,hcell,hrow⟩:=(hi.aa hbwr).cell j hltj
     have hrn : rn=m:=by rw [<- hrow.len];exact HLl.out j hltj
     rw [hrn] at hcell hrow
     have Htk:=Z5 (HLk.out j hltj)
     obtain ⟨l,hl⟩ : ∃l,af L j=l:=⟨_,rfl⟩
     rw [hl] at Htk hrow
     have hplr:=hrow.pl
     obtain ⟨pk,hpk⟩ : ∃pk,bK Q l=pk:=⟨_,rfl⟩
     have Hpk:=Z5 hpk
     have hpl : pk.length=k:=by rw [<- hpk];simp [bK];exact Hql.out
     have Hpl:=Z5 hpl
     clear hl hrn hpk hpl
     go_wp2_with (at_make;refine bZ rfl _ _ 22 3 rfl (.int .i64 0) 8 underlying22 bh rfl k rfl rfl (by omega) (by unfold maxLen;omega) ?_;intro a5 w5 hown hbel hge hlt5)
     have hown0 : w5.ownsRow wr.heap.size 3 1 (.slice a5 k k) k ((ei pk (List.replicate k 0) 0).map (Value.int .i64)):=by rw [ew,Gg];exact hown
     clear hown hge hlt5 hcell
     generalize wr=X1 at *
     go_loopw [64] (λjv ws=>∃t : Nat,t<=k/\jv = .int .i64 t/\ws.ownsRow X1.heap.size 3 1 (.slice a5 k k) k ((ei pk (List.replicate k 0) t).map (Value.int .i64))/\JA X1 ws) (λjv _=>k - (intOf jv).toNat)
     case atStart=>exact ⟨0,EL _,rfl,hown0,hbel⟩
     case round =>
      clear hown0 hbel
      obtain ⟨t,ht,rfl,hown,hbs⟩:=hrel
      by_cases hltt : t<k
      ·have hbU1 : JA w wr:=I8 hbwr hbs
       have cq:=(hq.aa hbU1).cell t hltt
       have hqb:=HQ.out t (by rw [Hql.out];exact hltt)
       obtain ⟨z,hz⟩ : ∃z : Nat,nth Q t=z:=⟨(nth Q t).toNat,by omega⟩
       have hzm : z<m:=by omega
       have cr:=(hrow.aa hbs).cell z hzm
       have Hst : Hid ((ei pk (List.replicate k 0) t).set t (nth l z)=ei pk (List.replicate k 0) (t+1)):=by show _=_;have h1:=dW pk (List.replicate k 0) t (by rw [Hpl.out,GH]) (by rw [GH];exact hltt);rw [<- Hpk.out,j5 Q l (by rw [Hql.out];exact hltt),hz,EM] at h1;rw [<- Hpk.out];exact h1
       rw [hz] at cq
       obtain ⟨hints,hmine⟩:=I9 hown
       have hpl5:=hints.pl
       have cz:=hints.cell t hltt
       have fz:=(hmine (by omega)).2 t hltt
       have hB:=(hmine (by omega)).1
       clear hz hqb
       go_wp2_with fail
       go_roundw
       case rel =>
        have h:=bz hown t hltt (.int .i64 (nth l z))
        rw [<- Ff,Hst.out] at h
        exact ⟨t+1,by omega,by go_num,h,hbs.setCell hB _⟩
       case measure=>simp [intOf] <;> omega
      ·obtain rfl : t=k:=by omega
       rw [fb pk (List.replicate t 0) t (by simp [Hpl.out]) (by simp)] at hown
       have hs:=hO.aa hbs
       have hOk:=hs.om.aa (aA wr (.cells #[.slice a5 t t] 22))
       have hcp:=hs.c1
       have hgs:=hs.lt
       go_wp2_with (at_builtin;refine aX rfl _ _ 25 22 rfl (.slice none 0 0) 24 underlying25 eh rfl (g+1) a1 j c1 _ rfl hOk.own ⟨wr.heap.size,0,none⟩ 1 (.slice a5 t t) rfl (bk wr _ _) rfl (by omega) (by unfold maxLen;omega) (by simp;omega) ?_;intro a6 c6 w6 hown6 hgr6 hap6;have hk6:=(hs.qZ hgr6).2.1;have hf6:=(hs.qZ hgr6).2.2)
       go_roundw
       case rel =>
        have hra : a5 ≠ none->¬ bH a1 Rr (ah a5):=λh0 hI=>by have h1:=(aU hown h0).1;have h2:=(hO.om.lt _ hI).2;omega
        obtain ⟨hP,hbP⟩:=hs.push Hpl.out (aW hown (by omega)) hra hown6 hgr6 hap6
        exact ⟨j+1,a6,c6,_,by omega,by go_num,by rw [Htk.out,Hpk.out];exact hP,Ft hbr ((hbs.mono (by omega)).trans hbP)⟩
       case measure=>simp [intOf] <;> omega
    ·obtain rfl : j=n:=by omega
     rw [ES (by rw [HL2l.out];exact EF _)] at hO
     have g0:=hO.c0
     have g1:=hO.c1
     have z6:=HX.out.2.aa hbWr
     have z0:=z6.cell 0 rfl
     have z1:=z6.cell 1 rfl
     have f0:=z6.frozen 0
     have f1:=z6.frozen 1
     have hs:=HsW.out
     have hMN : bX (g+1) wr a1 j L2:=bX.own hO.om
     have HF:=Z5 (E6 (((hMN.setCell (p:=⟨w.heap.size+1+1,0,none⟩) (by simp;omega) (.int .i64 k)).setCell (p:=⟨w.heap.size+1+1,1,none⟩) (by simp;omega) (.slice a1 j c1)).mono (show w.heap.size<=g+1 by omega))
      ((hbwr.setCell (p:=⟨w.heap.size+1+1,0,none⟩) (by simp;omega) (.int .i64 k)).setCell (p:=⟨w.heap.size+1+1,1,none⟩) (by simp;omega) (.slice a1 j c1)))
     clear hMN z6 hO
     go_wp2_with fail
     exact bodyPost_ret (v:=.tuple #[.agg #[.int .i64 k,.slice a1 j c1],.int .i64 0]) (by simp [results,results129,go_sem,z0,z1]) rfl ⟨a1,c1,rfl,HF.out.1,HF.out.2⟩
def pM (O : aL) (m : Nat) (A B : LL) : LL:=A.map λr=>da O m r B B.length
theorem BU (P M : Int) (am : OA) (mn cm : Nat) (mod : LI) (k : Nat) (a : OA) (n c : Nat) (A : LL) (m : Nat) (ab : OA) (cb : Nat) (B : LL) (w : World) (hmod : Ints w am mn mod) (hi : bY w a n A) (hb : bY w ab k B)
  (hfB : bA P M mod=true) (hA : bx (an P M.toNat mod).El k A) (hBr : bx (an P M.toNat mod).El m B) (hk : k<=64) (hm1 : 1<=m) (hm : m<=64) (hn : n<=64) :
  Calls prog 132 #[.agg #[.int .i64 P,.int .i64 M,.slice am mn cm],.agg #[.int .i64 k,.slice a n c],.agg #[.int .i64 m,.slice ab k cb]] w
   λe w'=>∃a1 c1,e = .returned (.tuple #[.agg #[.int .i64 m,.slice a1 n c1],.int .i64 0])/\bX w.heap.size w' a1 n (pM (an P M.toNat mod).ops m A B)/\JA w w':=by
 have hAl:=hi.len;have hBl:=hb.len;have F:=ji hfB;have hmE1 : ed (an P M.toNat mod).q k A=0:=(e8 (uz hfB (show k<=256 by omega) (show A.length<=256 by omega) hA)).2;have hmE2 : ed (an P M.toNat mod).q m B=0:=(e8 (uz hfB (show m<=256 by omega) (show B.length<=256 by omega) hBr)).2;have hpla:=hi.pl;obtain ⟨G,hGG⟩ : ∃G,an P M.toNat mod=G:=⟨_,rfl⟩
 rw [hGG] at hA hBr F hmE1 hmE2 ⊢;obtain ⟨L2,hL2⟩ : ∃L2,pM G.ops m A B=L2:=⟨_,rfl⟩
 have HL2l : Hid (L2.length=n):=by show _=_;rw [<- hL2,pM,Fo];exact hAl
 have HLk : Hid (∀j,j<n->L2.take (j+1)=L2.take j ++ [da G.ops m (af A j) B k]):=λj hj=>by
  have hj' : j<L2.length:=by rw [HL2l.out];exact hj
  rw [EV hj',<- aE hj',<- hL2,pM,sZ _ A (by omega),hBl]
 rw [hL2];have HAr : Hid (∀j,j<n->(af A j).length=k/\∀x ∈ af A j,G.El x):=λj hj=>hA.row (by omega);have HBr:=Z5 hBr;have HFl:=Z5 F;have HBl:=Z5 hBl;have HB:=Z5 hfB;have HmE:=Z5 (E6 hmE1 hmE2);have HGG:=Z5 hGG;clear hA hBr F hAl hBl hfB hmE1 hmE2 hGG hL2;go_enter func132,ntmps132;go_wp2_with fail;obtain ⟨W,hW⟩ : ∃W : World,W=(((((w.alloc (.cells #[.int .i64 P,.int .i64 M,.slice am mn cm] 24)).alloc (.cells #[.int .i64 k,.slice a n c] 87)).alloc (.cells #[.int .i64 m,.slice ab k cb] 87)).alloc (.cells #[.int .i64 0,.slice none 0 0] 87)).alloc (.cells #[.int .i64 k,.slice a n c,.int .i64 m,.slice ab k cb] 87)):=⟨_,rfl⟩
 rw [<- hW];have hbW : JA w W:=by rw [hW];exact (((((EI _ _).alloc (EF _) _).alloc (by simp) _).alloc (by simp;omega) _).alloc (by simp;omega) _).alloc (by simp;omega) _
 have hsW : W.heap.size=w.heap.size+5:=by rw [hW];simp
 have x1 : ba W (w.heap.size+1) [.int .i64 k,.slice a n c]:=by rw [hW];exact (((Ja _ _ _ (by simp)).alloc _).alloc _).alloc _
 have x2 : ba W (w.heap.size+1+1) [.int .i64 m,.slice ab k cb]:=by rw [hW];exact ((Ja _ _ _ (by simp)).alloc _).alloc _
 have x3 : ba W (w.heap.size+1+1+1) [.int .i64 0,.slice none 0 0]:=by rw [hW];exact (Ja _ _ _ (by simp)).alloc _
 have q3 : ∀i v,[Value.int .i64 k,.slice a n c,.int .i64 m,.slice ab k cb][i]? = some v->W.cell? ⟨w.heap.size+1+1+1+1,i,none⟩=some v:=λi v hv=>by
  have h : ba W (w.heap.size+1+1+1+1) [.int .i64 k,.slice a n c,.int .i64 m,.slice ab k cb]:=by rw [hW];exact Ja _ _ _ (by simp)
  exact h.cell i hv
 have hMs : rF W (some ⟨w.heap.size+1+1+1+1,0,none⟩) 2 [((k : Int),A),((m : Int),B)]:=⟨rfl,λ_=>rfl,by unfold maxLen;omega,λi hi'=>by
  match i,hi' with
  | 0,_=>exact ⟨a,n,c,by simpa using q3 0 _ rfl,by simpa using q3 1 _ rfl,hi.aa hbW⟩
  | 1,_=>exact ⟨ab,k,cb,by simpa using q3 2 _ rfl,by simpa using q3 3 _ rfl,hb.aa hbW⟩⟩
 have HX:=Z5 (E6 x1 (E6 x2 x3));have HsW:=Z5 hsW;have HbW:=Z5 hbW;clear hW hsW x1 x2 x3 q3;refine (jQ P M am mn cm mod _ 2 2 _ W (hmod.aa hbW) hMs).mono ?_;rintro e w1 ⟨hb1,hcase⟩;have hms : gv (an P M.toNat mod).q [((k : Int),A),((m : Int),B)]=0:=by rw [HGG.out];simp [gv,HmE.out.1,HmE.out.2]
 rcases hcase with ⟨hB,_⟩ | ⟨_,er,h0,h1,_⟩ | ⟨_,_,b,rfl,hG,hbl⟩
 ·rw [HB.out] at hB;exact absurd hB (by decide)
 ·rw [hms] at h1;exact absurd h1.symm h0
 rw [HGG.out] at hG;have hbw1:=I8 hbW hb1;have r1:=HX.out.1.aa hb1;have r2:=HX.out.2.1.aa hb1;have m0:=r1.cell 0 rfl;have m1:=r1.cell 1 rfl;have p0:=r2.cell 0 rfl;have p1:=r2.cell 1 rfl;have hkk : ((k : Int) != k)=false:=by simp
 clear hMs hbW r1 r2 hbl hmod hms;go_upto_region 6 with fail;obtain ⟨g,hg⟩ : ∃g,w1.heap.size=g:=⟨_,rfl⟩
 have HGs:=Z5 hg;clear hg;go_cut [10] (λv wx=>v = .pointer (some ⟨w1.heap.size,0,none⟩)/\kz wx w1.heap.size (.int .i64 m) none 0 0 [] []/\JA w1 wx);case first =>
  go_wp2_with fail
  go_meet
  exact ⟨rfl,kz.start (Ja w1 [.int .i64 m,.slice none 0 0] _ rfl),aA _ _⟩
 obtain ⟨rfl,hO0,hbc⟩:=hcut;generalize wc=U at *;have hs3:=HGs.out;rw [hs3] at hO0 ⊢;have HbU:=Z5 (I8 hb1 hbc);have HbU1:=Z5 hbc;have HS : Hid (∀V,JA W V->V.cell? ⟨w.heap.size+1,0,none⟩=some (.int .i64 k)/\V.cell? ⟨w.heap.size+1,1,none⟩=some (.slice a n c)/\V.cell? ⟨w.heap.size+1+1,0,none⟩=some (.int .i64 m)/\V.cell? ⟨w.heap.size+1+1,1,none⟩=some (.slice ab k cb)):=λV hV=>by have r1:=HX.out.1.aa hV;have r2:=HX.out.2.1.aa hV;exact ⟨r1.cell 0 rfl,r1.cell 1 rfl,r2.cell 0 rfl,r2.cell 1 rfl⟩
 clear m0 m1 p0 p1;obtain ⟨m0,m1,p0,p1⟩:=HS.out U HbU.out;have hgU:=hO0.lt;have hgW : W.heap.size<=g:=by have:=hb1.size;omega
 have hw1g : w1.heap.size<=g:=by omega
 clear hbc hs3;go_wp2_with fail;clear m0 m1 p0 p1;go_loopw [38] (λiv wr=>∃(j : Nat) (a1 : OA) (c1 : Nat) (Rr : LA),j<=n/\iv = .int .i64 j/\kz wr g (.int .i64 m) a1 j c1 Rr (L2.take j)/\Below g U wr) (λiv _=>n - (intOf iv).toNat);case atStart=>exact ⟨0,none,0,[],EL _,rfl,by simpa using hO0,EI _ _⟩
 case round =>
  clear hO0
  obtain ⟨j,a1,c1,Rr,hj,rfl,hO,hbr⟩:=hrel
  have hbWr:=Ft HbU.out (hbr.mono hgW)
  have hbwr:=I8 HbW.out hbWr
  have hb1r : JA w1 wr:=Ft HbU1.out (hbr.mono hw1g)
  have hgr:=hO.lt
  by_cases hltj : j<n
  ·obtain ⟨ra,rn,rc,hcell,hrow⟩:=(hi.aa hbwr).cell j hltj
   have hA:=HAr.out j hltj
   have hrn : rn=k:=by rw [<- hrow.len];exact hA.1
   rw [hrn] at hcell hrow
   have Htk:=Z5 (HLk.out j hltj)
   obtain ⟨l,hl⟩ : ∃l,af A j=l:=⟨_,rfl⟩
   rw [hl] at Htk hrow hA
   have Hvec : Hid (∀V,JA wr V->Calls prog 173 #[.pointer (some ⟨b,0,none⟩),.slice ra k rc,.slice ab k cb,.int .i64 m] V λe w' =>
     ∃a1 c1,e = .returned (.slice a1 m c1)/\w'.ownsRow V.heap.size 3 1 (.slice a1 m c1) m ((da G.ops m l B k).map (Value.int .i64))/\JA V w'):=λV hV =>
    Cb ra rc l ab k cb B m (hG.aa (I8 hb1r hV)) HFl.out (hrow.aa hV) (hb.aa (I8 hbwr hV)) (λt ht=>hA.2 _ (aO (by rw [hA.1];exact ht))) HBr.out hm1 (by omega) (by omega)
   have hvl : (da G.ops m l B k).length=m:=(jR HFl.out HBr.out (x:=l) (λt ht=>hA.2 _ (aO (by rw [hA.1,<- HBl.out];exact ht))) k (by rw [HBl.out];exact EF _)).1.1
   obtain ⟨pk,hpk⟩ : ∃pk,da G.ops m l B k=pk:=⟨_,rfl⟩
   rw [hpk] at Hvec hvl Htk
   have Hvl:=Z5 hvl
   have Hbr:=Z5 hbr
   have HbWr:=Z5 hbWr
   have HO:=Z5 hO
   have g1:=hO.c1
   obtain ⟨_,_,p0,p1⟩:=HS.out wr hbWr
   clear hl hrn hpk hvl hA hrow hbr hbWr hbwr hb1r hO
   go_wp2_with fail
   go_region_law ((first
    | (go_simp;go_at_call 173;((with_reducible refine (Hvec.out _ (EI _ _).drew).mono ?_);rintro e w4 ⟨a4,c4,rfl,hown4,hb4⟩;have hb4':=I8 (EI wr.heap.size wr).drew hb4;have hs4:=HO.out.aa hb4';have g2:=hs4.c1;have g3:=aJ hs4.c1 (.cells #[.slice a4 m c4] 22)))
    | (refine ie (by rfl) (.tmp 43) (.tmp 51) 25 22 (by rfl) (.slice none 0 0) 24 underlying25 eh (by rfl) (g+1) a1 j c1 (List.zipWith gU Rr (L2.take j)) (by rfl) ((hs4.om.aa (aA _ _)).own) (some ⟨w4.heap.size,0,none⟩) 1 1 [.slice a4 m c4] (by rfl) (λ_=>rfl) rfl (by intro y hy;obtain rfl : y=0:=(by omega);exact eC _ _ _ rfl) (by intro y hy;simp at hy;subst hy;rfl) (by omega) (by unfold maxLen;omega) (by have e2:=hs4.lt;simp;omega) ?_;intro a5 c5 w5 hown5 hgr5 hap5;have k5:=(hs4.qZ hgr5).2.1;have f5:=(hs4.qZ hgr5).2.2)))
   all_goals (
    go_wp2_with fail
    go_roundw
    case rel =>
     have hra : a4 ≠ none->¬ bH a1 Rr (ah a4):=λh0 hI=>by have h1:=(aU hown4 h0).1;have h2:=(HO.out.om.lt _ hI).2;have h3 : wr.drew.heap.size=wr.heap.size:=rfl;omega
     obtain ⟨hP,hbP⟩:=hs4.push Hvl.out (aW hown4 (show g+1<=wr.drew.heap.size from hgr)) hra hown5 hgr5 hap5
     exact ⟨j+1,a5,c5,_,by omega,by go_num,by rw [Htk.out];exact hP,Ft Hbr.out ((hb4'.mono (by omega)).trans hbP)⟩
    case measure=>simp [intOf] <;> omega)
  ·obtain rfl : j=n:=by omega
   rw [ES (by rw [HL2l.out];exact EF _)] at hO
   have g0:=hO.c0
   have g1:=hO.c1
   have z6:=HX.out.2.2.aa hbWr
   have z0:=z6.cell 0 rfl
   have z1:=z6.cell 1 rfl
   have f0:=z6.frozen 0
   have f1:=z6.frozen 1
   have hs:=HsW.out
   have hMN : bX (g+1) wr a1 j L2:=bX.own hO.om
   have HF:=Z5 (E6 (((hMN.setCell (p:=⟨w.heap.size+1+1+1,0,none⟩) (by simp;omega) (.int .i64 m)).setCell (p:=⟨w.heap.size+1+1+1,1,none⟩) (by simp;omega) (.slice a1 j c1)).mono (show w.heap.size<=g+1 by omega))
    ((hbwr.setCell (p:=⟨w.heap.size+1+1+1,0,none⟩) (by simp;omega) (.int .i64 m)).setCell (p:=⟨w.heap.size+1+1+1,1,none⟩) (by simp;omega) (.slice a1 j c1)))
   clear hMN z6 hO
   go_wp2_with fail
   exact bodyPost_ret (v:=.tuple #[.agg #[.int .i64 m,.slice a1 j c1],.int .i64 0]) (by simp [results,results132,go_sem,z0,z1]) rfl ⟨a1,c1,rfl,HF.out.1,HF.out.2⟩
def tm (O : aL) (L : LL) (Q : LI) (most : Nat) : LI:=(mz O L Q).take most
def gW (m : Nat) (s z : LI) : LI:=eH z ++ aP false (s ++ z) m
structure iV where
 M : Nat
 W : Nat
 cos : Bool
 y : LI
def qR (m : Nat) (s t : LI) : Bool:=bI m t && t.all λx=>decide (¬ x ∈ s)
structure LS where
 rows : LL
 sum : LI
 top : Nat
def q9 (O : aL) (v : LI) (i : Nat) (r : LI) : LI :=
 if nth v i=0 then v else List.zipWith (λa y=>if y=0 then a else O.add a (O.neg (O.mul (nth v i) y))) v r
def lf (O : aL) (t i : Nat) (L : LL) : Nat->LL
 | 0=>L
 | l+1=>if t<l then (lf O t i L l).set l (q9 O (af (lf O t i L l) l) i (af (lf O t i L l) t)) else lf O t i L l
def zV (O : aL) (L : LL) (t k i : Nat) : LL :=
 lf O t i ((bm L t k).set t ((af (bm L t k) t).map (O.mul (O.inv (nth (af (bm L t k) t) i))))) L.length
def B9 (O : aL) (st : LS) (i : Nat) : LS :=
 if aM st.rows i st.top=st.rows.length then st
 else ⟨zV O st.rows st.top (aM st.rows i st.top) i,q9 O st.sum i (af (zV O st.rows st.top (aM st.rows i st.top) i) st.top),st.top+1⟩
def zH (O : aL) (L : LL) (y t : LI) : Nat->LS
 | 0=>⟨L,y,0⟩
 | k+1=>B9 O (zH O L y t k) (nth t k).toNat
def Ag (s v : LI) : Nat->Nat
 | 0=>0
 | k+1=>if nth v k ≠ 0/\¬ (k : Int) ∈ s then Ag s v k+1 else Ag s v k
def vz (O : aL) (L : LL) (y s t : LI) : Nat:=Ag s (zH O L y t t.length).sum (zH O L y t t.length).sum.length
def cG (O : aL) (L : LL) (m : Nat) (C : iV) (s t : LI) : Bool :=
 qR m s t && (decide ((mz O L t).length=t.length) &&
  if C.cos=true then decide ((mz O L (aP false s m)).length=t.length) && decide (C.W<s.length+vz O L C.y s t) else decide (t.length=C.M))
def lr (C : iV) (s z t : LI) : LI:=if s.length<C.W then t.filter λx=>decide (¬ x ∈ z) else []
def tL (F : LI->LI->LL->Option LL) (s : LI) : LI->LI->LL->Option LL
 | _,[],ts=>some ts
 | z,k :: ks,ts=>match F (s ++ [k]) z ts with
  | none=>none
  | some ts'=>tL F s (z ++ [k]) ks ts'
def gF (O : aL) (L : LL) (m : Nat) (C : iV) : Nat->LI->LI->LL->Option LL
 | 0,s,_,ts=>match ts with
  | []=>none
  | t :: ts=>if cG O L m C s t=true then some ts else none
 | d+1,s,z,ts=>match ts with
  | []=>none
  | t :: ts=>if cG O L m C s t=true then tL (gF O L m C d) s z (lr C s z t) ts else none
def mI (O : aL) (L : LL) (m : Nat) (C : iV) (T : LL) : Int :=
 match gF O L m C C.W [] [] T with
 | some []=>0
 | _=>13
def dL (O : aL) (L : LL) (m : Nat) (C : iV) (s z : LI) : LI:=eH (tm O L (gW m s z) (if C.cos=true then m else C.M))
def fG (F : LI->LI->LL->Int × LL) (s : LI) : LI->LI->LL->Int × LL
 | _,[],T=>(0,T)
 | z,k :: ks,T=>if (F (s ++ [k]) z T).1=0 then fG F s (z ++ [k]) ks (F (s ++ [k]) z T).2 else ((F (s ++ [k]) z T).1,[])
def iL (O : aL) (L : LL) (m : Nat) (C : iV) : Nat->LI->LI->LL->Int × LL
 | 0,s,z,T=>if cG O L m C s (dL O L m C s z)=true then if T.length=65536 then (8,[]) else (0,T ++ [dL O L m C s z]) else (11,[])
 | d+1,s,z,T=>if cG O L m C s (dL O L m C s z)=true then if T.length=65536 then (8,[]) else fG (iL O L m C d) s z (lr C s z (dL O L m C s z)) (T ++ [dL O L m C s z]) else (11,[])
def qH (O : aL) (L : LL) (m : Nat) (C : iV) : Int × LL:=iL O L m C C.W [] [] []
theorem tF (O : aL) (L : LL) (Q : LI) {k : Nat} : ∀j,k<=j->(dy O L Q k).2 <+: (dy O L Q j).2
 | 0,h=>by
   obtain rfl : k=0:=by omega
   exact FI
 | j+1,h=>by
  by_cases e : k=j+1
  ·subst e;exact FI
  ·refine (tF O L Q j (by omega)).trans ?_;rw [dy];split
   ·exact G0 _ _
   ·exact FI
theorem Aq {O : aL} {L : LL} {Q : LI} {k most : Nat} (hk : k<=Q.length) (h : (dy O L Q k).2.length=most) : tm O L Q most=(dy O L Q k).2:=by obtain ⟨l,hl⟩:=tF O L Q Q.length hk;rw [tm,mz,<- hl,<- h,List.take_left]
theorem CD {O : aL} {L : LL} {Q : LI} {most : Nat} (h : (dy O L Q Q.length).2.length<=most) : tm O L Q most=(dy O L Q Q.length).2:=by rw [tm,mz,ES h]
theorem xG (O : aL) (L : LL) (Q : LI) : ∀k,(dy O L Q k).2.length<=k
 | 0=>EF _
 | k+1=>by
  have ih:=xG O L Q k;rw [dy];split
  ·simp;omega
  ·dsimp only;omega
theorem vI (O : aL) (L : LL) (Q : LI) : (mz O L Q).length<=Q.length:=xG O L Q _
theorem zR {O : aL} {L : LL} {Q : LI} {most : Nat} (h : Q.length<=most) : tm O L Q most=mz O L Q :=
 ES (ET (vI O L Q) h)
theorem xd {O : aL} {L : LL} {Q : LI} {most : Nat} : ∀x ∈ tm O L Q most,x ∈ Q:=λx hx =>
 og O L Q Q.length (EF _) x (Gl hx)
theorem zW (m : Nat) (s z : LI) : (gW m s z).length<=z.length+m:=by unfold gW;have:=fB false (s ++ z) m;rw [ER,fH];omega
theorem uk {m : Nat} {s z : LI} {x : Int} (h : x ∈ gW m s z) : x ∈ z\/(0<=x/\x<m/\¬ x ∈ s/\¬ x ∈ z):=by
 unfold gW at h;rcases List.mem_append.1 h with h | h
 ·exact .inl ((eW z).mem_iff.1 h)
 ·obtain ⟨j,hj,rfl,hd⟩:=(eo m).1 h;have : ¬ (j : Int) ∈ s ++ z:=by simpa using hd
  rw [FH] at this;exact .inr ⟨by omega,by omega,λh=>this (.inl h),λh=>this (.inr h)⟩
theorem Aw {m : Nat} {s t : LI} (h : qR m s t=true) : bI m t=true/\∀x ∈ t,¬ x ∈ s:=by unfold qR at h;rw [EW,Fs] at h;exact ⟨h.1,λx hx=>by simpa using h.2 x hx⟩
theorem kU {O : aL} {L : LL} {m : Nat} {C : iV} {s t : LI} (h : cG O L m C s t=true) : bI m t=true/\∀x ∈ t,¬ x ∈ s:=by unfold cG at h;rw [EW] at h;exact Aw h.1
theorem Bl {C : iV} {s z t : LI} {x : Int} (h : x ∈ lr C s z t) : x ∈ t/\¬ x ∈ z/\s.length<C.W:=by
 unfold lr at h;split at h
 ·rename_i hl;rw [Gj] at h;exact ⟨h.1,by simpa using h.2,hl⟩
 ·simp at h
theorem jU (b : Bool) (U : LI) : ∀k,(aP b U k).Pairwise (λx y=>x<y)
 | 0=>Hh
 | k+1=>by
  have ih:=jU b U k;rw [aP];split
  ·rw [Im];refine ⟨ih,by simp,λx hx y hy=>?_⟩;rw [Fw] at hy;obtain ⟨j,hj,rfl,_⟩:=(eo k).1 hx;omega
  ·exact ih
theorem zg {m : Nat} {U : LI} (hn : U.Nodup) (hU : ∀x ∈ U,0<=x/\x<(m : Int)) : eH U=aP true U m:=by
 have h:=jU true U m;refine (je (h.imp λh=>by omega) ((G7 (h.imp λh=>by omega) hn).2 λx=>?_)).symm;rw [eo];constructor
 ·rintro ⟨j,_,rfl,h1⟩;simpa using h1
 ·intro hx;have h1:=hU x hx;exact ⟨x.toNat,by omega,by omega,by rw [show ((x.toNat : Nat) : Int)=x by omega];simpa using hx⟩
theorem nR {m : Nat} {U : LI} (hn : U.Nodup) (hU : ∀x ∈ U,0<=x/\x<(m : Int)) : U.length<=m:=by rw [<- fH,zg hn hU];exact fB _ _ _
theorem tZ {N : Int} {A : LI} (h : bI N A=true) : A.Nodup:=by
 refine pQ λi j hij hj=>?_;have key : ∀d i,i+d<A.length->0<d->nth A i<nth A (i+d):=λd=>by
  induction d with
  | zero=>intro i _ h0;omega
  | succ d ih =>
   intro i hi _
   have h1:=(fY h hi).2.2 (by omega)
   rw [show i+(d+1) - 1=i+d by omega] at h1
   by_cases h0 : d=0
   ·subst h0;exact h1
   ·have:=ih i (by omega) (by omega);omega
 have:=key (j - i) i (by omega) (by omega);rw [show i+(j - i)=j by omega] at this;omega
section
variable {O : aL} {El : Int->Prop} {m : Nat} {L : LL}
end
section
variable {O : aL} {El : Int->Prop} {m : Nat} {L : LL}
theorem B5 (F : bU O El) (hL : bx El m L) {Q : LI} {x : Int} (h : ¬ lQ O El L.length (aQ L) (gA Q) x.toNat) : lC O L (Q ++ [x])=lC O L Q+1:=by have h1:=kE F hL (Q ++ [x]);rw [xF] at h1;exact h1.uniq (Rk.ind _ h (kE F hL Q))
end
theorem yu {P M : Int} {mod : LI} {m : Nat} {L : LL} (hE : aZ P M mod m L=0) : Rk (lQ (an P M.toNat mod).ops (an P M.toNat mod).El L.length (aQ L)) (List.range m) L.length:=by
 obtain ⟨N',e,hm1,hm64,F,hR⟩:=dk hE;obtain rfl : m=N':=by omega
 have h6:=(iE (dq hE).2.2.2).2;rw [EM] at h6;have hcan : fq (an P M.toNat mod).ops m L=L:=h6;have h:=xH F hR;rwa [hcan] at h
def mN (m : Nat) (Q : LI) : Prop:=Q.Perm ((List.range m).map Int.ofNat)
theorem mN.mem {m : Nat} {Q : LI} (h : mN m Q) {x : Int} : x ∈ Q ↔ ∃j : Nat,j<m/\x=j:=by
 rw [h.mem_iff,II];constructor
 ·rintro ⟨j,hj,rfl⟩;exact ⟨j,List.mem_range.1 hj,rfl⟩
 ·rintro ⟨j,hj,rfl⟩;exact ⟨j,List.mem_range.2 hj,rfl⟩
theorem mN.len {m : Nat} {Q : LI} (h : mN m Q) : Q.length=m:=by rw [h.length_eq];simp
theorem mN.nodup {m : Nat} {Q : LI} (h : mN m Q) : Q.Nodup:=by refine h.nodup_iff.2 ?_;rw [List.nodup_iff_pairwise_ne,IJ];exact List.nodup_range.imp λh e=>h (Int.ofNat.inj e)
theorem mN.ED {m : Nat} {Q : LI} (h : mN m Q) : xz m Q:=λj hj=>by obtain ⟨i,hi,e⟩:=h.mem.1 (aO hj);omega
section
variable {P M : Int} {mod : LI} {m : Nat} {L : LL}
end
section
open Go.RowKit
end
section
variable {O : aL} {El : Int->Prop} {m : Nat}
theorem kY.CJ (F : bU O El) {L : LL} {P : LI} {c : Nat} (h : kY L P c) (hL : bx El m L) {v : LI} (hv : Vc El L.length v) {φ : LI->Int} (hφ : gV O El L.length φ)
  {t : Nat} (ht : t<=P.length) (h0 : ∀j,j<t->φ (aQ L (nth P j).toNat)=0) : ∀k,k<=t->Vc El L.length (gk O L P v k)/\φ (gk O L P v k)=φ v/\∀i,i<L.length->nth (gk O L P v k) i=if i<k then 0 else nth v i
 | 0,_=>⟨hv,rfl,λi _=>by rw [EG (by omega)];rfl⟩
 | k+1,hk=>by
  obtain ⟨h1,h2,h3⟩:=h.CJ F hL hv hφ ht h0 k (by omega);have hle:=h.le;have hcol:=cA hL F.zero (nth P k).toNat;have hx:=h1.at (i:=k) (by omega);refine ⟨h1.sub F hcol hx,?_,λi hi=>?_⟩
  ·rw [gk,hφ.sub _ _ _ h1 hcol hx,h0 k (by omega),F.dh hx,F.ey,F.add_zero _ (hφ.el _ h1),h2]
  ·rw [gk,dH O _ _ _ i (by rw [hcol.1,h1.1]) (by rw [h1.1];exact hi),bR L _ i hi,h.one k i (by omega) hi];by_cases e : i=k
   ·subst e;rw [EH rfl,F.kg hx,F.add_neg _ hx,EH (by omega)]
   ·rw [EG e,F.dh hx,F.ey,F.add_zero _ (h1.at hi),h3 i hi];by_cases e2 : i<k
    ·rw [EH e2,EH (by omega)]
    ·rw [EG e2,EG (by omega)]
theorem xQ {P : LI} (ha : ∀i j,i<j->j<P.length->nth P i<nth P j) {x : Int} (hx : ¬ x ∈ P) : ∀k,k<=P.length->∃t,t<=k/\(∀j,j<t->nth P j<x)/\∀j,t<=j->j<k->x<nth P j
 | 0,_=>⟨0,EF _,λj hj=>by omega,λj _ hj=>by omega⟩
 | k+1,hk=>by
  obtain ⟨t,h1,h2,h3⟩:=xQ ha hx k (by omega);have hne : nth P k ≠ x:=λe=>hx (e ▸ aO (by omega));by_cases ht : t=k
  ·subst ht;by_cases hlt : nth P t<x
   ·exact ⟨t+1,by omega,λj hj=>by
     by_cases e : j=t
     ·subst e;exact hlt
     ·exact h2 j (by omega),λj h4 h5=>by omega⟩
   ·exact ⟨t,by omega,h2,λj h4 h5=>by
     obtain rfl : j=t:=by omega
     omega⟩
  ·refine ⟨t,by omega,h2,λj h4 h5=>?_⟩;by_cases e : j=k
   ·subst e;have:=ha t j (by omega) (by omega);have:=h3 t (EF _) (by omega);omega
   ·exact h3 j h4 (by omega)
theorem Cf (F : bU O El) {R : LL} {P : LI} (hR : bx El m R) (hP : kY R P m) (hl : nc R P) {f : Nat->Int} (hf : RS O El m R f) {x : Nat} (hx : x<m) (h0 : ∀y,y<x->f y=0) (hne : f x ≠ 0) : (x : Int) ∈ P:=by
 refine Fe λhn=>hne ?_;obtain ⟨t,h1,h2,h3⟩:=xQ hl.asc hn P.length (EF _);obtain ⟨e,he,h⟩:=hf;have hlt:=hP.lt;obtain ⟨q1,q2,q3⟩:=hP.CJ F hR (cA hR F.zero x) he h1 (λj hj=>by have:=h2 j hj;have:=hlt j (by omega);rw [<- h _ (by omega)];exact h0 _ (by omega)) t (EF _);rw [h x hx,<- q2];refine he.zero F q1 λi hi=>?_;rw [q3 i hi];split
 ·rfl
 ·rw [bR R x i hi];by_cases hi2 : i<P.length
  ·have:=h3 i (by omega) hi2;exact hl.lead i x hi2 (by omega)
  ·exact hP.zero i x (by omega) hi hx
theorem Ah (F : bU O El) {R : LL} {P : LI} (hR : bx El m R) (hP : kY R P m) {f : Nat->Int} (hf : RS O El m R f) (h0 : ∀j,j<P.length->f (nth P j).toNat=0) : ∀x,x<m->f x=0:=λx hx=>by obtain ⟨e,he,h⟩:=hf;rw [h x hx];refine hP.all F hR hx e he λy hy=>?_;obtain ⟨j,hj,rfl⟩:=(jd P _ _).1 hy;rw [<- h _ (by have:=hP.lt j hj;omega)];exact h0 j hj
theorem tM {P : LI} (ha : ∀i j,i<j->j<P.length->nth P i<nth P j) : P.Pairwise λx y=>x<y:=by rw [F3];intro i j hi hj hij;have:=ha i j hij hj;rwa [ai hi,ai hj] at this
theorem zE {P P' : LI} (ha : ∀i j,i<j->j<P.length->nth P i<nth P j) (ha' : ∀i j,i<j->j<P'.length->nth P' i<nth P' j) (h : ∀x,x ∈ P ↔ x ∈ P') : P=P':=by have h1:=tM ha;have h2:=tM ha';exact jK (h1.imp λh=>by omega) (h2.imp λh=>by omega) ((G7 (h1.imp λh=>by omega) (h2.imp λh=>by omega)).2 h)
theorem AM (F : bU O El) {R R' : LL} {P P' : LI} (hR : bx El m R) (hR' : bx El m R') (hP : kY R P m) (hP' : kY R' P' m) (hl : nc R P) (hl' : nc R' P') (hlen : R.length=P.length) (hlen' : R'.length=P'.length)
  (h1 : gy O El m R R') (h2 : gy O El m R' R) : R=R':=by
 have key : ∀ {R R' : LL} {P P' : LI},bx El m R->kY R P m->nc R P->kY R' P' m->nc R' P'->R'.length=P'.length->gy O El m R' R->∀x ∈ P',x ∈ P:=λ{R R' P P'} hR hP hl hP' hl' hlen' h2 x hx=>by obtain ⟨i,hi,rfl⟩:=List.mem_iff_getElem.1 hx;have hb:=hP'.lt i hi;have h3:=Cf F hR hP hl (h2 i (by omega)) (x:=(nth P' i).toNat) (by omega) (λy hy=>hl'.lead i y hi hy) (by show nth (af R' i) (nth P' i).toNat ≠ 0;rw [hP'.one i i hi (by omega),EH rfl];decide);rw [show (((nth P' i).toNat : Nat) : Int)=nth P' i by omega,ai hi] at h3;exact h3
 have hPP : P=P':=zE hl.asc hl'.asc λx=>⟨key hR' hP' hl' hP hl hlen h1 x,key hR hP hl hP' hl' hlen' h2 x⟩
 subst hPP;refine Gp (by omega) λi hi hi'=>?_;have hr:=hR _ (Fj hi);have hr':=hR' _ (Fj hi');refine ij (by rw [hr.1,hr'.1]) λx hx=>?_;rw [hr.1] at hx;have hz:=Ah F hR hP ((h2 i hi').comb F (Jp F (m:=m) hi) F.one) (λj hj=>by
  show O.add (nth (af R' i) (nth P j).toNat) (O.neg (O.mul (nth (af R i) (nth P j).toNat) 1))=0;rw [hP'.one j i hj hi',hP.one j i hj hi];split
  ·rw [F.kg F.one,F.add_neg _ F.one]
  ·rw [F.kg F.zero,F.add_neg _ F.zero]) x hx
 have hz' : O.add (nth (af R' i) x) (O.neg (O.mul (nth (af R i) x) 1))=0:=hz;have e1 : El (nth R[i] x):=hr.2 _ (aO (by rw [hr.1];exact hx));have e2 : El (nth R'[i] x):=hr'.2 _ (aO (by rw [hr'.1];exact hx));rw [aE hi,aE hi',F.kg e1] at hz';have h4:=F.lU e2 (F.cl.neg _ e1) hz';have h5:=congrArg O.neg h4;rwa [F.neg_neg e1,F.neg_neg e2] at h5
theorem iU (F : bU O El) (n k : Nat) : Vc El n (gg n k):=by
 refine ⟨zh n k,λx hx=>?_⟩;unfold gg at hx;rcases FK hx with hx | rfl
 ·rw [FM hx];exact F.zero
 ·exact F.one
theorem yP {n k i : Nat} (hk : k<n) : nth (gg n k) i=if i=k then 1 else 0:=by
 unfold gg;rw [cX _ _ _ _ (by simpa using hk)];split
 ·rfl
 ·unfold nth;simp only [EJ,E9];split <;> rfl
def qB (O : aL) (n : Nat) (v : LI) : Nat->LI
 | 0=>v
 | k+1=>dj O (qB O n v k) (nth v k) (gg n k)
theorem tv (F : bU O El) {n : Nat} {φ : LI->Int} (hφ : gV O El n φ) {v : LI} (hv : Vc El n v) : ∀k,k<=n->Vc El n (qB O n v k)/\(∀i,i<n->nth (qB O n v k) i=if i<k then 0 else nth v i) /\
  O.add (φ (qB O n v k)) (ch O (λt=>φ (gg n t)) (λt=>nth v t) k)=φ v
 | 0,_=>⟨hv,λi _=>by rw [EG (by omega)];rfl,by rw [ch];exact F.add_zero _ (hφ.el _ hv)⟩
 | k+1,hk=>by
  obtain ⟨h1,h2,h3⟩:=tv F hφ hv k (by omega);have hu:=iU F n k;have hx:=hv.at (i:=k) (by omega);refine ⟨h1.sub F hu hx,λi hi=>?_,?_⟩
  ·rw [qB,dH O _ _ _ i (by rw [hu.1,h1.1]) (by rw [h1.1];exact hi),yP (by omega),h2 i hi];by_cases e : i=k
   ·subst e;rw [EH rfl,EG (by omega),F.kg hx,F.add_neg _ hx,EH (by omega)]
   ·rw [EG e,F.dh hx,F.ey];by_cases e2 : i<k
    ·rw [EH e2,EH (by omega),F.add_zero _ F.zero]
    ·rw [EG e2,EG (by omega),F.add_zero _ (hv.at hi)]
  ·have hm:=F.cl.mul _ _ hx (hφ.el _ hu);have hd:=jV F (a:=λt=>φ (gg n t)) (b:=λt=>nth v t) k (λp _=>hφ.el _ (iU F n p)) (λp hp=>hv.at (by omega));rw [qB,hφ.sub _ _ _ h1 hu hx,ch,F.mul_comm _ _ (hφ.el _ hu) hx,F.AL (hφ.el _ h1) (F.cl.neg _ hm) hd hm,F.od hm,F.add_zero _ (F.cl.add _ _ (hφ.el _ h1) hd),h3]
theorem mc (F : bU O El) {n : Nat} {φ : LI->Int} (hφ : gV O El n φ) {v : LI} (hv : Vc El n v) : φ v=ch O (λt=>φ (gg n t)) (λt=>nth v t) n:=by obtain ⟨h1,h2,h3⟩:=tv F hφ hv n (EF _);rw [<- h3,hφ.zero F h1 λi hi=>by rw [h2 i hi,EH hi],F.tD (jV F n (λp _=>hφ.el _ (iU F n p)) (λp hp=>hv.at hp))]
theorem iD (F : bU O El) {L : LL} (hL : bx El m L) {x : LI} (hx : ∀k,k<L.length->El (nth x k)) {y : Nat} (hy : y<m) : ∀k,k<=L.length->nth (da O m x L k) y=ch O (λt=>nth x t) (λt=>nth (af L t) y) k
 | 0,_=>by rw [da,ch];unfold nth;simp only [EJ,E9];split <;> rfl
 | k+1,hk=>by
  have ih:=iD F hL hx hy k (by omega);obtain ⟨h1,_⟩:=jR F hL hx k (by omega);have hr:=hL.row (i:=k) (by omega);have hd:=jV F (a:=λt=>nth x t) (b:=λt=>nth (af L t) y) k (λp hp=>hx p (by omega)) (λp hp=>Jd (hL.row (i:=p) (by omega)) hy);rw [da,ch];split
  ·rename_i e0;rw [ih,e0,F.jh (Jd hr hy),F.add_zero _ hd]
  ·rw [gM O _ _ _ y (by rw [hr.1,h1.1]) (by rw [h1.1];exact hy),ih];split
   ·rename_i e1;show _=O.add _ (O.mul (nth x k) (nth (af L k) y));rw [e1,F.dh (hx k (by omega)),F.add_zero _ hd]
   ·rfl
end
section
variable {P M : Int} {mod : LI} {m : Nat} {L : LL}
end
section
theorem kq : ∀ {s T : LI},s.Nodup->(∀x ∈ s,x ∈ T)->s.length<=T.length
 | [],_,_,_=>EL _
 | x :: s,T,hn,h=>by have hx : x ∈ T:=h x (by simp);have hn':=List.nodup_cons.1 hn;have h1 : ∀y ∈ s,y ∈ T.erase x:=λy hy=>(List.mem_erase_of_ne (λ(e : y=x)=>hn'.1 (by rw [<- e];exact hy))).2 (h y (by simp [hy]));have h2:=kq hn'.2 h1;rw [List.length_erase_of_mem hx] at h2;have : 0<T.length:=List.length_pos_of_mem hx;simp only [FF];omega
theorem wC {s T : LI} (hn : s.Nodup) (h : ∀x ∈ s,x ∈ T) (hl : T.length<=s.length) {x : Int} (hx : x ∈ T) : x ∈ s:=by
 refine Fe λhc=>?_;have:=kq (s:=x :: s) (T:=T) (List.nodup_cons.2 ⟨hc,hn⟩) λy hy=>by
  rcases List.mem_cons.1 hy with rfl | hy
  ·exact hx
  ·exact h y hy
 simp at this;omega
theorem qf {F : LI->LI->LL->Option LL} {s T : LI} : ∀(ks z : LI) (ts rest : LL),tL F s z ks ts=some rest->(∀x ∈ z,¬ x ∈ T)->(∃x ∈ ks,x ∈ T) ->
  ∃k z' ts' rest',k ∈ ks/\k ∈ T/\(∀x ∈ z',¬ x ∈ T)/\F (s ++ [k]) z' ts'=some rest'
 | [],_,_,_,_,_,h=>by obtain ⟨x,hx,_⟩:=h;simp at hx
 | k :: ks,z,ts,rest,h,hz,hk=>by
  rw [tL] at h;cases hF : F (s ++ [k]) z ts with
  | none=>rw [hF] at h;cases h
  | some ts' =>
   rw [hF] at h
   by_cases hkT : k ∈ T
   ·exact ⟨k,z,ts,ts',by simp,hkT,hz,hF⟩
   ·obtain ⟨k', z', ts'', rest', h1, h2, h3, h4⟩ := qf ks (z ++ [k]) ts' rest h (λx hx => by
     rcases List.mem_append.1 hx with hx | hx
     ·exact hz x hx
     ·rw [List.mem_singleton.1 hx];exact hkT) (by
     obtain ⟨x,hx,hxT⟩:=hk;rcases List.mem_cons.1 hx with rfl | hx
     ·exact absurd hxT hkT
     ·exact ⟨x,hx,hxT⟩)
    exact ⟨k', z', ts'', rest', List.mem_cons_of_mem _ h1, h2, h3, h4⟩
variable {O : aL} {L : LL} {m : Nat} {C : iV}
theorem tg : ∀(d : Nat) (s z : LI) (ts rest : LL),s.length+d=C.W->s.Nodup->gF O L m C d s z ts=some rest->∀T : LI,T.length<=C.W->(∀x ∈ s,x ∈ T)->(∀x ∈ z,¬ x ∈ T) ->
  ∃s' t,cG O L m C s' t=true/\s'.Nodup/\(∀x ∈ s',x ∈ T)/\∀x ∈ t,¬ x ∈ T
 | 0,s,z,ts,rest,hd,hn,h,T,hT,hs,hz=>by
  match ts with
  | []=>simp [gF] at h
  | t :: ts =>
   rw [gF] at h
   by_cases hr : cG O L m C s t=true
   ·exact ⟨s,t,hr,hn,hs,λx hx hxT=>(kU hr).2 x hx (wC hn hs (by omega) hxT)⟩
   ·rw [EG hr] at h;cases h
 | d+1,s,z,ts,rest,hd,hn,h,T,hT,hs,hz=>by
  match ts with
  | []=>simp [gF] at h
  | t :: ts =>
   rw [gF] at h
   by_cases hr : cG O L m C s t=true
   ·rw [EH hr] at h
    by_cases ht : ∃x ∈ t,x ∈ T
    ·obtain ⟨x,hx,hxT⟩:=ht
     have hxk : x ∈ lr C s z t:=by unfold lr;rw [EH (by omega),Gj];exact ⟨hx,by simpa using λhxz=>hz x hxz hxT⟩
     obtain ⟨k,z',ts',rest',h1,h2,h3,h4⟩:=qf _ _ _ _ h hz ⟨x,hxk,hxT⟩
     have hks:=(kU hr).2 k (Bl h1).1
     refine tg d (s ++ [k]) z' ts' rest' (by simp;omega) ?_ h4 T hT ?_ h3
     ·rw [FT]
      exact ⟨hn,by simp,λa ha b hb e=>hks (by rw [List.mem_singleton.1 hb] at e;exact e ▸ ha)⟩
     ·intro y hy
      rcases List.mem_append.1 hy with hy | hy
      ·exact hs y hy
      ·rw [List.mem_singleton.1 hy];exact h2
    ·exact ⟨s,t,hr,hn,hs,λx hx hxT=>ht ⟨x,hx,hxT⟩⟩
   ·rw [EG hr] at h;cases h
theorem zd {ts : LL} (h : mI O L m C ts=0) (T : LI) (hT : T.length<=C.W) : ∃s' t,cG O L m C s' t=true/\s'.Nodup/\(∀x ∈ s',x ∈ T)/\∀x ∈ t,¬ x ∈ T:=by
 unfold mI at h;split at h
 ·rename_i hf;exact tg C.W [] [] ts [] (by simp) (by simp) hf T hT (λx hx=>by simp at hx) λx hx=>by simp at hx
 ·cases h
end
section
theorem jG (O : aL) (v : LI) (i : Nat) (r : LI) (h : r.length=v.length) : (q9 O v i r).length=v.length:=by unfold q9;split <;> simp [h]
theorem AV (O : aL) (v : LI) (i : Nat) (r : LI) (j : Nat) (h : r.length=v.length) (hj : j<v.length) (h0 : nth v i ≠ 0) :
  nth (q9 O v i r) j=if nth r j=0 then nth v j else O.add (nth v j) (O.neg (O.mul (nth v i) (nth r j))):=by unfold q9;rw [EG h0,ai (show j<_ by simp [h];omega),ai hj,ai (show j<r.length by omega)];simp
theorem BE {O : aL} {El : Int->Prop} (hO : pz O El) {v r : LI} {i : Nat} (hv : ∀x ∈ v,El x) (hr : ∀x ∈ r,El x) (hl : r.length=v.length) (hi : i<v.length) : ∀x ∈ q9 O v i r,El x:=by
 intro x hx;by_cases h0 : nth v i=0
 ·unfold q9 at hx;rw [EH h0] at hx;exact hv x hx
 ·obtain ⟨j,hj,rfl⟩:=List.mem_iff_getElem.1 hx;rw [jG O v i r hl] at hj;have h1:=AV O v i r j hl hj h0;rw [ai (show j<(q9 O v i r).length by rw [jG O v i r hl];exact hj)] at h1;rw [h1];have e1 : El (nth v j):=hv _ (aO hj);have e2 : El (nth r j):=hr _ (aO (by omega));have e3 : El (nth v i):=hv _ (aO hi);split
  ·exact e1
  ·exact hO.add _ _ e1 (hO.neg _ (hO.mul _ _ e3 e2))
variable {w : World} {b : Nat} {G : cC}
end
section
def bn : Nat->Nat->Nat
 | _,0=>1
 | 0,_+1=>1
 | r+1,d+1=>bn r (d+1)+bn (r+1) d
variable {O : aL} {El : Int->Prop} {m : Nat} {L : LL}
theorem vW (O : aL) (L : LL) (Q : LI) : lC O L Q<=Q.length:=vI O L Q
theorem AG (F : bU O El) (hL : bx El m L) {Q Q' : LI} (h : ∀x ∈ Q,x ∈ Q') : lC O L Q<=lC O L Q' :=
 Aa F hL λx hx=>by obtain ⟨y,hy,e⟩:=kF.1 hx;exact (lE F hL).mem _ _ (kF.2 ⟨y,h y hy,e⟩)
variable {C : iV}
def C9 (O : aL) (L : LL) (m : Nat) (C : iV) (s : LI) : Nat:=if C.cos=true then lC O L (aP false s m) else C.M
structure zL (O : aL) (L : LL) (m : Nat) (C : iV) (s z : LI) : Prop where
 sn : s.Nodup
 sb : ∀x ∈ s,0<=x/\x<(m : Int)
 zn : z.Nodup
 zb : ∀x ∈ z,0<=x/\x<(m : Int)
 sz : ∀x ∈ z,¬ x ∈ s
 zi : lC O L z=z.length
 zk : ¬ C.cos=true->z.length<=C.M
theorem zL.root : zL O L m C [] []:=⟨by simp,λx hx=>by simp at hx,by simp,λx hx=>by simp at hx,λx hx=>by simp at hx,rfl,λ_=>EL _⟩
theorem yR {s t : LI} (h : cG O L m C s t=true) : t.length=C9 O L m C s/\lC O L t=t.length:=by
 unfold cG at h;rw [EW,EW,E3] at h;refine ⟨?_,h.2.1⟩;have h2:=h.2.2;unfold C9;split
 ·rename_i hc;rw [EH hc,EW,E3] at h2;exact h2.1.symm
 ·rename_i hc;rw [EG hc,E3] at h2;exact h2
theorem xV {s z : LI} (hz : z.Nodup) : (gW m s z).Nodup:=by
 unfold gW;rw [FT];refine ⟨(eW z).nodup_iff.2 hz,(jU false (s ++ z) m).imp λh=>by omega,λa ha b hb e=>?_⟩;obtain ⟨j,hj,rfl,hd⟩:=(eo m).1 hb;have hn : ¬ (j : Int) ∈ s ++ z:=by simpa using hd
 exact hn (List.mem_append.2 (.inr ((eW z).mem_iff.1 (e ▸ ha))))
theorem AF {s z : LI} {x : Int} : x ∈ dL O L m C s z ↔ x ∈ tm O L (gW m s z) (if C.cos=true then m else C.M):=(eW _).mem_iff
theorem vh {s z : LI} (hz : z.Nodup) : (dL O L m C s z).Nodup:=by unfold dL;refine (eW _).nodup_iff.2 ?_;unfold tm;refine Gt (Hj _ _) ?_;exact gr_nodup (xV hz)
where gr_nodup {Q : LI} (hQ : Q.Nodup) : (mz O L Q).Nodup := Gt (gr_sub Q Q.length (EF _)) (by rw [IP]; exact hQ)
      gr_sub (Q : LI) : ∀k,k<=Q.length->((dy O L Q k).2).Sublist (Q.take k)
 | 0,_=>by simp [dy]
 | k+1,h=>by
  have ih:=gr_sub Q k (by omega);rw [dy,EV (by omega)];split
  ·rw [ai (show k<Q.length by omega)];exact ih.append (List.Sublist.refl _)
  ·exact ih.trans (List.sublist_append_left _ _)
end
section
theorem gE (O : aL) (t i : Nat) (L : LL) : ∀l,(lf O t i L l).length=L.length
 | 0=>rfl
 | l+1=>by
  rw [lf];split
  ·rw [Fu];exact gE O t i L l
  ·exact gE O t i L l
theorem bx.Ez {O : aL} {El : Int->Prop} {m : Nat} (hO : pz O El) {L : LL} {t i : Nat} (hL : bx El m L) (ht : t<L.length) (hi : i<m) : ∀l,l<=L.length->bx El m (lf O t i L l)
 | 0,_=>hL
 | l+1,hl=>by
  have ih:=bx.Ez hO hL ht hi l (by omega);rw [lf];split
  ·have h1:=ih.row (i:=l) (by rw [gE];omega);have h2:=ih.row (i:=t) (by rw [gE];omega);exact ih.set l ⟨by rw [jG _ _ _ _ (by rw [h1.1,h2.1])];exact h1.1,BE hO h1.2 h2.2 (by rw [h1.1,h2.1]) (by rw [h1.1];exact hi)⟩
  ·exact ih
variable {w : World} {b : Nat} {G : cC}
end
theorem sJ {L : LL} {i t : Nat} (ht : t<=L.length) (h : aM L i t ≠ L.length) : t<=aM L i t/\aM L i t<L.length/\nth (af L (aM L i t)) i ≠ 0:=by
 have h1:=jf (c:=i) ht;refine ⟨h1.1,by omega,?_⟩;unfold aM;refine eB L i _ _ ?_;have : aM L i t<L.length:=by omega
 unfold aM at this;omega
section
def mg (O : aL) (p : LI) (i : Nat) (r : LI) : LI :=
 if nth r i=0 then r else List.zipWith (λa x=>O.add a (O.neg (O.mul (O.mul (nth r i) (O.inv (nth p i))) x))) r p
def gB (O : aL) (R : LL) (p i : Nat) : Nat->LL
 | 0=>[]
 | l+1=>if l=p then gB O R p i l else gB O R p i l ++ [mg O (af R p) i (af R l)]
def pB (O : aL) (R : LL) (i : Nat) : LL :=
 if aM R i 0=R.length then R else gB O R (aM R i 0) i R.length
def dA (O : aL) (n : Nat) : Nat->LL->Nat->LI->LI
 | 0,R,x,o=>if R.length=0 then o else o.set x R.length
 | d+1,R,x,o=>if R.length=0 then o else dA O n d (pB O R (n - (d+1))) x (dA O n d R (x+2 ^ (n - (d+1))) o)
def gj (O : aL) (n : Nat) (L : LL) : LI:=dA O n n L 0 (List.replicate (2 ^ n) 0)
def iB (O : aL) (n x : Nat) : Nat->LL->LL
 | 0,R=>R
 | d+1,R=>iB O n x d (if x.testBit (n - (d+1))=true then R else pB O R (n - (d+1)))
variable {O : aL} {El : Int->Prop} {m : Nat} {L : LL}
theorem iG (O : aL) {p r : LI} {i : Nat} (h : p.length=r.length) : (mg O p i r).length=r.length:=by
 unfold mg;split
 ·rfl
 ·rw [GW];omega
theorem kT (O : aL) {p r : LI} {i j : Nat} (h : p.length=r.length) (hj : j<r.length) : nth (mg O p i r) j=if nth r i=0 then nth r j else O.add (nth r j) (O.neg (O.mul (O.mul (nth r i) (O.inv (nth p i))) (nth p j))):=by
 have hl:=iG O (i:=i) h;unfold mg at hl ⊢;split
 ·rfl
 ·rename_i h0;rw [EG h0] at hl;rw [ai (by omega),ai hj,ai (show j<p.length by omega)];simp
theorem gP {R : LL} {p i : Nat} {r : LI} : ∀ {l},r ∈ gB O R p i l ↔ ∃j,j<l/\j ≠ p/\r=mg O (af R p) i (af R j)
 | 0=>by simp [gB]
 | l+1=>by
  have ih:=gP (R:=R) (p:=p) (i:=i) (r:=r) (l:=l);rw [gB];constructor
  ·intro h;by_cases e : l=p
   ·rw [EH e] at h;obtain ⟨j,h1,h2⟩:=ih.1 h;exact ⟨j,by omega,h2⟩
   ·rw [EG e] at h;rcases List.mem_append.1 h with h | h
    ·obtain ⟨j,h1,h2⟩:=ih.1 h;exact ⟨j,by omega,h2⟩
    ·exact ⟨l,by omega,e,List.mem_singleton.1 h⟩
  ·rintro ⟨j,h1,h2,h3⟩;by_cases e : l=p
   ·rw [EH e];exact ih.2 ⟨j,by omega,h2,h3⟩
   ·rw [EG e];by_cases e2 : j=l
    ·subst e2;exact List.mem_append.2 (.inr (List.mem_singleton.2 h3))
    ·exact List.mem_append.2 (.inl (ih.2 ⟨j,by omega,h2,h3⟩))
theorem jJ (O : aL) (R : LL) (p i : Nat) : ∀l,(gB O R p i l).length=if p<l then l - 1 else l
 | 0=>by simp [gB]
 | l+1=>by
  have ih:=jJ O R p i l;rw [gB];split
  ·rename_i e;subst e;rw [ih,EG (by omega),EH (by omega)];rfl
  ·rename_i e;rw [ER,ih,E0];by_cases h : p<l
   ·rw [EH h,EH (by omega)];omega
   ·rw [EG h,EG (by omega)]
theorem jb {R : LL} {r : LI} (h : r ∈ R) : ∃j,j<R.length/\af R j=r:=by obtain ⟨j,hj,e⟩:=List.mem_iff_getElem.1 h;exact ⟨j,hj,by rw [aE hj];exact e⟩
theorem RS.mem (F : bU O El) {r : LI} (h : r ∈ L) : RS O El m L (λx=>nth r x):=by obtain ⟨j,hj,rfl⟩:=jb h;exact .row F hj
theorem RS.el (F : bU O El) (hL : bx El m L) {f : Nat->Int} (h : RS O El m L f) {x : Nat} (hx : x<m) : El (f x):=by obtain ⟨e,he,h2⟩:=h;rw [h2 x hx];exact he.el _ (cA hL F.zero x)
theorem RS.Es (F : bU O El) (hL : bx El m L) {f : Nat->Int} (h : RS O El m L f) {x : Nat} (hx : x<m) (h0 : ∀r ∈ L,nth r x=0) : f x=0:=by obtain ⟨e,he,h2⟩:=h;rw [h2 x hx,mc F he (cA hL F.zero x)];refine qC F _ λp hp=>?_;show O.mul (e (gg L.length p)) (nth (aQ L x) p)=0;rw [bR _ _ p hp,h0 _ (dN hp),F.dh (he.el _ (iU F _ p))]
theorem BM (F : bU O El) (hL : bx El m L) {r : LI} (hr : Vc El m r) {f : Nat->Int} (h : RS O El m (L ++ [r]) f) : ∃s g,El s/\RS O El m L g/\∀x,x<m->f x=O.add (g x) (O.mul s (nth r x)):=by
 obtain ⟨e,he,h2⟩:=h;have hLr : bx El m (L ++ [r]):=λy hy=>by
  rcases List.mem_append.1 hy with hy | hy
  ·exact hL y hy
  ·rw [List.mem_singleton.1 hy];exact hr
 have hlen : (L ++ [r]).length=L.length+1:=by simp
 obtain ⟨c,hc⟩ : ∃c,((List.range L.length).map λt=>e (gg (L.length+1) t))=c:=⟨_,rfl⟩
 have hcn : ∀t,t<L.length->nth c t=e (gg (L.length+1) t):=λt ht=>by rw [<- hc,ai (by simpa using ht)];simp
 have hel : ∀t,El (e (gg (L.length+1) t)):=λt=>by refine he.el _ ?_;rw [hlen];exact iU F _ t
 have hce : ∀k,k<L.length->El (nth c k):=λk hk=>by rw [hcn k hk];exact hel k
 obtain ⟨c1,c2⟩:=jR F hL hce L.length (EF _);refine ⟨e (gg (L.length+1) L.length),_,hel _,c2,λx hx=>?_⟩;rw [h2 x hx,mc F he (cA hLr F.zero x),iD F hL hce hx _ (EF _)];rw [hlen,ch];have h3 : nth (aQ (L ++ [r]) x) L.length=nth r x:=by rw [bR _ _ _ (by rw [hlen];omega)];congr 1;rw [aE (by rw [hlen];omega)];simp
 rw [h3];congr 1;refine cT _ λp hp=>⟨(hcn p hp).symm,?_⟩
 rw [bR _ _ _ (by rw [hlen];omega)];congr 1;rw [aE (by rw [hlen];omega),aE hp,Gs]
theorem xr (hO : pz O El) {p r : LI} (hp : Vc El m p) (hr : Vc El m r) {i : Nat} (hi : i<m) (h0 : nth p i ≠ 0) : Vc El m (mg O p i r):=by
 have hl : p.length=r.length:=by rw [hp.1,hr.1]
 refine ⟨by rw [iG O hl];exact hr.1,λx hx=>?_⟩;obtain ⟨j,hj,rfl⟩:=List.mem_iff_getElem.1 hx;rw [<- ai];rw [iG O hl] at hj;rw [kT O hl hj];have hj' : j<m:=by rw [hr.1] at hj;exact hj
 split
 ·exact hr.at hj'
 ·exact hO.add _ _ (hr.at hj') (hO.neg _ (hO.mul _ _ (hO.mul _ _ (hr.at hi) (hO.inv _ (hp.at hi) h0)) (hp.at hj')))
theorem vA (O : aL) (R : LL) (i : Nat) : (pB O R i).length<=R.length:=by
 unfold pB;split
 ·exact EF _
 ·rw [jJ];split <;> omega
theorem BH (hO : pz O El) {R : LL} (hR : bx El m R) {i : Nat} (hi : i<m) : bx El m (pB O R i):=by
 unfold pB;split
 ·exact hR
 ·rename_i hf;obtain ⟨_,hp,hp0⟩:=sJ (EL _) hf;intro r hr;obtain ⟨j,hj,_,rfl⟩:=gP.1 hr;exact xr hO (hR.row hp) (hR.row hj) hi hp0
theorem zp (F : bU O El) {p r : LI} (hp : Vc El m p) (hr : Vc El m r) {i : Nat} (hi : i<m) (h0 : nth p i ≠ 0) : nth (mg O p i r) i=0:=by
 have hl : p.length=r.length:=by rw [hp.1,hr.1]
 rw [kT O hl (by rw [hr.1];exact hi)];split
 ·assumption
 ·have h1:=hp.at hi;have h2:=hr.at hi;have h3:=F.cl.inv _ h1 h0;rw [F.mul_assoc _ _ _ h2 h3 h1,F.mul_comm _ _ h3 h1,F.mul_inv _ h1 h0,F.kg h2,F.add_neg _ h2]
structure sY (O : aL) (El : Int->Prop) (m : Nat) (L R : LL) (Z : LI) : Prop where
 rws : bx El m R
 sub : gy O El m R L
 zero : ∀r ∈ R,∀z ∈ Z,nth r z.toNat=0
 all : ∀f,RS O El m L f->(∀z ∈ Z,f z.toNat=0)->RS O El m R f
 cnt : R.length+lC O L Z=L.length
theorem sY.init (F : bU O El) (hL : bx El m L) : sY O El m L L [] :=
 ⟨hL,gy.refl F L,λ_ _ z hz=>by simp at hz,λ_ h _=>h,by have:=vW O L [];simp at this;omega⟩
theorem BO (F : bU O El) (hL : bx El m L) {Q : LI} {x : Int} (h : lQ O El L.length (aQ L) (gA Q) x.toNat) : lC O L (Q ++ [x])=lC O L Q:=by have h1:=kE F hL (Q ++ [x]);rw [xF] at h1;exact h1.uniq (Rk.dep _ h (kE F hL Q))
theorem sY.step (F : bU O El) (hL : bx El m L) {R : LL} {Z : LI} (h : sY O El m L R Z) (hZ : ∀z ∈ Z,0<=z/\z<(m : Int)) {i : Nat} (hi : i<m) : sY O El m L (pB O R i) (Z ++ [(i : Int)]):=by
 unfold pB;by_cases hf : aM R i 0=R.length
 ·rw [EH hf];have h0 : ∀r ∈ R,nth r i=0:=λr hr=>by obtain ⟨j,hj,rfl⟩:=jb hr;refine iA R i (R.length - 0) 0 j (EL _) ?_;unfold aM at hf;omega
  have hall : ∀f,RS O El m L f->(∀z ∈ Z,f z.toNat=0)->f i=0:=λf hf hz=>RS.Es F h.rws (h.all f hf hz) hi h0;refine ⟨h.rws,h.sub,λr hr z hz=>?_,λf hf hz=>h.all f hf λz hz'=>hz z (List.mem_append.2 (.inl hz')),?_⟩
  ·rcases List.mem_append.1 hz with hz | hz
   ·exact h.zero r hr z hz
   ·rw [List.mem_singleton.1 hz];simpa using h0 r hr
  ·rw [BO F hL λφ hφ h1=>?_]
   ·exact h.cnt
   ·refine hall (λx=>φ (aQ L x)) ⟨φ,hφ,λ_ _=>rfl⟩ λz hz=>h1 _ (kF.2 ⟨z,hz,rfl⟩)
 ·rw [EG hf];obtain ⟨_,hp,hp0⟩:=sJ (EL _) hf;obtain ⟨p,hpe⟩ : ∃p,aM R i 0=p:=⟨_,rfl⟩
  rw [hpe] at hp hp0 ⊢;clear hf hpe;have hpv : Vc El m (af R p):=h.rws.row hp;have hR' : bx El m (gB O R p i R.length):=λr hr=>by obtain ⟨j,hj,_,rfl⟩:=gP.1 hr;exact xr F.cl hpv (h.rws.row hj) hi hp0
  have hpr : RS O El m R (λx=>nth (af R p) x):=.row F hp;have hpi:=hpv.at hi;have hinv:=F.cl.inv _ hpi hp0;have hat : ∀j x,j<R.length->x<m->nth (mg O (af R p) i (af R j)) x=O.add (nth (af R j) x) (O.neg (O.mul (nth (af R p) x) (if nth (af R j) i=0 then 0 else O.mul (nth (af R j) i) (O.inv (nth (af R p) i))))):=λj x hj hx=>by
   have hjv : Vc El m (af R j):=h.rws.row hj;rw [kT O (by rw [hpv.1,hjv.1]) (by rw [hjv.1];exact hx)];by_cases h0 : nth (af R j) i=0
   ·rw [EH h0,EH h0,F.dh (hpv.at hx),F.ey,F.add_zero _ (hjv.at hx)]
   ·rw [EG h0,EG h0,F.mul_comm _ _ (hpv.at hx) (F.cl.mul _ _ (hjv.at hi) hinv)]
  have hs : ∀j,j<R.length->El (if nth (af R j) i=0 then 0 else O.mul (nth (af R j) i) (O.inv (nth (af R p) i))):=λj hj=>by
   split
   ·exact F.zero
   ·exact F.cl.mul _ _ (Jd (h.rws.row hj) hi) hinv
  have hsub : gy O El m (gB O R p i R.length) R:=λk hk=>by obtain ⟨j,hj,_,e⟩:=gP.1 (dN hk);rw [e];exact ((Jp F hj).comb F hpr (hs j hj)).congr λx hx=>hat j x hj hx
  have hz' : ∀r ∈ gB O R p i R.length,nth r i=0:=λr hr=>by obtain ⟨j,hj,_,rfl⟩:=gP.1 hr;exact zp F hpv (h.rws.row hj) hi hp0
  refine ⟨hR',hsub.trans h.sub,λr hr z hz=>?_,λf hf hz=>?_,?_⟩
  ·rcases List.mem_append.1 hz with hz | hz
   ·obtain ⟨j,hj,_,rfl⟩:=gP.1 hr;have hzb:=hZ z hz;rw [hat j _ hj (by omega),h.zero _ (dN hj) z hz,h.zero _ (dN hp) z hz,F.jh (hs j hj),F.ey,F.add_zero _ F.zero]
   ·rw [List.mem_singleton.1 hz];simpa using hz' r hr
  ·have hfR := h.all f hf λz hz'' => hz z (List.mem_append.2 (.inl hz''));have hRJ : bx El m (gB O R p i R.length ++ [af R p]):=λy hy=>by
    rcases List.mem_append.1 hy with hy | hy
    ·exact hR' y hy
    ·rw [List.mem_singleton.1 hy];exact hpv
   have hback : gy O El m R (gB O R p i R.length ++ [af R p]):=λj hj=>by
    have hlast : RS O El m (gB O R p i R.length ++ [af R p]) (λx=>nth (af R p) x):=RS.mem F (List.mem_append.2 (.inr (List.mem_singleton.2 rfl)));by_cases e : j=p
    ·subst e;exact hlast
    ·have hj' : RS O El m (gB O R p i R.length ++ [af R p]) (λx=>nth (mg O (af R p) i (af R j)) x):=RS.mem F (List.mem_append.2 (.inl (gP.2 ⟨j,hj,e,rfl⟩)));refine (RS.add F hRJ hj' hlast (hs j hj)).congr λx hx=>?_;have hq:=F.cl.mul _ _ (hpv.at hx) (hs j hj);have hjx : El (nth (af R j) x):=Jd (h.rws.row hj) hx;rw [hat j x hj hx,F.add_assoc _ _ _ hjx (F.cl.neg _ hq) hq,F.od hq,F.add_zero _ hjx]
   obtain ⟨s,g,hse,hg,hfx⟩:=BM F hR' hpv (hback.rs hfR);have hgi:=RS.Es F hR' hg hi hz';have hfi:=hz i (List.mem_append.2 (.inr (List.mem_singleton.2 rfl)));rw [EM,hfx i hi,hgi,F.tD (F.cl.mul _ _ hse hpi)] at hfi;have hs0 : s=0:=by have h1:=congrArg (λy=>O.mul y (O.inv (nth (af R p) i))) hfi;change O.mul (O.mul s (nth (af R p) i)) (O.inv (nth (af R p) i))=O.mul 0 (O.inv (nth (af R p) i)) at h1;rw [F.mul_assoc _ _ _ hse hpi hinv,F.mul_inv _ hpi hp0,F.kg hse,F.jh hinv] at h1;exact h1
   refine hg.congr λx hx=>?_;rw [hfx x hx,hs0,F.jh (hpv.at hx),F.add_zero _ (RS.el F hR' hg hx)]
  ·have hne : ¬ lQ O El L.length (aQ L) (gA Z) ((i : Int)).toNat:=λhcl=>by obtain ⟨φ,hφ,h2'⟩:=h.sub p hp;have h2 : ∀x,x<m->nth (af R p) x=φ (aQ L x):=h2';rw [EM] at hcl;refine hp0 ?_;rw [h2 i hi];refine hcl φ hφ λy hy=>?_;obtain ⟨z,hz,rfl⟩:=kF.1 hy;have hzb:=hZ z hz;rw [<- h2 _ (by omega)];exact h.zero _ (dN hp) z hz
   rw [B5 F hL hne,jJ,EH hp];have:=h.cnt;omega
def jw (x : Nat) : Nat->LI
 | 0=>[]
 | k+1=>if x.testBit k=true then jw x k else jw x k ++ [(k : Int)]
theorem qu {x : Nat} {y : Int} : ∀ {k},y ∈ jw x k ↔ ∃j : Nat,j<k/\y=j/\x.testBit j=false
 | 0=>by simp [jw]
 | k+1=>by
  have ih:=qu (x:=x) (y:=y) (k:=k);rw [jw];constructor
  ·intro h;split at h
   ·obtain ⟨j,h1,h2⟩:=ih.1 h;exact ⟨j,by omega,h2⟩
   ·rename_i hb;rcases List.mem_append.1 h with h | h
    ·obtain ⟨j,h1,h2⟩:=ih.1 h;exact ⟨j,by omega,h2⟩
    ·exact ⟨k,by omega,List.mem_singleton.1 h,by simpa using hb⟩
  ·rintro ⟨j,h1,h2,h3⟩;by_cases e : j=k
   ·subst e;rw [EG (by rw [h3];decide)];exact List.mem_append.2 (.inr (List.mem_singleton.2 h2))
   ·split
    ·exact ih.2 ⟨j,by omega,h2,h3⟩
    ·exact List.mem_append.2 (.inl (ih.2 ⟨j,by omega,h2,h3⟩))
theorem uA (F : bU O El) (hL : bx El m L) {n x : Nat} (hn : n<=m) : ∀(d : Nat) (R : LL),d<=n->sY O El m L R (jw x (n - d))->sY O El m L (iB O n x d R) (jw x n)
 | 0,R,_,h=>by rw [iB];exact h
 | d+1,R,hd,h=>by
  rw [iB];refine uA F hL hn d _ (by omega) ?_;have e : n - d=(n - (d+1))+1:=by omega
  rw [e,jw];split
  ·exact h
  ·refine h.step F hL (λz hz=>?_) (by omega);obtain ⟨j,h1,h2,_⟩:=qu.1 hz;omega
theorem uS (F : bU O El) (hL : bx El m L) (x : Nat) : (iB O m x m L).length+lC O L (jw x m)=L.length :=
 (uA F hL (EF m) m L (EF m) (by rw [Ge];exact sY.init F hL)).cnt
theorem wY (O : aL) {R : LL} (h : R.length=0) (i : Nat) : (pB O R i).length=0:=by obtain rfl:=Fi h;unfold pB;simp [aM,dJ]
theorem uQ (O : aL) (n x : Nat) : ∀(d : Nat) (R : LL),R.length=0->(iB O n x d R).length=0
 | 0,R,h=>by rw [iB];exact h
 | d+1,R,h=>by
  rw [iB];refine uQ O n x d _ ?_;split
  ·exact h
  ·exact wY O h _
theorem mA (O : aL) (n : Nat) : ∀(d : Nat) (R : LL) (x : Nat) (o : LI),(dA O n d R x o).length=o.length
 | 0,R,x,o=>by
  rw [dA];split
  ·rfl
  ·rw [Fu]
 | d+1,R,x,o=>by
  rw [dA];split
  ·rfl
  ·rw [mA O n d,mA O n d]
theorem mod_succ (y k : Nat) : y % 2 ^ (k+1)=y % 2 ^ k+(if y.testBit k=true then 2 ^ k else 0):=by rw [Nat.mod_pow_succ,mJ];rcases FA (y / 2 ^ k) with h | h <;> simp [h]
theorem lX (O : aL) (n : Nat) : ∀(d : Nat) (R : LL) (x : Nat) (o : LI),d<=n->o.length=2 ^ n->x<2 ^ (n - d)->∀y,y<2 ^ n ->
  nth (dA O n d R x o) y=if y % 2 ^ (n - d)=x/\(iB O n y d R).length ≠ 0 then ((iB O n y d R).length : Int) else nth o y
 | 0,R,x,o,_,ho,hx,y,hy=>by
  rw [dA,iB,H7,Ga hy];by_cases h : R.length=0
  ·rw [EH h,EG λhh=>hh.2 h]
  ·rw [EG h,cX _ _ _ _ (by rw [ho];simpa using hx)];by_cases e : y=x
   ·rw [EH e,EH ⟨e,h⟩]
   ·rw [EG e,EG λhh=>e hh.1]
 | d+1,R,x,o,hd,ho,hx,y,hy=>by
  rw [dA,iB];by_cases h : R.length=0
  ·rw [EH h,EG];refine λhh=>hh.2 (uQ O n y d _ ?_);split
   ·exact h
   ·exact wY O h _
  ·rw [EG h];obtain ⟨k,hk⟩ : ∃k,n - (d+1)=k:=⟨_,rfl⟩
   have e : n - d=k+1:=by omega
   rw [hk] at hx ⊢;have hx2 : x<2 ^ (n - d):=by rw [e,Gy];omega
   have hx3 : x+2 ^ k<2 ^ (n - d):=by rw [e,Gy];omega
   rw [lX O n d _ _ _ (by omega) (by rw [mA];exact ho) hx2 y hy,lX O n d _ _ _ (by omega) ho hx3 y hy,e,mod_succ];have hym : y % 2 ^ k<2 ^ k:=H6 _ (IX k);by_cases hb : y.testBit k=true
   ·rw [EH hb,EH hb,EG λhh=>by omega];by_cases e2 : y % 2 ^ k=x
    ·simp only [e2,true_and]
    ·rw [EG λhh=>e2 (by omega),EG λhh=>e2 hh.1]
   ·rw [EG hb,EG hb,GY];by_cases e2 : y % 2 ^ k=x/\(iB O n y d (pB O R k)).length ≠ 0
    ·rw [EH e2,EH e2]
    ·rw [EG e2,EG e2,EG λhh=>by omega]
theorem AQ (F : bU O El) (hL : bx El m L) {x : Nat} (hx : x<2 ^ m) : nth (gj O m L) x=((L.length - lC O L (jw x m) : Nat) : Int):=by
 have h:=uS F hL x;unfold gj;rw [lX O m m L 0 _ (EF _) (by simp) (by simp) x hx];rw [show m - m=0 by omega,Nat.pow_zero,Nat.mod_one];by_cases h0 : (iB O m x m L).length=0
 ·rw [EG λhh=>hh.2 h0];have e : nth (List.replicate (2 ^ m) (0 : Int)) x=0:=by unfold nth;simp only [EJ,E9];split <;> rfl
  rw [e];omega
 ·rw [EH ⟨rfl,h0⟩];omega
end
theorem aw.lB {w V V' : World} {I I' : Nat->Prop} (h : aw w V I I') (g : Below w.heap.size V V') : aw w V' I I' :=
 ⟨g.os.trans h.os,g.tape.trans h.tape,g.output.trans h.output,ET h.size g.size,λb hb hi=>(g.block b hb).trans (h.block b hb hi),h.grow⟩
theorem aw.grown {w w' : World} {K : Nat->Prop} {a : OA} {n c : Nat} (hg : w.grownBy w' (Value.slice a n c).ownBlock) (hK : a ≠ none->K (ah a)) : aw w w' K K :=
 ⟨hg.os,hg.tape,hg.output,hg.size,λb hb hi=>hg.block b hb λe=>by
  cases a with
  | none=>cases e
  | some ad =>
   have h1 : b=ad.block:=by simpa [Value.ownBlock] using e
   exact hi (h1 ▸ hK (by simp)),λb hb=>.inl hb⟩
theorem Ints.dm {w w' : World} {I I' : Nat->Prop} {a : OA} {n : Nat} {l : LI} (h : Ints w a n l) (hM : aw w w' I I') (hI : 0<n->¬ I (ah a)) : Ints w' a n l :=
 h.of_block λhn=>hM.block _ (h.lt hn) (hI hn)
theorem ba.dm {w w' : World} {I I' : Nat->Prop} {b : Nat} {cs : List Value} (h : ba w b cs) (hM : aw w w' I I') (hI : ¬ I b) : ba w' b cs:=by have hb:=hM.block b h.1 hI;refine ⟨Fc h.1 hM.size,λi v hv=>(E4 (w:=w) (a:=⟨b,i,none⟩) hb).trans (h.2.1 i v hv),λi=>?_⟩;rw [<- h.2.2 i];unfold World.frozen?;simp only [hb]
theorem aw.put (w : World) (b i : Nat) (v : Value) : aw w (w.setCell ⟨b,i,none⟩ v) (λx=>x=b) (λx=>x=b):=by have hb0 : Below 0 w (w.setCell ⟨b,i,none⟩ v):=(EI 0 w).setCell (EL _) v;exact ⟨hb0.os,hb0.tape,hb0.output,hb0.size,λx hx hI=>EZ _ _ _ _ λe=>hI e,λx hx=>.inl hx⟩
theorem r9 (pb : Nat) (a : OA) (n c : Nat) (L : LL) (i : Nat) (w : World) (p5 : w.cell? ⟨pb,5,none⟩=some (.slice a n c)) (hi : bY w a n L) (hL : ∀r ∈ L,i<r.length) (hn : n<=1000000) :
  Calls prog 283 #[.pointer (some ⟨pb,0,none⟩),.int .i64 i] w (cB w (aQ L i)):=by
 have Hlen:=Z5 hi.len;have hpl:=hi.pl;have HL:=Z5 hL;clear hL;go_enter func283,ntmps283;go_wp2_with (at_make;refine bZ rfl _ _ 22 3 rfl (.int .i64 0) 8 underlying22 bh rfl n rfl rfl (by omega) (by unfold maxLen;omega) ?_;intro a1 w1 hown hbel hge hlt;have c5 : w1.cell? ⟨pb,5,none⟩=some (.slice a n c):=aj hbel p5);have hbw : JA w w1:=hbel;have hown1 : w1.ownsRow w.heap.size 3 1 (.slice a1 n n) n (List.replicate n (.int .i64 0)):=hown;clear hown hbel;go_loopw [21] (λiv wr=>∃k : Nat,k<=n/\iv = .int .i64 k /\
   wr.ownsRow w.heap.size 3 1 (.slice a1 n n) n ((cH ((aQ L i).take k) k n).map (Value.int .i64))/\JA w wr)
  (λi _=>n - (intOf i).toNat)
 case atStart=>exact ⟨0,EL _,rfl,by simpa [cH] using hown1,hbw⟩
 case round =>
  obtain ⟨k,hk,rfl,hown,hbel⟩:=hrel
  obtain ⟨hints,hmine⟩:=I9 hown
  have hpl1:=hints.pl
  by_cases hlt : k<n
  ·obtain ⟨ra,rn,rc,hcell,hrow⟩:=(hi.aa hbel).cell k hlt
   have hkL : k<L.length:=by rw [Hlen.out];exact hlt
   have hri : i<rn:=by rw [<- hrow.len,aE hkL];exact HL.out _ (Fj hkL)
   have ci:=hrow.cell i hri
   have hpr:=hrow.pl
   have hf:=(hmine (by omega)).2 k hlt
   have hc2:=hints.cell k hlt
   have hB:=(hmine (by omega)).1
   have Hv:=Z5 (bR L i k hkL)
   go_wp2_with fail
   go_roundw
   case rel =>
    refine ⟨k+1,by omega,by go_num,?_,hbel.setCell hB _⟩
    have h:=bz hown k hlt (.int .i64 (nth (af L k) i))
    rw [<- Ff,en _ _ _ _ (by rw [Fg,b8];omega) hlt] at h
    rw [EV (by rw [b8];omega),<- ai,Hv.out]
    exact h
   case measure=>simp [intOf] <;> omega
  ·obtain rfl : k=n:=by omega
   have hl : (aQ L i).length=k:=by rw [b8];exact Hlen.out
   rw [eZ,ES (by omega)] at hown
   have Hl:=Z5 hl
   clear hl
   go_wp2_with fail
   go_ret
   exact ⟨a1,k,by rw [Hl.out];rfl,by rw [Hl.out];exact hown,hbel⟩
theorem lD {w : World} {b : Nat} {G : cC} (pb : Nat) (a : OA) (n c : Nat) (L : LL) (m : Nat) (ao : OA) (no co : Nat) (Q : LI) (most : Nat)
  (p0 : w.cell? ⟨pb,0,none⟩=some (.pointer (some ⟨b,0,none⟩))) (p5 : w.cell? ⟨pb,5,none⟩=some (.slice a n c))
  (h : dY w b G) (hi : bY w a n L) (hR : bx G.El m L) (hq : Ints w ao no Q) (hQ : ∀k,k<no->0<=nth Q k/\nth Q k<m) (hn : n<=1000000) (hno : no<=1000000) :
  Calls prog 260 #[.pointer (some ⟨pb,0,none⟩),.slice ao no co,.int .i64 most] w (cB w (tm G.ops L Q most)):=by
 have Hlen:=Z5 hi.len;have HR:=Z5 hR;have HQ:=Z5 hQ;have Hql:=Z5 hq.len;have hplq:=hq.pl;have hcl:=Z5 (Js h);have HP:=Z5 (λ(V : World) (hV : JA w V)=>aj hV p5);clear hR hQ;go_enter func260,ntmps260;go_wp2_with fail;obtain ⟨V,hV⟩ : ∃V : World,V=w.alloc (.cells #[.pointer (some ⟨b,0,none⟩),.slice none 0 0,.slice none 0 0] 277):=⟨_,rfl⟩
 rw [<- hV];have hbV : JA w V:=by rw [hV];exact aA _ _
 have hB0 : kQ V w.heap.size w.heap.size b none 0 [] none 0 ⟨[],[]⟩:=kQ.start (EF _) (by rw [hV];exact Ja _ _ _ rfl);clear hV p0 p5;go_loopw [8,19] (λqv iv wr=>∃(k : Nat) (aq : OA) (cq : Nat) (out : LI) (s : BS) (ar : OA) (cr : Nat) (R : LA) (ap : OA) (cp : Nat),k<=no/\iv = .int .i64 k/\qv = .slice aq out.length cq /\
   Hid (dy G.ops L Q k=(s,out))/\kQ wr w.heap.size w.heap.size b ar cr R ap cp s/\wr.ownsRow w.heap.size 3 1 (.slice aq out.length cq) out.length (out.map (Value.int .i64))/\Hid (aq ≠ none->¬ pr w.heap.size ar R ap (ah aq)) /\
   JA w wr/\Hid (s.Ok G.El n)/\s.rows.length<=k/\out.length<=k/\Hid (out.length<=most))
  (λ_ iv _=>no - (intOf iv).toNat)
 case atStart=>exact ⟨0,none,0,[],⟨[],[]⟩,none,0,[],none,0,EL _,rfl,rfl,rfl,hB0,bG,λh0=>absurd rfl h0,hbV,⟨λr hr=>by simp at hr,rfl,λi hi=>by simp at hi⟩,EL _,EL _,EL _⟩
 case round =>
  obtain ⟨k,aq,cq,out,s,ar,cr,R,ap,cp,hk,rfl,rfl,hst,hBr,hop,hdq,hbr,hok,hsk,hok2,hom⟩:=hrel
  generalize wr=U at *
  by_cases hlt : k<no
  ·have cq1:=(hq.aa hbr).cell k hlt
   have hQk:=HQ.out k hlt
   obtain ⟨i,hik⟩ : ∃i : Nat,nth Q k=i:=⟨(nth Q k).toNat,by omega⟩
   rw [hik] at cq1 hQk
   by_cases hmo : out.length=most
   ·have Ho : Hid (tm G.ops L Q most=out):=by show _=_;have h1:=Aq (O:=G.ops) (L:=L) (Q:=Q) (k:=k) (most:=most) (by rw [Hql.out];exact hk) (by rw [hst.out];exact hmo);rw [h1,hst.out]
    have hd : ((out.length : Int) == (most : Int))=true:=by simp;omega
    clear hmo
    go_wp2_with fail
    go_ret
    exact ⟨aq,cq,by rw [Ho.out];rfl,by rw [Ho.out];exact hop,hbr⟩
   have hd : ((out.length : Int) == (most : Int))=false:=by simp;omega
   have Hom : Hid (out.length+1<=most):=by have:=hom.out;show _<=_;omega
   have him : i<m:=by omega
   have p5:=HP.out U hbr
   have hcol:=xE HR.out him
   rw [Hlen.out] at hcol
   have hstep : dy G.ops L Q (k+1)=(s.next G.ops (aQ L i),if s.dF G.ops (aQ L i)=true then out ++ [(i : Int)] else out):=by rw [dy,hst.out,hik,EM]
   have Hstep:=Z5 hstep
   have Hcol:=Z5 hcol
   clear hstep hcol hik hmo
   go_wp2_with fail
   refine (r9 pb a n c L i U p5 (hi.aa hbr) (λr hr=>by rw [(HR.out r hr).1];exact him) hn).mono ?_
   rintro e w3 ⟨a3,c3,rfl,hown3,hb3⟩
   rw [Hcol.out.1] at hown3
   rw [Hcol.out.1]
   have hB3:=hBr.aa hb3
   have hbw3:=I8 hbr hb3
   have hn3 : a3 ≠ none->¬ pr w.heap.size ar R ap (ah a3):=λh0 hI=>by have h1:=(aU hown3 h0).1;have h2:=(hBr.lt _ hI).2;omega
   clear p5
   go_wp2_with fail
   refine (y8 w.heap.size ar cr R ap cp s a3 c3 n (aQ L i) h hbw3 hB3 hok.out (aW hown3 hbr.size) hn3 Hcol.out.2 hn (by omega)).mono ?_
   rintro e w4 ⟨ar',cr',R',ap',cp',rfl,hB4,hM4⟩
   have hbw4 : JA w w4:=hbw3.trans (hM4.below (λx hx=>by
    rcases hx with h1 | ⟨h1,h2⟩
    ·exact (hB3.lt x h1).1
    ·rw [h2];exact ET hbr.size (aU hown3 h1).1) hbw3.size)
   have hop3:=aY hop hb3
   have hnI : aq ≠ none->¬ (pr w.heap.size ar R ap (ah aq)\/(a3 ≠ none/\ah aq=ah a3)):=λh0 hI=>by
    rcases hI with h1 | ⟨h1,h2⟩
    ·exact hdq.out h0 h1
    ·have e1:=(aU hop h0).2;have e2:=(aU hown3 h1).1;omega
   have hop4:=hM4.own hop3 hnI
   have hdq4 : aq ≠ none->¬ pr w.heap.size ar' R' ap' (ah aq):=λh0=>hM4.not (aU hop3 h0).2 (hnI h0)
   have hok4 : (s.next G.ops (aQ L i)).Ok G.El n:=BS.Ok.next hcl.out hok.out Hcol.out
   have hlen4:=BS.uX G.ops s (aQ L i)
   have Hok4:=Z5 hok4
   have Hdq4:=Z5 hdq4
   clear hnI hdq4 hok4
   by_cases ht : s.dF G.ops (aQ L i)=true
   ·rw [ht]
    have Hst : Hid (dy G.ops L Q (k+1)=(s.next G.ops (aQ L i),out ++ [(i : Int)])):=by show _=_;rw [Hstep.out,EH ht]
    clear ht
    generalize s.next G.ops (aQ L i)=s' at *
    have hcn:=bk w4 (.int .i64 i) 3
    have hbn:=aA w4 (.cells #[.int .i64 i] 3)
    have hsz4:=hbw4.size
    go_wp2_with (at_builtin;refine aX rfl _ _ 22 3 rfl (.int .i64 0) 8 underlying22 bh rfl w.heap.size aq out.length cq _ rfl (hop4.alloc _) ⟨w4.heap.size,0,none⟩ 1 (.int .i64 i) rfl hcn rfl (by omega) (by unfold maxLen;omega) (by simp;omega) ?_;intro a5 c5 w5 hown5 hgr5 hap5)
    go_roundw
    case rel =>
     have hBn:=hB4.aa hbn
     have haq : ∀x,pr w.heap.size ar' R' ap' x->db aq x:=λx hx=>by
      by_cases h0 : aq=none
      ·exact .inl h0
      ·exact .inr λe=>Hdq4.out h0 (e ▸ hx)
     have hB5 : kQ w5 w.heap.size w.heap.size b ar' cr' R' ap' cp' s':=hBn.bt λx hx=>hgr5.block x (hBn.lt x hx).2 λe=>(haq x hx).own _ _ e.symm
     have hb5 : JA w w5:=Jb (Ft hbw4 (hbn.mono hsz4)) (hop4.alloc _) hgr5 (EF _) (ET hsz4 hbn.size)
     refine ⟨k+1,a5,c5,out ++ [(i : Int)],s',ar',cr',R',ap',cp',by omega,by go_num,by simp,Hst.out,hB5,?_,?_,hb5,Hok4.out,by omega,by simp;omega,?_⟩
     ·simpa using hown5
     ·show a5 ≠ none->_
      intro h0 hI
      rcases hap5 _ (hBn.lt _ hI).2 (haq _ hI) with h1 | h1
      ·exact h0 h1
      ·exact h1 rfl
     ·show _<=_
      rw [ER];exact Hom.out
    case measure=>simp [intOf] <;> omega
   ·have ht' : s.dF G.ops (aQ L i)=false:=by simpa using ht
    rw [ht']
    have Hst : Hid (dy G.ops L Q (k+1)=(s.next G.ops (aQ L i),out)):=by show _=_;rw [Hstep.out,EG ht]
    clear ht ht'
    generalize s.next G.ops (aQ L i)=s' at *
    go_wp2_with fail
    go_roundw
    case rel=>exact ⟨k+1,aq,cq,out,s',ar',cr',R',ap',cp',by omega,by go_num,rfl,Hst.out,hB4,hop4,Hdq4.out,hbw4,Hok4.out,by omega,by omega,hom.out⟩
    case measure=>simp [intOf] <;> omega
  ·obtain rfl : k=no:=by omega
   have Ho : Hid (tm G.ops L Q most=out):=by show _=_;have h1:=CD (O:=G.ops) (L:=L) (Q:=Q) (most:=most) (by rw [Hql.out,hst.out];exact hom.out);rw [h1,Hql.out,hst.out]
   go_wp2_with fail
   go_ret
   exact ⟨aq,cq,by rw [Ho.out];rfl,by rw [Ho.out];exact hop,hbr⟩

def Jj:=@aw.grown
end Go.Proofs.YtjfiflldinnhmaaGreat
