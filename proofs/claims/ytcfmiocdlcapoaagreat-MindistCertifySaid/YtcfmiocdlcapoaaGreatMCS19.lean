import Derived.Test.YtcfmiocdlcapoaaGreatMCS16
import Derived.OpenShut
import Derived.ShutString
import Derived.ChangeOld
import Derived.Deep.Matrix
namespace Go.Proofs.YtcfmiocdlcapoaaGreat
set_option linter.all false
set_option maxRecDepth 100000
set_option maxHeartbeats 4000000
open Go.RowKit Go.Proofs.Tryz
def xP (n : Nat) (Q : Lz) (L : Ll) (w : World) (e : Ending) (w' : World) : Prop :=
 ∃a1 c1,e = .returned (.tuple #[.agg #[.int .i64 Q.length,.slice a1 n c1],.int .i64 0])/\cH w.heap.size w' a1 n (L.map (aQ Q))/\NS w w'
theorem yx (P M : Int) (am : OA) (mn cm : Nat) (mod : Lz) (m : Nat) (a : OA) (n c : Nat) (L : Ll) (ao : OA) (no co : Nat) (Q : Lz) (w : World) (hmod : Ints w am mn mod) (hi : ch w a n L) (hq : Ints w ao no Q)
  (hE : aJ P M mod m L=0) (hQ : pA m Q) (hno : no<=256) :
  Calls prog 155 #[.agg #[.int .i64 P,.int .i64 M,.slice am mn cm],.agg #[.int .i64 m,.slice a n c],.slice ao no co] w (xP n Q L w):=by
 have Hlen:=Z5 hi.len;have Hql:=Z5 hq.len;have hplq:=hq.pl;have hpla:=hi.pl;obtain ⟨N',e,hm1,hm64,F,hR⟩:=br hE;obtain rfl : m=N':=by omega
 have hL256:=(dP hE).choose_spec.2.2.2.1;have hn : n<=256:=by rw [<- hi.len];exact hL256
 obtain ⟨h5,h6⟩:=dR (bl hE).2.2.2;obtain ⟨hfB,h8⟩:=fo h5;have HLl : Hid (∀k,k<n->(an L k).length=m):=λk hk=>(hR.row (i:=k) (by rw [hi.len];exact hk)).1;have HQ:=Z5 hQ;obtain ⟨L2,hL2⟩ : ∃L2,L.map (aQ Q)=L2:=⟨_,rfl⟩
 have HL2l : Hid (L2.length=n):=by show _=_;rw [<- hL2,Jl];exact Hlen.out
 have HLk : Hid (∀k,k<n->L2.take (k+1)=L2.take k ++ [aQ Q (an L k)]):=λk hk=>by
  have hk' : k<L2.length:=by rw [HL2l.out];exact hk
  rw [Ja hk',<- aE hk',<- hL2,nL _ L (by rw [Hlen.out];exact hk)]
 unfold xP;rw [hL2,Hql.out];clear hE h5 h6 e hL256 F hR hQ hL2;go_enter func155,ntmps155;go_wp2_with fail;obtain ⟨W,hW⟩ : ∃W : World,W=((((w.alloc (.cells #[.int .i64 P,.int .i64 M,.slice am mn cm] 24)).alloc (.cells #[.int .i64 m,.slice a n c] 82)).alloc (.cells #[.int .i64 0,.slice none 0 0] 82)).alloc (.cells #[.int .i64 m,.slice a n c] 82)):=⟨_,rfl⟩
 rw [<- hW];have hbW : NS w W:=by rw [hW];exact ((((I1 _ _).alloc (IZ _) _).alloc (by simp) _).alloc (by simp;omega) _).alloc (by simp;omega) _
 have hsW : W.heap.size=w.heap.size+4:=by rw [hW];simp
 have x1 : aZ W (w.heap.size+1) [.int .i64 m,.slice a n c]:=by rw [hW];exact ((Nj _ _ _ (by simp)).alloc _).alloc _
 have x2 : aZ W (w.heap.size+1+1) [.int .i64 0,.slice none 0 0]:=by rw [hW];exact (Nj _ _ _ (by simp)).alloc _
 have q3 : W.cell? ⟨w.heap.size+1+1+1,0,none⟩=some (.int .i64 m)/\W.cell? ⟨w.heap.size+1+1+1,1,none⟩=some (.slice a n c):=by rw [hW];exact ⟨aG _ _ _ (by simp) 0,aG _ _ _ (by simp) 1⟩
 have hMs : yh W (some ⟨w.heap.size+1+1+1,0,none⟩) 1 [((m : Int),L)]:=⟨rfl,λ_=>rfl,by unfold maxLen;omega,λi hi'=>by
  have : i=0:=by simp at hi';omega
  subst this;exact ⟨a,n,c,by simpa using q3.1,by simpa using q3.2,hi.aa hbW⟩⟩
 have HX:=Z5 (Jg x1 x2);have HsW:=Z5 hsW;have HbW:=Z5 hbW;clear hW hsW x1 x2 q3;refine (nj P M am mn cm mod _ 1 1 _ W (hmod.aa hbW) hMs).mono ?_;rintro e w1 ⟨hb1,hcase⟩;rw [lJ] at hcase;rcases hcase with ⟨hB,_⟩ | ⟨_,er,h0,h1,_⟩ | ⟨_,_,b,rfl,hG,hbl⟩
 ·rw [hfB] at hB;exact absurd hB (by decide)
 ·rw [h8] at h1;exact absurd h1.symm h0
 have hbw1:=Nh hbW hb1;have r1:=HX.out.1.aa hb1;have m0:=r1.cell 0 rfl;have m1:=r1.cell 1 rfl;have hq1:=hq.aa hbw1;have d256 : decide ((256 : Int)<no)=false:=by simp;omega
 clear hMs hfB h8 hbW r1 hG hbl;go_wp2_with fail;go_loop [35] (λiv=>∃k : Nat,k<=no/\iv = .int .i64 k) (λiv=>no - (intOf iv).toNat);case atStart=>exact ⟨0,I7 _,rfl⟩
 case round =>
  obtain ⟨k,hk,rfl⟩:=hrel
  by_cases hlt : k<no
  ·have cq:=hq1.cell k hlt
   have hb:=HQ.out k (by rw [Hql.out];exact hlt)
   have e1 : decide (nth Q k<0)=false:=by simp;omega
   have e2 : decide ((m : Int)<=nth Q k)=false:=by simp;omega
   clear hb
   go_wp2_with fail
   go_round
   case rel=>exact ⟨k+1,by omega,by go_num⟩
   case measure=>simp [intOf] <;> omega
  ·obtain rfl : k=no:=by omega
   go_upto_region 12 with fail
   obtain ⟨g,hg⟩ : ∃g,w1.heap.size=g:=⟨_,rfl⟩
   have HG:=Z5 hg
   clear hg
   go_cut [12] (λv wx=>v = .pointer (some ⟨w1.heap.size,0,none⟩)/\kB wx w1.heap.size (.int .i64 k) none 0 0 [] []/\NS w1 wx)
   case first =>
    go_wp2_with fail
    go_meet
    exact ⟨rfl,kB.start (Nj w1 [.int .i64 k,.slice none 0 0] _ rfl),aw _ _⟩
   obtain ⟨rfl,hO0,hbc⟩:=hcut
   generalize wc=U at *
   have hs3:=HG.out
   rw [hs3] at hO0 ⊢
   have HbU:=Z5 (Nh hb1 hbc)
   have r1:=HX.out.1.aa HbU.out
   clear m0 m1
   have m0:=r1.cell 0 rfl
   have m1:=r1.cell 1 rfl
   have hgU:=hO0.lt
   have hgW : W.heap.size<=g:=by have:=hb1.size;omega
   have hqU:=hq1.aa hbc
   clear r1 hbc hs3 hq1
   go_wp2_with fail
   clear m0 m1
   go_loopw [55] (λiv wr=>∃(j : Nat) (a1 : OA) (c1 : Nat) (Rr : La),j<=n/\iv = .int .i64 j/\kB wr g (.int .i64 k) a1 j c1 Rr (L2.take j)/\Below g U wr) (λiv _=>n - (intOf iv).toNat)
   case atStart=>exact ⟨0,none,0,[],I7 _,rfl,by simpa using hO0,I1 _ _⟩
   case round =>
    clear hO0
    obtain ⟨j,a1,c1,Rr,hj,rfl,hO,hbr⟩:=hrel
    have hbWr:=Ju HbU.out (hbr.mono hgW)
    have hbwr:=Nh HbW.out hbWr
    have hgr:=hO.lt
    by_cases hltj : j<n
    ·obtain ⟨ra,rn,rc,hcell,hrow⟩:=(hi.aa hbwr).cell j hltj
     have hrn : rn=m:=by rw [<- hrow.len];exact HLl.out j hltj
     rw [hrn] at hcell hrow
     have Htk:=Z5 (HLk.out j hltj)
     obtain ⟨l,hl⟩ : ∃l,an L j=l:=⟨_,rfl⟩
     rw [hl] at Htk hrow
     have hplr:=hrow.pl
     obtain ⟨pk,hpk⟩ : ∃pk,aQ Q l=pk:=⟨_,rfl⟩
     have Hpk:=Z5 hpk
     have hpl : pk.length=k:=by rw [<- hpk];simp [aQ];exact Hql.out
     have Hpl:=Z5 hpl
     clear hl hrn hpk hpl
     go_wp2_with (at_make;refine cC rfl _ _ 22 3 rfl (.int .i64 0) 8 underlying22 ba rfl k rfl rfl (by omega) (by unfold maxLen;omega) ?_;intro a5 w5 hown hbel hge hlt5)
     have hown0 : w5.ownsRow wr.heap.size 3 1 (.slice a5 k k) k ((fc pk (List.replicate k 0) 0).map (Value.int .i64)):=by rw [eQ,Lb];exact hown
     clear hown hge hlt5 hcell
     generalize wr=X1 at *
     go_loopw [64] (λjv ws=>∃t : Nat,t<=k/\jv = .int .i64 t/\ws.ownsRow X1.heap.size 3 1 (.slice a5 k k) k ((fc pk (List.replicate k 0) t).map (Value.int .i64))/\NS X1 ws) (λjv _=>k - (intOf jv).toNat)
     case atStart=>exact ⟨0,I7 _,rfl,hown0,hbel⟩
     case round =>
      clear hown0 hbel
      obtain ⟨t,ht,rfl,hown,hbs⟩:=hrel
      by_cases hltt : t<k
      ·have hbU1 : NS w wr:=Nh hbwr hbs
       have cq:=(hq.aa hbU1).cell t hltt
       have hqb:=HQ.out t (by rw [Hql.out];exact hltt)
       obtain ⟨z,hz⟩ : ∃z : Nat,nth Q t=z:=⟨(nth Q t).toNat,by omega⟩
       have hzm : z<m:=by omega
       have cr:=(hrow.aa hbs).cell z hzm
       have Hst : Hid ((fc pk (List.replicate k 0) t).set t (nth l z)=fc pk (List.replicate k 0) (t+1)):=by show _=_;have h1:=ey pk (List.replicate k 0) t (by rw [Hpl.out,JW]) (by rw [JW];exact hltt);rw [<- Hpk.out,eX Q l (by rw [Hql.out];exact hltt),hz,Jd] at h1;rw [<- Hpk.out];exact h1
       rw [hz] at cq
       obtain ⟨hints,hmine⟩:=Ni hown
       have hpl5:=hints.pl
       have cz:=hints.cell t hltt
       have fz:=(hmine (by omega)).2 t hltt
       have hB:=(hmine (by omega)).1
       clear hz hqb
       go_wp2_with fail
       go_roundw
       case rel =>
        have h:=bT hown t hltt (.int .i64 (nth l z))
        rw [<- Jq,Hst.out] at h
        exact ⟨t+1,by omega,by go_num,h,hbs.setCell hB _⟩
       case measure=>simp [intOf] <;> omega
      ·obtain rfl : t=k:=by omega
       rw [fD pk (List.replicate t 0) t (by simp [Hpl.out]) (by simp)] at hown
       have hs:=hO.aa hbs
       have hOk:=hs.om.aa (aw wr (.cells #[.slice a5 t t] 22))
       have hcp:=hs.c1
       have hgs:=hs.lt
       go_wp2_with (at_builtin;refine bg rfl _ _ 25 22 rfl (.slice none 0 0) 24 underlying25 di rfl (g+1) a1 j c1 _ rfl hOk.own ⟨wr.heap.size,0,none⟩ 1 (.slice a5 t t) rfl (bk wr _ _) rfl (by omega) (by unfold maxLen;omega) (by simp;omega) ?_;intro a6 c6 w6 hown6 hgr6 hap6;have hk6:=(hs.jz hgr6).2.1;have hf6:=(hs.jz hgr6).2.2)
       go_roundw
       case rel =>
        have hra : a5 ≠ none->¬ bS a1 Rr (aj a5):=λh0 hI=>by have h1:=(aM hown h0).1;have h2:=(hO.om.lt _ hI).2;omega
        obtain ⟨hP,hbP⟩:=hs.push Hpl.out (aU hown (by omega)) hra hown6 hgr6 hap6
        exact ⟨j+1,a6,c6,_,by omega,by go_num,by rw [Htk.out,Hpk.out];exact hP,Ju hbr ((hbs.mono (by omega)).trans hbP)⟩
       case measure=>simp [intOf] <;> omega
    ·obtain rfl : j=n:=by omega
     rw [I8 (by rw [HL2l.out];exact IZ _)] at hO
     have g0:=hO.c0
     have g1:=hO.c1
     have z6:=HX.out.2.aa hbWr
     have z0:=z6.cell 0 rfl
     have z1:=z6.cell 1 rfl
     have f0:=z6.frozen 0
     have f1:=z6.frozen 1
     have hs:=HsW.out
     have hMN : cH (g+1) wr a1 j L2:=NG hO.om
     have HF:=Z5 (Jg (((hMN.setCell (p:=⟨w.heap.size+1+1,0,none⟩) (by simp;omega) (.int .i64 k)).setCell (p:=⟨w.heap.size+1+1,1,none⟩) (by simp;omega) (.slice a1 j c1)).mono (show w.heap.size<=g+1 by omega))
      ((hbwr.setCell (p:=⟨w.heap.size+1+1,0,none⟩) (by simp;omega) (.int .i64 k)).setCell (p:=⟨w.heap.size+1+1,1,none⟩) (by simp;omega) (.slice a1 j c1)))
     clear hMN z6 hO
     go_wp2_with fail
     exact bodyPost_ret (v:=.tuple #[.agg #[.int .i64 k,.slice a1 j c1],.int .i64 0]) (by simp [results,results155,go_sem,z0,z1]) rfl ⟨a1,c1,rfl,HF.out.1,HF.out.2⟩
def Dp (K : Int) (Q : Lz) (W : Int) : Bool:=decide (0<=K) && decide (K<=64) && decide (0<=W) && decide (W<=K) && decide (Q.length<=64)
def dO (K W : Int) (Q : Lz) : Nat->Int
 | 0=>0
 | k+1=>dO K W Q k+max 0 (W+1 - (K - nth Q k))
def qw (K : Int) (x : Int) : Bool:=decide (0<=x) && decide (x<=K)
def ql (K : Int) (Q : Lz) (W : Int) : Int × Int:=if Dp K Q W=true/\Q.all (qw K)=true then (dO K W Q Q.length,0) else (0,6)
theorem vH {K W : Int} {Q : Lz} (hK : 0<=K/\K<=64) (hW : 0<=W/\W<=K) (hQ : Q.all (qw K)=true) : ∀k,k<=Q.length->0<=dO K W Q k/\dO K W Q k<=200 * k
 | 0,_=>by simp [dO]
 | k+1,h=>by have ih:=vH hK hW hQ k (by omega);have hq:=List.all_eq_true.1 hQ _ (aK (i:=k) (by omega));unfold qw at hq;simp only [Jo,JH] at hq;rw [dO];omega
theorem CD (K : Int) (a : OA) (n c : Nat) (Q : Lz) (X : Int) (w : World) (hi : Ints w a n Q) :
  Calls prog 102 #[.int .i64 K,.slice a n c,.int .i64 X] w λe w'=>e = .returned (.tuple #[.int .i64 (ql K Q X).1,.int .i64 (ql K Q X).2])/\w'=w:=by
 have Hl:=Z5 hi.len;have hpl:=hi.pl;have hmax:=hi.max;unfold maxLen at hmax;go_enter func102,ntmps102;go_upto_region 1 with fail;have bad : Dp K Q X=false->ql K Q X=(0,6):=λh=>by rw [ql,I5 (by rw [h];simp)]
 have Hbad:=Z5 bad;clear bad;have hfl : Dp K Q X=(decide (0<=K) && decide (K<=64) && decide (0<=X) && decide (X<=K) && decide (n<=64)):=by rw [Dp,Hl.out]
 by_cases h1 : K<0
 ·have d1 : decide (K<0)=true:=by simpa using h1
  have HV:=Z5 (Hbad.out (by rw [hfl];simp;omega));clear h1 hfl;go_wp2_with fail;go_ret2;exact ⟨by rw [HV.out];rfl,rfl⟩
 have d1 : decide (K<0)=false:=by simpa using h1
 by_cases h2 : 64<K
 ·have d2 : decide (64<K)=true:=by simpa using h2
  have HV:=Z5 (Hbad.out (by rw [hfl];simp;omega));clear h1 h2 hfl;go_wp2_with fail;go_ret2;exact ⟨by rw [HV.out];rfl,rfl⟩
 have d2 : decide (64<K)=false:=by simpa using h2
 by_cases h3 : X<0
 ·have d3 : decide (X<0)=true:=by simpa using h3
  have HV:=Z5 (Hbad.out (by rw [hfl];simp;omega));clear h1 h2 h3 hfl;go_wp2_with fail;go_ret2;exact ⟨by rw [HV.out];rfl,rfl⟩
 have d3 : decide (X<0)=false:=by simpa using h3
 by_cases h4 : K<X
 ·have d4 : decide (K<X)=true:=by simpa using h4
  have HV:=Z5 (Hbad.out (by rw [hfl];simp;omega));clear h1 h2 h3 h4 hfl;go_wp2_with fail;go_ret2;exact ⟨by rw [HV.out];rfl,rfl⟩
 have d4 : decide (K<X)=false:=by simpa using h4
 by_cases h5 : 64<n
 ·have d5 : decide ((64 : Int)<n)=true:=by simp;omega
  have HV:=Z5 (Hbad.out (by rw [hfl];simp;omega));clear h1 h2 h3 h4 h5 hfl;go_wp2_with fail;go_ret2;exact ⟨by rw [HV.out];rfl,rfl⟩
 have d5 : decide ((64 : Int)<n)=false:=by simp;omega
 have HB : Hid (Dp K Q X=true):=by show _=_;rw [hfl];simp;omega
 have HV2 : Hid (ql K Q X=if Q.all (qw K)=true then (dO K X Q n,0) else (0,6)):=by show _=_;rw [ql,HB.out,Hl.out];simp
 clear hfl;go_wp2_with fail;go_loop [8,33] (λsv iv=>∃k : Nat,k<=n/\iv = .int .i64 k/\sv = .int .i64 (dO K X Q k)/\Hid (∀j,j<k->qw K (nth Q j)=true)) (λ_ iv=>n - (intOf iv).toNat);case atStart=>exact ⟨0,I7 _,rfl,rfl,λj hj=>by omega⟩
 case round =>
  obtain ⟨k,hk,rfl,rfl,hall⟩:=hrel
  have hbd : 0<=dO K X Q k/\dO K X Q k<=200 * k:=by
   have h:=vH (K:=K) (W:=X) (Q:=Q.take k) (by omega) (by omega) (by rw [JO];intro x hx;obtain ⟨j,hj,rfl⟩:=List.mem_iff_getElem.1 hx;rw [Jy] at hj;have:=hall.out j (by omega);rwa [List.getElem_take,<- ai (by omega)]) k (by rw [Jy];have:=Hl.out;omega);have he : ∀j,j<=k->dO K X (Q.take k) j=dO K X Q j:=λj=>by
    induction j with
    | zero=>intro _;rfl
    | succ j ih =>
     intro hj
     have e : nth (Q.take k) j=nth Q j:=by unfold nth;simp only [Jc,J9];rw [I6 (by omega)]
     rw [dO,dO,ih (by omega),e]
   rwa [he k (IZ _)] at h
  by_cases hlt : k<n
  ·have ck:=hi.cell k hlt
   have Hst : Hid (dO K X Q (k+1)=dO K X Q k+max 0 (X+1 - (K - nth Q k))):=rfl
   have Hx : Hid (∀y,nth Q k=y->qw K y=true->∀j,j<k+1->qw K (nth Q j)=true):=λy hy h j hj=>by
    by_cases e : j=k
    ·subst e;rw [hy];exact h
    ·exact hall.out j (by omega)
   have Hno : Hid (qw K (nth Q k)=false->ql K Q X=(0,6)):=λh=>by rw [HV2.out,I5];intro h2;have:=List.all_eq_true.1 h2 _ (aK (i:=k) (by rw [Hl.out];exact hlt));rw [h] at this;exact absurd this (by decide)
   obtain ⟨y,hy⟩ : ∃y,nth Q k=y:=⟨_,rfl⟩
   have Hx2:=λh=>Hx.out y hy h
   rw [hy] at ck Hno Hst
   clear hy Hx
   by_cases q1 : y<0
   ·have e1 : decide (y<0)=true:=by simpa using q1
    have HV:=Z5 (Hno.out (by unfold qw;simp;omega))
    clear q1 Hx2 hbd
    go_wp2_with fail
    go_ret2
    exact ⟨by rw [HV.out];rfl,rfl⟩
   have e1 : decide (y<0)=false:=by simpa using q1
   by_cases q2 : K<y
   ·have e2 : decide (K<y)=true:=by simpa using q2
    have HV:=Z5 (Hno.out (by unfold qw;simp;omega))
    clear q1 q2 Hx2 hbd
    go_wp2_with fail
    go_ret2
    exact ⟨by rw [HV.out];rfl,rfl⟩
   have e2 : decide (K<y)=false:=by simpa using q2
   have Hx3:=Z5 (Hx2 (by unfold qw;simp;omega))
   clear Hx2
   have k1 : IntKind.i64.wrap (X+1)=X+1:=Jj _ (by omega)
   have k2 : IntKind.i64.wrap (K - y)=K - y:=Jj _ (by omega)
   have k3 : IntKind.i64.wrap (X+1 - (K - y))=X+1 - (K - y):=Jj _ (by omega)
   have k4 : IntKind.i64.wrap (dO K X Q k+max 0 (X+1 - (K - y)))=dO K X Q k+max 0 (X+1 - (K - y)):=Jj _ (by omega)
   rw [<- zO] at k4
   rw [<- zO] at Hst
   clear hbd
   generalize dO K X Q k=t at *
   go_wp2_with fail
   go_round
   case rel=>exact ⟨k+1,by omega,by go_num,by first | (rw [Hst.out,show (if K - y<X+1 then X+1 - (K - y) else 0)=(if 0<X+1 - (K - y) then X+1 - (K - y) else 0) from by split <;> split <;> omega];exact congrArg (Value.int .i64) ((Lv _).symm.trans k4)) | (rw [Hst.out,<- zO];exact congrArg (Value.int .i64) ((Lv _).symm.trans k4)) | (rw [Hst.out,show max 0 (X+1 - (K - y))=(if 0<X+1 - (K - y) then X+1 - (K - y) else 0) from by omega];exact congrArg (Value.int .i64) ((Lv _).symm.trans k4)),Hx3.out⟩
   case measure=>simp [intOf] <;> omega
  ·obtain rfl : k=n:=by omega
   have HV : Hid (ql K Q X=(dO K X Q k,0)):=by show _=_;rw [HV2.out,I6];rw [JO];intro x hx;obtain ⟨j,hj,rfl⟩:=List.mem_iff_getElem.1 hx;have:=hall.out j (by have:=Hl.out;omega);rwa [ai hj] at this
   clear hbd
   go_wp2_with fail
   go_ret2
   exact ⟨by rw [HV.out];rfl,rfl⟩
theorem IM {G : cW} {x : Int} (h : G.El x) : (decide (0<=x) && decide (x<G.q))=true:=by unfold cW.El at h;simp;exact h
theorem yU {w : World} {b : Nat} {G : cW} (q : Nat) (x : Int) (hc : w.cell? ⟨q,0,none⟩=some (.pointer (some ⟨b,0,none⟩))) (h : dT w b G) (hx : G.El x) :
  Calls prog 210 #[.int .i64 x,.pointer (some ⟨q,0,none⟩)] w λe w'=>e = .returned (.bool false)/\w=w':=by have hB:=IM hx;go_enter func210,ntmps210;go_wp2_with fail;refine (It x h).mono ?_;rintro e w' ⟨rfl,rfl⟩;rw [hB];go_wp2_with fail;go_ret;exact ⟨rfl,rfl⟩
theorem xL (q : Nat) (a : OA) (n c : Nat) (l : Lz) (w : World) (hi : Ints w a n l) (hf : ∀k,k<n->Calls prog 210 #[.int .i64 (nth l k),.pointer (some ⟨q,0,none⟩)] w λe w'=>e = .returned (.bool false)/\w=w') :
  Calls prog 97 #[.slice a n c,.func (.func 210) #[] #[.pointer (some ⟨q,0,none⟩)]] w λe w'=>e = .returned (.int .i64 (-1))/\w=w':=by
 have hpl:=hi.pl;have hmax:=hi.max;have HF:=Z5 hf;unfold maxLen at hmax;clear hf;go_enter func97,ntmps97;go_wp2_with fail;go_loop [8] (λiv=>∃k : Nat,k<=n/\iv = .int .i64 k) (λiv=>n - (intOf iv).toNat);case atStart=>exact ⟨0,I7 _,rfl⟩
 case round =>
  obtain ⟨k,hk,rfl⟩:=hrel
  by_cases hlt : k<n
  ·have ck:=hi.cell k hlt
   have Hk:=Z5 (HF.out k hlt)
   go_wp2_with fail
   refine Hk.out.mono ?_
   rintro e w' ⟨rfl,rfl⟩
   go_wp2_with fail
   go_round
   case rel=>exact ⟨k+1,by omega,by go_num⟩
   case measure=>simp [intOf] <;> omega
  ·obtain rfl : k=n:=by omega
   go_wp2_with fail
   go_ret
   exact ⟨rfl,rfl⟩
theorem sk (q : Nat) (a : OA) (n c : Nat) (l : Lz) (w : World) (hi : Ints w a n l) (hf : ∀k,k<n->Calls prog 210 #[.int .i64 (nth l k),.pointer (some ⟨q,0,none⟩)] w λe w'=>e = .returned (.bool false)/\w=w') :
  Calls prog 136 #[.slice a n c,.func (.func 210) #[] #[.pointer (some ⟨q,0,none⟩)]] w λe w'=>e = .returned (.bool false)/\w=w':=by have Hc:=Z5 (xL q a n c l w hi hf);clear hf;go_enter func136,ntmps136;go_wp2_with fail;refine Hc.out.mono ?_;rintro e w' ⟨rfl,rfl⟩;go_wp2_with fail;go_ret;exact ⟨rfl,rfl⟩
theorem uS {w : World} {b : Nat} {G : cW} (m : Nat) (a : OA) (n c : Nat) (ap : OA) (np cp : Nat) (ax : OA) (cx : Nat) (x : Lz) (h : dT w b G) (hx : Ints w ax m x) (hxe : Vc G.El m x) :
  Calls prog 143 #[.agg #[.pointer (some ⟨b,0,none⟩),.int .i64 m,.slice a n c,.slice ap np cp],.slice ax m cx] w λe w'=>e = .returned (.int .i64 0)/\NS w w':=by
 go_enter func143,ntmps143;go_wp2_with fail;obtain ⟨W,hW⟩ : ∃W : World,W=w.alloc (.cells #[.pointer (some ⟨b,0,none⟩),.int .i64 m,.slice a n c,.slice ap np cp] 162):=⟨_,rfl⟩
 rw [<- hW];have hbW : NS w W:=by rw [hW];exact aw _ _
 have x0 : aZ W w.heap.size [.pointer (some ⟨b,0,none⟩),.int .i64 m,.slice a n c,.slice ap np cp]:=by rw [hW];exact Nj _ _ _ rfl
 have c0:=x0.cell 0 rfl;have c1:=x0.cell 1 rfl;have hmm : ((m : Int) != m)=false:=by simp
 have Hc:=Z5 (sk w.heap.size ax m cx x W (hx.aa hbW) λk hk =>
  yU w.heap.size (nth x k) c0 (h.aa hbW) (hxe.at hk))
 clear hW x0;go_wp2_with fail;refine Hc.out.mono ?_;rintro e w' ⟨rfl,rfl⟩;go_wp2_with fail;go_ret;exact ⟨rfl,hbW⟩
theorem zC {w : World} {b : Nat} {G : cW} (m : Nat) (a : OA) (n c : Nat) (R : Ll) (ap : OA) (cp : Nat) (Pv : Lz) (ax : OA) (cx : Nat) (x : Lz)
  (h : dT w b G) (hi : ch w a n R) (hp : Ints w ap n Pv) (hx : Ints w ax m x) (hOk : BS.Ok G.El m ⟨R,Pv⟩) (hxe : Vc G.El m x) (hn : n<=1000000) (hm : m<=1000000) :
  Calls prog 211 #[.agg #[.pointer (some ⟨b,0,none⟩),.int .i64 m,.slice a n c,.slice ap n cp],.slice ax m cx] w
   λe w'=>∃a1 c1 v2,e = .returned (.tuple #[.slice a1 m c1,v2])/\Ints w' a1 m (bu G.ops R Pv x n)/\NS w w':=by
 have hcl:=NA h;have hrl : R.length=n:=hi.len;have hred:=kT hcl hOk.rws (Q:=Pv) hOk.plc hxe;have Hred:=Z5 hred;have HOk:=Z5 hOk;have Hrl:=Z5 hrl;have Hxl:=Z5 hxe.1;have hplp:=hp.pl;have hplr:=hi.pl;clear hred hOk hrl hcl;go_enter func211,ntmps211;go_wp2_with fail;obtain ⟨W,hW⟩ : ∃W : World,W=w.alloc (.cells #[.pointer (some ⟨b,0,none⟩),.int .i64 m,.slice a n c,.slice ap n cp] 162):=⟨_,rfl⟩
 rw [<- hW];have hbW : NS w W:=by rw [hW];exact aw _ _
 have x0 : aZ W w.heap.size [.pointer (some ⟨b,0,none⟩),.int .i64 m,.slice a n c,.slice ap n cp]:=by rw [hW];exact Nj _ _ _ rfl
 have HX:=Z5 x0;have HbW:=Z5 hbW;clear hW x0;refine (eG ax m cx x (hx.aa hbW) hm).mono ?_;rintro e w1 ⟨a1,c1,rfl,hown1,hb1⟩;rw [Hxl.out] at hown1 ⊢;have ha1 : a1 ≠ none->aj a1<w1.heap.size:=λh0=>(aM hown1 h0).2;have ha1W : a1 ≠ none->W.heap.size<=aj a1:=λh0=>(aM hown1 h0).1;have x1:=HX.out.aa hb1;have q2:=x1.cell 2 rfl;have q3:=x1.cell 3 rfl;have hs1:=hb1.size;clear x1;go_wp2_with fail;go_loopw [5,16] (λtv iv wr=>∃(k : Nat) (at' : OA) (ct : Nat) (xs : List Value),k<=n/\iv = .int .i64 k/\tv = .slice at' k ct/\wr.ownsRow W.heap.size 3 1 (.slice a1 m c1) m ((bu G.ops R Pv x k).map (Value.int .i64)) /\
   wr.ownsRow w1.heap.size 3 1 (.slice at' k ct) k xs/\NS W wr/\w1.heap.size<=wr.heap.size) (λ_ iv _=>n - (intOf iv).toNat)
 case atStart=>exact ⟨0,none,0,[],I7 _,rfl,rfl,hown1,bX,hb1,IZ _⟩
 case round =>
  clear q2 q3 hown1
  obtain ⟨k,at',ct,xs,hkn,rfl,rfl,hown,hopt,hbr,hsr⟩:=hrel
  have xr:=HX.out.aa hbr
  have hbwr:=Nh HbW.out hbr
  by_cases hlt : k<n
  ·have hkr : k<R.length:=by rw [Hrl.out];exact hlt
   have hrow:=HOk.out.rws.row hkr
   have hplc : 0<=nth Pv k/\nth Pv k<m:=HOk.out.plc k hkr
   obtain ⟨ra,rn,rc,er,ir⟩:=hi.cell k hlt
   have hrn : rn=m:=by rw [<- ir.len];exact hrow.1
   rw [hrn] at er ir
   have ep:=(hp.aa hbwr).cell k hlt
   obtain ⟨pn,hpn⟩ : ∃pn : Nat,nth Pv k=pn:=⟨(nth Pv k).toNat,by omega⟩
   rw [hpn] at ep hplc
   have hpnn : pn<m:=by omega
   have hrd:=Hred.out k (by omega)
   have hrd1:=Hred.out (k+1) (by omega)
   have hstep : bu G.ops R Pv x (k+1)=dG G.ops (bu G.ops R Pv x k) pn (an R k):=by rw [bu,hpn]
   have Hstep:=Z5 hstep
   have Hrow:=Z5 hrow
   clear hstep hpn hrn
   obtain ⟨u,hu⟩ : ∃u,bu G.ops R Pv x k=u:=⟨_,rfl⟩
   rw [hu] at hown hrd
   have Hu:=Z5 hu
   obtain ⟨iu,mu⟩:=Ni hown
   have eu:=iu.cell pn hpnn
   have hpu:=iu.pl
   have Hrd:=Z5 hrd
   clear hu hrow hrd hrd1
   have hne1 : a1 ≠ none:=λe=>by have:=hpu (by omega);rw [e] at this;cases this
   have ha1':=ha1 hne1
   have hapt : cJ at' (aj a1):=by
    by_cases h0 : at'=none
    ·exact .inl h0
    ·have:=(aM hopt h0).1;exact .inr (by omega)
   have hcn:=bk wr (.int .i64 (nth u pn)) 3
   have hbn:=aw wr (.cells #[.int .i64 (nth u pn)] 3)
   have hbnx:=Ju hbr (hbn.mono (by omega))
   have HN5 : Hid (∀(a5 : OA) (c5 : Nat) (w5 : World),(wr.alloc (.cells #[.int .i64 (nth u pn)] 3)).grownBy w5 (Value.slice at' k ct).ownBlock->NS W w5/\w5.ownsRow W.heap.size 3 1 (.slice a1 m c1) m (u.map (Value.int .i64))/\w1.heap.size<=w5.heap.size):=λa5 c5 w5 hgr5 =>
    ⟨Nk hbnx (hopt.alloc _) hgr5 (by omega) (by simp;omega),dU (hown.alloc _) hgr5 hapt,by have:=hgr5.size;simp at this;omega⟩
   clear hbnx mu
   by_cases hz : nth u pn=0
   ·have hz' : (nth u pn != 0)=false:=by simpa using hz
    have Hn : Hid (bu G.ops R Pv x (k+1)=u):=by show _=_;rw [Hstep.out,Hu.out,dG,Jd,I6 hz]
    clear hz
    go_wp2_with (at_builtin;refine bg rfl _ _ 22 3 rfl (.int .i64 0) 8 underlying22 ba rfl w1.heap.size at' k ct xs rfl (hopt.alloc _) ⟨wr.heap.size,0,none⟩ 1 (.int .i64 (nth u pn)) rfl hcn rfl (by omega) (by unfold maxLen;omega) (by simp;omega) ?_;intro a5 c5 w5 hown5 hgr5 hap5)
    go_roundw
    case rel =>
     obtain ⟨h1,h2,h3⟩:=HN5.out a5 c5 w5 hgr5
     exact ⟨k+1,a5,c5,_,by omega,by go_num,rfl,by rw [Hn.out];exact h2,hown5,h1,h3⟩
    case measure=>simp [intOf] <;> omega
   ·have hz' : (nth u pn != 0)=true:=by simpa using hz
    have Hn : Hid (bu G.ops R Pv x (k+1)=dF G.ops u (nth u pn) (an R k)):=by show _=_;rw [Hstep.out,Hu.out,dG,Jd,I5 hz]
    have hxe2 : G.El (nth u pn):=Hrd.out.2 _ (aK (by rw [Hrd.out.1];exact hpnn))
    have hSl : (dF G.ops u (nth u pn) (an R k)).length=u.length:=dY _ _ _ _ (by rw [Hrow.out.1,Hrd.out.1])
    have hSn:=λi hi=>eF G.ops u (nth u pn) (an R k) i (by rw [Hrow.out.1,Hrd.out.1]) hi
    have HSl:=Z5 hSl
    have HSn:=Z5 hSn
    clear hz hSl hSn
    have hplr2:=ir.pl
    go_upto_region 8 with (at_builtin;refine bg rfl _ _ 22 3 rfl (.int .i64 0) 8 underlying22 ba rfl w1.heap.size at' k ct xs rfl (hopt.alloc _) ⟨wr.heap.size,0,none⟩ 1 (.int .i64 (nth u pn)) rfl hcn rfl (by omega) (by unfold maxLen;omega) (by simp;omega) ?_;intro a5 c5 w5 hown5 hgr5 hap5)
    obtain ⟨hbU,hownU,hsU⟩:=HN5.out a5 c5 w5 hgr5
    have hna5 : a5 ≠ none->¬ (a1 ≠ none/\aj a5=aj a1):=λh0 h1=>by have:=(aM hown5 h0).1;omega
    clear HN5 hgr5 hap5 hcn hbn eu iu ep xr hown hopt hapt
    generalize w5=U at *
    have hbwU:=Nh HbW.out hbU
    have xU:=HX.out.aa hbU
    have q1:=xU.cell 1 rfl
    have q2:=xU.cell 2 rfl
    have erU:=aB hbwU er
    clear xU
    go_wp2_with fail
    clear q1 q2 erU
    generalize nth u pn=y at *
    generalize dF G.ops u y (an R k)=S at *
    go_loopw [38] (λiv wx=>∃j : Nat,j<=m/\iv = .int .i64 j/\wx.ownsRow W.heap.size 3 1 (.slice a1 m c1) m ((fc S u j).map (Value.int .i64))/\cP a1 U wx) (λiv _=>m - (intOf iv).toNat)
    case atStart=>exact ⟨0,I7 _,rfl,by rw [eQ];exact hownU,ND _ _⟩
    case round =>
     clear hownU
     obtain ⟨j,hj,rfl,hown2,honly2⟩:=hrel
     have hbx0 : Below W.heap.size U wr:=honly2.below ha1W hbU.size
     have hbx:=Ju hbU hbx0
     have hbwx:=Nh HbW.out hbx
     by_cases hjn : j<m
     ·have cj:=(ir.aa hbwx).cell j hjn
      have f0:=(HX.out.aa hbx).cell 0 rfl
      obtain ⟨im,mm⟩:=Ni hown2
      have cm:=im.cell j hjn
      have fm:=(mm (by omega)).2 j hjn
      have hju : j<u.length:=by rw [Hrd.out.1];exact hjn
      have hmix:=ek S u j j HSl.out (by omega)
      rw [I5 (by omega)] at hmix
      rw [hmix] at cm
      have hset:=ey S u j HSl.out hju
      rw [HSn.out j hju] at hset
      have Hset:=Z5 hset
      have ely : G.El (nth (an R k) j):=Hrow.out.2 _ (aK (by rw [Hrow.out.1];exact hjn))
      have elv : G.El (nth u j):=Hrd.out.2 _ (aK hju)
      have hGr : dT wr b G:=h.aa hbwx
      have elm : ∀x y,G.El (G.mul x y):=λx y=>NJ h x y
      have HG : Hid (dT wr.drew b G/\∀n,dT (wr.drewN n) b G):=⟨hGr.aa (I1 _ _).drew,λn=>hGr.drewN n⟩
      clear hset hmix
      go_wp2_with fail
      go_region_law ((first
       | (go_simp;go_at_call 153;((with_reducible refine (n9 y (nth (an R k) j) HG.out.1 hxe2 ely).mono ?_);rintro e w4 ⟨m4,rfl,rfl⟩))
       | (go_simp;go_at_call 153;((with_reducible refine (n9 y (nth (an R k) j) (HG.out.2 _) hxe2 ely).mono ?_);rintro e w4 ⟨m4,rfl,rfl⟩))
       | (go_simp;go_at_call 191;((with_reducible refine (Gq (nth u j) (G.mul y (nth (an R k) j)) (HG.out.2 _) elv (elm _ _)).mono ?_);rintro e w4 ⟨m5,rfl,rfl⟩))))
      all_goals (
       go_wp2_with fail
       go_roundw
       case rel =>
        have hdr : bf wr (wr.drewN (1+m4+m5)):=⟨_,rfl⟩
        refine ⟨j+1,by omega,by go_num,?_,honly2.trans ((Nt hdr).trans (Nz _ j _ hne1))⟩
        have h1:=bT (w:=wr.drewN (1+m4+m5)) hown2 j hjn (.int .i64 (G.sub (nth u j) (G.mul y (nth (an R k) j))))
        rw [<- Jq,show G.sub (nth u j) (G.mul y (nth (an R k) j))=G.ops.add (nth u j) (G.ops.neg (G.ops.mul y (nth (an R k) j))) from rfl,Hset.out] at h1
        exact h1
       case measure=>simp [intOf] <;> omega)
     ·obtain rfl : j=m:=by omega
      rw [fD S u j (by rw [HSl.out,Hrd.out.1]) Hrd.out.1] at hown2
      have hown6:=aA.own honly2 hown5 hna5
      have hsx:=honly2.size
      go_wp2_with fail
      go_roundw
      case rel=>exact ⟨k+1,a5,c5,_,by omega,by go_num,rfl,by rw [Hn.out];exact hown2,hown6,hbx,by omega⟩
      case measure=>simp [intOf] <;> omega
  ·obtain rfl : k=n:=by omega
   have hF:=(Ni hown).1
   have HF:=Z5 hF
   clear hF hown hopt xr
   go_wp2_with fail
   go_ret2
   exact ⟨a1,c1,_,rfl,HF.out,hbwr⟩
theorem te {O O' : aS} {El : Int->Prop} (F : dw O El) (h : F8 O O' El) {m : Nat} {L : Ll} (hL : cw El m L) {x : Lz} (hx : ∀k,k<L.length->El (nth x k)) : ∀k,k<=L.length->bw O m x L k=bw O' m x L k
 | 0,_=>rfl
 | k+1,hk=>by have h1:=(jc F hL hx k (by omega)).1;rw [bw,bw,<- te F h hL hx k (by omega),ka h F.cl _ _ _ h1.2 (hL.row (i:=k) (by omega)).2 (hx k (by omega))]
theorem uK (P : Int) (m : Nat) (am : OA) (mn cm : Nat) (mod : Lz) (ax : OA) (cx : Nat) (x : Lz) (a : OA) (n c : Nat) (L : Ll) (cols : Nat) (w : World) (hf : rZ w P m am mn mod)
  (hx : Ints w ax n x) (hi : ch w a n L) (hxe : ∀k,k<n->e9 P m (nth x k)) (hR : cw (e9 P m) cols L) (hv : ∀k,k<=n->Vc (e9 P m) cols (bw (ia P m mod) cols x L k)) (hc : cols<=1000000) (hn : n<=1000000) :
  Calls prog 178 #[.agg #[.int .i64 P,.int .i64 m,.slice am mn cm],.slice ax n cx,.slice a n c,.int .i64 cols] w λe w' =>
   ∃a1 c1,e = .returned (.slice a1 cols c1)/\w'.ownsRow w.heap.size 3 1 (.slice a1 cols c1) cols ((bw (ia P m mod) cols x L n).map (Value.int .i64))/\NS w w':=by
 have Hil:=Z5 hi.len;have hplx:=hx.pl;have hpla:=hi.pl;have HR:=Z5 hR;have Hv:=Z5 hv;have Hxe:=Z5 hxe;obtain ⟨O,hO⟩ : ∃O,ia P m mod=O:=⟨_,rfl⟩
 have HA : Hid (∀V k a1 c1 ra rc,k<n->NS w V->Ints V a1 cols (bw O cols x L k)->Ints V ra cols (an L k)->∀V2,NS V V2 ->
   Calls prog 115 #[.agg #[.int .i64 P,.int .i64 m,.slice am mn cm],.slice a1 cols c1,.int .i64 (nth x k),.slice ra cols rc] V2 λe w' =>
    ∃a2 c2,e = .returned (.slice a2 cols c2)/\w'.ownsRow V2.heap.size 3 1 (.slice a2 cols c2) cols ((bP O (bw O cols x L k) (nth x k) (an L k)).map (Value.int .i64))/\NS V2 w'):=λV k a1 c1 ra rc hk hV h1 h2 V2 hV2=>by have hrow:=HR.out.row (i:=k) (by rw [Hil.out];exact hk);have hvk:=Hv.out k (by omega);rw [hO] at hvk;have h:=mE P m am mn cm mod a1 cols c1 (bw O cols x L k) (nth x k) ra rc (an L k) V2 (hf.aa (Nh hV hV2)) (Hxe.out k hk) (h1.aa hV2) (h2.aa hV2) hvk.2 hrow.2 hc;refine h.mono ?_;rintro e w' ⟨a2,c2,rfl,hown,hb⟩;rw [hO,cA _ _ _ _ (by rw [hrow.1,hvk.1]),hvk.1] at hown;rw [hO,cA _ _ _ _ (by rw [hrow.1,hvk.1]),hvk.1];exact ⟨a2,c2,rfl,hown,hb⟩
 have hz : (bw O cols x L 0).map (Value.int .i64)=List.replicate cols (Value.int .i64 0):=by simp [bw]
 have Hz:=Z5 hz;rw [hO];clear hO hR hv hxe hz;go_enter func178,ntmps178;go_upto_region 1 with fail;obtain ⟨W,hW⟩ : ∃W : World,W=w.alloc (.cells #[.int .i64 P,.int .i64 m,.slice am mn cm] 24):=⟨_,rfl⟩
 rw [<- hW];have hbW : NS w W:=by rw [hW];exact aw _ _
 have x0 : aZ W w.heap.size [.int .i64 P,.int .i64 m,.slice am mn cm]:=by rw [hW];exact Nj _ _ _ rfl
 have HX:=Z5 x0;have HbW:=Z5 hbW;have hxW:=hx.aa hbW;have hiW:=hi.aa hbW;clear hW x0;go_wp2_with (at_make;refine cC rfl _ _ 22 3 rfl (.int .i64 0) 8 underlying22 ba rfl cols rfl rfl (by omega) (by unfold maxLen;omega) ?_;intro a5 w5 hown hbel hge hlt);have hown0 : w5.ownsRow W.heap.size 3 1 (.slice a5 cols cols) cols ((bw O cols x L 0).map (Value.int .i64)):=by rw [Hz.out];exact hown
 clear hown hge hlt;go_loopw [9,10] (λov iv wr=>∃(k : Nat) (a1 : OA) (c1 : Nat),k<=n/\iv = .int .i64 k/\ov = .slice a1 cols c1/\wr.ownsRow W.heap.size 3 1 (.slice a1 cols c1) cols ((bw O cols x L k).map (Value.int .i64))/\NS W wr) (λ_ iv _=>n - (intOf iv).toNat);case atStart=>exact ⟨0,a5,cols,I7 _,rfl,rfl,hown0,hbel⟩
 case round =>
  clear hown0 hbel
  obtain ⟨k,a1,c1,hk,rfl,rfl,hown,hbr⟩:=hrel
  by_cases hlt : k<n
  ·have cxk:=(hxW.aa hbr).cell k hlt
   have hrow:=HR.out.row (i:=k) (by rw [Hil.out];exact hlt)
   obtain ⟨ra,rn,rc,er,ir⟩:=(hiW.aa hbr).cell k hlt
   have hrn : rn=cols:=by rw [<- ir.len];exact hrow.1
   rw [hrn] at er ir
   clear hrn hrow
   by_cases h0 : nth x k=0
   ·have h0' : (nth x k != 0)=false:=by simpa using h0
    have Hn : Hid (bw O cols x L (k+1)=bw O cols x L k):=by show _=_;rw [bw,I6 h0]
    clear h0
    go_wp2_with fail
    go_roundw
    case rel=>exact ⟨k+1,a1,c1,by omega,by go_num,rfl,by rw [Hn.out];exact hown,hbr⟩
    case measure=>simp [intOf] <;> omega
   ·have h0' : (nth x k != 0)=true:=by simpa using h0
    have Hn : Hid (bw O cols x L (k+1)=bP O (bw O cols x L k) (nth x k) (an L k)):=by show _=_;rw [bw,I5 h0]
    have hbwr:=Nh HbW.out hbr
    have Hk:=Z5 (HA.out wr k a1 c1 ra rc hlt hbwr (Ni hown).1 ir)
    have HS2 : Hid (∀V,NS wr V->V.cell? ⟨w.heap.size,0,none⟩=some (.int .i64 P)/\V.cell? ⟨w.heap.size,1,none⟩=some (.int .i64 m)/\V.cell? ⟨w.heap.size,2,none⟩=some (.slice am mn cm) /\
      V.cell? ⟨aj ax,aL ax+k,none⟩=some (.int .i64 (nth x k))/\V.cell? ⟨aj a,aL a+k,none⟩=some (.slice ra cols rc)/\NS wr V):=λV hV=>by have x1:=HX.out.aa (Nh hbr hV);exact ⟨x1.cell 0 rfl,x1.cell 1 rfl,x1.cell 2 rfl,aB hV cxk,aB hV er,hV⟩
    have Hbr:=Z5 hbr
    have hszr:=hbr.size
    clear h0 hbr hown ir HA
    go_wp2_with fail
    go_region_held3 (λV=>V.cell? ⟨w.heap.size,0,none⟩=some (.int .i64 P)/\V.cell? ⟨w.heap.size,1,none⟩=some (.int .i64 m)/\V.cell? ⟨w.heap.size,2,none⟩=some (.slice am mn cm) /\
      V.cell? ⟨aj ax,aL ax+k,none⟩=some (.int .i64 (nth x k))/\V.cell? ⟨aj a,aL a+k,none⟩=some (.slice ra cols rc)/\NS wr V)
     ((refine HS2.out _ ?_;first | exact (I1 _ _).drew | exact Nh (I1 _ _).drew hb4))
     (first
      | (go_at_call 115;((with_reducible refine (Hk.out _ (I1 _ _).drew).mono ?_);rintro e w4 ⟨a4,c4,rfl,hown4,hb4⟩)))
    have hbr4:=Nh Hbr.out (Nh (I1 _ _).drew hb4)
    have hown5:=aU hown4 (show W.heap.size<=wr.drew.heap.size from hszr)
    go_wp2_with fail
    go_roundw
    case rel=>exact ⟨k+1,a4,c4,by omega,by go_num,rfl,by rw [Hn.out];exact hown5,hbr4⟩
    case measure=>simp [intOf] <;> omega
  ·obtain rfl : k=n:=by omega
   have hF:=aU hown HbW.out.size
   have HF:=Z5 hF
   have hbF:=Nh HbW.out hbr
   clear hF hown
   go_wp2_with fail
   go_ret
   exact ⟨a1,c1,rfl,HF.out,hbF⟩
def rj (q : Int) (l : Lz) (n : Nat) : Int:=if l.length=n then ki q l else 4
section
open Go.RowKit
end
theorem xi (x : Int) (w : World) (hx : 0<=x) : Calls prog 225 #[.int .i64 x] w λe w'=>e = .returned (.bool false)/\w=w':=by have d1 : decide (x<0)=false:=Jn (by omega);go_enter func225,ntmps225;go_wp2;go_ret;exact ⟨by first | rfl | simp [d1],rfl⟩
theorem zw (a : OA) (n c : Nat) (l : Lz) (w : World) (hi : Ints w a n l) (hf : ∀k,k<n->Calls prog 225 #[.int .i64 (nth l k)] w λe w'=>e = .returned (.bool false)/\w=w') :
  Calls prog 97 #[.slice a n c,.func (.func 225) #[] #[]] w λe w'=>e = .returned (.int .i64 (-1))/\w=w':=by
 have hpl:=hi.pl;have hmax:=hi.max;have HF:=Z5 hf;unfold maxLen at hmax;clear hf;go_enter func97,ntmps97;go_wp2_with fail;go_loop [8] (λiv=>∃k : Nat,k<=n/\iv = .int .i64 k) (λiv=>n - (intOf iv).toNat);case atStart=>exact ⟨0,I7 _,rfl⟩
 case round =>
  obtain ⟨k,hk,rfl⟩:=hrel
  by_cases hlt : k<n
  ·have ck:=hi.cell k hlt
   have Hk:=Z5 (HF.out k hlt)
   go_wp2_with fail
   refine Hk.out.mono ?_
   rintro e w' ⟨rfl,rfl⟩
   go_wp2_with fail
   go_round
   case rel=>exact ⟨k+1,by omega,by go_num⟩
   case measure=>simp [intOf] <;> omega
  ·obtain rfl : k=n:=by omega
   go_wp2_with fail
   go_ret
   exact ⟨rfl,rfl⟩
theorem rX (a : OA) (n c : Nat) (l : Lz) (w : World) (hi : Ints w a n l) (hf : ∀k,k<n->Calls prog 225 #[.int .i64 (nth l k)] w λe w'=>e = .returned (.bool false)/\w=w') :
  Calls prog 136 #[.slice a n c,.func (.func 225) #[] #[]] w λe w'=>e = .returned (.bool false)/\w=w':=by have Hc:=Z5 (zw a n c l w hi hf);clear hf;go_enter func136,ntmps136;go_wp2_with fail;refine Hc.out.mono ?_;rintro e w' ⟨rfl,rfl⟩;go_wp2_with fail;go_ret;exact ⟨rfl,rfl⟩
theorem xS (most : Int) (a : OA) (n c : Nat) (l : Lz) (w : World) (hm : 0<=most/\most<=65536) (hi : Ints w a n l) (hl : ∀x ∈ l,1<=x/\x<=65536) :
  Calls prog 170 #[.int .i64 most,.slice a n c] w λe w'=>e = .returned (.tuple #[.int .i64 (pr most l),.int .i64 (nV most l)])/\w=w':=by
 have hlen:=hi.len;have hpl:=hi.pl;have hmax:=hi.max;unfold maxLen at hmax;have hx1 : ∀k,k<n->1<=nth l k/\nth l k<=65536:=λk hk=>hl _ (aK (by omega));have Hx1:=Z5 hx1;have H1:=Z5 (λx hx=>(hl x hx).1);have Hlen:=Z5 hlen;have hc0:=rX a n c l w hi λk hk=>xi (nth l k) w (by have:=hx1 k hk;omega);have hc1:=cN a n c l 0 w hi;have hno : decide ((0 : Int) ∈ l)=false:=Jn λh=>by have:=(hl _ h).1;omega
 rw [hno] at hc1;have Hc0:=Z5 hc0;have Hc1:=Z5 hc1;have Hb : Hid (∀k,k<=n->most<bF l k->pr most l=0/\nV most l=8):=λk hk hb=>by have h1:=la H1.out k (n - k) (by omega);rw [show k+(n - k)=l.length by omega] at h1;unfold pr nV;rw [I5 (by omega),I5 (by omega)];exact ⟨rfl,rfl⟩
 have Hg : Hid (bF l n<=most->pr most l=bF l n/\nV most l=0):=λh=>by unfold pr nV;rw [hlen,I6 h,I6 h];exact ⟨rfl,rfl⟩
 have dm : decide (most<0)=false:=Jn (by omega);clear hx1 hl hc0 hc1 hno hlen;go_enter func170,ntmps170;go_wp2_with fail;refine Hc0.out.mono ?_;rintro e w' ⟨rfl,rfl⟩;go_wp2_with fail;refine Hc1.out.mono ?_;rintro e w' ⟨rfl,hw'⟩;obtain rfl:=hw'.symm;go_wp2_with fail;go_loop [6,19] (λov iv=>∃k : Nat,k<=n/\iv = .int .i64 k/\ov = .int .i64 (bF l k)/\1<=bF l k/\bF l k<=65536) (λ_ iv=>n - (intOf iv).toNat);case atStart=>exact ⟨0,I7 _,rfl,rfl,by simp [bF],by simp [bF]⟩
 case round =>
  obtain ⟨k,hk,rfl,rfl,hp1,hp2⟩:=hrel
  by_cases hlt : k<n
  ·have ck:=hi.cell k hlt
   have hx:=Hx1.out k hlt
   have Hst : Hid (bF l (k+1)=bF l k * nth l k):=rfl
   obtain ⟨o,ho⟩ : ∃o,bF l k=o:=⟨_,rfl⟩
   obtain ⟨x,hxe⟩ : ∃x,nth l k=x:=⟨_,rfl⟩
   rw [ho] at hp1 hp2 Hst ⊢
   rw [hxe] at hx Hst ck
   have hdv:=div_lt_iff (most:=most) (x:=x) (o:=o) hx.1 (by omega) hm.1
   have htd : most.tdiv x=most / x:=JT hm.1
   obtain ⟨Q,hQ⟩ : ∃Q,most / x=Q:=⟨_,rfl⟩
   obtain ⟨P2,hP2⟩ : ∃P2,o * x=P2:=⟨_,rfl⟩
   have hQ2 : 0<=Q/\Q<=65536:=by rw [<- hQ];have h1:=J6 (a:=most) x hm.1;have h2:=J5 hm.1 (show 0<=x by omega);omega
   have hx0 : x ≠ 0:=by omega
   have hxb : (x == 0)=false:=by simpa using hx0
   rw [hQ] at htd
   rw [htd,hP2] at hdv
   rw [hP2] at Hst
   have kQ : wrap64 Q=Q:=vS hQ2.1 (by omega)
   clear ho hxe
   by_cases hbig : Q<o
   ·have d1 : decide (Q<o)=true:=Jm hbig
    have HB:=Z5 (Hb.out (k+1) (by omega) (by rw [Hst.out];exact hdv.1 hbig))
    clear hdv hP2 hbig
    go_wp2_with fail
    go_ret2
    exact ⟨cR HB.out.1.symm HB.out.2.symm,rfl⟩
   ·have d1 : decide (Q<o)=false:=Jn hbig
    have hP3 : P2<=most:=Int.not_lt.1 λh=>hbig (hdv.2 h)
    have hP4 : 1<=P2:=by have:=Ka hp1 hx.1 (by omega) (by omega);omega
    have kP : wrap64 P2=P2:=vS (by omega) (by omega)
    clear hdv hbig
    go_wp2_with fail
    go_round
    case rel=>exact ⟨k+1,by omega,by go_num,by rw [Hst.out],by rw [Hst.out];exact hP4,by rw [Hst.out];omega⟩
    case measure=>simp [intOf] <;> omega
  ·obtain rfl : k=n:=by omega
   by_cases hbig : most<bF l k
   ·have HB:=Z5 (Hb.out k (IZ _) hbig)
    obtain ⟨o,ho⟩ : ∃o,bF l k=o:=⟨_,rfl⟩
    rw [ho] at hbig ⊢
    have d1 : decide (most<o)=true:=Jm hbig
    clear ho hbig
    go_wp2_with fail
    go_ret2
    exact ⟨cR HB.out.1.symm HB.out.2.symm,rfl⟩
   ·have HB:=Z5 (Hg.out (by omega))
    obtain ⟨o,ho⟩ : ∃o,bF l k=o:=⟨_,rfl⟩
    rw [ho] at hbig HB ⊢
    have d1 : decide (most<o)=false:=Jn hbig
    clear ho hbig
    go_wp2_with fail
    go_ret2
    exact ⟨cR HB.out.1.symm HB.out.2.symm,rfl⟩
theorem ED (n : Nat) (w : World) (hn : n<=1000000) :
  Calls prog 148 #[.int .i64 1,.int .i64 n,.int .i64 65536] w λe w'=>e = .returned (.tuple #[.int .i64 1,.int .i64 0])/\w=w':=by
 go_enter func148,ntmps148;go_wp2_with fail;go_loop [1,8] (λnv qv=>nv = .int .i64 (n : Int)/\qv = .int .i64 1) (λi _=>(intOf i).toNat);case atStart=>exact ⟨rfl,rfl⟩
 case round =>
  obtain ⟨rfl,rfl⟩:=hrel
  by_cases h0 : 0<n
  ·have d1 : decide (0<n)=true:=Jm h0
   go_wp2_with fail
   go_ret2
   first | exact ⟨rfl,rfl⟩ | rfl
  ·have d1 : decide (0<n)=false:=Jn h0
   go_wp2_with fail
   go_ret2
   first | exact ⟨rfl,rfl⟩ | rfl
theorem Dy (q : Nat) (n : Nat) (w : World) (h1 : 1<=q) (h256 : q<=256) (hn : n<=1000000) :
  Calls prog 148 #[.int .i64 q,.int .i64 n,.int .i64 65536] w λe w'=>e = .returned (.tuple #[.int .i64 (lQ q n),.int .i64 (lO q n)])/\w=w':=by
 by_cases h : q=1
 ·subst h;have e1 : lQ ((1 : Nat) : Int) n=1:=by simp [lQ,Mv]
  have e2 : lO ((1 : Nat) : Int) n=0:=by simp [lO,Mv]
  rw [e1,e2];exact ED n w hn
 ·exact FW q n w (by omega) (by omega) hn
section
def CR : La->List (Lz × Int)->List Value
 | r :: R,t :: T=>.slice r.1 t.1.length r.2 :: .int .i64 t.2 :: CR R T
 | _,_=>[]
theorem wX (r : OA × Nat) (t : Lz × Int) : ∀(R : La) (T : List (Lz × Int)),R.length=T.length->CR (R ++ [r]) (T ++ [t])=CR R T ++ [.slice r.1 t.1.length r.2,.int .i64 t.2]
 | [],[],_=>rfl
 | [],_ :: _,h=>by simp at h
 | _ :: _,[],h=>by simp at h
 | x :: R,y :: T,h=>by rw [Kn,Kn,CR,wX r t R T (by simpa using h)];rfl
theorem nC {P : Program} {w : World} {ops : Array Oper} {rest : List Oper} {o : Oper} {ac : Act} {Q : Exit->Act->World->Prop}
  (hg : o.guard=none) (s x : Operand) (t e : TypeId) (hop : o.op = .call { callee:=.builtin .append,args:=#[s,x],argTypes:=#[t,t] }) (z : Value) (bytes : Nat)
  (h1 : P.underlying t=some (.slice e)) (h2 : (P.info? e).map (λi=>(i.zero,i.size,i.bytes))=some (some z,2,bytes)) (hz : z.cells.size=2)
  (B : Nat) (a : OA) (n c : Nat) (xs : List Value) (hs : ac.eval s = .slice a n c) (hown : w.ownsRow B e 2 (.slice a n c) n xs)
  (g cc : Nat) (u v : Value) (hx : ac.eval x = .slice (some ⟨g,0,none⟩) 1 cc) (hu : w.cell? ⟨g,0,none⟩=some u) (hv : w.cell? ⟨g,1,none⟩=some v) (h1c : u.oneCell'=true) (h1d : v.oneCell'=true)
  (b2 : (n+1) * bytes<=140737488355328) (b3 : n+1<=maxLen) (hB : B<=w.heap.size)
  (hK : ∀a' c' w',w'.ownsRow B e 2 (.slice a' (n+1) c') (n+1) (xs ++ [u,v])->w.grownBy w' (Value.slice a n c).ownBlock->(∀b,b<w.heap.size->cJ a b->cJ a' b)->wpList P ops Q rest (ac.put o.dst (.slice a' (n+1) c')) w') :
  wpList P ops Q (o :: rest) ac w:=by
 obtain ⟨i,hi,hz0,hz1,hz2⟩ : ∃i,P.info? e=some i/\i.zero=some z/\i.size=2/\i.bytes=bytes:=by
  cases hp : P.info? e with
  | none=>rw [hp] at h2;cases h2
  | some i=>rw [hp] at h2;simp at h2;exact ⟨i,rfl,h2.1,h2.2.1,h2.2.2⟩
 refine wpList_append_own_at w hg s x t hop B e i z 2 bytes h1 hi hz0 hz1 hz2 hz (by decide) _ n xs hs hown ⟨g,0,none⟩ 1 cc [u,v] hx rfl ?_ ?_ b3 b2 hB λv' w' hown' hgr _ hat=>?_
 ·intro j y hj;match j,hj with
  | 0,hj=>simp at hj;subst hj;simpa [Addr.add] using hu
  | 1,hj=>simp at hj;subst hj;simpa [Addr.add] using hv
 ·intro y hy;simp at hy;rcases hy with rfl | rfl
  ·exact h1c
  ·exact h1d
 ·obtain ⟨a',c',rfl⟩ : ∃a' c',v' = .slice a' (n+1) c':=by
   rcases hown'.2 with ⟨_,h0⟩ | ⟨g',cap,cur,rfl,_⟩
   ·omega
   ·exact ⟨_,cap,rfl⟩
  refine hK a' c' w' hown' hgr λb hb hapt=>?_;have h:=hapt.own n c;rcases hat with h3 | h3
  ·exact NQ (n:=n+1) (c:=c') (by rw [h3];exact h)
  ·exact NQ (n:=n+1) (c:=c') (by rw [h3];intro h4;cases h4;omega)
structure oJ (w : World) (B : Nat) (a : OA) (k c : Nat) (R : La) (T : List (Lz × Int)) : Prop where
 rl : R.length=k
 tl : T.length=k
 own : w.ownsRow B 64 2 (.slice a k c) k (CR R T)
 row : ∀p ∈ R.zip T,Ints w p.1.1 p.2.1.length p.2.1/\(p.1.1 ≠ none->B<=aj p.1.1/\aj p.1.1<w.heap.size)/\(p.1.1 ≠ none->cJ a (aj p.1.1))
namespace oJ
variable {w w' w5 V : World} {B : Nat} {a : OA} {k c : Nat} {R : La} {T : List (Lz × Int)}
theorem start (w : World) (B : Nat) : oJ w B none 0 0 [] []:=⟨rfl,rfl,⟨rfl,.inl ⟨rfl,rfl⟩⟩,λp hp=>by simp at hp⟩
theorem EY (h : oJ w B a k c R T) (ha : a ≠ none) : B<=aj a/\aj a<w.heap.size:=by
 rcases h.own.2 with ⟨hv,_⟩ | ⟨g,cap,cur,hv,hg,hh,_⟩
 ·cases hv;exact absurd rfl ha
 ·cases hv;exact ⟨hg,(Array.getElem?_eq_some_iff.1 hh).1⟩
theorem bj (h : oJ w B a k c R T) (hs : w.heap.size<=w'.heap.size) (h1 : a ≠ none->w'.heap[aj a]? = w.heap[aj a]?) (h2 : ∀r ∈ R,r.1 ≠ none->w'.heap[aj r.1]? = w.heap[aj r.1]?) : oJ w' B a k c R T:=by
 refine ⟨h.rl,h.tl,⟨h.own.1,?_⟩,λp hp=>?_⟩
 ·rcases h.own.2 with hn | ⟨g,cap,cur,hv,hg,hh,r⟩
  ·exact .inl hn
  ·cases hv
   exact .inr ⟨g,_,cur,rfl,hg,by rw [show w'.heap[g]? = w.heap[g]? from h1 (by simp)];exact hh,r⟩
 ·obtain ⟨g1,g2,g3⟩:=h.row p hp;have hm : p.1 ∈ R:=(List.of_mem_zip (a:=p.1) (b:=p.2) hp).1;refine ⟨g1.of_block λhn=>h2 p.1 hm λe=>?_,λhn=>⟨(g2 hn).1,Jv (g2 hn).2 hs⟩,g3⟩;have:=g1.pl hn;rw [e] at this;cases this
theorem aa (h : oJ w B a k c R T) (hb : NS w w') : oJ w' B a k c R T :=
 h.bj hb.size (λha=>hb.block _ (h.EY ha).2) λr hr hn=>by
  obtain ⟨i,hi,rfl⟩:=List.mem_iff_getElem.1 hr;have hi2 : i<T.length:=by rw [h.tl,<- h.rl];exact hi
  exact hb.block _ ((h.row (R[i],T[i]) (List.mem_iff_getElem.2 ⟨i,by simp;omega,by simp⟩)).2.1 hn).2
theorem zE (h : oJ w B a k c R T) {r : OA × Nat} (hr : r ∈ R) (hn : r.1 ≠ none) : (B<=aj r.1/\aj r.1<w.heap.size)/\cJ a (aj r.1):=by
 obtain ⟨i,hi,rfl⟩:=List.mem_iff_getElem.1 hr;have hi2 : i<T.length:=by rw [h.tl,<- h.rl];exact hi
 have h1:=h.row (R[i],T[i]) (List.mem_iff_getElem.2 ⟨i,by simp;omega,by simp⟩);exact ⟨h1.2.1 hn,h1.2.2 hn⟩
theorem grown {au : OA} {nu cu : Nat} (h : oJ w B a k c R T) (hg : w.grownBy w' (Value.slice au nu cu).ownBlock) (h1 : a ≠ none->cJ au (aj a)) (h2 : ∀r ∈ R,r.1 ≠ none->cJ au (aj r.1)) : oJ w' B a k c R T :=
 h.bj hg.size (λha=>hg.block _ (h.EY ha).2 λe=>(h1 ha).own nu cu e.symm) λr hr hn=>hg.block _ (h.zE hr hn).1.2 λe=>(h2 r hr hn).own nu cu e.symm
theorem push {sa a5 : OA} {sc c5 : Nat} {S : Lz} {rk : Int} (h : oJ V B a k c R T) (hS : Ints V sa S.length S) (hSB : sa ≠ none->B<=aj sa/\aj sa<V.heap.size) (hSa : sa ≠ none->cJ a (aj sa))
  (hown5 : w5.ownsRow B 64 2 (.slice a5 (k+1) c5) (k+1) (CR R T ++ [.slice sa S.length sc,.int .i64 rk])) (hgr5 : V.grownBy w5 (Value.slice a k c).ownBlock)
  (hap5 : ∀b,b<V.heap.size->cJ a b->cJ a5 b) : oJ w5 B a5 (k+1) c5 (R ++ [(sa,sc)]) (T ++ [(S,rk)]):=by
 refine ⟨by simp [h.rl],by simp [h.tl],by rw [wX _ _ R T (by rw [h.rl,h.tl])];exact hown5,λp hp=>?_⟩;rw [M8 (by rw [h.rl,h.tl])] at hp;rcases List.mem_append.1 hp with hp | hp
 ·obtain ⟨g1,g2,g3⟩:=h.row p hp;refine ⟨g1.of_block λhn=>?_,λhn=>⟨(g2 hn).1,Jv (g2 hn).2 hgr5.size⟩,λhn=>hap5 _ (g2 hn).2 (g3 hn)⟩;have hne : p.1.1 ≠ none:=λe=>by have:=g1.pl hn;rw [e] at this;cases this
  exact hgr5.block _ (g2 hne).2 λe=>(g3 hne).own k c e.symm
 ·simp at hp;subst hp;refine ⟨hS.of_block λhn=>?_,λhn=>⟨(hSB hn).1,Jv (hSB hn).2 hgr5.size⟩,λhn=>hap5 _ (hSB hn).2 (hSa hn)⟩;have hne : sa ≠ none:=λe=>by have:=hS.pl hn;rw [e] at this;cases this
  exact hgr5.block _ (hSB hne).2 λe=>(hSa hne).own k c e.symm
end oJ
end
structure Ib (w : World) (a : OA) (n : Nat) (T : List (Lz × Int)) : Prop where
 len : T.length=n
 pl : Pl a n
 max : n<=maxLen
 cell : ∀i (h : i<T.length),∃sa sc,w.cell? ⟨aj a,aL a+i * 2,none⟩=some (.slice sa T[i].1.length sc)/\w.cell? ⟨aj a,aL a+i * 2+1,none⟩=some (.int .i64 T[i].2)/\Ints w sa T[i].1.length T[i].1
theorem Ib.aa {w w' : World} {a : OA} {n : Nat} {T : List (Lz × Int)} (h : Ib w a n T) (hb : NS w w') : Ib w' a n T :=
 ⟨h.len,h.pl,h.max,λi hi=>by obtain ⟨sa,sc,h1,h2,h3⟩:=h.cell i hi;exact ⟨sa,sc,aB hb h1,aB hb h2,h3.aa hb⟩⟩
theorem DD : ∀(R : La) (T : List (Lz × Int)),R.length=T.length->∀i (h : i<T.length) (h2 : i<R.length),(CR R T)[i * 2]? = some (.slice (R[i]).1 (T[i]).1.length (R[i]).2)/\(CR R T)[i * 2+1]? = some (.int .i64 (T[i]).2)
 | [],[],_,i,h,_=>by simp at h
 | [],_ :: _,h,_,_,_=>by simp at h
 | _ :: _,[],h,_,_,_=>by simp at h
 | r :: R,t :: T,h,0,_,_=>by simp [CR]
 | r :: R,t :: T,h,i+1,hi,hi2=>by have:=DD R T (by simpa using h) i (by simpa using hi) (by simpa using hi2);rw [CR,show (i+1) * 2=i * 2+1+1 by omega];simpa using this
theorem oJ.str {w : World} {B : Nat} {a : OA} {k c : Nat} {R : La} {T : List (Lz × Int)} (h : oJ w B a k c R T) : Ib w a k T:=by
 have hRT : R.length=T.length:=by rw [h.rl,h.tl]
 rcases h.own.2 with ⟨hv,h0⟩ | ⟨g,cap,cur,hv,hg,hh,hn,hm,hs,ht⟩
 ·cases hv
  have hT : T=[]:=Jp h.tl;subst hT;exact ⟨rfl,λh=>by omega,by unfold maxLen;omega,λi hi=>by simp at hi⟩
 ·cases hv
  refine ⟨h.tl,λ_=>rfl,by omega,λi hi=>?_⟩;have hi2 : i<R.length:=by omega
  obtain ⟨e1,e2⟩:=DD R T hRT i hi hi2;have hc:=World.ownsRow.cells h.own (g:=g) rfl;have h3:=h.row (R[i],T[i]) (List.mem_iff_getElem.2 ⟨i,by simp;omega,by simp⟩);have c1:=hc _ _ e1;have c2:=hc _ _ e2;rw [MF] at c1 c2;refine ⟨(R[i]).1,(R[i]).2,?_,?_,h3.1⟩
  ·simpa [aj,aL] using c1
  ·simpa [aj,aL] using c2
section
open Go.RowKit
end
section
open Go.ChangeShapes Go.WideShapes Go.ChangeAt Go.RowKit
theorem Tryz.own : ownKnob prog.godebug=none:=by kernel_rfl
theorem Tryz.laid : laidOutB prog=true:=by kernel_rfl
section
variable {H : Type} {enc : TypeId × Value->H} {W : World} {held : Bool} {fuel : Nat} {cs : List Value} {x : DataW H × List MemPlace}
theorem qd {a : Addr} {v : Value} {i : Nat} (h : W.cell? (a.add i)=some v) : W.cell? ⟨a.block,a.off+i,none⟩=some v:=by
 have hs:=MX h;obtain ⟨b,o,s⟩:=a;by_cases h0 : i=0
 ·subst h0;simp only [Addr.add,if_true] at hs h;subst hs;exact h
 ·simpa [Addr.add,h0] using h
theorem qS {a : Addr} {v : Value} (h : W.cell? (a.add 0)=some v) : a=⟨a.block,a.off,none⟩:=by have hs:=MX h;obtain ⟨b,o,s⟩:=a;simp only [Addr.add,if_true] at hs;subst hs;rfl
theorem mb (l : Lz) (n i : Nat) (h : i<n) : nth (l.take n) i=l.getD i 0:=by unfold nth;simp only [Jc,J9];rw [I6 h]
theorem xw (h : DataW.trod enc prog W 0 (λ_=>true) held fuel 22 cs=some x) : ∃a n c l,cs=[.slice a n c]/\Ints W a n l:=by
 rcases open_ints underlying22 underlying3 (by kernel_rfl) h with ⟨hcs,_⟩ | ⟨a,len,cap,zs,hcs,_,hl,hm,hz,_,hcell,_⟩
 ·exact ⟨none,0,0,[],hcs,Nr _ _⟩
 ·simp only [if_true] at hz;refine ⟨some a,len,cap,zs.take len,hcs,⟨by simp;omega,λh0=>?_,by omega,λi hi=>?_⟩⟩
  ·exact congrArg some (qS (hcell 0 (by omega)))
  ·rw [mb _ _ _ hi];exact qd (hcell i (by omega))
theorem zG (h : DataW.trod enc prog W 0 (λ_=>true) held fuel 25 cs=some x) : ∃a n c L,cs=[.slice a n c]/\ch W a n L:=by
 rcases Go.Deep.open_int_rows underlying25 underlying22 underlying3 (by kernel_rfl) (by kernel_rfl) h with ⟨hcs,_⟩ | ⟨a,len,cap,A,Ln,C,Z,hcs,_,hl,hm,_,hrows⟩
 ·exact ⟨none,0,0,[],hcs,⟨rfl,λh0=>by omega,by unfold maxLen;omega,λi hi=>by omega⟩⟩
 ·refine ⟨some a,len,cap,(List.range len).map (λr=>(Z r).take (Ln r)),hcs,⟨by simp,λh0=>congrArg some (qS (hrows 0 (by omega)).1),by omega,λr hr=>?_⟩⟩;obtain ⟨h1,h2,h3,h4,_,h5,h6⟩:=hrows r (by omega);refine ⟨A r,Ln r,C r,qd h1,?_⟩;have e : an ((List.range len).map (λr=>(Z r).take (Ln r))) r=(Z r).take (Ln r):=by unfold an;simp [Jc,Lg,List.getElem?_range hr]
  rw [e];match hA : A r,h5,h6 with
  | none,h5,_ =>
   have h0 : Ln r=0:=by have:=h5 rfl;omega
   rw [h0]
   exact Nr _ _
  | some b,_,h6 =>
   obtain ⟨_,h7⟩:=h6 b rfl
   exact ⟨by simp;omega,λh0=>congrArg some (qS (h7 0 (by omega))),by omega,λi hi=>by rw [mb _ _ _ hi];exact qd (h7 i (by omega))⟩
end
section
variable {H : Type} {enc : TypeId × Value->H} {W : World} {held : Bool} {b0 : Nat} {v : Value} {d : DataW H} {p : List MemPlace}
theorem Ey (hv : Value.okWide prog W .any b0 27 v) (h : DataW.Trod enc prog W 0 (λ_=>true) held 27 v d p) :
  ∃(P M : Int) (am : OA) (mn cm : Nat) (mod : Lz) (N : Int) (a : OA) (n c : Nat) (L : Ll),v = .agg #[.int .i64 P,.int .i64 M,.slice am mn cm,.int .i64 N,.slice a n c]/\Ints W am mn mod/\ch W a n L:=by
 obtain ⟨cs,rfl,hsz⟩:=okWide_struct underlying27 hv;rw [show prog.cellsOf 27 = 5 by kernel_rfl] at hsz;obtain ⟨l⟩:=cs;match l,hsz with
 | [v0,v1,v2,v3,v4],_ =>
 obtain ⟨fuel,hf⟩:=h;obtain ⟨xs,n0,_,_,_,hlen,hfs⟩:=MO underlying27 hf;obtain ⟨y0,y1,y2,rfl⟩ : ∃y0 y1 y2,xs=[y0,y1,y2]:=by
  match xs,hlen with
  | [y0,y1,y2],_=>exact ⟨y0,y1,y2,rfl⟩
 have k24 : prog.cellsOf 24 = 3:=by kernel_rfl
 have k3 : prog.cellsOf 3 = 1:=by kernel_rfl
 have k22 : prog.cellsOf 22 = 1:=by kernel_rfl
 have k25 : prog.cellsOf 25 = 1:=by kernel_rfl
 have g0 : DataW.trod enc prog W 0 (λ_=>true) held n0 24 [v0,v1,v2]=some y0:=by simpa [Value.cells,k24] using hfs 0 _ rfl
 have g1 : DataW.trod enc prog W 0 (λ_=>true) held n0 3 [v3]=some y1:=by simpa [Value.cells,k3] using hfs 1 _ rfl
 have g2 : DataW.trod enc prog W 0 (λ_=>true) held n0 25 [v4]=some y2:=by simpa [Value.cells,k25] using hfs 2 _ rfl
 obtain ⟨xs',n1,_,_,_,hlen',hfs'⟩:=MO underlying24 g0;obtain ⟨z0,z1,z2,rfl⟩ : ∃z0 z1 z2,xs'=[z0,z1,z2]:=by
  match xs',hlen' with
  | [z0,z1,z2],_=>exact ⟨z0,z1,z2,rfl⟩
 have q0 : DataW.trod enc prog W 0 (λ_=>true) held n1 3 [v0]=some z0:=by simpa [k3] using hfs' 0 _ rfl
 have q1 : DataW.trod enc prog W 0 (λ_=>true) held n1 3 [v1]=some z1:=by simpa [k3] using hfs' 1 _ rfl
 have q2 : DataW.trod enc prog W 0 (λ_=>true) held n1 22 [v2]=some z2:=by simpa [k22] using hfs' 2 _ rfl
 obtain ⟨P,eP,_,_⟩:=Mw underlying3 q0;obtain ⟨M,eM,_,_⟩:=Mw underlying3 q1;obtain ⟨N,eN,_,_⟩:=Mw underlying3 g1;obtain ⟨am,mn,cm,mod,eI,hI⟩:=xw q2;obtain ⟨a,n,c,L,eL,hL⟩:=zG g2;simp at eP eM eN eI eL;subst eP eM eN eI eL;exact ⟨P,M,am,mn,cm,mod,N,a,n,c,L,rfl,hI,hL⟩
end
end
end Go.Proofs.YtcfmiocdlcapoaaGreat
