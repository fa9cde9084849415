import Derived.Test.YthglbncgemdcbaaGreatS26
import Derived.Test.YthglbncgemdcbaaGreatS24
import Derived.Test.YthglbncgemdcbaaGreatS25
namespace Go.Proofs.YthglbncgemdcbaaGreat
set_option linter.all false
set_option maxRecDepth 100000
set_option maxHeartbeats 8000000
open Go.RowKit Go.Proofs.Tryz
theorem kd (a : OA) (n c : Nat) (x : Lz) (i : Int) (w : World) (h : Ints w a n x) (hn : n<=1000000) :
  Calls prog 61 #[.slice a n c,.int .i64 i] w (b8 w (bI x n i)):=by
 have HG1 : Hid (∀k : Nat,nth x k ≠ 0->(k : Int) ≠ i->bI x (k+1) i=bI x k i ++ [(k : Int)]):=λk h1 h2=>by rw [jX,Nd ⟨h1,h2⟩]
 have HG2 : Hid (∀k : Nat,nth x k=0\/(k : Int)=i->bI x (k+1) i=bI x k i):=λk h1=>by rw [jX,Nf];rintro ⟨h2,h3⟩;rcases h1 with h1 | h1;exact h2 h1;exact h3 h1
 have HGl : Hid (∀k,(bI x k i).length<=k):=λk=>gH _ _ _;have HI:=Z5 h;have hpl:=h.pl;have hmx:=h.max;unfold maxLen at hmx;obtain ⟨Z,hZ⟩ : ∃Z : Nat->Lz,(λk=>bI x k i)=Z:=⟨_,rfl⟩
 have hZk : ∀k,bI x k i=Z k:=λk=>by rw [<- hZ]
 simp only [hZk] at HG1 HG2 HGl ⊢;have HZ0 : Hid (Z 0=[]):=by rw [<- hZ];rfl
 clear hZk hZ h;go_enter func61,ntmps61;go_wp2_with fail;go_loopw [5,10] (λov iv wr=>∃(k g : Nat) (a1 : OA) (c1 : Nat),k<=n/\iv = .int .i64 k/\Hid ((Z k).length=g)/\ov = .slice a1 g c1/\wr.ownsRow w.heap.size 3 1 (.slice a1 g c1) g ((Z k).map (Value.int .i64))/\SW w wr) (λ_ iv _=>n - (intOf iv).toNat);case atStart=>exact ⟨0,0,none,0,Ni _,rfl,by show _=_;rw [HZ0.out];rfl,rfl,by rw [HZ0.out];exact bV,Nc _ _⟩
 case round =>
  obtain ⟨j,g,a2,c2,hj,rfl,Hg2,rfl,hown,hbz⟩:=hrel
  by_cases hltj : j<n
  ·have hgk : g<=j:=by have h:=HGl.out j;rw [Hg2.out] at h;omega
   have cj:=(HI.out.ah hbz).cell j hltj
   have hG1:=HG1.out j
   have hG2:=HG2.out j
   obtain ⟨y,hy⟩ : ∃y,nth x j=y:=⟨_,rfl⟩
   rw [hy] at cj hG1 hG2
   clear hy
   by_cases hy0 : y=0
   ·have Hn:=Z5 (hG2 (.inl hy0))
    have d1 : (y != 0)=false:=by simpa using hy0
    clear hG1 hG2 hy0
    go_wp2_with fail
    go_roundw
    case rel=>exact ⟨j+1,g,a2,c2,by omega,by go_num,by show _=_;rw [Hn.out];exact Hg2.out,rfl,by rw [Hn.out];exact hown,hbz⟩
    case measure=>simp [intOf] <;> omega
   have d1 : (y != 0)=true:=by simpa using hy0
   by_cases hji : (j : Int)=i
   ·have Hn:=Z5 (hG2 (.inr hji))
    have d2 : ((j : Int) != i)=false:=by simpa using hji
    clear hG1 hG2 hy0 hji
    go_wp2_with fail
    go_roundw
    case rel=>exact ⟨j+1,g,a2,c2,by omega,by go_num,by show _=_;rw [Hn.out];exact Hg2.out,rfl,by rw [Hn.out];exact hown,hbz⟩
    case measure=>simp [intOf] <;> omega
   ·have Hn:=Z5 (hG1 hy0 hji)
    have d2 : ((j : Int) != i)=true:=by simpa using hji
    clear hG1 hG2 hy0 hji
    have hsz:=hbz.size
    have hcn:=ba wr (.int .i64 j) 3
    go_wp2_with (at_builtin;refine aO rfl _ _ 22 3 rfl (.int .i64 0) 8 underlying22 aU rfl w.heap.size a2 g c2 _ rfl (hown.alloc _) ⟨wr.heap.size,0,none⟩ 1 (.int .i64 j) rfl hcn rfl (by omega) (by unfold maxLen;omega) (by simp;omega) ?_;intro a5 c5 w5 hown5 hgr5 hap5)
    go_roundw
    case rel =>
     refine ⟨j+1,g+1,a5,c5,by omega,by go_num,by show _=_;rw [Hn.out,Nl,Hg2.out];rfl,rfl,by rw [Hn.out];simpa using hown5,Sa (Sb hbz _) (hown.alloc _) hgr5 (Na _) (Sb hbz _).size⟩
    case measure=>simp [intOf] <;> omega
  ·obtain rfl : j=n:=by omega
   have HR : Hid (∀e,e=Ending.returned (.slice a2 g c2)->b8 w (Z j) e wr):=λe he=>⟨a2,c2,by rw [Hg2.out];exact he,by rw [Hg2.out];exact hown,hbz⟩
   clear hown
   go_wp2_with fail
   go_ret
   exact HR.out _ rfl
theorem rN (a : OA) (n c : Nat) (x : Lz) (w : World) (h : Ints w a n x) (hn : n<=1000000) :
  Calls prog 76 #[.slice a n c] w λe w'=>e = .returned (.int .i64 (fB x : Nat))/\SW w w':=by
 have hl:=h.len;have HS:=Z5 (kd a n c x (-1) w h hn);have hw : (bI x n (-1)).length=fB x:=by rw [oY x n (-1) (.inl (by omega))];exact rM hl
 have Hw:=Z5 hw;clear h hl hw;go_enter func76,ntmps76;go_wp2_with fail;refine HS.out.mono ?_;rintro e w1 ⟨a1,c1,rfl,_,hb⟩;rw [Hw.out];go_wp2_with fail;go_ret;exact ⟨rfl,hb⟩
def lJ (w : World) (a : OA) (n : Nat) (x : Lz) : Prop:=Ints w a n x/\a.isNone=decide (x=[])
theorem lJ.ah {w w' : World} {a : OA} {n : Nat} {x : Lz} (h : lJ w a n x) (hb : SW w w') : lJ w' a n x:=⟨h.1.ah hb,h.2⟩
theorem sS (a : OA) (n c : Nat) (W : ZZ) (m i : Nat) (w : World) (hW : br w a n W) (hm : ∀r ∈ W,r.length=m) (hi : i<m) (hm64 : m<=64) :
  Calls prog 102 #[.slice a n c,.int .i64 i] w λe w'=>SW w w'/\∃ar nr cr,e = .returned (.slice ar nr cr)/\lJ w' ar nr (bstL m i W n):=by
 have hln:=hW.len;have HM:=Z5 hW;have hpl:=hW.pl;have hmx:=hW.max;unfold maxLen at hmx;have Hrow : Hid (∀k,k<n->(ai W k).length=m):=λk hk=>hm _ (dN (by omega));have HSup : Hid (∀V b k c x,k<=1000000->Ints V b k x->Calls prog 61 #[.slice b k c,.int .i64 i] V (b8 V (bI x k i))):=λV b k c x hk h=>kd b k c x i V h hk;have Heq:=Z5 (λ(w : World) (a : OA) (l c : Nat)=>Go.run_eql_slice_nil (P:=prog) w 22 3 a l c underlying22);clear hW hm hln;go_enter func102,ntmps102;go_wp2_with fail;go_loopw [5,12] (λbv iv wr=>∃(k : Nat) (ab : OA) (nb cb : Nat) (b : Lz),k<=n/\iv = .int .i64 k/\bv = .slice ab nb cb/\Hid (bstL m i W k=b)/\Hid (b=[]\/b.length=m)/\Hid (lJ wr ab nb b)/\SW w wr) (λ_ iv _=>n - (intOf iv).toNat);case atStart=>exact ⟨0,none,0,0,[],Ni _,rfl,rfl,rfl,.inl rfl,⟨Sd _ _,rfl⟩,Nc _ _⟩
 case round =>
  obtain ⟨k,ab,nb,cb,b,hk,rfl,rfl,Hst,Hbl,Hb,hbr⟩:=hrel
  generalize wr=V at *
  by_cases hlt : k<n
  ·obtain ⟨ar,mr,cr,hcell,hrw⟩:=(HM.out.ah hbr).cell k hlt
   have hmr : mr=m:=by rw [<- hrw.len];exact Hrow.out k hlt
   subst hmr
   have hri:=hrw.cell i hi
   have hplr:=hrw.pl
   have hrn : ar.isNone=false:=by
    cases ar with
    | none=>have:=hrw.pl (by omega);cases this
    | some x=>rfl
   obtain ⟨r,hr⟩ : ∃r,ai W k=r:=⟨_,rfl⟩
   have hrl : r.length=mr:=by rw [<- hr];exact Hrow.out k hlt
   rw [hr] at hrw hri
   have Hnx : Hid (bstL mr i W (k+1)=uS mr i b r):=by show _=_;rw [bstL,Hst.out,hr]
   clear hr
   obtain ⟨y,hy⟩ : ∃y,nth r i=y:=⟨_,rfl⟩
   rw [hy] at hri
   have hii : (i : Int)<(mr : Int):=by omega
   by_cases hy1 : y=1
   rotate_left
   ·have d1 : (y != 1)=true:=by simpa using hy1
    have Hn2 : Hid (bstL mr i W (k+1)=b):=by show _=_;rw [Hnx.out,uS,Nf (by rw [Nb,hy];exact hy1)]
    clear hy hy1 hrw
    go_wp2_with fail
    go_roundw
    case rel=>exact ⟨k+1,ab,nb,cb,b,by omega,by go_num,rfl,Hn2.out,Hbl.out,Hb.out,hbr⟩
    case measure=>simp [intOf] <;> omega
   have d1 : (y != 1)=false:=by simpa using hy1
   have Hn2 : Hid (bstL mr i W (k+1)=if b=[]\/dL (bI r mr i) (bI b mr i)=true then r else b):=by show _=_;rw [Hnx.out,uS,Nd (by rw [Nb,hy];exact hy1)]
   have Hr : Hid (lJ V ar mr r):=⟨hrw,by rw [hrn];exact (NA λe=>by rw [e] at hrl;simp at hrl;omega).symm⟩
   have Hrl:=Z5 hrl
   have heq:=Heq.out
   clear hy hy1 hrn Hnx hrl
   rcases Hbl.out with hb0 | hbm
   ·have hin : ab.isNone=true:=by rw [Hb.out.2];exact NB hb0
    have Hn3 : Hid (bstL mr i W (k+1)=r):=by show _=_;rw [Hn2.out,Nd (.inl hb0)]
    clear hb0 hrw
    go_wp2_with fail
    go_roundw
    case rel=>exact ⟨k+1,ar,mr,cr,r,by omega,by go_num,rfl,Hn3.out,.inr Hrl.out,Hr.out,hbr⟩
    case measure=>simp [intOf] <;> omega
   have hbn : b ≠ []:=λe=>by rw [e] at hbm;simp at hbm;omega
   have hin : ab.isNone=false:=by rw [Hb.out.2];exact NA hbn
   have hnb : nb=mr:=by rw [<- Hb.out.1.len];exact hbm
   subst hnb
   have HS1:=Z5 (HSup.out V ar nb cr r (by omega) hrw)
   obtain ⟨s,hs⟩ : ∃s,bI r nb i=s:=⟨_,rfl⟩
   obtain ⟨t,ht⟩ : ∃t,bI b nb i=t:=⟨_,rfl⟩
   have hsl : s.length<=nb:=by rw [<- hs];exact gH _ _ _
   have htl : t.length<=nb:=by rw [<- ht];exact gH _ _ _
   have HSt : Hid (∀V',SW V V'->Calls prog 61 #[.slice ab nb cb,.int .i64 i] V' (b8 V' t)):=λV' hV'=>by rw [<- ht];exact HSup.out V' ab nb cb b (by omega) (Hb.out.1.ah hV')
   rw [hs] at HS1
   rw [hs,ht] at Hn2
   clear hs ht hrw hbm
   have Hbn:=Z5 hbn
   clear hbn
   go_wp2_with fail
   refine HS1.out.mono ?_
   rintro e w1 ⟨a1,k1,rfl,hown1,hb1⟩
   have HS2:=Z5 (HSt.out w1 hb1)
   have Ho1:=Z5 hown1
   clear hown1
   go_wp2_with fail
   refine HS2.out.mono ?_
   rintro e w2 ⟨a2,k2,rfl,hown2,hb2⟩
   have hbr2:=RZ hbr (RZ hb1 hb2)
   have Hcmp:=Z5 (Cz a1 s.length k1 s a2 t.length k2 t w2 ((R6 Ho1.out).1.ah hb2) (R6 hown2).1)
   have Hb2 : Hid (lJ w2 ab nb b):=Hb.out.ah (RZ hb1 hb2)
   have Hr2 : Hid (lJ w2 ar nb r):=Hr.out.ah (RZ hb1 hb2)
   clear hown2 hcell hri
   by_cases h1 : s.length<t.length
   ·have Hn3 : Hid (bstL nb i W (k+1)=r):=by show _=_;rw [Hn2.out,Nd (.inr (ib.2 (.inl h1)))]
    go_wp2_with fail
    go_roundw
    case rel=>exact ⟨k+1,ar,nb,cr,r,by omega,by go_num,rfl,Hn3.out,.inr Hrl.out,Hr2.out,hbr2⟩
    case measure=>simp [intOf] <;> omega
   ·by_cases h2 : s.length=t.length
    ·have hd2 : ((s.length : Int) == (t.length : Int))=true:=by simp;omega
     have hle : t.length<=s.length:=by omega
     by_cases h3 : cmpL s t<0
     ·have Hn3 : Hid (bstL nb i W (k+1)=r):=by show _=_;rw [Hn2.out,Nd (.inr (ib.2 (.inr ⟨h2,h3⟩)))]
      have hd3 : decide (cmpL s t<0)=true:=by simpa using h3
      clear h1 h2 h3
      go_wp2_with (go_at_call 159;refine Hcmp.out.mono ?_;rintro e w' ⟨rfl,rfl⟩)
      go_roundw
      case rel=>exact ⟨k+1,ar,nb,cr,r,by omega,by go_num,rfl,Hn3.out,.inr Hrl.out,Hr2.out,hbr2⟩
      case measure=>simp [intOf] <;> omega
     ·have Hn3 : Hid (bstL nb i W (k+1)=b):=by
       show _=_;rw [Hn2.out,Nf λhh=>?_];rcases hh with hh | hh
       ·exact Hbn.out hh
       ·rcases ib.1 hh with hh | hh
        ·exact h1 hh
        ·exact h3 hh.2
      have hd3 : decide (cmpL s t<0)=false:=by simpa using h3
      clear h1 h2 h3
      go_wp2_with (go_at_call 159;refine Hcmp.out.mono ?_;rintro e w' ⟨rfl,rfl⟩)
      go_roundw
      case rel=>exact ⟨k+1,ab,nb,cb,b,by omega,by go_num,rfl,Hn3.out,Hbl.out,Hb2.out,hbr2⟩
      case measure=>simp [intOf] <;> omega
    ·have Hn3 : Hid (bstL nb i W (k+1)=b):=by
      show _=_;rw [Hn2.out,Nf λhh=>?_];rcases hh with hh | hh
      ·exact Hbn.out hh
      ·rcases ib.1 hh with hh | hh
       ·exact h1 hh
       ·exact h2 hh.1
     have hd2 : ((s.length : Int) == (t.length : Int))=false:=by simp;omega
     have hle : t.length<=s.length:=by omega
     clear h1 h2
     go_wp2_with fail
     go_roundw
     case rel=>exact ⟨k+1,ab,nb,cb,b,by omega,by go_num,rfl,Hn3.out,Hbl.out,Hb2.out,hbr2⟩
     case measure=>simp [intOf] <;> omega
  ·obtain rfl : k=n:=by omega
   have HR : Hid (SW w V/\∃ar nr cr,Ending.returned (.slice ab nb cb) = .returned (.slice ar nr cr)/\lJ V ar nr (bstL m i W k)):=⟨hbr,ab,nb,cb,rfl,by rw [Hst.out];exact Hb.out⟩
   go_wp2_with fail
   go_ret
   exact HR.out
theorem xZ (n : Int) (w : World) : Calls prog 64 #[.int .i64 n] w λe w'=>e = .returned (.bool (decide (1<=n) && decide (n<=64)))/\w'=w:=by
 go_enter func64,ntmps64;by_cases h1 : 1<=n
 ·have d1 : decide (1<=n)=true:=NB h1;have H1:=Z5 h1;clear h1;go_wp2_with fail;go_ret;exact ⟨by first | (simp;done) | (simp;intro _;exact H1.out),rfl⟩
 ·have d1 : decide (1<=n)=false:=NA h1;have H1:=Z5 h1;clear h1;go_wp2_with fail;go_ret;exact ⟨by first | (simp;done) | (simp;intro h;exact absurd h H1.out),rfl⟩
def qL (n k r : Int) : Int:=if n<1\/64<n\/k<1\/n<k\/r<1\/n<r then 6 else 0
def qI (n k r : Int) : Int:=if n<1\/64<n\/k<1\/n<k\/r<1\/n<r then 0 else n - k - (k+r - 1).tdiv r+2
theorem FF {n k r : Int} (h : n<1\/64<n\/k<1\/n<k\/r<1\/n<r) : qL n k r=6/\qI n k r=0:=by unfold qL qI;rw [Nd h,Nd h];exact ⟨rfl,rfl⟩
theorem IJ {n k r : Int} (h : ¬ (n<1\/64<n\/k<1\/n<k\/r<1\/n<r)) : qL n k r=0/\qI n k r=n - k - (k+r - 1).tdiv r+2:=by unfold qL qI;rw [Nf h,Nf h];exact ⟨rfl,rfl⟩
theorem uq (n k r : Int) (w : World) : Calls prog 22 #[.int .i64 n,.int .i64 k,.int .i64 r] w λe w'=>e = .returned (.tuple #[.int .i64 (qI n k r),.int .i64 (qL n k r)])/\w'=w:=by
 have HB : Hid ((n<1\/64<n\/k<1\/n<k\/r<1\/n<r)->qL n k r=6/\qI n k r=0):=FF;have HO : Hid (¬ (n<1\/64<n\/k<1\/n<k\/r<1\/n<r)->qL n k r=0/\qI n k r=n - k - (k+r - 1).tdiv r+2):=IJ;obtain ⟨E,hE⟩ : ∃E,qL n k r=E:=⟨_,rfl⟩
 obtain ⟨V,hV⟩ : ∃V,qI n k r=V:=⟨_,rfl⟩
 rw [hE,hV] at HB HO ⊢;clear hE hV;go_enter func22,ntmps22;by_cases h1 : n<1
 ·have d1 : decide (n<1)=true:=NB h1;have HP:=Z5 (HB.out (.inl h1));clear h1;go_wp2_with fail;go_ret2;exact ⟨by rw [HP.out.1,HP.out.2] <;> rfl,rfl⟩
 have d1 : decide (n<1)=false:=NA h1;by_cases h2 : 64<n
 ·have d2 : decide (64<n)=true:=NB h2;have HP:=Z5 (HB.out (.inr (.inl h2)));clear h1 h2;go_wp2_with fail;go_ret2;exact ⟨by rw [HP.out.1,HP.out.2] <;> rfl,rfl⟩
 have d2 : decide (64<n)=false:=NA h2;by_cases h3 : k<1
 ·have d3 : decide (k<1)=true:=NB h3;have HP:=Z5 (HB.out (.inr (.inr (.inl h3))));clear h1 h2 h3;go_wp2_with fail;go_ret2;exact ⟨by rw [HP.out.1,HP.out.2] <;> rfl,rfl⟩
 have d3 : decide (k<1)=false:=NA h3;by_cases h4 : n<k
 ·have d4 : decide (n<k)=true:=NB h4;have HP:=Z5 (HB.out (.inr (.inr (.inr (.inl h4)))));clear h1 h2 h3 h4;go_wp2_with fail;go_ret2;exact ⟨by rw [HP.out.1,HP.out.2] <;> rfl,rfl⟩
 have d4 : decide (n<k)=false:=NA h4;by_cases h5 : r<1
 ·have d5 : decide (r<1)=true:=NB h5;have HP:=Z5 (HB.out (.inr (.inr (.inr (.inr (.inl h5))))));clear h1 h2 h3 h4 h5;go_wp2_with fail;go_ret2;exact ⟨by rw [HP.out.1,HP.out.2] <;> rfl,rfl⟩
 have d5 : decide (r<1)=false:=NA h5;by_cases h6 : n<r
 ·have d6 : decide (n<r)=true:=NB h6;have HP:=Z5 (HB.out (.inr (.inr (.inr (.inr (.inr h6))))));clear h1 h2 h3 h4 h5 h6;go_wp2_with fail;go_ret2;exact ⟨by rw [HP.out.1,HP.out.2] <;> rfl,rfl⟩
 have d6 : decide (n<r)=false:=NA h6;have HP:=Z5 (HO.out (by omega));have hq0 : 0<=(k+r - 1).tdiv r:=RK (by omega) (by omega);have hq1 : (k+r - 1).tdiv r<=k+r - 1:=RC _ (by omega);obtain ⟨q,hq⟩ : ∃q,(k+r - 1).tdiv r=q:=⟨_,rfl⟩
 rw [hq] at hq0 hq1 HP;have k1 : IntKind.i64.wrap (n - k)=n - k:=Ns _ (by omega);have k2 : IntKind.i64.wrap (k+r)=k+r:=Ns _ (by omega);have k3 : IntKind.i64.wrap (k+r - 1)=k+r - 1:=Ns _ (by omega);have k4 : IntKind.i64.wrap q=q:=Ns _ (by omega);have k5 : IntKind.i64.wrap (n - k - q)=n - k - q:=Ns _ (by omega);have k6 : IntKind.i64.wrap (n - k - q+2)=n - k - q+2:=Ns _ (by omega);have hr0 : r ≠ 0:=by omega
 have hr1 : (r == 0)=false:=by simpa using hr0
 go_wp2_with fail;go_ret2;exact ⟨by rw [HP.out.1,HP.out.2] <;> rfl,rfl⟩
def kP (P M : Int) (mod : Lz) (N : Int) (L : ZZ) (i : Int) : Int:=if aF P M mod N L=0 then (if i<0\/N<=i then 6 else 0) else aF P M mod N L
theorem o0 (P M : Int) (am : OA) (mn cm : Nat) (mod : Lz) (N : Int) (a : OA) (n c : Nat) (L : ZZ) (i : Int) (w : World) (hmod : Ints w am mn mod) (hi : br w a n L) :
  Calls prog 47 #[.agg #[.int .i64 P,.int .i64 M,.slice am mn cm,.int .i64 N,.slice a n c],.int .i64 i] w λe w'=>e = .returned (.int .i64 (kP P M mod N L i))/\SW w w':=by
 have HCk : Hid (∀V,SW w V->Calls prog 88 #[.agg #[.int .i64 P,.int .i64 M,.slice am mn cm,.int .i64 N,.slice a n c]] V λe w'=>e = .returned (.int .i64 (aF P M mod N L))/\SW V w'):=λV hV=>dr P M am mn cm mod N a n c L V (hmod.ah hV) (hi.ah hV);have HE : Hid (kP P M mod N L i=if aF P M mod N L=0 then (if i<0\/N<=i then 6 else 0) else aF P M mod N L):=rfl;obtain ⟨E,hE⟩ : ∃E,kP P M mod N L i=E:=⟨_,rfl⟩
 obtain ⟨ce,hce⟩ : ∃ce,aF P M mod N L=ce:=⟨_,rfl⟩
 rw [hE,hce] at HE;rw [hce] at HCk;rw [hE];clear hE hce hmod hi;go_enter func47,ntmps47;go_upto_region 1 with fail;obtain ⟨W,hW⟩ : ∃W : World,W=w.alloc (.cells #[.int .i64 P,.int .i64 M,.slice am mn cm,.int .i64 N,.slice a n c] 27):=⟨_,rfl⟩
 rw [<- hW];have hbW : SW w W:=by rw [hW];exact an _ _
 have x0 : aN W w.heap.size [.int .i64 P,.int .i64 M,.slice am mn cm,.int .i64 N,.slice a n c]:=by rw [hW];exact R9 _ _ _ rfl
 have HX:=Z5 x0;have c0:=x0.cell 0 rfl;have c1:=x0.cell 1 rfl;have c2:=x0.cell 2 rfl;have c3:=x0.cell 3 rfl;have c4:=x0.cell 4 rfl;clear hW x0;go_wp2_with fail;refine (HCk.out W hbW).mono ?_;rintro e w1 ⟨rfl,hb1⟩;have hF:=RZ hbW hb1;clear c0 c1 c2 c3 c4;have c3:=(HX.out.ah hb1).cell 3 rfl;by_cases h0 : ce=0;rotate_left
 ·have d0 : (ce != 0)=true:=by simpa using h0
  have HR : Hid (E=ce):=by show _=_;rw [HE.out,Nf h0]
  clear h0;go_wp2_with fail;go_ret;exact ⟨aP HR.out.symm,hF⟩
 have d0 : (ce != 0)=false:=by simpa using h0
 by_cases h1 : i<0
 ·have d1 : decide (i<0)=true:=NB h1;have HR : Hid (E=6):=by show _=_;rw [HE.out,Nd h0,Nd (.inl h1)]
  clear h0 h1;go_wp2_with fail;go_ret;exact ⟨aP HR.out.symm,hF⟩
 have d1 : decide (i<0)=false:=NA h1;by_cases h2 : N<=i
 ·have d2 : decide (N<=i)=true:=NB h2;have HR : Hid (E=6):=by show _=_;rw [HE.out,Nd h0,Nd (.inr h2)]
  clear h0 h1 h2;go_wp2_with fail;go_ret;exact ⟨aP HR.out.symm,hF⟩
 ·have d2 : decide (N<=i)=false:=NA h2;have HR : Hid (E=0):=by show _=_;rw [HE.out,Nd h0,Nf (by omega)]
  clear h0 h1 h2;go_wp2_with fail;go_ret;exact ⟨aP HR.out.symm,hF⟩
theorem Ag (P M : Int) (am : OA) (mn cm : Nat) (mod : Lz) (m : Nat) (a : OA) (k c : Nat) (L : ZZ) (w : World) (hE : aF P M mod m L=0) (hmod : Ints w am mn mod) (hi : br w a k L)
  (hbig : iA (af P M.toNat mod).q k ≠ 0) :
  Calls prog 158 #[.agg #[.int .i64 P,.int .i64 M,.slice am mn cm,.int .i64 m,.slice a k c]] w λe w'=>e = .returned (.tuple #[.slice none 0 0,.int .i64 (iA (af P M.toNat mod).q k)])/\SW w w':=by
 have HSz : Hid (∀V,SW w V->Calls prog 210 #[.agg #[.int .i64 P,.int .i64 M,.slice am mn cm,.int .i64 m,.slice a k c]] V λe w'=>e = .returned (.tuple #[.int .i64 (kI (af P M.toNat mod).q k),.int .i64 (iA (af P M.toNat mod).q k)])/\SW V w') :=
  λV hV=>BH P M am mn cm mod m a k c L V hE (hmod.ah hV) (hi.ah hV)
 generalize kI (af P M.toNat mod).q k=v at *;generalize iA (af P M.toNat mod).q k=f at *;have d0 : (f != 0)=true:=by simpa using hbig
 clear hbig hmod hi hE;go_enter func158,ntmps158;go_upto_region 1 with fail;obtain ⟨W,hW⟩ : ∃W : World,W=w.alloc (.cells #[.int .i64 P,.int .i64 M,.slice am mn cm,.int .i64 m,.slice a k c] 27):=⟨_,rfl⟩
 rw [<- hW];have hbW : SW w W:=by rw [hW];exact an _ _
 have x0 : aN W w.heap.size [.int .i64 P,.int .i64 M,.slice am mn cm,.int .i64 m,.slice a k c]:=by rw [hW];exact R9 _ _ _ rfl
 have c0:=x0.cell 0 rfl;have c1:=x0.cell 1 rfl;have c2:=x0.cell 2 rfl;have c3:=x0.cell 3 rfl;have c4:=x0.cell 4 rfl;clear hW x0;go_wp2_with fail;refine (HSz.out W hbW).mono ?_;rintro e w1 ⟨rfl,hb1⟩;have hF:=RZ hbW hb1;clear c0 c1 c2 c3 c4;go_wp2_with fail;go_ret2;exact ⟨rfl,hF⟩
def wZ (P M : Int) (mod : Lz) (m : Nat) (L : ZZ) : Int:=iA (af P M.toNat mod).q (aS (af P M.toNat mod) L m).length
def pT (P M : Int) (mod : Lz) (m : Nat) (L : ZZ) (w : World) (e : Ending) (w' : World) : Prop :=
 SW w w'/\((wZ P M mod m L ≠ 0/\e = .returned (.tuple #[.slice none 0 0,.int .i64 (wZ P M mod m L)])) \/
  (wZ P M mod m L=0/\∃a k c,e = .returned (.tuple #[.slice a k c,.int .i64 0])/\br w' a k (oR P M mod m L)))
theorem De (P M : Int) (am : OA) (mn cm : Nat) (mod : Lz) (m : Nat) (a : OA) (n c : Nat) (L : ZZ) (w : World) (hE : aF P M mod m L=0) (hmod : Ints w am mn mod) (hi : br w a n (aS (af P M.toNat mod) L m)) :
  Calls prog 158 #[.agg #[.int .i64 P,.int .i64 M,.slice am mn cm,.int .i64 m,.slice a n c]] w (pT P M mod m L w):=by
 have hD:=(gY hE).1;have hl:=hi.len;by_cases h : wZ P M mod m L=0
 ·have hq : ((af P M.toNat mod).q : Int) ^ (aS (af P M.toNat mod) L m).length<=65536:=by
   unfold wZ iA at h;split at h
   ·assumption
   ·cases h
  have h2 : (af P M.toNat mod).q ^ n<=65536:=by
   rw [<- hl];have e : ((af P M.toNat mod).q : Int) ^ (aS (af P M.toNat mod) L m).length=(((af P M.toNat mod).q ^ (aS (af P M.toNat mod) L m).length : Nat) : Int):=by simp
   rw [e] at hq;omega
  refine (GA P M am mn cm mod m a n c _ w _ hD hmod hi rfl h2).mono ?_;rintro e w' ⟨ao,co,rfl,hM,hb⟩;exact ⟨hb,.inr ⟨h,ao,_,co,rfl,hM⟩⟩
 ·have h2 : iA (af P M.toNat mod).q n ≠ 0:=by rw [<- hl];exact h
  refine (Ag P M am mn cm mod m a n c _ w hD hmod hi h2).mono ?_;rintro e w' ⟨rfl,hb⟩;refine ⟨hb,.inl ⟨h,?_⟩⟩;unfold wZ;rw [hl]
theorem xG (P M : Int) (am : OA) (mn cm : Nat) (mod : Lz) (m : Nat) (a : OA) (n c : Nat) (L : ZZ) (w : World) (hmod : Ints w am mn mod) (hi : br w a n L) (hE : aF P M mod m L=0) :
  Calls prog 101 #[.agg #[.int .i64 P,.int .i64 M,.slice am mn cm,.int .i64 m,.slice a n c]] w (pT P M mod m L w):=by
 have hmn : mn<=8:=by have:=ke (aG hE).1;rw [<- hmod.len];exact this
 have HD : Hid (∀V,SW w V->Calls prog 80 #[.agg #[.int .i64 P,.int .i64 M,.slice am mn cm,.int .i64 m,.slice a n c]] V (nI P M mod m L V)):=λV hV=>vC P M am mn cm mod m a n c L V (hmod.ah hV) (hi.ah hV) hE (by omega);have HWd : Hid (∀V a1 n1 c1 a2 n2 c2,Ints V a1 n1 mod->br V a2 n2 (aS (af P M.toNat mod) L m)->Calls prog 158 #[.agg #[.int .i64 P,.int .i64 M,.slice a1 n1 c1,.int .i64 m,.slice a2 n2 c2]] V (pT P M mod m L V)) :=
  λV a1 n1 c1 a2 n2 c2 h1 h2=>De P M a1 n1 c1 mod m a2 n2 c2 L V hE h1 h2
 unfold nI at HD;unfold pT at HWd ⊢;generalize aS (af P M.toNat mod) L m=D at *;generalize wZ P M mod m L=f at *;generalize oR P M mod m L=S at *;obtain ⟨nm,hnm⟩ : ∃nm,mod.length=nm:=⟨_,rfl⟩
 obtain ⟨nd,hnd⟩ : ∃nd,D.length=nd:=⟨_,rfl⟩
 rw [hnm,hnd] at HD;clear hmod hi hE hmn hnm hnd;go_enter func101,ntmps101;go_upto_region 1 with fail;obtain ⟨W,hW⟩ : ∃W : World,W=w.alloc (.cells #[.int .i64 P,.int .i64 M,.slice am mn cm,.int .i64 m,.slice a n c] 27):=⟨_,rfl⟩
 rw [<- hW];have hbW : SW w W:=by rw [hW];exact an _ _
 have x0 : aN W w.heap.size [.int .i64 P,.int .i64 M,.slice am mn cm,.int .i64 m,.slice a n c]:=by rw [hW];exact R9 _ _ _ rfl
 have c0:=x0.cell 0 rfl;have c1:=x0.cell 1 rfl;have c2:=x0.cell 2 rfl;have c3:=x0.cell 3 rfl;have c4:=x0.cell 4 rfl;have HbW:=Z5 hbW;clear hW x0 hbW;go_wp2_with fail;refine (HD.out W HbW.out).mono ?_;rintro e w1 ⟨a1,k1,a2,k2,rfl,hI1,hM1,hb1⟩;obtain ⟨U,hU⟩ : ∃U : World,U=w1.alloc (.cells #[.int .i64 P,.int .i64 M,.slice a1 nm k1,.int .i64 m,.slice a2 nd k2] 27):=⟨_,rfl⟩
 have hbU : SW w1 U:=by rw [hU];exact an _ _
 have y0 : aN U w1.heap.size [.int .i64 P,.int .i64 M,.slice a1 nm k1,.int .i64 m,.slice a2 nd k2]:=by rw [hU];exact R9 _ _ _ rfl
 have hF:=RZ HbW.out (RZ hb1 hbU);have HC:=Z5 (HWd.out U a1 nm k1 a2 nd k2 (hI1.ints.ah hbU) (hM1.jt.ah hbU));clear c0 c1 c2 c3 c4 hI1 hM1;have c0:=y0.cell 0 rfl;have c1:=y0.cell 1 rfl;have c2:=y0.cell 2 rfl;have c3:=y0.cell 3 rfl;have c4:=y0.cell 4 rfl;rw [hU] at c0 c1 c2 c3 c4;have HU:=Z5 hU;clear hU y0;go_wp2_with fail;rw [<- HU.out];refine HC.out.mono ?_;rintro e w2 ⟨hb2,⟨h1,rfl⟩ | ⟨h1,a3,k3,c3',rfl,hM⟩⟩
 ·have hF2:=RZ hF hb2;clear c0 c1 c2 c3 c4;go_wp2_with fail;go_ret2;exact ⟨hF2,.inl ⟨h1,rfl⟩⟩
 ·have hF2:=RZ hF hb2;have HM:=Z5 hM;clear c0 c1 c2 c3 c4 hM;go_wp2_with fail;go_ret2;exact ⟨hF2,.inr ⟨h1,a3,k3,c3',rfl,HM.out⟩⟩
def pY (P M : Int) (mod : Lz) (m : Nat) (L : ZZ) (i : Int) : Int:=if wZ P M mod m L=0 then (if iw P M mod m L i=[] then 11 else 0) else wZ P M mod m L
def iX (P M : Int) (mod : Lz) (m : Nat) (L : ZZ) (i : Int) : Lz:=bI (iw P M mod m L i) m i
def qM (P M : Int) (mod : Lz) (m : Nat) (L : ZZ) (i : Int) : Lz:=(iX P M mod m L i).map λj=>(af P M.toNat mod).neg (nth (iw P M mod m L i) j.toNat)
def oJ (er : Int) (S C : Lz) (w : World) (e : Ending) (w' : World) : Prop :=
 SW w w'/\((er ≠ 0/\e = .returned (.tuple #[.slice none 0 0,.slice none 0 0,.int .i64 er])) \/
  (er=0/\∃a c a2 c2,e = .returned (.tuple #[.slice a S.length c,.slice a2 S.length c2,.int .i64 0])/\Ints w' a S.length S/\Ints w' a2 S.length C))
theorem uE (P M : Int) (am : OA) (mn cm : Nat) (mod : Lz) (m i : Nat) (a : OA) (n c : Nat) (L : ZZ) (w : World) (hmod : Ints w am mn mod) (hi : br w a n L) (hE : aF P M mod m L=0) (him : i<m) :
  Calls prog 48 #[.agg #[.int .i64 P,.int .i64 M,.slice am mn cm,.int .i64 m,.slice a n c],.int .i64 i] w (oJ (pY P M mod m L i) (iX P M mod m L i) (qM P M mod m L i) w):=by
 have hm64 : m<=64:=by obtain ⟨N',e,hm1,hm64,F,hR⟩:=aM hE;omega
 have HD : Hid (∀V,SW w V->Calls prog 101 #[.agg #[.int .i64 P,.int .i64 M,.slice am mn cm,.int .i64 m,.slice a n c]] V (pT P M mod m L V)):=λV hV=>xG P M am mn cm mod m a n c L V (hmod.ah hV) (hi.ah hV) hE;have HNw : Hid (∀V,SW w V->Calls prog 52 #[.agg #[.int .i64 P,.int .i64 M,.slice am mn cm]] V λe w'=>∃b,e = .returned (.tuple #[.pointer (some ⟨b,0,none⟩),.int .i64 0])/\ew w' b (af P M.toNat mod)/\SW V w'):=λV hV=>by
  refine (ef P M am mn cm mod V (hmod.ah hV)).mono ?_;rintro e w' (⟨h1,_⟩ | ⟨_,b,h2,h3,_,h4⟩)
  ·rw [(aG hE).1] at h1;cases h1
  ·exact ⟨b,h2,h3.gf,h4⟩
 have HH : Hid (∀V aW nW cW,br V aW nW (oR P M mod m L)->Calls prog 102 #[.slice aW nW cW,.int .i64 i] V λe w'=>SW V w'/\∃ar nr cr,e = .returned (.slice ar nr cr)/\lJ w' ar nr (iw P M mod m L i)):=λV aW nW cW hW=>by
  have h:=sS aW nW cW (oR P M mod m L) m i V hW (λr hr=>((ou hE).1 hr).1.1) him hm64;have e : iw P M mod m L (i : Nat)=bstL m (i : Nat) (oR P M mod m L) nW:=by rw [iw,hW.len]
  rw [e];exact h
 have hhel:=qB hE (i : Int);have HEl : Hid (iw P M mod m L i ≠ []->(af P M.toNat mod).Ec (iw P M mod m L i)/\(iw P M mod m L i).length=m):=λhne=>by
  rcases hhel with ⟨h,_⟩ | ⟨h,_,_⟩
  ·exact absurd h hne
  ·obtain ⟨h1,_⟩:=(ou hE).1 h;exact ⟨h1.2,h1.1⟩
 have HEr : Hid (pY P M mod m L i=if wZ P M mod m L=0 then (if iw P M mod m L i=[] then 11 else 0) else wZ P M mod m L):=rfl;obtain ⟨x,hx⟩ : ∃x,iw P M mod m L i=x:=⟨_,rfl⟩
 have HC : Hid (qM P M mod m L i=(iX P M mod m L i).map λj=>(af P M.toNat mod).neg (nth x j.toNat)):=by rw [<- hx];rfl
 have HS : Hid (iX P M mod m L i=bI x m i):=by rw [<- hx];rfl
 rw [hx] at HH HEl HEr;unfold pT at HD;generalize pY P M mod m L i=er at *;generalize qM P M mod m L i=C at *;generalize iX P M mod m L i=S at *;generalize wZ P M mod m L=f at *;generalize oR P M mod m L=Dw at *;generalize af P M.toNat mod=G at *;clear hmod hi hE hx hhel;go_enter func48,ntmps48;go_upto_region 1 with fail;obtain ⟨W,hW⟩ : ∃W : World,W=w.alloc (.cells #[.int .i64 P,.int .i64 M,.slice am mn cm,.int .i64 m,.slice a n c] 27):=⟨_,rfl⟩
 rw [<- hW];have hbW : SW w W:=by rw [hW];exact an _ _
 have x0 : aN W w.heap.size [.int .i64 P,.int .i64 M,.slice am mn cm,.int .i64 m,.slice a n c]:=by rw [hW];exact R9 _ _ _ rfl
 have HX:=Z5 x0;have HbW:=Z5 hbW;have c0:=x0.cell 0 rfl;have c1:=x0.cell 1 rfl;have c2:=x0.cell 2 rfl;have c3:=x0.cell 3 rfl;have c4:=x0.cell 4 rfl;clear hW x0 hbW;go_wp2_with fail;refine (HD.out W HbW.out).mono ?_;rintro e w1 ⟨hb1,⟨h1,rfl⟩ | ⟨h1,aW,nW,cW,rfl,hM⟩⟩
 ·have hF:=RZ HbW.out hb1;have d0 : (f != 0)=true:=by simpa using h1
  have HR : Hid (er=f):=by show _=_;rw [HEr.out,Nf h1]
  have H1:=Z5 h1;clear c0 c1 c2 c3 c4 h1;go_wp2_with fail;go_ret3;exact ⟨hF,.inl ⟨by rw [HR.out];exact H1.out,by rw [HR.out] <;> rfl⟩⟩
 have HM:=Z5 hM;have hF1:=RZ HbW.out hb1;have H1:=Z5 h1;clear c0 c1 c2 c3 c4 hM h1;have y1:=HX.out.ah hb1;have c0:=y1.cell 0 rfl;have c1:=y1.cell 1 rfl;have c2:=y1.cell 2 rfl;clear y1;go_wp2_with fail;refine (HNw.out w1 hF1).mono ?_;rintro e w2 ⟨b,rfl,hG2,hb2⟩;have hF2:=RZ hF1 hb2;have HG:=Z5 hG2;have HH2:=Z5 (HH.out w2 aW nW cW (HM.out.ah hb2));clear c0 c1 c2 hG2;go_wp2_with fail;refine HH2.out.mono ?_;rintro e w3 ⟨hb3,ax,nx,cx,rfl,hx3⟩;have hF3:=RZ hF2 hb3;have heq:=λ(w : World) (a : OA) (l c : Nat)=>Go.run_eql_slice_nil (P:=prog) w 22 3 a l c underlying22;by_cases h0 : x=[]
 ·have hin : ax.isNone=true:=by rw [hx3.2];exact NB h0
  have HR : Hid (er=11):=by show _=_;rw [HEr.out,Nd H1.out,Nd h0]
  clear h0 hx3;go_wp2_with fail;go_ret3;exact ⟨hF3,.inl ⟨by rw [HR.out];decide,by rw [HR.out] <;> rfl⟩⟩
 have hin : ax.isNone=false:=by rw [hx3.2];exact NA h0
 have HR : Hid (er=0):=by show _=_;rw [HEr.out,Nd H1.out,Nf h0]
 obtain ⟨hxe,hxl⟩:=HEl.out h0;have hnx : nx=m:=by rw [<- hx3.1.len];exact hxl
 subst hnx;have HX3:=Z5 hx3.1;have HSu:=Z5 (kd ax nx cx x i w3 hx3.1 (by omega));rw [<- HS.out] at HSu;have Hxe:=Z5 hxe;have Hxl:=Z5 hxl;have HSb : Hid (∀j,j<S.length->0<=nth S j/\nth S j<nx):=λj hj=>by have h:=aH hj;rw [HS.out] at h;exact AQ (by rw [HS.out];exact h)
 clear h0 hx3 hxe hxl;go_wp2_with fail;refine HSu.out.mono ?_;rintro e w4 ⟨a4,k4,rfl,hown4,hb4⟩;have hF4:=RZ hF3 hb4;have HI4:=Z5 (R6 hown4).1;have hpl4:=(R6 hown4).1.pl;obtain ⟨q,hq⟩ : ∃q,S.length=q:=⟨_,rfl⟩
 have hq64 : q<=64:=by rw [<- hq,HS.out];exact Nr (gH _ _ _) hm64
 rw [hq] at HI4 hpl4 HSb ⊢;have Hq:=Z5 hq;have HG4 : Hid (∀V,SW w4 V->ew V b G/\Ints V ax nx x/\Ints V a4 q S):=λV hV=>⟨HG.out.ah (RZ hb3 (RZ hb4 hV)),HX3.out.ah (RZ hb4 hV),HI4.out.ah hV⟩
 have hplx:=HX3.out.pl;clear hown4 hq;go_wp2_with fail;go_loopw [12,42] (λcv iv wr=>∃(k : Nat) (a5 : OA) (c5 : Nat),k<=q/\iv = .int .i64 k/\cv = .slice a5 k c5/\wr.ownsRow w4.heap.size 3 1 (.slice a5 k c5) k (((S.take k).map λj=>G.neg (nth x j.toNat)).map (Value.int .i64))/\SW w4 wr) (λ_ iv _=>q - (intOf iv).toNat);case atStart=>exact ⟨0,none,0,Ni _,rfl,rfl,bV,Nc _ _⟩
 case round =>
  obtain ⟨k,a5,c5,hk,rfl,rfl,hown,hbr⟩:=hrel
  generalize wr=V at *
  by_cases hlt : k<q
  ·obtain ⟨hG,hIx,hIs⟩:=HG4.out V hbr
   have ck:=hIs.cell k hlt
   obtain ⟨hs0,hs1⟩:=HSb.out k hlt
   have Htk : Hid (S.take (k+1)=S.take k ++ [nth S k]):=by show _=_;rw [Nj (by rw [Hq.out];exact hlt),aj (by rw [Hq.out];exact hlt)]
   obtain ⟨j,hj⟩ : ∃j : Nat,nth S k=j:=⟨(nth S k).toNat,by omega⟩
   rw [hj] at ck hs1 Htk
   have hjn : j<nx:=by omega
   have cx:=hIx.cell j hjn
   have hye:=Hxe.out.nth (i:=j) (by rw [Hxl.out];exact hjn)
   have HNg:=Z5 (Kv (nth x j) hG hye)
   have Hown:=Z5 hown
   obtain ⟨y,hy⟩ : ∃y,nth x j=y:=⟨_,rfl⟩
   rw [hy] at cx HNg
   obtain ⟨z,hz⟩ : ∃z,G.neg y=z:=⟨_,rfl⟩
   rw [hz] at HNg
   have Hz : Hid (G.neg (nth x j)=z):=by rw [hy];exact hz
   clear hG hIx hIs hs0 hj hye hown hy hz
   have hsz:=hbr.size
   go_wp2_with fail
   refine HNg.out.mono ?_
   rintro e w6 ⟨m6,rfl,rfl⟩
   have hown6:=bd Hown.out (Sj ⟨m6,rfl⟩)
   have hbr6:=RZ hbr (Sj ⟨m6,rfl⟩)
   have hcn:=ba (V.drewN m6) (.int .i64 z) 3
   go_wp2_with (at_builtin;refine aO rfl _ _ 22 3 rfl (.int .i64 0) 8 underlying22 aU rfl w4.heap.size a5 k c5 _ rfl (hown6.alloc _) ⟨(V.drewN m6).heap.size,0,none⟩ 1 (.int .i64 z) rfl hcn rfl (by omega) (by unfold maxLen;omega) (by simp;omega) ?_;intro a7 c7 w7 hown7 hgr7 hap7)
   go_roundw
   case rel=>exact ⟨k+1,a7,c7,by omega,by go_num,rfl,by rw [Htk.out,NM,NM];simpa [Hz.out] using hown7,Sa (Sb hbr6 _) (hown6.alloc _) hgr7 (Na _) (Sb hbr6 _).size⟩
   case measure=>simp [intOf] <;> omega
  ·obtain rfl : k=q:=by omega
   have hIC : Ints V a5 k C:=by have h:=(R6 hown).1;rw [<- Hq.out,QM] at h;rw [HC.out];rw [Hq.out] at h;exact h
   have HP : Hid (oJ er S C w (.returned (.tuple #[.slice a4 k k4,.slice a5 k c5,.int .i64 0])) V):=⟨RZ hF4 hbr,.inr ⟨HR.out,a4,k4,a5,c5,by rw [Hq.out],by rw [Hq.out];exact HI4.out.ah hbr,by rw [Hq.out];exact hIC⟩⟩
   clear hown hIC
   go_wp2_with fail
   go_ret3
   exact HP.out
def kL (P M : Int) (mod : Lz) (N : Int) (L : ZZ) (i : Int) : Int:=if kP P M mod N L i=0 then pY P M mod N.toNat L i else kP P M mod N L i
theorem mG (P M : Int) (am : OA) (mn cm : Nat) (mod : Lz) (N : Int) (a : OA) (n c : Nat) (L : ZZ) (i : Int) (w : World) (hmod : Ints w am mn mod) (hi : br w a n L) :
  Calls prog 15 #[.agg #[.int .i64 P,.int .i64 M,.slice am mn cm,.int .i64 N,.slice a n c],.int .i64 i] w (oJ (kL P M mod N L i) (iX P M mod N.toNat L i) (qM P M mod N.toNat L i) w):=by
 have HP : Hid (∀V,SW w V->Calls prog 47 #[.agg #[.int .i64 P,.int .i64 M,.slice am mn cm,.int .i64 N,.slice a n c],.int .i64 i] V λe w'=>e = .returned (.int .i64 (kP P M mod N L i))/\SW V w'):=λV hV=>o0 P M am mn cm mod N a n c L i V (hmod.ah hV) (hi.ah hV);have HH : Hid (kP P M mod N L i=0->∀V,SW w V->Calls prog 48 #[.agg #[.int .i64 P,.int .i64 M,.slice am mn cm,.int .i64 N,.slice a n c],.int .i64 i] V (oJ (pY P M mod N.toNat L i) (iX P M mod N.toNat L i) (qM P M mod N.toNat L i) V)):=λh V hV=>by
  unfold kP at h;split at h
  ·rename_i hE;split at h
   ·cases h
   ·obtain ⟨m,rfl,_⟩:=aM hE;obtain ⟨j,rfl⟩ : ∃j : Nat,i=j:=⟨i.toNat,by omega⟩
    rw [Nb];exact uE P M am mn cm mod m j a n c L V (hmod.ah hV) (hi.ah hV) hE (by omega)
  ·rename_i hE;exact absurd h hE
 have HE : Hid (kL P M mod N L i=if kP P M mod N L i=0 then pY P M mod N.toNat L i else kP P M mod N L i):=rfl;generalize kL P M mod N L i=er at *;generalize kP P M mod N L i=pe at *;generalize pY P M mod N.toNat L i=he at *;generalize iX P M mod N.toNat L i=S at *;generalize qM P M mod N.toNat L i=C at *;clear hmod hi;go_enter func15,ntmps15;go_upto_region 1 with fail;obtain ⟨W,hW⟩ : ∃W : World,W=w.alloc (.cells #[.int .i64 P,.int .i64 M,.slice am mn cm,.int .i64 N,.slice a n c] 27):=⟨_,rfl⟩
 rw [<- hW];have hbW : SW w W:=by rw [hW];exact an _ _
 have x0 : aN W w.heap.size [.int .i64 P,.int .i64 M,.slice am mn cm,.int .i64 N,.slice a n c]:=by rw [hW];exact R9 _ _ _ rfl
 have HX:=Z5 x0;have HbW:=Z5 hbW;have c0:=x0.cell 0 rfl;have c1:=x0.cell 1 rfl;have c2:=x0.cell 2 rfl;have c3:=x0.cell 3 rfl;have c4:=x0.cell 4 rfl;clear hW x0 hbW;go_wp2_with fail;refine (HP.out W HbW.out).mono ?_;rintro e w1 ⟨rfl,hb1⟩;have hF1:=RZ HbW.out hb1;clear c0 c1 c2 c3 c4;by_cases h0 : pe=0;rotate_left
 ·have d0 : (pe != 0)=true:=by simpa using h0
  have HR : Hid (er=pe):=by show _=_;rw [HE.out,Nf h0]
  have H0:=Z5 h0;clear h0 HH;go_wp2_with fail;go_ret3;exact ⟨hF1,.inl ⟨by rw [HR.out];exact H0.out,by rw [HR.out] <;> rfl⟩⟩
 have d0 : (pe != 0)=false:=by simpa using h0
 have HR : Hid (er=he):=by show _=_;rw [HE.out,Nd h0]
 have HC:=Z5 (HH.out h0 w1 hF1);have y1:=HX.out.ah hb1;have c0:=y1.cell 0 rfl;have c1:=y1.cell 1 rfl;have c2:=y1.cell 2 rfl;have c3:=y1.cell 3 rfl;have c4:=y1.cell 4 rfl;clear y1 h0 HH;go_wp2_with fail;refine HC.out.mono ?_;rintro e w2 ⟨hb2,⟨h1,rfl⟩ | ⟨h1,a2,k2,a3,k3,rfl,hI2,hI3⟩⟩
 ·have hF2:=RZ hF1 hb2;have H1:=Z5 h1;clear c0 c1 c2 c3 c4 h1;go_wp2_with fail;go_ret3;exact ⟨hF2,.inl ⟨by rw [HR.out];exact H1.out,by rw [HR.out] <;> rfl⟩⟩
 ·have hF2:=RZ hF1 hb2;have H1:=Z5 (Np h1 (Np hI2 hI3));clear c0 c1 c2 c3 c4 h1 hI2 hI3;go_wp2_with fail;go_ret3;exact ⟨hF2,.inr ⟨by rw [HR.out];exact H1.out.1,a2,k2,a3,k3,rfl,H1.out.2.1,H1.out.2.2⟩⟩
def vx (P M : Int) (mod : Lz) (m : Nat) (S : ZZ) (w : World) (e : Ending) (w' : World) : Prop :=
 ∃a1 c1 a2 c2,e = .returned (.tuple #[.agg #[.int .i64 P,.int .i64 M,.slice a1 mod.length c1,.int .i64 m,.slice a2 S.length c2],.int .i64 0])/\cR w.heap.size w' a1 mod.length mod /\
  dq w.heap.size w' a2 S.length S/\SW w w'
theorem CY (P M : Int) (am : OA) (mn cm : Nat) (mod : Lz) (m : Nat) (a : OA) (n c : Nat) (L : ZZ) (am' : OA) (mn' cm' : Nat) (a' : OA) (n' c' : Nat) (L' : ZZ) (w : World)
  (hmod : Ints w am mn mod) (hi : br w a n L) (hmod' : Ints w am' mn' mod) (hi' : br w a' n' L') (hE : aF P M mod m L=0) (hE' : aF P M mod m L'=0) (hmn : mn<=1000000) :
  Calls prog 126 #[.agg #[.int .i64 P,.int .i64 M,.slice am mn cm,.int .i64 m,.slice a n c],.agg #[.int .i64 P,.int .i64 M,.slice am' mn' cm',.int .i64 m,.slice a' n' c']] w (vx P M mod m (bZ (af P M.toNat mod).ops m (L ++ L')) w):=by
 have HTw : Hid (∀V,SW w V->Calls prog 180 #[.agg #[.int .i64 P,.int .i64 M,.slice am mn cm,.int .i64 m,.slice a n c],.agg #[.int .i64 P,.int .i64 M,.slice am' mn' cm',.int .i64 m,.slice a' n' c']] V λe w'=>e = .returned (.int .i64 0)/\SW V w'):=λV hV =>
  KR P M am mn cm mod m a n c L am' mn' cm' a' n' c' L' V (hmod.ah hV) (hi.ah hV) (hmod'.ah hV) (hi'.ah hV) hE hE'
 have HSu : Hid (∀V,SW w V->Calls prog 181 #[.agg #[.int .i64 P,.int .i64 M,.slice am mn cm],.agg #[.int .i64 m,.slice a n c],.agg #[.int .i64 m,.slice a' n' c']] V (sF (bZ (af P M.toNat mod).ops m (L ++ L')) m V)):=λV hV =>
  AJ P M am mn cm mod m a n c L a' n' c' L' V (hmod.ah hV) (hi.ah hV) (hi'.ah hV) hE hE'
 have HOf : Hid (∀V a5 k5 c5,SW w V->Calls prog 120 #[.agg #[.int .i64 P,.int .i64 M,.slice am mn cm],.agg #[.int .i64 m,.slice a5 k5 c5],.int .i64 0] V (tq P M mod m a5 k5 c5 V)):=λV a5 k5 c5 hV =>
  D2 P M am mn cm mod m a5 k5 c5 V (hmod.ah hV) hmn
 obtain ⟨S,hS⟩ : ∃S,bZ (af P M.toNat mod).ops m (L ++ L')=S:=⟨_,rfl⟩
 rw [hS] at HSu ⊢;have HPost : Hid (∀a1 c1 a2 c2 w',cR w.heap.size w' a1 mod.length mod->dq w.heap.size w' a2 S.length S->SW w w' ->
   vx P M mod m S w (.returned (.tuple #[.agg #[.int .i64 P,.int .i64 M,.slice a1 mod.length c1,.int .i64 m,.slice a2 S.length c2],.int .i64 0])) w'):=λa1 c1 a2 c2 w' h1 h2 h3=>⟨a1,c1,a2,c2,rfl,h1,h2,h3⟩
 generalize vx P M mod m S w=Post at *;unfold sF at HSu;unfold tq at HOf;obtain ⟨q,hq⟩ : ∃q,S.length=q:=⟨_,rfl⟩
 obtain ⟨nm,hnm⟩ : ∃nm,mod.length=nm:=⟨_,rfl⟩
 rw [hq] at HSu HPost;rw [hnm] at HOf HPost;clear hmod hi hmod' hi' hE hE' hS hq hnm;go_enter func126,ntmps126;go_upto_region 1 with fail;obtain ⟨W,hW⟩ : ∃W : World,W=((w.alloc (.cells #[.int .i64 P,.int .i64 M,.slice am mn cm,.int .i64 m,.slice a n c] 27)).alloc (.cells #[.int .i64 P,.int .i64 M,.slice am' mn' cm',.int .i64 m,.slice a' n' c'] 27)).alloc (.cells #[.int .i64 0,.int .i64 0,.slice none 0 0,.int .i64 0,.slice none 0 0] 27):=⟨_,rfl⟩
 rw [<- hW];have hbW : SW w W:=by rw [hW];exact mF _ _ _ _
 have hsW : W.heap.size=w.heap.size+3:=by rw [hW];simp
 have x0 : aN W w.heap.size [.int .i64 P,.int .i64 M,.slice am mn cm,.int .i64 m,.slice a n c]:=by rw [hW];exact ((R9 _ _ _ rfl).alloc _).alloc _
 have y0 : aN W (w.heap.size+1) [.int .i64 P,.int .i64 M,.slice am' mn' cm',.int .i64 m,.slice a' n' c']:=by rw [hW];exact (R9 _ _ _ (by simp)).alloc _
 have z0 : aN W (w.heap.size+1+1) [.int .i64 0,.int .i64 0,.slice none 0 0,.int .i64 0,.slice none 0 0]:=by rw [hW];exact R9 _ _ _ (by simp)
 clear hW;have HX : Hid (∀V,SW W V->V.cell? ⟨w.heap.size,0,none⟩=some (.int .i64 P)/\V.cell? ⟨w.heap.size,1,none⟩=some (.int .i64 M)/\V.cell? ⟨w.heap.size,2,none⟩=some (.slice am mn cm)/\V.cell? ⟨w.heap.size,3,none⟩=some (.int .i64 m)/\V.cell? ⟨w.heap.size,4,none⟩=some (.slice a n c) /\
   V.cell? ⟨w.heap.size+1,0,none⟩=some (.int .i64 P)/\V.cell? ⟨w.heap.size+1,1,none⟩=some (.int .i64 M)/\V.cell? ⟨w.heap.size+1,2,none⟩=some (.slice am' mn' cm')/\V.cell? ⟨w.heap.size+1,3,none⟩=some (.int .i64 m)/\V.cell? ⟨w.heap.size+1,4,none⟩=some (.slice a' n' c')):=λV hV=>by have x1:=x0.ah hV;have y1:=y0.ah hV;exact ⟨x1.cell 0 rfl,x1.cell 1 rfl,x1.cell 2 rfl,x1.cell 3 rfl,x1.cell 4 rfl,y1.cell 0 rfl,y1.cell 1 rfl,y1.cell 2 rfl,y1.cell 3 rfl,y1.cell 4 rfl⟩
 have HZ:=Z5 z0;have HbW:=Z5 hbW;have HsW:=Z5 hsW;clear x0 y0 z0 hbW hsW;obtain ⟨c0,c1,c2,c3,c4,d0,d1,d2,d3,d4⟩:=HX.out W (Nc _ _);go_wp2_with fail;refine (HTw.out W HbW.out).mono ?_;rintro e U ⟨rfl,hb1⟩;have hF1:=RZ HbW.out hb1;clear c0 c1 c2 c3 c4 d0 d1 d2 d3 d4;have HS5 : Hid (∀V,SW U V->V.cell? ⟨w.heap.size,0,none⟩=some (.int .i64 P)/\V.cell? ⟨w.heap.size,1,none⟩=some (.int .i64 M)/\V.cell? ⟨w.heap.size,2,none⟩=some (.slice am mn cm)/\V.cell? ⟨w.heap.size,3,none⟩=some (.int .i64 m)/\V.cell? ⟨w.heap.size,4,none⟩=some (.slice a n c) /\
   V.cell? ⟨w.heap.size+1,0,none⟩=some (.int .i64 P)/\V.cell? ⟨w.heap.size+1,1,none⟩=some (.int .i64 M)/\V.cell? ⟨w.heap.size+1,2,none⟩=some (.slice am' mn' cm')/\V.cell? ⟨w.heap.size+1,3,none⟩=some (.int .i64 m)/\V.cell? ⟨w.heap.size+1,4,none⟩=some (.slice a' n' c')/\SW U V):=λV hV=>by obtain ⟨q0,q1,q2,q3,q4,r0,r1,r2,r3,r4⟩:=HX.out V (RZ hb1 hV);exact ⟨q0,q1,q2,q3,q4,r0,r1,r2,r3,r4,hV⟩
 have HS1:=Z5 (λV (hV : SW U V)=>HSu.out V (RZ hF1 hV));have HwU : Hid (w.heap.size<=U.heap.size):=hF1.size;obtain ⟨c0,c1,c2,c3,c4,d0,d1,d2,d3,d4,_⟩:=HS5.out U (Nc _ _);go_upto_region 4 with fail;go_cut [7,8] (λv7 v8 wx=>v8 = .int .i64 0/\∃g a5 k5,v7 = .pointer (some ⟨g,0,none⟩)/\Hid (aN wx g [.int .i64 m,.slice a5 q k5])/\Hid (dq U.heap.size wx a5 q S)/\SW U wx);case first =>
  go_region_held3 (λV=>V.cell? ⟨w.heap.size,0,none⟩=some (.int .i64 P)/\V.cell? ⟨w.heap.size,1,none⟩=some (.int .i64 M)/\V.cell? ⟨w.heap.size,2,none⟩=some (.slice am mn cm)/\V.cell? ⟨w.heap.size,3,none⟩=some (.int .i64 m)/\V.cell? ⟨w.heap.size,4,none⟩=some (.slice a n c) /\
   V.cell? ⟨w.heap.size+1,0,none⟩=some (.int .i64 P)/\V.cell? ⟨w.heap.size+1,1,none⟩=some (.int .i64 M)/\V.cell? ⟨w.heap.size+1,2,none⟩=some (.slice am' mn' cm')/\V.cell? ⟨w.heap.size+1,3,none⟩=some (.int .i64 m)/\V.cell? ⟨w.heap.size+1,4,none⟩=some (.slice a' n' c')/\SW U V)
   ((refine HS5.out _ ?_;first | exact (Nc _ _).drew | assumption | (go_split_ands;first | assumption | exact RZ (by assumption) (an _ _) | exact (RZ (by assumption) (an _ _)).drew | exact RZ (by assumption) (by assumption) | exact P2 (P2 (by assumption) (by first | exact hB5.size | exact hB3.size | exact hB2.size | simp) _) (by first | exact hB5.size | exact hB3.size | exact hB2.size | simp) _)))
   (first
    | (go_at_call 91;((with_reducible refine (qE P M am mn cm m a n c _).mono ?_);rintro e w2 ⟨rfl,hb2⟩;have hB2 : SW U w2:=(by go_split_ands;exact RZ (by assumption) hb2);(first | (have HB2:=Z5 (nf hb2)) | (have HB2:=Z5 (lp hb2)) | (have HB2:=Z5 (HB3.out.ah hb2)) | skip)))
    | (go_at_call 91;((with_reducible refine (qE P M am' mn' cm' m a' n' c' _).mono ?_);rintro e w3 ⟨rfl,hb3⟩;have hB3 : SW U w3:=(by go_split_ands;exact RZ (by assumption) hb3);(first | (have HB3:=Z5 (nf hb3)) | (have HB3:=Z5 (lp hb3)) | (have HB3:=Z5 (HB2.out.ah hb3)) | skip)))
    | (go_at_call 181;((with_reducible refine (HS1.out _ (by go_split_ands;assumption)).mono ?_);rintro e w5 ⟨a5,k5,rfl,hM5,hb5⟩;have hB5 : SW U w5:=(by go_split_ands;exact RZ (by assumption) hb5);have HM5:=Z5 hM5;clear hM5;(first | (have HB5:=Z5 (nf hb5)) | (have HB5:=Z5 (lp hb5)) | (have HB5:=Z5 (HB3.out.ah hb5)) | (have HB5:=Z5 (HB2.out.ah hb5)) | skip);(first | (have z0:=HB5.out.cell 0 rfl;have z1:=HB5.out.cell 1 rfl;have f0:=HB5.out.frozen 0;have f1:=HB5.out.frozen 1) | skip))))
  all_goals (
   go_wp2_with fail
   go_meet
   first
    | exact ⟨rfl,_,a5,k5,rfl,R9 w5 [.int .i64 m,.slice a5 q k5] _ rfl,(HM5.out.ah (an _ _)).mono ((by first | exact hB3.size | exact hB2.size | exact (RZ hB3 (an _ _)).size | exact (RZ hB2 (an _ _)).size)),by go_split_ands;assumption⟩
    | exact ⟨rfl,_,a5,k5,rfl,(HB5.out.setCell 0 (.int .i64 m)).setCell 1 (.slice a5 q k5),((HM5.out.setCell (by first | exact HB3.out.1 | exact HB2.out.1 | simp) _).setCell (by first | exact HB3.out.1 | exact HB2.out.1 | simp) _).mono ((by first | exact hB3.size | exact hB2.size | exact (RZ hB3 (an _ _)).size | exact (RZ hB2 (an _ _)).size)),by go_split_ands;assumption⟩)
 obtain ⟨rfl,g,a5,k5,rfl,HB,HM,hbV⟩:=hcut;generalize wc=V at *;have hF2:=RZ hF1 hbV;clear c0 c1 c2 c3 c4 d0 d1 d2 d3 d4;obtain ⟨c0,c1,c2,_⟩:=HX.out V (RZ hb1 hbV);have g0:=HB.out.cell 0 rfl;have g1:=HB.out.cell 1 rfl;have HOV:=Z5 (HOf.out V a5 q k5 hF2);clear HOf HSu HTw;go_wp2_with fail;refine HOV.out.mono ?_;rintro e w6 ⟨a6,c6,rfl,hN6,hb6⟩;have zz6:=HZ.out.ah (RZ (RZ hb1 hbV) hb6);have z0:=zz6.cell 0 rfl;have z1:=zz6.cell 1 rfl;have z2:=zz6.cell 2 rfl;have z3:=zz6.cell 3 rfl;have z4:=zz6.cell 4 rfl;have f0:=zz6.frozen 0;have f1:=zz6.frozen 1;have f2:=zz6.frozen 2;have f3:=zz6.frozen 3;have f4:=zz6.frozen 4;have hbF:=RZ hF2 hb6;have hs:=HsW.out;have hs1:=hb1.size;have hs2:=hbV.size;have hM6 : dq w.heap.size (((((w6.setCell ⟨w.heap.size+1+1,0,none⟩ (.int .i64 P)).setCell ⟨w.heap.size+1+1,1,none⟩ (.int .i64 M)).setCell ⟨w.heap.size+1+1,2,none⟩ (.slice a6 nm c6)).setCell ⟨w.heap.size+1+1,3,none⟩ (.int .i64 m)).setCell ⟨w.heap.size+1+1,4,none⟩ (.slice a5 q k5)) a5 q S :=
  ((((((HM.out.ah hb6).setCell (p:=⟨w.heap.size+1+1,0,none⟩) (by simp;omega) _).setCell (p:=⟨w.heap.size+1+1,1,none⟩) (by simp;omega) _).setCell (p:=⟨w.heap.size+1+1,2,none⟩) (by simp;omega) _).setCell (p:=⟨w.heap.size+1+1,3,none⟩) (by simp;omega) _).setCell (p:=⟨w.heap.size+1+1,4,none⟩) (by simp;omega) _).mono HwU.out
 have hFin:=HPost.out a6 c6 a5 k5 (((((w6.setCell ⟨w.heap.size+1+1,0,none⟩ (.int .i64 P)).setCell ⟨w.heap.size+1+1,1,none⟩ (.int .i64 M)).setCell ⟨w.heap.size+1+1,2,none⟩ (.slice a6 nm c6)).setCell ⟨w.heap.size+1+1,3,none⟩ (.int .i64 m)).setCell ⟨w.heap.size+1+1,4,none⟩ (.slice a5 q k5))
  ((((((hN6.setCell (p:=⟨w.heap.size+1+1,0,none⟩) (by simp;omega) _).setCell (p:=⟨w.heap.size+1+1,1,none⟩) (by simp;omega) _).setCell (p:=⟨w.heap.size+1+1,2,none⟩) (by simp;omega) _).setCell (p:=⟨w.heap.size+1+1,3,none⟩) (by simp;omega) _).setCell (p:=⟨w.heap.size+1+1,4,none⟩) (by simp;omega) _).mono (by omega))
  hM6
  (((((hbF.setCell (p:=⟨w.heap.size+1+1,0,none⟩) (by simp;omega) _).setCell (p:=⟨w.heap.size+1+1,1,none⟩) (by simp;omega) _).setCell (p:=⟨w.heap.size+1+1,2,none⟩) (by simp;omega) _).setCell (p:=⟨w.heap.size+1+1,3,none⟩) (by simp;omega) _).setCell (p:=⟨w.heap.size+1+1,4,none⟩) (by simp;omega) _)
 have HFin:=Z5 hFin;clear hFin hM6 hN6 HOV zz6 g0 g1 c0 c1 c2;go_wp2_with fail;exact bodyPost_ret (v:=.tuple #[.agg #[.int .i64 P,.int .i64 M,.slice a6 nm c6,.int .i64 m,.slice a5 q k5],.int .i64 0]) (by simp [results,results126,go_sem,z0,z1,z2,z3,z4]) rfl HFin.out
def cF (P M : Int) (mod : Lz) (m : Nat) (L : ZZ) : ZZ:=(List.range m).map λi=>iw P M mod m L (i : Nat)
def eE (P M : Int) (mod : Lz) (N : Int) (L : ZZ) : Int :=
 if aF P M mod N L=0 then (if wZ P M mod N.toNat L=0 then (if [] ∈ cF P M mod N.toNat L then 11 else 0) else wZ P M mod N.toNat L) else aF P M mod N L
def oF (er : Int) (A : ZZ) (w : World) (e : Ending) (w' : World) : Prop :=
 SW w w'/\((er ≠ 0/\e = .returned (.tuple #[.slice none 0 0,.int .i64 er])) \/
  (er=0/\∃a c,e = .returned (.tuple #[.slice a A.length c,.int .i64 0])/\br w' a A.length A/\(0<A.length->w.heap.size<=ablk a)))
theorem lz {P M : Int} {mod : Lz} {m : Nat} {L : ZZ} {k : Nat} (hk : k<m) : ai (cF P M mod m L) k=iw P M mod m L (k : Nat):=by rw [cF,aC (by simpa using hk)];simp
theorem se {P M : Int} {mod : Lz} {m : Nat} {L : ZZ} {i : Int} (hE : aF P M mod m L=0) (h : iw P M mod m L i ≠ []) : (iw P M mod m L i).length=m:=by
 rcases qB hE i with ⟨h1,_⟩ | ⟨h1,_,_⟩
 ·exact absurd h1 h
 ·exact ((ou hE).1 h1).1.1
theorem yT (P M : Int) (am : OA) (mn cm : Nat) (mod : Lz) (N : Int) (a : OA) (n c : Nat) (L : ZZ) (w : World) (hmod : Ints w am mn mod) (hi : br w a n L) :
  Calls prog 60 #[.agg #[.int .i64 P,.int .i64 M,.slice am mn cm,.int .i64 N,.slice a n c]] w (oF (eE P M mod N L) (cF P M mod N.toNat L) w):=by
 have HK : Hid (∀V,SW w V->Calls prog 88 #[.agg #[.int .i64 P,.int .i64 M,.slice am mn cm,.int .i64 N,.slice a n c]] V λe w'=>e = .returned (.int .i64 (aF P M mod N L))/\SW V w'):=λV hV=>dr P M am mn cm mod N a n c L V (hmod.ah hV) (hi.ah hV);have HD : Hid (aF P M mod N L=0->∀V,SW w V->Calls prog 101 #[.agg #[.int .i64 P,.int .i64 M,.slice am mn cm,.int .i64 N,.slice a n c]] V (pT P M mod N.toNat L V)):=λhE V hV=>by obtain ⟨m,rfl,_⟩:=aM hE;rw [Nb];exact xG P M am mn cm mod m a n c L V (hmod.ah hV) (hi.ah hV) hE
 have HN : Hid (aF P M mod N L=0->∃m : Nat,N=m/\m<=64):=λhE=>by obtain ⟨m,e,_,hm64,_⟩:=aM hE;exact ⟨m,e,hm64⟩
 have HH : Hid (aF P M mod N L=0->∀(k : Nat) (V : World) (aW : OA) (nW cW : Nat),k<N.toNat->br V aW nW (oR P M mod N.toNat L)->Calls prog 102 #[.slice aW nW cW,.int .i64 k] V λe w'=>SW V w'/\∃ar nr cr,e = .returned (.slice ar nr cr)/\lJ w' ar nr (ai (cF P M mod N.toNat L) k)):=λhE k V aW nW cW hk hW=>by
  obtain ⟨m,rfl,_,hm64,_⟩:=aM hE;rw [Nb] at hk hW ⊢;rw [lz hk];have h:=sS aW nW cW (oR P M mod m L) m k V hW (λr hr=>((ou hE).1 hr).1.1) hk hm64;have e : iw P M mod m L (k : Nat)=bstL m (k : Nat) (oR P M mod m L) nW:=by rw [iw,hW.len]
  rw [e];exact h
 have HA : Hid (aF P M mod N L=0->∀k,k<N.toNat->ai (cF P M mod N.toNat L) k ≠ []->(ai (cF P M mod N.toNat L) k).length=N.toNat):=λhE k hk h=>by obtain ⟨m,rfl,_⟩:=aM hE;rw [Nb] at hk h ⊢;rw [lz hk] at h ⊢;exact se hE h
 have HAl : Hid ((cF P M mod N.toNat L).length=N.toNat):=by show _=_;rw [cF,Nq,N7]
 have HE : Hid (eE P M mod N L=if aF P M mod N L=0 then (if wZ P M mod N.toNat L=0 then (if [] ∈ cF P M mod N.toNat L then 11 else 0) else wZ P M mod N.toNat L) else aF P M mod N L):=rfl;unfold pT at HD;generalize eE P M mod N L=er at *;generalize cF P M mod N.toNat L=A at *;generalize aF P M mod N L=ce at *;generalize wZ P M mod N.toNat L=de at *;generalize oR P M mod N.toNat L=Dw at *;clear hmod hi;go_enter func60,ntmps60;go_upto_region 1 with fail;obtain ⟨W,hW⟩ : ∃W : World,W=w.alloc (.cells #[.int .i64 P,.int .i64 M,.slice am mn cm,.int .i64 N,.slice a n c] 27):=⟨_,rfl⟩
 rw [<- hW];have hbW : SW w W:=by rw [hW];exact an _ _
 have x0 : aN W w.heap.size [.int .i64 P,.int .i64 M,.slice am mn cm,.int .i64 N,.slice a n c]:=by rw [hW];exact R9 _ _ _ rfl
 have HX:=Z5 x0;have HbW:=Z5 hbW;have c0:=x0.cell 0 rfl;have c1:=x0.cell 1 rfl;have c2:=x0.cell 2 rfl;have c3:=x0.cell 3 rfl;have c4:=x0.cell 4 rfl;clear hW x0 hbW;go_wp2_with fail;refine (HK.out W HbW.out).mono ?_;rintro e w1 ⟨rfl,hb1⟩;have hF1:=RZ HbW.out hb1;clear c0 c1 c2 c3 c4;by_cases h0 : ce=0;rotate_left
 ·have d0 : (ce != 0)=true:=by simpa using h0
  have HR : Hid (er=ce):=by show _=_;rw [HE.out,Nf h0]
  have H0:=Z5 h0;clear h0 HD HH HA HN;go_wp2_with fail;go_ret2;exact ⟨hF1,.inl ⟨by rw [HR.out];exact H0.out,by rw [HR.out] <;> rfl⟩⟩
 have d0 : (ce != 0)=false:=by simp [h0]
 have HR0 : Hid (er=if de=0 then (if [] ∈ A then 11 else 0) else de):=by show _=_;rw [HE.out,Nd h0]
 have HD1:=Z5 (HD.out h0);have HH1:=Z5 (HH.out h0);have HA1:=Z5 (HA.out h0);obtain ⟨m,rfl,hm64⟩:=HN.out h0;rw [Nb] at HH1 HA1 HAl;have y1:=HX.out.ah hb1;have c0:=y1.cell 0 rfl;have c1:=y1.cell 1 rfl;have c2:=y1.cell 2 rfl;have c3:=y1.cell 3 rfl;have c4:=y1.cell 4 rfl;clear y1 h0 HD HH HA HN HE HK;go_wp2_with fail;refine (HD1.out w1 hF1).mono ?_;rintro e w2 ⟨hb2,⟨h1,rfl⟩ | ⟨h1,aW,nW,cW,rfl,hM⟩⟩
 ·have hF2:=RZ hF1 hb2;have d1 : (de != 0)=true:=by simpa using h1
  have HR : Hid (er=de):=by show _=_;rw [HR0.out,Nf h1]
  have H1:=Z5 h1;clear c0 c1 c2 c3 c4 h1;go_wp2_with fail;go_ret2;exact ⟨hF2,.inl ⟨by rw [HR.out];exact H1.out,by rw [HR.out] <;> rfl⟩⟩
 have hF2:=RZ hF1 hb2;have HR : Hid (er=if [] ∈ A then 11 else 0):=by show _=_;rw [HR0.out,Nd h1]
 have HM:=Z5 hM;have x2:=(HX.out.ah hb1).ah hb2;clear c0 c1 c2 c3 c4 h1 hM;have c3:=x2.cell 3 rfl;have heq:=λ(w : World) (a : OA) (l c : Nat)=>Go.run_eql_slice_nil (P:=prog) w 22 3 a l c underlying22;clear x2;go_wp2_with fail;go_loopw [7,25] (λsv iv wr=>∃(k : Nat) (a1 : OA) (c1 : Nat),k<=m/\iv = .int .i64 k/\sv = .slice a1 k c1/\(∃R,aT wr w2.heap.size a1 k c1 R (A.take k))/\SW w2 wr/\Hid (∀j,j<k->ai A j ≠ [])) (λ_ iv _=>m - (intOf iv).toNat);case atStart=>exact ⟨0,none,0,Ni _,rfl,rfl,⟨[],by simpa using Sn w2 w2.heap.size⟩,Nc _ _,λj hj=>by omega⟩
 case round =>
  obtain ⟨k,a1,c1,hk,rfl,rfl,⟨R,hO⟩,hbr,hne⟩:=hrel
  generalize wr=V at *
  by_cases hlt : k<m
  ·have Hh:=Z5 (HH1.out k V aW nW cW hlt (HM.out.ah hbr))
   have hkA : k<A.length:=by rw [HAl.out];exact hlt
   have Hmem : Hid (ai A k ∈ A):=by show _ ∈ _;rw [aC hkA];exact NO hkA
   have HxL:=Z5 (HA1.out k hlt)
   have Htk : Hid (A.take (k+1)=A.take k ++ [ai A k]):=by show _=_;rw [Nj hkA,aC hkA]
   have Hne1 : Hid (ai A k ≠ []->∀j,j<k+1->ai A j ≠ []):=λh j hj=>by
    by_cases e : j=k
    ·subst e;exact h
    ·exact hne.out j (by omega)
   obtain ⟨x,hx⟩ : ∃x,ai A k=x:=⟨_,rfl⟩
   rw [hx] at Hh Hmem HxL Htk Hne1
   have hsz:=hbr.size
   have hF3:=RZ hF2 hbr
   clear hx hkA hne
   go_wp2_with fail
   refine Hh.out.mono ?_
   rintro e w3 ⟨hb3,ar,nr,cr,rfl,hxq⟩
   have hF4:=RZ hF3 hb3
   by_cases h0 : x=[]
   ·have hin : ar.isNone=true:=by rw [hxq.2];exact NB h0
    have HR2 : Hid (er=11):=by show _=_;rw [HR.out,Nd (by rw [<- h0];exact Hmem.out)]
    clear h0 hxq hO
    go_wp2_with fail
    go_ret2
    exact ⟨hF4,.inl ⟨by rw [HR2.out];decide,by rw [HR2.out] <;> rfl⟩⟩
   have hin : ar.isNone=false:=by rw [hxq.2];exact NA h0
   have hnx : nr=m:=by rw [<- hxq.1.len];exact HxL.out h0
   have hxq1 : Ints w3 ar m x:=by rw [<- hnx];exact hxq.1
   have Hcl:=Z5 (dP ar m cr x (w:=w3) hxq1 (by omega))
   have Hn2:=Z5 (Hne1.out h0)
   have hO3:=hO.ah hb3
   clear h0 hxq hxq1 hO
   go_wp2_with fail
   refine Hcl.out.mono ?_
   rintro e w4 ⟨a3,c3',rfl,hown3,hb4⟩
   have hbn:=an w4 (.cells #[.slice a3 x.length c3'] 22)
   have hO4:=hO3.ah (RZ hb4 hbn)
   have hb34:=RZ hb3 hb4
   have hs4 : w2.heap.size<=(w4.alloc (.cells #[.slice a3 x.length c3'] 22)).heap.size:=by have h1:=hb34.size;simp;omega
   have Hown3:=Z5 hown3
   clear hown3 Hcl Hh
   go_wp2_with (at_builtin;refine aO rfl _ _ 25 22 rfl (.slice none 0 0) 24 underlying25 df rfl w2.heap.size a1 k c1 _ rfl hO4.own ⟨w4.heap.size,0,none⟩ 1 (.slice a3 x.length c3') rfl (ba w4 _ _) rfl (by omega) (by unfold maxLen;omega) hs4 ?_;intro a5 c5 w5 hown5 hgr5 hap5)
   go_roundw
   case rel =>
    have hown4 : (w4.alloc (.cells #[.slice a3 x.length c3'] 22)).ownsRow w2.heap.size 3 1 (.slice a3 x.length c3') x.length (x.map (Value.int .i64)) :=
     aX (bd Hown3.out (an _ _)) (Nr hsz hb3.size)
    have hra : a3 ≠ none->¬ cU a1 R (ablk a3):=λh0 hI=>by have h1:=(aY Hown3.out h0).1;have h2:=(hO3.lt _ hI).2;omega
    have hP:=Sk hO4 hown4 hra hown5 hgr5 hap5
    have hb5 : SW w2 w5:=Sa (RZ hbr (RZ hb34 hbn)) hO4.own hgr5 (Na _) hs4
    exact ⟨k+1,a5,c5,by omega,by go_num,rfl,⟨_,by rw [Htk.out];exact hP⟩,hb5,Hn2.out⟩
   case measure=>simp [intOf] <;> omega
  ·obtain rfl : k=m:=by omega
   rw [No (by rw [HAl.out];exact Na _)] at hO
   have HR2 : Hid (er=0):=by show _=_;rw [HR.out,Nf];intro h;obtain ⟨j,hj,hj2⟩:=ei h;exact hne.out j (by rw [<- HAl.out];exact hj) hj2
   have hF:=RZ hF2 hbr
   have HO:=Z5 hO.jt
   have HO2 : Hid (0<k->w.heap.size<=ablk a1):=λh0=>Nr hF2.size (eA hO.own h0).1
   clear hO
   go_wp2_with fail
   go_ret2
   exact ⟨hF,.inr ⟨HR2.out,a1,c1,by rw [HAl.out] <;> rfl,by rw [HAl.out];exact HO.out,by rw [HAl.out];exact HO2.out⟩⟩
def mxS (A : ZZ) (m : Nat) : Nat->Int
 | 0=>0
 | k+1=>max (mxS A m k) ((bI (ai A k) m k).length : Int)
def sV (P M : Int) (mod : Lz) (N : Int) (L : ZZ) : Int:=if eE P M mod N L=0 then mxS (cF P M mod N.toNat L) N.toNat N.toNat else 0
theorem lr (P M : Int) (am : OA) (mn cm : Nat) (mod : Lz) (N : Int) (a : OA) (n c : Nat) (L : ZZ) (w : World) (hmod : Ints w am mn mod) (hi : br w a n L) :
  Calls prog 20 #[.agg #[.int .i64 P,.int .i64 M,.slice am mn cm,.int .i64 N,.slice a n c]] w λe w'=>e = .returned (.tuple #[.int .i64 (sV P M mod N L),.int .i64 (eE P M mod N L)])/\SW w w':=by
 have HK : Hid (∀V,SW w V->Calls prog 60 #[.agg #[.int .i64 P,.int .i64 M,.slice am mn cm,.int .i64 N,.slice a n c]] V (oF (eE P M mod N L) (cF P M mod N.toNat L) V)):=λV hV=>yT P M am mn cm mod N a n c L V (hmod.ah hV) (hi.ah hV);have HV : Hid (sV P M mod N L=if eE P M mod N L=0 then mxS (cF P M mod N.toNat L) N.toNat N.toNat else 0):=rfl;have HL : Hid (eE P M mod N L=0->∃m : Nat,N=m/\m<=64/\(cF P M mod N.toNat L).length=m/\∀k,k<m->(ai (cF P M mod N.toNat L) k).length=m):=λh=>by
  have hE : aF P M mod N L=0:=by
   unfold eE at h;split at h
   ·assumption
   ·rename_i hE;exact absurd h hE
  obtain ⟨m,rfl,_,hm64,_⟩:=aM hE;rw [eE,Nd hE,Nb] at h;rw [Nb];have hl : (cF P M mod m L).length=m:=by rw [cF,Nq,N7]
  refine ⟨m,rfl,hm64,hl,λk hk=>?_⟩;have hmem : ai (cF P M mod m L) k ∈ cF P M mod m L:=by rw [aC (by rw [hl];exact hk)];exact NO _
  split at h
  ·split at h
   ·cases h
   ·rename_i h2;rw [lz hk] at hmem ⊢;exact se hE λe=>h2 (by rw [<- e];exact hmem)
  ·rename_i h1;exact absurd h h1
 generalize sV P M mod N L=v at *;generalize eE P M mod N L=er at *;generalize cF P M mod N.toNat L=A at *;clear hmod hi;go_enter func20,ntmps20;go_upto_region 1 with fail;obtain ⟨W,hW⟩ : ∃W : World,W=w.alloc (.cells #[.int .i64 P,.int .i64 M,.slice am mn cm,.int .i64 N,.slice a n c] 27):=⟨_,rfl⟩
 rw [<- hW];have hbW : SW w W:=by rw [hW];exact an _ _
 have x0 : aN W w.heap.size [.int .i64 P,.int .i64 M,.slice am mn cm,.int .i64 N,.slice a n c]:=by rw [hW];exact R9 _ _ _ rfl
 have HbW:=Z5 hbW;have c0:=x0.cell 0 rfl;have c1:=x0.cell 1 rfl;have c2:=x0.cell 2 rfl;have c3:=x0.cell 3 rfl;have c4:=x0.cell 4 rfl;clear hW x0 hbW;go_wp2_with fail;refine (HK.out W HbW.out).mono ?_;rintro e w1 ⟨hb1,⟨h1,rfl⟩ | ⟨h1,aA,cA,rfl,hM,_⟩⟩
 ·have hF1:=RZ HbW.out hb1;have d1 : (er != 0)=true:=by simpa using h1
  have HR : Hid (v=0):=by show _=_;rw [HV.out,Nf h1]
  clear c0 c1 c2 c3 c4 h1 HL;go_wp2_with fail;go_ret2;exact ⟨by rw [HR.out] <;> rfl,hF1⟩
 have hF1:=RZ HbW.out hb1;have HR : Hid (v=mxS A N.toNat N.toNat):=by show _=_;rw [HV.out,Nd h1]
 have H1 : Hid (er=0):=h1;obtain ⟨m,rfl,hm64,hAl,hAk⟩:=HL.out h1;rw [Nb] at HR;rw [hAl] at hM;have HM:=Z5 hM;have HAk:=Z5 hAk;have hplA:=hM.pl;rw [hAl];clear c0 c1 c2 c3 c4 h1 hM hAk HL HV HK hAl;go_wp2_with fail;go_loopw [6,19] (λsv iv wr=>∃k : Nat,k<=m/\iv = .int .i64 k/\sv = .int .i64 (mxS A m k)/\SW w1 wr) (λ_ iv _=>m - (intOf iv).toNat);case atStart=>exact ⟨0,Ni _,rfl,rfl,Nc _ _⟩
 case round =>
  obtain ⟨k,hk,rfl,rfl,hbr⟩:=hrel
  generalize wr=V at *
  by_cases hlt : k<m
  ·obtain ⟨ra,rn,rc,hcell,hrow⟩:=(HM.out.ah hbr).cell k hlt
   have hrn : rn=m:=by rw [<- hrow.len];exact HAk.out k hlt
   subst hrn
   have HS:=Z5 (kd ra rn rc (ai A k) k V hrow (by omega))
   have Hm : Hid (mxS A rn (k+1)=max (mxS A rn k) ((bI (ai A k) rn k).length : Int)):=rfl
   generalize bI (ai A k) rn k=S at *
   generalize mxS A rn k=y at *
   clear hrow
   go_wp2_with fail
   refine HS.out.mono ?_
   rintro e w4 ⟨a4,k4,rfl,hown4,hb4⟩
   have hb5:=RZ hbr hb4
   clear hown4
   go_wp2_with fail
   go_roundw
   case rel=>exact ⟨k+1,by omega,by go_num,by rw [Hm.out] <;> exact congrArg _ (by split <;> omega),hb5⟩
   case measure=>simp [intOf] <;> omega
  ·obtain rfl : k=m:=by omega
   have hF:=RZ hF1 hbr
   go_wp2_with fail
   go_ret2
   exact ⟨by rw [HR.out,H1.out] <;> rfl,hF⟩
theorem EF : (prog.info? 103).map (λi=>(i.zero,i.size,i.bytes))=some (some (.agg #[.slice none 0 0]),1,24):=by kernel_rfl
theorem sW {P : Program} {w : World} {ops : Array Oper} {rest : List Oper} {o : Oper} {ac : Act} {Q : Exit->Act->World->Prop}
  (hg : o.guard=none) (s x : Operand) (t e : TypeId) (hop : o.op = .call { callee:=.builtin .append,args:=#[s,x],argTypes:=#[t,t] }) (z : Value) (bytes : Nat)
  (h1 : P.underlying t=some (.slice e)) (h2 : (P.info? e).map (λi=>(i.zero,i.size,i.bytes))=some (some z,1,bytes)) (hz : z.cells.size=1)
  (B : Nat) (a : OA) (n c : Nat) (xs : List Value) (hs : ac.eval s = .slice a n c) (hown : w.ownsRow B e 1 (.slice a n c) n xs)
  (ad : Addr) (cc : Nat) (u : Value) (hx : ac.eval x = .slice (some ad) 1 cc) (hu : w.cell? ad=some u) (h1c : u.oneCell'=true)
  (b2 : (n+1) * bytes<=140737488355328) (b3 : n+1<=maxLen) (hB : B<=w.heap.size)
  (hK : ∀a' c' w',w'.ownsRow B e 1 (.slice a' (n+1) c') (n+1) (xs ++ [u])->w.grownBy w' (Value.slice a n c).ownBlock->(∀b,b<w.heap.size->gE a b->gE a' b)->wpList P ops Q rest (ac.put o.dst (.slice a' (n+1) c')) w') :
  wpList P ops Q (o :: rest) ac w:=by
 obtain ⟨i,hi,hz0,hz1,hz2⟩:=info_parts h2;refine wpList_append_own_at w hg s x t hop B e i z 1 bytes h1 hi hz0 hz1 hz2 hz (by decide) _ n xs hs hown ad 1 cc [u] hx rfl ?_ ?_ b3 b2 hB λv' w' hown' hgr _ hat=>?_
 ·intro j v hj;match j,hj with
  | 0,hj=>simp at hj;subst hj;simpa [Addr.add] using hu
 ·intro v hv;simp at hv;subst hv;exact h1c
 ·obtain ⟨a',c',rfl,_⟩:=Sv hown';refine hK a' c' w' hown' hgr λb hb hapt=>?_;have h:=hapt.own n c;rcases hat with h3 | h3
  ·exact gE.tQ (n:=n+1) (c:=c') (by rw [h3];exact h)
  ·exact gE.tQ (n:=n+1) (c:=c') (by rw [h3];intro h4;cases h4;omega)
structure TX where
 a : OA
 c : Nat
 T : ZZ
def J0 (y : TX) : Value:=.slice y.a y.T.length y.c
theorem KN {w w' : World} {B : Nat} {e : TypeId} {a : OA} {n c : Nat} {xs : List Value} (h : w.ownsRow B e 1 (.slice a n c) n xs) (hb : a ≠ none->w'.heap[ablk a]? = w.heap[ablk a]?) : w'.ownsRow B e 1 (.slice a n c) n xs:=by
 refine ⟨h.1,?_⟩;rcases h.2 with h2 | ⟨g,cap,cur,hv,hg,hh,r⟩
 ·exact .inl h2
 ·cases hv
  exact .inr ⟨g,_,cur,rfl,hg,by rw [show w'.heap[g]? = w.heap[g]? from hb (by simp)];exact hh,r⟩
theorem aE.MR {w w' : World} {A A' : Nat->Prop} (h : aE w w' A A) (hs : ∀b,A' b->A b\/w.heap.size<=b) : aE w w' A A':=⟨h.os,h.tape,h.output,h.size,h.block,hs⟩
theorem jz.Ev {A A' : Nat->Prop} {w w' : World} {a : OA} {n : Nat} {L : ZZ} (h : jz A w a n L) (hM : aE w w' A A') : jz A' w' a n L :=
 ⟨h.len,h.pl,h.max,λhn=>hM.not (h.jt.lt hn) (h.no hn),λi hi=>by obtain ⟨b,m,c,h1,h2,h3⟩:=h.cell i hi;exact ⟨b,m,c,hM.cell h1 (h.no (by omega)),h2.dD hM h3,λhm=>hM.not (h2.lt hm) (h3 hm)⟩⟩
theorem aN.My {w : World} {g : Nat} {x y : Value} (h : aN w g [x,y]) (u : Value) : aN (w.setCell ⟨g,1,none⟩ u) g [x,u]:=by
 have hc0:=h.cell 0 rfl;have hc1:=h.cell 1 rfl;refine ⟨by have:=h.1;simpa using this,λi v hv=>?_,λi=>by rw [Oq];exact h.2.2 i⟩;match i,hv with
 | 0,hv=>simp at hv;subst hv;rw [NC _ _ _ _ (by simp)];exact hc0
 | 1,hv=>simp at hv;subst hv;exact NJ w _ _ hc1
 | i+2,hv=>simp at hv
def TA (B Bo : Nat) (at' : OA) : Nat->Prop:=λb=>b<B\/b=Bo\/(at' ≠ none/\b=ablk at')
structure mE (B : Nat) (V : World) (Bo : Nat) (v0 : Value) (at' : OA) (ct : Nat) (tt : List TX) : Prop where
 bo : B<=Bo
 box : aN V Bo [v0,.slice at' tt.length ct]
 tow : V.ownsRow B 103 1 (.slice at' tt.length ct) tt.length (tt.map J0)
 at1 : gE at' Bo
 tx : ∀y ∈ tt,jz (TA B Bo at') V y.a y.T.length y.T/\y.T.length<=y.c
section
variable {B : Nat} {V V' w5 : World} {Bo : Nat} {v0 : Value} {at' : OA} {ct : Nat} {tt : List TX} {o : Obj}
theorem mE.ah (h : mE B V Bo v0 at' ct tt) (hb : SW V V') : mE B V' Bo v0 at' ct tt :=
 ⟨h.bo,h.box.ah hb,bd h.tow hb,h.at1,λy hy=>⟨(h.tx y hy).1.ah hb,(h.tx y hy).2⟩⟩
theorem mE.start (hB : B<=Bo) (h : aN V Bo [v0,.slice none 0 0]) : mE B V Bo v0 none 0 [] :=
 ⟨hB,h,bV,.inl rfl,λy hy=>by simp at hy⟩
theorem mE.lt (h : mE B V Bo v0 at' ct tt) : ∀b,TA B Bo at' b->b<V.heap.size:=λb hb=>by
 have h0:=h.bo;have h9:=h.box.1;rcases hb with h1 | rfl | ⟨h1,rfl⟩
 ·omega
 ·exact h.box.1
 ·exact (aY h.tow h1).2
theorem mE.Lw (h : mE B V Bo v0 at' ct tt) {x : TX} (hx : jz (TA B Bo at') V x.a x.T.length x.T) (hxc : x.T.length<=x.c) {a5 : OA} {c5 : Nat}
  (hown : w5.ownsRow B 103 1 (.slice a5 (tt.length+1) c5) (tt.length+1) (tt.map J0 ++ [J0 x])) (hg : (V.alloc o).grownBy w5 (Value.slice at' tt.length ct).ownBlock) (hap : ∀b,b<(V.alloc o).heap.size->gE at' b->gE a5 b) :
  mE B (w5.setCell ⟨Bo,1,none⟩ (.slice a5 (tt.length+1) c5)) Bo v0 a5 c5 (tt ++ [x])/\∀w0,Below B w0 V->Below B w0 (w5.setCell ⟨Bo,1,none⟩ (.slice a5 (tt.length+1) c5)):=by
 have hne : a5 ≠ none:=λe=>by
  obtain ⟨y,z,hv,hp⟩:=Sv hown;cases hv
  have:=hp (by omega);rw [e] at this;cases this
 have hsz : (V.alloc o).heap.size=V.heap.size+1:=by simp
 have hM0 : aE V (w5.setCell ⟨Bo,1,none⟩ (.slice a5 (tt.length+1) c5)) (TA B Bo at') (TA B Bo at') :=
  ((Se (an V o) _).trans (Ss hg λh1=>.inr (.inr ⟨h1,rfl⟩))).trans (aE.wL (I:=TA B Bo at') (p:=⟨Bo,1,none⟩) _ (.inr (.inl rfl)) _)
 have hsub : ∀b,TA B Bo a5 b->TA B Bo at' b\/V.heap.size<=b:=λb hb=>by
  rcases hb with hb | hb | ⟨_,hb⟩
  ·exact .inl (.inl hb)
  ·exact .inl (.inr (.inl hb))
  ·rcases N3 b V.heap.size with h1 | h1
   ·by_cases h2 : gE at' b
    ·rcases hap b (by omega) h2 with h3 | h3
     ·exact absurd h3 hne
     ·exact absurd hb.symm h3
    ·exact .inl (.inr (.inr ⟨λe=>h2 (.inl e),NH λe=>h2 (.inr λe2=>e e2.symm)⟩))
   ·exact .inr h1
 have hM:=hM0.MR hsub;have hb5 : aN w5 Bo [v0,.slice at' tt.length ct]:=by have hx:=h.box.alloc o;have hBo:=h.box.1;have hb9 : w5.heap[Bo]? = (V.alloc o).heap[Bo]?:=hg.block Bo (by omega) λe=>h.at1.own _ _ e.symm;exact ⟨NR hx.1 hg.size,λj v hv=>(NT (w:=V.alloc o) (a:=⟨Bo,j,none⟩) hb9).trans (hx.2.1 j v hv),λj=>(N1 (w:=V.alloc o) (a:=⟨Bo,j,none⟩) hb9).trans (hx.2.2 j)⟩
 have hapB : gE a5 Bo:=hap Bo (by have:=h.box.1;omega) h.at1;refine ⟨⟨h.bo,?_,?_,hapB,λy hy=>?_⟩,λw0 hw=>(Sa (hw.alloc (by have:=h.bo;have:=h.box.1;omega) o) (h.tow.alloc o) hg (Na _) (by have:=h.bo;have:=h.box.1;omega)).setCell (p:=⟨Bo,1,none⟩) h.bo _⟩
 ·rw [Nl];exact hb5.My _
 ·rw [Nl,NM];exact fU hown _ (hapB.elim (λe=>.inl e) λe=>.inr e)
 ·rcases List.mem_append.1 hy with hy | hy
  ·exact ⟨(h.tx y hy).1.Ev hM,(h.tx y hy).2⟩
  ·rw [List.mem_singleton.1 hy];exact ⟨hx.Ev hM,hxc⟩
theorem mE.set (h : mE B V Bo v0 at' ct tt) {p : Addr} (hp : p.block<B) (v : Value) : mE B (V.setCell p v) Bo v0 at' ct tt:=by have hM : aE V (V.setCell p v) (TA B Bo at') (TA B Bo at'):=aE.wL (I:=TA B Bo at') (p:=p) _ (.inl hp) _;have hb:=h.bo;have hblk : ∀b,B<=b->(V.setCell p v).heap[b]? = V.heap[b]?:=λb h1=>Nz _ _ _ _ (by omega);refine ⟨h.bo,?_,KN h.tow λh1=>hblk _ (aY h.tow h1).1,h.at1,λy hy=>⟨(h.tx y hy).1.Ev hM,(h.tx y hy).2⟩⟩;have hb9:=hblk Bo h.bo;exact ⟨by have:=h.box.1;simpa using this,λj v hv=>(NT (w:=V) (a:=⟨Bo,j,none⟩) hb9).trans (h.box.2.1 j v hv),λj=>(N1 (w:=V) (a:=⟨Bo,j,none⟩) hb9).trans (h.box.2.2 j)⟩
end
def nK (T : List ZZ) (i : Nat) : ZZ:=T.getD i []
theorem oG {l : List ZZ} {i : Nat} (h : i<l.length) : nK l i=l[i]:=by simp [nK,h]
structure gJ (w : World) (a : OA) (n : Nat) (TT : List ZZ) : Prop where
 len : TT.length=n
 pl : Pl a n
 max : n<=maxLen
 cell : ∀i,i<n->∃b m c,w.cell? ⟨ablk a,aK a+i,none⟩=some (.slice b m c)/\br w b m (nK TT i)/\m<=c
theorem gJ.ah {w w' : World} {a : OA} {n : Nat} {TT : List ZZ} (h : gJ w a n TT) (hb : SW w w') : gJ w' a n TT :=
 ⟨h.len,h.pl,h.max,λi hi=>by obtain ⟨b,m,c,h1,h2,h3⟩:=h.cell i hi;exact ⟨b,m,c,aB hb h1,h2.ah hb,h3⟩⟩
theorem mE.trees {B : Nat} {V : World} {Bo : Nat} {v0 : Value} {at' : OA} {ct : Nat} {tt : List TX} (h : mE B V Bo v0 at' ct tt) : gJ V at' tt.length (tt.map TX.T):=by
 refine ⟨by simp,?_,?_,λi hi=>?_⟩
 ·obtain ⟨a',c',hv,hp⟩:=Sv h.tow;cases hv;exact hp
 ·rcases Pf tt.length with h0 | h0
  ·rw [h0];exact Ni _
  ·exact (cJ h.tow 0 h0).2.2.2.2
 ·have h1:=(cJ h.tow i hi).1;have e1 : (tt.map J0)[i]? = some (J0 tt[i]):=by rw [Pr,NQ hi];rfl
  refine ⟨tt[i].a,tt[i].T.length,tt[i].c,by rw [h1,e1];rfl,?_⟩;rw [oG (by rw [Nq];exact hi),NZ];exact ⟨(h.tx _ (NO hi)).1.jt,(h.tx _ (NO hi)).2⟩
theorem qU {w w' : World} {ao : OA} {m c : Nat} {ad : Addr} (hg : w.grownBy w' (Value.slice ao m c).ownBlock) (hlt : ad.block<w.heap.size) (h : w.frozen? ad=false) (hne : gE ao ad.block) : w'.frozen? ad=false :=
 (N1 (w:=w) (a:=ad) (hg.block _ hlt λe=>hne.own m c e.symm)).trans h
def vr (T : ZZ) (er : Int) (V : World) (e : Ending) (w' : World) : Prop:=∃av nv cv,e = .returned (.tuple #[.agg #[.slice av nv cv],.int .i64 er])/\dq V.heap.size w' av nv T/\nv<=cv/\SW V w'
theorem nH.Lv {V : Int × ZZ} {w w' : World} {e : Ending} (h : nH V w e w') : vr (if V.1=0 then V.2 else []) V.1 w e w':=by
 obtain ⟨hb,⟨h1,rfl⟩ | ⟨h1,ar,cr,R,rfl,hO⟩⟩:=h
 ·rw [Nf h1];exact ⟨none,0,0,rfl,SL (aT.B4 w' w.heap.size),Na _,hb⟩
 ·rw [Nd h1];exact ⟨ar,_,cr,by rw [h1],SL hO,ox hO.own,hb⟩
section
open Go.RowKit
end
section
open Go.RowKit
end
section
variable {O : aL} {El : Int->Prop} {m k : Nat}
end
section
open Go.RowKit
end
section
open Go.RowKit
end
section
open Go.RowKit
end
section
open Go.RowKit
end
end Go.Proofs.YthglbncgemdcbaaGreat
