import Derived.Test.YthglbncgemdcbaaGreatS32
namespace Go.Proofs.YthglbncgemdcbaaGreat
set_option linter.all false
set_option maxRecDepth 100000
set_option maxHeartbeats 8000000
open Go.RowKit Go.Proofs.Tryz
section
variable {w : World} {b : Nat} {G : dn}
theorem KK (ax : OA) (cx : Nat) (x : Lz) (a : OA) (n c : Nat) (L : ZZ) (cols : Nat) (h : ew w b G) (F : bF G.ops G.El) (hx : Ints w ax n x) (hi : br w a n L) (hxe : ∀k,k<n->G.El (nth x k)) (hR : bp G.El cols L) (hc1 : 1<=cols) (hc : cols<=1000000) (hn : n<=1000000) :
  Calls prog 147 #[.pointer (some ⟨b,0,none⟩),.slice ax n cx,.slice a n c,.int .i64 cols] w λe w' =>
   ∃a1 c1,e = .returned (.slice a1 cols c1)/\w'.ownsRow w.heap.size 3 1 (.slice a1 cols c1) cols ((cmbTo G.ops cols x L n).map (Value.int .i64))/\SW w w':=by
 have Hil:=Z5 hi.len;have hplx:=hx.pl;have hpla:=hi.pl;have hcm:=fF F hR (x:=x) (by rw [hi.len];exact hxe);have Hcm:=Z5 hcm;have HR:=Z5 hR;have hz : (cmbTo G.ops cols x L 0).map (Value.int .i64)=List.replicate cols (Value.int .i64 0):=by simp [cmbTo]
 have Hz:=Z5 hz;clear hcm hR hz F;go_enter func147,ntmps147;go_wp2_with (at_make;refine bS rfl _ _ 22 3 rfl (.int .i64 0) 8 underlying22 aU rfl cols rfl rfl (by omega) (by unfold maxLen;omega) ?_;intro a5 w5 hown hbel hge hlt);have hown0 : w5.ownsRow w.heap.size 3 1 (.slice a5 cols cols) cols ((cmbTo G.ops cols x L 0).map (Value.int .i64)):=by rw [Hz.out];exact hown
 clear hown hlt;go_loopw [16] (λiv wr=>∃k : Nat,k<=n/\iv = .int .i64 k/\wr.ownsRow w.heap.size 3 1 (.slice a5 cols cols) cols ((cmbTo G.ops cols x L k).map (Value.int .i64))/\SW w wr) (λiv _=>n - (intOf iv).toNat);case atStart=>exact ⟨0,Ni _,rfl,hown0,hbel⟩
 case round =>
  clear hown0 hbel
  obtain ⟨k,hk,rfl,hown,hbr⟩:=hrel
  by_cases hlt : k<n
  ·have cxk:=(hx.ah hbr).cell k hlt
   have hrow:=HR.out.row (i:=k) (by rw [Hil.out];exact hlt)
   obtain ⟨ra,rn,rc,er0,ir0⟩:=hi.cell k hlt
   have hrn : rn=cols:=by rw [<- ir0.len];exact hrow.1
   rw [hrn] at er0 ir0
   have er:=aB hbr er0
   have hra : ablk ra<w.heap.size:=Nt w _ (ir0.cell 0 (by omega))
   clear hrn er0
   by_cases h0 : nth x k=0
   ·have h0' : (nth x k != 0)=false:=by simpa using h0
    have Hn : Hid (cmbTo G.ops cols x L (k+1)=cmbTo G.ops cols x L k):=by show _=_;rw [cmbTo,Nd h0]
    clear h0
    go_wp2_with fail
    go_roundw
    case rel=>exact ⟨k+1,by omega,by go_num,by rw [Hn.out];exact hown,hbr⟩
    case measure=>simp [intOf] <;> omega
   ·have h0' : (nth x k != 0)=true:=by simpa using h0
    have Hn : Hid (cmbTo G.ops cols x L (k+1)=bR G.ops (cmbTo G.ops cols x L k) (nth x k) (ai L k)):=by show _=_;rw [cmbTo,Nf h0]
    have hvk:=(Hcm.out k (by rw [Hil.out];exact hk)).1
    have Ha:=Z5 (E0 w a5 cols cols (cmbTo G.ops cols x L k) (nth x k) ra rc (ai L k) h hbr hown (ir0.ah hbr) (.inr (.inr (by omega))) hvk.2 hrow.2 (hxe k hlt))
    clear h0 hown ir0 hrow hvk
    go_wp2_with fail
    refine Ha.out.mono ?_
    rintro e w4 ⟨rfl,hown4,honly⟩
    have hb4 : SW w w4:=hbr.trans (honly.below (λ_=>hge) hbr.size)
    go_wp2_with fail
    go_roundw
    case rel=>exact ⟨k+1,by omega,by go_num,by rw [Hn.out];exact hown4,hb4⟩
    case measure=>simp [intOf] <;> omega
  ·obtain rfl : k=n:=by omega
   have HF:=Z5 hown
   clear hown
   go_wp2_with fail
   go_ret
   exact ⟨a5,cols,rfl,HF.out,hbr⟩
end
section
variable {O : aL} {El : Int->Prop} {m : Nat} {A B L : ZZ}
theorem lS (F : bF O El) (hA : bp El m A) {ι : Nat->Nat} (hι : ∀j,j<A.length->ι j<m) (h1 : ∀i j,i<A.length->j<A.length->nth (ai A i) (ι j)=if i=j then 1 else 0) {f : Nat->Int} (hf : ∀x,x<m->El (f x)) :
  ∀k,k<=A.length->∃g,RS O El m A g/\∀j,j<k->g (ι j)=f (ι j)
 | 0,_=>⟨λ_=>0,SD F λ_ _=>rfl,λj hj=>by omega⟩
 | k+1,hk=>by
  obtain ⟨g,hg,h2⟩:=lS F hA hι h1 hf k (by omega);have hge:=λx (hx : x<m)=>SH F hA hg hx;have hk1:=hge _ (hι k (by omega));have hk2:=hf _ (hι k (by omega));have hs : El (O.add (g (ι k)) (O.neg (f (ι k)))):=F.cl.add _ _ hk1 (F.cl.neg _ hk2);refine ⟨_,hg.comb F (Sg F (show k<A.length by omega)) hs,λj hj=>?_⟩;show O.add (g (ι j)) (O.neg (O.mul (nth (ai A k) (ι j)) (O.add (g (ι k)) (O.neg (f (ι k))))))=_;rw [h1 k j (by omega) (by omega)];by_cases e : k=j
  ·subst e;rw [Nd rfl,F.one_mul _ hs,F.neg_add hk1 (F.cl.neg _ hk2),F.neg_neg hk2,<- F.add_assoc _ _ _ hk1 (F.cl.neg _ hk1) hk2,F.add_neg _ hk1,F.tI hk2]
  ·rw [Nf e,F.iS hs,F.dR,F.add_zero _ (hge _ (hι j (by omega)))];exact h2 j (by omega)
theorem gB (F : bF O El) {a b c : Nat->Int} : ∀t,(∀p,p<t->El (a p))->(∀p,p<t->El (b p))->(∀p,p<t->El (c p))->dotN O (λp=>O.add (a p) (O.neg (b p))) c t=O.add (dotN O a c t) (O.neg (dotN O b c t))
 | 0,_,_,_=>by show (0 : Int)=O.add 0 (O.neg 0);rw [F.dR,F.add_zero _ F.zero]
 | t+1,ha,hb,hc=>by have ih:=gB F t (λp hp=>ha p (by omega)) (λp hp=>hb p (by omega)) (λp hp=>hc p (by omega));have h1:=ha t (by omega);have h2:=hb t (by omega);have h3:=hc t (by omega);have d1:=fQ F t (λp hp=>ha p (by omega)) (λp hp=>hc p (by omega));have d2:=fQ F t (λp hp=>hb p (by omega)) (λp hp=>hc p (by omega));have m1:=F.cl.mul _ _ h1 h3;have m2:=F.cl.mul _ _ h2 h3;show O.add (dotN O (λp=>O.add (a p) (O.neg (b p))) c t) (O.mul (O.add (a t) (O.neg (b t))) (c t))=O.add (O.add (dotN O a c t) (O.mul (a t) (c t))) (O.neg (O.add (dotN O b c t) (O.mul (b t) (c t))));rw [ih,F.mul_comm _ _ (F.cl.add _ _ h1 (F.cl.neg _ h2)) h3,F.mul_add _ _ _ h3 h1 (F.cl.neg _ h2),F.mul_neg h3 h2,F.mul_comm _ _ h3 h1,F.mul_comm _ _ h3 h2,F.neg_add d2 m2,F.zT d1 (F.cl.neg _ d2) m1 (F.cl.neg _ m2)]
theorem fs (F : bF O El) (hA : bp El m A) (hB : bp El m B) {ι κ : Nat->Nat} (hι : ∀j,j<A.length->ι j<m) (h1 : ∀i j,i<A.length->j<A.length->nth (ai A i) (ι j)=if i=j then 1 else 0)
  (hκ : ∀i,i<B.length->κ i<m) (h2 : ∀i j,i<B.length->j<B.length->nth (ai B i) (κ j)=if i=j then 1 else 0)
  (hall : ∀x,x<m->(∃j,j<A.length/\ι j=x)\/∃i,i<B.length/\κ i=x) (ho : lF O m A B) {f : Nat->Int} (hf : ∀x,x<m->El (f x)) (hfo : ∀i,i<B.length->dotN O f (λp=>nth (ai B i) p) m=0) : RS O El m A f:=by
 obtain ⟨g,hg,hgf⟩:=lS F hA hι h1 hf A.length (Na _);have hge:=λx (hx : x<m)=>SH F hA hg hx;refine hg.congr λx hx=>?_;rcases hall x hx with ⟨j,hj,rfl⟩ | ⟨i,hi,rfl⟩
 ·exact (hgf j hj).symm
 ·have hb : ∀p,p<m->El (nth (ai B i) p):=λp hp=>Sc (hB.row hi) hp;have hd:=gB F m hf hge hb;rw [hfo i hi,SB F hA hB ho hg hi,F.dR,F.add_zero _ F.zero] at hd;have hk:=hκ i hi;have hde : El (O.add (f (κ i)) (O.neg (g (κ i)))):=F.cl.add _ _ (hf _ hk) (F.cl.neg _ (hge _ hk));have h3:=iO F (a:=λp=>O.add (f p) (O.neg (g p))) (b:=λp=>nth (ai B i) p) (x:=κ i) (F.cl.mul _ _ hde (hb _ hk)) m λp hp hne=>?_
  ·rw [hd,Nd hk] at h3;have h4 : O.mul (O.add (f (κ i)) (O.neg (g (κ i)))) (nth (ai B i) (κ i))=0:=h3.symm;rw [h2 i i hi hi,Nd rfl,F.ie hde] at h4;have h5:=F.iH (hf _ hk) (F.cl.neg _ (hge _ hk)) h4;rw [<- F.neg_neg (hf _ hk),<- h5,F.neg_neg (hge _ hk)]
  ·show O.mul (O.add (f p) (O.neg (g p))) (nth (ai B i) p)=0;rcases hall p hp with ⟨j,hj,rfl⟩ | ⟨j,hj,rfl⟩
   ·rw [hgf j hj,F.add_neg _ (hf _ hp),F.iS (hb _ hp)]
   ·rw [h2 i j hi hj,Nf (λe=>hne (by rw [e])),F.cQ (F.cl.add _ _ (hf _ hp) (F.cl.neg _ (hge _ hp)))]
theorem gL (P : Lz) : ∀k i j,i<j->j<(dK P k).length->(dK P k).getD i 0<(dK P k).getD j 0
 | 0,i,j,_,h=>by simp [dK] at h
 | k+1,i,j,hij,h=>by
  have ih:=gL P k i j hij;rw [dK] at h ⊢;split at h
  ·rename_i hc;rw [Nd hc];exact ih h
  ·rename_i hc;rw [Nf hc];rw [Nl,ND] at h;have e1 : (dK P k ++ [k]).getD i 0=(dK P k).getD i 0:=by simp only [Ng];rw [Ny (by omega)]
   rw [e1];by_cases e : j<(dK P k).length
   ·have e2 : (dK P k ++ [k]).getD j 0=(dK P k).getD j 0:=by simp only [Ng];rw [Ny e]
    rw [e2];exact ih e
   ·have e2 : (dK P k ++ [k]).getD j 0=k:=by
     have ej : j=(dK P k).length:=by omega
     simp only [Ng];rw [NY (by omega)];simp [ej]
    rw [e2];exact (gC (k:=k) (j:=i) (by omega)).1
theorem iR (F : bF O El) {R : ZZ} {P : Lz} (hR : bp El m R) (hP : mg R P m) (hl : nQ R P) (hlen : R.length=P.length) {f : Nat->Int} (hf : ∀x,x<m->El (f x)) :
  ((∀i,i<R.length->dotN O f (λp=>nth (ai R i) p) m=0)->RS O El m (cZ O m R P m) f)/\((∀i,i<(cZ O m R P m).length->dotN O f (λp=>nth (ai (cZ O m R P m) i) p) m=0)->RS O El m R f):=by
 have hK:=dz F hR hP hlen;have hO:=jf F hR hP hl hlen;have hkl:=fS O m R P m;have hι : ∀j,j<R.length->(nth P j).toNat<m:=λj hj=>by have:=hP.lt j (by omega);omega
 have h1 : ∀i j,i<R.length->j<R.length->nth (ai R i) (nth P j).toNat=if i=j then 1 else 0:=λi j hi hj=>hP.one j i (by omega) hi
 have hκ : ∀i,i<(cZ O m R P m).length->(dK P m).getD i 0<m:=λi hi=>(gC (by omega)).1;have h2 : ∀i j,i<(cZ O m R P m).length->j<(cZ O m R P m).length->nth (ai (cZ O m R P m) i) ((dK P m).getD j 0)=if i=j then 1 else 0:=λi j hi hj=>by
  rw [hkl] at hi hj;obtain ⟨a1,a2⟩:=gC (P:=P) hi;obtain ⟨b1,b2⟩:=gC (P:=P) hj;rw [jP O m R P m hi];by_cases e : i=j
  ·subst e;rw [Nd rfl];exact iU hP a1 a2 _ (Na _)
  ·rw [Nf e];refine iG hP b1 (λe2=>?_) _ (Na _) λq hq e2=>?_
   ·rcases P6 e with h | h
    ·have:=gL P m i j h hj;omega
    ·have:=gL P m j i h hi;omega
   ·apply b2;have hq2:=hP.lt q hq;rw [<- e2,Oc hq2.1];exact aH hq
 have hall : ∀x,x<m->(∃j,j<R.length/\(nth P j).toNat=x)\/∃i,i<(cZ O m R P m).length/\(dK P m).getD i 0=x:=λx hx=>by
  by_cases hc : (x : Int) ∈ P
  ·obtain ⟨j,hj,e⟩:=List.mem_iff_getElem.1 hc;exact .inl ⟨j,by omega,by rw [aj hj,e];simp⟩
  ·obtain ⟨j,hj,e⟩:=List.mem_iff_getElem.1 ((jK (P:=P) m).2 ⟨hx,hc⟩);exact .inr ⟨j,by rw [hkl];exact hj,by rw [Ng,NQ hj];exact e⟩
 exact ⟨fs F hK hR hκ h2 hι h1 (λx hx=>(hall x hx).symm) (Su F hR hK hO) hf,fs F hR hK hι h1 hκ h2 hall hO hf⟩
theorem iz (F : bF O El) (hL : bp El m L) {f : Nat->Int} (hf : ∀x,x<m->El (f x)) : RS O El m (dx O m L) f ↔ ∀i,i<L.length->dotN O f (λp=>nth (ai L i) p) m=0:=by
 obtain ⟨hP,hl⟩:=bG F hL;have hlen:=bQ F hL;have hR:=bL F hL;have hK:=dz F hR hP hlen;obtain ⟨s1,s2⟩:=cB F hK;obtain ⟨t1,t2⟩:=cB F hL;have hO:=Su F hR hK (jf F hR hP hl hlen);constructor
 ·intro h i hi;exact fC F hR hf (λj hj=>SB F hK hR hO (s1.rs h) hj) (t2 i hi)
 ·intro h;refine s2.rs ((iR F hR hP hl hlen hf).1 λi hi=>?_);exact fC F hL hf h (t1 i hi)
theorem jO (F : bF O El) (hL : bp El m L) {f : Nat->Int} (hf : ∀x,x<m->El (f x)) : (∀i,i<(dx O m L).length->dotN O f (λp=>nth (ai (dx O m L) i) p) m=0) ↔ RS O El m L f:=by
 obtain ⟨hP,hl⟩:=bG F hL;have hlen:=bQ F hL;have hR:=bL F hL;have hK:=dz F hR hP hlen;obtain ⟨s1,s2⟩:=cB F hK;obtain ⟨t1,t2⟩:=cB F hL;have hN:=fV F hL;constructor
 ·intro h;exact t1.rs ((iR F hR hP hl hlen hf).2 λi hi=>fC F hN hf h (s2 i hi))
 ·intro h i hi;have hfn : ∀p,p<m->El (nth (ai (dx O m L) i) p):=λp hp=>Sc (hN.row hi) hp;rw [eY F m hf hfn];exact fC F hL hfn ((iz F hL hfn).1 (Sg F hi)) h
end
theorem Jz (P M : Int) (am : OA) (mn cm : Nat) (mod : Lz) (ax : OA) (cx : Nat) (x : Lz) (m : Nat) (a : OA) (n c : Nat) (L : ZZ) (w : World) (hmod : Ints w am mn mod) (hx : Ints w ax n x) (hi : br w a n L)
  (hfB : bA P M mod=true) (hR : bp (af P M.toNat mod).El m L) (hxe : ∀k,k<n->(af P M.toNat mod).El (nth x k)) (hm1 : 1<=m) (hm : m<=64) (hn : n<=256) :
  Calls prog 90 #[.agg #[.int .i64 P,.int .i64 M,.slice am mn cm],.slice ax n cx,.agg #[.int .i64 m,.slice a n c]] w
   λe w'=>∃a1 c1,e = .returned (.tuple #[.slice a1 m c1,.int .i64 0])/\Ints w' a1 m (cmbTo (af P M.toNat mod).ops m x L n)/\SW w w':=by
 have hLl:=hi.len;have F:=dM hfB;have hmE1 : iB (af P M.toNat mod).q m L=0:=(nP (kA hfB (show m<=256 by omega) (show L.length<=256 by omega) hR)).2;have hel : gU (af P M.toNat mod).q x=0:=by unfold gU;rw [Nd];unfold dY jR;rw [NW];intro y hy;obtain ⟨k,hk,rfl⟩:=List.mem_iff_getElem.1 hy;have h1:=hxe k (by rw [<- hx.len];exact hk);rw [aj hk] at h1;unfold dn.El at h1;simp;exact h1
 have hpla:=hi.pl;obtain ⟨G,hGG⟩ : ∃G,af P M.toNat mod=G:=⟨_,rfl⟩
 rw [hGG] at hR F hmE1 hxe hel ⊢;have HK:=Z5 (Np hfB (Np hR (Np hmE1 (Np hxe (Np F hel)))));have HGG:=Z5 hGG;clear hfB hR hmE1 hxe F hLl hGG hel;go_enter func90,ntmps90;go_wp2_with fail;obtain ⟨W,hW⟩ : ∃W : World,W=((w.alloc (.cells #[.int .i64 P,.int .i64 M,.slice am mn cm] 24)).alloc (.cells #[.int .i64 m,.slice a n c] 94)).alloc (.cells #[.int .i64 m,.slice a n c] 94):=⟨_,rfl⟩
 rw [<- hW];have hbW : SW w W:=by rw [hW];exact mF _ _ _ _
 have x1 : aN W (w.heap.size+1) [.int .i64 m,.slice a n c]:=by rw [hW];exact (R9 _ _ _ (by simp)).alloc _
 have q3 : ∀i v,[Value.int .i64 m,.slice a n c][i]? = some v->W.cell? ⟨w.heap.size+1+1,i,none⟩=some v:=λi v hv=>by
  have h : aN W (w.heap.size+1+1) [.int .i64 m,.slice a n c]:=by rw [hW];exact R9 _ _ _ (by simp)
  exact h.cell i hv
 have hMs : Ds W (some ⟨w.heap.size+1+1,0,none⟩) 1 [((m : Int),L)]:=⟨rfl,λ_=>rfl,by unfold maxLen;omega,λi hi'=>by
  have : i=0:=by simp at hi';omega
  subst this;exact ⟨a,n,c,by simpa using q3 0 _ rfl,by simpa using q3 1 _ rfl,hi.ah hbW⟩⟩
 have HX:=Z5 x1;have HbW:=Z5 hbW;clear hW x1 q3;refine (wV P M am mn cm mod _ 1 1 _ W (hmod.ah hbW) hMs).mono ?_;rintro e w1 ⟨hb1,hcase⟩;have hms : matsE (af P M.toNat mod).q [((m : Int),L)]=0:=by rw [HGG.out];simp [matsE,HK.out.2.2.1]
 rcases hcase with ⟨hB,_⟩ | ⟨_,er,h0,h1,_⟩ | ⟨_,_,b,rfl,hG,hbl⟩
 ·rw [HK.out.1] at hB;exact absurd hB (by decide)
 ·rw [hms] at h1;exact absurd h1.symm h0
 rw [HGG.out] at hG;have hbw1:=RZ hbW hb1;have r1:=HX.out.ah hb1;have m0:=r1.cell 0 rfl;have m1:=r1.cell 1 rfl;have hnn : ((n : Int) != n)=false:=by simp
 have hx1:=hx.ah hbw1;have hi1:=hi.ah hbw1;have he:=uy ax n cx x hG hx1;rw [HK.out.2.2.2.2.2] at he;have He:=Z5 he;have Hv:=Z5 (KK ax cx x a n c L m hG HK.out.2.2.2.2.1 hx1 hi1 HK.out.2.2.2.1 HK.out.2.1 hm1 (by omega) (by omega));clear hMs hbW r1 hbl hmod hms he hx1 hi1 hG hx hi;go_wp2_with fail;refine He.out.mono ?_;rintro e w2 ⟨rfl,rfl⟩;go_wp2_with fail;refine Hv.out.mono ?_;rintro e w3 ⟨a3,c3,rfl,hown,hb3⟩;have hF:=Z5 (Np (R6 hown).1 (RZ hbw1 hb3));clear hown;go_wp2_with fail;go_ret2;exact ⟨a3,c3,rfl,hF.out.1,hF.out.2⟩
theorem lT (N : Int) (a : OA) (n c : Nat) (l : Lz) (w : World) (hi : Ints w a n l) :
  Calls prog 38 #[.slice a n c,.int .i64 N] w (i6 w (dk N l)):=by
 have Hlen:=Z5 hi.len;have hpl:=hi.pl;have hmax:=hi.max;unfold maxLen at hmax;go_enter func38,ntmps38;go_wp2_with fail;go_loopw [5] (λiv wr=>∃k : Nat,k<=n/\iv = .int .i64 k/\Hid (nM N l k=true)/\bf w wr) (λiv _=>n - (intOf iv).toNat);case atStart=>exact ⟨0,Ni _,rfl,by show _=_;simp [nM],Sf _⟩
 case round =>
  obtain ⟨j,hj,rfl,hok,hd⟩:=hrel
  have hir:=hi.drawn hd
  by_cases hlt2 : j<n
  ·have cj:=hir.cell j hlt2
   have hjj : (j : Int)<n:=by omega
   have hbad : fb N l j=false->dk N l=false:=λhb=>sY (by rw [Hlen.out];exact hlt2) hb
   have Hbad:=Z5 hbad
   clear hbad
   by_cases h0 : 0<=nth l j
   ·have d1 : decide (nth l j<0)=false:=by simp;omega
    by_cases h1 : nth l j<N
    ·have d2 : decide (N<=nth l j)=false:=by simp;omega
     by_cases hj0 : j=0
     ·have Hgood : Hid (fb N l j=true):=by show _=_;unfold fb;rw [NB h0,NB h1];simp [hj0]
      have d3 : decide (0<j)=false:=by simp;omega
      clear hj0
      go_wp2_with fail
      go_quiet (fail)
      go_wp2
      go_roundw
      case rel=>exact ⟨j+1,by omega,by go_num,fH hok.out Hgood.out,hd.drewN _⟩
      case measure=>simp [intOf] <;> omega
     ·have cp:=hir.cell (j - 1) (by omega)
      have e1 : ((j : Int) - 1).toNat=j - 1:=by omega
      have d3 : decide (0<j)=true:=by simp;omega
      have d4 : (0 : Int)<=(j : Int) - 1:=by omega
      have d5 : (1 : Int)<=(j : Int):=by omega
      have d6 : (j : Int) - 1<n:=by omega
      have kw : IntKind.i64.wrap ((j : Int) - 1)=(j : Int) - 1:=Ns _ (by omega)
      by_cases h2 : nth l (j - 1)<nth l j
      ·have Hgood : Hid (fb N l j=true):=by show _=_;unfold fb;simp [h0,h1,h2]
       have h2' : decide (nth l j<=nth l (j - 1))=false:=by simp;omega
       clear hj0
       go_wp2_with fail
       go_quiet (fail)
       go_wp2
       go_roundw
       case rel=>exact ⟨j+1,by omega,by go_num,fH hok.out Hgood.out,hd.drewN _⟩
       case measure=>simp [intOf] <;> omega
      ·have Hb : Hid (dk N l=false):=Hbad.out (by unfold fb;simp [h2,hj0])
       have h2' : decide (nth l j<=nth l (j - 1))=true:=by simp;omega
       clear hj0
       go_wp2_with fail
       go_quiet (fail)
       go_wp2
       go_ret
       exact ⟨by rw [Hb.out];rfl,hd.drewN _⟩
    ·have Hb : Hid (dk N l=false):=Hbad.out (by unfold fb;simp [h1])
     have d2 : decide (N<=nth l j)=true:=by simp;omega
     go_wp2_with fail
     go_quiet (fail)
     go_wp2
     go_ret
     exact ⟨by rw [Hb.out];rfl,hd.drewN _⟩
   ·have Hb : Hid (dk N l=false):=Hbad.out (by unfold fb;simp [h0])
    have d1 : decide (nth l j<0)=true:=by simp;omega
    go_wp2_with fail
    go_quiet (fail)
    go_wp2
    go_ret
    exact ⟨by rw [Hb.out];rfl,hd.drewN _⟩
  ·obtain rfl : j=n:=by omega
   have Hg : Hid (dk N l=true):=by show _=_;rw [dk,Hlen.out];exact hok.out
   go_wp2_with fail
   go_ret
   exact ⟨by rw [Hg.out];rfl,hd⟩
theorem kG (P M : Int) (am : OA) (mn cm : Nat) (a : OA) (n c : Nat) (l : Lz) (k : Nat) (w : World) (hi : Ints w a n l) :
  Calls prog 36 #[.agg #[.int .i64 P,.int .i64 M,.slice am mn cm],.slice a n c,.int .i64 k] w λe w'=>e = .returned (.int .i64 (fD (aJ P M) l k))/\SW w w':=by
 have hl:=hi.len;go_enter func36,ntmps36;go_upto_region 1 with fail;obtain ⟨W,hW⟩ : ∃W : World,W=w.alloc (.cells #[.int .i64 P,.int .i64 M,.slice am mn cm] 24):=⟨_,rfl⟩
 rw [<- hW];have hbW : SW w W:=by rw [hW];exact an _ _
 have x0 : aN W w.heap.size [.int .i64 P,.int .i64 M,.slice am mn cm]:=by rw [hW];exact R9 _ _ _ rfl
 have c0:=x0.cell 0 rfl;have c1:=x0.cell 1 rfl;have c2:=x0.cell 2 rfl;clear hW x0;by_cases h1 : n=k
 ·have HL : Hid (fD (aJ P M) l k=gU (aJ P M) l):=by show _=_;rw [fD,Nd (by omega)]
  have Hc:=Z5 (jb P M am mn cm a n c l W (hi.ah hbW));have h1' : ((n : Int) != k)=false:=by rw [show (n : Int)=k by omega];simp
  clear h1 hl;generalize gU (aJ P M) l=er at *;go_wp2_with fail;refine Hc.out.mono ?_;rintro e w1 ⟨rfl,hb1⟩;have hF:=RZ hbW hb1;go_wp2_with fail;go_ret;exact ⟨aP HL.out.symm,hF⟩
 ·have HL : Hid (fD (aJ P M) l k=4):=by show _=_;rw [fD,Nf (by omega)]
  have h1' : ((n : Int) != k)=true:=by simp only [bne_iff_ne,ne_eq];omega
  clear h1 hl;go_wp2_with fail;go_ret;exact ⟨aP HL.out.symm,hbW⟩
theorem lH (q : Int) (n : Nat) (w : World) (h2 : 2<=q) (h256 : q<=256) (hn : n<=1000000) :
  Calls prog 100 #[.int .i64 q,.int .i64 n,.int .i64 65536] w λe w'=>e = .returned (.tuple #[.int .i64 (kI q n),.int .i64 (iA q n)])/\w=w':=by
 go_enter func100,ntmps100;go_wp2_with fail;go_loop [8,9] (λqv nv=>∃k : Nat,k<=n/\nv = .int .i64 k/\qv = .int .i64 (q ^ k)/\q ^ k<=65536/\1<=q ^ k) (λ_ i=>n - (intOf i).toNat);case atStart=>exact ⟨0,Ni _,rfl,by simp,by simp,by simp⟩
 case round =>
  obtain ⟨k,hk,rfl,rfl,hb,hb1⟩:=hrel
  have hP0 : q ≠ 0:=by omega
  by_cases hlt : k<n
  ·have e1 : q ^ (k+1)=q ^ k * q:=N4 _ _
   have hd0 : (0 : Int)<=65536 / q:=OB (by omega) (by omega)
   have hd1 : 65536 / q<=65536:=OC _ (by omega)
   by_cases h5 : 65536 / q<q ^ k
   ·have hbig : ¬ q ^ n<=65536:=by intro h;have h6:=dy (show 1<=q by omega) (show k+1<=n by omega);have h7 : 65536<q ^ k * q:=OZ (by omega) h5;omega
    have Hb:=Z5 (lR hbig)
    clear e1 hbig
    generalize q ^ k=z at *
    go_wp2_with fail
    go_ret2
    exact ⟨fw Hb.out.1.symm Hb.out.2.symm,rfl⟩
   ·have h6 : q ^ k * q<=65536:=by have:=Pj (show (0 : Int)<q by omega) (show q ^ k<=65536 / q by omega);exact this
    have h7 : 1 * 1<=q ^ k * q:=OR hb1 (by omega) (by omega) (by omega)
    have E1:=Z5 e1
    clear e1
    generalize hz : q ^ k=z at *
    have Hz:=Z5 hz
    clear hz
    go_wp2_with fail
    go_round
    case rel=>exact ⟨k+1,by omega,by go_num,by rw [E1.out],by rw [E1.out];exact h6,by rw [E1.out];omega⟩
    case measure=>simp [intOf] <;> omega
  ·obtain rfl : k=n:=by omega
   have Hb:=Z5 (ka hb)
   generalize q ^ k=z at *
   go_wp2_with fail
   go_ret2
   exact ⟨fw Hb.out.1.symm Hb.out.2.symm,rfl⟩
theorem Dp (P M : Int) (am : OA) (mn cm : Nat) (mod : Lz) (m : Nat) (a : OA) (n c : Nat) (L : ZZ) (ax : OA) (nx cx : Nat) (x : Lz) (w : World) (hmod : Ints w am mn mod) (hi : br w a n L) (hx : Ints w ax nx x) (hE : aF P M mod m L=0) :
  Calls prog 37 #[.agg #[.int .i64 P,.int .i64 M,.slice am mn cm,.int .i64 m,.slice a n c],.slice ax nx cx] w λe w'=>SW w w' /\
   ((fD (af P M.toNat mod).q x n ≠ 0/\e = .returned (.tuple #[.slice none 0 0,.int .i64 (fD (af P M.toNat mod).q x n)])) \/
    (fD (af P M.toNat mod).q x n=0/\∃a1 c1,e = .returned (.tuple #[.slice a1 m c1,.int .i64 0])/\Ints w' a1 m (cmbTo (af P M.toNat mod).ops m x L n))):=by
 obtain ⟨N',em,hm1,hm64,F,hR⟩:=aM hE;obtain rfl : m=N':=by omega
 have hn256 : n<=256:=by rw [<- hi.len];exact (bJ hE).choose_spec.2.2.2.1
 have hfB:=(aG hE).1;have HCk : Hid (∀V,SW w V->Calls prog 88 #[.agg #[.int .i64 P,.int .i64 M,.slice am mn cm,.int .i64 m,.slice a n c]] V λe w'=>e = .returned (.int .i64 0)/\SW V w'):=λV hV=>by have h:=dr P M am mn cm mod m a n c L V (hmod.ah hV) (hi.ah hV);rw [hE] at h;exact h
 have HLi : Hid (∀V,SW w V->Calls prog 89 #[.agg #[.int .i64 P,.int .i64 M,.slice am mn cm],.slice ax nx cx,.int .i64 n] V λe w'=>e = .returned (.int .i64 (fD (af P M.toNat mod).q x n))/\SW V w'):=λV hV =>
  qQ P M am mn cm mod ax nx cx x n V (hmod.ah hV) (hx.ah hV) hfB
 have HVe : Hid (fD (af P M.toNat mod).q x n=0->∀V,SW w V->Calls prog 90 #[.agg #[.int .i64 P,.int .i64 M,.slice am mn cm],.slice ax nx cx,.agg #[.int .i64 m,.slice a n c]] V λe w'=>∃a1 c1,e = .returned (.tuple #[.slice a1 m c1,.int .i64 0])/\Ints w' a1 m (cmbTo (af P M.toNat mod).ops m x L n)/\SW V w'):=λhz V hV=>by
  unfold fD at hz;by_cases hl : x.length=n
  ·rw [Nd hl] at hz;unfold gU at hz;by_cases hq : dY (af P M.toNat mod).q x=true
   ·have hnx : nx=n:=by rw [<- hx.len];exact hl
    subst hnx;refine Jz P M am mn cm mod ax cx x m a nx c L V (hmod.ah hV) (hx.ah hV) (hi.ah hV) hfB hR (λk hk=>?_) hm1 hm64 hn256;unfold dY jR at hq;rw [NW] at hq;have h1:=hq _ (aH (l:=x) (i:=k) (by omega));simp at h1;unfold dn.El;exact h1
   ·rw [Nf hq] at hz;omega
  ·rw [Nf hl] at hz;omega
 obtain ⟨er,her⟩ : ∃er,fD (af P M.toNat mod).q x n=er:=⟨_,rfl⟩
 obtain ⟨X,hX⟩ : ∃X,cmbTo (af P M.toNat mod).ops m x L n=X:=⟨_,rfl⟩
 rw [her] at HLi HVe ⊢;rw [hX] at HVe ⊢;clear her hX hfB hE em F hR hmod hi hx;go_enter func37,ntmps37;go_wp2_with fail;obtain ⟨W,hW⟩ : ∃W : World,W=w.alloc (.cells #[.int .i64 P,.int .i64 M,.slice am mn cm,.int .i64 m,.slice a n c] 27):=⟨_,rfl⟩
 rw [<- hW];have hbW : SW w W:=by rw [hW];exact an _ _
 have x0 : aN W w.heap.size [.int .i64 P,.int .i64 M,.slice am mn cm,.int .i64 m,.slice a n c]:=by rw [hW];exact R9 _ _ _ rfl
 have HS : Hid (∀V,SW W V->V.cell? ⟨w.heap.size,0,none⟩=some (.int .i64 P)/\V.cell? ⟨w.heap.size,1,none⟩=some (.int .i64 M)/\V.cell? ⟨w.heap.size,2,none⟩=some (.slice am mn cm)/\V.cell? ⟨w.heap.size,3,none⟩=some (.int .i64 m)/\V.cell? ⟨w.heap.size,4,none⟩=some (.slice a n c)):=λV hV=>by have x1:=x0.ah hV;exact ⟨x1.cell 0 rfl,x1.cell 1 rfl,x1.cell 2 rfl,x1.cell 3 rfl,x1.cell 4 rfl⟩
 have HbW:=Z5 hbW;have Hck:=Z5 (HCk.out W hbW);clear hW x0 hbW HCk;refine Hck.out.mono ?_;rintro e w1 ⟨rfl,hb1⟩;obtain ⟨c0,c1,c2,c3,c4⟩:=HS.out w1 hb1;have Hli:=Z5 (HLi.out w1 (RZ HbW.out hb1));clear Hck HLi;go_wp2_with fail;refine Hli.out.mono ?_;rintro e w2 ⟨rfl,hb2⟩;have hB2:=RZ hb1 hb2;clear c0 c1 c2 c3 c4 Hli hb1;by_cases hz : er=0;rotate_left
 ·have hz' : (er != 0)=true:=by simpa using hz
  have Hz:=Z5 hz;have hF:=RZ HbW.out hB2;clear hz;go_wp2_with fail;go_ret2;exact ⟨hF,.inl ⟨Hz.out,rfl⟩⟩
 subst hz;have HV:=Z5 (HVe.out rfl);have HS2 : Hid (∀V,SW w2 V->V.cell? ⟨w.heap.size,0,none⟩=some (.int .i64 P)/\V.cell? ⟨w.heap.size,1,none⟩=some (.int .i64 M)/\V.cell? ⟨w.heap.size,2,none⟩=some (.slice am mn cm)/\V.cell? ⟨w.heap.size,3,none⟩=some (.int .i64 m)/\V.cell? ⟨w.heap.size,4,none⟩=some (.slice a n c)/\SW w2 V):=λV hV=>by obtain ⟨q0,q1,q2,q3,q4⟩:=HS.out V (RZ hB2 hV);exact ⟨q0,q1,q2,q3,q4,hV⟩
 have Hbw:=Z5 (RZ HbW.out hB2);clear HVe hB2 hb2;go_wp2_with fail;go_cut [4,5] (λu v wx=>∃a1 c1,u = .slice a1 m c1/\v = .int .i64 0/\Ints wx a1 m X/\SW w2 wx);case first =>
  go_region_held3 (λV=>V.cell? ⟨w.heap.size,0,none⟩=some (.int .i64 P)/\V.cell? ⟨w.heap.size,1,none⟩=some (.int .i64 M)/\V.cell? ⟨w.heap.size,2,none⟩=some (.slice am mn cm)/\V.cell? ⟨w.heap.size,3,none⟩=some (.int .i64 m)/\V.cell? ⟨w.heap.size,4,none⟩=some (.slice a n c)/\SW w2 V)
   ((refine HS2.out _ ?_;first | exact hb8 | exact hb7 | exact (Nc _ _).drew | assumption | (go_split_ands;assumption)))
   (first
    | (go_at_call 91;((with_reducible refine (qE P M am mn cm m a n c _).mono ?_);rintro e w7 ⟨rfl,hb7'⟩;have hb7 : SW w2 w7:=(by go_split_ands;exact RZ (by assumption) hb7')))
    | (go_at_call 90;((with_reducible refine (HV.out _ (RZ Hbw.out (by go_split_ands;assumption))).mono ?_);rintro e w8 ⟨a8,k8,rfl,hI8,hb8'⟩;have hb8 : SW w2 w8:=(by go_split_ands;exact RZ (by assumption) hb8'))))
  all_goals (go_wp2_with fail;go_meet;exact ⟨a8,k8,rfl,rfl,hI8,hb8⟩)
 obtain ⟨a8,k8,rfl,rfl,hI8,hb8⟩:=hcut;generalize wc=V at *;have hF:=Z5 (Np (RZ Hbw.out hb8) hI8);clear hI8;go_wp2_with fail;go_ret2;first
  | exact ⟨hF.out.1,.inr ⟨rfl,a8,k8,rfl,hF.out.2⟩⟩
  | exact ⟨hF.out.1,a8,⟨k8,rfl⟩,hF.out.2⟩
section
variable {O : aL} {El : Int->Prop} {m : Nat} {L : ZZ}
theorem IX (F : bF O El) (hL : bp El m L) {f g : Nat->Int} (hf : RS O El m L f) (hg : RS O El m (dx O m L) g) : dotN O f g m=0:=by have hN:=fV F hL;refine fC F hN (λx hx=>hf.el F hL hx) (λi hi=>?_) hg;exact (jO F hL λx hx=>hf.el F hL hx).2 hf i hi
end
def uP (P M : Int) (mod : Lz) (N : Int) (L : ZZ) : Int:=if aF P M mod N L=0 then kI (af P M.toNat mod).q L.length else 0
def uO (P M : Int) (mod : Lz) (N : Int) (L : ZZ) : Int:=if aF P M mod N L=0 then iA (af P M.toNat mod).q L.length else aF P M mod N L
theorem jC {P M : Int} {mod : Lz} {N : Int} {L : ZZ} (hE : aF P M mod N L=0) : aJ P M=((af P M.toNat mod).q : Nat)/\(2 : Int)<=(af P M.toNat mod).q/\((af P M.toNat mod).q : Int)<=256:=by
 obtain ⟨m,hm,_,hq,_⟩:=dB (aG hE).1;subst hm;rw [Nb];rw [hq];have h0 : aJ P m ≠ 0:=by intro h0;have h1:=(aG hE).1;unfold bA dg at h1;simp [h0] at h1
 obtain ⟨h1,h2,h3,h4,h5,h6⟩:=gX h0;refine ⟨rfl,?_,by omega⟩;rw [h6];have:=dy (show 1<=P by omega) (show 1<=(m : Int).toNat by omega);have e : P ^ 1=P:=by rw [N4,OT,Pq]
 omega
theorem fJ (P M : Int) (am : OA) (mn cm : Nat) (mod : Lz) (N : Int) (a : OA) (k c : Nat) (L : ZZ) (w : World) (hmod : Ints w am mn mod) (hi : br w a k L) :
  Calls prog 46 #[.agg #[.int .i64 P,.int .i64 M,.slice am mn cm,.int .i64 N,.slice a k c]] w λe w' =>
   e = .returned (.tuple #[.int .i64 (uP P M mod N L),.int .i64 (uO P M mod N L)])/\SW w w':=by
 have HCk : Hid (∀V,SW w V->Calls prog 35 #[.agg #[.int .i64 P,.int .i64 M,.slice am mn cm,.int .i64 N,.slice a k c]] V λe w'=>e = .returned (.int .i64 (aF P M mod N L))/\SW V w'):=λV hV=>by have h:=iL P M am mn cm mod N a k c L V (hmod.ah hV) (hi.ah hV) λh=>iQ h;rw [mZ] at h;exact h
 have hkl : L.length=k:=hi.len;go_enter func46,ntmps46;go_upto_region 1 with fail;obtain ⟨W,hW⟩ : ∃W : World,W=w.alloc (.cells #[.int .i64 P,.int .i64 M,.slice am mn cm,.int .i64 N,.slice a k c] 27):=⟨_,rfl⟩
 rw [<- hW];have hbW : SW w W:=by rw [hW];exact an _ _
 have x0 : aN W w.heap.size [.int .i64 P,.int .i64 M,.slice am mn cm,.int .i64 N,.slice a k c]:=by rw [hW];exact R9 _ _ _ rfl
 have HX:=Z5 x0;have c0:=x0.cell 0 rfl;have c1:=x0.cell 1 rfl;have c2:=x0.cell 2 rfl;have c3:=x0.cell 3 rfl;have c4:=x0.cell 4 rfl;clear hW x0;by_cases hE : aF P M mod N L=0
 ·have hk256 : k<=256:=by rw [<- hkl];exact (bJ hE).choose_spec.2.2.2.1
  obtain ⟨ho,hq2,hq256⟩:=jC hE;have HV : Hid (uP P M mod N L=kI (af P M.toNat mod).q k/\uO P M mod N L=iA (af P M.toNat mod).q k):=by show _/\_;unfold uP uO;rw [Nd hE,Nd hE,hkl];exact ⟨rfl,rfl⟩
  rw [hE] at HCk;have HOr : Hid (∀V,Calls prog 24 #[.agg #[.int .i64 P,.int .i64 M,.slice am mn cm]] V λe w'=>e = .returned (.int .i64 ((af P M.toNat mod).q : Nat))/\SW V w'):=λV=>by have h:=gK P M am mn cm V;rw [ho] at h;exact h
  generalize (af P M.toNat mod).q=q at *;clear ho hE hkl;go_wp2_with (go_at_call 35;refine (HCk.out _ hbW).mono ?_;rintro e w3 ⟨rfl,hb3⟩;clear c0 c1 c2 c3 c4);have HS : Hid (∀V,SW w3 V->V.cell? ⟨w.heap.size,0,none⟩=some (.int .i64 P)/\V.cell? ⟨w.heap.size,1,none⟩=some (.int .i64 M)/\V.cell? ⟨w.heap.size,2,none⟩=some (.slice am mn cm)/\V.cell? ⟨w.heap.size,4,none⟩=some (.slice a k c)/\SW w3 V):=λV hV=>by have x3:=(HX.out.ah hb3).ah hV;exact ⟨x3.cell 0 rfl,x3.cell 1 rfl,x3.cell 2 rfl,x3.cell 4 rfl,hV⟩
  go_region_held3 (λV=>V.cell? ⟨w.heap.size,0,none⟩=some (.int .i64 P)/\V.cell? ⟨w.heap.size,1,none⟩=some (.int .i64 M)/\V.cell? ⟨w.heap.size,2,none⟩=some (.slice am mn cm)/\V.cell? ⟨w.heap.size,4,none⟩=some (.slice a k c)/\SW w3 V)
   ((refine HS.out _ ?_;first | exact (Nc _ _).drew | (go_split_ands;assumption) | (go_split_ands;exact RZ (by assumption) (by assumption))))
   (first
    | (go_at_call 24;((with_reducible refine (HOr.out _).mono ?_);rintro e w4 ⟨rfl,hb4⟩))
    | (go_at_call 100;((with_reducible refine (lH (q : Int) k _ hq2 hq256 (by omega)).mono ?_);rintro e w5 ⟨rfl,rfl⟩)))
  all_goals go_wp2_with fail
  all_goals go_ret2
  all_goals exact ⟨fw HV.out.1.symm HV.out.2.symm,RZ (RZ hbW hb3) (by go_split_ands;assumption)⟩
 ·have HV : Hid (uP P M mod N L=0/\uO P M mod N L=aF P M mod N L):=by show _/\_;unfold uP uO;rw [Nf hE,Nf hE];exact ⟨rfl,rfl⟩
  generalize aF P M mod N L=z at *;have hz : (z != 0)=true:=by simpa using hE
  clear hE;go_wp2_with (go_at_call 35;refine (HCk.out _ hbW).mono ?_;rintro e w3 ⟨rfl,hb3⟩;clear c0 c1 c2 c3 c4);go_ret2;exact ⟨fw HV.out.1.symm HV.out.2.symm,RZ hbW hb3⟩
section
variable {P M : Int} {mod : Lz} {m : Nat} {L : ZZ}
end
section
variable {O : aL} {El : Int->Prop} {m : Nat}
theorem zf (O : aL) (d x : Lz) (S : Lz) (y : Int) : ∀k,k<=S.length->repTo O d x (S ++ [y]) k=repTo O d x S k
 | 0,_=>rfl
 | k+1,h=>by
  have e : nth (S ++ [y]) k=nth S k:=by unfold nth;rw [Ng,Ng,Ny (by omega)]
  rw [repTo,repTo,zf O d x S y k (by omega),e]
theorem C3 (O : aL) (d x : Lz) (S : Lz) (y : Int) : repTo O d x (S ++ [y]) (S.length+1)=O.add (repTo O d x S S.length) (O.mul (O.neg (nth d y.toNat)) (nth x y.toNat)):=by
 have e : nth (S ++ [y]) S.length=y:=by unfold nth;rw [Ng,NY (Na _)];simp
 rw [repTo,e,zf O d x S y _ (Na _)]
theorem Fw (F : bF O El) {d x : Lz} {i : Int} (hd : ∀p,p<m->El (nth d p)) (hx : ∀p,p<m->El (nth x p)) : ∀t,t<=m ->
  El (repTo O d x (bI d t i) (bI d t i).length)/\repTo O d x (bI d t i) (bI d t i).length=O.neg (dotN O (λp=>if (p : Int)=i then 0 else nth x p) (λp=>nth d p) t)
 | 0,_=>by have e : bI d 0 i=[]:=rfl;rw [e];exact ⟨F.zero,F.dR.symm⟩
 | t+1,ht=>by
  obtain ⟨h1,h2⟩:=Fw F hd hx (i:=i) t (by omega);have hae : ∀p,p<m->El (if (p : Int)=i then 0 else nth x p):=λp hp=>by split;exact F.zero;exact hx p hp
  have hdt:=hd t (by omega);have hxt:=hx t (by omega);have hdd:=fQ F (a:=λp=>if (p : Int)=i then 0 else nth x p) (b:=λp=>nth d p) t (λp hp=>hae p (by omega)) (λp hp=>hd p (by omega));rw [jX];by_cases h : nth d t ≠ 0/\(t : Int) ≠ i
  ·rw [Nd h,Nl,ND,C3];have et : ((t : Int)).toNat=t:=by simp
   rw [et];have hm:=F.cl.mul _ _ (F.cl.neg _ hdt) hxt;refine ⟨F.cl.add _ _ h1 hm,?_⟩;rw [h2,dotN];show O.add _ _=O.neg (O.add _ (O.mul (if (t : Int)=i then 0 else nth x t) (nth d t)));rw [Nf h.2,F.neg_add hdd (F.cl.mul _ _ hxt hdt),F.neg_mul hdt hxt,F.mul_comm _ _ hdt hxt]
  ·rw [Nf h];refine ⟨h1,?_⟩;rw [h2,dotN];show _=O.neg (O.add _ (O.mul (if (t : Int)=i then 0 else nth x t) (nth d t)));have hz : O.mul (if (t : Int)=i then 0 else nth x t) (nth d t)=0:=by
    by_cases h3 : (t : Int)=i
    ·rw [Nd h3,F.iS hdt]
    ·rw [Nf h3];have h4 : nth d t=0:=OJ λh5=>h ⟨h5,h3⟩;rw [h4,F.cQ hxt]
   rw [hz,F.add_zero _ hdd]
theorem Kt (F : bF O El) {d x : Lz} {i : Nat} (hi : i<m) (hd : ∀p,p<m->El (nth d p)) (hx : ∀p,p<m->El (nth x p)) (h1 : nth d i=1) (h0 : dotN O (λp=>nth x p) (λp=>nth d p) m=0) :
  repTo O d x (bI d m i) (bI d m i).length=nth x i:=by
 have h:=(Fw F hd hx (i:=(i : Int)) m (Na _)).2;have hee : ∀p,p<m->El (if p=i then nth x i else 0):=λp hp=>by split;exact hx i hi;exact F.zero
 have hae : ∀p,p<m->El (if (p : Int)=(i : Int) then 0 else nth x p):=λp hp=>by split;exact F.zero;exact hx p hp
 have e1 : dotN O (λp=>nth x p) (λp=>nth d p) m=O.add (dotN O (λp=>if (p : Int)=(i : Int) then 0 else nth x p) (λp=>nth d p) m) (nth x i):=by
  have key : ∀t,t<=m->dotN O (λp=>nth x p) (λp=>nth d p) t=O.add (dotN O (λp=>if (p : Int)=(i : Int) then 0 else nth x p) (λp=>nth d p) t) (if i<t then nth x i else 0):=λt=>by
   induction t with
   | zero=>intro _;show (0 : Int)=O.add 0 (if i<0 then nth x i else 0);rw [Nf (by omega),F.add_zero 0 F.zero]
   | succ t ih =>
    intro ht
    have hA:=fQ F (a:=λp=>if (p : Int)=(i : Int) then 0 else nth x p) (b:=λp=>nth d p) t (λp hp=>hae p (by omega)) (λp hp=>hd p (by omega))
    have hxt:=hx t (by omega)
    have hdt:=hd t (by omega)
    rw [dotN,dotN,ih (by omega)]
    show O.add (O.add _ _) (O.mul (nth x t) (nth d t))=O.add (O.add _ (O.mul (if (t : Int)=(i : Int) then 0 else nth x t) (nth d t))) _
    rcases Rs i t with h2 | h2 | h2
    ·rw [Nd h2,Nd (show i<t+1 by omega),Nf (show ¬ (t : Int)=(i : Int) by omega),F.add_assoc _ _ _ hA (hx i hi) (F.cl.mul _ _ hxt hdt),F.add_comm _ _ (hx i hi) (F.cl.mul _ _ hxt hdt),F.add_assoc _ _ _ hA (F.cl.mul _ _ hxt hdt) (hx i hi)]
    ·subst h2
     rw [Nf (show ¬ i<i by omega),Nd (show i<i+1 by omega),Nd rfl,F.iS hdt,F.add_zero _ hA,h1,F.ie hxt]
    ·rw [Nf (show ¬ i<t by omega),Nf (show ¬ i<t+1 by omega),Nf (show ¬ (t : Int)=(i : Int) by omega),F.add_zero _ hA,F.add_zero _ (F.cl.add _ _ hA (F.cl.mul _ _ hxt hdt))]
  rw [key m (Na _),Nd hi]
 have hA:=fQ F (a:=λp=>if (p : Int)=(i : Int) then 0 else nth x p) (b:=λp=>nth d p) m hae hd;rw [h0] at e1;rw [h,F.iH hA (hx i hi) e1.symm]
theorem zg (O : aL) {d x y : Lz} {S : Lz} (h : ∀z ∈ S,nth x z.toNat=nth y z.toNat) : ∀k,k<=S.length->repTo O d x S k=repTo O d y S k
 | 0,_=>rfl
 | k+1,hk=>by rw [repTo,repTo,zg O h k (by omega),h _ (aH (by omega))]
end
section
variable {P M : Int} {mod : Lz} {m : Nat} {L : ZZ}
end
theorem gM (P M : Int) (am : OA) (mn cm : Nat) (mod : Lz) (N : Int) (a : OA) (n c : Nat) (L : ZZ) (w : World) (hmod : Ints w am mn mod) (hi : br w a n L) :
  Calls prog 14 #[.agg #[.int .i64 P,.int .i64 M,.slice am mn cm,.int .i64 N,.slice a n c]] w (dO w):=by
 have HFw : Hid (∀V,SW w V->Calls prog 32 #[.agg #[.int .i64 P,.int .i64 M,.slice am mn cm,.int .i64 N,.slice a n c],.int .i64 120] V (dO V)):=λV hV=>lY P M am mn cm N a n c 120 L V (hi.ah hV) (by omega);have HDu : Hid (∀V,SW w V->Calls prog 45 #[.agg #[.int .i64 P,.int .i64 M,.slice am mn cm,.int .i64 N,.slice a n c]] V (gr P M mod N L V)):=λV hV=>gI P M am mn cm mod N a n c L V (hmod.ah hV) (hi.ah hV);have HSz : Hid (∀V a1 n1 c1 a2 n2 c2,Ints V a1 n1 mod->br V a2 n2 (aS (af P M.toNat mod) L N.toNat)->Calls prog 46 #[.agg #[.int .i64 P,.int .i64 M,.slice a1 n1 c1,.int .i64 N,.slice a2 n2 c2]] V λe w'=>∃x y,e = .returned (.tuple #[.int .i64 x,.int .i64 y])/\SW V w'):=λV a1 n1 c1 a2 n2 c2 h1 h2=>by refine (fJ P M a1 n1 c1 mod N a2 n2 c2 _ V h1 h2).mono ?_;rintro e w' ⟨h3,h4⟩;exact ⟨_,_,h3,h4⟩
 unfold gr at HDu;obtain ⟨D,hD⟩ : ∃D,aS (af P M.toNat mod) L N.toNat=D:=⟨_,rfl⟩
 obtain ⟨E,hE⟩ : ∃E,aF P M mod N L=E:=⟨_,rfl⟩
 rw [hD,hE] at HDu;rw [hD] at HSz;clear hmod hi hD hE;go_enter func14,ntmps14;go_upto_region 1 with fail;obtain ⟨W,hW⟩ : ∃W : World,W=(w.alloc (.cells #[.int .i64 P,.int .i64 M,.slice am mn cm,.int .i64 N,.slice a n c] 27)):=⟨_,rfl⟩
 rw [<- hW];have hbW : SW w W:=by rw [hW];exact an _ _
 have x0 : aN W w.heap.size [.int .i64 P,.int .i64 M,.slice am mn cm,.int .i64 N,.slice a n c]:=by rw [hW];exact R9 _ _ _ rfl
 clear hW;have HX:=Z5 x0;have HbW:=Z5 hbW;have c0:=x0.cell 0 rfl;have c1:=x0.cell 1 rfl;have c2:=x0.cell 2 rfl;have c3:=x0.cell 3 rfl;have c4:=x0.cell 4 rfl;clear x0 hbW;go_wp2_with fail;refine (HFw.out W HbW.out).mono ?_;rintro e U ⟨z,rfl,hb1⟩;clear c0 c1 c2 c3 c4;cases z
 ·have HF:=Z5 (RZ HbW.out hb1);clear hb1;go_wp2_with fail;go_ret;exact ⟨_,rfl,HF.out⟩
 have x1:=HX.out.ah hb1;have c0:=x1.cell 0 rfl;have c1:=x1.cell 1 rfl;have c2:=x1.cell 2 rfl;have c3:=x1.cell 3 rfl;have c4:=x1.cell 4 rfl;have HbU:=Z5 (RZ HbW.out hb1);clear x1;go_wp2_with fail;refine (HDu.out U HbU.out).mono ?_;rintro e V ⟨hb2,h⟩;have x2:=HX.out.ah (RZ hb1 hb2);have HX2:=Z5 x2;have HbV:=Z5 (RZ HbU.out hb2);clear c0 c1 c2 c3 c4 x2 hb1 hb2;rcases h with ⟨h0,rfl⟩ | ⟨h0,a1,d1,a2,d2,rfl,hI,hM⟩
 ·have hEb : (E != 0)=true:=by simpa using h0
  have HF:=Z5 (RZ HbV.out (an V (.cells #[.int .i64 0,.int .i64 0,.slice none 0 0,.int .i64 0,.slice none 0 0] 27)));clear h0;go_wp2_with fail;go_ret;exact ⟨_,rfl,HF.out⟩
 ·subst h0;obtain ⟨nm,hnm⟩ : ∃nm,mod.length=nm:=⟨_,rfl⟩
  obtain ⟨k,hk⟩ : ∃k,D.length=k:=⟨_,rfl⟩
  rw [hnm] at hI ⊢;rw [hk] at hM ⊢;clear hnm hk;go_upto_region 6 with fail;obtain ⟨V2,hV2⟩ : ∃V2 : World,V2=V.alloc (.cells #[.int .i64 P,.int .i64 M,.slice a1 nm d1,.int .i64 N,.slice a2 k d2] 27):=⟨_,rfl⟩
  rw [<- hV2];have hb3 : SW V V2:=by rw [hV2];exact an _ _
  have y0 : aN V2 V.heap.size [.int .i64 P,.int .i64 M,.slice a1 nm d1,.int .i64 N,.slice a2 k d2]:=by rw [hV2];exact R9 _ _ _ rfl
  have c0:=y0.cell 0 rfl;have c1:=y0.cell 1 rfl;have c2:=y0.cell 2 rfl;have c3:=y0.cell 3 rfl;have c4:=y0.cell 4 rfl;have HS2:=Z5 (HSz.out V2 a1 nm d1 a2 k d2 (hI.ah hb3) (hM.ah hb3));have HX3:=Z5 (HX2.out.ah hb3);have HbV2:=Z5 (RZ HbV.out hb3);clear hV2 hb3 y0 hI hM;go_wp2_with fail;refine HS2.out.mono ?_;rintro e w4 ⟨x,y,rfl,hb4⟩;have q3:=(HX3.out.ah hb4).cell 3 rfl;have HF:=Z5 (RZ HbV2.out hb4);clear c0 c1 c2 c3 c4 hb4 HS2;obtain ⟨z1,hz1⟩ : ∃z,decide (N<=20)=z:=⟨_,rfl⟩
  obtain ⟨z2,hz2⟩ : ∃z,(y != 0)=z:=⟨_,rfl⟩
  obtain ⟨z3,hz3⟩ : ∃z,decide (N<=9)=z:=⟨_,rfl⟩
  obtain ⟨z4,hz4⟩ : ∃z,decide (x<=600)=z:=⟨_,rfl⟩
  cases z1 <;> cases z2 <;> cases z3 <;> cases z4
  all_goals (
   go_wp2_with fail
   go_ret
   exact ⟨_,rfl,HF.out⟩)
def da (p : Nat->Bool) (k : Nat) : Lz:=((List.range k).filter p).map Int.ofNat
theorem pU {p : Nat->Bool} {k : Nat} {x : Int} : x ∈ da p k ↔ ∃j : Nat,j<k/\p j=true/\x=j:=by
 unfold da;rw [Pp];constructor
 ·rintro ⟨j,hj,rfl⟩;obtain ⟨h1,h2⟩:=List.mem_filter.1 hj;exact ⟨j,List.mem_range.1 h1,h2,rfl⟩
 ·rintro ⟨j,h1,h2,rfl⟩;exact ⟨j,List.mem_filter.2 ⟨List.mem_range.2 h1,h2⟩,rfl⟩
theorem vi (p : Nat->Bool) (k : Nat) : (da p k).Pairwise (λx y=>x<y):=by unfold da;rw [O6];exact Qb (λh=>Int.ofNat_lt.2 h) (Oy _ QP)
theorem mK {N : Int} {l : Lz} : ∀k,(∀i,i<k->fb N l i=true)->nM N l k=true
 | 0,_=>rfl
 | k+1,h=>fH (mK k λi hi=>h i (by omega)) (h k (by omega))
theorem rD (p : Nat->Bool) (m : Nat) : dk m (da p m)=true:=by
 unfold dk;refine mK _ λi hi=>?_;obtain ⟨j,hj,_,e⟩:=pU.1 (aH hi);have hp:=vi p m;rw [OY] at hp;unfold fb;have h2 : 0<i->nth (da p m) (i - 1)<nth (da p m) i:=λh0=>by rw [aj hi,aj (show i - 1<_ by omega)];exact hp (i - 1) i (by omega) hi (by omega)
 rw [e] at h2 ⊢;simp;omega
def putS (x y S : Lz) : Nat->Lz
 | 0=>y
 | k+1=>(putS x y S k).set (nth S k).toNat (nth x (nth S k).toNat)
theorem wT (x y S : Lz) : ∀k,(putS x y S k).length=y.length
 | 0=>rfl
 | k+1=>by rw [putS,N9,wT x y S k]
theorem EH {x y S : Lz} {m : Nat} (hy : y.length=m) (hS : ∀z ∈ S,z.toNat<m) : ∀k,k<=S.length->∀j,j<k->nth (putS x y S k) (nth S j).toNat=nth x (nth S j).toNat
 | 0,_,j,hj=>absurd hj (RJ j)
 | k+1,hk,j,hj=>by
  rw [putS,eh _ _ _ _ (by rw [wT,hy];exact hS _ (aH (by omega)))];by_cases h : (nth S j).toNat=(nth S k).toNat
  ·rw [Nd h,h]
  ·rw [Nf h];rcases N3 j k with h1 | h1
   ·exact EH hy hS k (by omega) j h1
   ·obtain rfl : j=k:=by omega
    exact absurd rfl h
theorem BJ {x y S : Lz} : ∀k v,v ∈ putS x y S k->v ∈ y\/∃j,j<k/\v=nth x (nth S j).toNat
 | 0,v,h=>.inl h
 | k+1,v,h=>by
  rw [putS] at h;rcases Oz h with h1 | h1
  ·rcases BJ k v h1 with h2 | ⟨j,h2,h3⟩
   ·exact .inl h2
   ·exact .inr ⟨j,by omega,h3⟩
  ·exact .inr ⟨k,by omega,h1⟩
theorem Iz {q : Int} {x y S : Lz} {m : Nat} (hS : ∀z ∈ S,z.toNat<m) (hx : ∀p,p<m->jR q (nth x p)=true) (hy : dY q y=true) : dY q (putS x y S S.length)=true:=by
 unfold dY at hy ⊢;rw [NW] at hy ⊢;intro v hv;rcases BJ _ v hv with h | ⟨j,h1,rfl⟩
 ·exact hy v h
 ·exact hx _ (hS _ (aH h1))
theorem EC (x : Lz) (m : Nat) (i : Int) : dk m (bI x m i)=true:=rD _ m
section
variable {P M : Int} {mod : Lz} {m : Nat} {L : ZZ}
theorem vV (hE : aF P M mod m L=0) {i : Nat} (hi : i<m) : kL P M mod m L i=pY P M mod m L i:=by unfold kL kP;rw [Nd hE,Nf (show ¬ ((i : Int)<0\/(m : Int)<=(i : Int)) by omega),Nd rfl,Nb]
theorem Gf (hE : aF P M mod m L=0) {i : Nat} (hi : i<m) (hh : pY P M mod m L i=0) {x y : Lz}
  (hx : RS (af P M.toNat mod).ops (af P M.toNat mod).El m L (λp=>nth x p)) (hxe : ∀p,p<m->(af P M.toNat mod).El (nth x p))
  (hyl : y.length=m) (hy : dY (af P M.toNat mod).q y=true) (hxy : ∀z ∈ iX P M mod m L i,nth y z.toNat=nth x z.toNat) :
  xQ P M mod m L i y=0/\Gv P M mod m L i y=nth x i:=by
 obtain ⟨N',e,hm1,hm64,F,hR⟩:=aM hE;obtain rfl : m=N':=by omega
 have hp : kP P M mod m L i=0:=by unfold kP;rw [Nd hE,Nf (show ¬ ((i : Int)<0\/(m : Int)<=(i : Int)) by omega)]
 have h1 : xQ P M mod m L i y=0:=by unfold xQ;rw [Nd hp,Nf (by rw [hyl];simp),Nf (by rw [hy];decide),Nb];exact hh
 refine ⟨h1,?_⟩;unfold Gv;rw [Nd h1,Nb,zg _ hxy _ (Na _)];have hne : iw P M mod m L i ≠ []:=by
  intro h;unfold pY at hh;by_cases h0 : wZ P M mod m L=0
  ·rw [Nd h0,Nd h] at hh;exact absurd hh (by decide)
  ·rw [Nf h0] at hh;exact h0 hh
 rcases qB hE (i : Int) with ⟨h,_⟩ | ⟨h2,h3,_⟩
 ·exact absurd h hne
 ·obtain ⟨h4,h5⟩:=(ou hE).1 h2;unfold iX;rw [Nb] at h3;exact Kt F hi (λp hp=>h4.at hp) hxe h3 (IX F hR hx h5)
end
def Dm (er : Int) (S D : Lz) (w : World) (e : Ending) (w' : World) : Prop :=
 SW w w'/\∃a n c a2 n2 c2,e = .returned (.tuple #[.slice a n c,.slice a2 n2 c2,.int .i64 er])/\Ints w' a n S/\Ints w' a2 n2 D
theorem JR {er : Int} {S D : Lz} {w : World} {e : Ending} {w' : World} (h : oJ er S D w e w') : Dm er (if er=0 then S else []) (if er=0 then D else []) w e w':=by
 obtain ⟨b,⟨h0,rfl⟩ | ⟨h0,a,c,a2,c2,rfl,h1,h2⟩⟩:=h
 ·rw [Nf h0,Nf h0];exact ⟨b,none,0,0,none,0,0,rfl,Sd _ _,Sd _ _⟩
 ·rw [Nd h0,Nd h0];exact ⟨b,a,_,c,a2,_,c2,by rw [h0],h1,h2⟩
theorem uG (P M : Int) (am : OA) (mn cm : Nat) (mod : Lz) (N : Int) (a : OA) (n c : Nat) (L : ZZ) (i : Int) (ax : OA) (nx cx : Nat) (v : Lz) (ay : OA) (ny cy : Nat) (y : Lz) (w : World) (hmod : Ints w am mn mod) (hi : br w a n L) (hv : Ints w ax nx v) (hy : Ints w ay ny y) :
  Calls prog 8 #[.agg #[.int .i64 P,.int .i64 M,.slice am mn cm,.int .i64 N,.slice a n c],.int .i64 i,.agg #[.slice ax nx cx,.slice ay ny cy]] w λe w'=>e = .returned (.bool true)/\SW w w':=by
 have HSm : Hid (∀V,SW w V->Calls prog 14 #[.agg #[.int .i64 P,.int .i64 M,.slice am mn cm,.int .i64 N,.slice a n c]] V (dO V)):=λV hV=>gM P M am mn cm mod N a n c L V (hmod.ah hV) (hi.ah hV);have HCk : Hid (∀V,SW w V->Calls prog 35 #[.agg #[.int .i64 P,.int .i64 M,.slice am mn cm,.int .i64 N,.slice a n c]] V λe w'=>e = .returned (.int .i64 (aF P M mod N L))/\SW V w'):=λV hV=>lh P M am mn cm mod N a n c L V (hmod.ah hV) (hi.ah hV);have HLs : Hid (∀V (k : Nat),SW w V->Calls prog 36 #[.agg #[.int .i64 P,.int .i64 M,.slice am mn cm],.slice ay ny cy,.int .i64 k] V λe w'=>e = .returned (.int .i64 (fD (aJ P M) y k))/\SW V w'):=λV k hV=>kG P M am mn cm ay ny cy y k V (hy.ah hV);have H1 : Hid (∀V,SW w V->Calls prog 15 #[.agg #[.int .i64 P,.int .i64 M,.slice am mn cm,.int .i64 N,.slice a n c],.int .i64 i] V (Dm (kL P M mod N L i) (if kL P M mod N L i=0 then iX P M mod N.toNat L i else []) (if kL P M mod N L i=0 then qM P M mod N.toNat L i else []) V)):=λV hV=>(mG P M am mn cm mod N a n c L i V (hmod.ah hV) (hi.ah hV)).mono λe w' h=>JR h;have Hmi:=Z5 (Np hmod (Np hi (Np hv hy)));have Hln:=Z5 hi.len;have Hly:=Z5 hy.len;have hmy:=hy.max;unfold maxLen at hmy;unfold Dm at H1;clear hmod hi hv hy;go_enter func8,ntmps8;go_wp2_with fail;obtain ⟨W,hW⟩ : ∃W : World,W=((w.alloc (.cells #[.int .i64 P,.int .i64 M,.slice am mn cm,.int .i64 N,.slice a n c] 27)).alloc (.cells #[.slice ax nx cx,.slice ay ny cy] 57)):=⟨_,rfl⟩
 rw [<- hW];have hbW : SW w W:=by rw [hW];exact bN _ _ _
 have x0 : aN W w.heap.size [.int .i64 P,.int .i64 M,.slice am mn cm,.int .i64 N,.slice a n c]:=by rw [hW];exact (R9 _ _ _ (by simp)).alloc _
 have y0 : aN W (w.heap.size+1) [.slice ax nx cx,.slice ay ny cy]:=by rw [hW];exact R9 _ _ _ (by simp)
 have HS : Hid (∀V,SW W V->V.cell? ⟨w.heap.size,0,none⟩=some (.int .i64 P)/\V.cell? ⟨w.heap.size,1,none⟩=some (.int .i64 M)/\V.cell? ⟨w.heap.size,2,none⟩=some (.slice am mn cm)/\V.cell? ⟨w.heap.size,3,none⟩=some (.int .i64 N)/\V.cell? ⟨w.heap.size,4,none⟩=some (.slice a n c)/\V.cell? ⟨w.heap.size+1,0,none⟩=some (.slice ax nx cx)/\V.cell? ⟨w.heap.size+1,1,none⟩=some (.slice ay ny cy)):=λV hV=>by have x1:=x0.ah hV;have y1:=y0.ah hV;exact ⟨x1.cell 0 rfl,x1.cell 1 rfl,x1.cell 2 rfl,x1.cell 3 rfl,x1.cell 4 rfl,y1.cell 0 rfl,y1.cell 1 rfl⟩
 have HbW:=Z5 hbW;clear hW hbW x0 y0;refine (bU W).mono ?_;rintro e w1 ⟨rfl,hB1⟩;obtain ⟨c0,c1,c2,c3,c4,c5,c6⟩:=HS.out w1 hB1;go_wp2_with fail;refine (HSm.out w1 (RZ HbW.out hB1)).mono ?_;rintro e w2 ⟨z,rfl,hbx⟩;have hB2:=RZ hB1 hbx;clear c0 c1 c2 c3 c4 c5 c6;cases z
 ·go_wp2_with fail;refine (bU w2).mono ?_;rintro e w9 ⟨rfl,hb9⟩;have hF:=RZ HbW.out (RZ hB2 hb9);go_wp2_with fail;go_ret;exact ⟨rfl,hF⟩
 obtain ⟨c0,c1,c2,c3,c4,c5,c6⟩:=HS.out w2 hB2;go_wp2_with fail;refine (HCk.out w2 (RZ HbW.out hB2)).mono ?_;rintro e w3 ⟨rfl,hb3⟩;have hB3:=RZ hB2 hb3;clear c0 c1 c2 c3 c4 c5 c6 HCk;obtain ⟨c0,c1,c2,c3,c4,c5,c6⟩:=HS.out w3 hB3;by_cases hE : aF P M mod N L=0;rotate_left
 ·have e1 : (aF P M mod N L != 0)=true:=by simpa using hE
  clear hE H1;generalize aF P M mod N L=er at *;go_wp2_with fail;refine (bU w3).mono ?_;rintro e w9 ⟨rfl,hb9⟩;have hF:=RZ HbW.out (RZ hB3 hb9);go_wp2_with fail;go_ret;exact ⟨rfl,hF⟩
 have e1 : (aF P M mod N L != 0)=false:=by simp [hE]
 by_cases hv64 : 64<nx
 ·have d0 : decide ((64 : Int)<nx)=true:=by simp;omega
  clear hE H1 hv64;generalize aF P M mod N L=er at *;go_wp2_with fail;refine (bU w3).mono ?_;rintro e w9 ⟨rfl,hb9⟩;have hF:=RZ HbW.out (RZ hB3 hb9);go_wp2_with fail;go_ret;exact ⟨rfl,hF⟩
 have d9 : decide ((64 : Int)<nx)=false:=by simp;omega
 by_cases hi0 : i<0
 ·have d0 : decide (i<0)=true:=by simpa using hi0
  clear hE H1 hi0 hv64;generalize aF P M mod N L=er at *;go_wp2_with fail;refine (bU w3).mono ?_;rintro e w9 ⟨rfl,hb9⟩;have hF:=RZ HbW.out (RZ hB3 hb9);go_wp2_with fail;go_ret;exact ⟨rfl,hF⟩
 have d0 : decide (i<0)=false:=by simpa using hi0
 by_cases hiN : N<=i
 ·have d1 : decide (N<=i)=true:=by simpa using hiN
  clear hE H1 hi0 hiN hv64;generalize aF P M mod N L=er at *;go_wp2_with fail;refine (bU w3).mono ?_;rintro e w9 ⟨rfl,hb9⟩;have hF:=RZ HbW.out (RZ hB3 hb9);go_wp2_with fail;go_ret;exact ⟨rfl,hF⟩
 obtain ⟨j,rfl⟩ : ∃j : Nat,i=j:=⟨i.toNat,by omega⟩
 obtain ⟨m,rfl,hm1,hm64,F,hR⟩:=aM hE;have hjm : j<m:=by omega
 have d1 : decide ((m : Int)<=(j : Int))=false:=by simp;omega
 have HE:=Z5 hE;have HF:=Z5 F;have HRw:=Z5 hR;rw [hE] at e1 ⊢;clear hE hi0 hiN F hR;go_wp2_with fail;refine (HLs.out w3 m (RZ HbW.out hB3)).mono ?_;rintro e w4 ⟨rfl,hb4⟩;have hB4:=RZ hB3 hb4;clear c0 c1 c2 c3 c4 c5 c6 HLs e1 d0 d1 d9;by_cases hls : fD (aJ P M) y m=0;rotate_left
 ·have e1 : (fD (aJ P M) y m != 0)=true:=by simpa using hls
  clear hls H1;generalize fD (aJ P M) y m=er at *;go_wp2_with fail;refine (bU w4).mono ?_;rintro e w9 ⟨rfl,hb9⟩;have hF:=RZ HbW.out (RZ hB4 hb9);go_wp2_with fail;go_ret;exact ⟨rfl,hF⟩
 have hyy : y.length=m/\dY (af P M.toNat mod).q y=true:=by
  have hq : ((af P M.toNat mod).q : Int)=aJ P M:=by obtain ⟨m1,e1,_,h1,_⟩:=dB (aG HE.out).1;rw [show M.toNat=m1 by omega];exact h1
  unfold fD at hls;split at hls
  ·rename_i h1;unfold gU at hls;split at hls
   ·rename_i h2;exact ⟨h1,by rw [hq];exact h2⟩
   ·cases hls
  ·cases hls
 obtain rfl : m=ny:=by rw [<- Hly.out];exact hyy.1.symm
 have HYY:=Z5 hyy;rw [hls];clear hls hyy;obtain ⟨c0,c1,c2,c3,c4,c5,c6⟩:=HS.out w4 hB4;have Hen:=Z5 (Dp P M am mn cm mod m a n c L ax nx cx v w4 (Hmi.out.1.ah (RZ HbW.out hB4)) (Hmi.out.2.1.ah (RZ HbW.out hB4)) (Hmi.out.2.2.1.ah (RZ HbW.out hB4)) HE.out);have HLz : Hid (fD (af P M.toNat mod).q v n=0->RS (af P M.toNat mod).ops (af P M.toNat mod).El m L (λp=>nth (cmbTo (af P M.toNat mod).ops m v L n) p)/\∀p,p<m->(af P M.toNat mod).El (nth (cmbTo (af P M.toNat mod).ops m v L n) p)):=λh=>by
  have hv : ∀k,k<L.length->(af P M.toNat mod).El (nth v k):=λk hk=>by
   unfold fD at h;split at h
   ·rename_i h1;unfold gU at h;split at h
    ·rename_i h2;exact pK h2 _ (aH (by rw [h1,<- Hln.out];exact hk))
    ·cases h
   ·cases h
  have h2:=fF HF.out HRw.out hv L.length (Na _);rw [Hln.out] at h2;exact ⟨h2.2,λp hp=>h2.1.at hp⟩
 have HEi : Hid (∀p,(af P M.toNat mod).El p->jR (af P M.toNat mod).q p=true):=λp h=>by unfold jR;simp;exact ⟨h.1,by have:=h.2;omega⟩
 obtain ⟨X,hX⟩ : ∃X,cmbTo (af P M.toNat mod).ops m v L n=X:=⟨_,rfl⟩
 obtain ⟨ee,hee⟩ : ∃ee,fD (af P M.toNat mod).q v n=ee:=⟨_,rfl⟩
 rw [hX] at Hen HLz;rw [hee] at Hen HLz;clear hX hee;go_wp2_with fail;refine Hen.out.mono ?_;rintro e w5 ⟨hb5,hcase⟩;have hB5:=RZ hB4 hb5;clear c0 c1 c2 c3 c4 c5 c6 Hen;obtain ⟨ae,ne,ce,rfl,hXi⟩ : ∃(ae : OA) (ne ce : Nat),e = .returned (.tuple #[.slice ae ne ce,.int .i64 ee])/\(ee=0->ne=m/\Ints w5 ae m X):=by
  rcases hcase with ⟨h,rfl⟩ | ⟨h,a1,c1,rfl,h2⟩
  ·exact ⟨none,0,0,rfl,λh1=>absurd h1 h⟩
  ·exact ⟨a1,m,c1,by rw [h],λ_=>⟨rfl,h2⟩⟩
 clear hcase;obtain ⟨c0,c1,c2,c3,c4,c5,c6⟩:=HS.out w5 hB5;go_wp2_with fail;refine (H1.out w5 (RZ HbW.out hB5)).mono ?_;rintro e w6 ⟨hb6,a1,n1,k1,a2,n2,k2,rfl,hS,hD⟩;have hB6:=RZ hB5 hb6;clear c0 c1 c2 c3 c4 c5 c6 H1 hD;by_cases h0 : ee=0/\kL P M mod m L j=0;rotate_left
 ·have hF:=RZ HbW.out hB6;generalize kL P M mod m L j=er at *;have e1 : (ee != 0)=true\/((ee != 0)=false/\(er != 0)=true):=by
   by_cases h1 : ee=0
   ·exact .inr ⟨by simp [h1],by simp;exact λh2=>h0 ⟨h1,h2⟩⟩
   ·exact .inl (by simpa using h1)
  clear h0 hXi hS;rcases e1 with e1 | ⟨e1,e2⟩
  ·go_wp2_with fail;go_ret;exact ⟨rfl,hF⟩
  ·go_wp2_with fail;go_ret;exact ⟨rfl,hF⟩
 obtain ⟨rfl,h2⟩:=h0;obtain ⟨rfl,hXi⟩:=hXi rfl;rw [Nd h2,Nb] at hS;have HLz2:=Z5 (HLz.out rfl);have HH0 : Hid (pY P M mod ne L j=0):=by show _=_;rw [<- vV HE.out hjm];exact h2
 rw [h2];have hok : dk (ne : Int) (iX P M mod ne L j)=true:=EC _ ne j;have HSm2 : Hid (∀z ∈ iX P M mod ne L j,0<=z/\z.toNat<ne):=λz hz=>by have:=AQ hz;omega
 obtain ⟨T,hT⟩ : ∃T,iX P M mod ne L j=T:=⟨_,rfl⟩
 have HT:=Z5 hT;rw [hT] at hS hok HSm2;have HX6:=Z5 (hXi.ah hb6);have HS6:=Z5 hS;have Hris:=Z5 (lT (ne : Int) a1 n1 k1 T w6 hS);rw [hok] at Hris;have hmn1:=hS.max;unfold maxLen at hmn1;have hplS:=hS.pl;have hplX:=hXi.pl;have e3 : ((ne : Int) != (ne : Int))=false:=by simp
 clear h2 hT hS hXi hok HLz;obtain ⟨c0,c1,c2,c3,c4,c5,c6⟩:=HS.out w6 hB6;go_wp2_with fail;refine Hris.out.mono ?_;rintro e w7 ⟨rfl,hd7⟩;have hb7:=hd7.below;have hB7:=RZ hB6 hb7;clear c0 c1 c2 c3 c4 c5 c6 Hris e3;obtain ⟨c0,c1,c2,c3,c4,c5,c6⟩:=HS.out w7 hB7;have hO7:=fA w7 3;have c6':=bu c6 (.cells #[] 3);have hb8:=an w7 (.cells #[] 3);have hy8:=Hmi.out.2.2.2.ah (RZ HbW.out (RZ hB7 hb8));have hyl:=HYY.out.1;go_upto_region 10 with (at_builtin;refine dH (by rfl) _ _ 22 3 (by rfl) (.int .i64 0) 8 underlying22 aU (by rfl) w7.heap.size _ 0 0 [] (by rfl) hO7 ay ne cy (y.map (Value.int .i64)) (by rfl) hy8.pl (by simp [hyl]) (Si hy8) (ints_oneCell _ _) (by omega) (by unfold maxLen;omega) (Om hb8) ?_;intro a3 k3 w8 hown3 hgr3 hap3)
 have hb9 : SW w7 w8:=Sa (B:=w7.heap.size) (e:=3) (xs:=[]) hb8 hO7 hgr3 (Na _) (Om hb8);rw [OI] at hown3;try rw [OI]
 rw [N5] at hown3;have HX7:=Z5 (HX6.out.ah hb7);have HS7:=Z5 (HS6.out.ah hb7);have HO8:=Z5 hown3;have hn1 : n1<=ne:=by have h1:=HS6.out.len;rw [<- HT.out] at h1;have h2:=gH (iw P M mod ne L j) ne j;unfold iX at h1;omega
 have HTl:=Z5 HS6.out.len;clear hgr3 hap3 hy8 hb8 hO7 hown3 c6' c0 c1 c2 c3 c4 c5 c6;go_wp2_with fail;go_loopw [93] (λiv wr=>∃k : Nat,k<=n1/\iv = .int .i64 k/\wr.ownsRow w7.heap.size 3 1 (.slice a3 ne k3) ne ((putS X y T k).map (Value.int .i64))/\SW w7 wr) (λiv _=>n1 - (intOf iv).toNat);case atStart=>exact ⟨0,Ni _,rfl,HO8.out,hb9⟩
 case round =>
  obtain ⟨k,hk,rfl,hown,hbr⟩:=hrel
  generalize wr=V at *
  obtain ⟨hints,hmine⟩:=R6 hown
  have hpl3:=hints.pl
  by_cases hlt : k<n1
  ·have hzb:=HSm2.out (nth T k) (aH (by rw [HTl.out];exact hlt))
   obtain ⟨p,hp⟩ : ∃p : Nat,nth T k=p:=⟨(nth T k).toNat,by omega⟩
   have hpn : p<ne:=by rw [hp,Nb] at hzb;exact hzb.2
   have cT:=(HS7.out.ah hbr).cell k hlt
   have cX:=(HX7.out.ah hbr).cell p hpn
   have Hst : Hid ((putS X y T k).set p (nth X p)=putS X y T (k+1)):=by show _=_;rw [putS,hp,Nb]
   have cz:=hints.cell p hpn
   have fz:=(hmine (by omega)).2 p hpn
   have hBz:=(hmine (by omega)).1
   rw [hp] at cT
   clear hzb hp hints hmine
   go_wp2_with fail
   go_roundw
   case rel =>
    have h:=bK hown p hpn (.int .i64 (nth X p))
    rw [<- NF,Hst.out] at h
    exact ⟨k+1,by omega,by go_num,h,hbr.setCell hBz _⟩
   case measure=>simp [intOf] <;> omega
  ·obtain rfl : k=n1:=by omega
   have hB9:=RZ hB7 hbr
   obtain ⟨c0,c1,c2,c3,c4,c5,c6⟩:=HS.out V hB9
   have hsz:=HYY.out
   have HRp:=Z5 (sM P M am mn cm mod ne a n c L j a3 ne k3 (putS X y T k) V (Hmi.out.1.ah (RZ HbW.out hB9)) (Hmi.out.2.1.ah (RZ HbW.out hB9)) hints)
   obtain ⟨hr1,hr2⟩:=Gf HE.out hjm HH0.out HLz2.out.1 HLz2.out.2 (y:=putS X y T k) (by rw [wT];exact hsz.1) (by
    have h:=Iz (x:=X) (λz hz=>(HSm2.out z hz).2) (λp hp=>HEi.out _ (HLz2.out.2 p hp)) hsz.2;rwa [HTl.out] at h) (λz hz=>by
    rw [HT.out] at hz;obtain ⟨q,hq,rfl⟩:=List.mem_iff_getElem.1 hz;have h:=EH (x:=X) (S:=T) hsz.1 (λz hz=>(HSm2.out z hz).2) k (by rw [HTl.out];exact Na _) q (by rw [<- HTl.out];exact hq);rw [aj hq] at h;exact h)
   rw [hr1,hr2] at HRp
   have cXj:=(HX7.out.ah hbr).cell j hjm
   have HX9:=Z5 (λV' (hV : SW V V')=>((HX7.out.ah hbr).ah hV).cell j hjm)
   generalize nth X j=u at *
   clear hr1 hr2 hsz hints hmine
   go_wp2_with fail
   refine HRp.out.mono ?_
   rintro e w10 ⟨rfl,hb10⟩
   have hF:=RZ HbW.out (RZ hB9 hb10)
   have cX2:=HX9.out w10 hb10
   have e9 : (u == u)=true:=by simp
   clear c0 c1 c2 c3 c4 c5 c6 cXj HRp
   go_wp2_with fail
   go_ret
   exact ⟨rfl,hF⟩
section
open Go.ChangeShapes Go.WideShapes Go.ChangeAt Go.RowKit
section
variable {H : Type} {enc : TypeId × Value->H} {W : World} {held : Bool} {b0 : Nat} {v : Value} {d : DataW H} {p : List MemPlace}
theorem Db {P : Program} {w : World} {r : Reach} {base : Nat} {t : TypeId} {v : Value} {n : Nat} {e : TypeId} (ht : P.underlying t=some (.array n e)) (h : Value.okWide P w r base t v) : ∃cs,v = .agg cs/\cs.size=P.cellsOf t:=by simp only [Value.okWide,ht] at h;obtain ⟨cs,h1,h2,_⟩:=h;exact ⟨cs,h1,h2⟩
theorem Lc (hv : Value.okWide prog W .any b0 57 v) (h : DataW.Trod enc prog W 0 (λ_=>true) held 57 v d p) :
  ∃(a : OA) (n c : Nat) (l : Lz) (a' : OA) (n' c' : Nat) (l' : Lz),v = .agg #[.slice a n c,.slice a' n' c']/\Ints W a n l/\Ints W a' n' l':=by
 obtain ⟨cs,rfl,hsz⟩:=Db underlying57 hv;rw [show prog.cellsOf 57 = 2 by kernel_rfl] at hsz;obtain ⟨l⟩:=cs;match l,hsz with
 | [v0,v1],_ =>
 obtain ⟨fuel,hf⟩:=h;obtain ⟨xs,n0,_,_,_,hlen,hfs⟩:=DataW.trod_array underlying57 hf;obtain ⟨y0,y1,rfl⟩ : ∃y0 y1,xs=[y0,y1]:=by
  match xs,hlen with
  | [y0,y1],_=>exact ⟨y0,y1,rfl⟩
 have k22 : prog.cellsOf 22 = 1:=by kernel_rfl
 have g0 : DataW.trod enc prog W 0 (λ_=>true) held n0 22 [v0]=some y0:=by simpa [Value.cells,k22] using hfs 0 (by omega)
 have g1 : DataW.trod enc prog W 0 (λ_=>true) held n0 22 [v1]=some y1:=by simpa [Value.cells,k22] using hfs 1 (by omega)
 obtain ⟨a,n,c,l,e0,h0⟩:=oX g0;obtain ⟨a',n',c',l',e1,h1⟩:=oX g1;simp at e0 e1;subst e0 e1;exact ⟨a,n,c,l,a',n',c',l',rfl,h0,h1⟩
end
end
end Go.Proofs.YthglbncgemdcbaaGreat
