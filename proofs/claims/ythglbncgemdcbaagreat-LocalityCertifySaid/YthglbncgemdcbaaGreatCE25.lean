import Derived.Test.YthglbncgemdcbaaGreatCE22
import Derived.Test.YthglbncgemdcbaaGreatCE24
namespace Go.Proofs.YthglbncgemdcbaaGreat
set_option linter.all false
set_option maxRecDepth 100000
set_option maxHeartbeats 16000000
open Go.RowKit Go.Proofs.Tryz
theorem xX (P M:Int) (am:OA) (S cm:Nat) (mod:LI) (N:Int) (a:OA) (n c:Nat) (L:Ll) (w:World) (Y:Ints w am S mod) (hi:bw w a n L) (O:aI P M mod N L ≠ 0) :
  Calls prog 80 #[.agg #[cG P,cG M,.slice am S cm,cG N,.slice a n c]] w λe w'=>e = .returned (.tuple #[.agg #[cG 0,cG 0,ds,cG 0,ds],cG (aI P M mod N L)])/\PY w w':=by
 have G:Hid (∀V,PY w V->Calls prog 88 #[.agg #[cG P,cG M,.slice am S cm,cG N,.slice a n c]] V λe w'=>e = .returned (cG (aI P M mod N L))/\PY V w'):=λV K=>dn P M am S cm mod N a n c L V (Y.af K) (hi.af K);generalize aI P M mod N L=ce at *;have d0:(ce != 0)=true:=by simpa using O
 clear Y hi O;go_enter func80,ntmps80;go_wp2_with fail;obtain ⟨W,Q⟩:∃W:World,W=(w.alloc (.cells #[cG P,cG M,.slice am S cm,cG N,.slice a n c] 27)).alloc (.cells #[cG 0,cG 0,ds,cG 0,ds] 27):=⟨_,rfl⟩
 rw [<- Q];have U:PY w W:=by rw [Q];exact bY _ _ _
 have z0:aQ W (w.heap.size+1) [cG 0,cG 0,ds,cG 0,ds]:=by rw [Q];exact Po _ _ _ (by simp)
 have F:=Z5 z0;clear Q z0;refine (G W U).mono ?_;rintro e D ⟨rfl,X⟩;have Z:=F.af X;have z0:=Z.cell 0 rfl;have E:=Z.cell 1 rfl;have z2:=Z.cell 2 rfl;have z3:=Z.cell 3 rfl;have z4:=Z.cell 4 rfl;have f0:=Z.frozen 0;have f1:=Z.frozen 1;have f2:=Z.frozen 2;have f3:=Z.frozen 3;have f4:=Z.frozen 4;have hF:=Pm U X;have H:=Z5 (((((hF.setCell (p:=⟨w.heap.size+1,0,none⟩) (by simp) (cG 0)).setCell (p:=⟨w.heap.size+1,1,none⟩) (by simp) (cG 0)).setCell (p:=⟨w.heap.size+1,2,none⟩) (by simp) ds).setCell (p:=⟨w.heap.size+1,3,none⟩) (by simp) (cG 0)).setCell (p:=⟨w.heap.size+1,4,none⟩) (by simp) ds);clear Z hF;go_wp2_with fail;exact bodyPost_ret (v:=.tuple #[.agg #[cG 0,cG 0,ds,cG 0,ds],cG ce]) (by simp [results,results80,go_sem,z0,E,z2,z3,z4]) rfl ⟨rfl,H⟩
def tB (P M:Int) (mod:LI) (m:Nat) (L:Ll) (k:Nat) (x:LI) (T:Ll):Bool :=
 decide (iH P M mod m (aU (ah P M.toNat mod) L m) x=0) && qt P M mod m (aU (ah P M.toNat mod) L m) x && decide (nth x k=1) && decide (mI P M mod m (da P M mod m L k) x ((iK x:Int) - 1) T=0)
def lkTo (P M:Int) (mod:LI) (m:Nat) (L Z:Ll) (TT:List Ll):Nat->Bool
 | 0=>true
 | k+1=>lkTo P M mod m L Z TT k && tB P M mod m L k (ai Z k) (oo TT k)
theorem CC {P M:Int} {mod:LI} {m:Nat} {L Z:Ll} {TT:List Ll} {k:Nat} (h:tB P M mod m L k (ai Z k) (oo TT k)=false):∀d,lkTo P M mod m L Z TT (k+1+d)=false
 | 0=>by rw [O0,lkTo,h,OE]
 | d+1=>by rw [show k+1+(d+1)=(k+1+d)+1 by omega,lkTo,CC h d,Pj]
def xA (P M:Int) (mod:LI) (N:Int) (L Z:Ll) (TT:List Ll):Int :=
 if aI P M mod N L=0 then (if (Z.length:Int)=N/\(TT.length:Int)=N/\lkTo P M mod N.toNat L Z TT N.toNat=true then 0 else 13) else aI P M mod N L
def vy (Z:Ll) (k:Nat):LI:=(Z.take k).map λx=>(iK x:Int) - 1
def su (Z:Int) (V:LI) (n:Nat) (w:World) (e:Ending) (w':World):Prop :=
 PY w w'/\((Z ≠ 0/\e = .returned (.tuple #[ds,cG Z]))\/(Z=0/\∃a c,e = .returned (.tuple #[.slice a n c,cG 0])/\Ints w' a n V))
theorem qq (P M:Int) (am:OA) (z cm:Nat) (mod:LI) (N:Int) (a:OA) (n c:Nat) (L:Ll) (aw:OA) (F cw:Nat) (Z:Ll) (Q:OA) (G ct:Nat) (TT:List Ll) (w:World)
  (H:Ints w am z mod) (hi:bw w a n L) (hw:bw w aw F Z) (ht:fQ w Q G TT) :
  Calls prog 31 #[.agg #[cG P,cG M,.slice am z cm,cG N,.slice a n c],.agg #[.slice aw F cw,.slice Q G ct]] w (su (xA P M mod N L Z TT) (vy Z N.toNat) N.toNat w):=by
 have S:Hid (∀V er,xA P M mod N L Z TT=er->er ≠ 0->PY w V->su (xA P M mod N L Z TT) (vy Z N.toNat) N.toNat w (.returned (.tuple #[ds,cG er])) V):=λV er h1 h2 h3=>⟨h3,.inl ⟨by rw [h1];exact h2,by rw [h1]⟩⟩
 have hmw:=hw.max;have hmt:=ht.max;have hplw:=hw.pl;have hplt:=ht.pl;unfold maxLen at hmw hmt;by_cases hE:aI P M mod N L=0;rotate_left
 ·have HD:Hid (∀V,PY w V->Calls prog 80 #[.agg #[cG P,cG M,.slice am z cm,cG N,.slice a n c]] V λe w'=>e = .returned (.tuple #[.agg #[cG 0,cG 0,ds,cG 0,ds],cG (aI P M mod N L)])/\PY V w'):=λV X =>
   xX P M am z cm mod N a n c L V (H.af X) (hi.af X) hE
  have HR:Hid (xA P M mod N L Z TT=aI P M mod N L):=by show _=_;rw [xA,KY hE]
  generalize su (xA P M mod N L Z TT) (vy Z N.toNat) N.toNat w=Post at *;generalize aI P M mod N L=ce at *;have d0:(ce != 0)=true:=by simpa using hE
  have H0:=Z5 hE;clear H hi hw ht hE;go_enter func31,ntmps31;go_upto_region 1 with fail;obtain ⟨W,hW⟩:∃W:World,W=(w.alloc (.cells #[cG P,cG M,.slice am z cm,cG N,.slice a n c] 27)).alloc (.cells #[.slice aw F cw,.slice Q G ct] 48):=⟨_,rfl⟩
  rw [<- hW];have hbW:PY w W:=by rw [hW];exact bY _ _ _
  have x0:aQ W w.heap.size [cG P,cG M,.slice am z cm,cG N,.slice a n c]:=by rw [hW];exact (Po _ _ _ rfl).alloc _
  have c0:=x0.cell 0 rfl;have c1:=x0.cell 1 rfl;have c2:=x0.cell 2 rfl;have c3:=x0.cell 3 rfl;have c4:=x0.cell 4 rfl;have HbW:=Z5 hbW;clear hW x0 hbW;go_wp2_with fail;refine (HD W HbW.out).mono ?_;rintro e w1 ⟨rfl,hb1⟩;have hF:=Pm (Pm HbW.out hb1) (an w1 (.cells #[cG 0,cG 0,ds,cG 0,ds] 27));clear c0 c1 c2 c3 c4;go_wp2_with fail;exact S _ _ HR.out H0.out hF
 obtain ⟨m,rfl,hm1,hm64,_⟩:=aZ hE;have hml:mod.length<=8:=jH (aL hE).1;have hmn:z<=8:=by rw [<- H.len];exact hml
 have HD:Hid (∀V,PY w V->Calls prog 80 #[.agg #[cG P,cG M,.slice am z cm,cG m,.slice a n c]] V (kp P M mod m L V)):=λV X=>tj P M am z cm mod m a n c L V (H.af X) (hi.af X) hE (by omega);have A:Hid (∀V a1 c1 a2 c2 E O rc x,Ints V a1 mod.length mod->bw V a2 (aU (ah P M.toNat mod) L m).length (aU (ah P M.toNat mod) L m)->Ints V E O x->Calls prog 81 #[.agg #[cG P,cG M,.slice a1 mod.length c1,cG m,.slice a2 (aU (ah P M.toNat mod) L m).length c2],.slice E O rc] V
   λe w'=>e = .returned (.tuple #[.bool (qt P M mod m (aU (ah P M.toNat mod) L m) x),cG (iH P M mod m (aU (ah P M.toNat mod) L m) x)])/\PY V w'):=λV a1 c1 a2 c2 E O rc x h1 h2 h3 =>
  vn P M a1 _ c1 mod m a2 _ c2 _ E O rc x V h1 h2 h3
 have HWl:Hid (∀x,iH P M mod m (aU (ah P M.toNat mod) L m) x=0->x.length=m):=λx h=>by have h1:=(uc h).2.1;simpa using h1
 have HZe : Hid (∀ V (k : Nat), k < m → PY w V → Calls prog 74 #[.agg #[cG P, cG M, .slice am z cm, cG m, .slice a n c], cG k] V fun e w' =>
       ∃a1 c1 a2 c2,e = .returned (.tuple #[.agg #[cG P,cG M,.slice a1 mod.length c1,cG m,.slice a2 (da P M mod m L k).length c2],cG 0])/\Ints w' a1 mod.length mod/\bw w' a2 (da P M mod m L k).length (da P M mod m L k)/\PY V w'):=λV k hk X =>
  rB P M am z cm mod m a n c L k V (H.af X) (hi.af X) hE hk
 have HCk : Hid (∀ V a1 c1 a2 c2 (k : Nat) E rc x W ab nb cb T, Ints V a1 mod.length mod → bw V a2 (da P M mod m L k).length (da P M mod m L k) → Ints V E m x → bw V ab nb T → Calls prog 82 #[.agg #[cG P, cG M, .slice a1 mod.length c1, cG m, .slice a2 (da P M mod m L k).length c2], .slice E m rc, cG W, .agg #[.slice ab nb cb]] V
       λe w'=>e = .returned (cG (mI P M mod m (da P M mod m L k) x W T))/\PY V w'):=λV a1 c1 a2 c2 k E rc x W ab nb cb T h1 h2 h3 h4 =>
  pB P M a1 _ c1 mod m a2 _ c2 _ E m rc x W ab nb cb T V h1 h2 h3 h4
 have HEl:Hid (xA P M mod m L Z TT=if (F:Int)=m/\(G:Int)=m/\lkTo P M mod m L Z TT m=true then 0 else 13):=by show _=_;rw [xA,KX hE,hw.len,ht.len,KV]
 have HTn:Hid (∀k,k<m->tB P M mod m L k (ai Z k) (oo TT k)=false->xA P M mod m L Z TT=13):=λk hk h=>by rw [HEl.out,KY];rintro ⟨_,_,h3⟩;have h4:=CC (TT:=TT) h (m - (k+1));rw [show k+1+(m - (k+1))=m by omega,h3] at h4;cases h4
 have HTs:Hid (∀k,lkTo P M mod m L Z TT k=true->tB P M mod m L k (ai Z k) (oo TT k)=true->lkTo P M mod m L Z TT (k+1)=true):=λk h1 h2=>by rw [lkTo,h1,h2];rfl
 have HOk:Hid (∀k x T,tB P M mod m L k x T=(decide (iH P M mod m (aU (ah P M.toNat mod) L m) x=0) && qt P M mod m (aU (ah P M.toNat mod) L m) x && decide (nth x k=1) && decide (mI P M mod m (da P M mod m L k) x ((iK x:Int) - 1) T=0))):=λk x T=>rfl;have HVk:Hid (∀k,k<F->vy Z (k+1)=vy Z k ++ [(iK (ai Z k):Int) - 1]):=λk hk=>by
  have hkA:k<Z.length:=by rw [hw.len];exact hk
  unfold vy;rw [K4 hkA,LJ,aE hkA];rfl
 have HV0:Hid (vy Z 0=[]/\lkTo P M mod m L Z TT 0=true):=⟨rfl,rfl⟩
 have HVl:Hid (∀k,k<=F->(vy Z k).length=k):=λk hk=>by unfold vy;rw [Lc,Lt,hw.len];omega
 rw [KV] at S ⊢;have HFin:Hid (∀a1 c1 V,xA P M mod m L Z TT=0->Ints V a1 m (vy Z m)->PY w V->su (xA P M mod m L Z TT) (vy Z m) m w (.returned (.tuple #[.slice a1 m c1,cG 0])) V):=λa1 c1 V h0 h1 h2=>⟨h2,.inr ⟨h0,a1,c1,rfl,h1⟩⟩
 unfold kp at HD;generalize hPo:su (xA P M mod m L Z TT) (vy Z m) m w=Post at *;generalize xA P M mod m L Z TT=le at *;generalize lkTo P M mod m L Z TT=LT at *;generalize tB P M mod m L=ok at *;generalize aU (ah P M.toNat mod) L m=D at *;generalize hVc:da P M mod m L=vc at *;generalize vy Z=LV at *;obtain ⟨nm,hnm⟩:∃nm,mod.length=nm:=⟨_,rfl⟩
 obtain ⟨nd,hnd⟩:∃nd,D.length=nd:=⟨_,rfl⟩
 rw [hnm] at HD A HZe HCk;rw [hnd] at HD A;have HI:=Z5 (K3 hw ht);clear H hi hw ht hE hm1 hml hmn hPo hVc hnm hnd;go_enter func31,ntmps31;go_upto_region 1 with fail;obtain ⟨W,hW⟩:∃W:World,W=(w.alloc (.cells #[cG P,cG M,.slice am z cm,cG m,.slice a n c] 27)).alloc (.cells #[.slice aw F cw,.slice Q G ct] 48):=⟨_,rfl⟩
 rw [<- hW];have hbW:PY w W:=by rw [hW];exact bY _ _ _
 have x0:aQ W w.heap.size [cG P,cG M,.slice am z cm,cG m,.slice a n c]:=by rw [hW];exact (Po _ _ _ rfl).alloc _
 have y0:aQ W (w.heap.size+1) [.slice aw F cw,.slice Q G ct]:=by rw [hW];exact Po _ _ _ (by simp)
 clear hW;have HX:Hid (∀V,PY W V->V.cell? ⟨w.heap.size,0,none⟩=some (cG P)/\V.cell? ⟨w.heap.size,1,none⟩=some (cG M)/\V.cell? ⟨w.heap.size,2,none⟩=some (.slice am z cm)/\V.cell? ⟨w.heap.size,3,none⟩=some (cG m)/\V.cell? ⟨w.heap.size,4,none⟩=some (.slice a n c)/\V.cell? ⟨w.heap.size+1,0,none⟩=some (.slice aw F cw)/\V.cell? ⟨w.heap.size+1,1,none⟩=some (.slice Q G ct)):=λV X=>by have x1:=x0.af X;have y1:=y0.af X;exact ⟨x1.cell 0 rfl,x1.cell 1 rfl,x1.cell 2 rfl,x1.cell 3 rfl,x1.cell 4 rfl,y1.cell 0 rfl,y1.cell 1 rfl⟩
 have HbW:=Z5 hbW;clear x0 y0 hbW;obtain ⟨c0,c1,c2,c3,c4,d0,d1⟩:=HX W (KU _ _);go_wp2_with fail;refine (HD W HbW.out).mono ?_;rintro e w1 ⟨a1,k1,a2,k2,rfl,hI1,hM1,hb1⟩;have hn1:=an w1 (.cells #[cG P,cG M,.slice a1 nm k1,cG m,.slice a2 nd k2] 27);have y1:aQ (w1.alloc (.cells #[cG P,cG M,.slice a1 nm k1,cG m,.slice a2 nd k2] 27)) w1.heap.size [cG P,cG M,.slice a1 nm k1,cG m,.slice a2 nd k2]:=Po _ _ _ rfl;have hI1':=hI1.ints.af hn1;have hM1':=hM1.iZ.af hn1;clear c0 c1 c2 c3 c4 d0 d1 hI1 hM1;go_upto_region 2 with fail;obtain ⟨U,hU⟩:∃U,w1.alloc (.cells #[cG P,cG M,.slice a1 nm k1,cG m,.slice a2 nd k2] 27)=U:=⟨_,rfl⟩
 rw [hU] at hn1 y1 hI1' hM1' ⊢;obtain ⟨g1,hg1⟩:∃g,w1.heap.size=g:=⟨_,rfl⟩
 rw [hg1] at y1 ⊢;have hbU:=Pm hb1 hn1;have hF1:=Pm HbW.out hbU;have HDc:Hid (∀V,PY U V->V.cell? ⟨g1,0,none⟩=some (cG P)/\V.cell? ⟨g1,1,none⟩=some (cG M)/\V.cell? ⟨g1,2,none⟩=some (.slice a1 nm k1)/\V.cell? ⟨g1,3,none⟩=some (cG m)/\V.cell? ⟨g1,4,none⟩=some (.slice a2 nd k2)):=λV X=>by have y:=y1.af X;exact ⟨y.cell 0 rfl,y.cell 1 rfl,y.cell 2 rfl,y.cell 3 rfl,y.cell 4 rfl⟩
 have HH:=Z5 (λV E O rc x (X:PY U V) h=>A V a1 k1 a2 k2 E O rc x (hI1'.af X) (hM1'.af X) h);clear hU hg1 y1 hI1' hM1' A HD hn1 hb1;obtain ⟨c0,c1,c2,c3,c4,d0,d1⟩:=HX U hbU;by_cases h1:(F:Int)=m;rotate_left
 ·have e1:((F:Int) != m)=true:=by simpa using h1
  have HF:=Z5 (S U 13 (by rw [HEl.out,KY (λh=>h1 h.1)]) (by decide) hF1);clear h1;go_wp2_with fail;exact HF
 obtain rfl:F=m:=by omega
 by_cases h2:(G:Int)=F;rotate_left
 ·have e1:((F:Int) != F)=false:=by simp
  have e2:((G:Int) != F)=true:=by simpa using h2
  have HF:=Z5 (S U 13 (by rw [HEl.out,KY (λh=>h2 h.2.1)]) (by decide) hF1);clear h1 h2;go_wp2_with fail;exact HF
 obtain rfl:G=F:=by omega
 have e1:((G:Int) != G)=false:=by simp
 have r:=Z5 (K3 hF1 hbU);clear h1 h2;go_wp2_with fail;clear c0 c1 c2 c3 c4 d0 d1 e1;go_loopw [8,39] (λsv iv wr=>∃(k:Nat) (a8:OA) (c8:Nat),k<=G/\iv = cG k/\sv = .slice a8 k c8/\Hid (wr.ownsRow U.heap.size 3 1 (.slice a8 k c8) k ((LV k).map (Value.int .i64)))/\PY U wr/\Hid (LT k=true)) (λ_ iv _=>G - (intOf iv).toNat);case atStart=>exact ⟨0,none,0,K0 _,rfl,rfl,by show World.ownsRow _ _ _ _ _ _ _;rw [HV0.1];exact cU,KU _ _,HV0.2⟩
 case round =>
  obtain ⟨k,a8,c8,hk,rfl,rfl,Hown,hbr,Hlt⟩:=hrel
  by_cases hlt:k<G
  ·have hbwr:=Pm r.1 hbr
   obtain ⟨E,O,rc,hcell,hrw⟩:=(HI.1.af hbwr).cell k hlt
   have HRw:=Z5 hrw
   have j:=Z5 (HTn k hlt)
   have HSk:=Z5 (HTs k Hlt.out)
   have HVk1:=Z5 (HVk k hlt)
   have HTr:=Z5 ((HI.2.af hbwr).cell k hlt)
   have hok:=HOk k (ai Z k) (oo TT k)
   have HLk:=Z5 (HWl (ai Z k))
   have HHk:=Z5 (HH wr E O rc _ hbr hrw)
   have hpr:=hrw.pl
   obtain ⟨x,hx⟩:∃x,ai Z k=x:=⟨_,rfl⟩
   rw [hx] at HRw j HSk HVk1 hok HLk HHk
   obtain ⟨T,hT⟩:∃T,oo TT k=T:=⟨_,rfl⟩
   rw [hT] at j HSk hok HTr
   have Y:=Z5 hok
   obtain ⟨wE,hwE⟩:∃e,iH P M mod G D x=e:=⟨_,rfl⟩
   obtain ⟨X,hhV⟩:∃e,qt P M mod G D x=e:=⟨_,rfl⟩
   rw [hwE,hhV] at HHk Y
   rw [hwE] at HLk
   obtain ⟨q0,q1,q2,q3,q4⟩:=HDc wr hbr
   have Hbr:=Z5 hbr
   clear hx hT hwE hhV hok hrw hbr hbwr
   go_wp2_with fail
   refine HHk.mono ?_
   rintro e w3 ⟨rfl,hb3⟩
   have hbr3:=Pm Hbr.out hb3
   have hF3:=Pm r.1 hbr3
   clear q0 q1 q2 q3 q4
   by_cases h0:wE=0
   rotate_left
   ·have e0:(wE != 0)=true:=by simpa using h0
    have HF:=Z5 (S w3 13 (j (by rw [Y.out,Lp h0];rfl)) (by decide) hF3)
    clear h0
    go_wp2_with fail
    exact HF
   subst h0
   have hxl:=HLk rfl
   have hrn:O=G:=by rw [<- HRw.len];exact hxl
   subst hrn
   cases X
   ·have HF:=Z5 (S w3 13 (j (by rw [Y.out];simp)) (by decide) hF3)
    clear hxl
    go_wp2_with fail
    exact HF
   have hrw3:=HRw.af hb3
   have ck:=hrw3.cell k hlt
   have Hxl:=Z5 hxl
   have HRw3:=Z5 hrw3
   obtain ⟨y,hy⟩:∃y,nth x k=y:=⟨_,rfl⟩
   rw [hy] at ck Y
   have hk1:(k:Int)<O:=by omega
   clear hy hxl hrw3
   by_cases hy1:y=1
   rotate_left
   ·have e0:(y != 1)=true:=by simpa using hy1
    have HF:=Z5 (S w3 13 (j (by rw [Y.out,Lp hy1];simp)) (by decide) hF3)
    clear hy1
    go_wp2_with fail
    exact HF
   subst hy1
   have HZk:=Z5 (HZe w3 k hlt hF3)
   obtain ⟨vk,hvk⟩:∃vk,vc k=vk:=⟨_,rfl⟩
   obtain ⟨qv,hqv⟩:∃q,vk.length=q:=⟨_,rfl⟩
   have hck2:=λV a1 c1 a2 c2=>HCk V a1 c1 a2 c2 k E rc x
   rw [hvk,hqv] at HZk hck2
   rw [hvk] at Y
   have HCk2:=Z5 hck2
   obtain ⟨c0,c1,c2,c3,c4,_,d1⟩:=HX w3 (Pm r.2 hbr3)
   clear hvk hqv hck2
   go_wp2_with fail
   refine HZk.mono ?_
   rintro e w4 ⟨a3,k3,a4,k4,rfl,hI3,hM3,hb4⟩
   have hn4:=an w4 (.cells #[cG P,cG M,.slice a3 nm k3,cG O,.slice a4 qv k4] 27)
   have y4:aQ (w4.alloc (.cells #[cG P,cG M,.slice a3 nm k3,cG O,.slice a4 qv k4] 27)) w4.heap.size [cG P,cG M,.slice a3 nm k3,cG O,.slice a4 qv k4]:=Po _ _ _ rfl
   have hI3':=hI3.af hn4
   have hM3':=hM3.af hn4
   clear c0 c1 c2 c3 c4 d1 hI3 hM3 ck
   go_upto_region 14 with fail
   obtain ⟨V3,hV3⟩:∃V3,w4.alloc (.cells #[cG P,cG M,.slice a3 nm k3,cG O,.slice a4 qv k4] 27)=V3:=⟨_,rfl⟩
   rw [hV3] at hn4 y4 hI3' hM3' ⊢
   have K:=Pm hb4 hn4
   have hrV3:=HRw3.af K
   have C:=Pm hbr3 K
   obtain ⟨g3,hg3⟩:∃g,w4.heap.size=g:=⟨_,rfl⟩
   rw [hg3] at y4 ⊢
   obtain ⟨ab,nb,cb,hcT,hmT,_⟩:=HTr.out
   have hcT3:=aB (Pm hb3 K) hcT
   have hmT3:=hmT.af (Pm hb3 K)
   have hxm:iK x<=O:=by have h:=z7 (x:=x);rw [Hxl.out] at h;exact h
   obtain ⟨wt,hwt⟩:∃wt,iK x=wt:=⟨_,rfl⟩
   rw [hwt] at hxm Y HVk1
   have w1':IntKind.i64.wrap ((wt:Int) - 1)=(wt:Int) - 1:=La _ (by omega)
   have HW3:Hid (∀V,PY V3 V->Calls prog 76 #[.slice E O rc] V λe w'=>e = .returned (cG (wt:Nat))/\PY V w'):=λV X=>by rw [<- hwt];exact oa E O rc _ V (hrV3.af X) (by omega)
   have HC3:=Z5 (λV (X:PY V3 V)=>HCk2 V a3 k3 a4 k4 ((wt:Int) - 1) ab nb cb T (hI3'.af X) (hM3'.af X) (hrV3.af X) (hmT3.af X))
   obtain ⟨ce,hce⟩:∃ce,mI P M mod O vk x ((wt:Int) - 1) T=ce:=⟨_,rfl⟩
   rw [hce] at HC3 Y
   have HS5:Hid (∀V,PY V3 V->V.cell? ⟨g3,0,none⟩=some (cG P)/\V.cell? ⟨g3,1,none⟩=some (cG M)/\V.cell? ⟨g3,2,none⟩=some (.slice a3 nm k3)/\V.cell? ⟨g3,3,none⟩=some (cG O)/\V.cell? ⟨g3,4,none⟩=some (.slice a4 qv k4)/\V.cell? ⟨w.heap.size+1,1,none⟩=some (.slice Q O ct)/\V.cell? ⟨ablk Q,aJ Q+k,none⟩=some (.slice ab nb cb)/\PY V3 V):=λV X=>by have y:=y4.af X;obtain ⟨_,_,_,_,_,_,d1⟩:=HX V (Pm (Pm r.2 C) X);exact ⟨y.cell 0 rfl,y.cell 1 rfl,y.cell 2 rfl,y.cell 3 rfl,y.cell 4 rfl,d1,aB X hcT3,X⟩
   have HV3:=Z5 (K3 K C)
   have hsz4:=C.size
   clear hV3 hg3 hI3' hM3' hrV3 hn4 hb4 y4 hcT hmT hcT3 hmT3 hwt hce K C
   obtain ⟨c0,c1,c2,c3,c4,d1,d2,_⟩:=HS5 V3 (KU _ _)
   have e0:((0:Int) != 0)=false:=rfl
   go_cut [84] (λv wx=>v = .bool (ce != 0)/\PY V3 wx)
   case first =>
    go_region_held3 (λV=>V.cell? ⟨g3,0,none⟩=some (cG P)/\V.cell? ⟨g3,1,none⟩=some (cG M)/\V.cell? ⟨g3,2,none⟩=some (.slice a3 nm k3)/\V.cell? ⟨g3,3,none⟩=some (cG O)/\V.cell? ⟨g3,4,none⟩=some (.slice a4 qv k4)/\V.cell? ⟨w.heap.size+1,1,none⟩=some (.slice Q O ct)/\V.cell? ⟨ablk Q,aJ Q+k,none⟩=some (.slice ab nb cb)/\PY V3 V)
     ((refine HS5 _ ?_;first | exact (KU _ _).drew | assumption | (go_split_ands;first | assumption | exact Pm (by assumption) (by assumption))))
     (first
      | (go_at_call 76;((with_reducible refine (HW3.out _ (by go_split_ands;assumption)).mono ?_);rintro e w5 ⟨rfl,hb5⟩;have hB5:PY V3 w5:=(by go_split_ands;exact Pm (by assumption) hb5)))
      | (go_at_call 82;((with_reducible refine (HC3.out _ (by go_split_ands;assumption)).mono ?_);rintro e w6 ⟨rfl,hb6⟩;have hB6:PY V3 w6:=(by go_split_ands;exact Pm (by assumption) hb6))))
    all_goals (
     go_wp2_with fail
     go_meet
     exact ⟨rfl,by go_split_ands;assumption⟩)
   obtain ⟨rfl,hbV⟩:=hcut
   generalize wc=V5 at *
   have hbr5:=Pm HV3.2 hbV
   have hF5:=Pm r.1 hbr5
   clear c0 c1 c2 c3 c4 d1 d2
   by_cases hc0:ce=0
   rotate_left
   ·have e2:(ce != 0)=true:=by simpa using hc0
    have HF:=Z5 (S V5 13 (j (by rw [Y.out,Lp hc0];simp)) (by decide) hF5)
    clear hc0
    go_wp2_with fail
    exact HF
   subst hc0
   have e2:((0:Int) != 0)=false:=rfl
   have HLT1:=Z5 (HSk (by rw [Y.out];rfl))
   have HW5:=Z5 (HW3 V5 hbV)
   go_wp2_with fail
   refine HW5.mono ?_
   rintro e w7 ⟨rfl,hb7⟩
   have hbr7:=Pm hbr5 hb7
   have hcn:=bm w7 (cG ((wt:Int) - 1)) 3
   have hown7:=bf Hown.out (Pm (Pm (Pm hb3 HV3.1) (Pm hbV hb7)) (an w7 (.cells #[cG ((wt:Int) - 1)] 3)))
   have hs7:=hbr7.size
   go_wp2_with (at_builtin;refine aS rfl _ _ 22 3 rfl (cG 0) 8 underlying22 bh rfl U.heap.size a8 k c8 _ rfl hown7 ⟨w7.heap.size,0,none⟩ 1 (cG ((wt:Int) - 1)) rfl hcn rfl (by omega) (by unfold maxLen;omega) (by simp;omega) ?_;intro a9 c9 w9 hown9 hgr9 hap9)
   go_roundw
   case rel=>exact ⟨k+1,a9,c9,by omega,by go_num,rfl,by show World.ownsRow _ _ _ _ _ _ _;rw [HVk1.out,LJ];exact hown9,Pp (Pm hbr7 (an w7 (.cells #[cG ((wt:Int) - 1)] 3))) hown7 hgr9 (KT _) (by simp;omega),HLT1⟩
   case measure=>simp [intOf] <;> omega
  ·obtain rfl:k=G:=by omega
   have HF:=Z5 (HFin a8 c8 wr (by rw [HEl.out,KX (by first | exact ⟨rfl,rfl,Hlt⟩ | exact ⟨trivial,trivial,Hlt⟩)]) (Pn Hown.out).1 (Pm r.1 hbr))
   go_wp2_with fail
   exact HF
theorem tz (P M:Int) (am:OA) (r cm:Nat) (mod:LI) (m:Nat) (a:OA) (n c:Nat) (L:Ll) (ay:OA) (ny cy:Nat) (C:js) (sa:OA) (ns cs:Nat) (s:LI) (H:OA) (nt ct:Nat) (t:LI) (w:World)
  (A:Ints w am r mod) (hi:bw w a n L) (hE:aI P M mod m L=0) (hc:C.cos=true) (hny:ny=m) (hy:Ints w ay ny C.y) (hyv:Vc (ah P M.toNat mod).El m C.y) (hns:ns<=64) (hs:Ints w sa ns s) (ht:Ints w H nt t) :
  Calls prog 187 #[oZ P M am r cm m a n c ay ny cy C,.slice sa ns cs,.slice H nt ct] w λe w'=>e = .returned (.bool (dx (ah P M.toNat mod).ops L m C s t))/\PY w w':=by
 have Q:=Z5 ht.len;have hplt:=ht.pl;have hmax:=ht.max;unfold maxLen at hmax;obtain ⟨RS,hRS⟩:∃RS,dx (ah P M.toNat mod).ops L m C s t=RS:=⟨_,rfl⟩
 rw [hRS];have HRS:Hid (RS=(lP m s t && (decide ((mE (ah P M.toNat mod).ops L t).length=t.length) && (decide ((mE (ah P M.toNat mod).ops L (frTo false s m)).length=t.length) && decide (C.W<s.length+gk (ah P M.toNat mod).ops L C.y s t))))):=by show _=_;rw [<- hRS,dx,hc];simp only [if_true]
 have Hm:=Z5 (di hE);have Hny:=Z5 hny;unfold oZ;rw [hc];clear hny;clear hRS hc;go_enter func187,ntmps187;go_wp2_with fail;obtain ⟨U,hU⟩:∃U:World,U=w.alloc (.cells #[cG P,cG M,.slice am r cm,cG m,.slice a n c,cG C.M,cG C.W,.slice ay ny cy,.bool true] 149):=⟨_,rfl⟩
 rw [<- hU];have hbU:PY w U:=by rw [hU];exact an _ _
 have x0:aQ U w.heap.size [cG P,cG M,.slice am r cm,cG m,.slice a n c,cG C.M,cG C.W,.slice ay ny cy,.bool true]:=by rw [hU];exact Po _ _ _ rfl
 have HS:Hid (∀V,PY U V->V.cell? ⟨w.heap.size,0,none⟩=some (cG P)/\V.cell? ⟨w.heap.size,1,none⟩=some (cG M)/\V.cell? ⟨w.heap.size,2,none⟩=some (.slice am r cm)/\V.cell? ⟨w.heap.size,3,none⟩=some (cG m)/\V.cell? ⟨w.heap.size,4,none⟩=some (.slice a n c) /\
   V.cell? ⟨w.heap.size,5,none⟩=some (cG C.M)/\V.cell? ⟨w.heap.size,6,none⟩=some (cG C.W)/\V.cell? ⟨w.heap.size,7,none⟩=some (.slice ay ny cy)/\V.cell? ⟨w.heap.size,8,none⟩=some (.bool true)):=λV K=>by have x1:=x0.af K;exact ⟨x1.cell 0 rfl,x1.cell 1 rfl,x1.cell 2 rfl,x1.cell 3 rfl,x1.cell 4 rfl,x1.cell 5 rfl,x1.cell 6 rfl,x1.cell 7 rfl,x1.cell 8 rfl⟩
 clear hU x0;refine (AK m H nt ct t U (ht.af hbU)).mono ?_;rintro e w1 ⟨rfl,hd1⟩;have hb1:PY U w1:=hd1.below;have Z:=Pm hbU hb1;obtain ⟨zo,hzo⟩:∃zo,fP m t=zo:=⟨_,rfl⟩
 rw [hzo];cases zo
 ·have HF:Hid (RS=false):=by show _=_;rw [HRS.out,lP,hzo];rfl
  clear hzo;go_wp2_with fail;go_ret;exact ⟨by rw [HF.out];rfl,Z⟩
 have Hok:=Z5 hzo;clear hzo;have ht1:=ht.af Z;have hs1:=hs.af Z;go_wp2_with fail;go_loop [7] (λiv=>∃k:Nat,k<=nt/\iv = cG k/\Hid (∀j,j<k->¬ nth t j ∈ s)) (λiv=>nt - (intOf iv).toNat);case atStart=>exact ⟨0,K0 _,rfl,λj hj=>by omega⟩
 case round =>
  obtain ⟨k,hk,rfl,hno⟩:=hrel
  generalize w1=wr at *
  by_cases hlt:k<nt
  ·have ck:=ht1.cell k hlt
   have HI:=Z5 (ub sa ns cs s (nth t k) wr hs1)
   by_cases O:nth t k ∈ s
   ·have hmd:decide (nth t k ∈ s)=true:=by simpa using O
    rw [hmd] at HI
    have HF:Hid (RS=false):=by
     show _=_;have h1:t.all (λx=>decide (¬ x ∈ s))=false:=by rw [MD];exact ⟨nth t k,aG (by rw [Q.out];exact hlt),by simpa using O⟩
     rw [HRS.out,lP,h1,OE];rfl
    clear O hmd
    go_wp2_with fail
    refine HI.mono ?_
    rintro e w6 ⟨rfl,rfl⟩
    go_wp2_with fail
    go_ret
    exact ⟨by rw [HF.out];rfl,Z⟩
   ·have hmd:decide (nth t k ∈ s)=false:=by simpa using O
    rw [hmd] at HI
    have Hno2:Hid (∀j,j<k+1->¬ nth t j ∈ s):=λj hj=>by
     by_cases e:j=k
     ·rw [e];exact O
     ·exact hno j (by omega)
    clear O hmd hno
    go_wp2_with fail
    refine HI.mono ?_
    rintro e w6 ⟨rfl,rfl⟩
    go_wp2_with fail
    go_round
    case rel=>exact ⟨k+1,by omega,by go_num,Hno2⟩
    case measure=>simp [intOf] <;> omega
  ·have hkn:k=nt:=by omega
   subst hkn
   have hset:lP m s t=true:=by rw [lP,Hok.out,Mw,LR];intro x hx;obtain ⟨j,hj,rfl⟩:=List.mem_iff_getElem.1 hx;have h1:=hno j (by rw [<- Q.out];exact hj);rw [aj hj] at h1;simpa using h1
   obtain ⟨m',hm',O,hm2,_,_⟩:=Hm.out
   have hklen:k<=64:=by have h1:=mx Hok.out (by omega);rw [Q.out] at h1;omega
   have HO:=Z5 (oX P M am r cm mod m a n c L H k ct t wr (A.af Z) (hi.af Z) ht1 hE (E8 Hok.out) (by omega))
   have N:Hid (RS=(decide ((mE (ah P M.toNat mod).ops L t).length=k) && (decide ((mE (ah P M.toNat mod).ops L (frTo false s m)).length=k) && decide (C.W<s.length+gk (ah P M.toNat mod).ops L C.y s t)))):=by show _=_;rw [HRS.out,hset,Mw,Q.out]
   have hts:∀x ∈ t,¬ x ∈ s:=(yp hset).2
   have hT:tu m t:=E8 Hok.out
   obtain ⟨m'', em, _, _, F, hR⟩ := aZ hE
   obtain rfl:m = m'' := by omega
   have hsl:=hs.len
   have HVn:Hid ((mE (ah P M.toNat mod).ops L t).length=k->∀V,PY w V->Calls prog 237 #[.agg #[cG P,cG M,.slice am r cm,cG m,.slice a n c],.slice ay m cy,.slice H k ct] V λe w' =>
     ∃a1 c1,e = .returned (.slice a1 m c1)/\Ints w' a1 m (rC (ah P M.toNat mod).ops m L C.y t)/\PY V w'):=λhk V K =>
    xz P M am r cm mod m a n c L ay cy C.y H k ct t V (A.af K) (hi.af K) hE (by rw [<- Hny.out];exact hy.af K) (ht.af K) hyv hT (by rw [Q.out];exact hk) (by omega)
   have S:Hid ((mE (ah P M.toNat mod).ops L t).length=k->(mE (ah P M.toNat mod).ops L (frTo false s m)).length=k->gk (ah P M.toNat mod).ops L C.y s t=iK (bR (frTo false s m) (rC (ah P M.toNat mod).ops m L C.y t))):=λh1 h2=>by obtain ⟨hcos,h0,_,_⟩:=B9 F hR hyv hT (show kC (ah P M.toNat mod).ops L t=t.length by rw [Q.out];exact h1);rw [Dv F hR hyv hT (show kC (ah P M.toNat mod).ops L t=t.length by rw [Q.out];exact h1) (show kC (ah P M.toNat mod).ops L (frTo false s m)=t.length by rw [Q.out];exact h2) hts hcos h0,Cp]
   have D:tu m (frTo false s m):=λj hj=>by obtain ⟨i,hi',e,_⟩:=(ef m).1 (aG hj);omega
   have hfl:=jn false s m
   obtain ⟨Fr,hFr⟩:∃Fr,frTo false s m=Fr:=⟨_,rfl⟩
   rw [hFr] at N S D hfl
   have HOt:Hid (∀V,PY w V->Calls prog 132 #[.slice sa ns cs,cG m] V λe w'=>∃a2 c2,e = .returned (.slice a2 Fr.length c2)/\Ints w' a2 Fr.length Fr/\PY V w'):=λV K=>by have h:=gX sa ns cs s m V (hs.af K) (by omega);rw [hFr] at h;refine h.mono ?_;rintro e w' ⟨a2,c2,rfl,ho,hbw⟩;exact ⟨a2,c2,rfl,(Pn ho).1,hbw⟩
   have E:Hid (∀V X co,PY w V->Ints V X Fr.length Fr->Calls prog 235 #[.agg #[cG P,cG M,.slice am r cm],.slice a n c,.slice X Fr.length co] V λe w'=>e = .returned (cG (mE (ah P M.toNat mod).ops L Fr).length)/\PY V w'):=λV X co K ho =>
    oX P M am r cm mod m a n c L X Fr.length co Fr V (A.af K) (hi.af K) ho hE D (by omega)
   obtain ⟨r1,hr1⟩:∃r1,(mE (ah P M.toNat mod).ops L t).length=r1:=⟨_,rfl⟩
   obtain ⟨r2,Y⟩:∃r2,(mE (ah P M.toNat mod).ops L Fr).length=r2:=⟨_,rfl⟩
   obtain ⟨lt,hlt2⟩:∃lt,gk (ah P M.toNat mod).ops L C.y s t=lt:=⟨_,rfl⟩
   obtain ⟨z,hVn⟩:∃z,rC (ah P M.toNat mod).ops m L C.y t=z:=⟨_,rfl⟩
   rw [hr1] at HO N HVn S
   rw [Y] at N E S
   rw [hlt2] at N S
   rw [hVn] at HVn S
   rw [hsl] at N
   obtain ⟨fl,hfle⟩:∃fl,Fr.length=fl:=⟨_,rfl⟩
   rw [hfle] at HOt E hfl
   have Hfle:=Z5 hfle
   have HPi:Hid (∀V av cv X co,Ints V av m z->Ints V X fl Fr->Calls prog 59 #[.slice av m cv,.slice X fl co] V λe w'=>∃a1 c1,e = .returned (.slice a1 fl c1)/\Ints w' a1 fl (bR Fr z)/\PY V w'):=λV av cv X co h1 h2=>by
    refine (uD av m cv z X fl co Fr V h1 h2 D (by omega)).mono ?_;rintro e w' ⟨a1,c1,rfl,ho,hb⟩;have hpl:(bR Fr z).length=fl:=by simp [bR,Hfle.out]
    rw [hpl] at ho ⊢;exact ⟨a1,c1,rfl,(Pn ho).1,hb⟩
   have HWt:Hid (∀V X co,Ints V X fl (bR Fr z)->Calls prog 41 #[.slice X fl co] V λe w'=>e = .returned (cG (iK (bR Fr z)))/\w'=V):=λV X co h=>mJ X fl co _ V h
   have hwl:iK (bR Fr z)<=fl:=by have h:iK (bR Fr z)<=(bR Fr z).length:=Ou;simpa [bR,Hfle.out] using h
   obtain ⟨wt,hwt⟩:∃wt,iK (bR Fr z)=wt:=⟨_,rfl⟩
   rw [hwt] at S HWt hwl
   obtain ⟨c0,c1,c2,c3,c4,c5,c6,c7,c8⟩:=HS wr hb1
   clear hset hr1 Y hlt2 hVn hfle hwt hFr hm' O hm2 em F hR hT hts D hsl A hi hs ht hy hyv hs1 ht1
   go_wp2_with fail
   refine HO.mono ?_
   rintro e w2 ⟨rfl,hb2⟩
   have hb12:=Pm hb1 hb2
   have hbF:=Pm hbU hb12
   clear c0 c1 c2 c3 c4 c5 c6 c7 c8 HO
   obtain ⟨c0,c1,c2,c3,c4,c5,c6,c7,c8⟩:=HS w2 hb12
   by_cases G:r1=k
   rotate_left
   ·have HF:Hid (RS=false):=by show _=_;rw [N.out,Lp G];rfl
    have hne:((r1:Int) != k)=true:=by simp;omega
    clear G
    go_wp2_with fail
    go_ret
    exact ⟨by rw [HF.out];rfl,hbF⟩
   have hne:((r1:Int) != k)=false:=by simp [G]
   have HVn2:=Z5 (HVn G)
   have HLt2:=Z5 (S G)
   have Hot:=Z5 (HOt w2 hbF)
   have HR3:Hid (RS=(decide (r2=k) && decide (C.W<ns+lt))):=by show _=_;rw [N.out,Lj G,Mw]
   clear G HVn S HOt N
   go_wp2_with fail
   refine Hot.mono ?_
   rintro e w3 ⟨X,co,rfl,hIo,hb3⟩
   have hb13:=Pm hb12 hb3
   have hbF3:=Pm hbU hb13
   have Hof:=Z5 (E w3 X co hbF3 hIo)
   clear c0 c1 c2 c3 c4 c5 c6 c7 c8 Hot E
   obtain ⟨c0,c1,c2,c3,c4,c5,c6,c7,c8⟩:=HS w3 hb13
   go_wp2_with fail
   refine Hof.mono ?_
   rintro e w4 ⟨rfl,hb4⟩
   have hb14:=Pm hb13 hb4
   have hbF4:=Pm hbU hb14
   have HIo:=Z5 (hIo.af hb4)
   clear c0 c1 c2 c3 c4 c5 c6 c7 c8 Hof hIo
   obtain ⟨c0,c1,c2,c3,c4,c5,c6,c7,c8⟩:=HS w4 hb14
   by_cases Y:r2=k
   rotate_left
   ·have HF:Hid (RS=false):=by show _=_;rw [HR3.out,Lp Y];rfl
    have hne2:((k:Int) != r2)=true:=by simp;omega
    clear Y
    go_wp2_with fail
    go_ret
    exact ⟨by rw [HF.out];rfl,hbF4⟩
   have hne2:((k:Int) != r2)=false:=by simp;omega
   have hltw:=HLt2 Y
   have HR4:Hid (RS=decide ((C.W:Int)<(ns:Int)+wt)):=by show _=_;rw [HR3.out,Lj Y,Mw,hltw];exact decide_eq_decide.2 (by omega)
   have kwr:IntKind.i64.wrap ((ns:Int)+wt)=(ns:Int)+wt:=La _ (by omega)
   obtain ⟨bz,hbz⟩:∃bz,decide ((C.W:Int)<(ns:Int)+wt)=bz:=⟨_,rfl⟩
   rw [hbz] at HR4
   have HS4:Hid (∀V,PY w4 V->V.cell? ⟨w.heap.size,0,none⟩=some (cG P)/\V.cell? ⟨w.heap.size,1,none⟩=some (cG M)/\V.cell? ⟨w.heap.size,2,none⟩=some (.slice am r cm)/\V.cell? ⟨w.heap.size,3,none⟩=some (cG m)/\V.cell? ⟨w.heap.size,4,none⟩=some (.slice a n c) /\
     V.cell? ⟨w.heap.size,6,none⟩=some (cG C.W)/\V.cell? ⟨w.heap.size,7,none⟩=some (.slice ay m cy)/\PY w4 V):=λV K=>by obtain ⟨q0,q1,q2,q3,q4,q5,q6,q7,q8⟩:=HS V (Pm hb14 K);rw [Hny.out] at q7;exact ⟨q0,q1,q2,q3,q4,q6,q7,K⟩
   have HVn3:Hid (∀V,PY w4 V->Calls prog 237 #[.agg #[cG P,cG M,.slice am r cm,cG m,.slice a n c],.slice ay m cy,.slice H k ct] V λe w' =>
     ∃a1 c1,e = .returned (.slice a1 m c1)/\Ints w' a1 m z/\PY V w'):=λV K=>HVn2 V (Pm hbF4 K)
   have HbF4:=Z5 hbF4
   clear c0 c1 c2 c3 c4 c5 c6 c7 c8 Y hltw HVn2 HLt2 HR3 HS
   obtain ⟨c0,c1,c2,c3,c4,c6,c7,_⟩:=HS4 w4 (KU _ _)
   go_upto_region 15 with fail
   go_region_held3 (λV=>V.cell? ⟨w.heap.size,0,none⟩=some (cG P)/\V.cell? ⟨w.heap.size,1,none⟩=some (cG M)/\V.cell? ⟨w.heap.size,2,none⟩=some (.slice am r cm)/\V.cell? ⟨w.heap.size,3,none⟩=some (cG m)/\V.cell? ⟨w.heap.size,4,none⟩=some (.slice a n c) /\
     V.cell? ⟨w.heap.size,6,none⟩=some (cG C.W)/\V.cell? ⟨w.heap.size,7,none⟩=some (.slice ay m cy)/\PY w4 V)
    ((refine HS4 _ ?_;first | exact hb9w | exact hb7w | exact hb5w | exact (KU _ _).drew | assumption | (go_split_ands;assumption)))
    (first
     | (go_at_call 237;((with_reducible refine (HVn3.out _ (by go_split_ands;assumption)).mono ?_);rintro e w5 ⟨a5,k5,rfl,hI5,hb5⟩;have hb5w:PY w4 w5:=(by go_split_ands;exact Pm (by assumption) hb5)))
     | (go_at_call 59;((with_reducible refine (HPi.out _ a5 k5 X co hI5 (HIo.out.af hb5w)).mono ?_);rintro e w7 ⟨a7,k7,rfl,hI7,hb7⟩;have hb7w:PY w4 w7:=(by go_split_ands;exact Pm hb5w hb7)))
     | (go_at_call 41;((with_reducible refine (HWt.out _ a7 k7 hI7).mono ?_);rintro e w9 ⟨rfl,rfl⟩;have hb9w:=hb7w)))
   all_goals (
    have hF:=Pm HbF4.out hb7w
    clear hI5 hI7
    go_wp2_with fail
    go_ret
    exact ⟨by rw [HR4.out];rfl,hF⟩)
theorem A2 {P M:Int} {am:OA} {O cm:Nat} {mod:LI} {m:Nat} {a:OA} {n c:Nat} {L:Ll} {X:OA} {cy:Nat} {C:js} {Y:World}
  (Z:Ints Y am O mod) (hi:bw Y a n L) (F:aI P M mod m L=0) (D:C.cos=true) (K:Ints Y X m C.y) (Q:Vc (ah P M.toNat mod).El m C.y):Fl P M am O cm mod m a n c L X m cy C Y:=λV A ns cs s N E ct t U S H G =>
 tz P M am O cm mod m a n c L X m cy C A ns cs s N E ct t V (Z.af S) (hi.af S) F D rfl (K.af S) Q U H G
theorem Below.nx {B:Nat} {W V V':World} (h:Below B W V) (Z:B<=W.heap.size) (hb:PY V V'):Below B W V':=h.trans (hb.mono (K9 Z h.size))
theorem qU {X:World} (i:Int):Ints (X.alloc (.cells #[cG i] 3)) (some ⟨X.heap.size,0,none⟩) 1 [i] :=
 ⟨rfl,λ_=>rfl,by unfold maxLen;omega,λj Z=>by obtain rfl:j=0:=(by omega);exact aF X #[cG i] 3 rfl 0⟩
theorem Bn {X Z:World} {i:Int} (hb:Below (X.alloc (.cells #[cG i] 3)).heap.size (X.alloc (.cells #[cG i] 3)) Z):Ints Z (some ⟨X.heap.size,0,none⟩) 1 [i]:=(qU i).af hb
theorem Ey {X Z:World} {i:Int} (hb:Below (X.alloc (.cells #[cG i] 3)).drew.heap.size (X.alloc (.cells #[cG i] 3)).drew Z):Ints Z (some ⟨X.heap.size,0,none⟩) 1 [i]:=(qU i).af (Pm (KU _ _).drew hb)
def vi (P M:Int) (mod:LI) (m:Nat) (K:Ll) (w:World) (e:Ending) (w':World):Prop :=
 ∃a1 c1 a2 c2,e = .returned (.agg #[cG P,cG M,.slice a1 mod.length c1,cG m,.slice a2 K.length c2])/\Ints w' a1 mod.length mod/\bw w' a2 K.length K/\PY w w'
section
variable {m:Nat}
theorem EE {t:LI} (X:KL 0 m t):frTo false (frTo false t m) m=t:=by
 refine Cz (mh false _ m) X.1 λv=>?_;rw [ef];constructor
 ·rintro ⟨j,Z,rfl,h⟩;rw [decide_eq_false_iff_not] at h;refine Lr λU=>h ((ef m).2 ⟨j,Z,rfl,by simpa using U⟩)
 ·intro Y;have h1:=X.2 v Y;refine ⟨v.toNat,by omega,by omega,?_⟩;rw [decide_eq_false_iff_not];intro h2;obtain ⟨j,Z,e,h3⟩:=(ef m).1 h2;rw [decide_eq_false_iff_not] at h3;refine h3 ?_;have:(j:Int)=v:=by omega
  rw [this];exact Y
end
theorem FL {P M:Int} {mod:LI} {m:Nat} {L:Ll} (X:aI P M mod m L=0) {i:Nat} (hi:i<m) :
  Bm (ah P M.toNat mod) m (aU (ah P M.toNat mod) L m) (frTo false [(i:Int)] m)=da P M mod m L i:=by
 obtain ⟨S,e,U,Z,F,Y⟩:=aZ X;obtain rfl:m=S:=by omega
 have e1:aU (ah P M.toNat mod) L m=gG (ah P M.toNat mod).ops m L:=by unfold aU gG bq;rfl
 rw [IB,e1,Ij,EE (t:=[(i:Int)]) (by simp [KL];omega),Fx F Y hi]
theorem Dh {P M:Int} {mod:LI} {m:Nat} {L:Ll} (Z:aI P M mod m L=0) {i:Nat} :
  bZ (ah P M.toNat mod) (da P M mod m L i) m=da P M mod m L i/\aI P M mod m (da P M mod m L i)=0:=by have h:=(rX Z i).2.2.2;exact ⟨tk h,(gS h).1⟩
theorem AI (P M:Int) (am:OA) (A cm:Nat) (mod:LI) (m:Nat) (a:OA) (n c:Nat) (L:Ll) (i:Nat) (w:World) (H:Ints w am A mod) (hi:bw w a n L) (hE:aI P M mod m L=0) (him:i<m) :
  Calls prog 78 #[.agg #[cG P,cG M,.slice am A cm,cG m,.slice a n c],cG i] w (vi P M mod m (da P M mod m L i) w):=by
 obtain ⟨N',e,hm1,hm64,F,hR⟩:=aZ hE;obtain rfl:m=N':=by omega
 have hB:=(aL hE).1;have hmn:A<=8:=by have:=jH hB;rw [<- H.len];exact this
 have hRd:bt (ah P M.toNat mod).El m (aU (ah P M.toNat mod) L m):=by
  obtain ⟨N',e,_,_,_,hR'⟩:=aZ (gS hE).1;obtain rfl:m=N':=by omega
  exact hR'
 have hle:=B6 hE;obtain ⟨hvc,hvE⟩:=Dh hE (i:=i);have hRv:bt (ah P M.toNat mod).El m (da P M mod m L i):=by
  obtain ⟨N',e,_,_,_,hR'⟩:=aZ hvE;obtain rfl:m=N':=by omega
  exact hR'
 have hvl:(da P M mod m L i).length<=m:=j6 hvE;have hvw:=FL hE him;have HPa:Hid (∀V,PY w V->Calls prog 99 #[.agg #[cG P,cG M,.slice am A cm,cG m,.slice a n c]] V λe w'=>∃a1 k1,e = .returned (.slice a1 (aU (ah P M.toNat mod) L m).length k1)/\bw w' a1 (aU (ah P M.toNat mod) L m).length (aU (ah P M.toNat mod) L m)/\PY V w'):=λV N=>by refine (mO P M am A cm mod m a n c L V (H.af N) (hi.af N) hE).mono ?_;rintro e w' ⟨a1,k1,R,rfl,hO,hb⟩;exact ⟨a1,k1,rfl,hO.iZ,hb⟩
 have HOt:Hid (∀V a1 c1,Ints V a1 1 [(i:Int)]->Calls prog 132 #[.slice a1 1 c1,cG m] V λe w'=>∃a2 c2,e = .returned (.slice a2 (frTo false [(i:Int)] m).length c2)/\Ints w' a2 (frTo false [(i:Int)] m).length (frTo false [(i:Int)] m)/\PY V w'):=λV a1 c1 h=>by refine (gX a1 1 c1 [(i:Int)] m V h (by omega)).mono ?_;rintro e w' ⟨a2,c2,rfl,h1,h2⟩;exact ⟨a2,c2,rfl,(Pn h1).1,h2⟩
 have G:Hid (∀V a1 k1 a2 k2,PY w V->bw V a1 (aU (ah P M.toNat mod) L m).length (aU (ah P M.toNat mod) L m)->Ints V a2 (frTo false [(i:Int)] m).length (frTo false [(i:Int)] m)->Calls prog 131 #[.agg #[cG P,cG M,.slice am A cm],.slice a1 (aU (ah P M.toNat mod) L m).length k1,cG m,.slice a2 (frTo false [(i:Int)] m).length k2] V λe w' =>
   ∃a3 k3,e = .returned (.slice a3 (da P M mod m L i).length k3)/\bw w' a3 (da P M mod m L i).length (da P M mod m L i)/\PY V w'):=λV a1 k1 a2 k2 N h1 h2=>by have h:=zI P M am A cm mod m a1 _ k1 _ a2 _ k2 _ V (H.af N) h1 h2 hB hRd (by omega) (by omega);unfold wX at h;rw [hvw] at h;refine h.mono ?_;rintro e w' ⟨a3,k3,R,rfl,hO,hb⟩;exact ⟨a3,k3,rfl,hO.iZ,hb⟩
 have HMk:Hid (∀V a1 k1,PY w V->bw V a1 (da P M mod m L i).length (da P M mod m L i)->Calls prog 72 #[.agg #[cG P,cG M,.slice am A cm],.slice a1 (da P M mod m L i).length k1,cG m] V λe w' =>
   ∃a2 c2 a3 c3,e = .returned (.agg #[cG P,cG M,.slice a2 mod.length c2,cG m,.slice a3 (da P M mod m L i).length c3])/\bL V.heap.size w' a2 mod.length mod/\cF V.heap.size w' a3 (da P M mod m L i).length (da P M mod m L i)/\PY V w'):=λV a1 k1 N hM=>by have h:=pV P M am A cm mod m a1 _ k1 (da P M mod m L i) V (H.af N) hM hB hRv (by omega) (by omega) (by omega);unfold oE at h;rw [hvc] at h;exact h
 have O:Hid (∀a1 c1 a2 c2 w',Ints w' a1 mod.length mod->bw w' a2 (da P M mod m L i).length (da P M mod m L i)->PY w w'->vi P M mod m (da P M mod m L i) w (.returned (.agg #[cG P,cG M,.slice a1 mod.length c1,cG m,.slice a2 (da P M mod m L i).length c2])) w'):=λa1 c1 a2 c2 w' h1 h2 h3=>⟨a1,c1,a2,c2,rfl,h1,h2,h3⟩
 generalize vi P M mod m (da P M mod m L i) w=Post at *;obtain ⟨nm,hnm⟩:∃nm,mod.length=nm:=⟨_,rfl⟩
 obtain ⟨K,hK⟩:∃K,da P M mod m L i=K:=⟨_,rfl⟩
 obtain ⟨D,hD⟩:∃D,aU (ah P M.toNat mod) L m=D:=⟨_,rfl⟩
 obtain ⟨S,hS⟩:∃S,frTo false [(i:Int)] m=S:=⟨_,rfl⟩
 rw [hnm] at HMk O;rw [hK] at G HMk O;rw [hD] at HPa G;rw [hS] at HOt G;obtain ⟨nk,hnk⟩:∃nk,K.length=nk:=⟨_,rfl⟩
 obtain ⟨nd,hnd⟩:∃nd,D.length=nd:=⟨_,rfl⟩
 obtain ⟨ns,hns⟩:∃ns,S.length=ns:=⟨_,rfl⟩
 rw [hnk] at G HMk O;rw [hnd] at HPa G;rw [hns] at HOt G;clear hnm hK hD hS hnk hnd hns H hi hE him F hR hB hmn hRd hle hvc hvE hRv hvl hvw e hm1 hm64;go_enter func78,ntmps78;go_upto_region 1 with fail;obtain ⟨W,hW⟩:∃W:World,W=((w.alloc (.cells #[cG P,cG M,.slice am A cm,cG m,.slice a n c] 27)).alloc (.cells #[cG 0,cG 0,ds,cG 0,ds] 27)):=⟨_,rfl⟩
 rw [<- hW];have hbW:PY w W:=by rw [hW];exact bY _ _ _
 have x0:aQ W w.heap.size [cG P,cG M,.slice am A cm,cG m,.slice a n c]:=by rw [hW];exact (Po _ _ _ rfl).alloc _
 have z0:aQ W (w.heap.size+1) [cG 0,cG 0,ds,cG 0,ds]:=by rw [hW];exact Po _ _ _ (by simp)
 have hsW:W.heap.size=w.heap.size+2:=by rw [hW];simp
 clear hW;have HX:=Z5 (K3 x0 z0);have HbW:=Z5 hbW;have HsW:=Z5 hsW;have z:w.heap.size+1<=W.heap.size:=by omega
 have HS5:Hid (∀V,Below (w.heap.size+1) W V->V.cell? ⟨w.heap.size,0,none⟩=some (cG P)/\V.cell? ⟨w.heap.size,1,none⟩=some (cG M)/\V.cell? ⟨w.heap.size,2,none⟩=some (.slice am A cm)/\V.cell? ⟨w.heap.size,3,none⟩=some (cG m)/\V.cell? ⟨w.heap.size,4,none⟩=some (.slice a n c)/\Below (w.heap.size+1) W V):=λV N =>
  ⟨(N.cell (p:=⟨w.heap.size,0,none⟩) (by simp)).trans (x0.cell 0 rfl),(N.cell (p:=⟨w.heap.size,1,none⟩) (by simp)).trans (x0.cell 1 rfl),(N.cell (p:=⟨w.heap.size,2,none⟩) (by simp)).trans (x0.cell 2 rfl),(N.cell (p:=⟨w.heap.size,3,none⟩) (by simp)).trans (x0.cell 3 rfl),(N.cell (p:=⟨w.heap.size,4,none⟩) (by simp)).trans (x0.cell 4 rfl),N⟩
 have HSt:Hid (∀V y0 y1 y2 y3 y4,Below (w.heap.size+1) W V->Below (w.heap.size+1) W (((((V.setCell ⟨w.heap.size+1,0,none⟩ y0).setCell ⟨w.heap.size+1,1,none⟩ y1).setCell ⟨w.heap.size+1,2,none⟩ y2).setCell ⟨w.heap.size+1,3,none⟩ y3).setCell ⟨w.heap.size+1,4,none⟩ y4)):=λV y0 y1 y2 y3 y4 N =>
  ((((N.setCell (by simp) _).setCell (by simp) _).setCell (by simp) _).setCell (by simp) _).setCell (by simp) _
 have Z:=Z5 z0;have Hst:=Z5 (λ(V:World) (N:Below (w.heap.size+1) W V)=>L5 HbW.out (N.mono (Nat.le_succ _)):∀V,Below (w.heap.size+1) W V->PY w V);have hb0:Below (w.heap.size+1) W W:=KU _ _;clear x0 z0 hbW hsW;obtain ⟨c0,c1,c2,c3,c4,_⟩:=HS5 W hb0;go_region_held3 (λV=>V.cell? ⟨w.heap.size,0,none⟩=some (cG P)/\V.cell? ⟨w.heap.size,1,none⟩=some (cG M)/\V.cell? ⟨w.heap.size,2,none⟩=some (.slice am A cm)/\V.cell? ⟨w.heap.size,3,none⟩=some (cG m)/\V.cell? ⟨w.heap.size,4,none⟩=some (.slice a n c)/\Below (w.heap.size+1) W V)
  ((with_reducible refine HS5.out _ ?_;first | (with_reducible exact HSt.out _ _ _ _ _ _ (by go_split_ands;assumption)) | (with_reducible exact hb0.drew) | (with_reducible assumption) | (go_split_ands;first | (with_reducible assumption) | (with_reducible exact Below.nx (by assumption) z (an _ _)) | (with_reducible exact (Below.nx (by assumption) z (an _ _)).drew) | (with_reducible exact Below.drew (by assumption)))))
  (first
   | (go_at_call 99;((with_reducible refine (HPa.out _ (by go_split_ands;exact Hst.out _ (by assumption))).mono ?_);rintro e w2 ⟨a2,k2,rfl,hM2,U⟩;have hB2:Below (w.heap.size+1) W w2:=(by go_split_ands;exact Below.nx (by assumption) z U);have Y:=Z5 hM2;clear hM2;(first | (have Z:=Z5 (Z.out.af U)) | (have Z:=Z5 (Z.out.af (Pm (an _ _) U))) | (have Z:=Z5 (Z.out.af (Pm (Pm (KU _ _).drew (an _ _)) U))) | (have Z:=Z5 (Z.out.af (Pm (an _ _).drew U))) | (have Z:=Z5 (Z.out.af (Pm (KU _ _).drew U))) | (have Z:=Z5 (Z.out.af (Pm (Pm (KU _ _).drew (an _ _)).drew U))) | skip);(first | (have HI:=Z5 (Ey U)) | (have HI:=Z5 (Bn U)) | (have C:=Z5 (C.out.af U)) | (have C:=Z5 (C.out.af (Pm (KU _ _).drew U))) | skip)))
   | (go_at_call 132;((with_reducible refine (HOt.out _ _ _ (by first | exact HI.out | exact HI.out.af (KU _ _).drew | exact qU _ | exact (qU _).af (KU _ _).drew)).mono ?_);rintro e w3 ⟨a3,k3,rfl,hO3,X⟩;have hB3:Below (w.heap.size+1) W w3:=(by go_split_ands;exact Below.nx (by assumption) z X);have C:=Z5 hO3;clear hO3;(first | (have Z:=Z5 (Z.out.af X)) | (have Z:=Z5 (Z.out.af (Pm (an _ _) X))) | (have Z:=Z5 (Z.out.af (Pm (Pm (KU _ _).drew (an _ _)) X))) | (have Z:=Z5 (Z.out.af (Pm (an _ _).drew X))) | (have Z:=Z5 (Z.out.af (Pm (KU _ _).drew X))) | (have Z:=Z5 (Z.out.af (Pm (Pm (KU _ _).drew (an _ _)).drew X))) | skip);(first | (have Y:=Z5 (Y.out.af X)) | (have Y:=Z5 (Y.out.af (Pm (an _ _) X))) | (have Y:=Z5 (Y.out.af (Pm (Pm (KU _ _).drew (an _ _)) X))) | (have Y:=Z5 (Y.out.af (Pm (an _ _).drew X))) | (have Y:=Z5 (Y.out.af (Pm (KU _ _).drew X))) | (have Y:=Z5 (Y.out.af (Pm (Pm (KU _ _).drew (an _ _)).drew X))) | skip)))
   | (go_at_call 131;((with_reducible refine (G.out _ _ _ _ _ (by go_split_ands;exact Hst.out _ (by assumption)) (by first | exact Y.out | exact Y.out.af (KU _ _).drew) (by first | exact C.out | exact C.out.af (KU _ _).drew)).mono ?_);rintro e w4 ⟨a4,k4,rfl,hK4,hb4⟩;have hB4:Below (w.heap.size+1) W w4:=(by go_split_ands;exact Below.nx (by assumption) z hb4);have HK4:=Z5 hK4;clear hK4;(first | (have Z:=Z5 (Z.out.af hb4)) | (have Z:=Z5 (Z.out.af (Pm (an _ _) hb4))) | (have Z:=Z5 (Z.out.af (Pm (Pm (KU _ _).drew (an _ _)) hb4))) | (have Z:=Z5 (Z.out.af (Pm (an _ _).drew hb4))) | (have Z:=Z5 (Z.out.af (Pm (KU _ _).drew hb4))) | (have Z:=Z5 (Z.out.af (Pm (Pm (KU _ _).drew (an _ _)).drew hb4))) | skip)))
   | (go_at_call 72;((with_reducible refine (HMk.out _ _ _ (by go_split_ands;exact Hst.out _ (by assumption)) (by first | exact HK4.out | exact HK4.out.af (KU _ _).drew)).mono ?_);rintro e w5 ⟨a5,k5,a6,k6,rfl,r,j,E⟩;have hB5:Below (w.heap.size+1) W w5:=(by go_split_ands;exact Below.nx (by assumption) z E);have hs5:W.heap.size<=w4.heap.size:=hB4.size;(first | (have Z:=Z5 (Z.out.af E)) | (have Z:=Z5 (Z.out.af (Pm (an _ _) E))) | (have Z:=Z5 (Z.out.af (Pm (Pm (KU _ _).drew (an _ _)) E))) | (have Z:=Z5 (Z.out.af (Pm (an _ _).drew E))) | (have Z:=Z5 (Z.out.af (Pm (KU _ _).drew E))) | (have Z:=Z5 (Z.out.af (Pm (Pm (KU _ _).drew (an _ _)).drew E))) | skip);have HF5:=Z5 (K3 r (K3 j (K3 hB5 hs5)));clear r j;have z0:=Z.out.cell 0 rfl;have z1:=Z.out.cell 1 rfl;have z2:=Z.out.cell 2 rfl;have z3:=Z.out.cell 3 rfl;have z4:=Z.out.cell 4 rfl;have f0:=Z.out.frozen 0;have f1:=Z.out.frozen 1;have f2:=Z.out.frozen 2;have f3:=Z.out.frozen 3;have f4:=Z.out.frozen 4)))
 all_goals (
  obtain ⟨r,j,hBl,hs6⟩:=HF5.out
  have hsW:=HsW.out
  have Q:w.heap.size+1<w4.heap.size:=by omega
  have zz:=(((((Z.setCell 0 (cG P)).setCell 1 (cG M)).setCell 2 (.slice a5 nm k5)).setCell 3 (cG m)).setCell 4 (.slice a6 nk k6))
  have y0:=zz.cell 0 rfl
  have y1:=zz.cell 1 rfl
  have y2:=zz.cell 2 rfl
  have y3:=zz.cell 3 rfl
  have y4:=zz.cell 4 rfl
  have hb9:=L5 HbW.out ((HSt w5 (cG P) (cG M) (.slice a5 nm k5) (cG m) (.slice a6 nk k6) hBl).mono (Nat.le_succ _))
  have HF:=Z5 (O a5 k5 a6 k6 (((((w5.setCell ⟨w.heap.size+1,0,none⟩ (cG P)).setCell ⟨w.heap.size+1,1,none⟩ (cG M)).setCell ⟨w.heap.size+1,2,none⟩ (.slice a5 nm k5)).setCell ⟨w.heap.size+1,3,none⟩ (cG m)).setCell ⟨w.heap.size+1,4,none⟩ (.slice a6 nk k6)) (((((r.setCell (p:=⟨w.heap.size+1,0,none⟩) Q (cG P)).setCell (p:=⟨w.heap.size+1,1,none⟩) Q (cG M)).setCell (p:=⟨w.heap.size+1,2,none⟩) Q (.slice a5 nm k5)).setCell (p:=⟨w.heap.size+1,3,none⟩) Q (cG m)).setCell (p:=⟨w.heap.size+1,4,none⟩) Q (.slice a6 nk k6)).ints (((((j.setCell (p:=⟨w.heap.size+1,0,none⟩) Q (cG P)).setCell (p:=⟨w.heap.size+1,1,none⟩) Q (cG M)).setCell (p:=⟨w.heap.size+1,2,none⟩) Q (.slice a5 nm k5)).setCell (p:=⟨w.heap.size+1,3,none⟩) Q (cG m)).setCell (p:=⟨w.heap.size+1,4,none⟩) Q (.slice a6 nk k6)).iZ hb9)
  clear zz hb9 r j hBl
  go_wp2_with fail
  exact bodyPost_ret (v:=.agg #[cG P,cG M,.slice a5 nm k5,cG m,.slice a6 nk k6]) (by simp [results,results78,go_sem,y0,y1,y2,y3,y4]) rfl HF.out)
structure KS (B:Nat) (V:World) (a1:OA) (c1:Nat) (l1:LI) (a2:OA) (c2:Nat) (l2:LI):Prop where
 o1:V.ownsRow B 3 1 (.slice a1 l1.length c1) l1.length (l1.map (Value.int .i64))
 o2:V.ownsRow B 3 1 (.slice a2 l2.length c2) l2.length (l2.map (Value.int .i64))
 st:a1=none\/a2=none\/ablk a1 ≠ ablk a2
section
variable {B:Nat} {V V' w5:World} {a1 a2 a5:OA} {c1 c2 c5:Nat} {l1 l2:LI} {o:Obj} {x:Int}
end
section
open Go.RowKit
end
section
open Go.RowKit
end
def mX (Z:World) (xs:List Value) (A:Ll):Prop:=(∀j,j<xs.length->∃b m c,xs[j]? = some (.slice b m c)/\Ints Z b m (ai A j))/\xs.length<=A.length
theorem mX.push {Z:World} {xs:List Value} {A:Ll} (h:mX Z xs A) {b:OA} {m c:Nat} (hi:Ints Z b m (ai A xs.length)) (X:xs.length<A.length):mX Z (xs ++ [.slice b m c]) A:=by
 refine ⟨λj Y=>?_,by rw [K6];exact X⟩;by_cases e:j=xs.length
 ·subst e;exact ⟨b,m,c,by rw [Nd],hi⟩
 ·rw [Lg (by simp at Y;omega)];exact h.1 j (by simp at Y;omega)
theorem mX.iZ {Y V:World} {xs:List Value} {A:Ll} {B n:Nat} {a:OA} {c:Nat} (h:mX Y xs A) (Z:V.ownsRow B 22 1 (.slice a n c) n xs) (Q:A.length=n) (O:xs.length=n) (hb:PY Y V) (hm:n<=maxLen):bw V a n A:=by
 obtain ⟨a',N,X,U⟩:=PG Z;cases X
 refine ⟨Q,U,hm,λj S=>?_⟩;obtain ⟨b,m,c2,h1,h2⟩:=h.1 j (by omega);exact ⟨b,m,c2,by rw [(bH Z j S).1];exact h1,h2.af hb⟩
theorem vW (P M:Int) (am:OA) (mn cm:Nat) (mod:LI) (N:Int) (a:OA) (n c:Nat) (L:Ll) (w:World) (hmod:Ints w am mn mod) (hi:bw w a n L) :
  Calls prog 62 #[.agg #[cG P,cG M,.slice am mn cm,cG N,.slice a n c]] w (oQ (fy P M mod N L) (bW P M mod N.toNat L) w):=by
 have HD:Hid (∀V,PY w V->Calls prog 49 #[.agg #[cG P,cG M,.slice am mn cm,cG N,.slice a n c]] V (pC (AB P M mod N L) (oD P M mod N.toNat L) V)):=λV hV=>xk P M am mn cm mod N a n c L V (hmod.af hV) (hi.af hV);have HN:Hid (AB P M mod N L=0->∃m:Nat,N=m/\m<=64):=λh=>by
  rw [AB] at h;split at h
  ·rename_i E;obtain ⟨m,e,_,U,_⟩:=aZ E;exact ⟨m,e,U⟩
  ·rename_i E;exact absurd h E
 have HH:Hid (AB P M mod N L=0->∀(k:Nat) (V0 V:World) (aW:OA) (nW cW:Nat),k<N.toNat->bw V0 aW nW (oD P M mod N.toNat L)->PY V0 V->Calls prog 50 #[.slice aW nW cW,cG k] V λe w'=>PY V w'/\∃ar nr cr,e = .returned (.slice ar nr cr)/\lE V0 ar nr (ai (bW P M mod N.toNat L) k)):=λh k V0 V aW nW cW hk hW hV=>by
  rw [AB] at h;split at h
  ·rename_i E;obtain ⟨m,rfl,_,U,_⟩:=aZ E;rw [KV] at hk hW ⊢;rw [lX hk];have h:=Ay aW nW cW (oD P M mod m L) m k V0 V hW hV (λr hr=>((pJ E).1 hr).1.1) hk U;have e:gE P M mod m L (k:Nat)=bstL m (k:Nat) (oD P M mod m L) nW:=by rw [gE,hW.len]
   rw [e];exact h
  ·rename_i E;exact absurd h E
 have X:Hid ((bW P M mod N.toNat L).length=N.toNat):=by show _=_;rw [bW,Lc,Ma]
 have HE:Hid (fy P M mod N L=if AB P M mod N L=0 then (if [] ∈ bW P M mod N.toNat L then 11 else 0) else AB P M mod N L):=by
  show _=_;unfold fy AB;by_cases h:aI P M mod N L=0
  ·simp only [KX h]
  ·simp only [KY h]
 unfold pC at HD;generalize fy P M mod N L=er at *;generalize bW P M mod N.toNat L=A at *;generalize AB P M mod N L=de at *;generalize oD P M mod N.toNat L=Dw at *;clear hmod hi;go_enter func62,ntmps62;go_upto_region 1 with fail;obtain ⟨W,hW⟩:∃W:World,W=w.alloc (.cells #[cG P,cG M,.slice am mn cm,cG N,.slice a n c] 27):=⟨_,rfl⟩
 rw [<- hW];have hbW:PY w W:=by rw [hW];exact an _ _
 have x0:aQ W w.heap.size [cG P,cG M,.slice am mn cm,cG N,.slice a n c]:=by rw [hW];exact Po _ _ _ rfl
 have HX:=Z5 x0;have HbW:=Z5 hbW;have c0:=x0.cell 0 rfl;have c1:=x0.cell 1 rfl;have c2:=x0.cell 2 rfl;have c3:=x0.cell 3 rfl;have c4:=x0.cell 4 rfl;clear hW x0 hbW;go_wp2_with fail;refine (HD W HbW.out).mono ?_;rintro e D ⟨hb1,⟨h1,rfl⟩ | ⟨h1,aW,nW,cW,rfl,hM⟩⟩
 ·have O:=Pm HbW.out hb1;have d1:(de != 0)=true:=by simpa using h1
  have HR:Hid (er=de):=by show _=_;rw [HE.out,KY h1]
  have H1:=Z5 h1;clear c0 c1 c2 c3 c4 h1 HN HH;go_wp2_with fail;go_ret2;exact ⟨O,.inl ⟨by rw [HR.out];exact H1.out,by rw [HR.out] <;> rfl⟩⟩
 have O:=Pm HbW.out hb1;have HR:Hid (er=if [] ∈ A then 11 else 0):=by show _=_;rw [HE.out,KX h1]
 obtain ⟨m,rfl,U⟩:=HN h1;have HH1:=Z5 (λk V (hk:k<((m:Int)).toNat) (hV:PY D V)=>HH h1 k D V aW nW cW hk hM hV);rw [KV] at HH1 X;have d1:(de != 0)=false:=by simp [h1]
 have heq:=λ(w:World) (a:OA) (l c:Nat)=>Go.run_eql_slice_nil (P:=prog) w 22 3 a l c underlying22;clear c0 c1 c2 c3 c4 h1 hM HE HN HH HD;go_wp2_with fail;go_loopw [6,7] (λsv iv wr=>∃(k:Nat) (a1:OA) (c1:Nat) (xs:List Value),k<=m/\iv = cG k/\sv = .slice a1 k c1/\wr.ownsRow D.heap.size 22 1 (.slice a1 k c1) k xs/\Hid (xs.length=k)/\Hid (mX D xs A)/\PY D wr/\Hid (∀j,j<k->ai A j ≠ [])) (λ_ iv _=>m - (intOf iv).toNat);case atStart=>exact ⟨0,none,0,[],K0 _,rfl,rfl,cU,rfl,⟨λj hj=>by simp at hj,K0 _⟩,KU _ _,λj hj=>by omega⟩
 case round =>
  obtain ⟨k,a1,k1,xs,hk,rfl,rfl,Z,K,Hxs,Y,hne⟩:=hrel
  generalize wr=V at *
  have x2:=HX.af (Pm hb1 Y)
  have c3:=x2.cell 3 rfl
  clear x2
  by_cases hlt:k<m
  ·have Hh:=Z5 (HH1 k V hlt Y)
   have G:k<A.length:=by rw [X.out];exact hlt
   have C:Hid (ai A k ∈ A):=by show _ ∈ _;rw [aE G];exact Ly G
   have z:Hid (ai A k ≠ []->∀j,j<k+1->ai A j ≠ []):=λh j hj=>by
    by_cases e:j=k
    ·subst e;exact h
    ·exact hne j (by omega)
   have HkA:=Z5 G
   obtain ⟨x,hx⟩:∃x,ai A k=x:=⟨_,rfl⟩
   rw [hx] at Hh C z
   have Hx:=Z5 hx
   have hsz:=Y.size
   have hF3:=Pm O Y
   clear hx G hne
   go_wp2_with fail
   refine Hh.mono ?_
   rintro e w3 ⟨H,ar,nr,cr,rfl,S⟩
   have hF4:=Pm hF3 H
   by_cases h0:x=[]
   ·have hin:ar.isNone=true:=by rw [S.2];exact Lj h0
    have F:Hid (er=11):=by show _=_;rw [HR.out,KX (by rw [<- h0];exact C)]
    clear h0 S Z
    go_wp2_with fail
    go_ret2
    exact ⟨hF4,.inl ⟨by rw [F.out];decide,by rw [F.out] <;> rfl⟩⟩
   have hin:ar.isNone=false:=by rw [S.2];exact Lp h0
   have Hn2:=Z5 (z h0)
   have Hxq:=Z5 S.1
   have hbn:=an w3 (.cells #[.slice ar nr cr] 22)
   have Q:=bf Z (Pm H hbn)
   have hs4:D.heap.size<=(w3.alloc (.cells #[.slice ar nr cr] 22)).heap.size:=by have h1:=H.size;simp;omega
   clear h0 S Z Hh
   go_wp2_with (at_builtin;refine aS rfl _ _ 25 22 rfl ds 24 underlying25 dw rfl D.heap.size a1 k k1 xs rfl Q ⟨w3.heap.size,0,none⟩ 1 (.slice ar nr cr) rfl (bm w3 _ _) rfl (by omega) (by unfold maxLen;omega) hs4 ?_;intro a5 c5 w5 hown5 hgr5 hap5)
   go_roundw
   case rel =>
    have hP:mX D (xs ++ [.slice ar nr cr]) A:=Hxs.push (by rw [K.out,Hx.out];exact Hxq) (by rw [K.out];exact HkA)
    exact ⟨k+1,a5,c5,_,by omega,by go_num,rfl,hown5,by show _=_;rw [K6,K.out];rfl,hP,Pp (Pm Y (Pm H hbn)) Q hgr5 (KT _) hs4,Hn2⟩
   case measure=>simp [intOf] <;> omega
  ·obtain rfl:k=m:=by omega
   have F:Hid (er=0):=by show _=_;rw [HR.out,KY];intro h;obtain ⟨j,hj,hj2⟩:=fZ h;exact hne j (by rw [<- X.out];exact hj) hj2
   have hF:=Pm O Y
   have HO:=Z5 (Hxs.iZ Z X.out K.out Y (by unfold maxLen;omega))
   have HO2:Hid (0<k->w.heap.size<=ablk a1):=λh0=>K9 O.size (dR Z h0).1
   clear Z
   go_wp2_with fail
   go_ret2
   exact ⟨hF,.inr ⟨F,a1,k1,by rw [X.out] <;> rfl,by rw [X.out];exact HO.out,by rw [X.out];exact HO2⟩⟩
theorem nB (P M:Int) (am:OA) (D cm:Nat) (mod:LI) (N:Int) (a:OA) (n c:Nat) (L:Ll) (ay:OA) (H cy:Nat) (y:LI) (W:Int) (w:World)
  (X:Ints w am D mod) (hi:bw w a n L) (hy:Ints w ay H y) :
  Calls prog 77 #[.agg #[cG P,cG M,.slice am D cm,cG N,.slice a n c],.slice ay H cy,cG W] w (j4 (gM P M mod N L y W) w):=by
 obtain ⟨S,E⟩:∃S,gM P M mod N L y W=S:=⟨_,rfl⟩
 have j:Hid (ew P M mod N L y W=0->∀V,PY w V->Calls prog 130 #[.agg #[cG P,cG M,.slice am D cm,cG N,.slice a n c,cG 0,cG W,.slice ay H cy,.bool true],ds,ds,ds] V
   λe w'=>∃Q K O,e = .returned (.tuple #[.slice Q K O,cG S.1])/\PY V w'/\((S.1 ≠ 0/\Q=none/\K=0/\O=0)\/(S.1=0/\K=S.2.length/\∃R,aO w' V.heap.size Q S.2.length O R S.2))):=λh V F=>by
  obtain ⟨m,rfl⟩:∃m:Nat,N=m:=by
   refine Lr λhn=>?_;unfold ew at h;by_cases Z:aI P M mod N L=0
   ·obtain ⟨m,hm,_⟩:=di Z;exact hn ⟨m,hm⟩
   ·rw [KY Z] at h;exact Z h
  obtain ⟨Z,hyv,_,h3,h4⟩:=Dr h;obtain ⟨_,h1,h2,_⟩:=aL Z;obtain rfl:H=m:=by rw [<- hy.len];exact hyv.1
  have h7:=oR P M am D cm mod H a n c L ay H cy ⟨0,W.toNat,true,y⟩ V (X.af F) (hi.af F) Z true rfl (Z5 (A2 (X.af F) (hi.af F) Z rfl (hy.af F) hyv)) (by show W.toNat<=64;omega) (by omega)
   W.toNat V ⟨none,0,[],[]⟩ none 0 0 [] none 0 0 [] (by show 0+W.toNat=W.toNat;omega) (by omega) (KU _ _) (aO.Gb _ _) (by simp) (Pu _ _) (Pu _ _) (λh=>by omega) (λh=>by omega) (by simp) (λx G=>by simp at G)
  unfold oZ at h7;dsimp only at h7;rw [Mk h3] at h7;have hb:gH (ah P M.toNat mod).ops L H ⟨0,W.toNat,true,y⟩ W.toNat [] [] []=S:=by rw [<- E,gM,KX h,KV];rfl
  rw [hb] at h7;have hI:∀x,¬ (mD.I ⟨none,0,[],[]⟩ x):=λx G=>by
   rcases G with ⟨h0,_⟩ | ⟨i,hi,_⟩
   ·exact h0 rfl
   ·simp at hi
  refine h7.mono ?_;rintro e w' (⟨g1,σ',g2,g3,g4,g5,rfl⟩ | ⟨g1,I',g5,rfl⟩)
  ·refine ⟨_,_,_,by rw [g1],g5.below (λx G=>absurd G (hI x)) (KT _),.inr ⟨g1,by rw [g3],σ'.R,?_⟩⟩;rw [<- g3];exact g2
  ·exact ⟨none,0,0,rfl,g5.below (λx G=>absurd G (hI x)) (KT _),.inl ⟨g1,rfl,rfl,rfl⟩⟩
 have r:Hid (∀V,PY w V->Calls prog 129 #[.agg #[cG P,cG M,.slice am D cm,cG N,.slice a n c],.slice ay H cy,cG W] V λe w'=>e = .returned (cG (ew P M mod N L y W))/\PY V w'):=λV F =>
  vU P M am D cm mod N a n c L ay H cy y W V (X.af F) (hi.af F) (hy.af F)
 have A:Hid (ew P M mod N L y W ≠ 0->S=(ew P M mod N L y W,[])):=λh=>by rw [<- E,gM,KY h]
 rw [E];clear X hi hy E;go_enter func77,ntmps77;go_wp2_with fail;obtain ⟨U,hU⟩:∃U:World,U=(w.alloc (.cells #[cG P,cG M,.slice am D cm,cG N,.slice a n c] 27)).alloc (.cells #[ds] 103):=⟨_,rfl⟩
 rw [<- hU];have hbU:PY w U:=by rw [hU];exact bY _ _ _
 have x0:aQ U w.heap.size [cG P,cG M,.slice am D cm,cG N,.slice a n c]:=by rw [hU];exact (Po _ _ _ rfl).alloc _
 have y0:aQ U (w.heap.size+1) [ds]:=by rw [hU];exact Po _ _ _ (by simp)
 clear hU;refine (r U hbU).mono ?_;rintro e w1 ⟨rfl,z⟩;have Y:=Pm hbU z;have C:=x0.af z;have y1:=y0.af z;have HY:=Z5 y1;by_cases Z:ew P M mod N L y W=0
 ·have HP2:=Z5 (j Z);have c0:=C.cell 0 rfl;have c1:=C.cell 1 rfl;have c2:=C.cell 2 rfl;have c3:=C.cell 3 rfl;have c4:=C.cell 4 rfl;rw [Z];clear Z x0 y0 C y1 j r A;go_wp2_with fail;refine (HP2 _ Y).mono ?_;rintro e w3 ⟨Q,K,O,rfl,hb3,hV3⟩;have y3:=HY.af hb3;have z0:=y3.cell 0 rfl;have f0:=y3.frozen 0;have hF:PY w (w3.setCell ⟨w.heap.size+1,0,none⟩ (.slice Q K O)):=(Pm Y hb3).setCell (by simp) _;have HV5:Hid (j4 S w (.returned (.tuple #[.agg #[.slice Q K O],cG S.1])) (w3.setCell ⟨w.heap.size+1,0,none⟩ (.slice Q K O))):=by
   refine ⟨hF,?_⟩;rcases hV3 with ⟨h1,rfl,rfl,rfl⟩ | ⟨h1,rfl,R,hO⟩
   ·exact .inl ⟨h1,rfl⟩
   ·refine .inr ⟨h1,Q,O,R,by rw [h1],?_⟩;have hsU:=Y.size;have hy:=HY.1;refine (aO.mono hO hsU).bp λx G=>Lf _ _ _ _ λe=>?_;have h2:=(hO.lt x G).1;have e':x=w.heap.size+1:=e;omega
  clear hV3 hF y3;obtain ⟨v1,hv1⟩:∃v1,S.1=v1:=⟨_,rfl⟩
  rw [hv1] at HV5 ⊢;clear hv1;go_wp2_with fail;have z1:(w3.setCell ⟨w.heap.size+1,0,none⟩ (.slice Q K O)).cell? ⟨w.heap.size+1,0,none⟩=some (.slice Q K O):=Lh _ _ _ z0;exact bodyPost_ret (v:=.tuple #[.agg #[.slice Q K O],cG v1]) (by simp [results,results77,go_sem,z0,z1]) rfl HV5.out
 ·have HE:=Z5 (A Z);have hE2:(ew P M mod N L y W != 0)=true:=by simpa using Z
  have Hne:=Z5 Z;have z0:=y1.cell 0 rfl;have f0:=y1.frozen 0;have HF:=Z5 (λv:Value=>Y.setCell (p:=⟨w.heap.size+1,0,none⟩) (by simp) v);clear Z x0 y0 C y1 j r A;generalize ew P M mod N L y W=er at *;go_wp2_with fail;have z1:(w1.setCell ⟨w.heap.size+1,0,none⟩ ds).cell? ⟨w.heap.size+1,0,none⟩=some ds:=Lh _ _ _ z0;exact bodyPost_ret (v:=.tuple #[.agg #[ds],cG er]) (by simp [results,results77,go_sem,z0,z1]) rfl ⟨HF _,.inl ⟨by rw [HE.out];exact Hne.out,by rw [HE.out]⟩⟩
def cJ:Ll:=[[1,0,1,0],[0,1,1,1]]
def lB:Ll:=[[1,1,1,0],[0,1,0,1],[1,1,1,0],[0,1,0,1]]
theorem Iu:Eu 2 1 [] 4 cJ 0=0:=by decide +kernel
theorem I8:Eu 2 1 [] 4 cJ 1=0:=by decide +kernel
theorem GL:i5 2 1 [] 4 cJ 0=[1,2]:=by decide +kernel
theorem H7:i5 2 1 [] 4 cJ 1=[3]:=by decide +kernel
theorem H9:nU 2 1 [] 4 cJ 0=[1,1]:=by decide +kernel
theorem GP:nU 2 1 [] 4 cJ 1=[1]:=by decide +kernel
theorem Cf:fy 2 1 [] 4 cJ=0:=by decide +kernel
theorem nL:bW 2 1 [] 4 cJ=lB:=by decide +kernel
theorem IQ:xW 2 1 [] 4 cJ=2:=by decide +kernel
theorem Ig:An 2 1 [] 4 cJ 0 [0,1,0,1]=0:=by decide +kernel
theorem Hj:Ip 2 1 [] 4 cJ 0 [0,1,0,1]=1:=by decide +kernel
theorem Ja:vj 6 3 2=0:=by decide +kernel
theorem GQ:vQ 6 3 2=3:=by decide +kernel
theorem IL:CN 7 1 [] 2 2 3=0:=by decide +kernel
theorem BY:bs 7 1 []=true:=by decide +kernel
theorem BN:(ah 7 (1:Int).toNat []).q=7:=by decide +kernel
theorem IP:(GG 7 1 [] 2 2 3).length=3:=by have F:=dO BY;obtain ⟨g,Z⟩:=pZ BY;exact (J5 F Z (r:=2) (c:=2) (k:=3) (by decide) (by rw [BN];decide) (by rw [BN];decide) (by decide) (by decide)).2.2.1
def ue:List Ll:=[[[1],[3],[]],[[0],[2]],[[1],[3],[]],[[0],[1]]]
theorem I3:da 2 1 [] 4 cJ 0=[[0,1,0,1]]:=by decide +kernel
theorem IZ:da 2 1 [] 4 cJ 1=[[1,0,1,1]]:=by decide +kernel
theorem GS:da 2 1 [] 4 cJ 2=[[0,1,0,1]]:=by decide +kernel
theorem H6:da 2 1 [] 4 cJ 3=[[1,1,1,0]]:=by decide +kernel
theorem B4:ew 2 1 [] 4 [[0,1,0,1]] [1,1,1,0] 2=0:=by decide +kernel
theorem Iv:ew 2 1 [] 4 [[1,0,1,1]] [0,1,0,1] 1=0:=by decide +kernel
theorem II:ew 2 1 [] 4 [[1,1,1,0]] [0,1,0,1] 1=0:=by decide +kernel
theorem CW:oS 2 1 [] 4 cJ 0=(0,[[1],[3],[]]):=by unfold oS;rw [show da 2 1 [] 4 cJ ((0:Nat):Int)=_ from I3,nL];show gM 2 1 [] 4 [[0,1,0,1]] [1,1,1,0] 2=_;rw [gM,KX B4,CD];decide +kernel
theorem Cd:oS 2 1 [] 4 cJ 1=(0,[[0],[2]]):=by unfold oS;rw [show da 2 1 [] 4 cJ ((1:Nat):Int)=_ from IZ,nL];show gM 2 1 [] 4 [[1,0,1,1]] [0,1,0,1] 1=_;rw [gM,KX Iv,CD];decide +kernel
theorem CI:oS 2 1 [] 4 cJ 2=(0,[[1],[3],[]]):=by unfold oS;rw [show da 2 1 [] 4 cJ ((2:Nat):Int)=_ from GS,nL];show gM 2 1 [] 4 [[0,1,0,1]] [1,1,1,0] 2=_;rw [gM,KX B4,CD];decide +kernel
theorem CV:oS 2 1 [] 4 cJ 3=(0,[[0],[1]]):=by unfold oS;rw [show da 2 1 [] 4 cJ ((3:Nat):Int)=_ from H6,nL];show gM 2 1 [] 4 [[1,1,1,0]] [0,1,0,1] 1=_;rw [gM,KX II,CD];decide +kernel
theorem GZ:ky 2 1 [] 4 cJ=0:=by unfold ky;rw [KX Cf];show lcTo 2 1 [] 4 cJ 4=0;simp [lcTo,CW,Cd,CI,CV]
theorem Ib:gK 2 1 [] 4 cJ 4=ue:=by unfold gK;show [_,_,_,_]=_;simp only [CW,Cd,CI,CV];rfl
theorem I0:xA 2 1 [] 4 cJ lB ue=0:=by decide +kernel
theorem GR:vy lB 4=[2,1,2,1]:=by decide +kernel
theorem sF (P M:Int) (am:OA) (mn cm:Nat) (mod:LI) (N:Int) (a:OA) (n c:Nat) (L:Ll) (w:World) (z:Ints w am mn mod) (hi:bw w a n L) :
  Calls prog 29 #[.agg #[cG P,cG M,.slice am mn cm,cG N,.slice a n c]] w (kM P M mod N L w):=by
 have HA:Hid (∀V,PY w V->Calls prog 62 #[.agg #[cG P,cG M,.slice am mn cm,cG N,.slice a n c]] V (oQ (fy P M mod N L) (bW P M mod N.toNat L) V)):=λV Y=>vW P M am mn cm mod N a n c L V (z.af Y) (hi.af Y);have HErr:Hid (∀V Q,ky P M mod N L=Q->Q ≠ 0->PY w V->kM P M mod N L w (.returned (.tuple #[.agg #[ds,ds],cG Q])) V):=λV Q h1 h2 h3=>⟨h3,.inl ⟨by rw [h1];exact h2,by rw [h1]⟩⟩
 have HE1:Hid (fy P M mod N L ≠ 0->ky P M mod N L=fy P M mod N L):=λh=>by rw [ky,KY h]
 have HG:Hid (fy P M mod N L=0->∃m:Nat,N=m/\m<=64/\(bW P M mod N.toNat L).length=m/\mod.length<=8 /\
   (∀k,k<m->(ai (bW P M mod N.toNat L) k).length=m/\iK (ai (bW P M mod N.toNat L) k)<=m) /\
   (∀V (k:Nat),k<m->PY w V->Calls prog 78 #[.agg #[cG P,cG M,.slice am mn cm,cG m,.slice a n c],cG k] V λe w' =>
    ∃a1 c1 a2 c2,e = .returned (.agg #[cG P,cG M,.slice a1 mod.length c1,cG m,.slice a2 (da P M mod N.toNat L k).length c2])/\Ints w' a1 mod.length mod/\bw w' a2 (da P M mod N.toNat L k).length (da P M mod N.toNat L k)/\PY V w') /\
   (∀V a1 c1 a2 c2 (k:Nat) ra rc,Ints V a1 mod.length mod->bw V a2 (da P M mod N.toNat L k).length (da P M mod N.toNat L k)->Ints V ra m (ai (bW P M mod N.toNat L) k)->Calls prog 77 #[.agg #[cG P,cG M,.slice a1 mod.length c1,cG m,.slice a2 (da P M mod N.toNat L k).length c2],.slice ra m rc,cG ((iK (ai (bW P M mod N.toNat L) k):Int) - 1)] V
    (r9 (if (oS P M mod N.toNat L k).1=0 then (oS P M mod N.toNat L k).2 else []) (oS P M mod N.toNat L k).1 V)) /\
   (∀k,lcTo P M mod N.toNat L k=0->lcTo P M mod N.toNat L (k+1)=(oS P M mod N.toNat L k).1) /\
   (∀k Q,k<=m->lcTo P M mod N.toNat L k=Q->Q ≠ 0->ky P M mod N L=Q)/\(lcTo P M mod N.toNat L m=0->ky P M mod N L=0) /\
   (∀as' cs Z ct V,ky P M mod N L=0->bw V as' m (bW P M mod N.toNat L)->fQ V Z m (gK P M mod N.toNat L m)->PY w V->kM P M mod N L w (.returned (.tuple #[.agg #[.slice as' m cs,.slice Z m ct],cG 0])) V)):=λh=>by
  obtain ⟨hE,_,hne⟩:=kc h;obtain ⟨m,rfl,_,hm64,_⟩:=aZ hE;rw [KV] at hne ⊢;refine ⟨m,rfl,hm64,lD,jH (aL hE).1,λk hk=>?_,λV k hk Y=>?_,λV a1 c1 a2 c2 k ra rc h1 h2 h3=>?_,λk hk=>?_,λk Q hk h1 h2=>?_,λh1=>?_,λas' cs Z ct V h0 h1 h2 h3=>?_⟩
  ·have h1:=(nN hE hne hk).2.1;exact ⟨h1,by have:=z7 (x:=ai (bW P M mod m L) k);omega⟩
  ·exact AI P M am mn cm mod m a n c L k V (z.af Y) (hi.af Y) hE hk
  ·exact (nB P M a1 _ c1 mod m a2 _ c2 _ ra m rc _ _ V h1 h2 h3).mono λe w' h=>h.Je
  ·rw [lcTo,KX hk]
  ·rw [ky,KX h,KV];have h3:=l8 h1 h2 (m - k);rw [show k+(m - k)=m by omega] at h3;exact h3
  ·rw [ky,KX h,KV];exact h1
  ·refine ⟨h3,.inr ⟨h0,as',cs,Z,ct,?_,?_,?_⟩⟩
   ·rw [KV]
   ·rw [KV];exact h1
   ·rw [KV];exact h2
 have HTs:Hid (∀k,gK P M mod N.toNat L (k+1)=gK P M mod N.toNat L k ++ [if (oS P M mod N.toNat L k).1=0 then (oS P M mod N.toNat L k).2 else []]):=λk=>by unfold gK;rw [Mn];simp
 have HT0:Hid (gK P M mod N.toNat L 0=[]/\lcTo P M mod N.toNat L 0=0):=⟨rfl,rfl⟩
 generalize kM P M mod N L w=Post at *;generalize ky P M mod N L=ce at *;generalize fy P M mod N L=ae at *;generalize lcTo P M mod N.toNat L=CT at *;generalize gK P M mod N.toNat L=TT at *;generalize oS P M mod N.toNat L=bl at *;generalize da P M mod N.toNat L=vc at *;generalize bW P M mod N.toNat L=A at *;have HI:=Z5 (K3 z hi);clear z hi;go_enter func29,ntmps29;go_upto_region 1 with fail;obtain ⟨W,hW⟩:∃W:World,W=(w.alloc (.cells #[cG P,cG M,.slice am mn cm,cG N,.slice a n c] 27)).alloc (.cells #[ds,ds] 48):=⟨_,rfl⟩
 rw [<- hW];have hbW:PY w W:=by rw [hW];exact bY _ _ _
 have hsW:W.heap.size=w.heap.size+2:=by rw [hW];simp
 have x0:aQ W w.heap.size [cG P,cG M,.slice am mn cm,cG N,.slice a n c]:=by rw [hW];exact (Po _ _ _ rfl).alloc _
 have z0:aQ W (w.heap.size+1) [ds,ds]:=by rw [hW];exact Po _ _ _ (by simp)
 clear hW;have HX:Hid (∀V,PY W V->V.cell? ⟨w.heap.size,0,none⟩=some (cG P)/\V.cell? ⟨w.heap.size,1,none⟩=some (cG M)/\V.cell? ⟨w.heap.size,2,none⟩=some (.slice am mn cm)/\V.cell? ⟨w.heap.size,3,none⟩=some (cG N)/\V.cell? ⟨w.heap.size,4,none⟩=some (.slice a n c)):=λV Y=>by have x1:=x0.af Y;exact ⟨x1.cell 0 rfl,x1.cell 1 rfl,x1.cell 2 rfl,x1.cell 3 rfl,x1.cell 4 rfl⟩
 have HZ:Hid (∀V,PY W V->V.cell? ⟨w.heap.size+1,0,none⟩=some ds/\V.cell? ⟨w.heap.size+1,1,none⟩=some ds/\V.frozen? ⟨w.heap.size+1,0,none⟩=false/\V.frozen? ⟨w.heap.size+1,1,none⟩=false/\w.heap.size+1<V.heap.size /\
   ∀x y,PY w ((V.setCell ⟨w.heap.size+1,0,none⟩ x).setCell ⟨w.heap.size+1,1,none⟩ y)):=λV Y=>by have z1:=z0.af Y;exact ⟨z1.cell 0 rfl,z1.cell 1 rfl,z1.frozen 0,z1.frozen 1,z1.1,λx y=>((Pm hbW Y).setCell (p:=⟨w.heap.size+1,0,none⟩) (by simp) _).setCell (p:=⟨w.heap.size+1,1,none⟩) (by simp) _⟩
 have HbW:=Z5 hbW;have HsW:=Z5 hsW;clear x0 z0 hbW hsW;obtain ⟨c0,c1,c2,c3,c4⟩:=HX W (KU _ _);go_wp2_with fail;refine (HA W HbW.out).mono ?_;rintro e O ⟨D,⟨h1,rfl⟩ | ⟨h1,E,cA,rfl,hM,hlo⟩⟩
 ·obtain ⟨z3,z4,f3,f4,_,F⟩:=HZ O D;have d1:(ae != 0)=true:=by simpa using h1
  have HF:=Z5 (HErr _ ae (HE1 h1) h1 (F ds ds));clear c0 c1 c2 c3 c4 h1 HG F;go_wp2_with fail;exact bodyPost_ret (v:=.tuple #[.agg #[ds,ds],cG ae]) (by simp [results,results29,go_sem,z3,z4]) rfl HF.out
 have hF1:=Pm HbW.out D;obtain ⟨m,rfl,hm64,hAl,hm8,hrow,hze,hbu,hcs,hcn,hc0,hpo⟩:=HG h1;have HR:=Z5 hrow;have HZe:=Z5 hze;have HBu:=Z5 hbu;have HCs:=Z5 (K3 hcs (K3 hcn (K3 hc0 hpo)));rw [hAl] at hM hlo;rw [hAl];have HLo:=Z5 hlo;have HM:=Z5 hM;have hplA:=hM.pl;have d1:(ae != 0)=false:=by simp [h1]
 obtain ⟨nm,hnm⟩:∃nm,mod.length=nm:=⟨_,rfl⟩
 rw [hnm] at HZe HBu;clear c0 c1 c2 c3 c4 h1 HG hrow hze hbu hcs hcn hc0 hpo hM hAl HE1 HA hm8 hnm hlo;go_upto_region 5 with fail;obtain ⟨X,hX⟩:∃X,O.alloc (.cells #[.slice E m cA,ds] 48)=X:=⟨_,rfl⟩
 rw [hX];have hbX:PY O X:=by rw [<- hX];exact an _ _
 have hC0:jY O.heap.size X O.heap.size (.slice E m cA) none 0 []:=jY.start (KT _) (by rw [<- hX];exact Po _ _ _ rfl);clear hX;have hs1:=D.size;have hsw:=HsW.out;go_wp2_with fail;go_loopw [7] (λiv wr=>∃(k:Nat) (Z:OA) (ct:Nat) (tt:List TX),k<=m/\iv = cG k/\jY O.heap.size wr O.heap.size (.slice E m cA) Z ct tt/\Hid (tt.length=k)/\Hid (tt.map TX.T=TT k)/\Hid (CT k=0)/\PY O wr) (λiv _=>m - (intOf iv).toNat);case atStart=>exact ⟨0,none,0,[],K0 _,rfl,hC0,rfl,HT0.1.symm,HT0.2,hbX⟩
 case round =>
  clear hC0 hbX
  obtain ⟨k,Z,ct,tt,hk,rfl,hI,Htl,Htt,Hct,G⟩:=hrel
  by_cases hlt:k<m
  ·obtain ⟨ra,rn,rc,hcell,hrw⟩:=(HM.af G).cell k hlt
   obtain ⟨hrl,hwt⟩:=HR k hlt
   have hrn:rn=m:=by rw [<- hrw.len];exact hrl
   subst hrn
   have hF2:=Pm hF1 G
   have HZk:=Z5 (HZe wr k hlt hF2)
   have HRw:=Z5 hrw
   have HI2:=Z5 (K3 hI G)
   have hCt1:=HCs.1 k Hct.out
   have HTk:=Z5 (HTs k)
   obtain ⟨wt,C⟩:∃wt,iK (ai A k)=wt:=⟨_,rfl⟩
   have HBk:Hid (∀V a1 c1 a2 c2,Ints V a1 nm mod->bw V a2 (vc k).length (vc k)->Ints V ra rn (ai A k)->Calls prog 77 #[.agg #[cG P,cG M,.slice a1 nm c1,cG rn,.slice a2 (vc k).length c2],.slice ra rn rc,cG ((wt:Int) - 1)] V (r9 (if (bl k).1=0 then (bl k).2 else []) (bl k).1 V)):=λV a1 c1 a2 c2 h1 h2 h3=>by rw [<- C];exact HBu V a1 c1 a2 c2 k ra rc h1 h2 h3
   have HWt:Hid (∀V,Ints V ra rn (ai A k)->Calls prog 41 #[.slice ra rn rc] V λe w'=>e = .returned (cG (wt:Nat))/\w'=V):=λV Y=>by rw [<- C];exact mJ ra rn rc _ V Y
   rw [C] at hwt
   have w1':IntKind.i64.wrap ((wt:Int) - 1)=(wt:Int) - 1:=La _ (by omega)
   obtain ⟨vk,hvk⟩:∃vk,vc k=vk:=⟨_,rfl⟩
   obtain ⟨qv,hqv⟩:∃q,vk.length=q:=⟨_,rfl⟩
   rw [hvk,hqv] at HZk HBk
   obtain ⟨bk,hbk⟩:∃bk,bl k=bk:=⟨_,rfl⟩
   rw [hbk] at HBk HTk hCt1
   obtain ⟨Q,T0⟩:=bk
   have HCt1:Hid (CT (k+1)=Q):=hCt1
   obtain ⟨T,hT⟩:∃T,(if ((Q,T0):Int × Ll).1=0 then ((Q,T0):Int × Ll).2 else [])=T:=⟨_,rfl⟩
   rw [hT] at HBk HTk
   have hpr:=hrw.pl
   have HS5:Hid (∀V,PY wr V->V.cell? ⟨w.heap.size,0,none⟩=some (cG P)/\V.cell? ⟨w.heap.size,1,none⟩=some (cG M)/\V.cell? ⟨w.heap.size,2,none⟩=some (.slice am mn cm)/\V.cell? ⟨w.heap.size,3,none⟩=some (cG rn)/\V.cell? ⟨w.heap.size,4,none⟩=some (.slice a n c)/\V.cell? ⟨ablk E,aJ E+k,none⟩=some (.slice ra rn rc)/\PY wr V):=λV Y=>by obtain ⟨y0,y1,y2,y3,y4⟩:=HX V (Pm (Pm D G) Y);exact ⟨y0,y1,y2,y3,y4,aB Y hcell,Y⟩
   have HVk:=Z5 (λV (Y:PY wr V)=>HZe V k hlt (Pm hF2 Y))
   rw [hvk,hqv] at HVk
   have HW3:=Z5 (λV (Y:PY wr V)=>HWt V (HRw.af Y))
   have HB3:=Z5 (λV a1 c1 a2 c2 (Y:PY wr V) h1 h2=>HBk V a1 c1 a2 c2 h1 h2 (HRw.af Y))
   have HV3:Hid (PY wr wr/\PY O wr):=⟨KU _ _,G⟩
   have hb0:PY wr wr:=KU _ _
   clear hrl C hvk hqv hbk hT hCt1 hrw hI hcell HBk HWt HZk
   obtain ⟨c0,c1,c2,c3,c4,c5,_⟩:=HS5 wr hb0
   unfold r9 at HB3
   go_upto_region 8 with fail
   go_cut [8,9] (λv8 v9 wx=>v9 = cG Q/\∃g ar K cr,v8 = .pointer (some ⟨g,0,none⟩)/\Hid (aQ wx g [.slice ar K cr])/\Hid (wr.heap.size<=g)/\Hid (cF wr.heap.size wx ar K T)/\Hid (K<=cr)/\PY wr wx)
   case first =>
    go_region_held3 (λV=>V.cell? ⟨w.heap.size,0,none⟩=some (cG P)/\V.cell? ⟨w.heap.size,1,none⟩=some (cG M)/\V.cell? ⟨w.heap.size,2,none⟩=some (.slice am mn cm)/\V.cell? ⟨w.heap.size,3,none⟩=some (cG rn)/\V.cell? ⟨w.heap.size,4,none⟩=some (.slice a n c)/\V.cell? ⟨ablk E,aJ E+k,none⟩=some (.slice ra rn rc)/\PY wr V)
     ((with_reducible refine HS5.out _ ?_;first | (with_reducible exact hb0.drew) | (with_reducible assumption) | (go_split_ands;first | (with_reducible assumption) | (with_reducible exact Pm (by assumption) (an _ _)) | (with_reducible exact (Pm (by assumption) (an _ _)).drew) | (with_reducible exact Below.drew (by assumption)) | (with_reducible exact Np (by assumption) (by first | exact hB5.size | exact hB3.size | simp) _))))
     (first
      | (go_at_call 78;((with_reducible refine (HVk.out _ (by go_split_ands;assumption)).mono ?_);rintro e w3 ⟨a3,k3,a4,k4,rfl,hI3,hM3,hb3⟩;have hB3:PY wr w3:=(by go_split_ands;exact Pm (by assumption) hb3);have r:=Z5 hI3;have HM3:=Z5 hM3;clear hI3 hM3;(first | (have HB4:=Z5 (mb hb3)) | (have HB4:=Z5 (kI hb3)) | skip)))
      | (go_at_call 41;((with_reducible refine (HW3.out _ (by go_split_ands;assumption)).mono ?_);rintro e w4 ⟨rfl,rfl⟩))
      | (go_at_call 77;((with_reducible refine (HB3.out _ _ _ _ _ (by go_split_ands;assumption) (by first | with_reducible exact r.out | with_reducible exact r.out.af (KU _ _).drew | with_reducible exact r.out.af (an _ _) | with_reducible exact r.out.af (an _ _).drew | with_reducible exact r.out.af (Pm (KU _ _).drew (an _ _)) | with_reducible exact r.out.af (Pm (KU _ _).drew (an _ _)).drew) (by first | with_reducible exact HM3.out | with_reducible exact HM3.out.af (KU _ _).drew | with_reducible exact HM3.out.af (an _ _) | with_reducible exact HM3.out.af (an _ _).drew | with_reducible exact HM3.out.af (Pm (KU _ _).drew (an _ _)) | with_reducible exact HM3.out.af (Pm (KU _ _).drew (an _ _)).drew)).mono ?_);rintro e w5 ⟨ar,K,cr,rfl,hM5,hc5,hb5⟩;have HX5:=Z5 (hM5.mono (by go_split_ands;exact Ml (by assumption)):cF wr.heap.size w5 ar K T);have hB5:PY wr w5:=(by go_split_ands;exact Pm (by assumption) hb5);have HM5:=Z5 hM5;have HC5:=Z5 hc5;clear hM5 hc5;(first | (have HB5:=Z5 (mb hb5)) | (have HB5:=Z5 (kI hb5)) | (have HB5:=Z5 (HB4.out.af hb5)) | (have HB5:=Z5 (HB4.out.af (Pm (KU _ _).drew hb5))) | skip);(first | (have z0:=HB5.out.cell 0 rfl;have f0:=HB5.out.frozen 0) | skip))))
    all_goals (
     go_wp2_with fail
     go_meet
     first
      | exact ⟨rfl,_,ar,K,cr,rfl,Po w5 [.slice ar K cr] _ rfl,hB5.size,HX5.af (an _ _),HC5,by go_split_ands;assumption⟩
      | exact ⟨rfl,_,ar,K,cr,rfl,HB5.setCell 0 (.slice ar K cr),(by first | exact KT _ | exact hB3.size),(HM5.setCell (by first | exact HB4.1 | simp) _).mono (by first | exact hB3.size | exact (Pm hB3 (an _ _)).size | exact K9 hB3.size (an _ _).size),HC5,by go_split_ands;assumption⟩)
   obtain ⟨rfl,g,ar,K,cr,rfl,HBx,Hg3,HMT,HCr,hbV⟩:=hcut
   generalize wc=V5 at *
   have U:=Pm HV3.2 hbV
   clear c0 c1 c2 c3 c4
   by_cases her:Q=0
   rotate_left
   ·obtain ⟨z3,z4,f3,f4,_,F⟩:=HZ V5 (Pm D U)
    have d2:(Q != 0)=true:=by simpa using her
    have HF:=Z5 (HErr _ Q (HCs.2.1 (k+1) Q (by omega) HCt1.out her) her (F ds ds))
    clear her F
    go_wp2_with fail
    exact bodyPost_ret (v:=.tuple #[.agg #[ds,ds],cG Q]) (by simp [results,results29,go_sem,z3,z4]) rfl HF.out
   ·subst her
    have S:=HI2.1.af (Pm HV3.1 hbV)
    have hMA:gB (TA O.heap.size O.heap.size Z) V5 ar K T:=HMT.Fq λb hb=>Lx (HI2.1.lt b hb) HV3.1.size
    have H:tt.length=k:=Htl.out
    have hTl:T.length=K:=HMT.len
    have b1:=S.box.cell 1 rfl
    have g1:=S.box.frozen 1
    have t0:=HBx.cell 0 rfl
    have hto:=(S.af (an V5 (.cells #[.slice ar K cr] 103))).tow
    have hcn2:=bm V5 (.slice ar K cr) 103
    have b1':=br b1 (.cells #[.slice ar K cr] 103)
    rw [H] at b1 b1' hto
    have hs9:O.heap.size<=(V5.alloc (.cells #[.slice ar K cr] 103)).heap.size:=by have:=U.size;simp;omega
    have hlt5:O.heap.size<V5.heap.size:=S.box.1
    have HI5:=Z5 (K3 S (K3 hMA (K3 hTl U)))
    have Hlt5:=Z5 hlt5
    have Hatb:=Z5 S.at1
    clear S hMA hTl U hlt5
    go_wp2_with (at_builtin;refine n8 rfl _ _ 46 103 rfl (.agg #[ds]) 24 underlying46 B8 rfl O.heap.size Z k ct _ rfl hto ⟨V5.heap.size,0,none⟩ 1 (.slice ar K cr) rfl hcn2 rfl (by omega) (by unfold maxLen;omega) hs9 ?_;intro a6 c6 w6 hown6 hgr6 hap6;have b6:=bP (ad:=⟨O.heap.size,1,none⟩) hgr6 b1' Hatb.out;have g6:w6.frozen? ⟨O.heap.size,1,none⟩=false:=mP hgr6 (by simp;have:=Hlt5.out;omega) (dP Hlt5.out g1 _) Hatb.out)
    go_roundw
    case rel =>
     obtain ⟨S,hMA,hTl,U⟩:=HI5.out
     have hown6':w6.ownsRow O.heap.size 103 1 (.slice a6 (tt.length+1) c6) (tt.length+1) (tt.map Fm ++ [Fm ⟨ar,cr,T⟩]):=by rw [H,show Fm ⟨ar,cr,T⟩ = .slice ar K cr by show Value.slice _ _ _=_;rw [hTl]];exact hown6
     obtain ⟨hI7,hbp⟩:=S.Jg (x:=⟨ar,cr,T⟩) (by show gB _ _ ar T.length T;rw [hTl];exact hMA) (by show T.length<=cr;rw [hTl];exact HCr) hown6' (by rw [H];exact hgr6) hap6
     have hbr7:=hbp _ U
     rw [H] at hI7 hbr7
     exact ⟨k+1,a6,c6,tt ++ [⟨ar,cr,T⟩],by omega,by go_num,hI7,by show _=_;rw [K6,H];rfl,by show _=_;rw [LJ,Htt.out,HTk.out];rfl,HCt1,hbr7⟩
    case measure=>simp [intOf] <;> omega
  ·obtain rfl:k=m:=by omega
   obtain ⟨c0,c1,c2,c3,c4⟩:=HX wr (Pm D G)
   obtain ⟨z3,z4,f3,f4,_,F⟩:=HZ wr (Pm D G)
   have b0:=hI.box.cell 0 rfl
   have b1:=hI.box.cell 1 rfl
   rw [Htl.out] at b1
   have hI2:=(hI.set (p:=⟨w.heap.size+1,0,none⟩) (by show w.heap.size+1<O.heap.size;omega) (.slice E k cA)).set (p:=⟨w.heap.size+1,1,none⟩) (by show w.heap.size+1<O.heap.size;omega) (.slice Z k ct)
   have q2:=hI2.trees
   rw [Htl.out,Htt.out] at q2
   have hMk:bw ((wr.setCell ⟨w.heap.size+1,0,none⟩ (.slice E k cA)).setCell ⟨w.heap.size+1,1,none⟩ (.slice Z k ct)) E k A:=by
    have hne:∀j,0<k->(⟨w.heap.size+1,j,none⟩:Addr).block ≠ ablk E:=λj h0 e=>by have h3:=HLo h0;rw [<- e] at h3;have h4:W.heap.size<=w.heap.size+1:=h3;omega
    have hz4:(wr.setCell ⟨w.heap.size+1,0,none⟩ (.slice E k cA)).cell? ⟨w.heap.size+1,1,none⟩=some ds:=by rw [Le _ _ _ _ (by simp)];exact z4
    exact (((HM.af G).kr z3 (hne 0) _).kr hz4 (hne 1) _)
   have HF:=Z5 (HCs.2.2.2 E cA Z ct _ (HCs.2.2.1 Hct.out) hMk q2 (F (.slice E k cA) (.slice Z k ct)))
   clear hI hI2 q2 F hMk
   go_wp2_with fail
   exact bodyPost_ret (v:=.tuple #[.agg #[.slice E k cA,.slice Z k ct],cG 0]) (by simp [results,results29,go_sem,z3,z4]) rfl HF.out
theorem lits (V:World) (l:LI) (cs:Array Value) (h:cs=(l.map (Value.int .i64)).toArray) (Y:l.length<=1000) {g:Nat} (Z:g=V.heap.size):Ints (V.alloc (.cells cs 3)) (some ⟨g,0,none⟩) l.length l:=by subst h;refine ⟨rfl,λ_=>rfl,by unfold maxLen;omega,λi hi=>?_⟩;have h1:=aF V ((l.map (Value.int .i64)).toArray) 3 Z i;rw [aj hi];simpa [ablk,aJ,hi] using h1
theorem Ke (V:World) {p q:Addr} {Z Y c1 c2:Nat} {l1 l2:LI} (h1:Ints V (some p) Z l1) (h2:Ints V (some q) Y l2) {g:Nat} (X:g=V.heap.size):bw (V.alloc (.cells #[.slice (some p) Z c1,.slice (some q) Y c2] 22)) (some ⟨g,0,none⟩) 2 [l1,l2] :=
 ⟨rfl,λ_=>rfl,by unfold maxLen;omega,λk U=>by
  have h:=aF V #[.slice (some p) Z c1,.slice (some q) Y c2] 22 X k;match k,U with
  | 0,_=>exact ⟨some p,Z,c1,h,h1.af (an _ _)⟩
  | 1,_=>exact ⟨some q,Y,c2,h,h2.af (an _ _)⟩⟩
theorem Gg (w:World) (o1 o2 Z Y:Obj):PY w ((((w.alloc o1).alloc o2).alloc Z).alloc Y):=Pm (kS w o1 o2 Z) (an _ _)
theorem Ko (V:World) {p q r s:Addr} {U Y Z X c1 c2 S c4:Nat} {l1 l2 O Q:LI} (h1:Ints V (some p) U l1) (h2:Ints V (some q) Y l2) (h3:Ints V (some r) Z O) (N:Ints V (some s) X Q) {g:Nat} (K:g=V.heap.size) :
  bw (V.alloc (.cells #[.slice (some p) U c1,.slice (some q) Y c2,.slice (some r) Z S,.slice (some s) X c4] 22)) (some ⟨g,0,none⟩) 4 [l1,l2,O,Q] :=
 ⟨rfl,λ_=>rfl,by unfold maxLen;omega,λk H=>by
  have h:=aF V #[.slice (some p) U c1,.slice (some q) Y c2,.slice (some r) Z S,.slice (some s) X c4] 22 K k;match k,H with
  | 0,_=>exact ⟨some p,U,c1,h,h1.af (an _ _)⟩
  | 1,_=>exact ⟨some q,Y,c2,h,h2.af (an _ _)⟩
  | 2,_=>exact ⟨some r,Z,S,h,h3.af (an _ _)⟩
  | 3,_=>exact ⟨some s,X,c4,h,N.af (an _ _)⟩⟩
theorem Jz (w:World) (o1 o2 Z Y X:Obj):PY w (((((w.alloc o1).alloc o2).alloc Z).alloc Y).alloc X):=Pm (Gg w o1 o2 Z Y) (an _ _)
theorem fQ.Fc {w w':World} {a:OA} {n:Nat} {TT:List Ll} (h:fQ w a n TT) (hb:PY w w'):fQ w' a n TT :=
 ⟨h.len,h.pl,h.max,λi hi=>by obtain ⟨b,m,c,h1,h2,h3⟩:=h.cell i hi;exact ⟨b,m,c,aB hb h1,h2.af hb,h3⟩⟩
def CK (V:World):World:=((((V.alloc (.cells #[cG 1,cG 1,cG 1,cG 0] 3)).alloc (.cells #[cG 0,cG 1,cG 0,cG 1] 3)).alloc (.cells #[cG 1,cG 1,cG 1,cG 0] 3)).alloc (.cells #[cG 0,cG 1,cG 0,cG 1] 3)).alloc
  (.cells #[.slice (some ⟨V.heap.size,0,none⟩) 4 4,.slice (some ⟨V.heap.size+1,0,none⟩) 4 4,.slice (some ⟨V.heap.size+1+1,0,none⟩) 4 4,.slice (some ⟨V.heap.size+1+1+1,0,none⟩) 4 4] 22)
theorem DI (V:World):bw (CK V) (some ⟨V.heap.size+1+1+1+1,0,none⟩) 4 lB:=by
 have H:=lits V [1,1,1,0] #[cG 1,cG 1,cG 1,cG 0] rfl (by decide) rfl;have O:=lits (V.alloc (.cells #[cG 1,cG 1,cG 1,cG 0] 3)) [0,1,0,1] #[cG 0,cG 1,cG 0,cG 1] rfl (by decide) (g:=V.heap.size+1) (by simp);have K:=lits ((V.alloc (.cells #[cG 1,cG 1,cG 1,cG 0] 3)).alloc (.cells #[cG 0,cG 1,cG 0,cG 1] 3)) [1,1,1,0] #[cG 1,cG 1,cG 1,cG 0] rfl (by decide) (g:=V.heap.size+1+1) (by simp);have Y:=lits (((V.alloc (.cells #[cG 1,cG 1,cG 1,cG 0] 3)).alloc (.cells #[cG 0,cG 1,cG 0,cG 1] 3)).alloc (.cells #[cG 1,cG 1,cG 1,cG 0] 3)) [0,1,0,1] #[cG 0,cG 1,cG 0,cG 1] rfl (by decide) (g:=V.heap.size+1+1+1) (by simp);unfold CK;generalize Z:(((V.alloc (.cells #[cG 1,cG 1,cG 1,cG 0] 3)).alloc (.cells #[cG 0,cG 1,cG 0,cG 1] 3)).alloc (.cells #[cG 1,cG 1,cG 1,cG 0] 3)).alloc (.cells #[cG 0,cG 1,cG 0,cG 1] 3)=U at Y ⊢;have X:Ints U (some ⟨V.heap.size,0,none⟩) 4 [1,1,1,0]:=by rw [<- Z];exact ((H.af (an _ _)).af (an _ _)).af (an _ _)
 have S:Ints U (some ⟨V.heap.size+1,0,none⟩) 4 [0,1,0,1]:=by rw [<- Z];exact (O.af (an _ _)).af (an _ _)
 have N:Ints U (some ⟨V.heap.size+1+1,0,none⟩) 4 [1,1,1,0]:=by rw [<- Z];exact K.af (an _ _)
 have Q:V.heap.size+1+1+1+1=U.heap.size:=by rw [<- Z];simp
 exact Ko U X S N Y Q
theorem qm (V:World):PY V (CK V):=Jz _ _ _ _ _ _
theorem nQ {V:World} {Y:Nat} (U:bw V (some ⟨Y,0,none⟩) 2 cJ) (i:Int) (S D:LI) (h0:Eu 2 1 [] 4 cJ i=0) (h1:i5 2 1 [] 4 cJ i=S) (h2:nU 2 1 [] 4 cJ i=D) :
  Calls prog 15 #[.agg #[cG 2,cG 1,ds,cG 4,.slice (some ⟨Y,0,none⟩) 2 2],cG i] V λe w'=>PY V w'/\∃a c a2 c2,e = .returned (.tuple #[.slice a S.length c,.slice a2 S.length c2,cG 0])/\Ints w' a S.length S/\Ints w' a2 S.length D:=by
 refine (tC 2 1 none 0 0 [] 4 (some ⟨Y,0,none⟩) 2 2 cJ i V (Pu _ _) U).mono ?_;rintro e w' ⟨b,⟨h,_⟩ | ⟨_,a,c,a2,c2,rfl,h3,Z⟩⟩
 ·exact absurd h0 h
 ·have e1:i5 2 1 [] (4:Int).toNat cJ i=S:=h1;have X:nU 2 1 [] (4:Int).toNat cJ i=D:=h2;rw [e1] at h3 Z;rw [X] at Z;exact ⟨b,a,c,a2,c2,by rw [e1],h3,Z⟩
theorem xe {V:World} {X:Nat} (U:bw V (some ⟨X,0,none⟩) 2 cJ):Calls prog 28 #[.agg #[cG 2,cG 1,ds,cG 4,.slice (some ⟨X,0,none⟩) 2 2]] V
  λe w'=>PY V w'/\∃Y cs Z ct,e = .returned (.tuple #[.agg #[.slice Y 4 cs,.slice Z 4 ct],cG 0])/\bw w' Y 4 lB/\fQ w' Z 4 ue:=by
 refine (mK 2 1 none 0 0 [] 4 (some ⟨X,0,none⟩) 2 2 cJ V (Pu _ _) U).mono ?_;rintro e w' ⟨b,⟨h0,_⟩ | ⟨_,Y,cs,Z,ct,rfl,h1,h2⟩⟩
 ·exact absurd GZ h0
 ·have e1:bW 2 1 [] (4:Int).toNat cJ=lB:=nL;have S:gK 2 1 [] (4:Int).toNat cJ (4:Int).toNat=ue:=Ib;rw [e1] at h1;rw [S] at h2;exact ⟨b,Y,cs,Z,ct,rfl,h1,h2⟩
theorem AH {V:World} {X:Nat} {Y Z:OA} {cs ct:Nat} (U:bw V (some ⟨X,0,none⟩) 2 cJ) (h1:bw V Y 4 lB) (h2:fQ V Z 4 ue) :
  Calls prog 31 #[.agg #[cG 2,cG 1,ds,cG 4,.slice (some ⟨X,0,none⟩) 2 2],.agg #[.slice Y 4 cs,.slice Z 4 ct]] V λe w'=>PY V w'/\∃a c,e = .returned (.tuple #[.slice a 4 c,cG 0])/\Ints w' a 4 [2,1,2,1]:=by
 refine (qq 2 1 none 0 0 [] 4 (some ⟨X,0,none⟩) 2 2 cJ Y 4 cs _ Z 4 ct _ V (Pu _ _) U h1 h2).mono ?_;rintro e w' ⟨b,⟨h0,_⟩ | ⟨_,a,c,rfl,h⟩⟩
 ·exact absurd I0 h0
 ·have e1:vy lB (4:Int).toNat=[2,1,2,1]:=GR;rw [e1] at h;exact ⟨b,a,c,rfl,h⟩
theorem tG {V:World} {Z:Nat} (Y:bw V (some ⟨Z,0,none⟩) 2 cJ):Calls prog 20 #[.agg #[cG 2,cG 1,ds,cG 4,.slice (some ⟨Z,0,none⟩) 2 2]] V λe w'=>e = .returned (.tuple #[cG 2,cG 0])/\PY V w':=by have h:=lZ 2 1 none 0 0 [] 4 (some ⟨Z,0,none⟩) 2 2 cJ V (Pu _ _) Y;rw [IQ,Cf] at h;exact h
theorem xl {V:World} {Z:Nat} {p:OA} (Y:bw V (some ⟨Z,0,none⟩) 2 cJ) (X:Ints V p 4 [0,1,0,1]):Calls prog 17 #[.agg #[cG 2,cG 1,ds,cG 4,.slice (some ⟨Z,0,none⟩) 2 2],cG 0,.slice p 4 4] V λe w'=>e = .returned (.tuple #[cG 1,cG 0])/\PY V w':=by have h:=wK 2 1 none 0 0 [] 4 (some ⟨Z,0,none⟩) 2 2 cJ 0 p 4 4 [0,1,0,1] V (Pu _ _) Y X;rw [Hj,Ig] at h;exact h
theorem Ba (V:World):Calls prog 22 #[cG 6,cG 3,cG 2] V λe w'=>e = .returned (.tuple #[cG 3,cG 0])/\w'=V:=by have h:=zQ 6 3 2 V;rw [GQ,Ja] at h;exact h
theorem Ha (V:World):Calls prog 25 #[.agg #[cG 7,cG 1,ds],cG 2,cG 2,cG 3] V λe w' =>
  ∃a1 c1 a2 c2,e = .returned (.tuple #[.agg #[cG 7,cG 1,.slice a1 0 c1,cG 6,.slice a2 3 c2],cG 0])/\PY V w':=by
 refine (GB 7 1 none 0 0 [] 2 2 3 V (Pu _ _) (by omega)).mono ?_;rintro e w' ⟨b,⟨h0,_⟩ | ⟨_,a1,c1,a2,c2,rfl,_,_⟩⟩
 ·exact absurd IL h0
 ·have e1:(GG 7 1 [] (2:Int).toNat (2:Int).toNat (3:Int).toNat).length=3:=IP;exact ⟨a1,c1,a2,c2,by rw [e1];rfl,b⟩
theorem lG (w:World):Calls prog 13 #[] w λe w'=>e = .returned (.bool true)/\PY w w':=by
 go_enter func13,ntmps13;go_upto_region 1 with fail;go_cut [1] (λv wx=>∃g gm,v = .pointer (some ⟨g,0,none⟩)/\aQ wx g [cG 2,cG 1,ds,cG 4,.slice (some ⟨gm,0,none⟩) 2 2]/\bw wx (some ⟨gm,0,none⟩) 2 cJ/\PY w wx);case first =>
  go_wp2_with fail
  go_meet
  have i1:=lits w [1,0,1,0] #[cG 1,cG 0,cG 1,cG 0] rfl (by decide) rfl
  have i2:=lits (w.alloc (.cells #[cG 1,cG 0,cG 1,cG 0] 3)) [0,1,1,1] #[cG 0,cG 1,cG 1,cG 1] rfl (by decide) (g:=w.heap.size+1) (by simp)
  have hm:=Ke (c1:=4) (c2:=4) _ (i1.af (an _ (.cells #[cG 0,cG 1,cG 1,cG 1] 3))) i2 (g:=w.heap.size+1+1) (by simp)
  have hm2:=hm.af (an _ (.cells #[cG 2,cG 1,ds,cG 4,.slice (some ⟨w.heap.size+1+1,0,none⟩) 2 2] 27))
  exact ⟨_,w.heap.size+1+1,rfl,Po _ [cG 2,cG 1,ds,cG 4,.slice (some ⟨w.heap.size+1+1,0,none⟩) 2 2] _ (by simp),hm2,Gg _ _ _ _ _⟩
 obtain ⟨g,gm,rfl,hx,hM,hbW⟩:=hcut;generalize wc=W at *;have A:Hid (∀V,PY W V->V.cell? ⟨g,0,none⟩=some (cG 2)/\V.cell? ⟨g,1,none⟩=some (cG 1)/\V.cell? ⟨g,2,none⟩=some ds/\V.cell? ⟨g,3,none⟩=some (cG 4)/\V.cell? ⟨g,4,none⟩=some (.slice (some ⟨gm,0,none⟩) 2 2)):=λV Y=>by have h:=hx.af Y;exact ⟨h.cell 0 rfl,h.cell 1 rfl,h.cell 2 rfl,h.cell 3 rfl,h.cell 4 rfl⟩
 have D:Hid (∀V,PY W V->bw V (some ⟨gm,0,none⟩) 2 cJ):=λV Y=>hM.af Y;have HW:=Z5 hbW;clear hx hM hbW;have e0:=KU W.heap.size W;obtain ⟨c0,c1,c2,O,c4⟩:=A _ e0;have Z:=Z5 (nQ (D _ e0) 0 [1,2] [1,1] Iu GL H9);go_wp2_with fail;refine Z.mono ?_;rintro e V1 ⟨b1,a1,k1,d1,j1,rfl,hO1,hP1⟩;have e1:=Pm e0 b1;have HO1:=Z5 (λV Y=>⟨hO1.af Y,hP1.af Y⟩:∀V,PY V1 V->Ints V a1 2 [1,2]/\Ints V d1 2 [1,1]);clear c0 c1 c2 O c4 Z hO1 hP1;obtain ⟨c0,c1,c2,O,c4⟩:=A _ e1;have Z:=Z5 (nQ (D _ e1) 1 [3] [1] I8 H7 GP);go_wp2_with fail;refine Z.mono ?_;rintro e V2 ⟨b2,a2,k2,d2,j2,rfl,j,hP2⟩;have e2:=Pm e1 b2;have HO2:=Z5 (λV Y=>⟨j.af Y,hP2.af Y⟩:∀V,PY V2 V->Ints V a2 1 [3]/\Ints V d2 1 [1]);clear c0 c1 c2 O c4 Z j hP2;obtain ⟨c0,c1,c2,O,c4⟩:=A _ e2;have Z:=Z5 (tG (D _ e2));go_wp2_with fail;refine Z.mono ?_;rintro e V3 ⟨rfl,b3⟩;have e3:=Pm e2 b3;clear c0 c1 c2 O c4 Z;have n3:=an V3 (.cells #[cG 0,cG 1,cG 0,cG 1] 3);have Z:=Z5 (xl (D _ (Pm e3 n3)) (lits V3 [0,1,0,1] #[cG 0,cG 1,cG 0,cG 1] rfl (by decide) rfl));obtain ⟨c0,c1,c2,O,c4⟩:=A _ e3;go_wp2_with fail;refine Z.mono ?_;rintro e V4 ⟨rfl,b4⟩;have e4:=Pm e3 (Pm n3 b4);clear c0 c1 c2 O c4 Z;have Z:=Z5 (Ba V4);go_wp2_with fail;refine Z.mono ?_;rintro e V4 ⟨rfl,rfl⟩;clear Z;have Z:=Z5 (Ha V4);go_wp2_with fail;refine Z.mono ?_;rintro e Q ⟨p5,N,a5,z,rfl,b5⟩;clear Z;have n5:=an Q (.cells #[cG 7,cG 1,.slice p5 0 N,cG 6,.slice a5 3 z] 27);have f5:=Pm b5 n5;have e5:=Pm e4 f5;have HO5:=Z5 (λV Y=>⟨((Po Q [cG 7,cG 1,.slice p5 0 N,cG 6,.slice a5 3 z] 27 rfl).af Y).cell 3 rfl,((Po Q [cG 7,cG 1,.slice p5 0 N,cG 6,.slice a5 3 z] 27 rfl).af Y).cell 4 rfl⟩:∀V,Below (Q.alloc (.cells #[cG 7,cG 1,.slice p5 0 N,cG 6,.slice a5 3 z] 27)).heap.size (Q.alloc (.cells #[cG 7,cG 1,.slice p5 0 N,cG 6,.slice a5 3 z] 27)) V ->
  V.cell? ⟨Q.heap.size,3,none⟩=some (cG 6)/\V.cell? ⟨Q.heap.size,4,none⟩=some (.slice a5 3 z))
 have Z:=Z5 (xe (D _ e5));obtain ⟨c0,c1,c2,O,c4⟩:=A _ e5;go_wp2_with fail;refine Z.mono ?_;rintro e U ⟨b6,X,cs,S,ct,rfl,hA6,r⟩;clear c0 c1 c2 O c4 Z;have n6:=an U (.cells #[.slice X 4 cs,.slice S 4 ct] 48);have f6:=Pm b6 n6;have e6:=Pm e5 f6;have HO6:=Z5 (λV Y=>⟨((Po U [.slice X 4 cs,.slice S 4 ct] 48 rfl).af Y).cell 0 rfl,((Po U [.slice X 4 cs,.slice S 4 ct] 48 rfl).af Y).cell 1 rfl,(hA6.af n6).af Y,(r.Fc n6).Fc Y⟩:∀V,Below (U.alloc (.cells #[.slice X 4 cs,.slice S 4 ct] 48)).heap.size (U.alloc (.cells #[.slice X 4 cs,.slice S 4 ct] 48)) V ->
  V.cell? ⟨U.heap.size,0,none⟩=some (.slice X 4 cs)/\V.cell? ⟨U.heap.size,1,none⟩=some (.slice S 4 ct)/\bw V X 4 lB/\fQ V S 4 ue)
 clear hA6 r;have t6:=HO6 _ (KU _ _);have Z:=Z5 (AH (cs:=cs) (ct:=ct) (D _ e6) t6.2.2.1 t6.2.2.2);obtain ⟨c0,c1,c2,O,c4⟩:=A _ e6;have x0:=t6.1;have x1:=t6.2.1;clear t6;go_wp2_with fail;refine Z.mono ?_;rintro e C ⟨b7,a7,k7,rfl,hO7⟩;have e7:=Pm e6 b7;have HO7:=Z5 (λV Y=>hO7.af Y:∀V,PY C V->Ints V a7 4 [2,1,2,1]);have G6:=Z5 b7;have G5:=Z5 (Pm f6 b7);have G2:=Z5 (Pm b3 (Pm (Pm n3 b4) (Pm f5 (Pm f6 b7))));have G1:=Z5 (Pm b2 G2.out);have E7:=Z5 (Pm HW.out e7);clear c0 c1 c2 O c4 x0 x1 Z hO7 b1 b2 b3 b4 b5 b6 b7 n3 n5 n6 f5 f6 e0 e1 e2 e3 e4 e5 e6 e7;go_upto_region 12 with fail;have q1:=an C (.cells #[cG 1,cG 2] 3);have F:=Pm (KU C.heap.size C) q1;have Z:=Z5 (fo a1 2 k1 [1,2] (some ⟨C.heap.size,0,none⟩) 2 2 [1,2] (HO1 _ (Pm G1.out F)).1 (lits C [1,2] #[cG 1,cG 2] rfl (by decide) rfl));rw [Lj rfl] at Z;go_wp2_with fail;refine Z.mono ?_;rintro e Y1 ⟨rfl,r1⟩;have s1:=Pm F r1.below;clear Z q1 F r1;have q2:=an Y1 (.cells #[cG 1,cG 1] 3);have E:=Pm s1 q2;have Z:=Z5 (fo d1 2 j1 [1,1] (some ⟨Y1.heap.size,0,none⟩) 2 2 [1,1] (HO1 _ (Pm G1.out E)).2 (lits Y1 [1,1] #[cG 1,cG 1] rfl (by decide) rfl));rw [Lj rfl] at Z;go_wp2_with fail;refine Z.mono ?_;rintro e Y2 ⟨rfl,r2⟩;have s2:=Pm E r2.below;clear Z q2 E r2;have q3:=an Y2 (.cells #[cG 3] 3);have H:=Pm s2 q3;have Z:=Z5 (fo a2 1 k2 [3] (some ⟨Y2.heap.size,0,none⟩) 1 1 [3] (HO2 _ (Pm G2.out H)).1 (lits Y2 [3] #[cG 3] rfl (by decide) rfl));rw [Lj rfl] at Z;go_wp2_with fail;refine Z.mono ?_;rintro e Y3 ⟨rfl,r3⟩;have s3:=Pm H r3.below;clear Z q3 H r3;have q4:=an Y3 (.cells #[cG 1] 3);have G:=Pm s3 q4;have Z:=Z5 (fo d2 1 j2 [1] (some ⟨Y3.heap.size,0,none⟩) 1 1 [1] (HO2 _ (Pm G2.out G)).2 (lits Y3 [1] #[cG 1] rfl (by decide) rfl));rw [Lj rfl] at Z;go_wp2_with fail;refine Z.mono ?_;rintro e Y4 ⟨rfl,r4⟩;have s4:=Pm G r4.below;clear Z q4 G r4;have N:=an Y4 (.cells #[cG 2,cG 1,cG 2,cG 1] 3);have K:=Pm s4 N;have Z:=Z5 (fo a7 4 k7 [2,1,2,1] (some ⟨Y4.heap.size,0,none⟩) 4 4 [2,1,2,1] (HO7 _ K) (lits Y4 [2,1,2,1] #[cG 2,cG 1,cG 2,cG 1] rfl (by decide) rfl));rw [Lj rfl] at Z;go_wp2_with fail;refine Z.mono ?_;rintro e Y5 ⟨rfl,r5⟩;have s5:=Pm K r5.below;clear Z N K r5;obtain ⟨y3,y4⟩:=HO5 _ (Pm G5.out s5);obtain ⟨x0,_,hA,_⟩:=HO6 _ (Pm G6.out s5);have Z:=Z5 (gZ X 4 cs lB _ 4 4 lB (hA.af (qm Y5)) (DI Y5));rw [Lj rfl] at Z;unfold CK at Z;clear hA;go_wp2_with fail;refine Z.mono ?_;rintro e Y6 ⟨rfl,r6⟩;have hF:=Pm E7.out (Pm (Pm s5 (qm Y5)) r6.below);go_wp2_with fail;go_ret;exact ⟨rfl,hF⟩
theorem wL (P M:Int) (am:OA) (S cm:Nat) (mod:LI) (N:Int) (a:OA) (n c:Nat) (L:Ll) (w:World) (Q:Ints w am S mod) (hi:bw w a n L) :
  Calls prog 14 #[.agg #[cG P,cG M,.slice am S cm,cG N,.slice a n c]] w (lu w):=by
 have HFw:Hid (∀V,PY w V->Calls prog 32 #[.agg #[cG P,cG M,.slice am S cm,cG N,.slice a n c],cG 120] V (lu V)):=λV hV=>AG P M am S cm N a n c 120 L V (hi.af hV) (by omega);have H:Hid (∀V,PY w V->Calls prog 45 #[.agg #[cG P,cG M,.slice am S cm,cG N,.slice a n c]] V (jA P M mod N L V)):=λV hV=>qd P M am S cm mod N a n c L V (Q.af hV) (hi.af hV);have HSz:Hid (∀V a1 n1 c1 a2 n2 c2,Ints V a1 n1 mod->bw V a2 n2 (aU (ah P M.toNat mod) L N.toNat)->Calls prog 46 #[.agg #[cG P,cG M,.slice a1 n1 c1,cG N,.slice a2 n2 c2]] V λe w'=>∃x y,e = .returned (.tuple #[cG x,cG y])/\PY V w'):=λV a1 n1 c1 a2 n2 c2 h1 h2=>by refine (qb P M a1 n1 c1 mod N a2 n2 c2 _ V h1 h2).mono ?_;rintro e w' ⟨h3,h4⟩;exact ⟨_,_,h3,h4⟩
 unfold jA at H;obtain ⟨D,hD⟩:∃D,aU (ah P M.toNat mod) L N.toNat=D:=⟨_,rfl⟩
 obtain ⟨E,hE⟩:∃E,aI P M mod N L=E:=⟨_,rfl⟩
 rw [hD,hE] at H;rw [hD] at HSz;clear Q hi hD hE;go_enter func14,ntmps14;go_upto_region 1 with fail;obtain ⟨W,hW⟩:∃W:World,W=(w.alloc (.cells #[cG P,cG M,.slice am S cm,cG N,.slice a n c] 27)):=⟨_,rfl⟩
 rw [<- hW];have hbW:PY w W:=by rw [hW];exact an _ _
 have G:aQ W w.heap.size [cG P,cG M,.slice am S cm,cG N,.slice a n c]:=by rw [hW];exact Po _ _ _ rfl
 clear hW;have HX:=Z5 G;have O:=Z5 hbW;have c0:=G.cell 0 rfl;have c1:=G.cell 1 rfl;have c2:=G.cell 2 rfl;have c3:=G.cell 3 rfl;have c4:=G.cell 4 rfl;clear G hbW;go_wp2_with fail;refine (HFw W O.out).mono ?_;rintro e U ⟨z,rfl,Z⟩;clear c0 c1 c2 c3 c4;cases z
 ·have j:=Z5 (Pm O.out Z);clear Z;go_wp2_with fail;go_ret;exact ⟨_,rfl,j⟩
 have F:=HX.af Z;have c0:=F.cell 0 rfl;have c1:=F.cell 1 rfl;have c2:=F.cell 2 rfl;have c3:=F.cell 3 rfl;have c4:=F.cell 4 rfl;have A:=Z5 (Pm O.out Z);clear F;go_wp2_with fail;refine (H U A.out).mono ?_;rintro e V ⟨K,h⟩;have x2:=HX.af (Pm Z K);have HX2:=Z5 x2;have r:=Z5 (Pm A.out K);clear c0 c1 c2 c3 c4 x2 Z K;rcases h with ⟨h0,rfl⟩ | ⟨h0,a1,d1,a2,d2,rfl,hI,hM⟩
 ·have hEb:(E != 0)=true:=by simpa using h0
  have j:=Z5 (Pm r.out (an V (.cells #[cG 0,cG 0,ds,cG 0,ds] 27)));clear h0;go_wp2_with fail;go_ret;exact ⟨_,rfl,j⟩
 ·subst h0;obtain ⟨nm,hnm⟩:∃nm,mod.length=nm:=⟨_,rfl⟩
  obtain ⟨k,hk⟩:∃k,D.length=k:=⟨_,rfl⟩
  rw [hnm] at hI ⊢;rw [hk] at hM ⊢;clear hnm hk;go_upto_region 6 with fail;obtain ⟨V2,X⟩:∃V2:World,V2=V.alloc (.cells #[cG P,cG M,.slice a1 nm d1,cG N,.slice a2 k d2] 27):=⟨_,rfl⟩
  rw [<- X];have Y:PY V V2:=by rw [X];exact an _ _
  have C:aQ V2 V.heap.size [cG P,cG M,.slice a1 nm d1,cG N,.slice a2 k d2]:=by rw [X];exact Po _ _ _ rfl
  have c0:=C.cell 0 rfl;have c1:=C.cell 1 rfl;have c2:=C.cell 2 rfl;have c3:=C.cell 3 rfl;have c4:=C.cell 4 rfl;have HS2:=Z5 (HSz V2 a1 nm d1 a2 k d2 (hI.af Y) (hM.af Y));have HX3:=Z5 (HX2.af Y);have HbV2:=Z5 (Pm r.out Y);clear X Y C hI hM;go_wp2_with fail;refine HS2.mono ?_;rintro e w4 ⟨x,y,rfl,hb4⟩;have q3:=(HX3.af hb4).cell 3 rfl;have j:=Z5 (Pm HbV2.out hb4);clear c0 c1 c2 c3 c4 hb4 HS2;obtain ⟨z1,hz1⟩:∃z,decide (N<=20)=z:=⟨_,rfl⟩
  obtain ⟨z2,hz2⟩:∃z,(y != 0)=z:=⟨_,rfl⟩
  obtain ⟨z3,hz3⟩:∃z,decide (N<=9)=z:=⟨_,rfl⟩
  obtain ⟨z4,hz4⟩:∃z,decide (x<=600)=z:=⟨_,rfl⟩
  cases z1 <;> cases z2 <;> cases z3 <;> cases z4
  all_goals (
   go_wp2_with fail
   go_ret
   exact ⟨_,rfl,j⟩)
theorem D9 (U:OA) (ns cs:Nat) (SS:Ll) (X:OA) (nt ct:Nat) (TT:List Ll) (S:OA) (Q O:Nat) (Y:OA) (Z K:Nat) (w:World)
  (h1:bw w U ns SS) (h2:fQ w X nt TT) (h3:bw w S Q SS) (h4:fQ w Y Z TT) :
  Calls prog 30 #[.agg #[.slice U ns cs,.slice X nt ct],.agg #[.slice S Q O,.slice Y Z K]] w λe w'=>e = .returned (.bool true)/\PY w w':=by
 obtain rfl:Z=nt:=by rw [<- h4.len,h2.len]
 have hpl:=h2.pl;have hpl2:=h4.pl;have hmax:=h2.max;unfold maxLen at hmax;have hnn:((Z:Int) != Z)=false:=by simp
 have HR:Hid (∀V,PY w V->Calls prog 44 #[.slice U ns cs,.slice S Q O] V (jd V true)):=λV N=>by have h:=gZ U ns cs SS S Q O SS (h1.af N) (h3.af N);rw [Lj rfl] at h;exact h
 have HT:Hid (∀k,k<Z->∃F m1 c1 H E c2,∀V,PY w V->V.cell? ⟨ablk X,aJ X+k,none⟩=some (.slice F m1 c1)/\V.cell? ⟨ablk Y,aJ Y+k,none⟩=some (.slice H E c2) /\
   Calls prog 79 #[.agg #[.slice F m1 c1],.agg #[.slice H E c2]] V λe w'=>e = .returned (.bool true)/\PY V w'):=λk hk=>by obtain ⟨F,m1,c1,x1,x2,_⟩:=h2.cell k hk;obtain ⟨H,E,c2,y1,y2,_⟩:=h4.cell k hk;refine ⟨F,m1,c1,H,E,c2,λV N=>⟨aB N x1,aB N y1,?_⟩⟩;have h:=xS F m1 c1 (oo TT k) H E c2 (oo TT k) V (x2.af N) (y2.af N);rw [Lj rfl] at h;exact h
 clear h1 h2 h3 h4;go_enter func30,ntmps30;go_upto_region 1 with fail;obtain ⟨W,hW⟩:∃W:World,W=(w.alloc (.cells #[.slice U ns cs,.slice X Z ct] 48)).alloc (.cells #[.slice S Q O,.slice Y Z K] 48):=⟨_,rfl⟩
 rw [<- hW];have C:PY w W:=by rw [hW];exact bY _ _ _
 have x0:aQ W w.heap.size [.slice U ns cs,.slice X Z ct]:=by rw [hW];exact (Po _ _ _ rfl).alloc _
 have y0:aQ W (w.heap.size+1) [.slice S Q O,.slice Y Z K]:=by rw [hW];exact Po _ _ _ (by simp)
 have HS:Hid (∀V,PY W V->V.cell? ⟨w.heap.size,0,none⟩=some (.slice U ns cs)/\V.cell? ⟨w.heap.size,1,none⟩=some (.slice X Z ct)/\V.cell? ⟨w.heap.size+1,0,none⟩=some (.slice S Q O)/\V.cell? ⟨w.heap.size+1,1,none⟩=some (.slice Y Z K)):=λV N=>by have x1:=x0.af N;have y1:=y0.af N;exact ⟨x1.cell 0 rfl,x1.cell 1 rfl,y1.cell 0 rfl,y1.cell 1 rfl⟩
 have D:=Z5 C;clear hW x0 y0;have Hc:=Z5 (HR W C);obtain ⟨c0,c1,c2,A⟩:=HS W (KU _ _);clear C HR;go_wp2_with fail;refine Hc.mono ?_;rintro e w1 ⟨rfl,r1⟩;have r:=r1.below;clear c0 c1 c2 A Hc r1;obtain ⟨c0,c1,c2,A⟩:=HS w1 r;go_wp2_with fail;go_loopw [5] (λiv wr=>∃k:Nat,k<=Z/\iv = cG k/\PY W wr) (λi _=>Z - (intOf i).toNat);case atStart=>exact ⟨0,K0 _,rfl,r⟩
 case round =>
  obtain ⟨k,hk,rfl,G⟩:=hrel
  clear c0 c1 c2 A
  obtain ⟨c0,c1,c2,A⟩:=HS wr G
  by_cases hlt:k<Z
  ·obtain ⟨F,m1,d1,H,E,d2,j⟩:=HT k hlt
   have Hk2:=Z5 j
   have z:=Z5 G
   clear j G
   have HSk:Hid (∀V,PY W V->V.cell? ⟨w.heap.size,0,none⟩=some (.slice U ns cs)/\V.cell? ⟨w.heap.size,1,none⟩=some (.slice X Z ct)/\V.cell? ⟨w.heap.size+1,0,none⟩=some (.slice S Q O)/\V.cell? ⟨w.heap.size+1,1,none⟩=some (.slice Y Z K)/\V.cell? ⟨ablk X,aJ X+k,none⟩=some (.slice F m1 d1)/\V.cell? ⟨ablk Y,aJ Y+k,none⟩=some (.slice H E d2)/\PY W V):=λV N=>by obtain ⟨a0,a1,a2,a3⟩:=HS V N;obtain ⟨a4,a5,_⟩:=Hk2 V (Pm D.out N);exact ⟨a0,a1,a2,a3,a4,a5,N⟩
   have Hca:Hid (∀V,PY W V->Calls prog 79 #[.agg #[.slice F m1 d1],.agg #[.slice H E d2]] V λe w'=>e = .returned (.bool true)/\PY V w'):=λV N=>(Hk2 V (Pm D.out N)).2.2
   clear c0 c1 c2 A
   obtain ⟨c0,c1,c2,A,_⟩:=HSk wr z.out
   go_wp2_with fail
   go_region_held3 (λV=>V.cell? ⟨w.heap.size,0,none⟩=some (.slice U ns cs)/\V.cell? ⟨w.heap.size,1,none⟩=some (.slice X Z ct)/\V.cell? ⟨w.heap.size+1,0,none⟩=some (.slice S Q O)/\V.cell? ⟨w.heap.size+1,1,none⟩=some (.slice Y Z K)/\V.cell? ⟨ablk X,aJ X+k,none⟩=some (.slice F m1 d1)/\V.cell? ⟨ablk Y,aJ Y+k,none⟩=some (.slice H E d2)/\PY W V)
    ((refine HSk _ ?_;first | exact z.drew | (go_split_ands;first | assumption | exact Pm (by assumption) (by assumption))))
    (first
     | (go_at_call 79;((with_reducible refine (Hca.out _ (by go_split_ands;assumption)).mono ?_);rintro e w6 ⟨rfl,hb6⟩)))
   have hbV:PY W w6:=by go_split_ands;assumption
   go_wp2_with fail
   go_roundw
   case rel=>exact ⟨k+1,by omega,by go_num,hbV⟩
   case measure=>simp [intOf] <;> omega
  ·obtain rfl:k=Z:=by omega
   have hF:=Pm D.out G
   go_wp2_with fail
   go_ret
   exact ⟨rfl,hF⟩
section
variable {P M:Int} {mod:LI} {m:Nat} {L:Ll}
theorem ud:∀ {k:Nat},lcTo P M mod m L k=0->∀j,j<k->(oS P M mod m L j).1=0
 | 0,_,j,Z=>absurd Z (Nat.not_lt_zero j)
 | k+1,h,j,Z=>by
  by_cases h0:lcTo P M mod m L k=0
  ·rcases LP j k with h1 | h1
   ·exact ud h0 j h1
   ·obtain rfl:j=k:=by omega
    rw [lcTo,KX h0] at h;exact h
  ·exact absurd h (l8 rfl h0 1 ▸ h0)
theorem EN {k j:Nat} (h:j<k) (h0:(oS P M mod m L j).1=0):oo (gK P M mod m L k) j=(oS P M mod m L j).2:=by rw [oL (by unfold gK;simpa using h)];unfold gK;simp [h0]
theorem ya {Z:Ll} {TT:List Ll}:∀ {k:Nat},(∀j,j<k->tB P M mod m L j (ai Z j) (oo TT j)=true)->lkTo P M mod m L Z TT k=true
 | 0,_=>rfl
 | k+1,h=>by rw [lkTo,ya λj Y=>h j (by omega),h k (by omega)];rfl
theorem Dl (Z:aI P M mod m L=0) (h:∀j,j<m->tB P M mod m L j (ai (bW P M mod m L) j) (oo (gK P M mod m L m) j)=true):xA P M mod m L (bW P M mod m L) (gK P M mod m L m)=0:=by unfold xA;rw [KX Z,KX];refine ⟨by rw [lD],by unfold gK;simp,?_⟩;rw [KV];exact ya h
end
theorem ED {P M:Int} {mod:LI} {m:Nat} {L:Ll} (Y:aI P M mod m L=0) {x:LI} (Z:Vc (ah P M.toNat mod).El m x):iH P M mod m L x=0:=by
 unfold iH;rw [KX Y];have U:((ah P M.toNat mod).q:Int)=aK P M:=by obtain ⟨m1,e1,_,h1,_⟩:=eQ (aL Y).1;rw [show M.toNat=m1 by omega];exact h1
 unfold lk;rw [KX (by rw [Z.1];simp)];unfold iO;rw [KX];unfold ez;refine List.all_eq_true.2 λy X=>?_;have h:=Z.2 y X;unfold iQ;simp;exact ⟨h.1,by have:=h.2;omega⟩
theorem Ai {P M:Int} {mod:LI} {N:Int} {L:Ll} {y:LI} {W:Int} (h:(gM P M mod N L y W).1=0):mI P M mod N L y W (gM P M mod N L y W).2=0:=by
 unfold gM mI at *;by_cases h0:ew P M mod N L y W=0
 ·rw [KX h0] at h ⊢;rw [KX h0];refine DV ?_;rw [<- h]
 ·rw [KY h0] at h;exact absurd h h0
section
variable {P M:Int} {mod:LI} {m:Nat} {L:Ll}
theorem Js (X:aI P M mod m L=0) {k:Nat} {x:LI} (U:x ∈ oD P M mod m L) (h1:nth x k=1) {T:Ll} (Q:mI P M mod m (da P M mod m L k) x ((iK x:Int) - 1) T=0):tB P M mod m L k x T=true:=by
 obtain ⟨Y,S⟩:=(pJ X).1 U;have Z:=(gS X).1;have hw:=ED Z Y;have e1:aU (ah P M.toNat mod) L m=gG (ah P M.toNat mod).ops m L:=by unfold aU gG bq;rfl
 have O:qt P M mod m (aU (ah P M.toNat mod) L m) x=true:=by unfold qt;rw [KX hw,KV];exact (Gq Z Y).2 (by rw [e1];exact S)
 unfold tB;simp [hw,O,h1,Q]
theorem Kb (h:ky P M mod m L=0):xA P M mod m L (bW P M mod m L) (gK P M mod m L m)=0:=by
 unfold ky at h;by_cases Z:fy P M mod m L=0
 ·rw [KX Z,KV] at h;obtain ⟨X,_,hne⟩:=kc Z;rw [KV] at hne;refine Dl X λj Y=>?_;obtain ⟨_,_,h3,S⟩:=nN X hne Y;have U:=ud h j Y;rw [EN Y U];exact Js X h3 S (Ai U)
 ·rw [KY Z] at h;exact absurd h Z
end
section
variable {P M:Int} {mod:LI} {m:Nat} {L:Ll}
def mxI (V:LI):Nat->Int
 | 0=>0
 | k+1=>max (mxI V k) (nth V k)
theorem CA (h:fy P M mod m L=0):∀k,k<=m->mxI (vy (bW P M mod m L) m) k=mxS (bW P M mod m L) m k
 | 0,_=>rfl
 | k+1,Q=>by
  obtain ⟨Y,_,hne⟩:=kc h;rw [KV] at hne;obtain ⟨_,h2,_,X⟩:=nN Y hne (show k<m by omega);have S:(bW P M mod m L).length=m:=lD;have Z:=Gs h2 (show k<m by omega) (by rw [X];decide);have U:nth (vy (bW P M mod m L) m) k=((b8 (ai (bW P M mod m L) k) m k).length:Int):=by unfold vy;rw [K5 (by omega),aj (by rw [Lc];omega),LU,<- aE (by omega),<- Z];omega
  rw [mxI,mxS,CA h k (by omega),U]
end
section
open Go.RowKit
end
def Ks (S:Int) (U:Ll) (TT:List Ll) (w:World) (e:Ending) (w':World):Prop :=
 PY w w'/\∃Y ns cs Z X ct,e = .returned (.tuple #[.agg #[.slice Y ns cs,.slice Z X ct],cG S])/\bw w' Y ns U/\fQ w' Z X TT
theorem fQ.Fk (w:World):fQ w none 0 []:=⟨rfl,λh=>by omega,by unfold maxLen;omega,λi hi=>by omega⟩
theorem bw.Fk (w:World):bw w none 0 []:=⟨rfl,λh=>by omega,by unfold maxLen;omega,λi hi=>by omega⟩
theorem Km {P M:Int} {mod:LI} {N:Int} {L:Ll} {w:World} {e:Ending} {w':World} (h:kM P M mod N L w e w') :
  Ks (ky P M mod N L) (if ky P M mod N L=0 then bW P M mod N.toNat L else []) (if ky P M mod N L=0 then gK P M mod N.toNat L N.toNat else []) w e w':=by
 obtain ⟨b,⟨h0,rfl⟩ | ⟨h0,Y,cs,Z,ct,rfl,h1,h2⟩⟩:=h
 ·rw [KY h0,KY h0];exact ⟨b,none,0,0,none,0,0,rfl,bw.Fk _,fQ.Fk _⟩
 ·rw [KX h0,KX h0];exact ⟨b,Y,_,cs,Z,_,ct,by rw [h0],h1,h2⟩
end Go.Proofs.YthglbncgemdcbaaGreat
