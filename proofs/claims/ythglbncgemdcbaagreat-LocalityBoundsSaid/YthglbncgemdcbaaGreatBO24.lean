import Derived.Test.YthglbncgemdcbaaGreatBO23
import Derived.Test.YthglbncgemdcbaaGreatBO22
namespace Go.Proofs.YthglbncgemdcbaaGreat
set_option linter.all false
set_option maxRecDepth 100000
set_option maxHeartbeats 8000000
open Go.RowKit Go.Proofs.Tryz
section
open Go.RowKit
end
section
open Go.RowKit
end
section
open Go.RowKit
end
section
open Go.RowKit
end
section
open Go.RowKit
end
section
open Go.RowKit
end
def gE (O:aL) (v:Lz):Lz:=v.map λx=>O.mul (O.inv (nth v (fnz v))) x
def dy (O:aL) (b w:Lz):Lz :=
 if bY w=0\/(bY b ≠ 0/\bY b<bY w) then b else if bY b=0\/bY w<bY b\/cmpL (gE O w) b<0 then gE O w else b
def lH (O:aL) (f:ZZ->Lz->ZZ) (cs:Lz):ZZ->Lz->ZZ
 | [],_=>[]
 | r :: R,v=>(cs.flatMap λa=>f R (gO O v a r)) ++ lH O f cs R v
def gS (O:aL) (cs:Lz):Nat->ZZ->Lz->ZZ
 | 0,_,v=>[v]
 | l+1,R,v=>lH O (gS O cs l) cs R v
def lG (O:aL) (cs c0:Lz):Nat->ZZ->Lz->ZZ
 | 0,_,v=>[v]
 | l+1,R,v=>lH O (gS O cs l) c0 R v
theorem EE (O:aL) (cs:Lz):∀(l:Nat) (R:ZZ) (v:Lz),lG O cs cs l R v=gS O cs l R v
 | 0,_,_=>rfl
 | _+1,_,_=>rfl
def eQ (q:Nat):Lz:=(List.range (q - 1)).map λ(i:Nat)=>(i:Int)+1
theorem pa (q:Nat):(eQ q).length=q - 1:=by simp [eQ]
theorem EM {q a:Nat} (h:a<q - 1):(eQ q).drop a=((a:Int)+1) :: (eQ q).drop (a+1):=by rw [NX (by rw [pa];exact h)];simp [eQ]
theorem tZ {q:Nat} {x:Int}:x ∈ eQ q ↔ 1<=x/\x<q:=by
 unfold eQ;rw [OW];constructor
 ·rintro ⟨i,hi,rfl⟩;rw [OG] at hi;omega
 ·intro h;exact ⟨(x - 1).toNat,by rw [OG];omega,by omega⟩
theorem nI (O:aL) (cs c0:Lz):∀(l:Nat) (R:ZZ) (v:Lz),R.length<=l->lH O (gS O cs l) c0 R v=[]
 | _,[],_,_=>rfl
 | 0,_ :: _,_,h=>by simp at h
 | l+1,r :: R,v,h=>by rw [lH,nI O cs c0 (l+1) R v (by simp at h;omega),OS];rw [QD];intro a _;exact nI O cs cs l R _ (by simp at h;omega)
theorem nG (O:aL) (cs c0:Lz) (l:Nat) (g:Nat->Nat) (Z:∀R v,(gS O cs l R v).length=g R.length):∀(R:ZZ) (v:Lz),(lH O (gS O cs l) c0 R v).length=c0.length * ((List.range R.length).map g).sum
 | [],_=>by simp [lH]
 | r :: R,v=>by rw [lH,Ni,nG O cs c0 l g Z R v,Ql,NO,Ot,NT,RN];have h:c0.map (λa=>(gS O cs l R (gO O v a r)).length)=c0.map λ_=>g R.length:=N6 λa _=>Z R _;rw [h,QQ,PZ,Qc];simp;omega
theorem sR (O:aL) (cs:Lz):∀(l:Nat) (R:ZZ) (v:Lz),(gS O cs l R v).length=dW R.length l * cs.length ^ l
 | 0,R,v=>by cases R<;>simp [gS,dW]
 | l+1,R,v=>by
  rw [gS,nG O cs cs l (λn=>dW n l * cs.length ^ l) (λR v=>sR O cs l R v) R v];have e:((List.range R.length).map λn=>dW n l * cs.length ^ l).sum=dW R.length (l+1) * cs.length ^ l:=by
   rw [<- xe];generalize List.range R.length=X;induction X with
   | nil=>simp
   | cons x X Z=>simp [Z,PT]
  rw [e,Pf,Oz (cs.length ^ l),Nat.mul_left_comm]
theorem th (O:aL) (cs:Lz) (x:Int) (l:Nat) (R:ZZ) (v:Lz):(lG O cs [x] (l+1) R v).length=dW R.length (l+1) * cs.length ^ l:=by
 rw [lG,nG O cs [x] l (λn=>dW n l * cs.length ^ l) (λR v=>sR O cs l R v) R v];have e:((List.range R.length).map λn=>dW n l * cs.length ^ l).sum=dW R.length (l+1) * cs.length ^ l:=by
  rw [<- xe];generalize List.range R.length=X;induction X with
  | nil=>simp
  | cons x X Z=>simp [Z,PT]
 rw [e];simp
theorem sF (x:Int) (w:ej):Calls prog 249 #[cG x] w λe w'=>e = .returned (.bool (x != 0))/\w=w':=by go_enter func249,ntmps249;go_wp2;go_ret;exact ⟨rfl,rfl⟩
theorem BN (a:OA) (n c:Nat) (l:Lz) (w:ej) (hi:Ints w a n l) :
  Calls prog 111 #[.slice a n c,.func (.func 249) #[] #[]] w λe w'=>e = .returned (cG (iX l))/\w=w':=by
 have Z:=Z5 hi.len;have K:=hi.pl;have U:=hi.max;unfold maxLen at U;go_enter func111,ntmps111;go_wp2_with fail;go_loop [8] (λS=>∃k:Nat,k<=n/\S = cG k/\Hid (∀j,j<k->nth l j=0)) (λS=>n - (intOf S).toNat);case atStart=>exact ⟨0,Nb _,rfl,λj H=>by omega⟩
 case round =>
  obtain ⟨k,F,rfl,Y⟩:=hrel
  by_cases X:k<n
  ·have G:=hi.cell k X
   by_cases V:nth l k=0
   ·have N:(nth l k != 0)=false:=by simpa using V
    have I:=Z5 V
    clear V
    go_wp2_with fail
    refine (sF _ _).mono ?_
    rintro e w' ⟨rfl,rfl⟩
    go_wp2_with fail
    go_round
    case rel=>exact ⟨k+1,by omega,by go_num,λj H=>by
     rcases NU j k with h | h
     ·exact Y j h
     ·rw [show j=k by omega];exact I⟩
    case measure=>simp [intOf]<;>omega
   ·have N:(nth l k != 0)=true:=by simpa using V
    have Q:Hid (iX l=k):=by show _=_;have:=wU l k (by rw [Z.out];exact X) Y.out V;rw [iX,this,M7 (by rw [Z.out];exact X)]
    clear V
    go_wp2_with fail
    refine (sF _ _).mono ?_
    rintro e w' ⟨rfl,rfl⟩
    go_wp2_with fail
    go_ret
    exact ⟨aK Q.symm,rfl⟩
  ·obtain rfl:k=n:=by omega
   have Q:Hid (iX l = -1):=by show _=_;have:=nR l (by rw [Z.out];exact Y);rw [iX,this,M8 (by omega)]
   go_wp2_with fail
   go_ret
   exact ⟨aK Q.symm,rfl⟩
theorem iL (a:OA) (n c:Nat) (l:Lz) (w:ej) (h:Ints w a n l) :
  Calls prog 98 #[.slice a n c] w λe w'=>e = .returned (cG (bY l))/\w'=w:=by
 have N:=Z5 h.len;have H:=h.pl;have V:=h.max;unfold maxLen at V;have hle:∀k,k<=n->(bY (l.take k):Int)<=k:=λk I=>by have h1:bY (l.take k)<=(l.take k).length:=Pt;rw [NH] at h1;omega
 have Q:=Z5 hle;have G:Hid (bY (l.take n)=bY l):=by show _=_;rw [Nj (by rw [N.out];exact M4 _)]
 clear hle;go_enter func98,ntmps98;go_wp2_with fail;go_loopw [3,8] (λE S wr=>∃k:Nat,k<=n/\S = cG k/\E = cG (bY (l.take k))/\wr=w) (λ_ S _=>n - (intOf S).toNat);case atStart=>exact ⟨0,Nb _,rfl,by simp [bY],rfl⟩
 case round =>
  obtain ⟨k,I,rfl,rfl,rfl⟩:=hrel
  by_cases U:k<n
  ·have F:=h.cell k U
   have Y:k<l.length:=by rw [N.out];exact U
   have Z:bY (l.take (k+1))=bY (l.take k)+(if nth l k ≠ 0 then 1 else 0):=by unfold bY;rw [Nh Y,PN,P3,an Y];simp
   have hb:=Q k I
   obtain ⟨t,K⟩:∃t,bY (l.take k)=t:=⟨_,rfl⟩
   obtain ⟨y,hy⟩:∃y,nth l k=y:=⟨_,rfl⟩
   rw [K] at Z hb ⊢
   rw [hy] at Z F
   clear K hy Y
   by_cases h0:y=0
   ·have hd:(y != 0)=false:=by simpa using h0
    have X:Hid (bY (l.take (k+1))=t):=by show _=_;rw [Z,M8 (by simpa using h0)];rfl
    clear h0 Z
    go_wp2_with fail
    go_roundw
    case rel=>exact ⟨k+1,by omega,by go_num,by rw [X.out],by simp⟩
    case measure=>simp [intOf]<;>omega
   ·have hd:(y != 0)=true:=by simpa using h0
    have X:Hid (bY (l.take (k+1))=t+1):=by show _=_;rw [Z,M7 h0]
    clear h0 Z
    go_wp2_with fail
    go_roundw
    case rel=>exact ⟨k+1,by omega,by go_num,by rw [X.out];go_num,by simp⟩
    case measure=>simp [intOf]<;>omega
  ·obtain rfl:k=n:=by omega
   rw [G.out]
   go_wp2_with fail
   go_ret
   exact ⟨rfl,rfl⟩
structure ph (F:Nat->Prop) (w:ej) (a:OA) (n:Nat) (l:Lz):Prop where
 ints:Ints w a n l
 lo:0<n->¬ F (ablk a)
structure xY (F:Nat->Prop) (w:ej) (g b:Nat) (P M:Int) (am:OA) (mn cm:Nat) (N:Int) (a:OA) (n c:Nat) (ag:OA) (ng cg:Nat) (ab:OA) (cb:Nat) (B:Lz) (k:Nat):Prop where
 box:aQ w g [ea b 0,cG P,cG M,.slice am mn cm,cG N,.slice a n c,.slice ag ng cg,.slice ab B.length cb,cG k]
 best:ph F w ab B.length B
def One (g:Nat) (x:Nat):Prop:=x=g
theorem bH.cQ {w w':ej} {g:Nat} {a:OA} {n:Nat} {l:Lz} (h:bH (g+1) w a n l) (Z:aB w w' (One g) (One g)):bH (g+1) w' a n l :=
 ⟨h.ints.cQ Z λY e=>by have:=h.lo Y;rw [show ablk a=g from e] at this;omega,h.lo⟩
theorem ph.cQ {F:Nat->Prop} {w w':ej} {g:Nat} {a:OA} {n:Nat} {l:Lz} (h:ph F w a n l) (Z:aB w w' (One g) (One g)) (hF:F g):ph F w' a n l :=
 ⟨h.ints.cQ Z λY e=>h.lo Y (by rw [show ablk a=g from e];exact hF),h.lo⟩
theorem GC {w0 w:ej} {b g:Nat} {G:bX} {P M:Int} {am:OA} {mn cm:Nat} {N:Int} {a:OA} {n c:Nat} {ag:OA} {ng cg:Nat} {ab:OA} {cb:Nat} {B:Lz} {k:Nat} (av:OA) (Q cv:Nat) (v:Lz)
  {F:Nat->Prop} (hF:F g) (hFl:∀x,F x->x<w.heap.size) (h:dg w0 b G) (hb:SJ w0 w) (hg:w0.heap.size<=g) (hs:xY F w g b P M am mn cm N a n c ag ng cg ab cb B k) (hv:bH (g+1) w av Q v) (hve:G.vn v) (hnv:Q<=1000000) (hk:k<=1000000) :
  Calls prog 209 #[ea g 0,.slice av Q cv] w λe w'=>e = .returned (.tuple #[])/\∃j A,xY F w' g b P M am mn cm N a n c ag ng cg j A (dy G.ops B v) (k+1)/\aB w w' (One g) (One g):=by
 have Hops:=Z5 (show G.ops.mul=G.mul/\G.ops.inv=G.inv from ⟨rfl,rfl⟩);have c0:=hs.box.cell 0 rfl;have c7:=hs.box.cell 7 rfl;have c8:=hs.box.cell 8 rfl;have f8:=hs.box.frozen 8;have kw:IntKind.i64.wrap ((k:Int)+1)=(k:Int)+1:=Nn _ (by omega);go_enter func209,ntmps209;go_upto_region 1 with fail;obtain ⟨V,hV⟩:∃V,w.setCell ⟨g,8,none⟩ (cG ((k:Int)+1))=V:=⟨_,rfl⟩
 rw [hV];have D:=hs.box.LW 8 (cG ((k:Int)+1));rw [hV] at D;have hMV:aB w V (One g) (One g):=by rw [<- hV];exact SG w g 8 _
 have K:=hv.cQ hMV;have hBV:=hs.best.cQ hMV hF;have HF0:=Z5 (Ng hF hFl);have hVV:SJ w0 V:=hb.trans (hMV.below (λx hx=>by rw [show x=g from hx];exact hg) hb.size);clear c0 c7 c8 f8 hV kw;obtain ⟨d,hd⟩:∃d,bY B=d:=⟨_,rfl⟩
 have Hd:=Z5 hd;have c0:=D.cell 0 rfl;have c7:=D.cell 7 rfl;have hdl:d<=B.length:=by rw [<- hd];exact Pt
 have hBmax:=hBV.ints.max;unfold maxLen at hBmax;go_upto_if 23 with fail;go_cut [4] (λdv wx=>dv = cG (d:Nat)/\wx=V);case first =>
  rcases Om B.length with h0 | h0
  ·have d1:decide ((0:Int)<(B.length:Int))=false:=Nu (by omega)
   have d1':decide (0<B.length)=false:=Nu (by omega)
   obtain rfl:d=0:=by omega
   go_wp2_with fail
   go_meet
   exact ⟨by rw [h0],rfl⟩
  ·have d1:decide ((0:Int)<(B.length:Int))=true:=Nv (by omega)
   have d1':decide (0<B.length)=true:=Nv h0
   go_wp2_with fail
   refine (iL ab B.length cb B V hBV.ints).mono ?_
   rintro e w' ⟨rfl,rfl⟩
   rw [hd]
   go_wp2_with fail
   go_meet
   exact ⟨rfl,rfl⟩
 obtain ⟨rfl,rfl⟩:=hcut;generalize wc=V1 at *;have hb2:aQ V1 g [ea b 0,cG P,cG M,.slice am mn cm,cG N,.slice a n c,.slice ag ng cg,.slice ab B.length cb,cG ((k+1:Nat):Int)]:=by rw [show ((k:Int)+1)=((k+1:Nat):Int) by omega] at D;exact D
 have Z:=Z5 (Ng hb2 hBV);have HMV:=Z5 hMV;have E:v.length=Q:=K.ints.len;obtain ⟨z,hz⟩:∃z,bY v=z:=⟨_,rfl⟩
 have hzv:z<=Q:=by rw [<- hz,<- E];exact Pt
 clear D hb2 hMV hv hb hs;go_wp2_with fail;refine (iL av Q cv v V1 K.ints).mono ?_;rintro e w' ⟨rfl,hw'⟩;obtain rfl:=hw'.symm;rw [hz];by_cases hA:z=0\/(d ≠ 0/\d<z)
 ·have HL:Hid (dy G.ops B v=B):=by show _=_;unfold dy;rw [Hd.out,hz,M7 hA]
  rcases hA with rfl | ⟨h1,h2⟩
  ·clear hz;go_wp2_with fail;(try simp only [Exit.inBlock,Exit.then])
   refine bodyPost_ret (results_none rfl _ _ _) rfl ?_;exact ⟨rfl,ab,cb,by rw [HL.out];exact ⟨Z.1,Z.2⟩,HMV⟩
  ·have e0:((z:Int) == 0)=false:=by simp;omega
   have e1:decide (0<d)=true:=Nv (by omega);have e2:decide (d<z)=true:=Nv h2;clear hz hd h1 h2;go_wp2_with fail;(try simp only [Exit.inBlock,Exit.then])
   refine bodyPost_ret (results_none rfl _ _ _) rfl ?_;exact ⟨rfl,ab,cb,by rw [HL.out];exact ⟨Z.1,Z.2⟩,HMV⟩
 have hz0:z ≠ 0:=λe=>hA (.inl e);have Hz:=Z5 hz;have HA:=Z5 hA;have hvz:bY v ≠ 0:=by rw [hz];exact hz0
 obtain ⟨f,hf⟩:∃f,fnz v=f:=⟨_,rfl⟩
 have hfl:f<Q:=by rw [<- hf,<- E];refine Of λhn=>hvz ?_;unfold bY;rw [PK];intro y hy;obtain ⟨i,hi,rfl⟩:=List.mem_iff_getElem.1 hy;have:=mi v i (by omega);rw [an hi] at this;simp [this]
 have hfv:iX v=f:=by unfold iX;rw [hf,E,M7 hfl]
 have hfn:nth v f ≠ 0:=by rw [<- hf];exact j5 v (by rw [hf,E];exact hfl)
 have elf:G.El (nth v f):=hve.nth (by rw [E];exact hfl);have Hf:=Z5 hf;have e0:((z:Int) == 0)=false:=by simp;omega
 clear hz hf hd;go_upto_region 5 with fail;go_cut [41] (λbv wx=>bv = .bool false/\wx=V1);case first =>
  by_cases h1:d=0
  ·subst h1
   go_wp2_with fail
   go_meet
   exact ⟨rfl,rfl⟩
  ·have e1:decide (0<d)=true:=Nv (by omega)
   have e2:decide (d<z)=false:=by simp;exact Nat.le_of_not_lt λh=>hA (.inr ⟨h1,h⟩)
   clear h1 hA
   go_wp2_with fail
   go_meet
   exact ⟨rfl,rfl⟩
 obtain ⟨rfl,rfl⟩:=hcut;generalize wc=V2 at *;have c0:=Z.1.cell 0 rfl;clear c7 hdl hBmax hA e0;go_wp2_with fail;refine (BN av Q cv v V2 K.ints).mono ?_;rintro e w' ⟨rfl,rfl⟩;rw [hfv];have ev:=K.ints.cell f hfl;have hplv:=K.ints.pl;have HGV:Hid (dg V2.drew b G/\∀n,dg (V2.drewN n) b G):=⟨(h.ai hVV).ai (M5 _ _).drew,λn=>(h.ai hVV).drewN n⟩
 have Hfn:=Z5 hfn;clear hfv hfn;go_upto_region 7 with fail;go_cut [7] (λdv wx=>dv = cG (G.inv (nth v f))/\bm V2 wx);case first =>
  go_region_held3 (λw'=>w'.cell? ⟨g,0,none⟩=some (ea b 0)/\w'.cell? ⟨ablk av,aN av+f,none⟩=some (cG (nth v f)))
   (exact ⟨c0,ev⟩)
   (first
   | (go_at_call 201;((with_reducible refine (Af _ HGV.out.1 elf Hfn.out).mono ?_);rintro e C ⟨m4,rfl,rfl⟩)))
  all_goals (
   go_step;go_step
   go_meet
   exact ⟨rfl,⟨_,rfl⟩⟩)
 obtain ⟨rfl,H⟩:=hcut;generalize wc=V3 at *;have hvV3:=K.ints.ai H.below;have h3:=Z.1.ai H.below;have c0:=h3.cell 0 rfl;have hiel:G.El (G.inv (nth v f)):=SA h _;have hG3:=h.ai (H.tO hVV);obtain ⟨U,hN⟩:∃U,v.map (G.mul (G.inv (nth v f)))=U:=⟨_,rfl⟩
 have hmon:gE G.ops v=U:=by show v.map (λx=>G.mul (G.inv (nth v (fnz v))) x)=U;rw [Hf.out];exact hN
 have hNl:U.length=Q:=by rw [<- hN,No];exact E
 have Hsc:=Z5 (pK (G.inv (nth v f)) av Q cv v hG3 hiel hvV3 hve hnv);rw [hN] at Hsc;unfold cR at Hsc;rw [hNl] at Hsc;have hsz:=Z.1.1;clear hN hG3 K hvV3 ev;go_wp2_with fail;refine Hsc.mono ?_;rintro e C ⟨a4,c4,rfl,X,hb4⟩;have I:SJ V2 C:=RU H.below hb4;have h4:=Z.1.ai I;have c0:=h4.cell 0 rfl;have c7:=h4.cell 7 rfl;have f7:=h4.frozen 7;have hB4:ph F C ab B.length B:=⟨Z.2.ints.ai I,Z.2.lo⟩
 have hN4:ph F C a4 Q U:=⟨(RW X).1,λhn hFa=>by have h1:=(aP X (by intro e;have:=((RW X).1).pl hn;rw [e] at this;cases this)).1;have h2:=H.below.size;have h3:=HF0.2 _ hFa;have h4:=HMV.size;omega⟩
 have hM4:aB w C (One g) (One g):=HMV.trans (RZ I _);have hput:=h4.LW 7 (.slice a4 Q c4);have hMp:aB w (C.setCell ⟨g,7,none⟩ (.slice a4 Q c4)) (One g) (One g):=hM4.trans (SG C g 7 _);have hNp:=hN4.cQ (SG C g 7 (.slice a4 Q c4)) HF0.1;have HF:Hid (dy G.ops B v=U->∃j A,xY F (C.setCell ⟨g,7,none⟩ (.slice a4 Q c4)) g b P M am mn cm N a n c ag ng cg j A (dy G.ops B v) (k+1)/\aB w (C.setCell ⟨g,7,none⟩ (.slice a4 Q c4)) (One g) (One g)):=λe=>by rw [e];exact ⟨a4,c4,⟨by rw [hNl];exact hput,by rw [hNl];exact hNp⟩,hMp⟩
 have HF2:Hid (dy G.ops B v=B->∃j A,xY F C g b P M am mn cm N a n c ag ng cg j A (dy G.ops B v) (k+1)/\aB w C (One g) (One g)):=λe=>by rw [e];exact ⟨ab,cb,⟨h4,hB4⟩,hM4⟩
 have hcmp:=qt a4 Q c4 U ab B.length cb B C hN4.ints hB4.ints;have Hcmp:=Z5 hcmp;have S:dy G.ops B v=if d=0\/z<d\/cmpL U B<0 then U else B:=by unfold dy;rw [hmon,Hd.out,Hz.out,M8 HA.out]
 clear X hb4 I h4 hB4 hN4 hM4 hput hMp hNp hcmp h3 H hmon;by_cases h1:d=0
 ·have Y:dy G.ops B v=U:=by rw [S,M7 (.inl h1)]
  have HH:=Z5 (HF Y);subst h1;clear S Y;go_wp2_with fail;go_end0;exact ⟨rfl,HH⟩
 have e1:((d:Int) == 0)=false:=by simp;exact h1
 by_cases h2:z<d
 ·have Y:dy G.ops B v=U:=by rw [S,M7 (.inr (.inl h2))]
  have HH:=Z5 (HF Y);have e2:decide (z<d)=true:=by simpa using h2
  clear S Y h1 h2;go_wp2_with fail;go_end0;exact ⟨rfl,HH⟩
 have e2:decide (z<d)=false:=by simpa using h2
 by_cases h3:cmpL U B<0
 ·have Y:dy G.ops B v=U:=by rw [S,M7 (.inr (.inr h3))]
  have HH:=Z5 (HF Y);have e3:decide (cmpL U B<0)=true:=by simpa using h3
  clear S Y h1 h2 h3;generalize cmpL U B=y at *;go_wp2_with fail;refine Hcmp.mono ?_;rintro e w5 ⟨rfl,rfl⟩;go_wp2_with fail;go_end0;exact ⟨rfl,HH⟩
 ·have Y:dy G.ops B v=B:=by rw [S,M8 (by rintro (h | h | h);exact h1 h;exact h2 h;exact h3 h)]
  have HH:=Z5 (HF2 Y);have e3:decide (cmpL U B<0)=false:=by simpa using h3
  clear S Y h1 h2 h3;generalize cmpL U B=y at *;go_wp2_with fail;refine Hcmp.mono ?_;rintro e w5 ⟨rfl,rfl⟩;go_wp2_with fail;go_end0;exact ⟨rfl,HH⟩
theorem vY:∀a:Lz,cmpL a a=0
 | []=>rfl
 | x :: a=>by rw [cmpL,M8 (by omega),M8 (by omega),vY a]
theorem vI:∀a b:Lz,cmpL b a = - cmpL a b
 | [],[]=>rfl
 | [],_ :: _=>rfl
 | _ :: _,[]=>rfl
 | x :: a,y :: b=>by
  rw [cmpL,cmpL];by_cases h1:x<y
  ·rw [M8 (by omega),M7 h1,M7 h1];rfl
  ·by_cases h2:y<x
   ·rw [M7 h2,M8 h1,M7 h2]
   ·rw [M8 h2,M8 h1,M8 h1,M8 h2,vI a b]
theorem Dy:∀ {a b c:Lz},cmpL a b<=0->cmpL b c<=0->cmpL a c<=0
 | [],_,[],_,_=>by rw [cmpL];omega
 | [],_,_ :: _,_,_=>by rw [cmpL];omega
 | _ :: _,[],_,h,_=>by rw [cmpL] at h;omega
 | _ :: _,_ :: _,[],_,h=>by rw [cmpL] at h;omega
 | x :: a,y :: b,z :: c,h,Z=>by
  rw [cmpL] at h Z ⊢;by_cases h1:x<y
  ·by_cases h3:z<y
   ·rw [M8 (by omega),M7 h3] at Z;omega
   ·rw [M7 (by omega)];omega
  ·rw [M8 h1] at h;by_cases h2:y<x
   ·rw [M7 h2] at h;omega
   ·rw [M8 h2] at h;by_cases h3:y<z
    ·rw [M7 (by omega)];omega
    ·rw [M8 h3] at Z;by_cases h4:z<y
     ·rw [M7 h4] at Z;omega
     ·rw [M8 h4] at Z;rw [M8 (by omega),M8 (by omega)];exact Dy h Z
def sB (b x:Lz):Prop:=bY b<bY x\/(bY b=bY x/\cmpL b x<=0)
theorem sB.refl (b:Lz):sB b b:=.inr ⟨rfl,by rw [vY];omega⟩
theorem sB.trans {a b c:Lz} (h:sB a b) (Z:sB b c):sB a c:=by
 rcases h with h | ⟨h,g⟩
 ·rcases Z with Z | ⟨Z,_⟩
  ·exact .inl (by omega)
  ·exact .inl (by omega)
 ·rcases Z with Z | ⟨Z,Y⟩
  ·exact .inl (by omega)
  ·exact .inr ⟨by omega,Dy g Y⟩
theorem sB.wt {a b:Lz} (h:sB a b):bY a<=bY b:=by rcases h with h | ⟨h,_⟩<;>omega
theorem jn {x:Lz}:bY x=0 ↔ ∀y ∈ x,y=0:=by
 unfold bY;rw [PK];constructor
 ·intro h y hy;have:=h y hy;simpa using this
 ·intro h y hy;rw [h y hy];simp
theorem C4:bY []=0:=rfl
theorem wV {v:Lz} (h:bY v ≠ 0):fnz v<v.length:=by refine Of λZ=>h (jn.2 λy hy=>?_);obtain ⟨i,hi,rfl⟩:=List.mem_iff_getElem.1 hy;have:=mi v i (by omega);rwa [an hi] at this
theorem kp (x:Int) (l:Lz):bY (x :: l)=bY l+if x=0 then 0 else 1:=by unfold bY;rw [Pd];by_cases h:x=0<;>simp [h]
section
variable {O:aL} {El:Int->Prop} {m:Nat}
theorem lP (F:bQ O El) {a:Int} (ha:El a) (h0:a ≠ 0):El (O.inv a)/\O.inv a ≠ 0:=by have hi:=F.cl.inv a ha h0;refine ⟨hi,λe=>?_⟩;have h1:=F.mul_inv a ha h0;rw [e,F.df ha] at h1;have h2:=F.one_mul a ha;rw [<- h1,F.lI ha] at h2;exact h0 h2.symm
theorem Aa (F:bQ O El) {s x:Int} (Z:El s) (h0:s ≠ 0) (Y:El x):O.mul s x=0 ↔ x=0 :=
 ⟨λh=>F.nE Z Y h0 h,λh=>by rw [h,F.df Z]⟩
theorem rH (F:bQ O El) {s:Int} (Z:El s) (h0:s ≠ 0):∀ {x:Lz},(∀y ∈ x,El y)->bY (x.map (O.mul s))=bY x
 | [],_=>rfl
 | y :: x,h=>by rw [Oq,kp,kp,rH F Z h0 λz Y=>h z (by simp [Y])];simp [Aa F Z h0 (h y (by simp))]
theorem wS (F:bQ O El) {s:Int} (Z:El s) (h0:s ≠ 0):∀ {x:Lz},(∀y ∈ x,El y)->fnz (x.map (O.mul s))=fnz x
 | [],_=>rfl
 | y :: x,h=>by rw [Oq,fnz,fnz,wS F Z h0 λz Y=>h z (by simp [Y])];simp [Aa F Z h0 (h y (by simp))]
theorem kD {v:Lz} (Z:Vc El m v) (h:bY v ≠ 0):El (nth v (fnz v))/\nth v (fnz v) ≠ 0 :=
 ⟨Z.at (by rw [<- Z.1];exact wV h),j5 v (wV h)⟩
theorem mz (O:aL) (v:Lz):gE O v=v.map (O.mul (O.inv (nth v (fnz v)))):=rfl
theorem ry (F:bQ O El) {v:Lz} (Z:Vc El m v) (h:bY v ≠ 0):bY (gE O v)=bY v:=by obtain ⟨h1,h2⟩:=kD Z h;obtain ⟨h3,h4⟩:=lP F h1 h2;rw [mz,rH F h3 h4 Z.2]
theorem inv_mul (F:bQ O El) {a b:Int} (ha:El a) (hb:El b) (h1:a ≠ 0) (h2:b ≠ 0):O.mul (O.inv (O.mul a b)) a=O.inv b:=by
 have Z:=F.cl.mul a b ha hb;have h0:O.mul a b ≠ 0:=λe=>h2 (F.nE ha hb h1 e);obtain ⟨Y,_⟩:=lP F Z h0;obtain ⟨X,_⟩:=lP F hb h2;have V:=F.cl.mul _ _ Y ha;have e1:O.mul (O.mul (O.inv (O.mul a b)) a) b=1:=by rw [F.mul_assoc _ _ _ Y ha hb,F.mul_comm _ _ Y Z,F.mul_inv _ Z h0]
 rw [<- F.iH V,<- F.mul_inv b hb h2,<- F.mul_assoc _ _ _ V hb X,e1,F.one_mul _ X]
theorem zh (F:bQ O El) {s:Int} (Z:El s) (h0:s ≠ 0) {v:Lz} (Y:Vc El m v) (h:bY v ≠ 0):gE O (v.map (O.mul s))=gE O v:=by obtain ⟨h1,h2⟩:=kD Y h;have S:=wV h;rw [mz,mz,wS F Z h0 Y.2,ij O v s S,PE];refine N6 λx U=>?_;have X:=Y.2 x U;obtain ⟨V,_⟩:=lP F (F.cl.mul _ _ Z h1) λe=>h2 (F.nE Z h1 h0 e);show O.mul _ (O.mul s x)=_;rw [<- F.mul_assoc _ _ _ V Z X,inv_mul F Z h1 h0 h2]
theorem BY (F:bQ O El) {v:Lz} (Z:Vc El m v) (h:bY v ≠ 0):nth (gE O v) (fnz (gE O v))=1:=by obtain ⟨h1,h2⟩:=kD Z h;obtain ⟨h3,h4⟩:=lP F h1 h2;rw [mz,wS F h3 h4 Z.2,ij O v _ (wV h),F.mul_comm _ _ h3 h1,F.mul_inv _ h1 h2]
theorem Ee (F:bQ O El) {v:Lz} (Z:Vc El m v) (h:bY v ≠ 0):gE O (gE O v)=gE O v:=by obtain ⟨h1,h2⟩:=kD Z h;obtain ⟨h3,h4⟩:=lP F h1 h2;rw [mz O v,zh F h3 h4 Z h,mz]
theorem FA (F:bQ O El) {b w:Lz} (hw:Vc El m w) (h0:bY w ≠ 0) :
  ((dy O b w=b/\bY b ≠ 0)\/dy O b w=gE O w)/\bY (dy O b w) ≠ 0/\sB (dy O b w) (gE O w)/\(bY b ≠ 0->sB (dy O b w) b):=by
 have hm:=ry F hw h0;unfold dy;by_cases h1:bY w=0\/(bY b ≠ 0/\bY b<bY w)
 ·rw [M7 h1];obtain ⟨g1,g2⟩:=h1.resolve_left h0;exact ⟨.inl ⟨rfl,g1⟩,g1,.inl (by omega),λ_=>sB.refl b⟩
 ·rw [M8 h1];by_cases h2:bY b=0\/bY w<bY b\/cmpL (gE O w) b<0
  ·rw [M7 h2];refine ⟨.inr rfl,by omega,sB.refl _,λhb=>?_⟩;rcases h2 with h2 | h2 | h2
   ·exact absurd h2 hb
   ·exact .inl (by omega)
   ·by_cases e:bY w<bY b
    ·exact .inl (by omega)
    ·refine .inr ⟨?_,by omega⟩;have:¬ bY b<bY w:=λZ=>h1 (.inr ⟨hb,Z⟩);omega
  ·rw [M8 h2];have hb:bY b ≠ 0:=λe=>h2 (.inl e);have e1:¬ bY b<bY w:=λZ=>h1 (.inr ⟨hb,Z⟩);have Z:¬ bY w<bY b:=λe=>h2 (.inr (.inl e));have Y:¬ cmpL (gE O w) b<0:=λe=>h2 (.inr (.inr e));refine ⟨.inl ⟨rfl,hb⟩,hb,.inr ⟨by omega,?_⟩,λ_=>sB.refl b⟩;rw [vI];omega
theorem vw (F:bQ O El):∀(l:ZZ) (b:Lz),(∀y ∈ l,Vc El m y/\bY y ≠ 0) ->
  ((l.foldl (dy O) b=b\/∃y ∈ l,l.foldl (dy O) b=gE O y))/\(∀y ∈ l,sB (l.foldl (dy O) b) (gE O y))/\(bY b ≠ 0->sB (l.foldl (dy O) b) b)/\(l ≠ []\/bY b ≠ 0->bY (l.foldl (dy O) b) ≠ 0)
 | [],b,_=>⟨.inl rfl,by simp,λ_=>sB.refl b,λh=>by rcases h with h | h;exact absurd rfl h;exact h⟩
 | y :: l,b,h=>by
  obtain ⟨hy,Y⟩:=h y (by simp);obtain ⟨a1,a2,a3,a4⟩:=FA F (b:=b) hy Y;obtain ⟨Q,S,V,U⟩:=vw F l (dy O b y) λz Z=>h z (by simp [Z]);rw [QR];refine ⟨?_,λz Z=>?_,λhb=>(V a2).trans (a4 hb),λ_=>U (.inr a2)⟩
  ·rcases Q with e | ⟨z,Z,e⟩
   ·rcases a1 with ⟨X,_⟩ | X
    ·exact .inl (by rw [e,X])
    ·exact .inr ⟨y,by simp,by rw [e,X]⟩
   ·exact .inr ⟨z,by simp [Z],e⟩
  ·rcases List.mem_cons.1 Z with rfl | Z
   ·exact (V a2).trans a3
   ·exact S z Z
def FC (cs c0:Lz):Lz->Prop
 | []=>True
 | a :: c=>if a=0 then FC cs c0 c else a ∈ c0/\∀b ∈ c,b ≠ 0->b ∈ cs
theorem xp {cs:Lz}:∀ {c:Lz},FC cs cs c ↔ ∀b ∈ c,b ≠ 0->b ∈ cs
 | []=>by simp [FC]
 | a :: c=>by
  rw [FC];by_cases h:a=0
  ·rw [M7 h,xp];constructor
   ·intro h1 b hb Z;rcases List.mem_cons.1 hb with rfl | hb
    ·exact absurd h Z
    ·exact h1 b hb Z
   ·intro h1 b hb Z;exact h1 b (by simp [hb]) Z
  ·rw [M8 h];constructor
   ·rintro ⟨h1,h2⟩ b hb Z;rcases List.mem_cons.1 hb with rfl | hb
    ·exact h1
    ·exact h2 b hb Z
   ·intro h1;exact ⟨h1 a (by simp) h,λb hb Z=>h1 b (by simp [hb]) Z⟩
theorem tk (O:aL) {cs c0:Lz} (h0:∀a ∈ c0,a ≠ 0) (l:Nat) (Y:∀R v y,y ∈ gS O cs l R v ↔ ∃c:Lz,c.length=R.length/\bY c=l/\(∀b ∈ c,b ≠ 0->b ∈ cs)/\y=addAll O v c R) :
  ∀(R:ZZ) (v y:Lz),y ∈ lH O (gS O cs l) c0 R v ↔ ∃c:Lz,c.length=R.length/\bY c=l+1/\FC cs c0 c/\y=addAll O v c R
 | [],v,y=>by
  rw [lH];constructor
  ·intro h;simp at h
  ·rintro ⟨c,X,h1,_⟩;rw [NF X,C4] at h1;omega
 | r :: R,v,y=>by
  rw [lH,NW,QB,tk O h0 l Y R v y];constructor
  ·rintro (⟨a,ha,h⟩ | ⟨c,h1,h2,h3,h4⟩)
   ·obtain ⟨c,h1,h2,h3,h4⟩:=(Y _ _ _).1 h;have Z:=h0 a ha;exact ⟨a :: c,by simp [h1],by rw [kp,M8 Z];omega,by rw [FC,M8 Z];exact ⟨ha,h3⟩,h4⟩
   ·exact ⟨0 :: c,by simp [h1],by rw [kp,M7 rfl];omega,by rw [FC,M7 rfl];exact h3,by rw [h4,addAll,gO,M7 rfl]⟩
  ·rintro ⟨c,h1,h2,h3,h4⟩;match c,h1,h2,h3,h4 with
   | a :: c,h1,h2,h3,h4 =>
    rw [kp] at h2
    rw [FC] at h3
    rw [addAll] at h4
    by_cases ha:a=0
    ·rw [M7 ha] at h2 h3
     rw [gO,M7 ha] at h4
     exact .inr ⟨c,by simpa using h1,by omega,h3,h4⟩
    ·rw [M8 ha] at h2 h3
     exact .inl ⟨a,h3.1,(Y _ _ _).2 ⟨c,by simpa using h1,by omega,h3.2,h4⟩⟩
theorem l9 (O:aL):∀(c:Lz) (R:ZZ) (v:Lz),(∀y ∈ c,y=0)->addAll O v c R=v
 | [],_,_,_=>by simp [addAll]
 | _ :: _,[],_,_=>by simp [addAll]
 | a :: c,r :: R,v,h=>by rw [addAll,gO,M7 (h a (by simp)),l9 O c R v λy hy=>h y (by simp [hy])]
theorem Ab (O:aL) {cs:Lz} (h0:∀a ∈ cs,a ≠ 0):∀(l:Nat) (R:ZZ) (v y:Lz),y ∈ gS O cs l R v ↔ ∃c:Lz,c.length=R.length/\bY c=l/\(∀b ∈ c,b ≠ 0->b ∈ cs)/\y=addAll O v c R
 | 0,R,v,y=>by
  rw [gS,NR];constructor
  ·rintro rfl;refine ⟨List.replicate R.length 0,by simp,jn.2 λy hy=>(List.mem_replicate.1 hy).2,λb hb Z=>absurd (List.mem_replicate.1 hb).2 Z,?_⟩;rw [l9 O _ _ _ λy hy=>(List.mem_replicate.1 hy).2]
  ·rintro ⟨c,h1,h2,_,h4⟩;rw [h4,l9 O _ _ _ (jn.1 h2)]
 | l+1,R,v,y=>by
  rw [gS,tk O h0 l (Ab O h0 l) R v y];constructor
  ·rintro ⟨c,h1,h2,h3,h4⟩;exact ⟨c,h1,h2,xp.1 h3,h4⟩
  ·rintro ⟨c,h1,h2,h3,h4⟩;exact ⟨c,h1,h2,xp.2 h3,h4⟩
theorem rS {cs:Lz}:∀ {c:Lz},bY c ≠ 0->(FC cs [1] c ↔ nth c (fnz c)=1/\∀j,fnz c<j->j<c.length->nth c j ≠ 0->nth c j ∈ cs)
 | [],h=>absurd rfl h
 | a :: c,h=>by
  rw [FC,fnz];by_cases ha:a=0
  ·rw [kp,M7 ha] at h;rw [M7 ha,M7 ha,rS (by omega)];constructor
   ·rintro ⟨h1,h2⟩;refine ⟨by simpa [nth] using h1,λj h3 h4 h5=>?_⟩;match j,h3,h4,h5 with
    | j+1,h3,h4,h5=>simpa [nth] using h2 j (by omega) (by simpa using h4) (by simpa [nth] using h5)
   ·rintro ⟨h1,h2⟩;refine ⟨by simpa [nth] using h1,λj h3 h4 h5=>?_⟩;simpa [nth] using h2 (j+1) (by omega) (by simpa using h4) (by simpa [nth] using h5)
  ·rw [M8 ha,M8 ha];constructor
   ·rintro ⟨h1,h2⟩;refine ⟨by simpa [nth] using h1,λj h3 h4 h5=>?_⟩;match j,h3,h4,h5 with
    | j+1,h3,h4,h5 =>
     have X:j<c.length:=by simpa using h4
     have e:nth (a :: c) (j+1)=nth c j:=by simp [nth]
     rw [e] at h5 ⊢
     exact h2 _ (aG X) h5
   ·rintro ⟨h1,h2⟩;refine ⟨by simpa [nth] using h1,λb hb Y=>?_⟩;obtain ⟨j,Z,rfl⟩:=List.mem_iff_getElem.1 hb;have e:nth (a :: c) (j+1)=nth c j:=by simp [nth]
    have:=h2 (j+1) (by omega) (by simpa using Z) (by rw [e,an Z];exact Y);rwa [e,an Z] at this
end
def pZ (O:aL) (q m w:Nat) (sys:List ZZ) (b:Lz):Lz:=sys.foldl (λb G=>(lG O (eQ q) [1] w G (List.replicate m 0)).foldl (dy O) b) b
def sN (q k s w:Nat):Nat:=s * (dW k w * (q - 1) ^ (w - 1))
def mY (q k s n w:Nat):Bool:=decide (dW k w<=65536) && decide ((q - 1) ^ (w - 1)<=65536) && decide (sN q k s w<=65536 - n)
def FU (O:aL) (q m k:Nat) (sys:List ZZ) (Z:Lz):Nat->Nat->Lz->Nat->ZZ->ZZ × Lz × Int
 | 0,_,b,_,o=>(o,b,0)
 | f+1,w,b,n,o =>
  if mY q k sys.length n w=true then
   (if flTo k w Z Z.length > (bY (pZ O q m w sys b):Int) then
    (o ++ [[(w:Int),((n+sN q k sys.length w:Nat):Int),(bY (pZ O q m w sys b):Int),flTo k w Z Z.length]],pZ O q m w sys b,0)
   else FU O q m k sys Z f (w+1) (pZ O q m w sys b) (n+sN q k sys.length w) (o ++ [[(w:Int),((n+sN q k sys.length w:Nat):Int),(bY (pZ O q m w sys b):Int),flTo k w Z Z.length]]))
  else ([],[],8)
section
variable {P M:Int} {mod:Lz} {m:Nat} {L:ZZ}
def CW (P M:Int) (mod:Lz) (m:Nat) (L:ZZ) (y:Lz):Prop :=
 Vc (ah P M.toNat mod).El m y/\RS (ah P M.toNat mod).ops (ah P M.toNat mod).El m L (λi=>nth y i)/\bY y ≠ 0
theorem fO {O:aL}:∀ {T:List (Lz × Int)} {U:Lz},pR O L m U T->∀t ∈ T,dZ m t.1=true/\yE O L t.1=true/\1<=t.2/\t.2<=(L.length:Int)
 | [],_,_,t,Z=>by simp at Z
 | t0 :: T,U,h,t,Z=>by
  obtain ⟨h1,h2,h3,h4,h5⟩:=h;rcases List.mem_cons.1 Z with rfl | Z
  ·have Y:=oB U t.1 t.1.length;have X:t.1.length=L.length:=(kT.1 h2).1;exact ⟨h1,h2,h3,by omega⟩
  ·exact fO h5 t Z
theorem mL {O:aL} {Q:Lz} (h:dZ m Q=true) (Z:yE O L Q=true):Ga m Q/\Q.length=L.length/\(jm O L Q).length=Q.length :=
 ⟨pL h,(kT.1 Z).1,(kT.1 Z).2⟩
theorem zJ (V:aI P M mod m L=0) {Q:Lz} (H:dZ m Q=true) (G:yE (ah P M.toNat mod).ops L Q=true) {y:Lz} (hy:Vc (ah P M.toNat mod).El m y) (D:RS (ah P M.toNat mod).ops (ah P M.toNat mod).El m L (λi=>nth y i)) :
  y=cmbTo (ah P M.toNat mod).ops m (bg Q y) (en (ah P M.toNat mod).ops m L Q) L.length:=by
 obtain ⟨C,e,I,N,F,A⟩:=aT V;obtain rfl:m=C:=by omega
 obtain ⟨hI,S,U⟩:=mL H G;obtain ⟨s1,s2,_,E⟩:=ob V hI S U;have Y:bI (ah P M.toNat mod).ops m (en (ah P M.toNat mod).ops m L Q)=L:=E;have Z:=(dC F s1).1;rw [Y] at Z;obtain ⟨v,X,h2⟩:=RS.MA F s1 (Z.rs D);rw [s2] at X h2;obtain ⟨K,_,w3⟩:=vK V hI S U (v:=v) X.1 λk B=>X.at B;have h3:y=cmbTo (ah P M.toNat mod).ops m v (en (ah P M.toNat mod).ops m L Q) L.length:=fy (by rw [hy.1,K.1]) λi hi=>h2 i (by rw [<- hy.1];exact hi);have h4:bg Q y=v:=by rw [h3];exact w3
 rw [h4];exact h3
theorem F2 {Q y:Lz} (h:∀z ∈ y,z=0):bY (bg Q y)=0:=by
 refine jn.2 λz Z=>?_;unfold bg at Z;obtain ⟨q,_,rfl⟩:=List.mem_map.1 Z;by_cases Y:q.toNat<y.length
 ·rw [an Y];exact h _ (NL Y)
 ·unfold nth;rw [Na,N5 (by omega)];rfl
theorem zP (O:aL) (m:Nat) {c:Lz} {G:ZZ} (h:∀y ∈ c,y=0):∀k,k<=c.length->cmbTo O m c G k=List.replicate m 0
 | 0,_=>rfl
 | k+1,Z=>by rw [cmbTo,M7 (h _ (aG (by omega))),zP O m h k (by omega)]
theorem GB {m:Nat}:∀z ∈ List.replicate m (0:Int),z=0:=λz Z=>(List.mem_replicate.1 Z).2
theorem Di (X:aI P M mod m L=0) {Q:Lz} (Z:dZ m Q=true) (Y:yE (ah P M.toNat mod).ops L Q=true) {y:Lz} (h:CW P M mod m L y):bY (bg Q y) ≠ 0:=λh0=>by obtain ⟨hI,V,U⟩:=mL Z Y;have h1:=zJ X Z Y h.1 h.2.1;rw [zP _ _ (jn.1 h0) _ (by simp [bg,V])] at h1;exact h.2.2 (by rw [h1];exact jn.2 GB)
theorem J1 {q:Nat} {b:Int} (h:b ∈ eQ q):0<=b/\b<q:=by have:=tZ.1 h;omega
theorem sS (U:aI P M mod m L=0) {Q:Lz} (D:dZ m Q=true) (C:yE (ah P M.toNat mod).ops L Q=true) {l:Nat} {y:Lz} :
  y ∈ lG (ah P M.toNat mod).ops (eQ (ah P M.toNat mod).q) [1] (l+1) (en (ah P M.toNat mod).ops m L Q) (List.replicate m 0) ↔ CW P M mod m L y/\bY (bg Q y)=l+1/\nth (bg Q y) (fnz (bg Q y))=1:=by
 obtain ⟨N',e,hm1,A,F,hR⟩:=aT U;obtain rfl:m=N':=by omega
 obtain ⟨hI,K,G⟩:=mL D C;obtain ⟨s1,s2,_,s4⟩:=ob U hI K G;have V:bI (ah P M.toNat mod).ops m (en (ah P M.toNat mod).ops m L Q)=L:=s4;have Z:=(dC F s1).2;rw [V] at Z;have S:∀y,(bg Q y).length=L.length:=λy=>by simp [bg,K]
 rw [lG,tk _ (by simp) l (Ab _ (λa ha=>by have:=tZ.1 ha;omega) l)];constructor
 ·rintro ⟨c,h1,h2,h3,h4⟩;rw [s2] at h1;have I:bY c ≠ 0:=by omega
  obtain ⟨f1,f2⟩:=(rS I).1 h3;have Y:∀k,k<L.length->(ah P M.toNat mod).El (nth c k):=λk hk=>by
   by_cases N:nth c k=0
   ·rw [N];exact F.zero
   ·by_cases e1:k<fnz c
    ·exact absurd (mi c k e1) N
    ·by_cases e2:k=fnz c
     ·rw [e2,f1];exact F.one
     ·exact J1 (f2 k (by omega) (by omega) N)
  obtain ⟨E,_,w3⟩:=vK U hI K G (v:=c) h1 Y;have hy:y=cmbTo (ah P M.toNat mod).ops m c (en (ah P M.toNat mod).ops m L Q) L.length:=by have h5:=kS (O:=(ah P M.toNat mod).ops) (m:=m) (v:=c) (L:=en (ah P M.toNat mod).ops m L Q) (by rw [s2];exact h1) L.length 0 (by rw [s2];omega);rw [h4,<- s2,<- h5];rfl
  rw [<- hy] at E w3;refine ⟨⟨E,?_,λh0=>?_⟩,by rw [w3];exact h2,by rw [w3];exact f1⟩
  ·have:=(iZ F s1 (x:=c) (by rw [s2];exact Y) L.length (by rw [s2];exact M4 _)).2;rw [<- hy] at this;exact Z.rs this
  ·have h6:=F2 (Q:=Q) (jn.1 h0);rw [w3] at h6;omega
 ·rintro ⟨hy,h2,h3⟩;have h1:=zJ U D C hy.1 hy.2.1;obtain ⟨c,H⟩:∃c,bg Q y=c:=⟨_,rfl⟩
  have X:c.length=L.length:=by rw [<- H];exact S y
  rw [H] at h1 h2 h3;refine ⟨c,by rw [s2];exact X,h2,(rS (by omega)).2 ⟨h3,λj _ hj z=>?_⟩,?_⟩
  ·have h7:nth c j=nth y (nth Q j).toNat:=by rw [<- H];exact fM Q y (by omega)
   have h8:=hI j (by omega);have B:(ah P M.toNat mod).El (nth c j):=by rw [h7];exact hy.1.at (by omega)
   exact tZ.2 ⟨by have:=B.1;omega,B.2⟩
  ·have h5:=kS (O:=(ah P M.toNat mod).ops) (m:=m) (v:=c) (L:=en (ah P M.toNat mod).ops m L Q) (by rw [s2];exact X) L.length 0 (by rw [s2];omega);rw [h1,<- s2,<- h5];rfl
theorem CW.Da (X:aI P M mod m L=0) {y:Lz} (h:CW P M mod m L y) {s:Int} (Z:(ah P M.toNat mod).El s) (h0:s ≠ 0):CW P M mod m L (y.map ((ah P M.toNat mod).ops.mul s)):=by
 obtain ⟨U,e,S,Y,F,Q⟩:=aT X;obtain rfl:m=U:=by omega
 refine ⟨h.1.Da F Z,(h.2.1.smul F Z).congr λx V=>ij _ _ _ (by rw [h.1.1];exact V),?_⟩;rw [rH F Z h0 h.1.2];exact h.2.2
theorem CW.MV (Z:aI P M mod m L=0) {y:Lz} (h:CW P M mod m L y):CW P M mod m L (gE (ah P M.toNat mod).ops y):=by
 obtain ⟨X,e,V,Y,F,U⟩:=aT Z;obtain rfl:m=X:=by omega
 obtain ⟨h1,h2⟩:=kD h.1 h.2.2;obtain ⟨h3,h4⟩:=lP F h1 h2;exact h.Da Z h3 h4
theorem z8 {O:aL} {Q y:Lz} (hI:Ga y.length Q) (s:Int):bg Q (y.map (O.mul s))=(bg Q y).map (O.mul s):=by unfold bg;rw [PE];refine N6 λq Y=>?_;obtain ⟨j,Z,rfl⟩:=List.mem_iff_getElem.1 Y;have h:=hI j Z;rw [an Z] at h;exact ij O y s (by omega)
theorem Ej (V:aI P M mod m L=0) {Q:Lz} (S:dZ m Q=true) (N:yE (ah P M.toNat mod).ops L Q=true) {l:Nat} {x:Lz} (Z:CW P M mod m L x) (E:bY (bg Q x)=l+1) :
  ∃y ∈ lG (ah P M.toNat mod).ops (eQ (ah P M.toNat mod).q) [1] (l+1) (en (ah P M.toNat mod).ops m L Q) (List.replicate m 0),gE (ah P M.toNat mod).ops y=gE (ah P M.toNat mod).ops x:=by
 obtain ⟨D,e,C,I,F,hR⟩:=aT V;obtain rfl:m=D:=by omega
 obtain ⟨hI,G,B⟩:=mL S N;have U:Vc (ah P M.toNat mod).El Q.length (bg Q x):=⟨by simp [bg],λz H=>by
  obtain ⟨j,K,rfl⟩:=List.mem_iff_getElem.1 H;have X:j<Q.length:=by simpa [bg] using K
  have A:=hI j X;rw [<- an K,fM Q x X];exact Z.1.at (by omega)⟩
 have Y:bY (bg Q x) ≠ 0:=by omega
 obtain ⟨h1,h2⟩:=kD U Y;obtain ⟨h3,h4⟩:=lP F h1 h2;refine ⟨x.map ((ah P M.toNat mod).ops.mul ((ah P M.toNat mod).ops.inv (nth (bg Q x) (fnz (bg Q x))))),(sS V S N).2 ⟨Z.Da V h3 h4,?_,?_⟩,zh F h3 h4 Z.1 Z.2.2⟩
 ·rw [z8 (by rw [Z.1.1];exact hI),rH F h3 h4 U.2];exact E
 ·rw [z8 (by rw [Z.1.1];exact hI)];exact BY F U Y
theorem vj {α β Z:Type} (f:Z->β->Z) (g:α->List β):∀(l:List α) (b:Z),l.foldl (λb a=>(g a).foldl f b) b=(l.flatMap g).foldl f b
 | [],_=>rfl
 | a :: l,b=>by rw [QR,vj f g l,Ru,Rv]
def kE (P M:Int) (mod:Lz) (m:Nat) (L:ZZ):List ZZ:=(gD (ah P M.toNat mod).ops L m).map λt=>en (ah P M.toNat mod).ops m L t.1
theorem yx (X:aI P M mod m L=0) (I:1<=L.length):gD (ah P M.toNat mod).ops L m ≠ []:=λh=>by
 obtain ⟨N,e,K,S,F,Q⟩:=aT X;obtain rfl:m=N:=by omega
 have h1:=(gh X).1;rw [h] at h1;have U:=(dF (aX X).2.2.2).2;rw [M9] at U;have Y:bI (ah P M.toNat mod).ops m L=L:=U;obtain ⟨Z,_⟩:=dc F Q;have V:=cU F Q;rw [Y] at Z V;have h2:=Z.one 0 0 (by omega) (by omega);have h3:=Z.lt 0 (by omega);rw [M7 rfl,h1 _ (by omega) (by simp) 0 (by omega)] at h2;exact absurd h2 (by decide)
theorem GZ (V:aI P M mod m L=0) (l:Nat) (b:Lz) :
  (pZ (ah P M.toNat mod).ops (ah P M.toNat mod).q m (l+1) (kE P M mod m L) b=b\/∃y,CW P M mod m L y/\pZ (ah P M.toNat mod).ops (ah P M.toNat mod).q m (l+1) (kE P M mod m L) b=gE (ah P M.toNat mod).ops y) /\
  (∀x,CW P M mod m L x->(∃t ∈ gD (ah P M.toNat mod).ops L m,bY (bg t.1 x)=l+1)->sB (pZ (ah P M.toNat mod).ops (ah P M.toNat mod).q m (l+1) (kE P M mod m L) b) (gE (ah P M.toNat mod).ops x)) /\
  (bY b ≠ 0->sB (pZ (ah P M.toNat mod).ops (ah P M.toNat mod).q m (l+1) (kE P M mod m L) b) b) /\
  (l+1<=L.length->bY (pZ (ah P M.toNat mod).ops (ah P M.toNat mod).q m (l+1) (kE P M mod m L) b) ≠ 0):=by
 obtain ⟨C,e,H,N,F,B⟩:=aT V;obtain rfl:m=C:=by omega
 have Z:=λt Y=>fO (gh V).1 t Y;unfold pZ;rw [vj];have U:∀y,y ∈ (kE P M mod m L).flatMap (λG=>lG (ah P M.toNat mod).ops (eQ (ah P M.toNat mod).q) [1] (l+1) G (List.replicate m 0)) ↔
   ∃t ∈ gD (ah P M.toNat mod).ops L m,CW P M mod m L y/\bY (bg t.1 y)=l+1/\nth (bg t.1 y) (fnz (bg t.1 y))=1:=λy=>by
  rw [QB];constructor
  ·rintro ⟨G,E,hy⟩;obtain ⟨t,Y,rfl⟩:=List.mem_map.1 E;exact ⟨t,Y,(sS V (Z t Y).1 (Z t Y).2.1).1 hy⟩
  ·rintro ⟨t,Y,h⟩;exact ⟨_,List.mem_map.2 ⟨t,Y,rfl⟩,(sS V (Z t Y).1 (Z t Y).2.1).2 h⟩
 obtain ⟨a1,a2,a3,a4⟩:=vw F (m:=m) ((kE P M mod m L).flatMap λG=>lG (ah P M.toNat mod).ops (eQ (ah P M.toNat mod).q) [1] (l+1) G (List.replicate m 0)) b λy hy=>by obtain ⟨t,_,h,_⟩:=(U y).1 hy;exact ⟨h.1,h.2.2⟩
 refine ⟨?_,?_,a3,λS=>a4 (.inl ?_)⟩
 ·rcases a1 with h | ⟨y,hy,h⟩
  ·exact .inl h
  ·obtain ⟨t,_,h2,_⟩:=(U y).1 hy;exact .inr ⟨y,h2,h⟩
 ·rintro x D ⟨t,Y,h⟩;obtain ⟨y,hy,h2⟩:=Ej V (Z t Y).1 (Z t Y).2.1 D h;rw [<- h2];exact a2 y (List.mem_flatMap.2 ⟨_,List.mem_map.2 ⟨t,Y,rfl⟩,hy⟩)
 ·intro X;obtain ⟨t,Y⟩:=Qt _ (yx V (by omega));rw [QD] at X;have h2:=X _ (List.mem_map.2 ⟨t,Y,rfl⟩);obtain ⟨hI,Q,K⟩:=mL (Z t Y).1 (Z t Y).2.1;have h3:=th (ah P M.toNat mod).ops (eQ (ah P M.toNat mod).q) 1 l (en (ah P M.toNat mod).ops m L t.1) (List.replicate m 0);rw [h2,(ob V hI Q K).2.1,pa] at h3;have h4:=o0 L.length (l+1) S;have I:1<=(ah P M.toNat mod).q - 1:=by have h5:(1:Int)<(ah P M.toNat mod).q:=F.one.2;omega
  have A:0<dW L.length (l+1) * ((ah P M.toNat mod).q - 1) ^ l:=Nat.mul_pos h4 (RJ I);simp at h3;omega
def Ag (P M:Int) (mod:Lz) (m:Nat) (L:ZZ) (r:Lz):Prop :=
 ∀x,CW P M mod m L x->((∃t ∈ gD (ah P M.toNat mod).ops L m,(bY (bg t.1 x):Int)<=nth r 0)->nth r 2<=bY x)/\((∀t ∈ gD (ah P M.toNat mod).ops L m,nth r 0<(bY (bg t.1 x):Int))->nth r 3<=bY x)
def tb (P M:Int) (mod:Lz) (m:Nat) (L:ZZ) (b:Lz):Prop:=CW P M mod m L b/\gE (ah P M.toNat mod).ops b=b
theorem Iz (U:aI P M mod m L=0) (hk:1<=L.length) (Q:L.length<=64):∀(f w:Nat) (b:Lz) (n:Nat) (o:ZZ),w+1+f=L.length+1->((w=0/\b=[])\/tb P M mod m L b) ->
  (∀x,CW P M mod m L x->(∃t ∈ gD (ah P M.toNat mod).ops L m,bY (bg t.1 x)<=w)->sB b (gE (ah P M.toNat mod).ops x))->(∀r ∈ o,Ag P M mod m L r) ->
  ∀ {o2:ZZ} {S:Lz} {e:Int},FU (ah P M.toNat mod).ops (ah P M.toNat mod).q m L.length (kE P M mod m L) ((gD (ah P M.toNat mod).ops L m).map (·.2)) f (w+1) b n o=(o2,S,e) ->
  (e=8/\o2=[]/\S=[])\/(e=0/\tb P M mod m L S/\(∀x,CW P M mod m L x->sB S (gE (ah P M.toNat mod).ops x))/\(∀r ∈ o2,Ag P M mod m L r)/\o.length+(if f=0 then 0 else 1)<=o2.length)
 | 0,w,b,n,o,hw,hb,A,C,o2,S,e,h=>by
  rw [FU] at h;obtain ⟨rfl,rfl,rfl⟩:o=o2/\b=S/\0=e:=by simpa using h
  refine .inr ⟨rfl,hb.resolve_left (λh=>by omega),λx Z=>A x Z ?_,C,by simp⟩;obtain ⟨t,V⟩:=Qt _ (yx U hk);refine ⟨t,V,?_⟩;have h1:bY (bg t.1 x)<=(bg t.1 x).length:=Pt;have h2:=(kT.1 (fO (gh U).1 t V).2.1).1;rw [show (bg t.1 x).length=t.1.length by simp [bg]] at h1;omega
 | f+1,w,b,n,o,hw,hb,A,C,o2,S,e,h=>by
  obtain ⟨N',e0,hm1,hm64,F,hR⟩:=aT U;obtain rfl:m=N':=by omega
  obtain ⟨a1,a2,a3,a4⟩:=GZ U w b;have a4:=a4 (by omega);rw [FU] at h;by_cases hm:mY (ah P M.toNat mod).q L.length (kE P M mod m L).length n (w+1)=true;rotate_left
  ·rw [M8 hm] at h;obtain ⟨rfl,rfl,rfl⟩:[]=o2/\[]=S/\8=e:=by simpa using h
   exact .inl ⟨rfl,rfl,rfl⟩
  rw [M7 hm] at h;clear hm;obtain ⟨B,j⟩:∃B,pZ (ah P M.toNat mod).ops (ah P M.toNat mod).q m (w+1) (kE P M mod m L) b=B:=⟨_,rfl⟩
  obtain ⟨N,E⟩:∃N,flTo (L.length:Int) ((w+1:Nat):Int) ((gD (ah P M.toNat mod).ops L m).map (·.2)) ((gD (ah P M.toNat mod).ops L m).map (·.2)).length=N:=⟨_,rfl⟩
  rw [j,E] at h;rw [j] at a1 a2 a3 a4;have H:tb P M mod m L B:=by
   rcases a1 with h1 | ⟨y,hy,h1⟩
   ·rcases hb with hb | hb
    ·rw [h1,hb.2] at a4;exact absurd C4 a4
    ·rw [h1];exact hb
   ·rw [h1];exact ⟨hy.MV U,Ee F hy.1 hy.2.2⟩
  have Y:∀x,CW P M mod m L x->(∃t ∈ gD (ah P M.toNat mod).ops L m,bY (bg t.1 x)<=w+1)->sB B (gE (ah P M.toNat mod).ops x):=by
   rintro x Z ⟨t,V,hle⟩;by_cases e1:bY (bg t.1 x)=w+1
   ·exact a2 x Z ⟨t,V,e1⟩
   ·have hc:=Di U (fO (gh U).1 t V).1 (fO (gh U).1 t V).2.1 Z;rcases hb with hb | hb
    ·omega
    ·exact (a3 hb.1.2.2).trans (A x Z ⟨t,V,by omega⟩)
  have X:∀x,CW P M mod m L x->(∀t ∈ gD (ah P M.toNat mod).ops L m,((w+1:Nat):Int)<(bY (bg t.1 x):Int))->N<=bY x:=λx Z hu=>by
   obtain ⟨f',h1,h2⟩:=EN U Z.1.1 (v:=((w+1:Nat):Int)) (by omega) Q hu;unfold Dq at h1;split at h1
   ·rw [E] at h1;obtain ⟨rfl,_⟩:N=f'/\True:=by simpa using h1
    exact h2
   ·simp at h1
  have G:∀r ∈ o ++ [[((w+1:Nat):Int),((n+sN (ah P M.toNat mod).q L.length (kE P M mod m L).length (w+1):Nat):Int),(bY B:Int),N]],Ag P M mod m L r:=λr D=>by
   rcases List.mem_append.1 D with D | D
   ·exact C r D
   ·rw [List.mem_singleton.1 D];intro x Z;refine ⟨?_,λhu=>X x Z hu⟩;rintro ⟨t,V,hle⟩;have z:(bY (bg t.1 x):Int)<=((w+1:Nat):Int):=hle;have h1:=(Y x Z ⟨t,V,by omega⟩).wt;rw [ry F Z.1 Z.2.2] at h1;show (bY B:Int)<=bY x;omega
  by_cases I:N > (bY B:Int)
  ·rw [M7 I] at h;simp only [Prod.mk.injEq] at h;obtain ⟨rfl,rfl,rfl⟩:=h;refine .inr ⟨rfl,H,λx Z=>?_,G,by simp⟩;by_cases K:∃t ∈ gD (ah P M.toNat mod).ops L m,bY (bg t.1 x)<=w+1
   ·exact Y x Z K
   ·have h1:=X x Z λt V=>by have:¬ bY (bg t.1 x)<=w+1:=λh2=>K ⟨t,V,h2⟩;omega
    left;rw [ry F Z.1 Z.2.2];omega
  ·rw [M8 I] at h;rcases Iz U hk Q f (w+1) B _ _ (by omega) (.inr H) Y G h with h1 | ⟨h1,h2,h3,h4,h5⟩
   ·exact .inl h1
   ·refine .inr ⟨h1,h2,h3,h4,?_⟩;rw [Ni,ND] at h5;split at h5<;>simp<;>omega
end
theorem ph.ai {F:Nat->Prop} {w w':ej} {a:OA} {n:Nat} {l:Lz} (h:ph F w a n l) (hb:SJ w w'):ph F w' a n l:=⟨h.ints.ai hb,h.lo⟩
theorem xY.ai {F:Nat->Prop} {w w':ej} {g b:Nat} {P M:Int} {am:OA} {Z V:Nat} {N:Int} {a:OA} {n c:Nat} {ag:OA} {Y cg:Nat} {U:OA} {X:Nat} {B:Lz} {k:Nat} (h:xY F w g b P M am Z V N a n c ag Y cg U X B k) (hb:SJ w w'):xY F w' g b P M am Z V N a n c ag Y cg U X B k :=
 ⟨h.box.ai hb,h.best.ai hb⟩
def yj (F:Nat->Prop) (D:ej) (g b:Nat) (G:bX) (P M:Int) (am:OA) (S K:Nat) (N:Int) (a:OA) (n c:Nat) (ag:OA) (Q cg:Nat) (m:Nat) (ar:OA) (X cr:Nat) (R:ZZ) (l:Nat):Prop :=
 ∀(w:ej) (C:OA) (H:Nat) (B:Lz) (k:Nat) (I:OA) (E:Nat) (v:Lz) (Z:Nat) (Y:Bool),(∀x,F x->x<w.heap.size)->SJ D w->xY F w g b P M am S K N a n c ag Q cg C H B k->bJ (g+1) w ar X R->bH (g+1) w I m v->G.vn v->Z<=X ->
  k+(lG G.ops (eQ G.q) (if Y=true then [1] else eQ G.q) l (R.drop Z) v).length<=1000000 ->
  Calls prog 155 #[ea g 0,.slice ar X cr,.slice I m E,cG Z,cG l,.bool Y] w λe w'=>e = .returned (.tuple #[])/\∃U V,
   xY F w' g b P M am S K N a n c ag Q cg U V ((lG G.ops (eQ G.q) (if Y=true then [1] else eQ G.q) l (R.drop Z) v).foldl (dy G.ops) B) (k+(lG G.ops (eQ G.q) (if Y=true then [1] else eQ G.q) l (R.drop Z) v).length)/\aB w w' (One g) (One g)
theorem Ei {S:ej} {b g:Nat} {G:bX} {P M:Int} {am:OA} {Q I:Nat} {N:Int} {a:OA} {n c:Nat} {ag:OA} {K cg:Nat} {m:Nat} {ar:OA} {E cr:Nat} {R:ZZ}
  {F:Nat->Prop} (hF:F g) (h:dg S b G) (C:S.heap.size<=g) (hm:m<=1000000):yj F S g b G P M am Q I N a n c ag K cg m ar E cr R 0:=by
 intro w ab cb B k av j v fs al X hb A hR D V z H;have hk1:k+1<=1000000:=by cases al<;>exact H
 have Z:=GC av m j v hF X h hb C A D V hm (by omega);refine Calls.mono (R:=λe w'=>e = .returned (.tuple #[])/\∃U Y,xY F w' g b P M am Q I N a n c ag K cg U Y (dy G.ops B v) (k+1)/\aB w w' (One g) (One g)) ?_ (λe w' h=>h);clear H;go_enter func155,ntmps155;go_wp2_with fail;refine Z.mono ?_;rintro e w' ⟨rfl,h1⟩;go_wp2_with fail;(try simp only [Exit.inBlock,Exit.then])
 refine bodyPost_ret (results_none rfl _ _ _) rfl ?_;exact ⟨rfl,h1⟩
theorem ES {w0:ej} {b g:Nat} {G:bX} {P M:Int} {am:OA} {mn cm:Nat} {N:Int} {a:OA} {n c:Nat} {ag:OA} {ng cg:Nat} {m:Nat} {ar:OA} {nr cr:Nat} {R:ZZ}
  {F:Nat->Prop} (hF:F g) (h:dg w0 b G) (hg:w0.heap.size<=g) (hm:m<=64) (hm1:1<=m) (hRw:bz G.El m R) (hR64:nr<=64) (l:Nat) (hl64:l<=64) (IH:yj F w0 g b G P M am mn cm N a n c ag ng cg m ar nr cr R l):yj F w0 g b G P M am mn cm N a n c ag ng cg m ar nr cr R (l+1):=by
 intro w ab cb B k av cv v fs al hFl hb hs hR hv hve hfs hk;have hops:=Sk h;have hq2:2<=G.q:=h.q2;have hq256:G.q<=256:=h.q256;have hvl:v.length=m:=hv.ints.len;have hRl:R.length=nr:=hR.len;have Hops:=Z5 hops;have Hve:=Z5 hve;have H:=Z5 hvl;have HRl:=Z5 hRl;have HRw:=Z5 hRw;have HIH:=Z5 IH;have HF0:=Z5 (Ng hF hFl);have HSW:=Z5 (Ng hs (Ng hR (Ng hv hb)));have Hh:=Z5 h;have Hg:=Z5 hg;obtain ⟨c0,hc0⟩:∃c0,(if al=true then [1] else eQ G.q)=c0:=⟨_,rfl⟩
 rw [hc0] at hk ⊢;have Hc0:=Z5 hc0;rw [lG] at hk ⊢;obtain ⟨FB,hFB⟩:∃FB,(lH G.ops (gS G.ops (eQ G.q) l) c0 (R.drop fs) v).foldl (dy G.ops) B=FB:=⟨_,rfl⟩
 obtain ⟨FK,hFK⟩:∃FK,k+(lH G.ops (gS G.ops (eQ G.q) l) c0 (R.drop fs) v).length=FK:=⟨_,rfl⟩
 rw [hFB,hFK];rw [hFK] at hk;have HS:Hid (∀V,aB w V (One g) (One g)->bJ (g+1) V ar nr R/\bH (g+1) V av m v/\SJ w0 V):=λV hV=>⟨HSW.2.1.cQ hV λx hx=>by rw [show x=g from hx];omega,HSW.2.2.1.cQ hV,HSW.2.2.2.trans (hV.below (λx hx=>by rw [show x=g from hx];exact Hg) HSW.2.2.2.size)⟩
 have HFB:=Z5 hFB;have HFK:=Z5 hFK;have hplR:=hR.pl;obtain ⟨LL,hLL⟩:∃LL:Int,((l+1:Nat):Int)=LL:=⟨_,rfl⟩
 have hL1:LL - 1=(l:Int):=by omega
 have el0:(LL == 0)=false:=by simp;omega
 rw [hLL];have HLL:=Z5 hLL;clear h hg hb hR hv hve hops hvl hRl hRw IH hc0 hFB hFK;go_enter func155,ntmps155;go_wp2_with fail;go_loopw [12] (λiv wr=>∃(i:Nat) (D:OA) (E:Nat) (B':Lz) (k':Nat),i<=nr/\iv = cG i/\Hid (xY F wr g b P M am mn cm N a n c ag ng cg D E B' k')/\aB w wr (One g) (One g) /\
   Hid ((lH G.ops (gS G.ops (eQ G.q) l) c0 (R.drop i) v).foldl (dy G.ops) B'=FB)/\Hid (k'+(lH G.ops (gS G.ops (eQ G.q) l) c0 (R.drop i) v).length=FK)) (λiv _=>nr - (intOf iv).toNat)
 case atStart=>exact ⟨fs,ab,cb,B,k,hfs,rfl,hs,Sb _ _,HFB,HFK⟩
 case round =>
  clear hs HFB HFK
  obtain ⟨i,D,E,B',k',hi,rfl,S,hmv,hfb,hfk⟩:=hrel
  generalize wr=X at *
  by_cases hlt:i+l+1<=nr
  ·have d1:decide ((i:Int)+LL<=(nr:Int))=true:=by simp;omega
   have hiR:i<R.length:=by rw [HRl.out];omega
   have Hdrop:Hid (R.drop i=aj R i :: R.drop (i+1)):=mW R hiR
   have hRiE:=HRw.row hiR
   obtain ⟨C,hRi⟩:∃C,aj R i=C:=⟨_,rfl⟩
   rw [hRi] at Hdrop hRiE
   have HRi:=Z5 hRi
   have HRiE:=Z5 hRiE
   obtain ⟨T,hT⟩:∃T,lH G.ops (gS G.ops (eQ G.q) l) c0 (R.drop (i+1)) v=T:=⟨_,rfl⟩
   have HT:=Z5 hT
   have hfb2:Hid (((c0.drop 0).flatMap (λx=>gS G.ops (eQ G.q) l (R.drop (i+1)) (gO G.ops v x C)) ++ T).foldl (dy G.ops) B'=FB):=by have h1:=hfb.out;rw [Hdrop.out,lH,HT.out] at h1;exact h1
   have hfk2:Hid (k'+((c0.drop 0).flatMap (λx=>gS G.ops (eQ G.q) l (R.drop (i+1)) (gO G.ops v x C)) ++ T).length=FK):=by have h1:=hfk.out;rw [Hdrop.out,lH,HT.out] at h1;exact h1
   clear hfb hfk hT hRi hRiE hiR
   go_wp2_with fail
   go_loopw [13] (λiv wr=>∃(t:Nat) (D:OA) (E:Nat) (B':Lz) (k':Nat),t+1<=G.q/\(al=true->t=0)/\iv = cG ((t:Int)+1)/\Hid (xY F wr g b P M am mn cm N a n c ag ng cg D E B' k')/\aB w wr (One g) (One g) /\
     Hid (((c0.drop t).flatMap (λx=>gS G.ops (eQ G.q) l (R.drop (i+1)) (gO G.ops v x C)) ++ T).foldl (dy G.ops) B'=FB)/\Hid (k'+((c0.drop t).flatMap (λx=>gS G.ops (eQ G.q) l (R.drop (i+1)) (gO G.ops v x C)) ++ T).length=FK)) (λiv _=>G.q+1 - (intOf iv).toNat)
   case atStart=>exact ⟨0,D,E,B',k',by omega,λ_=>rfl,rfl,S,hmv,hfb2,hfk2⟩
   case round =>
    clear S hmv hfb2 hfk2
    clear D E B' k'
    obtain ⟨t,D,E,B',k',ht,hal,rfl,S,hmv,hfb,hfk⟩:=hrel
    generalize wr=X1 at *
    obtain ⟨hR1,hv1,hb1⟩:=HS X1 hmv
    have hG1:=Hh.ai hb1
    have cg0:=S.box.cell 0 rfl
    by_cases hlq:t+1<G.q
    ·have d2:decide ((t:Int)+1<(G.q:Int))=true:=by simp;omega
     have hdt:c0.drop t=((t:Int)+1) :: c0.drop (t+1):=by
      rw [<- Hc0.out];by_cases e:al=true
      ·rw [M7 e,hal e];rfl
      ·rw [M8 e];exact EM (by omega)
     obtain ⟨rb,rm,rc,hcR,hrow⟩:=hR1.cell i (by omega)
     have hrm:rm=m:=by rw [<- hrow.ints.len,HRi.out];exact HRiE.1
     rw [hrm,HRi.out] at hrow
     rw [hrm] at hcR
     have Hrow:=Z5 hrow
     have Hv1:=Z5 hv1
     have HR1:=Z5 hR1
     have Hb1:=Z5 hb1
     have HG1:=Z5 hG1
     obtain ⟨A,hA⟩:∃A:Int,(t:Int)+1=A:=⟨_,rfl⟩
     have hA1:1<=A:=by omega
     have hAq:A<G.q:=by omega
     have hAE:G.El A:=⟨by omega,hAq⟩
     have HA:=Z5 hA
     rw [hA] at hdt d2 ⊢
     have Hdt:=Z5 hdt
     clear hA hrm hdt hrow hv1 hR1 hb1
     go_wp2_with fail
     refine (qg HG1.out).mono ?_
     rintro e w' ⟨rfl,rfl⟩
     go_wp2_with fail
     refine (cZ av m cv v Hv1.ints (by omega)).mono ?_
     rintro e w4 ⟨a4,c4,rfl,ho4,hb4⟩
     have r4:=aC hb4 hcR
     have hin:(i:Int)<(nr:Int):=by omega
     have hin2:i<nr:=by omega
     rw [H.out] at ho4 ⊢
     go_wp2_with fail
     have hRil:=HRiE.1
     have hNl:=jL G.ops v A C (by rw [hRil,H.out])
     have hNe:=Ds Hops.out Hve.out HRiE.2 hAE (by rw [hRil,H.out])
     have hNth:∀j,j<m->nth (gO G.ops v A C) j=if nth C j=0 then nth v j else G.add (nth v j) (G.mul A (nth C j)):=λj hj =>
      tE G.ops v A C j (by rw [hRil,H.out]) (by rw [H.out];exact hj) (by omega)
     rw [H.out] at hNl
     obtain ⟨Nw,hNw⟩:∃Nw,gO G.ops v A C=Nw:=⟨_,rfl⟩
     rw [hNw] at hNl hNe hNth
     have HNl:=Z5 hNl
     have HNe:=Z5 hNe
     have HNth:=Z5 hNth
     have HNw:=Z5 hNw
     have hX1l:g<X1.heap.size:=S.box.1
     clear hNl hNe hNth hNw hRil hcR r4 hG1 cg0 d2
     go_loopw [47] (λiv wr=>∃U:Nat,U<=m/\iv = cG U/\wr.ownsRow X1.heap.size 3 1 (.slice a4 m c4) m ((eJ Nw v U).map (Value.int .i64))/\SJ X1 wr) (λiv _=>m - (intOf iv).toNat)
     case atStart=>exact ⟨0,Nb _,rfl,by rw [dX];exact ho4,hb4⟩
     case round =>
      clear ho4 hb4
      obtain ⟨U,hkk,rfl,Q,hbr⟩:=hrel
      generalize wr=Y at *
      have hseaY:=S.ai hbr
      by_cases hlk:U<m
      ·have hir:=Hrow.ints.ai hbr
       have hpr:=hir.pl
       have cir:=hir.cell U hlk
       have hkN:Nw.length=v.length:=by rw [HNl.out,H.out]
       have z:=HNth U hlk
       have hmix:=dS Nw v U U hkN (by rw [H.out];omega)
       rw [M8 (by omega)] at hmix
       by_cases hz:nth C U=0
       ·rw [M7 hz] at z
        have hsame:=la Nw v U hkN (by rw [H.out];exact hlk) z
        have Hsame:=Z5 hsame
        have hz2:(nth C U != 0)=false:=by simpa using hz
        clear z hmix hsame hkN hz
        go_wp2_with fail
        go_roundw
        case rel=>exact ⟨U+1,by omega,by go_num,by rw [Hsame.out];exact Q,hbr⟩
        case measure=>simp [intOf]<;>omega
       ·rw [M8 hz] at z
        have hset:=dU Nw v U hkN (by rw [H.out];exact hlk)
        rw [z] at hset
        have Hset:=Z5 hset
        obtain ⟨hiv,hmv2⟩:=RW Q
        have hpv:=hiv.pl
        have cv1:=hiv.cell U hlk
        have fv1:=(hmv2 (by omega)).2 U hlk
        rw [hmix] at cv1
        have elv:G.El (nth v U):=Hve _ (aG (by rw [H.out];exact hlk))
        have elr:G.El (nth C U):=HRiE.2 _ (aG (by rw [HRiE.1];exact hlk))
        have cgr:=hseaY.box.cell 0 rfl
        have hGr:=HG1.ai hbr
        have elm:∀x y,G.El (G.mul x y):=λx y=>Sr hGr x y
        have HG:Hid (dg Y.drew b G/\∀n,dg (Y.drewN n) b G):=⟨hGr.ai (M5 _ _).drew,λn=>hGr.drewN n⟩
        have hz2:(nth C U != 0)=true:=by simpa using hz
        have Hiv:=Z5 hiv
        clear z hmix hset hkN hz hGr hir hiv hmv2 hseaY
        go_wp2_with fail
        go_region_law ((first
         | (go_simp;go_at_call 57;((with_reducible refine (lp A (nth C U) HG.out.1 hAE elr).mono ?_);rintro e w4 ⟨m4,rfl,rfl⟩))
         | (go_simp;go_at_call 57;((with_reducible refine (lp A (nth C U) (HG.out.2 _) hAE elr).mono ?_);rintro e w4 ⟨m4,rfl,rfl⟩))
         | (go_simp;go_at_call 56;((with_reducible refine (Kb (nth v U) (G.mul A (nth C U)) (HG.out.2 _) elv (elm _ _)).mono ?_);rintro e w4 ⟨m5,rfl,rfl⟩))))
        all_goals (
         go_wp2_with fail
         go_roundw
         case rel =>
          have hdr:bm Y (Y.drewN (1+m4+m5)):=⟨_,rfl⟩
          have h1:=bA (w:=Y.drewN (1+m4+m5)) Q U hlk (cG (G.add (nth v U) (G.mul A (nth C U))))
          rw [<- Ny,Hset.out] at h1
          have hlo:=(aP Q (λe=>by have:=hpv (by omega);rw [e] at this;cases this)).1
          exact ⟨U+1,by omega,by go_num,h1,(hbr.trans (hdr.below.mono hbr.size)).trans ((M5 _ _).setCell (p:=⟨ablk a4,aN a4+U,none⟩) hlo _)⟩
         case measure=>simp [intOf]<;>omega)
      ·obtain rfl:U=m:=by omega
       rw [eD Nw v U HNl.out H.out] at Q
       have hvN:bH (g+1) Y a4 U Nw:=⟨(RW Q).1,λhn=>by have h1:=(aP Q (by intro e;have:=((RW Q).1).pl hn;rw [e] at this;cases this)).1;omega⟩
       have hMY:aB w Y (One g) (One g):=hmv.trans (RZ hbr _)
       obtain ⟨hRY,_,hbY⟩:=HS Y hMY
       have hsumA:lG G.ops (eQ G.q) (if false=true then [1] else eQ G.q) l (R.drop (i+1)) Nw=gS G.ops (eQ G.q) l (R.drop (i+1)) Nw:=by rw [M8 (by decide)];exact EE _ _ _ _ _
       have I:=hfb.out
       have K:=hfk.out
       rw [Hdt.out,Ru,HNw.out,Oa] at I K
       rw [Rv] at I
       rw [Ni,<- Pq] at K
       have hcall:=HIH Y D E B' k' a4 c4 Nw (i+1) false (λx hx=>Nz (HF0.2 x hx) hMY.size) hbY hseaY hRY hvN HNe.out (by omega) (by rw [hsumA];omega)
       rw [hsumA] at hcall
       have Hcall:=Z5 hcall
       have Hfb1:=Z5 I
       have Hfk1:=Z5 K
       have Hb:=Z5 hMY
       clear hcall I K hfb hfk Q hvN hRY hsumA hseaY hMY S hmv
       go_wp2_with fail
       refine Hcall.mono ?_
       rintro e w5 ⟨rfl,ab5,cb5,hs5,hM5⟩
       have hMF:=Hb.trans hM5
       have Hs5:=Z5 hs5
       clear hs5
       cases al
       ·go_wp2_with fail
        go_roundw
        case rel=>exact ⟨t+1,ab5,cb5,_,_,by omega,λh=>absurd h (by decide),by rw [<- HA.out];go_num,Hs5,hMF,Hfb1,Hfk1⟩
        case measure=>have:=HA.out;simp [intOf]<;>omega
       ·have ht0:=hal rfl
        have Z:c0.drop (t+1)=[]:=by rw [<- Hc0.out,M7 rfl,ht0];rfl
        have Hn1:Hid (T.foldl (dy G.ops) ((gS G.ops (eQ G.q) l (R.drop (i+1)) Nw).foldl (dy G.ops) B')=FB):=by have h1:=Hfb1.out;rw [Z] at h1;exact h1
        have Hn2:Hid (k'+(gS G.ops (eQ G.q) l (R.drop (i+1)) Nw).length+T.length=FK):=by have h1:=Hfk1.out;rw [Z] at h1;exact h1
        clear Z Hfb1 Hfk1
        go_wp2_with fail
        go_roundw
        case rel=>exact ⟨i+1,ab5,cb5,_,_,by omega,by go_num,Hs5,hMF,by show _=_;rw [HT.out];exact Hn1.out,by show _=_;rw [HT.out];exact Hn2⟩
        case measure=>simp [intOf]<;>omega
    ·have hal2:al=false:=by
      cases al
      ·rfl
      ·have:=hal rfl;omega
     have d2:decide ((t:Int)+1<(G.q:Int))=false:=by simp;omega
     have Z:c0.drop t=[]:=by rw [<- Hc0.out,hal2];rw [M8 (by decide)];exact Ob (by rw [pa];omega)
     have Hn1:Hid (T.foldl (dy G.ops) B'=FB):=by have h1:=hfb.out;rw [Z] at h1;exact h1
     have Hn2:Hid (k'+T.length=FK):=by have h1:=hfk.out;rw [Z] at h1;exact h1
     clear Z hfb hfk hR1 hv1 hb1 hal2
     go_wp2_with fail
     refine (qg hG1).mono ?_
     rintro e w' ⟨rfl,rfl⟩
     go_wp2_with fail
     go_roundw
     case rel=>exact ⟨i+1,D,E,B',k',by omega,by go_num,S,hmv,by show _=_;rw [HT.out];exact Hn1.out,by show _=_;rw [HT.out];exact Hn2⟩
     case measure=>simp [intOf]<;>omega
  ·have d1:decide ((i:Int)+LL<=(nr:Int))=false:=by simp;omega
   have Z:=nI G.ops (eQ G.q) c0 l (R.drop i) v (by rw [OK,HRl.out];omega)
   have I:=hfb.out
   have K:=hfk.out
   rw [Z] at I K
   have hfb2:B'=FB:=I
   have hfk2:k'=FK:=K
   subst hfb2 hfk2
   clear Z I K hfb hfk
   go_wp2_with fail
   go_end0
   exact ⟨rfl,D,E,S,hmv⟩
theorem AD {U:ej} {b g:Nat} {G:bX} {P M:Int} {am:OA} {Q I:Nat} {N:Int} {a:OA} {n c:Nat} {ag:OA} {K cg:Nat} {m:Nat} {ar:OA} {S cr:Nat} {R:ZZ}
  {F:Nat->Prop} (hF:F g) (h:dg U b G) (V:U.heap.size<=g) (hm:m<=64) (Y:1<=m) (X:bz G.El m R) (Z:S<=64):∀l,l<=64->yj F U g b G P M am Q I N a n c ag K cg m ar S cr R l
 | 0,_=>Ei hF h V (by omega)
 | l+1,H=>ES hF h V hm Y X Z l (by omega) (AD hF h V hm Y X Z l (by omega))
def dT (P M:Int) (mod:Lz) (m:Nat) (L:ZZ):ZZ:=(List.range m).map λi=>gZ P M mod m L (i:Nat)
def i5 (P M:Int) (mod:Lz) (N:Int) (L:ZZ):Int :=
 if aI P M mod N L=0 then (if yG P M mod N.toNat L=0 then (if [] ∈ dT P M mod N.toNat L then 11 else 0) else yG P M mod N.toNat L) else aI P M mod N L
def xZ (Z:Int) (A:ZZ) (w:ej) (e:Ending) (w':ej):Prop :=
 SJ w w'/\((Z ≠ 0/\e = ec #[ds,cG Z]) \/
  (Z=0/\∃a c,e = ec #[.slice a A.length c,cG 0]/\bP w' a A.length A/\(0<A.length->w.heap.size<=ablk a)))
theorem oP {P M:Int} {mod:Lz} {m:Nat} {L:ZZ} {k:Nat} (Z:k<m):aj (dT P M mod m L) k=gZ P M mod m L (k:Nat):=by rw [dT,aH (by simpa using Z)];simp
theorem tJ {P M:Int} {mod:Lz} {m:Nat} {L:ZZ} {i:Int} (Z:aI P M mod m L=0) (h:gZ P M mod m L i ≠ []):(gZ P M mod m L i).length=m:=by
 rcases xW Z i with ⟨h1,_⟩ | ⟨h1,_,_⟩
 ·exact absurd h1 h
 ·exact ((sC Z).1 h1).1.1
theorem vz (P M:Int) (am:OA) (mn cm:Nat) (mod:Lz) (N:Int) (a:OA) (n c:Nat) (L:ZZ) (w:ej) (Q:Ints w am mn mod) (hi:bP w a n L) :
  Calls prog 60 #[.agg #[cG P,cG M,.slice am mn cm,cG N,.slice a n c]] w (xZ (i5 P M mod N L) (dT P M mod N.toNat L) w):=by
 have HK:Hid (∀V,SJ w V->Calls prog 88 #[.agg #[cG P,cG M,.slice am mn cm,cG N,.slice a n c]] V λe w'=>e = .returned (cG (aI P M mod N L))/\SJ V w'):=λV hV=>cH P M am mn cm mod N a n c L V (Q.ai hV) (hi.ai hV);have HD:Hid (aI P M mod N L=0->∀V,SJ w V->Calls prog 101 #[.agg #[cG P,cG M,.slice am mn cm,cG N,.slice a n c]] V (l7 P M mod N.toNat L V)):=λF V hV=>by obtain ⟨m,rfl,_⟩:=aT F;rw [M9];exact sj P M am mn cm mod m a n c L V (Q.ai hV) (hi.ai hV) F
 have HN:Hid (aI P M mod N L=0->∃m:Nat,N=m/\m<=64):=λF=>by obtain ⟨m,e,_,Y,_⟩:=aT F;exact ⟨m,e,Y⟩
 have HH:Hid (aI P M mod N L=0->∀(k:Nat) (V:ej) (aW:OA) (nW cW:Nat),k<N.toNat->bP V aW nW (uS P M mod N.toNat L)->Calls prog 102 #[.slice aW nW cW,cG k] V λe w'=>SJ V w'/\∃ar nr cr,e = .returned (.slice ar nr cr)/\su w' ar nr (aj (dT P M mod N.toNat L) k)):=λF k V aW nW cW hk hW=>by
  obtain ⟨m,rfl,_,Y,_⟩:=aT F;rw [M9] at hk hW ⊢;rw [oP hk];have h:=nS aW nW cW (uS P M mod m L) m k V hW (λr hr=>((sC F).1 hr).1.1) hk Y;have e:gZ P M mod m L (k:Nat)=bstL m (k:Nat) (uS P M mod m L) nW:=by rw [gZ,hW.len]
  rw [e];exact h
 have HA:Hid (aI P M mod N L=0->∀k,k<N.toNat->aj (dT P M mod N.toNat L) k ≠ []->(aj (dT P M mod N.toNat L) k).length=N.toNat):=λF k hk h=>by obtain ⟨m,rfl,_⟩:=aT F;rw [M9] at hk h ⊢;rw [oP hk] at h ⊢;exact tJ F h
 have Z:Hid ((dT P M mod N.toNat L).length=N.toNat):=by show _=_;rw [dT,No,OI]
 have HE:Hid (i5 P M mod N L=if aI P M mod N L=0 then (if yG P M mod N.toNat L=0 then (if [] ∈ dT P M mod N.toNat L then 11 else 0) else yG P M mod N.toNat L) else aI P M mod N L):=rfl;unfold l7 at HD;generalize i5 P M mod N L=er at *;generalize dT P M mod N.toNat L=A at *;generalize aI P M mod N L=ce at *;generalize yG P M mod N.toNat L=de at *;generalize uS P M mod N.toNat L=Dw at *;clear Q hi;go_enter func60,ntmps60;go_upto_region 1 with fail;obtain ⟨W,hW⟩:∃W:ej,W=w.alloc (.cells #[cG P,cG M,.slice am mn cm,cG N,.slice a n c] 27):=⟨_,rfl⟩
 rw [<- hW];have hbW:SJ w W:=by rw [hW];exact aD _ _
 have x0:aQ W w.heap.size [cG P,cG M,.slice am mn cm,cG N,.slice a n c]:=by rw [hW];exact RV _ _ _ rfl
 have HX:=Z5 x0;have HbW:=Z5 hbW;have c0:=x0.cell 0 rfl;have c1:=x0.cell 1 rfl;have c2:=x0.cell 2 rfl;have c3:=x0.cell 3 rfl;have c4:=x0.cell 4 rfl;clear hW x0 hbW;go_wp2_with fail;refine (HK W HbW.out).mono ?_;rintro e w1 ⟨rfl,hb1⟩;have D:=RU HbW.out hb1;clear c0 c1 c2 c3 c4;by_cases h0:ce=0;rotate_left
 ·have d0:(ce != 0)=true:=by simpa using h0
  have HR:Hid (er=ce):=by show _=_;rw [HE.out,M8 h0]
  have H0:=Z5 h0;clear h0 HD HH HA HN;go_wp2_with fail;go_ret2;exact ⟨D,.inl ⟨by rw [HR.out];exact H0.out,by rw [HR.out]<;>rfl⟩⟩
 have d0:(ce != 0)=false:=by simp [h0]
 have HR0:Hid (er=if de=0 then (if [] ∈ A then 11 else 0) else de):=by show _=_;rw [HE.out,M7 h0]
 have HD1:=Z5 (HD h0);have HH1:=Z5 (HH h0);have HA1:=Z5 (HA h0);obtain ⟨m,rfl,Y⟩:=HN h0;rw [M9] at HH1 HA1 Z;have y1:=HX.ai hb1;have c0:=y1.cell 0 rfl;have c1:=y1.cell 1 rfl;have c2:=y1.cell 2 rfl;have c3:=y1.cell 3 rfl;have c4:=y1.cell 4 rfl;clear y1 h0 HD HH HA HN HE HK;go_wp2_with fail;refine (HD1 w1 D).mono ?_;rintro e B ⟨hb2,⟨h1,rfl⟩ | ⟨h1,aW,nW,cW,rfl,hM⟩⟩
 ·have I:=RU D hb2;have d1:(de != 0)=true:=by simpa using h1
  have HR:Hid (er=de):=by show _=_;rw [HR0.out,M8 h1]
  have H1:=Z5 h1;clear c0 c1 c2 c3 c4 h1;go_wp2_with fail;go_ret2;exact ⟨I,.inl ⟨by rw [HR.out];exact H1.out,by rw [HR.out]<;>rfl⟩⟩
 have I:=RU D hb2;have HR:Hid (er=if [] ∈ A then 11 else 0):=by show _=_;rw [HR0.out,M7 h1]
 have HM:=Z5 hM;have x2:=(HX.ai hb1).ai hb2;clear c0 c1 c2 c3 c4 h1 hM;have c3:=x2.cell 3 rfl;have heq:=λ(w:ej) (a:OA) (l c:Nat)=>Go.run_eql_slice_nil (P:=prog) w 22 3 a l c underlying22;clear x2;go_wp2_with fail;go_loopw [7,25] (λsv iv wr=>∃(k:Nat) (a1:OA) (c1:Nat),k<=m/\iv = cG k/\sv = .slice a1 k c1/\(∃R,aS wr B.heap.size a1 k c1 R (A.take k))/\SJ B wr/\Hid (∀j,j<k->aj A j ≠ [])) (λ_ iv _=>m - (intOf iv).toNat);case atStart=>exact ⟨0,none,0,Nb _,rfl,rfl,⟨[],by simpa using SB B B.heap.size⟩,M5 _ _,λj hj=>by omega⟩
 case round =>
  obtain ⟨k,a1,c1,hk,rfl,rfl,⟨R,hO⟩,G,hne⟩:=hrel
  generalize wr=V at *
  by_cases hlt:k<m
  ·have Hh:=Z5 (HH1 k V aW nW cW hlt (HM.ai G))
   have U:k<A.length:=by rw [Z.out];exact hlt
   have Hmem:Hid (aj A k ∈ A):=by show _ ∈ _;rw [aH U];exact NL U
   have HxL:=Z5 (HA1 k hlt)
   have Htk:Hid (A.take (k+1)=A.take k ++ [aj A k]):=by show _=_;rw [Nh U,aH U]
   have Hne1:Hid (aj A k ≠ []->∀j,j<k+1->aj A j ≠ []):=λh j hj=>by
    by_cases e:j=k
    ·subst e;exact h
    ·exact hne j (by omega)
   obtain ⟨x,hx⟩:∃x,aj A k=x:=⟨_,rfl⟩
   rw [hx] at Hh Hmem HxL Htk Hne1
   have hsz:=G.size
   have hF3:=RU I G
   clear hx U hne
   go_wp2_with fail
   refine Hh.mono ?_
   rintro e w3 ⟨C,ar,nr,cr,rfl,X⟩
   have hF4:=RU hF3 C
   by_cases h0:x=[]
   ·have hin:ar.isNone=true:=by rw [X.2];exact Nv h0
    have E:Hid (er=11):=by show _=_;rw [HR.out,M7 (by rw [<- h0];exact Hmem)]
    clear h0 X hO
    go_wp2_with fail
    go_ret2
    exact ⟨hF4,.inl ⟨by rw [E.out];decide,by rw [E.out]<;>rfl⟩⟩
   have hin:ar.isNone=false:=by rw [X.2];exact Nu h0
   have hnx:nr=m:=by rw [<- X.1.len];exact HxL h0
   have hxq1:Ints w3 ar m x:=by rw [<- hnx];exact X.1
   have Hcl:=Z5 (cZ ar m cr x (w:=w3) hxq1 (by omega))
   have Hn2:=Z5 (Hne1 h0)
   have hO3:=hO.ai C
   clear h0 X hxq1 hO
   go_wp2_with fail
   refine Hcl.mono ?_
   rintro e w4 ⟨a3,S,rfl,K,hb4⟩
   have hbn:=aD w4 (.cells #[.slice a3 x.length S] 22)
   have hO4:=hO3.ai (RU hb4 hbn)
   have z:=RU C hb4
   have hs4:B.heap.size<=(w4.alloc (.cells #[.slice a3 x.length S] 22)).heap.size:=by have h1:=z.size;simp;omega
   have H:=Z5 K
   clear K Hcl Hh
   go_wp2_with (at_builtin;refine bd rfl _ _ 25 22 rfl ds 24 underlying25 ed rfl B.heap.size a1 k c1 _ rfl hO4.own ⟨w4.heap.size,0,none⟩ 1 (.slice a3 x.length S) rfl (bh w4 _ _) rfl (by omega) (by unfold maxLen;omega) hs4 ?_;intro a5 c5 w5 hown5 hgr5 hap5)
   go_roundw
   case rel =>
    have hown4:(w4.alloc (.cells #[.slice a3 x.length S] 22)).ownsRow B.heap.size 3 1 (.slice a3 x.length S) x.length (x.map (Value.int .i64)) :=
     bq (bj H.out (aD _ _)) (Np hsz C.size)
    have hra:a3 ≠ none->¬ bN a1 R (ablk a3):=λh0 hI=>by have h1:=(aP H.out h0).1;have h2:=(hO3.lt _ hI).2;omega
    have hP:=Ss hO4 hown4 hra hown5 hgr5 hap5
    have hb5:SJ B w5:=RY (RU G (RU z hbn)) hO4.own hgr5 (M4 _) hs4
    exact ⟨k+1,a5,c5,by omega,by go_num,rfl,⟨_,by rw [Htk.out];exact hP⟩,hb5,Hn2⟩
   case measure=>simp [intOf]<;>omega
  ·obtain rfl:k=m:=by omega
   rw [Nj (by rw [Z.out];exact M4 _)] at hO
   have E:Hid (er=0):=by show _=_;rw [HR.out,M8];intro h;obtain ⟨j,hj,hj2⟩:=mq h;exact hne j (by rw [<- Z.out];exact hj) hj2
   have hF:=RU I G
   have HO:=Z5 hO.lL
   have HO2:Hid (0<k->w.heap.size<=ablk a1):=λh0=>Np I.size (ew hO.own h0).1
   clear hO
   go_wp2_with fail
   go_ret2
   exact ⟨hF,.inr ⟨E,a1,c1,by rw [Z.out]<;>rfl,by rw [Z.out];exact HO.out,by rw [Z.out];exact HO2⟩⟩
def mxS (A:ZZ) (m:Nat):Nat->Int
 | 0=>0
 | k+1=>max (mxS A m k) ((eG (aj A k) m k).length:Int)
def nT (P M:Int) (mod:Lz) (N:Int) (L:ZZ):Int:=if i5 P M mod N L=0 then mxS (dT P M mod N.toNat L) N.toNat N.toNat else 0
theorem mj (P M:Int) (am:OA) (D cm:Nat) (mod:Lz) (N:Int) (a:OA) (n c:Nat) (L:ZZ) (w:ej) (X:Ints w am D mod) (hi:bP w a n L) :
  Calls prog 20 #[.agg #[cG P,cG M,.slice am D cm,cG N,.slice a n c]] w λe w'=>e = ec #[cG (nT P M mod N L),cG (i5 P M mod N L)]/\SJ w w':=by
 have HK:Hid (∀V,SJ w V->Calls prog 60 #[.agg #[cG P,cG M,.slice am D cm,cG N,.slice a n c]] V (xZ (i5 P M mod N L) (dT P M mod N.toNat L) V)):=λV hV=>vz P M am D cm mod N a n c L V (X.ai hV) (hi.ai hV);have HV:Hid (nT P M mod N L=if i5 P M mod N L=0 then mxS (dT P M mod N.toNat L) N.toNat N.toNat else 0):=rfl;have HL:Hid (i5 P M mod N L=0->∃m:Nat,N=m/\m<=64/\(dT P M mod N.toNat L).length=m/\∀k,k<m->(aj (dT P M mod N.toNat L) k).length=m):=λh=>by
  have B:aI P M mod N L=0:=by
   unfold i5 at h;split at h
   ·assumption
   ·rename_i B;exact absurd h B
  obtain ⟨m,rfl,_,U,_⟩:=aT B;rw [i5,M7 B,M9] at h;rw [M9];have hl:(dT P M mod m L).length=m:=by rw [dT,No,OI]
  refine ⟨m,rfl,U,hl,λk hk=>?_⟩;have Y:aj (dT P M mod m L) k ∈ dT P M mod m L:=by rw [aH (by rw [hl];exact hk)];exact NL _
  split at h
  ·split at h
   ·cases h
   ·rename_i h2;rw [oP hk] at Y ⊢;exact tJ B λe=>h2 (by rw [<- e];exact Y)
  ·rename_i h1;exact absurd h h1
 generalize nT P M mod N L=v at *;generalize i5 P M mod N L=er at *;generalize dT P M mod N.toNat L=A at *;clear X hi;go_enter func20,ntmps20;go_upto_region 1 with fail;obtain ⟨W,hW⟩:∃W:ej,W=w.alloc (.cells #[cG P,cG M,.slice am D cm,cG N,.slice a n c] 27):=⟨_,rfl⟩
 rw [<- hW];have C:SJ w W:=by rw [hW];exact aD _ _
 have E:aQ W w.heap.size [cG P,cG M,.slice am D cm,cG N,.slice a n c]:=by rw [hW];exact RV _ _ _ rfl
 have I:=Z5 C;have c0:=E.cell 0 rfl;have c1:=E.cell 1 rfl;have c2:=E.cell 2 rfl;have c3:=E.cell 3 rfl;have c4:=E.cell 4 rfl;clear hW E C;go_wp2_with fail;refine (HK W I.out).mono ?_;rintro e w1 ⟨hb1,⟨h1,rfl⟩ | ⟨h1,aA,cA,rfl,hM,_⟩⟩
 ·have K:=RU I.out hb1;have d1:(er != 0)=true:=by simpa using h1
  have HR:Hid (v=0):=by show _=_;rw [HV.out,M8 h1]
  clear c0 c1 c2 c3 c4 h1 HL;go_wp2_with fail;go_ret2;exact ⟨by rw [HR.out]<;>rfl,K⟩
 have K:=RU I.out hb1;have HR:Hid (v=mxS A N.toNat N.toNat):=by show _=_;rw [HV.out,M7 h1]
 have H1:Hid (er=0):=h1;obtain ⟨m,rfl,U,Q,z⟩:=HL h1;rw [M9] at HR;rw [Q] at hM;have HM:=Z5 hM;have HAk:=Z5 z;have hplA:=hM.pl;rw [Q];clear c0 c1 c2 c3 c4 h1 hM z HL HV HK Q;go_wp2_with fail;go_loopw [6,19] (λsv iv wr=>∃k:Nat,k<=m/\iv = cG k/\sv = cG (mxS A m k)/\SJ w1 wr) (λ_ iv _=>m - (intOf iv).toNat);case atStart=>exact ⟨0,Nb _,rfl,rfl,M5 _ _⟩
 case round =>
  obtain ⟨k,hk,rfl,rfl,H⟩:=hrel
  generalize wr=V at *
  by_cases j:k<m
  ·obtain ⟨ra,F,rc,hcell,Z⟩:=(HM.ai H).cell k j
   have hrn:F=m:=by rw [<- Z.len];exact HAk k j
   subst hrn
   have HS:=Z5 (ik ra F rc (aj A k) k V Z (by omega))
   have Hm:Hid (mxS A F (k+1)=max (mxS A F k) ((eG (aj A k) F k).length:Int)):=rfl
   generalize eG (aj A k) F k=S at *
   generalize mxS A F k=y at *
   clear Z
   go_wp2_with fail
   refine HS.mono ?_
   rintro e w4 ⟨a4,k4,rfl,G,hb4⟩
   have hb5:=RU H hb4
   clear G
   go_wp2_with fail
   go_roundw
   case rel=>exact ⟨k+1,by omega,by go_num,by rw [Hm.out]<;>exact congrArg _ (by split<;>omega),hb5⟩
   case measure=>simp [intOf]<;>omega
  ·obtain rfl:k=m:=by omega
   have hF:=RU K H
   go_wp2_with fail
   go_ret2
   exact ⟨by rw [HR.out,H1.out]<;>rfl,hF⟩
theorem Bw {P M:Int} {mod:Lz} {m:Nat} {L:ZZ} (U:aI P M mod m L=0) (i:Nat) :
  dK P M mod m [eZ m (i:Int)]=0/\aI P M mod m (b8 (ah P M.toNat mod) [eZ m (i:Int)] m)=0 /\
  bI (ah P M.toNat mod).ops m (L ++ b8 (ah P M.toNat mod) [eZ m (i:Int)] m)=bI (ah P M.toNat mod).ops m (L ++ [eZ m (i:Int)]) /\
  aI P M mod m (bI (ah P M.toNat mod).ops m (L ++ [eZ m (i:Int)]))=0:=by
 obtain ⟨N,e,Y,Z,F,S⟩:=aT U;obtain rfl:m=N:=by omega
 have X:bz (ah P M.toNat mod).El m [eZ m (i:Int)]:=λr Q=>by rw [List.mem_singleton.1 Q];exact Gp F m i
 have V:=(aX U).1;have K:=iM U;exact ⟨iR V (by omega) (by simp) X,uZ V X Y Z (by simp),Kf F S X,uZ V (my S X) Y Z (by simp;omega)⟩
theorem tz (P M:Int) (am:OA) (C cm:Nat) (mod:Lz) (m:Nat) (a:OA) (n c:Nat) (L:ZZ) (i:Nat) (w:ej) (Q:Ints w am C mod) (hi:bP w a n L) (hE:aI P M mod m L=0) (him:i<m) :
  Calls prog 74 #[.agg #[cG P,cG M,.slice am C cm,cG m,.slice a n c],cG i] w λe w' =>
   ∃a1 c1 a2 c2,e = ec #[.agg #[cG P,cG M,.slice a1 mod.length c1,cG m,.slice a2 (fV P M mod m L i).length c2],cG 0]/\Ints w' a1 mod.length mod/\bP w' a2 (fV P M mod m L i).length (fV P M mod m L i)/\SJ w w':=by
 obtain ⟨f1,f2,f3,f4⟩:=Bw hE i;have hm64:=(aX hE).2.2.1;have hm1:=(aX hE).2.1;have hmn:C<=8:=by have:=mB (aX hE).1;rw [<- Q.len];exact this
 have hml:mod.length<=8:=mB (aX hE).1;have D:Hid (∀V a1 c1,SJ w V->bP V a1 1 [eZ m (i:Int)]->Calls prog 68 #[.agg #[cG P,cG M,.slice am C cm],.agg #[cG m,.slice a1 1 c1]] V λe w'=>∃a1 c1 a2 c2,e = ec #[.agg #[cG P,cG M,.slice a1 mod.length c1,cG m,.slice a2 (b8 (ah P M.toNat mod) [eZ m (i:Int)] m).length c2],cG 0] /\
   Ints w' a1 mod.length mod/\bP w' a2 (b8 (ah P M.toNat mod) [eZ m (i:Int)] m).length (b8 (ah P M.toNat mod) [eZ m (i:Int)] m)/\SJ V w'):=λV a1 c1 hV h1=>by refine (qn P M am C cm mod m a1 1 c1 _ V (Q.ai hV) h1 f1 (by omega) (by omega) (by omega)).mono ?_;rintro e w' ⟨a2,c2,a3,U,rfl,h2,h3,h4⟩;exact ⟨a2,c2,a3,U,rfl,h2.ints,h3.lL,h4⟩
 have N:Hid (∀V a2 c2 a3 U,SJ w V->Ints V a2 mod.length mod->bP V a3 (b8 (ah P M.toNat mod) [eZ m (i:Int)] m).length (b8 (ah P M.toNat mod) [eZ m (i:Int)] m) ->
   Calls prog 126 #[.agg #[cG P,cG M,.slice am C cm,cG m,.slice a n c],.agg #[cG P,cG M,.slice a2 mod.length c2,cG m,.slice a3 (b8 (ah P M.toNat mod) [eZ m (i:Int)] m).length U]] V λe w' =>
   ∃a1 c1 a2 c2,e = ec #[.agg #[cG P,cG M,.slice a1 mod.length c1,cG m,.slice a2 (bI (ah P M.toNat mod).ops m (L ++ [eZ m (i:Int)])).length c2],cG 0] /\
   Ints w' a1 mod.length mod/\bP w' a2 (bI (ah P M.toNat mod).ops m (L ++ [eZ m (i:Int)])).length (bI (ah P M.toNat mod).ops m (L ++ [eZ m (i:Int)]))/\SJ V w'):=λV a2 c2 a3 U hV h1 h2=>by have h:=zB P M am C cm mod m a n c L a2 mod.length c2 a3 _ U _ V (Q.ai hV) (hi.ai hV) h1 h2 hE f2 (by omega);rw [f3] at h;refine h.mono ?_;rintro e w' ⟨a4,c4,a5,c5,rfl,h2,h3,h4⟩;exact ⟨a4,c4,a5,c5,rfl,h2.ints,h3.lL,h4⟩
 have HDu:Hid (∀V a2 c2 a3 U,Ints V a2 mod.length mod->bP V a3 (bI (ah P M.toNat mod).ops m (L ++ [eZ m (i:Int)])).length (bI (ah P M.toNat mod).ops m (L ++ [eZ m (i:Int)])) ->
   Calls prog 80 #[.agg #[cG P,cG M,.slice a2 mod.length c2,cG m,.slice a3 (bI (ah P M.toNat mod).ops m (L ++ [eZ m (i:Int)])).length U]] V λe w' =>
   ∃a1 c1 a2 c2,e = ec #[.agg #[cG P,cG M,.slice a1 mod.length c1,cG m,.slice a2 (fV P M mod m L i).length c2],cG 0] /\
   bH V.heap.size w' a1 mod.length mod/\bJ V.heap.size w' a2 (fV P M mod m L i).length (fV P M mod m L i)/\SJ V w'):=λV a2 c2 a3 U h1 h2 =>
  tu P M a2 mod.length c2 mod m a3 _ U _ V h1 h2 f4 (by omega)
 have hux:(List.replicate m (0:Int)).set i 1=eZ m i:=by rw [eZ,M9]
 have Hux:=Z5 hux;obtain ⟨u,hu⟩:∃u,eZ m (i:Int)=u:=⟨_,rfl⟩
 have Hul:Hid (u.length=m):=by show _=_;rw [<- hu,<- hux];simp
 rw [hu] at D Hux;clear f1 f2 f3 f4 Q hi hE hux;rw [hu] at N HDu;generalize b8 (ah P M.toNat mod) [u] m=U1 at *;generalize bI (ah P M.toNat mod).ops m (L ++ [u])=U2 at *;generalize fV P M mod m L i=U3 at *;obtain ⟨Z,j⟩:∃Z,mod.length=Z:=⟨_,rfl⟩
 obtain ⟨q1,hq1⟩:∃q,U1.length=q:=⟨_,rfl⟩
 obtain ⟨q2,hq2⟩:∃q,U2.length=q:=⟨_,rfl⟩
 obtain ⟨q3,hq3⟩:∃q,U3.length=q:=⟨_,rfl⟩
 rw [j,hq1] at D N;rw [hq2] at N;rw [j,hq2,hq3] at HDu;rw [j,hq3];clear hu j hq1 hq2 hq3 hml;go_enter func74,ntmps74;go_upto_region 1 with fail;obtain ⟨W,hW⟩:∃W:ej,W=(w.alloc (.cells #[cG P,cG M,.slice am C cm,cG m,.slice a n c] 27)).alloc (.cells #[cG 0,cG 0,ds,cG 0,ds] 27):=⟨_,rfl⟩
 rw [<- hW];have hbW:SJ w W:=by rw [hW];exact dP _ _ _
 have hsW:W.heap.size=w.heap.size+2:=by rw [hW];simp
 have x0:aQ W w.heap.size [cG P,cG M,.slice am C cm,cG m,.slice a n c]:=by rw [hW];exact (RV _ _ _ rfl).alloc _
 have z0:aQ W (w.heap.size+1) [cG 0,cG 0,ds,cG 0,ds]:=by rw [hW];exact RV _ _ _ (by simp)
 clear hW;have HX:Hid (∀V,SJ W V->V.cell? ⟨w.heap.size,0,none⟩=some (cG P)/\V.cell? ⟨w.heap.size,1,none⟩=some (cG M)/\V.cell? ⟨w.heap.size,2,none⟩=some (.slice am C cm)/\V.cell? ⟨w.heap.size,3,none⟩=some (cG m)/\V.cell? ⟨w.heap.size,4,none⟩=some (.slice a n c)):=λV hV=>by have x1:=x0.ai hV;exact ⟨x1.cell 0 rfl,x1.cell 1 rfl,x1.cell 2 rfl,x1.cell 3 rfl,x1.cell 4 rfl⟩
 have HZ:=Z5 z0;have HbW:=Z5 hbW;have HsW:=Z5 hsW;clear x0 z0 hbW hsW;obtain ⟨c0,c1,c2,U,c4⟩:=HX W (M5 _ _);have hm64':m<=64:=by omega
 go_upto_region 2 with (at_make;refine bR rfl _ _ 22 3 rfl (cG 0) 8 underlying22 br rfl m rfl rfl (by omega) (by unfold maxLen;omega) ?_;intro a5 w5 K hbel hge hlt5)
 clear c0 c1 c2 U c4;rw [<- OB] at K;obtain ⟨hints,S⟩:=RW K;have hpl5:=hints.pl;have cz:=hints.cell i him;have fz:=(S (by omega)).2 i him;have hB:=(S (by omega)).1;have him1:(i:Int)<m:=by omega
 have I:=bA K i him (cG 1);rw [<- Ny,Hux.out] at I;have A:SJ W (w5.setCell ⟨ablk a5,aN a5+i,none⟩ (cG 1)):=hbel.setCell hB _;have HI5:=Z5 (RW I).1;clear K hints S I hge hlt5;go_upto_region 3 with fail;obtain ⟨X,hX⟩:∃X,w5.setCell ⟨ablk a5,aN a5+i,none⟩ (cG 1)=X:=⟨_,rfl⟩
 rw [hX] at A HI5 ⊢;clear cz fz hB hX hbel;obtain ⟨c0,c1,c2,U,c4⟩:=HX X A;obtain ⟨Y,hY⟩:∃Y:ej,Y=X.alloc (.cells #[.slice a5 m m] 22):=⟨_,rfl⟩
 have z:SJ X Y:=by rw [hY];exact aD _ _
 have hM1:bP Y (some ⟨X.heap.size,0,none⟩) 1 [u]:=by
  refine ⟨rfl,λ_=>rfl,by unfold maxLen;omega,λk hk=>?_⟩;obtain rfl:k=0:=by omega
  refine ⟨a5,m,m,?_,HI5.ai z⟩;rw [hY];exact aF _ _ _ rfl 0
 have hF5:=RU HbW.out (RU A z);have HC:=Z5 (D Y (some ⟨X.heap.size,0,none⟩) 1 hF5 hM1);have HY:=Z5 (Ng hY z);clear hY z hM1;go_wp2_with fail;rw [<- HY.1];refine HC.mono ?_;rintro e w6 ⟨a6,c6,a7,c7,rfl,hI6,hM6,hb6⟩;have hb16:=RU (RU A HY.2) hb6;have F:=aD w6 (.cells #[cG P,cG M,.slice a6 Z c6,cG m,.slice a7 q1 c7] 27);have HB6:Hid (∀V,Below (w6.alloc (.cells #[cG P,cG M,.slice a6 Z c6,cG m,.slice a7 q1 c7] 27)).heap.size (w6.alloc (.cells #[cG P,cG M,.slice a6 Z c6,cG m,.slice a7 q1 c7] 27)) V->V.cell? ⟨w6.heap.size,0,none⟩=some (cG P)/\V.cell? ⟨w6.heap.size,1,none⟩=some (cG M)/\V.cell? ⟨w6.heap.size,2,none⟩=some (.slice a6 Z c6)/\V.cell? ⟨w6.heap.size,3,none⟩=some (cG m)/\V.cell? ⟨w6.heap.size,4,none⟩=some (.slice a7 q1 c7)):=λV hV=>by have y:=(RV w6 [cG P,cG M,.slice a6 Z c6,cG m,.slice a7 q1 c7] 27 rfl).ai hV;exact ⟨y.cell 0 rfl,y.cell 1 rfl,y.cell 2 rfl,y.cell 3 rfl,y.cell 4 rfl⟩
 have hF6:=RU HbW.out (RU hb16 F);have HC2:=Z5 (N _ a6 c6 a7 c7 hF6 (hI6.ai F) (hM6.ai F));clear c0 c1 c2 U c4 HC hI6 hM6;go_upto_region 6 with fail;obtain ⟨V6,hV6⟩:∃V6,w6.alloc (.cells #[cG P,cG M,.slice a6 Z c6,cG m,.slice a7 q1 c7] 27)=V6:=⟨_,rfl⟩
 rw [hV6] at HB6 HC2 F hF6 ⊢;have hb17:=RU hb16 F;obtain ⟨c0,c1,c2,U,c4⟩:=HX V6 hb17;obtain ⟨d0,d1,d2,d3,d4⟩:=HB6 V6 (M5 _ _);clear hV6;go_wp2_with fail;refine HC2.mono ?_;rintro e w8 ⟨a8,c8,a9,c9,rfl,hI8,hM8,hb8⟩;have B:=aD w8 (.cells #[cG P,cG M,.slice a8 Z c8,cG m,.slice a9 q2 c9] 27);have HC3:=Z5 (HDu _ a8 c8 a9 c9 (hI8.ai B) (hM8.ai B));have y8:aQ (w8.alloc (.cells #[cG P,cG M,.slice a8 Z c8,cG m,.slice a9 q2 c9] 27)) w8.heap.size [cG P,cG M,.slice a8 Z c8,cG m,.slice a9 q2 c9]:=RV _ _ _ rfl;clear c0 c1 c2 U c4 d0 d1 d2 d3 d4 HC2 hI8 hM8;go_upto_region 9 with fail;obtain ⟨V8,hV8⟩:∃V8,w8.alloc (.cells #[cG P,cG M,.slice a8 Z c8,cG m,.slice a9 q2 c9] 27)=V8:=⟨_,rfl⟩
 rw [hV8] at HC3 B y8 ⊢;have H:=RU hb17 (RU hb8 B);have d0:=y8.cell 0 rfl;have d1:=y8.cell 1 rfl;have d2:=y8.cell 2 rfl;have d3:=y8.cell 3 rfl;have d4:=y8.cell 4 rfl;clear hV8 y8;go_wp2_with fail;refine HC3.mono ?_;rintro e w9 ⟨aa,ca,ab,cb,rfl,hI9,hM9,hb9⟩;have G:=HZ.ai (RU H hb9);have z0:=G.cell 0 rfl;have z1:=G.cell 1 rfl;have z2:=G.cell 2 rfl;have z3:=G.cell 3 rfl;have z4:=G.cell 4 rfl;have f0:=G.frozen 0;have f1:=G.frozen 1;have f2:=G.frozen 2;have f3:=G.frozen 3;have f4:=G.frozen 4;have hs:=HsW.out;have hs1:=H.size;have hbF:=RU HbW.out (RU H hb9);have E:=Z5 (Ng (((((hI9.setCell (p:=⟨w.heap.size+1,0,none⟩) (by simp;omega) (cG P)).setCell (p:=⟨w.heap.size+1,1,none⟩) (by simp;omega) (cG M)).setCell (p:=⟨w.heap.size+1,2,none⟩) (by simp;omega) (.slice aa Z ca)).setCell (p:=⟨w.heap.size+1,3,none⟩) (by simp;omega) (cG m)).setCell (p:=⟨w.heap.size+1,4,none⟩) (by simp;omega) (.slice ab q3 cb)).ints
  (Ng (((((hM9.setCell (p:=⟨w.heap.size+1,0,none⟩) (by simp;omega) (cG P)).setCell (p:=⟨w.heap.size+1,1,none⟩) (by simp;omega) (cG M)).setCell (p:=⟨w.heap.size+1,2,none⟩) (by simp;omega) (.slice aa Z ca)).setCell (p:=⟨w.heap.size+1,3,none⟩) (by simp;omega) (cG m)).setCell (p:=⟨w.heap.size+1,4,none⟩) (by simp;omega) (.slice ab q3 cb)).lL
   (((((hbF.setCell (p:=⟨w.heap.size+1,0,none⟩) (by simp) (cG P)).setCell (p:=⟨w.heap.size+1,1,none⟩) (by simp) (cG M)).setCell (p:=⟨w.heap.size+1,2,none⟩) (by simp) (.slice aa Z ca)).setCell (p:=⟨w.heap.size+1,3,none⟩) (by simp) (cG m)).setCell (p:=⟨w.heap.size+1,4,none⟩) (by simp) (.slice ab q3 cb))))
 clear d0 d1 d2 d3 d4 G hI9 hM9;go_wp2_with fail;exact bodyPost_ret (v:=.tuple #[.agg #[cG P,cG M,.slice aa Z ca,cG m,.slice ab q3 cb],cG 0]) (by simp [results,results74,go_sem,z0,z1,z2,z3,z4]) rfl ⟨aa,ca,ab,cb,rfl,E.1,E.2.1,E.2.2⟩
theorem qq {P M:Int} {mod:Lz} (h:bw P M mod=true):∃g,JH (ah P M.toNat mod).ops (ah P M.toNat mod).El (ah P M.toNat mod).q g:=by
 have F:=dY h;obtain ⟨m,y,rfl,N,X,I,S,G⟩:=kJ h;rw [M9] at F ⊢;have Y:∀x,(ah P m mod).El x ↔ fo P m x:=λx=>by simp only [bX.El,ah,fo];rw [S]
 have Z:∀k,fA (ah P m mod).ops y k=pw P m mod y k:=λk=>by
  induction k with
  | zero=>rfl
  | succ k K =>
   show (ah P m mod).ops.mul (fA (ah P m mod).ops y k) y=dp P m mod (pw P m mod y k) y
   rw [K]
   exact G.rL (qx N y k) G.yel
 refine ⟨y,(Y y).2 G.yel,λx=>Iff.rfl,G.q2,λx Q h0=>?_,λi j hi V e=>?_,?_,λk=>?_⟩
 ·obtain ⟨k,U,e,_⟩:=G.log ((Y x).1 Q) h0;exact ⟨k,U,by rw [Z];exact e⟩
 ·rw [Z,Z,<- G.val i hi,<- G.val j V] at e;exact G.inj hi V e
 ·rw [Z];exact G.last
 ·rw [Z];exact G.K6 k
section
variable {O:aL} {El:Int->Prop} {q:Nat} {g:Int}
def Bd (O:aL) (q r c:Nat):Lz:=fD O (rtTo O (r+1) (q - 1)) ((r+1) * c) (q - 1)
def LU (O:aL) (q r c k:Nat):ZZ:=iJ O (Bd O q r c) (gv r) k
theorem GJ {r c k j:Nat} (Y:1<=r) (X:k<=c * r) (Z:j<k):gv r j<=(k - 1)+(k - 1) / r/\(k - 1)+(k - 1) / r<(r+1) * c:=by
 refine ⟨?_,?_⟩
 ·unfold gv;have:=Ra (c:=r) (show j<=k - 1 by omega);omega
 ·have h1:(k - 1) / r<c:=Nat.div_lt_of_lt_mul (by rw [Oz];omega);have h2:=Po (k - 1) r;have h3:=O8 (k - 1) (show r > 0 by omega);have h4:r * ((k - 1) / r)+r<=r * c:=by rw [<- PF];exact N7 r h1
  rw [PI];omega
theorem LG (F:bQ O El) (h:JH O El q g) {r c k:Nat} (z:1<=r) (hd:(r+1) ∣ q - 1) (hc:(r+1) * c<=q - 1) (hk1:1<=k) (hk:k<=c * r) :
  (Bd O q r c).length=(r+1) * c/\(∀x ∈ Bd O q r c,El x)/\(bI O ((r+1) * c) (LU O q r c k)).length=k /\
  (∀w,Vc El ((r+1) * c) w->RS O El ((r+1) * c) (bI O ((r+1) * c) (LU O q r c k)) (λi=>nth w i)->bY w ≠ 0->(r+1) * c<=bY w+((k - 1)+(k - 1) / r)) /\
  ∀j,j<c->∀l:Z6,(∀p ∈ l,(r+1) * j<=p/\p<(r+1) * j+(r+1))->l.Nodup->r<=l.length->∀p,(r+1) * j<=p->p<(r+1) * j+(r+1) ->
   lu O El (bI O ((r+1) * c) (LU O q r c k)).length (bp (bI O ((r+1) * c) (LU O q r c k))) l p:=by
 obtain ⟨hI,hl⟩:=I7 F h (s:=r+1) (c:=c) (by omega) hd hc;have Z:(Bd O q r c).length=(r+1) * c:=hl;have X:∀x ∈ Bd O q r c,El x:=λx hx=>(hI.el x hx).1;have hE:∀i j,i<j->j<k->gv r i<gv r j:=λi j A _=>KE A;have e:∀j,j<k->gv r j<=(k - 1)+(k - 1) / r:=λj Q=>(GJ z hk Q).1;have C:(k - 1)+(k - 1) / r<(Bd O q r c).length:=by rw [Z];exact (GJ z hk (show 0<k by omega)).2
 unfold LU;rw [<- Z];refine ⟨rfl,X,IZ F hI.nd X hE e C,λw hw K h0=>Cw F hI.nd X hE e hw K h0,λj Q l Y H B p N G=>?_⟩;have hlt:(r+1) * j+(r+1)<=(Bd O q r c).length:=by rw [Z,<- PF];exact N7 (r+1) Q
 obtain ⟨V,I,U⟩:=hI.Gy;have D:V=c:=by
  have h1:(r+1) * V=(r+1) * c:=by rw [<- I];exact Z
  exact Nat.eq_of_mul_eq_mul_left (by omega) h1
 subst D;have S:∀p,(r+1) * j<=p->p<(r+1) * j+(r+1)->fA O (nth (Bd O q r V) p) (r+1)=fA O (nth (Bd O q r V) ((r+1) * j)) (r+1):=λp h1 h2=>by have h3:=U j (p - (r+1) * j) Q (by omega);rw [show (r+1) * j+(p - (r+1) * j)=p by omega] at h3;exact h3
 exact F6 F hI.nd X (r:=r) (λj _=>KZ z j) (c:=fA O (nth (Bd O q r V) ((r+1) * j)) (r+1)) (eK F (X _ (aG (by omega))) _)
  (λp E=>⟨by have:=(Y p E).2;omega,S p (Y p E).1 (Y p E).2⟩) H B (by omega) (S p N G)
end
def Lw (G:bX) (x:Int) (n:Nat):Int:=nth G.ex ((nth G.lg x.toNat * ((n:Int) % ((G.q:Int) - 1))) % ((G.q:Int) - 1)).toNat
theorem KG {P M:Int} {mod:Lz} (h:bw P M mod=true) {x:Int} (V:(ah P M.toNat mod).El x) (h0:x ≠ 0) (n:Nat):Lw (ah P M.toNat mod) x n=fA (ah P M.toNat mod).ops x n:=by
 have F:=dY h;obtain ⟨m,y,rfl,K,X,H,Q,G⟩:=kJ h;rw [M9] at F V ⊢;have Y:∀x,(ah P m mod).El x ↔ fo P m x:=λx=>by simp only [bX.El,ah,fo];rw [Q]
 have Z:∀k,fA (ah P m mod).ops y k=pw P m mod y k:=λk=>by
  induction k with
  | zero=>rfl
  | succ k I =>
   show (ah P m mod).ops.mul (fA (ah P m mod).ops y k) y=dp P m mod (pw P m mod y k) y
   rw [I]
   exact G.rL (qx K y k) G.yel
 obtain ⟨a,ha,rfl,_⟩:=G.log ((Y x).1 V) h0;have h5:=G.q2;have N:nth (ah P m mod).lg (pw P m mod y a).toNat=a:=G.KQ ha;have e1:((a:Int) * ((n:Int) % ((aO P m).toNat - 1))) % (((aO P m).toNat:Int) - 1)=(((a * (n % ((aO P m).toNat - 1))) % ((aO P m).toNat - 1):Nat):Int):=by
  have S:((aO P m).toNat:Int) - 1=(((aO P m).toNat - 1:Nat):Int):=by omega
  rw [S,OY,QP,OY]
 have U:(ah P m mod).q=(aO P m).toNat:=rfl;unfold Lw;rw [N,U,e1,M9];show nth (fW P m mod (aO P m).toNat) _=_;rw [G.val _ (O8 _ (by omega)),G.red,<- Z,<- Z,<- o6 F ((Y y).2 G.yel),Z,Z,<- G.red (a * (n % _)),<- G.red (a * n)];congr 1;rw [Nat.mul_mod,Nat.mod_mod,<- Nat.mul_mod]
section
variable {O:aL} {El:Int->Prop} {q:Nat} {g:Int}
theorem DH (U:Lz) (N:Nat) {k:Nat} (h:N<=(fD O U N k).length):∀j,fD O U N (k+j)=fD O U N k
 | 0=>rfl
 | j+1=>by show fD O U N ((k+j)+1)=_;rw [fD,DH U N h j,M8 (by omega)]
def i6 (r x:Nat):Nat:=x - x / (r+1)
theorem ER {r x:Nat} (h:x % (r+1)=r):i6 r (x+1)=i6 r x:=by
 unfold i6;have h1:=Po x (r+1);have h2:(x+1) / (r+1)=x / (r+1)+1:=by
  have e:x+1=0+(x / (r+1)+1) * (r+1):=by rw [PI,Oz];omega
  rw [e,P4 _ _ (by omega)];simp
 rw [h2];omega
theorem EV {r x:Nat} (Y:1<=r) (h:x % (r+1) ≠ r):i6 r (x+1)=i6 r x+1/\x=gv r (i6 r x):=by
 have h1:=Po x (r+1);have h3:=O8 x (show r+1 > 0 by omega);have hle:x / (r+1)<=x:=Qg _ _;have h2:(x+1) / (r+1)=x / (r+1):=by
  have e:x+1=(x % (r+1)+1)+(x / (r+1)) * (r+1):=by rw [Oz];omega
  rw [e,P4 _ _ (by omega),RA (by omega)];simp
 have Z:i6 r x=x % (r+1)+x / (r+1) * r:=by
  unfold i6;have e:(r+1) * (x / (r+1))=x / (r+1) * r+x / (r+1):=by rw [PI,Oz]
  omega
 refine ⟨by unfold i6;rw [h2];omega,?_⟩;have hd:i6 r x / r=x / (r+1):=by rw [Z,P4 _ _ (by omega),RA (by omega)];simp
 unfold gv;rw [hd];unfold i6;omega
theorem KC {r x:Nat} (Z:1<=r) {k:Nat} (h:i6 r x<k):x<2 * k:=by unfold i6 at h;have:x / (r+1)<=x / 2:=Nat.div_le_div_left (by omega) (by omega);omega
theorem FY (r:Nat):i6 r 0=0:=by simp [i6]
theorem EG (X:Lz) (E:Nat->Nat) (k:Nat):iJ O X E (k+1)=iJ O X E k ++ [X.map λx=>fA O x (E k)]:=by unfold iJ;rw [Ot,NT];rfl
end
def DP (P M:Int) (mod:Lz) (c r k:Int):Int :=
 if bw P M mod=false then 1 else if c<1\/64<c\/r<1\/64<r\/k<1\/64<k then 6 else
 if (((ah P M.toNat mod).q:Int) - 1) % (r+1) ≠ 0\/(((ah P M.toNat mod).q:Int) - 1) / (r+1)<c then 10 else
 if 64<c * (r+1) then 4 else if c * r<k then 9 else 0
def jO (q:Nat) (l:Lz):List Bool:=(List.range q).map λ(y:Nat)=>decide ((y:Int) ∈ l)
theorem Ey (q:Nat) (l:Lz):(jO q l).length=q:=by simp [jO]
theorem BT {q y:Nat} (l:Lz) (h:y<q):re (jO q l) y=decide ((y:Int) ∈ l):=by rw [oL (by rw [Ey];exact h)];simp [jO]
theorem F0 {q y:Nat} (l:Lz):(jO q l).set y true=jO q (l ++ [(y:Int)]):=by
 refine Ou (by simp [jO]) λi h1 h2=>?_;rw [RC];simp only [jO,Oc,O1,NW,NR];split
 ·rename_i h;subst h;simp
 ·rename_i h;have:¬ (i:Int)=y:=by omega
  simp [this]
theorem Ef (q:Nat):jO q []=List.replicate q false:=by refine Ou (by simp [jO]) λi h1 h2=>?_;simp [jO]
section
variable {O:aL} {El:Int->Prop} {q:Nat} {g:Int}
def D7 (O:aL) (n x:Nat):Lz:=rtTo O n (x - 1)
def DA (O:aL) (U:Lz) (N x:Nat):Lz:=fD O U N (x - 1)
theorem K3 (n:Nat):D7 O n 1=[]:=rfl
theorem zS {n x:Nat} (h1:1<=x) (h:fA O (x:Int) n=1):D7 O n (x+1)=D7 O n x ++ [(x:Int)]:=by
 obtain ⟨j,rfl⟩:∃j,x=j+1:=⟨x - 1,by omega⟩
 have e:((j+1:Nat):Int)=(j:Int)+1:=by omega
 rw [e] at h ⊢;show rtTo O n (j+1)=rtTo O n j ++ _;rw [rtTo,M7 h]
theorem Ax {n x:Nat} (h1:1<=x) (h:fA O (x:Int) n ≠ 1):D7 O n (x+1)=D7 O n x:=by
 obtain ⟨j,rfl⟩:∃j,x=j+1:=⟨x - 1,by omega⟩
 have e:((j+1:Nat):Int)=(j:Int)+1:=by omega
 rw [e] at h;show rtTo O n (j+1)=rtTo O n j;rw [rtTo,M8 h]
theorem wZ (n:Nat):∀x,(D7 O n x).length<=x
 | 0=>by simp [D7,rtTo]
 | 1=>by simp [D7,rtTo]
 | x+2=>by
  by_cases h:fA O ((x+1:Nat):Int) n=1
  ·rw [zS (by omega) h,Ni];have:=wZ n (x+1);simp;omega
  ·rw [Ax (by omega) h];have:=wZ n (x+1);omega
theorem Kc (U:Lz) (N:Nat):DA O U N 1=[]:=rfl
theorem GG {U:Lz} {N x:Nat} (h1:1<=x) (h:(DA O U N x).length<N) (h2:¬ (x:Int) ∈ DA O U N x):DA O U N (x+1)=DA O U N x ++ bF (U.map (O.mul (x:Int))):=by
 obtain ⟨j,rfl⟩:∃j,x=j+1:=⟨x - 1,by omega⟩
 have e:((j+1:Nat):Int)=(j:Int)+1:=by omega
 rw [e] at h2 ⊢;show fD O U N (j+1)=fD O U N j ++ _;rw [fD,M7 ⟨h,h2⟩]
theorem IW {U:Lz} {N x:Nat} (h1:1<=x) (h2:(x:Int) ∈ DA O U N x):DA O U N (x+1)=DA O U N x:=by
 obtain ⟨j,rfl⟩:∃j,x=j+1:=⟨x - 1,by omega⟩
 have e:((j+1:Nat):Int)=(j:Int)+1:=by omega
 rw [e] at h2;show fD O U N (j+1)=fD O U N j;rw [fD,M8 λh=>h.2 h2]
theorem I4 {U:Lz} {N x:Nat} (Z:x<=q) (h:N<=(DA O U N x).length):DA O U N x=DA O U N q:=by have h1:=DH (O:=O) U N (k:=x - 1) h (q - 1 - (x - 1));show fD O U N (x - 1)=fD O U N (q - 1);rw [<- h1];congr 1;omega
end
section
variable {P M:Int} {mod:Lz} {c r k:Int}
theorem Mu (h:bw P M mod=false):DP P M mod c r k=1:=by unfold DP;rw [M7 h]
theorem Mn (h:bw P M mod=true) (h1:c<1\/64<c\/r<1\/64<r\/k<1\/64<k):DP P M mod c r k=6:=by unfold DP;rw [M8 (by rw [h];simp),M7 h1]
theorem LC (h:bw P M mod=true) {Q c r k:Nat} (Z:(ah P M.toNat mod).q=Q+1) (h1:1<=c/\c<=64) (h2:1<=r/\r<=64) (h3:1<=k/\k<=64) :
  DP P M mod c r k=if Q % (r+1) ≠ 0\/Q / (r+1)<c then 10 else if 64<c * (r+1) then 4 else if c * r<k then 9 else 0:=by
 unfold DP;rw [M8 (by rw [h];simp),M8 (by omega),Z];have e1:(((Q+1:Nat):Int) - 1) % ((r:Int)+1)=((Q % (r+1):Nat):Int):=by rw [show ((Q+1:Nat):Int) - 1=(Q:Int) by omega,OY];rfl
 have U:(((Q+1:Nat):Int) - 1) / ((r:Int)+1)=((Q / (r+1):Nat):Int):=by rw [show ((Q+1:Nat):Int) - 1=(Q:Int) by omega,RD];rfl
 rw [e1,U];have Y:(c:Int) * ((r:Int)+1)=((c * (r+1):Nat):Int):=by simp
 have V:(c:Int) * (r:Int)=((c * r:Nat):Int):=by simp
 rw [Y,V];have c1:((Q % (r+1):Nat):Int) ≠ 0\/((Q / (r+1):Nat):Int)<(c:Int) ↔ Q % (r+1) ≠ 0\/Q / (r+1)<c:=by omega
 have c2:(64:Int)<((c * (r+1):Nat):Int) ↔ 64<c * (r+1):=by omega
 have X:((c * r:Nat):Int)<(k:Int) ↔ c * r<k:=by omega
 simp only [c1,c2,X]
end
def Jv (P M:Int) (mod:Lz) (c r k:Nat):ZZ:=bI (ah P M.toNat mod).ops ((r+1) * c) (LU (ah P M.toNat mod).ops (ah P M.toNat mod).q r c k)
theorem KU {P M:Int} {mod:Lz} (N:bw P M mod=true) {Q c r k:Nat} (I:(ah P M.toNat mod).q=Q+1) (E:1<=r) (hd:Q % (r+1)=0) (H:c<=Q / (r+1)) :
  let G:=ah P M.toNat mod
  (D7 G.ops (r+1) (Q+1)).length=r+1/\(∀x ∈ D7 G.ops (r+1) (Q+1),G.El x)/\(DA G.ops (D7 G.ops (r+1) (Q+1)) ((r+1) * c) (Q+1))=Bd G.ops G.q r c /\
  (Bd G.ops G.q r c).length=(r+1) * c/\(∀x ∈ Bd G.ops G.q r c,G.El x/\x ≠ 0)/\(r+1) * c<=Q:=by
 intro G;have F:=dY N;obtain ⟨g,S⟩:=qq N;have Z:G.q - 1=Q:=by show (ah P M.toNat mod).q - 1=Q;omega
 have X:(r+1) ∣ G.q - 1:=by rw [Z];exact QL hd
 have Y:(r+1) * c<=Q:=by have h1:=N7 (r+1) H;have h2:=Nat.mul_div_le Q (r+1);omega
 obtain ⟨hI,K⟩:=I7 F S (s:=r+1) (c:=c) (by omega) X (by rw [show (ah P M.toNat mod).q - 1=Q from Z];exact Y);refine ⟨?_,?_,?_,K,λx U=>hI.el x U,Y⟩
 ·have:=D4 F S (n:=r+1) (by omega) X;rw [show (ah P M.toNat mod).q - 1=Q from Z] at this;exact this
 ·intro x U;have V:x ∈ rtTo G.ops (r+1) Q:=U;obtain ⟨h1,h2,_⟩:=iN.1 V;show 0<=x/\x<_;rw [show (((ah P M.toNat mod).q:Nat):Int)=(Q:Int)+1 by rw [I];simp];omega
 ·unfold Bd DA D7;rw [show (ah P M.toNat mod).q - 1=Q from Z];simp
theorem EY {w:ej} {b:Nat} {P:Int} {M q:Nat} {ex lg:Lz} (Z n:Nat) (h:AY w b P M q ex lg) (hx0:Z ≠ 0) (hx1:Z<q) (hn:n<=1000000) :
  Calls prog 65 #[ea b 0,cG Z,cG n] w λe w'=>∃k,e = ec #[cG (if n=0 then 1 else nth ex ((nth lg Z * ((n:Int) % ((q:Int) - 1))) % ((q:Int) - 1)).toNat),cG 0]/\w'=w.drewN k:=by
 obtain ⟨ae,ce,E,X⟩:=h.ce;obtain ⟨al,cl,hcl,U⟩:=h.cl;have hcq:=h.cq;have hx':((Z:Int) == 0)=false:=by rw [beq_eq_false_iff_ne];omega
 have D:=h.lb Z (by omega);have cx:=U.cell Z (by omega);have F:=X.pl;have hpl:=U.pl;have hq2:=h.q2;have I:=h.q256;have N:=Z5 (eF Z h (by omega) (by omega));obtain ⟨k,rfl⟩:∃k,q=k+1:=⟨q - 1,by omega⟩
 rw [On] at E X F;have hk1:1<=k:=by omega
 have e1:((k+1:Nat):Int) - 1=(k:Int):=by omega
 rw [e1] at D ⊢;by_cases Y:n=0
 ·subst Y;rw [M7 rfl];clear e1 D;go_enter func65,ntmps65;go_wp2_with fail;refine N.mono ?_;rintro e w' ⟨rfl,rfl⟩;go_wp2_with fail;go_ret2;exact ⟨0,rfl,rfl⟩
 rw [M8 Y];have d0:((n:Int) == 0)=false:=by simpa using Y
 obtain ⟨l,hl⟩:∃l:Nat,nth lg Z=l:=⟨(nth lg Z).toNat,by omega⟩
 obtain ⟨y,hy⟩:∃y:Nat,n % k=y:=⟨_,rfl⟩
 have hyk:y<k:=by rw [<- hy];exact O8 _ (by omega)
 obtain ⟨z,S⟩:∃z:Nat,(l * y) % k=z:=⟨_,rfl⟩
 have G:z<k:=by rw [<- S];exact O8 _ (by omega)
 rw [hl] at cx D ⊢;have hlb:l<k:=by omega
 have H:l * y<=255 * 255:=O0 (by omega) (by omega);have B:((l:Int) * ((n:Int) % (k:Int)) % (k:Int)).toNat=z:=by
  have e2:(l:Int) * ((n:Int) % (k:Int)) % (k:Int)=((l * (n % k) % k:Nat):Int):=by rw [OY,QP,OY]
  rw [e2,M9,hy,S]
 rw [B];have ck:=X.cell z G;have V:(k:Int)+1 - 1=(k:Int):=by omega
 have w1':IntKind.i64.wrap (((k+1:Nat):Int) - 1)=(k:Int):=by rw [e1];exact Nn _ (by omega)
 have A:IntKind.i64.wrap ((k:Int) + 1 - 1) = (k:Int) := by rw [V]; exact Nn _ (by omega)
 have r1:((n:Nat):Int).tmod (k:Nat)=((y:Nat):Int):=by rw [Oo (by omega),<- hy];simp
 have w2':IntKind.i64.wrap ((y:Int)+(k:Int))=(y:Int)+(k:Int):=Nn _ (by omega);have r2:((y:Int)+(k:Int)).tmod (k:Nat)=((y:Nat):Int):=by rw [Oo (by omega),Int.add_emod_right];exact Qu (by omega) (by omega)
 obtain ⟨p,C⟩:∃p:Nat,l * y=p:=⟨_,rfl⟩
 have Q:(l:Int) * (y:Int)=(p:Int):=by rw [<- C];simp
 have hp2:p<=255 * 255:=by omega
 have w3:IntKind.i64.wrap ((l:Int) * (y:Int))=(p:Int):=by rw [Q];exact Nn _ (by omega)
 rw [C] at S;have r3:((p:Nat):Int).tmod (k:Nat)=((z:Nat):Int):=by rw [Oo (by omega),<- S];simp
 have K:(k:Int) ≠ 0:=by omega
 have hkb:((k:Int) == 0)=false:=by simpa using K
 have hzi:(z:Int)<k:=by omega
 have hxi:(Z:Int)<((k+1:Nat):Int):=by omega
 have j:(Z:Int)<(k:Int)+1:=by omega
 clear C Q S B hy hl H e1 V Y;go_enter func65,ntmps65;go_wp2_with fail;refine N.mono ?_;rintro e w' ⟨rfl,rfl⟩;go_wp2_with fail;go_quiet (fail);go_wp2;go_ret2;exact ⟨_,rfl,rfl⟩
theorem MG {w:ej} {b:Nat} {P M:Int} {mod:Lz} (S:bw P M mod=true) {x:Int} (n:Nat) (h:dg w b (ah P M.toNat mod)) (V:(ah P M.toNat mod).El x) (h0:x ≠ 0) (U:n<=1000000) :
  Calls prog 65 #[ea b 0,cG x,cG n] w λe w'=>∃k,e = ec #[cG (fA (ah P M.toNat mod).ops x n),cG 0]/\w'=w.drewN k:=by
 have Q:=KG S V h0 n;have X:=V;unfold bX.El at X;obtain ⟨Z,rfl⟩:∃Z:Nat,x=Z:=⟨x.toNat,by omega⟩
 have h1:=EY Z n h (by omega) (by omega) U;have e:(if n=0 then 1 else nth (ah P M.toNat mod).ex ((nth (ah P M.toNat mod).lg Z * ((n:Int) % (((ah P M.toNat mod).q:Int) - 1))) % (((ah P M.toNat mod).q:Int) - 1)).toNat)=fA (ah P M.toNat mod).ops Z n:=by
  by_cases Y:n=0
  ·subst Y;rw [M7 rfl];rfl
  ·rw [M8 Y,<- Q];unfold Lw;rw [M9]
 rw [e] at h1;exact h1
def yF (P M:Int) (mod:Lz) (m:Nat) (L:ZZ) (k:Nat):Int × ZZ:=me P M mod m (fV P M mod m L k) (aj (dT P M mod m L) k) ((bY (aj (dT P M mod m L) k):Int) - 1)
def lcTo (P M:Int) (mod:Lz) (m:Nat) (L:ZZ):Nat->Int
 | 0=>0
 | k+1=>if lcTo P M mod m L k=0 then (yF P M mod m L k).1 else lcTo P M mod m L k
theorem uY {P M:Int} {mod:Lz} {m:Nat} {L:ZZ} {k:Nat} {e:Int} (h:lcTo P M mod m L k=e) (he:e ≠ 0):∀d,lcTo P M mod m L (k+d)=e
 | 0=>h
 | d+1=>by have Z:=uY h he d;show (if lcTo P M mod m L (k+d)=0 then _ else lcTo P M mod m L (k+d))=e;rw [Z,M8 he]
def DX (P M:Int) (mod:Lz) (N:Int) (L:ZZ):Int:=if i5 P M mod N L=0 then lcTo P M mod N.toNat L N.toNat else i5 P M mod N L
def uB (P M:Int) (mod:Lz) (m:Nat) (L:ZZ) (k:Nat):List ZZ:=(List.range k).map λ(r:Nat)=>if (yF P M mod m L r).1=0 then (yF P M mod m L r).2 else []
def xG (P M:Int) (mod:Lz) (N:Int) (L:ZZ) (w:ej) (e:Ending) (w':ej):Prop :=
 SJ w w'/\((DX P M mod N L ≠ 0/\e = ec #[.agg #[ds,ds],cG (DX P M mod N L)]) \/
  (DX P M mod N L=0/\∃Y cs Z ct,e = ec #[.agg #[.slice Y N.toNat cs,.slice Z N.toNat ct],cG 0]/\bP w' Y N.toNat (dT P M mod N.toNat L)/\j6 w' Z N.toNat (uB P M mod N.toNat L N.toNat)))
theorem vb {P M:Int} {mod:Lz} {N:Int} {L:ZZ} (h:i5 P M mod N L=0):aI P M mod N L=0/\yG P M mod N.toNat L=0/\¬ [] ∈ dT P M mod N.toNat L:=by
 unfold i5 at h;split at h
 ·rename_i h1;split at h
  ·rename_i h2;split at h
   ·cases h
   ·rename_i h3;exact ⟨h1,h2,h3⟩
  ·rename_i h2;exact absurd h h2
 ·rename_i h1;exact absurd h h1
theorem yI {P M:Int} {mod:Lz} {m:Nat} {L:ZZ}:(dT P M mod m L).length=m:=by rw [dT,No,OI]
theorem yO {P M:Int} {mod:Lz} {m:Nat} {L:ZZ} (Z:aI P M mod m L=0) (h:¬ [] ∈ dT P M mod m L) {k:Nat} (Y:k<m):aj (dT P M mod m L) k ≠ []/\(aj (dT P M mod m L) k).length=m/\aj (dT P M mod m L) k ∈ uS P M mod m L/\nth (aj (dT P M mod m L) k) k=1:=by
 have hm:aj (dT P M mod m L) k ∈ dT P M mod m L:=jy (by rw [yI];exact Y);have hne:aj (dT P M mod m L) k ≠ []:=λe=>h (by rw [<- e];exact hm);rw [oP Y] at hne ⊢;rcases xW Z (k:Int) with ⟨h3,_⟩ | ⟨h3,h4,_⟩
 ·exact absurd h3 hne
 ·rw [M9] at h4;exact ⟨hne,tJ Z hne,h3,h4⟩
theorem GN {x:Lz}:bY x<=x.length:=by rw [<- sy (x:=x) (m:=x.length) rfl];unfold yc;exact Np (by rw [No];exact QY _ _) (by rw [OI];exact M4 _)
theorem sJ {X Z:ej} {t:TypeId} (hb:Below (X.alloc (.cells #[ds] t)).heap.size (X.alloc (.cells #[ds] t)) Z):aQ Z X.heap.size [ds] :=
 (RV X [ds] t rfl).ai hb
theorem wb {X Z:ej} {t:TypeId} (hb:Below (X.alloc (.cells #[ds] t)).drew.heap.size (X.alloc (.cells #[ds] t)).drew Z):aQ Z X.heap.size [ds] :=
 (RV X [ds] t rfl).ai (RU (M5 _ _).drew hb)
theorem uy (P M:Int) (am:OA) (mn cm:Nat) (mod:Lz) (N:Int) (a:OA) (n c:Nat) (L:ZZ) (w:ej) (E:Ints w am mn mod) (hi:bP w a n L) :
  Calls prog 28 #[.agg #[cG P,cG M,.slice am mn cm,cG N,.slice a n c]] w (xG P M mod N L w):=by
 have HA:Hid (∀V,SJ w V->Calls prog 60 #[.agg #[cG P,cG M,.slice am mn cm,cG N,.slice a n c]] V (xZ (i5 P M mod N L) (dT P M mod N.toNat L) V)):=λV Y=>vz P M am mn cm mod N a n c L V (E.ai Y) (hi.ai Y);have HErr:Hid (∀V Q,DX P M mod N L=Q->Q ≠ 0->SJ w V->xG P M mod N L w (ec #[.agg #[ds,ds],cG Q]) V):=λV Q h1 h2 h3=>⟨h3,.inl ⟨by rw [h1];exact h2,by rw [h1]⟩⟩
 have HE1:Hid (i5 P M mod N L ≠ 0->DX P M mod N L=i5 P M mod N L):=λh=>by rw [DX,M8 h]
 have HG:Hid (i5 P M mod N L=0->∃m:Nat,N=m/\m<=64/\(dT P M mod N.toNat L).length=m/\mod.length<=8 /\
   (∀k,k<m->(aj (dT P M mod N.toNat L) k).length=m/\bY (aj (dT P M mod N.toNat L) k)<=m) /\
   (∀V (k:Nat),k<m->SJ w V->Calls prog 74 #[.agg #[cG P,cG M,.slice am mn cm,cG m,.slice a n c],cG k] V λe w' =>
    ∃a1 c1 a2 c2,e = ec #[.agg #[cG P,cG M,.slice a1 mod.length c1,cG m,.slice a2 (fV P M mod N.toNat L k).length c2],cG 0]/\Ints w' a1 mod.length mod/\bP w' a2 (fV P M mod N.toNat L k).length (fV P M mod N.toNat L k)/\SJ V w') /\
   (∀V a1 c1 a2 c2 (k:Nat) ra rc,Ints V a1 mod.length mod->bP V a2 (fV P M mod N.toNat L k).length (fV P M mod N.toNat L k)->Ints V ra m (aj (dT P M mod N.toNat L) k)->Calls prog 75 #[.agg #[cG P,cG M,.slice a1 mod.length c1,cG m,.slice a2 (fV P M mod N.toNat L k).length c2],.slice ra m rc,cG ((bY (aj (dT P M mod N.toNat L) k):Int) - 1)] V
    (Ea (if (yF P M mod N.toNat L k).1=0 then (yF P M mod N.toNat L k).2 else []) (yF P M mod N.toNat L k).1 V)) /\
   (∀k,lcTo P M mod N.toNat L k=0->lcTo P M mod N.toNat L (k+1)=(yF P M mod N.toNat L k).1) /\
   (∀k Q,k<=m->lcTo P M mod N.toNat L k=Q->Q ≠ 0->DX P M mod N L=Q)/\(lcTo P M mod N.toNat L m=0->DX P M mod N L=0) /\
   (∀as' cs Z ct V,DX P M mod N L=0->bP V as' m (dT P M mod N.toNat L)->j6 V Z m (uB P M mod N.toNat L m)->SJ w V->xG P M mod N L w (ec #[.agg #[.slice as' m cs,.slice Z m ct],cG 0]) V)):=λh=>by
  obtain ⟨hE,_,hne⟩:=vb h;obtain ⟨m,rfl,_,hm64,_⟩:=aT hE;rw [M9] at hne ⊢;refine ⟨m,rfl,hm64,yI,mB (aX hE).1,λk hk=>?_,λV k hk Y=>?_,λV a1 c1 a2 c2 k ra rc h1 h2 h3=>?_,λk hk=>?_,λk Q hk h1 h2=>?_,λh1=>?_,λas' cs Z ct V h0 h1 h2 h3=>?_⟩
  ·have h1:=(yO hE hne hk).2.1;exact ⟨h1,by have:=GN (x:=aj (dT P M mod m L) k);omega⟩
  ·exact tz P M am mn cm mod m a n c L k V (E.ai Y) (hi.ai Y) hE hk
  ·exact (pX P M a1 _ c1 mod m a2 _ c2 _ ra m rc _ _ V h1 h2 h3).mono λe w' h=>h.Mh
  ·rw [lcTo,M7 hk]
  ·rw [DX,M7 h,M9];have h3:=uY h1 h2 (m - k);rw [show k+(m - k)=m by omega] at h3;exact h3
  ·rw [DX,M7 h,M9];exact h1
  ·refine ⟨h3,.inr ⟨h0,as',cs,Z,ct,?_,?_,?_⟩⟩
   ·rw [M9]
   ·rw [M9];exact h1
   ·rw [M9];exact h2
 have HTs:Hid (∀k,uB P M mod N.toNat L (k+1)=uB P M mod N.toNat L k ++ [if (yF P M mod N.toNat L k).1=0 then (yF P M mod N.toNat L k).2 else []]):=λk=>by unfold uB;rw [Ot];simp
 have HT0:Hid (uB P M mod N.toNat L 0=[]/\lcTo P M mod N.toNat L 0=0):=⟨rfl,rfl⟩
 generalize xG P M mod N L w=Post at *;generalize DX P M mod N L=ce at *;generalize i5 P M mod N L=ae at *;generalize lcTo P M mod N.toNat L=CT at *;generalize uB P M mod N.toNat L=TT at *;generalize yF P M mod N.toNat L=bl at *;generalize fV P M mod N.toNat L=vc at *;generalize dT P M mod N.toNat L=A at *;have HI:=Z5 (Ng E hi);clear E hi;go_enter func28,ntmps28;go_upto_region 1 with fail;obtain ⟨W,hW⟩:∃W:ej,W=(w.alloc (.cells #[cG P,cG M,.slice am mn cm,cG N,.slice a n c] 27)).alloc (.cells #[ds,ds] 48):=⟨_,rfl⟩
 rw [<- hW];have hbW:SJ w W:=by rw [hW];exact dP _ _ _
 have hsW:W.heap.size=w.heap.size+2:=by rw [hW];simp
 have x0:aQ W w.heap.size [cG P,cG M,.slice am mn cm,cG N,.slice a n c]:=by rw [hW];exact (RV _ _ _ rfl).alloc _
 have z0:aQ W (w.heap.size+1) [ds,ds]:=by rw [hW];exact RV _ _ _ (by simp)
 clear hW;have HX:Hid (∀V,SJ W V->V.cell? ⟨w.heap.size,0,none⟩=some (cG P)/\V.cell? ⟨w.heap.size,1,none⟩=some (cG M)/\V.cell? ⟨w.heap.size,2,none⟩=some (.slice am mn cm)/\V.cell? ⟨w.heap.size,3,none⟩=some (cG N)/\V.cell? ⟨w.heap.size,4,none⟩=some (.slice a n c)):=λV Y=>by have x1:=x0.ai Y;exact ⟨x1.cell 0 rfl,x1.cell 1 rfl,x1.cell 2 rfl,x1.cell 3 rfl,x1.cell 4 rfl⟩
 have HZ:Hid (∀V,SJ W V->V.cell? ⟨w.heap.size+1,0,none⟩=some ds/\V.cell? ⟨w.heap.size+1,1,none⟩=some ds/\V.frozen? ⟨w.heap.size+1,0,none⟩=false/\V.frozen? ⟨w.heap.size+1,1,none⟩=false/\w.heap.size+1<V.heap.size /\
   ∀x y,SJ w ((V.setCell ⟨w.heap.size+1,0,none⟩ x).setCell ⟨w.heap.size+1,1,none⟩ y)):=λV Y=>by have z1:=z0.ai Y;exact ⟨z1.cell 0 rfl,z1.cell 1 rfl,z1.frozen 0,z1.frozen 1,z1.1,λx y=>((RU hbW Y).setCell (p:=⟨w.heap.size+1,0,none⟩) (by simp) _).setCell (p:=⟨w.heap.size+1,1,none⟩) (by simp) _⟩
 have HbW:=Z5 hbW;have HsW:=Z5 hsW;clear x0 z0 hbW hsW;obtain ⟨c0,c1,c2,c3,c4⟩:=HX W (M5 _ _);go_wp2_with fail;refine (HA W HbW.out).mono ?_;rintro e K ⟨z,⟨h1,rfl⟩ | ⟨h1,aA,cA,rfl,hM,hlo⟩⟩
 ·obtain ⟨z3,z4,f3,f4,_,G⟩:=HZ K z;have d1:(ae != 0)=true:=by simpa using h1
  have HF:=Z5 (HErr _ ae (HE1 h1) h1 (G ds ds));clear c0 c1 c2 c3 c4 h1 HG G;go_wp2_with fail;exact bodyPost_ret (v:=.tuple #[.agg #[ds,ds],cG ae]) (by simp [results,results28,go_sem,z3,z4]) rfl HF.out
 have hF1:=RU HbW.out z;obtain ⟨m,rfl,hm64,hAl,hm8,hrow,hze,hbu,hcs,hcn,hc0,hpo⟩:=HG h1;have HR:=Z5 hrow;have HZe:=Z5 hze;have HBu:=Z5 hbu;have HCs:=Z5 (Ng hcs (Ng hcn (Ng hc0 hpo)));rw [hAl] at hM hlo;rw [hAl];have HLo:=Z5 hlo;have HM:=Z5 hM;have hplA:=hM.pl;have d1:(ae != 0)=false:=by simp [h1]
 obtain ⟨nm,hnm⟩:∃nm,mod.length=nm:=⟨_,rfl⟩
 rw [hnm] at HZe HBu;clear c0 c1 c2 c3 c4 h1 HG hrow hze hbu hcs hcn hc0 hpo hM hAl HE1 HA hm8 hnm hlo;go_upto_region 5 with fail;obtain ⟨X,hX⟩:∃X,K.alloc (.cells #[.slice aA m cA,ds] 48)=X:=⟨_,rfl⟩
 rw [hX];have hbX:SJ K X:=by rw [<- hX];exact aD _ _
 have hC0:lD K.heap.size X K.heap.size (.slice aA m cA) none 0 []:=lD.start (M4 _) (by rw [<- hX];exact RV _ _ _ rfl);clear hX;have hs1:=z.size;have hsw:=HsW.out;go_wp2_with fail;go_loopw [25] (λiv wr=>∃(k:Nat) (Z:OA) (ct:Nat) (tt:List TX),k<=m/\iv = cG k/\lD K.heap.size wr K.heap.size (.slice aA m cA) Z ct tt/\Hid (tt.length=k)/\Hid (tt.map TX.T=TT k)/\Hid (CT k=0)/\SJ K wr) (λiv _=>m - (intOf iv).toNat);case atStart=>exact ⟨0,none,0,[],Nb _,rfl,hC0,rfl,HT0.1.symm,HT0.2,hbX⟩
 case round =>
  clear hC0 hbX
  obtain ⟨k,Z,ct,tt,hk,rfl,hI,Htl,Htt,Hct,F⟩:=hrel
  by_cases hlt:k<m
  ·obtain ⟨ra,C,rc,hcell,hrw⟩:=(HM.ai F).cell k hlt
   obtain ⟨hrl,hwt⟩:=HR k hlt
   have hrn:C=m:=by rw [<- hrw.len];exact hrl
   subst hrn
   have hF2:=RU hF1 F
   have HZk:=Z5 (HZe wr k hlt hF2)
   have HRw:=Z5 hrw
   have HI2:=Z5 (Ng hI F)
   have hCt1:=HCs.1 k Hct.out
   have HTk:=Z5 (HTs k)
   obtain ⟨wt,D⟩:∃wt,bY (aj A k)=wt:=⟨_,rfl⟩
   have HBk:Hid (∀V a1 c1 a2 c2,Ints V a1 nm mod->bP V a2 (vc k).length (vc k)->Ints V ra C (aj A k)->Calls prog 75 #[.agg #[cG P,cG M,.slice a1 nm c1,cG C,.slice a2 (vc k).length c2],.slice ra C rc,cG ((wt:Int) - 1)] V (Ea (if (bl k).1=0 then (bl k).2 else []) (bl k).1 V)):=λV a1 c1 a2 c2 h1 h2 h3=>by rw [<- D];exact HBu V a1 c1 a2 c2 k ra rc h1 h2 h3
   have HWt:Hid (∀V,Ints V ra C (aj A k)->Calls prog 76 #[.slice ra C rc] V λe w'=>e = .returned (cG (wt:Nat))/\SJ V w'):=λV Y=>by rw [<- D];exact nY ra C rc _ V Y (by omega)
   rw [D] at hwt
   have w1':IntKind.i64.wrap ((wt:Int) - 1)=(wt:Int) - 1:=Nn _ (by omega)
   obtain ⟨vk,hvk⟩:∃vk,vc k=vk:=⟨_,rfl⟩
   obtain ⟨qv,hqv⟩:∃q,vk.length=q:=⟨_,rfl⟩
   rw [hvk,hqv] at HZk HBk
   obtain ⟨bk,hbk⟩:∃bk,bl k=bk:=⟨_,rfl⟩
   rw [hbk] at HBk HTk hCt1
   obtain ⟨Q,T0⟩:=bk
   have HCt1:Hid (CT (k+1)=Q):=hCt1
   obtain ⟨T,hT⟩:∃T,(if ((Q,T0):Int × ZZ).1=0 then ((Q,T0):Int × ZZ).2 else [])=T:=⟨_,rfl⟩
   rw [hT] at HBk HTk
   have hpr:=hrw.pl
   obtain ⟨c0,c1,c2,c3,c4⟩:=HX wr (RU z F)
   clear hrl D hvk hqv hbk hT hCt1 hrw hI
   go_wp2_with fail
   refine HZk.mono ?_
   rintro e w3 ⟨a3,k3,a4,k4,rfl,hI3,hM3,hb3⟩
   have hn3:=aD w3 (.cells #[cG P,cG M,.slice a3 nm k3,cG C,.slice a4 qv k4] 27)
   have y3:aQ (w3.alloc (.cells #[cG P,cG M,.slice a3 nm k3,cG C,.slice a4 qv k4] 27)) w3.heap.size [cG P,cG M,.slice a3 nm k3,cG C,.slice a4 qv k4]:=RV _ _ _ rfl
   have hI3':=hI3.ai hn3
   have hM3':=hM3.ai hn3
   clear c0 c1 c2 c3 c4 hI3 hM3
   go_upto_region 9 with fail
   obtain ⟨V3,hV3⟩:∃V3,w3.alloc (.cells #[cG P,cG M,.slice a3 nm k3,cG C,.slice a4 qv k4] 27)=V3:=⟨_,rfl⟩
   rw [hV3] at hn3 y3 hI3' hM3' ⊢
   have hbV3:=RU hb3 hn3
   have hrV3:=HRw.ai hbV3
   have hbw3:=RU F hbV3
   obtain ⟨g3,hg3⟩:∃g,w3.heap.size=g:=⟨_,rfl⟩
   rw [hg3] at y3 ⊢
   have HS5:Hid (∀V,SJ V3 V->V.cell? ⟨g3,0,none⟩=some (cG P)/\V.cell? ⟨g3,1,none⟩=some (cG M)/\V.cell? ⟨g3,2,none⟩=some (.slice a3 nm k3)/\V.cell? ⟨g3,3,none⟩=some (cG C)/\V.cell? ⟨g3,4,none⟩=some (.slice a4 qv k4)/\SJ V3 V):=λV Y=>by have y:=y3.ai Y;exact ⟨y.cell 0 rfl,y.cell 1 rfl,y.cell 2 rfl,y.cell 3 rfl,y.cell 4 rfl,Y⟩
   have HW3:=Z5 (λV (Y:SJ V3 V)=>HWt V (hrV3.ai Y))
   have HB3:=Z5 (λV (Y:SJ V3 V)=>HBk V a3 k3 a4 k4 (hI3'.ai Y) (hM3'.ai Y) (hrV3.ai Y))
   have HV3:=Z5 (Ng hbV3 hbw3)
   clear hV3 hg3 hI3' hM3' hrV3 HBk HWt HZk hn3 hb3 y3
   obtain ⟨c0,c1,c2,c3,c4,_⟩:=HS5 V3 (M5 _ _)
   unfold Ea at HB3
   go_upto_region 11 with fail
   go_cut [10,11] (λv10 v11 wx=>v10 = cG Q/\∃g ar I cr,v11 = ea g 0/\Hid (aQ wx g [.slice ar I cr])/\Hid (V3.heap.size<=g)/\Hid (bJ V3.heap.size wx ar I T)/\Hid (I<=cr)/\SJ V3 wx)
   case first =>
    go_region_held3 (λV=>V.cell? ⟨g3,0,none⟩=some (cG P)/\V.cell? ⟨g3,1,none⟩=some (cG M)/\V.cell? ⟨g3,2,none⟩=some (.slice a3 nm k3)/\V.cell? ⟨g3,3,none⟩=some (cG C)/\V.cell? ⟨g3,4,none⟩=some (.slice a4 qv k4)/\SJ V3 V)
     ((refine HS5 _ ?_;first|exact (M5 _ _).drew|assumption|(go_split_ands;first|assumption|exact RU (by assumption) (aD _ _)|exact (RU (by assumption) (aD _ _)).drew|exact RU (by assumption) (by assumption)|exact Qb (by assumption) (by first|exact hB5.size|exact hB4.size|simp) _)))
     (first
      | (go_at_call 76;((with_reducible refine (HW3.out _ (by go_split_ands;assumption)).mono ?_);rintro e w4 ⟨rfl,hb4⟩;have hB4:SJ V3 w4:=(by go_split_ands;exact RU (by assumption) hb4);(first|(have HB4:=Z5 (wb hb4))|(have HB4:=Z5 (sJ hb4))|skip)))
      | (go_at_call 75;((with_reducible refine (HB3.out _ (by go_split_ands;assumption)).mono ?_);rintro e w5 ⟨ar,I,cr,rfl,hM5,hc5,hb5⟩;have hB5:SJ V3 w5:=(by go_split_ands;exact RU (by assumption) hb5);have HM5:=Z5 hM5;have HC5:=Z5 hc5;clear hM5 hc5;(first|(have HB5:=Z5 (wb hb5))|(have HB5:=Z5 (sJ hb5))|(have HB5:=Z5 (HB4.out.ai hb5))|skip);(first|(have z0:=HB5.out.cell 0 rfl;have f0:=HB5.out.frozen 0)|skip))))
    all_goals (
     go_wp2_with fail
     go_meet
     first
      | exact ⟨rfl,_,ar,I,cr,rfl,RV w5 [.slice ar I cr] _ rfl,hB5.size,(HM5.ai (aD _ _)).mono (by first|exact hB4.size|exact (RU hB4 (aD _ _)).size),HC5,by go_split_ands;assumption⟩
      | exact ⟨rfl,_,ar,I,cr,rfl,HB5.setCell 0 (.slice ar I cr),(by first|exact hB4.size|exact M4 _),(HM5.setCell (by first|exact HB4.1|simp) _).mono (by first|exact hB4.size|exact (RU hB4 (aD _ _)).size),HC5,by go_split_ands;assumption⟩)
   obtain ⟨rfl,g,ar,I,cr,rfl,HBx,Hg3,HMT,HCr,hbV⟩:=hcut
   generalize wc=V5 at *
   have U:=RU HV3.2 hbV
   clear c0 c1 c2 c3 c4
   by_cases her:Q=0
   rotate_left
   ·obtain ⟨z3,z4,f3,f4,_,G⟩:=HZ V5 (RU z U)
    have d2:(Q != 0)=true:=by simpa using her
    have HF:=Z5 (HErr _ Q (HCs.2.1 (k+1) Q (by omega) HCt1.out her) her (G ds ds))
    clear her G
    go_wp2_with fail
    exact bodyPost_ret (v:=.tuple #[.agg #[ds,ds],cG Q]) (by simp [results,results28,go_sem,z3,z4]) rfl HF.out
   ·subst her
    have S:=HI2.1.ai (RU HV3.1 hbV)
    have hMA:fU (TA K.heap.size K.heap.size Z) V5 ar I T:=HMT.Ig λb hb=>Nz (HI2.1.lt b hb) HV3.1.size
    have H:tt.length=k:=Htl.out
    have B:T.length=I:=HMT.len
    have b1:=S.box.cell 1 rfl
    have g1:=S.box.frozen 1
    have t0:=HBx.cell 0 rfl
    have hto:=(S.ai (aD V5 (.cells #[.slice ar I cr] 103))).tow
    have hcn2:=bh V5 (.slice ar I cr) 103
    have b1':=aU b1 (.cells #[.slice ar I cr] 103)
    rw [H] at b1 b1' hto
    have hs9:K.heap.size<=(V5.alloc (.cells #[.slice ar I cr] 103)).heap.size:=by have:=U.size;simp;omega
    have hlt5:K.heap.size<V5.heap.size:=S.box.1
    have HI5:=Z5 (Ng S (Ng hMA (Ng B U)))
    have Hlt5:=Z5 hlt5
    have Hatb:=Z5 S.at1
    clear S hMA B U hlt5
    go_wp2_with (at_builtin;refine xj rfl _ _ 46 103 rfl (.agg #[ds]) 24 underlying46 Ke rfl K.heap.size Z k ct _ rfl hto ⟨V5.heap.size,0,none⟩ 1 (.slice ar I cr) rfl hcn2 rfl (by omega) (by unfold maxLen;omega) hs9 ?_;intro a6 c6 w6 hown6 hgr6 hap6;have b6:=bG (ad:=⟨K.heap.size,1,none⟩) hgr6 b1' Hatb.out;have g6:w6.frozen? ⟨K.heap.size,1,none⟩=false:=uC hgr6 (by simp;have:=Hlt5.out;omega) (dA Hlt5.out g1 _) Hatb.out)
    go_roundw
    case rel =>
     obtain ⟨S,hMA,B,U⟩:=HI5.out
     have hown6':w6.ownsRow K.heap.size 103 1 (.slice a6 (tt.length+1) c6) (tt.length+1) (tt.map AO ++ [AO ⟨ar,cr,T⟩]):=by rw [H,show AO ⟨ar,cr,T⟩ = .slice ar I cr by show Value.slice _ _ _=_;rw [B]];exact hown6
     obtain ⟨hI7,hbp⟩:=S.My (x:=⟨ar,cr,T⟩) (by show fU _ _ ar T.length T;rw [B];exact hMA) (by show T.length<=cr;rw [B];exact HCr) hown6' (by rw [H];exact hgr6) hap6
     have hbr7:=hbp _ U
     rw [H] at hI7 hbr7
     exact ⟨k+1,a6,c6,tt ++ [⟨ar,cr,T⟩],by omega,by go_num,hI7,by show _=_;rw [Ni,H];rfl,by show _=_;rw [NT,Htt.out,HTk.out];rfl,HCt1,hbr7⟩
    case measure=>simp [intOf]<;>omega
  ·obtain rfl:k=m:=by omega
   obtain ⟨z3,z4,f3,f4,_,G⟩:=HZ wr (RU z F)
   have b0:=hI.box.cell 0 rfl
   have b1:=hI.box.cell 1 rfl
   rw [Htl.out] at b1
   have hI2:=(hI.set (p:=⟨w.heap.size+1,0,none⟩) (by show w.heap.size+1<K.heap.size;omega) (.slice aA k cA)).set (p:=⟨w.heap.size+1,1,none⟩) (by show w.heap.size+1<K.heap.size;omega) (.slice Z k ct)
   have q2:=hI2.trees
   rw [Htl.out,Htt.out] at q2
   have hMk:bP ((wr.setCell ⟨w.heap.size+1,0,none⟩ (.slice aA k cA)).setCell ⟨w.heap.size+1,1,none⟩ (.slice Z k ct)) aA k A:=by
    have hne:∀j,0<k->(⟨w.heap.size+1,j,none⟩:Addr).block ≠ ablk aA:=λj h0 e=>by have h3:=HLo h0;rw [<- e] at h3;have h4:W.heap.size<=w.heap.size+1:=h3;omega
    have hz4:(wr.setCell ⟨w.heap.size+1,0,none⟩ (.slice aA k cA)).cell? ⟨w.heap.size+1,1,none⟩=some ds:=by rw [Nr _ _ _ _ (by simp)];exact z4
    exact (((HM.ai F).o8 z3 (hne 0) _).o8 hz4 (hne 1) _)
   have HF:=Z5 (HCs.2.2.2 aA cA Z ct _ (HCs.2.2.1 Hct.out) hMk q2 (G (.slice aA k cA) (.slice Z k ct)))
   clear hI hI2 q2 G hMk
   go_wp2_with fail
   exact bodyPost_ret (v:=.tuple #[.agg #[.slice aA k cA,.slice Z k ct],cG 0]) (by simp [results,results28,go_sem,z3,z4]) rfl HF.out
end Go.Proofs.YthglbncgemdcbaaGreat
