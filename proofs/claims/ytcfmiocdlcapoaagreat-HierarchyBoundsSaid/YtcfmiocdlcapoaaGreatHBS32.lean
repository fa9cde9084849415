import Derived.Test.YtcfmiocdlcapoaaGreatHBS30
namespace Go.Proofs.YtcfmiocdlcapoaaGreat
set_option linter.all false
set_option maxRecDepth 100000
set_option maxHeartbeats 8000000
open Go.RowKit Go.Proofs.Tryz
section
open Go.RowKit
end
def pF.I (σ : pF) (x : Nat) : Prop:=bS σ.ar σ.R x
def GH (B : Nat) (σ : pF) (V : Int × ZZ) (w : World) (e : Ending) (w' : World) : Prop :=
 (V.1=0/\∃σ' : pF,aY w' B σ'.ar σ'.T.length σ'.cr σ'.R σ'.T/\σ'.T=V.2/\σ'.T.length<=65536/\aw w w' σ.I σ'.I/\e = .returned (.tuple #[.slice σ'.ar σ'.T.length σ'.cr,.int .i64 0])) \/
 (V.1 ≠ 0/\∃I',aw w w' σ.I I'/\e = .returned (.tuple #[.slice none 0 0,.int .i64 V.1]))
theorem aY.more {V w5 : World} {B : Nat} {σ : pF} (h : aY V B σ.ar σ.T.length σ.cr σ.R σ.T)
  {a3 : OA} {c3 : Nat} {t : Lz} (hr : V.ownsRow B 3 1 (.slice a3 t.length c3) t.length (t.map (Value.int .i64))) (hra : a3 ≠ none->¬ σ.I (an a3)) {o : Obj}
  {a5 : OA} {c5 : Nat} (hown : w5.ownsRow B 22 1 (.slice a5 (σ.T.length+1) c5) (σ.T.length+1) (List.zipWith jx σ.R σ.T ++ [.slice a3 t.length c3])) (hg : (V.alloc o).grownBy w5 (Value.slice σ.ar σ.T.length σ.cr).ownBlock)
  (hap : ∀b,b<(V.alloc o).heap.size->cF σ.ar b->cF a5 b) :
  aY w5 B a5 (σ.T.length+1) c5 (σ.R ++ [(a3,c3)]) (σ.T ++ [t])/\aw V w5 (λx=>σ.I x\/(a3 ≠ none/\x=an a3)) (λx=>bS a5 (σ.R ++ [(a3,c3)]) x):=by
 have hal:=aB V o;have hO1 : aY (V.alloc o) B σ.ar σ.T.length σ.cr σ.R σ.T:=h.ah hal;refine ⟨Re hO1 (ba hr hal) hra hown hg hap,?_⟩;have hM0 : aw V (V.alloc o) (λx=>σ.I x\/(a3 ≠ none/\x=an a3)) (λx=>σ.I x\/(a3 ≠ none/\x=an a3)):=QU hal _;have hM1 : aw (V.alloc o) w5 (λx=>σ.I x\/(a3 ≠ none/\x=an a3)) (λx=>σ.I x\/(a3 ≠ none/\x=an a3)):=QZ hg λh0=>.inl (.inl ⟨h0,rfl⟩);have hM2:=hM0.trans hM1;refine ⟨hM2.os,hM2.tape,hM2.output,hM2.size,hM2.block,λx hx=>?_⟩;rcases bS.push hO1 hap hx with h1 | h1 | h1
 ·exact .inl (.inl h1)
 ·exact .inl (.inr h1)
 ·exact .inr (Mt hal.size h1)
def E8 (U V : World) (I : Nat->Prop) : Prop:=∃I',aw U V I I'
theorem E8.below {U V : World} {I : Nat->Prop} (h : Rs U V) : E8 U V I:=⟨_,QU h _⟩
theorem E8.next {U V W : World} {I : Nat->Prop} (h : E8 U V I) (k : Rs V W) : E8 U W I:=by obtain ⟨I',h⟩:=h;exact ⟨_,h.trans (QU k _)⟩
theorem E8.kp {U V : World} {I : Nat->Prop} (h : E8 U V I) (o : Obj) : E8 U (V.alloc o) I:=h.next (aB _ _)
theorem E8.drewN {U V : World} {I : Nat->Prop} (h : E8 U V I) : E8 U V.drew I:=h.next (Mi _ _).drew
def KX (B : Nat) (σ : pF) (V : Int × ZZ) (er : Int) (w : World) (rv : Value) (w' : World) : Prop :=
 (er=0/\∃σ' : pF,aY w' B σ'.ar σ'.T.length σ'.cr σ'.R σ'.T/\σ'.T=V.2/\σ'.T.length<=65536/\aw w w' σ.I σ'.I/\rv = .slice σ'.ar σ'.T.length σ'.cr) \/
 (er ≠ 0/\∃I',aw w w' σ.I I'/\rv = .slice none 0 0)
theorem GH.split {B : Nat} {σ : pF} {V : Int × ZZ} {w w' : World} {e : Ending} (h : GH B σ V w e w') : ∃rv,e = .returned (.tuple #[rv,.int .i64 V.1])/\KX B σ V V.1 w rv w':=by
 rcases h with ⟨h1,σ',g1,g2,g3,g4,rfl⟩ | ⟨h1,I',g4,rfl⟩
 ·exact ⟨_,by rw [h1],.inl ⟨h1,σ',g1,g2,g3,g4,rfl⟩⟩
 ·exact ⟨_,rfl,.inr ⟨h1,I',g4,rfl⟩⟩
theorem KX.from {B : Nat} {σ : pF} {V : Int × ZZ} {er : Int} {U w w' : World} {rv : Value} (h : KX B σ V er w rv w') (hb : Rs U w) : KX B σ V er U rv w':=by
 rcases h with ⟨h1,σ',g1,g2,g3,g4,rfl⟩ | ⟨h1,I',g4,rfl⟩
 ·exact .inl ⟨h1,σ',g1,g2,g3,(QU hb _).trans g4,rfl⟩
 ·exact .inr ⟨h1,I',(QU hb _).trans g4,rfl⟩
theorem KX.Me {B : Nat} {σ : pF} {V : Int × ZZ} {er : Int} {w w' : World} {rv : Value} (h : KX B σ V er w rv w') : E8 w w' σ.I:=by
 rcases h with ⟨h1,σ',g1,g2,g3,g4,rfl⟩ | ⟨h1,I',g4,rfl⟩
 ·exact ⟨_,g4⟩
 ·exact ⟨_,g4⟩
section
open Go.RowKit
end
section
open Go.RowKit
end
section
open Go.RowKit
end
section
open Go.RowKit
end
def gv (O : aJ) (v : Lz) : Lz:=v.map λx=>O.mul (O.inv (nth v (gJ v))) x
def di (O : aJ) (b w : Lz) : Lz :=
 if cw w=0\/(cw b ≠ 0/\cw b<cw w) then b else if cw b=0\/cw w<cw b\/dr (gv O w) b<0 then gv O w else b
def lK (O : aJ) (f : ZZ->Lz->ZZ) (cs : Lz) : ZZ->Lz->ZZ
 | [],_=>[]
 | r :: R,v=>(cs.flatMap λa=>f R (kd O v a r)) ++ lK O f cs R v
def iF (O : aJ) (cs : Lz) : Nat->ZZ->Lz->ZZ
 | 0,_,v=>[v]
 | l+1,R,v=>lK O (iF O cs l) cs R v
def lL (O : aJ) (cs c0 : Lz) : Nat->ZZ->Lz->ZZ
 | 0,_,v=>[v]
 | l+1,R,v=>lK O (iF O cs l) c0 R v
theorem EC (O : aJ) (cs : Lz) : ∀(l : Nat) (R : ZZ) (v : Lz),lL O cs cs l R v=iF O cs l R v
 | 0,_,_=>rfl
 | _+1,_,_=>rfl
def dY (q : Nat) : Lz:=(List.range (q - 1)).map λ(i : Nat)=>(i : Int)+1
theorem l9 (q : Nat) : (dY q).length=q - 1:=by simp [dY]
theorem Ex {q a : Nat} (h : a<q - 1) : (dY q).drop a=((a : Int)+1) :: (dY q).drop (a+1):=by rw [M4 (by rw [l9];exact h)];simp [dY]
theorem oP {q : Nat} {x : Int} : x ∈ dY q ↔ 1<=x/\x<q:=by
 unfold dY;rw [Oc];constructor
 ·rintro ⟨i,hi,rfl⟩;rw [M8] at hi;omega
 ·intro h;exact ⟨(x - 1).toNat,by rw [M8];omega,by omega⟩
theorem nH (O : aJ) (cs c0 : Lz) : ∀(l : Nat) (R : ZZ) (v : Lz),R.length<=l->lK O (iF O cs l) c0 R v=[]
 | _,[],_,_=>rfl
 | 0,_ :: _,_,h=>by simp at h
 | l+1,r :: R,v,h=>by rw [lK,nH O cs c0 (l+1) R v (by simp at h;omega),PW];rw [PK];intro a _;exact nH O cs cs l R _ (by simp at h;omega)
theorem nw (O : aJ) (cs c0 : Lz) (l : Nat) (g : Nat->Nat) (hg : ∀R v,(iF O cs l R v).length=g R.length) : ∀(R : ZZ) (v : Lz),(lK O (iF O cs l) c0 R v).length=c0.length * ((List.range R.length).map g).sum
 | [],_=>by simp [lK]
 | r :: R,v=>by rw [lK,Mp,nw O cs c0 l g hg R v,Qh,MT,Nx,M3,QN];have h : c0.map (λa=>(iF O cs l R (kd O v a r)).length)=c0.map λ_=>g R.length:=M7 λa _=>hg R _;rw [h,QJ,PO,O6];simp;omega
theorem rV (O : aJ) (cs : Lz) : ∀(l : Nat) (R : ZZ) (v : Lz),(iF O cs l R v).length=dN R.length l * cs.length ^ l
 | 0,R,v=>by cases R <;> simp [iF,dN]
 | l+1,R,v=>by
  rw [iF,nw O cs cs l (λn=>dN n l * cs.length ^ l) (λR v=>rV O cs l R v) R v];have e : ((List.range R.length).map λn=>dN n l * cs.length ^ l).sum=dN R.length (l+1) * cs.length ^ l:=by
   rw [<- ym];generalize List.range R.length=X;induction X with
   | nil=>simp
   | cons x X ih=>simp [ih,Ou]
  rw [e,NJ,Pn (cs.length ^ l),Nat.mul_left_comm]
theorem th (O : aJ) (cs : Lz) (x : Int) (l : Nat) (R : ZZ) (v : Lz) : (lL O cs [x] (l+1) R v).length=dN R.length (l+1) * cs.length ^ l:=by
 rw [lL,nw O cs [x] l (λn=>dN n l * cs.length ^ l) (λR v=>rV O cs l R v) R v];have e : ((List.range R.length).map λn=>dN n l * cs.length ^ l).sum=dN R.length (l+1) * cs.length ^ l:=by
  rw [<- ym];generalize List.range R.length=X;induction X with
  | nil=>simp
  | cons x X ih=>simp [ih,Ou]
 rw [e];simp
theorem tN (x : Int) (w : World) : Calls prog 226 #[.int .i64 x] w λe w'=>e = .returned (.bool (x != 0))/\w=w':=by go_enter func226,ntmps226;go_wp2;go_ret;exact ⟨rfl,rfl⟩
theorem A9 (a : OA) (n c : Nat) (l : Lz) (w : World) (hi : Ints w a n l) :
  Calls prog 97 #[.slice a n c,.func (.func 226) #[] #[]] w λe w'=>e = .returned (.int .i64 (i6 l))/\w=w':=by
 have Hlen:=Z5 hi.len;have hpl:=hi.pl;have hmax:=hi.max;unfold maxLen at hmax;go_enter func97,ntmps97;go_wp2_with fail;go_loop [8] (λiv=>∃k : Nat,k<=n/\iv = .int .i64 k/\Hid (∀j,j<k->nth l j=0)) (λiv=>n - (intOf iv).toNat);case atStart=>exact ⟨0,Mj _,rfl,λj hj=>by omega⟩
 case round =>
  obtain ⟨k,hk,rfl,hall⟩:=hrel
  by_cases hlt : k<n
  ·have ck:=hi.cell k hlt
   by_cases hz : nth l k=0
   ·have hz' : (nth l k != 0)=false:=by simpa using hz
    have Hz:=Z5 hz
    clear hz
    go_wp2_with fail
    refine (tN _ _).mono ?_
    rintro e w' ⟨rfl,rfl⟩
    go_wp2_with fail
    go_round
    case rel=>exact ⟨k+1,by omega,by go_num,λj hj=>by
     rcases MU j k with h | h
     ·exact hall.out j h
     ·rw [show j=k by omega];exact Hz.out⟩
    case measure=>simp [intOf] <;> omega
   ·have hz' : (nth l k != 0)=true:=by simpa using hz
    have Hf : Hid (i6 l=k):=by show _=_;have:=yj l k (by rw [Hlen.out];exact hlt) hall.out hz;rw [i6,this,Mg (by rw [Hlen.out];exact hlt)]
    clear hz
    go_wp2_with fail
    refine (tN _ _).mono ?_
    rintro e w' ⟨rfl,rfl⟩
    go_wp2_with fail
    go_ret
    exact ⟨aI Hf.out.symm,rfl⟩
  ·obtain rfl : k=n:=by omega
   have Hf : Hid (i6 l = -1):=by show _=_;have:=oT l (by rw [Hlen.out];exact hall.out);rw [i6,this,Mh (by omega)]
   go_wp2_with fail
   go_ret
   exact ⟨aI Hf.out.symm,rfl⟩
theorem iV (a : OA) (n c : Nat) (l : Lz) (w : World) (h : Ints w a n l) :
  Calls prog 55 #[.slice a n c] w λe w'=>e = .returned (.int .i64 (cw l))/\w'=w:=by
 have Hl:=Z5 h.len;have hpl:=h.pl;have hmax:=h.max;unfold maxLen at hmax;have hle : ∀k,k<=n->(cw (l.take k) : Int)<=k:=λk hk=>by have h1 : cw (l.take k)<=(l.take k).length:=Ol;rw [MJ] at h1;omega
 have Hle:=Z5 hle;have HT : Hid (cw (l.take n)=cw l):=by show _=_;rw [Ms (by rw [Hl.out];exact Mf _)]
 clear hle;go_enter func55,ntmps55;go_wp2_with fail;go_loopw [3,8] (λcv iv wr=>∃k : Nat,k<=n/\iv = .int .i64 k/\cv = .int .i64 (cw (l.take k))/\wr=w) (λ_ iv _=>n - (intOf iv).toNat);case atStart=>exact ⟨0,Mj _,rfl,by simp [cw],rfl⟩
 case round =>
  obtain ⟨k,hk,rfl,rfl,rfl⟩:=hrel
  by_cases hlt : k<n
  ·have ck:=h.cell k hlt
   have hkl : k<l.length:=by rw [Hl.out];exact hlt
   have hst : cw (l.take (k+1))=cw (l.take k)+(if nth l k ≠ 0 then 1 else 0):=by unfold cw;rw [Mu hkl,OH,OZ,aj hkl];simp
   have hb:=Hle.out k hk
   obtain ⟨t,ht⟩ : ∃t,cw (l.take k)=t:=⟨_,rfl⟩
   obtain ⟨y,hy⟩ : ∃y,nth l k=y:=⟨_,rfl⟩
   rw [ht] at hst hb ⊢
   rw [hy] at hst ck
   clear ht hy hkl
   by_cases h0 : y=0
   ·have hd : (y != 0)=false:=by simpa using h0
    have Hst : Hid (cw (l.take (k+1))=t):=by show _=_;rw [hst,Mh (by simpa using h0)];rfl
    clear h0 hst
    go_wp2_with fail
    go_roundw
    case rel=>exact ⟨k+1,by omega,by go_num,by rw [Hst.out],by simp⟩
    case measure=>simp [intOf] <;> omega
   ·have hd : (y != 0)=true:=by simpa using h0
    have Hst : Hid (cw (l.take (k+1))=t+1):=by show _=_;rw [hst,Mg h0]
    clear h0 hst
    go_wp2_with fail
    go_roundw
    case rel=>exact ⟨k+1,by omega,by go_num,by rw [Hst.out];go_num,by simp⟩
    case measure=>simp [intOf] <;> omega
  ·obtain rfl : k=n:=by omega
   rw [HT.out]
   go_wp2_with fail
   go_ret
   exact ⟨rfl,rfl⟩
structure oG (F : Nat->Prop) (w : World) (a : OA) (n : Nat) (l : Lz) : Prop where
 ints : Ints w a n l
 lo : 0<n->¬ F (an a)
structure wE (F : Nat->Prop) (w : World) (g b : Nat) (P M : Int) (am : OA) (mn cm : Nat) (N : Int) (a : OA) (n c : Nat) (ag : OA) (ng cg : Nat) (ab : OA) (cb : Nat) (B : Lz) (k : Nat) : Prop where
 box : bf w g [.pointer (some ⟨b,0,none⟩),.int .i64 P,.int .i64 M,.slice am mn cm,.int .i64 N,.slice a n c,.slice ag ng cg,.slice ab B.length cb,.int .i64 k]
 best : oG F w ab B.length B
def One (g : Nat) (x : Nat) : Prop:=x=g
theorem cA.cQ {w w' : World} {g : Nat} {a : OA} {n : Nat} {l : Lz} (h : cA (g+1) w a n l) (hM : aw w w' (One g) (One g)) : cA (g+1) w' a n l :=
 ⟨h.ints.cQ hM λhn e=>by have:=h.lo hn;rw [show an a=g from e] at this;omega,h.lo⟩
theorem oG.cQ {F : Nat->Prop} {w w' : World} {g : Nat} {a : OA} {n : Nat} {l : Lz} (h : oG F w a n l) (hM : aw w w' (One g) (One g)) (hF : F g) : oG F w' a n l :=
 ⟨h.ints.cQ hM λhn e=>h.lo hn (by rw [show an a=g from e];exact hF),h.lo⟩
theorem Gl {w0 w : World} {b g : Nat} {G : cJ} {P M : Int} {am : OA} {mn cm : Nat} {N : Int} {a : OA} {n c : Nat} {ag : OA} {ng cg : Nat} {ab : OA} {cb : Nat} {B : Lz} {k : Nat} (av : OA) (nv cv : Nat) (v : Lz)
  {F : Nat->Prop} (hF : F g) (hFl : ∀x,F x->x<w.heap.size) (h : dW w0 b G) (hb : Rs w0 w) (hg : w0.heap.size<=g) (hs : wE F w g b P M am mn cm N a n c ag ng cg ab cb B k) (hv : cA (g+1) w av nv v) (hve : G.Ei v) (hnv : nv<=1000000) (hk : k<=1000000) :
  Calls prog 171 #[.pointer (some ⟨g,0,none⟩),.slice av nv cv] w λe w'=>e = .returned (.tuple #[])/\∃ab' cb',wE F w' g b P M am mn cm N a n c ag ng cg ab' cb' (di G.ops B v) (k+1)/\aw w w' (One g) (One g):=by
 have Hops:=Z5 (show G.ops.mul=G.mul/\G.ops.inv=G.inv from ⟨rfl,rfl⟩);have c0:=hs.box.cell 0 rfl;have c7:=hs.box.cell 7 rfl;have c8:=hs.box.cell 8 rfl;have f8:=hs.box.frozen 8;have kw : IntKind.i64.wrap ((k : Int)+1)=(k : Int)+1:=Mq _ (by omega);go_enter func171,ntmps171;go_upto_region 1 with fail;obtain ⟨V,hV⟩ : ∃V,w.setCell ⟨g,8,none⟩ (.int .i64 ((k : Int)+1))=V:=⟨_,rfl⟩
 rw [hV];have hbV:=hs.box.KG 8 (.int .i64 ((k : Int)+1));rw [hV] at hbV;have hMV : aw w V (One g) (One g):=by rw [<- hV];exact Rp w g 8 _
 have hvV:=hv.cQ hMV;have hBV:=hs.best.cQ hMV hF;have HF0:=Z5 (My hF hFl);have hVV : Rs w0 V:=hb.trans (hMV.below (λx hx=>by rw [show x=g from hx];exact hg) hb.size);clear c0 c7 c8 f8 hV kw;obtain ⟨d,hd⟩ : ∃d,cw B=d:=⟨_,rfl⟩
 have Hd:=Z5 hd;have c0:=hbV.cell 0 rfl;have c7:=hbV.cell 7 rfl;have hdl : d<=B.length:=by rw [<- hd];exact Ol
 have hBmax:=hBV.ints.max;unfold maxLen at hBmax;go_upto_if 23 with fail;go_cut [4] (λdv wx=>dv = .int .i64 (d : Nat)/\wx=V);case first =>
  rcases Na B.length with h0 | h0
  ·have d1 : decide ((0 : Int)<(B.length : Int))=false:=M1 (by omega)
   have d1' : decide (0<B.length)=false:=M1 (by omega)
   obtain rfl : d=0:=by omega
   go_wp2_with fail
   go_meet
   exact ⟨by rw [h0],rfl⟩
  ·have d1 : decide ((0 : Int)<(B.length : Int))=true:=MO (by omega)
   have d1' : decide (0<B.length)=true:=MO h0
   go_wp2_with fail
   refine (iV ab B.length cb B V hBV.ints).mono ?_
   rintro e w' ⟨rfl,rfl⟩
   rw [hd]
   go_wp2_with fail
   go_meet
   exact ⟨rfl,rfl⟩
 obtain ⟨rfl,rfl⟩:=hcut;generalize wc=V1 at *;have hb2 : bf V1 g [.pointer (some ⟨b,0,none⟩),.int .i64 P,.int .i64 M,.slice am mn cm,.int .i64 N,.slice a n c,.slice ag ng cg,.slice ab B.length cb,.int .i64 ((k+1 : Nat) : Int)]:=by rw [show ((k : Int)+1)=((k+1 : Nat) : Int) by omega] at hbV;exact hbV
 have HSea:=Z5 (My hb2 hBV);have HMV:=Z5 hMV;have hvl : v.length=nv:=hvV.ints.len;obtain ⟨z,hz⟩ : ∃z,cw v=z:=⟨_,rfl⟩
 have hzv : z<=nv:=by rw [<- hz,<- hvl];exact Ol
 clear hbV hb2 hMV hv hb hs;go_wp2_with fail;refine (iV av nv cv v V1 hvV.ints).mono ?_;rintro e w' ⟨rfl,hw'⟩;obtain rfl:=hw'.symm;rw [hz];by_cases hA : z=0\/(d ≠ 0/\d<z)
 ·have HL : Hid (di G.ops B v=B):=by show _=_;unfold di;rw [Hd.out,hz,Mg hA]
  rcases hA with rfl | ⟨h1,h2⟩
  ·clear hz;go_wp2_with fail;(try simp only [Exit.inBlock,Exit.then])
   refine bodyPost_ret (results_none rfl _ _ _) rfl ?_;exact ⟨rfl,ab,cb,by rw [HL.out];exact ⟨HSea.out.1,HSea.out.2⟩,HMV.out⟩
  ·have e0 : ((z : Int) == 0)=false:=by simp;omega
   have e1 : decide (0<d)=true:=MO (by omega);have e2 : decide (d<z)=true:=MO h2;clear hz hd h1 h2;go_wp2_with fail;(try simp only [Exit.inBlock,Exit.then])
   refine bodyPost_ret (results_none rfl _ _ _) rfl ?_;exact ⟨rfl,ab,cb,by rw [HL.out];exact ⟨HSea.out.1,HSea.out.2⟩,HMV.out⟩
 have hz0 : z ≠ 0:=λe=>hA (.inl e);have Hz:=Z5 hz;have HA:=Z5 hA;have hvz : cw v ≠ 0:=by rw [hz];exact hz0
 obtain ⟨f,hf⟩ : ∃f,gJ v=f:=⟨_,rfl⟩
 have hfl : f<nv:=by rw [<- hf,<- hvl];refine Oy λhn=>hvz ?_;unfold cw;rw [Oz];intro y hy;obtain ⟨i,hi,rfl⟩:=List.mem_iff_getElem.1 hy;have:=lT v i (by omega);rw [aj hi] at this;simp [this]
 have hfv : i6 v=f:=by unfold i6;rw [hf,hvl,Mg hfl]
 have hfn : nth v f ≠ 0:=by rw [<- hf];exact kn v (by rw [hf,hvl];exact hfl)
 have elf : G.El (nth v f):=hve.nth (by rw [hvl];exact hfl);have Hf:=Z5 hf;have e0 : ((z : Int) == 0)=false:=by simp;omega
 clear hz hf hd;go_upto_region 5 with fail;go_cut [41] (λbv wx=>bv = .bool false/\wx=V1);case first =>
  by_cases h1 : d=0
  ·subst h1
   go_wp2_with fail
   go_meet
   exact ⟨rfl,rfl⟩
  ·have e1 : decide (0<d)=true:=MO (by omega)
   have e2 : decide (d<z)=false:=by simp;exact Nat.le_of_not_lt λh=>hA (.inr ⟨h1,h⟩)
   clear h1 hA
   go_wp2_with fail
   go_meet
   exact ⟨rfl,rfl⟩
 obtain ⟨rfl,rfl⟩:=hcut;generalize wc=V2 at *;have c0:=HSea.out.1.cell 0 rfl;clear c7 hdl hBmax hA e0;go_wp2_with fail;refine (A9 av nv cv v V2 hvV.ints).mono ?_;rintro e w' ⟨rfl,rfl⟩;rw [hfv];have ev:=hvV.ints.cell f hfl;have hplv:=hvV.ints.pl;have HGV : Hid (dW V2.drew b G/\∀n,dW (V2.drewN n) b G):=⟨(h.ah hVV).ah (Mi _ _).drew,λn=>(h.ah hVV).drewN n⟩
 have Hfn:=Z5 hfn;clear hfv hfn;go_upto_region 7 with fail;go_cut [7] (λdv wx=>dv = .int .i64 (G.inv (nth v f))/\bs V2 wx);case first =>
  go_region_held3 (λw'=>w'.cell? ⟨g,0,none⟩=some (.pointer (some ⟨b,0,none⟩))/\w'.cell? ⟨an av,aP av+f,none⟩=some (.int .i64 (nth v f)))
   (exact ⟨c0,ev⟩)
   (first
   | (go_at_call 193;((with_reducible refine (Ax _ HGV.out.1 elf Hfn.out).mono ?_);rintro e w4 ⟨m4,rfl,rfl⟩)))
  all_goals (
   go_step;go_step
   go_meet
   exact ⟨rfl,⟨_,rfl⟩⟩)
 obtain ⟨rfl,hdr⟩:=hcut;generalize wc=V3 at *;have hvV3:=hvV.ints.ah hdr.below;have h3:=HSea.out.1.ah hdr.below;have c0:=h3.cell 0 rfl;have hiel : G.El (G.inv (nth v f)):=Rj h _;have hG3:=h.ah (hdr.xR hVV);obtain ⟨N2,hN⟩ : ∃N2,v.map (G.mul (G.inv (nth v f)))=N2:=⟨_,rfl⟩
 have hmon : gv G.ops v=N2:=by show v.map (λx=>G.mul (G.inv (nth v (gJ v))) x)=N2;rw [Hf.out];exact hN
 have hNl : N2.length=nv:=by rw [<- hN,Mx];exact hvl
 have Hsc:=Z5 (wT (G.inv (nth v f)) av nv cv v hG3 hiel hvV3 hve hnv);rw [hN] at Hsc;unfold cX at Hsc;rw [hNl] at Hsc;have hsz:=HSea.out.1.1;clear hN hG3 hvV hvV3 ev;go_wp2_with fail;refine Hsc.out.mono ?_;rintro e w4 ⟨a4,c4,rfl,hown4,hb4⟩;have hb34 : Rs V2 w4:=QQ hdr.below hb4;have h4:=HSea.out.1.ah hb34;have c0:=h4.cell 0 rfl;have c7:=h4.cell 7 rfl;have f7:=h4.frozen 7;have hB4 : oG F w4 ab B.length B:=⟨HSea.out.2.ints.ah hb34,HSea.out.2.lo⟩
 have hN4 : oG F w4 a4 nv N2:=⟨(QR hown4).1,λhn hFa=>by have h1:=(aZ hown4 (by intro e;have:=((QR hown4).1).pl hn;rw [e] at this;cases this)).1;have h2:=hdr.below.size;have h3:=HF0.out.2 _ hFa;have h4:=HMV.out.size;omega⟩
 have hM4 : aw w w4 (One g) (One g):=HMV.out.trans (QU hb34 _);have hput:=h4.KG 7 (.slice a4 nv c4);have hMp : aw w (w4.setCell ⟨g,7,none⟩ (.slice a4 nv c4)) (One g) (One g):=hM4.trans (Rp w4 g 7 _);have hNp:=hN4.cQ (Rp w4 g 7 (.slice a4 nv c4)) HF0.out.1;have HF : Hid (di G.ops B v=N2->∃ab' cb',wE F (w4.setCell ⟨g,7,none⟩ (.slice a4 nv c4)) g b P M am mn cm N a n c ag ng cg ab' cb' (di G.ops B v) (k+1)/\aw w (w4.setCell ⟨g,7,none⟩ (.slice a4 nv c4)) (One g) (One g)):=λe=>by rw [e];exact ⟨a4,c4,⟨by rw [hNl];exact hput,by rw [hNl];exact hNp⟩,hMp⟩
 have HF2 : Hid (di G.ops B v=B->∃ab' cb',wE F w4 g b P M am mn cm N a n c ag ng cg ab' cb' (di G.ops B v) (k+1)/\aw w w4 (One g) (One g)):=λe=>by rw [e];exact ⟨ab,cb,⟨h4,hB4⟩,hM4⟩
 have hcmp:=qu a4 nv c4 N2 ab B.length cb B w4 hN4.ints hB4.ints;have Hcmp:=Z5 hcmp;have hlk : di G.ops B v=if d=0\/z<d\/dr N2 B<0 then N2 else B:=by unfold di;rw [hmon,Hd.out,Hz.out,Mh HA.out]
 clear hown4 hb4 hb34 h4 hB4 hN4 hM4 hput hMp hNp hcmp h3 hdr hmon;by_cases h1 : d=0
 ·have hl2 : di G.ops B v=N2:=by rw [hlk,Mg (.inl h1)]
  have HH:=Z5 (HF.out hl2);subst h1;clear hlk hl2;go_wp2_with fail;go_end0;exact ⟨rfl,HH.out⟩
 have e1 : ((d : Int) == 0)=false:=by simp;exact h1
 by_cases h2 : z<d
 ·have hl2 : di G.ops B v=N2:=by rw [hlk,Mg (.inr (.inl h2))]
  have HH:=Z5 (HF.out hl2);have e2 : decide (z<d)=true:=by simpa using h2
  clear hlk hl2 h1 h2;go_wp2_with fail;go_end0;exact ⟨rfl,HH.out⟩
 have e2 : decide (z<d)=false:=by simpa using h2
 by_cases h3 : dr N2 B<0
 ·have hl2 : di G.ops B v=N2:=by rw [hlk,Mg (.inr (.inr h3))]
  have HH:=Z5 (HF.out hl2);have e3 : decide (dr N2 B<0)=true:=by simpa using h3
  clear hlk hl2 h1 h2 h3;generalize dr N2 B=y at *;go_wp2_with fail;refine Hcmp.out.mono ?_;rintro e w5 ⟨rfl,rfl⟩;go_wp2_with fail;go_end0;exact ⟨rfl,HH.out⟩
 ·have hl2 : di G.ops B v=B:=by rw [hlk,Mh (by rintro (h | h | h);exact h1 h;exact h2 h;exact h3 h)]
  have HH:=Z5 (HF2.out hl2);have e3 : decide (dr N2 B<0)=false:=by simpa using h3
  clear hlk hl2 h1 h2 h3;generalize dr N2 B=y at *;go_wp2_with fail;refine Hcmp.out.mono ?_;rintro e w5 ⟨rfl,rfl⟩;go_wp2_with fail;go_end0;exact ⟨rfl,HH.out⟩
theorem vR : ∀a : Lz,dr a a=0
 | []=>rfl
 | x :: a=>by rw [dr,Mh (by omega),Mh (by omega),vR a]
theorem vg : ∀a b : Lz,dr b a = - dr a b
 | [],[]=>rfl
 | [],_ :: _=>rfl
 | _ :: _,[]=>rfl
 | x :: a,y :: b=>by
  rw [dr,dr];by_cases h1 : x<y
  ·rw [Mh (by omega),Mg h1,Mg h1];rfl
  ·by_cases h2 : y<x
   ·rw [Mg h2,Mh h1,Mg h2]
   ·rw [Mh h2,Mh h1,Mh h1,Mh h2,vg a b]
theorem Dr : ∀ {a b c : Lz},dr a b<=0->dr b c<=0->dr a c<=0
 | [],_,[],_,_=>by rw [dr];omega
 | [],_,_ :: _,_,_=>by rw [dr];omega
 | _ :: _,[],_,h,_=>by rw [dr] at h;omega
 | _ :: _,_ :: _,[],_,h=>by rw [dr] at h;omega
 | x :: a,y :: b,z :: c,h,h'=>by
  rw [dr] at h h' ⊢;by_cases h1 : x<y
  ·by_cases h3 : z<y
   ·rw [Mh (by omega),Mg h3] at h';omega
   ·rw [Mg (by omega)];omega
  ·rw [Mh h1] at h;by_cases h2 : y<x
   ·rw [Mg h2] at h;omega
   ·rw [Mh h2] at h;by_cases h3 : y<z
    ·rw [Mg (by omega)];omega
    ·rw [Mh h3] at h';by_cases h4 : z<y
     ·rw [Mg h4] at h';omega
     ·rw [Mh h4] at h';rw [Mh (by omega),Mh (by omega)];exact Dr h h'
def qy (b x : Lz) : Prop:=cw b<cw x\/(cw b=cw x/\dr b x<=0)
theorem qy.refl (b : Lz) : qy b b:=.inr ⟨rfl,by rw [vR];omega⟩
theorem qy.trans {a b c : Lz} (h : qy a b) (h' : qy b c) : qy a c:=by
 rcases h with h | ⟨h,g⟩
 ·rcases h' with h' | ⟨h',_⟩
  ·exact .inl (by omega)
  ·exact .inl (by omega)
 ·rcases h' with h' | ⟨h',g'⟩
  ·exact .inl (by omega)
  ·exact .inr ⟨by omega,Dr g g'⟩
theorem qy.wt {a b : Lz} (h : qy a b) : cw a<=cw b:=by rcases h with h | ⟨h,_⟩ <;> omega
theorem gQ {x : Lz} : cw x=0 ↔ ∀y ∈ x,y=0:=by
 unfold cw;rw [Oz];constructor
 ·intro h y hy;have:=h y hy;simpa using this
 ·intro h y hy;rw [h y hy];simp
theorem C6 : cw []=0:=rfl
theorem xe {v : Lz} (h : cw v ≠ 0) : gJ v<v.length:=by refine Oy λhn=>h (gQ.2 λy hy=>?_);obtain ⟨i,hi,rfl⟩:=List.mem_iff_getElem.1 hy;have:=lT v i (by omega);rwa [aj hi] at this
theorem kt (x : Int) (l : Lz) : cw (x :: l)=cw l+if x=0 then 0 else 1:=by unfold cw;rw [Oa];by_cases h : x=0 <;> simp [h]
section
variable {O : aJ} {El : Int->Prop} {m : Nat}
theorem l7 (F : bR O El) {a : Int} (ha : El a) (h0 : a ≠ 0) : El (O.inv a)/\O.inv a ≠ 0:=by have hi:=F.cl.inv a ha h0;refine ⟨hi,λe=>?_⟩;have h1:=F.mul_inv a ha h0;rw [e,F.dt ha] at h1;have h2:=F.one_mul a ha;rw [<- h1,F.kj ha] at h2;exact h0 h2.symm
theorem nZ (F : bR O El) {s x : Int} (hs : El s) (h0 : s ≠ 0) (hx : El x) : O.mul s x=0 ↔ x=0 :=
 ⟨λh=>F.rP hs hx h0 h,λh=>by rw [h,F.dt hs]⟩
theorem qZ (F : bR O El) {s : Int} (hs : El s) (h0 : s ≠ 0) : ∀ {x : Lz},(∀y ∈ x,El y)->cw (x.map (O.mul s))=cw x
 | [],_=>rfl
 | y :: x,h=>by rw [Nc,kt,kt,qZ F hs h0 λz hz=>h z (by simp [hz])];simp [nZ F hs h0 (h y (by simp))]
theorem wQ (F : bR O El) {s : Int} (hs : El s) (h0 : s ≠ 0) : ∀ {x : Lz},(∀y ∈ x,El y)->gJ (x.map (O.mul s))=gJ x
 | [],_=>rfl
 | y :: x,h=>by rw [Nc,gJ,gJ,wQ F hs h0 λz hz=>h z (by simp [hz])];simp [nZ F hs h0 (h y (by simp))]
theorem kF {v : Lz} (hv : Vc El m v) (h : cw v ≠ 0) : El (nth v (gJ v))/\nth v (gJ v) ≠ 0 :=
 ⟨hv.at (by rw [<- hv.1];exact xe h),kn v (xe h)⟩
theorem mx (O : aJ) (v : Lz) : gv O v=v.map (O.mul (O.inv (nth v (gJ v)))):=rfl
theorem rp (F : bR O El) {v : Lz} (hv : Vc El m v) (h : cw v ≠ 0) : cw (gv O v)=cw v:=by obtain ⟨h1,h2⟩:=kF hv h;obtain ⟨h3,h4⟩:=l7 F h1 h2;rw [mx,qZ F h3 h4 hv.2]
theorem inv_mul (F : bR O El) {a b : Int} (ha : El a) (hb : El b) (h1 : a ≠ 0) (h2 : b ≠ 0) : O.mul (O.inv (O.mul a b)) a=O.inv b:=by
 have hab:=F.cl.mul a b ha hb;have h0 : O.mul a b ≠ 0:=λe=>h2 (F.rP ha hb h1 e);obtain ⟨i1,_⟩:=l7 F hab h0;obtain ⟨i2,_⟩:=l7 F hb h2;have hx:=F.cl.mul _ _ i1 ha;have e1 : O.mul (O.mul (O.inv (O.mul a b)) a) b=1:=by rw [F.mul_assoc _ _ _ i1 ha hb,F.mul_comm _ _ i1 hab,F.mul_inv _ hab h0]
 rw [<- F.iE hx,<- F.mul_inv b hb h2,<- F.mul_assoc _ _ _ hx hb i2,e1,F.one_mul _ i2]
theorem yX (F : bR O El) {s : Int} (hs : El s) (h0 : s ≠ 0) {v : Lz} (hv : Vc El m v) (h : cw v ≠ 0) : gv O (v.map (O.mul s))=gv O v:=by obtain ⟨h1,h2⟩:=kF hv h;have hl:=xe h;rw [mx,mx,wQ F hs h0 hv.2,fZ O v s hl,N3];refine M7 λx hx=>?_;have hxe:=hv.2 x hx;obtain ⟨i1,_⟩:=l7 F (F.cl.mul _ _ hs h1) λe=>h2 (F.rP hs h1 h0 e);show O.mul _ (O.mul s x)=_;rw [<- F.mul_assoc _ _ _ i1 hs hxe,inv_mul F hs h1 h0 h2]
theorem BH (F : bR O El) {v : Lz} (hv : Vc El m v) (h : cw v ≠ 0) : nth (gv O v) (gJ (gv O v))=1:=by obtain ⟨h1,h2⟩:=kF hv h;obtain ⟨h3,h4⟩:=l7 F h1 h2;rw [mx,wQ F h3 h4 hv.2,fZ O v _ (xe h),F.mul_comm _ _ h3 h1,F.mul_inv _ h1 h2]
theorem DV (F : bR O El) {v : Lz} (hv : Vc El m v) (h : cw v ≠ 0) : gv O (gv O v)=gv O v:=by obtain ⟨h1,h2⟩:=kF hv h;obtain ⟨h3,h4⟩:=l7 F h1 h2;rw [mx O v,yX F h3 h4 hv h,mx]
theorem EE (F : bR O El) {b w : Lz} (hw : Vc El m w) (h0 : cw w ≠ 0) :
  ((di O b w=b/\cw b ≠ 0)\/di O b w=gv O w)/\cw (di O b w) ≠ 0/\qy (di O b w) (gv O w)/\(cw b ≠ 0->qy (di O b w) b):=by
 have hm:=rp F hw h0;unfold di;by_cases h1 : cw w=0\/(cw b ≠ 0/\cw b<cw w)
 ·rw [Mg h1];obtain ⟨g1,g2⟩:=h1.resolve_left h0;exact ⟨.inl ⟨rfl,g1⟩,g1,.inl (by omega),λ_=>qy.refl b⟩
 ·rw [Mh h1];by_cases h2 : cw b=0\/cw w<cw b\/dr (gv O w) b<0
  ·rw [Mg h2];refine ⟨.inr rfl,by omega,qy.refl _,λhb=>?_⟩;rcases h2 with h2 | h2 | h2
   ·exact absurd h2 hb
   ·exact .inl (by omega)
   ·by_cases e : cw w<cw b
    ·exact .inl (by omega)
    ·refine .inr ⟨?_,by omega⟩;have : ¬ cw b<cw w:=λe2=>h1 (.inr ⟨hb,e2⟩);omega
  ·rw [Mh h2];have hb : cw b ≠ 0:=λe=>h2 (.inl e);have e1 : ¬ cw b<cw w:=λe2=>h1 (.inr ⟨hb,e2⟩);have e2 : ¬ cw w<cw b:=λe=>h2 (.inr (.inl e));have e3 : ¬ dr (gv O w) b<0:=λe=>h2 (.inr (.inr e));refine ⟨.inl ⟨rfl,hb⟩,hb,.inr ⟨by omega,?_⟩,λ_=>qy.refl b⟩;rw [vg];omega
theorem vG (F : bR O El) : ∀(l : ZZ) (b : Lz),(∀y ∈ l,Vc El m y/\cw y ≠ 0) ->
  ((l.foldl (di O) b=b\/∃y ∈ l,l.foldl (di O) b=gv O y))/\(∀y ∈ l,qy (l.foldl (di O) b) (gv O y))/\(cw b ≠ 0->qy (l.foldl (di O) b) b)/\(l ≠ []\/cw b ≠ 0->cw (l.foldl (di O) b) ≠ 0)
 | [],b,_=>⟨.inl rfl,by simp,λ_=>qy.refl b,λh=>by rcases h with h | h;exact absurd rfl h;exact h⟩
 | y :: l,b,h=>by
  obtain ⟨hy,hy0⟩:=h y (by simp);obtain ⟨a1,a2,a3,a4⟩:=EE F (b:=b) hy hy0;obtain ⟨b1,b2,b3,b4⟩:=vG F l (di O b y) λz hz=>h z (by simp [hz]);rw [PY];refine ⟨?_,λz hz=>?_,λhb=>(b3 a2).trans (a4 hb),λ_=>b4 (.inr a2)⟩
  ·rcases b1 with e | ⟨z,hz,e⟩
   ·rcases a1 with ⟨e2,_⟩ | e2
    ·exact .inl (by rw [e,e2])
    ·exact .inr ⟨y,by simp,by rw [e,e2]⟩
   ·exact .inr ⟨z,by simp [hz],e⟩
  ·rcases List.mem_cons.1 hz with rfl | hz
   ·exact (b3 a2).trans a3
   ·exact b2 z hz
def FC (cs c0 : Lz) : Lz->Prop
 | []=>True
 | a :: c=>if a=0 then FC cs c0 c else a ∈ c0/\∀b ∈ c,b ≠ 0->b ∈ cs
theorem xG {cs : Lz} : ∀ {c : Lz},FC cs cs c ↔ ∀b ∈ c,b ≠ 0->b ∈ cs
 | []=>by simp [FC]
 | a :: c=>by
  rw [FC];by_cases h : a=0
  ·rw [Mg h,xG];constructor
   ·intro h1 b hb hb0;rcases List.mem_cons.1 hb with rfl | hb
    ·exact absurd h hb0
    ·exact h1 b hb hb0
   ·intro h1 b hb hb0;exact h1 b (by simp [hb]) hb0
  ·rw [Mh h];constructor
   ·rintro ⟨h1,h2⟩ b hb hb0;rcases List.mem_cons.1 hb with rfl | hb
    ·exact h1
    ·exact h2 b hb hb0
   ·intro h1;exact ⟨h1 a (by simp) h,λb hb hb0=>h1 b (by simp [hb]) hb0⟩
theorem rS (O : aJ) {cs c0 : Lz} (h0 : ∀a ∈ c0,a ≠ 0) (l : Nat) (hf : ∀R v y,y ∈ iF O cs l R v ↔ ∃c : Lz,c.length=R.length/\cw c=l/\(∀b ∈ c,b ≠ 0->b ∈ cs)/\y=gV O v c R) :
  ∀(R : ZZ) (v y : Lz),y ∈ lK O (iF O cs l) c0 R v ↔ ∃c : Lz,c.length=R.length/\cw c=l+1/\FC cs c0 c/\y=gV O v c R
 | [],v,y=>by
  rw [lK];constructor
  ·intro h;simp at h
  ·rintro ⟨c,hc,h1,_⟩;rw [MF hc,C6] at h1;omega
 | r :: R,v,y=>by
  rw [lK,M0,Ox,rS O h0 l hf R v y];constructor
  ·rintro (⟨a,ha,h⟩ | ⟨c,h1,h2,h3,h4⟩)
   ·obtain ⟨c,h1,h2,h3,h4⟩:=(hf _ _ _).1 h;have ha0:=h0 a ha;exact ⟨a :: c,by simp [h1],by rw [kt,Mh ha0];omega,by rw [FC,Mh ha0];exact ⟨ha,h3⟩,h4⟩
   ·exact ⟨0 :: c,by simp [h1],by rw [kt,Mg rfl];omega,by rw [FC,Mg rfl];exact h3,by rw [h4,gV,kd,Mg rfl]⟩
  ·rintro ⟨c,h1,h2,h3,h4⟩;match c,h1,h2,h3,h4 with
   | a :: c,h1,h2,h3,h4 =>
    rw [kt] at h2
    rw [FC] at h3
    rw [gV] at h4
    by_cases ha : a=0
    ·rw [Mg ha] at h2 h3
     rw [kd,Mg ha] at h4
     exact .inr ⟨c,by simpa using h1,by omega,h3,h4⟩
    ·rw [Mh ha] at h2 h3
     exact .inl ⟨a,h3.1,(hf _ _ _).2 ⟨c,by simpa using h1,by omega,h3.2,h4⟩⟩
theorem mc (O : aJ) : ∀(c : Lz) (R : ZZ) (v : Lz),(∀y ∈ c,y=0)->gV O v c R=v
 | [],_,_,_=>by simp [gV]
 | _ :: _,[],_,_=>by simp [gV]
 | a :: c,r :: R,v,h=>by rw [gV,kd,Mg (h a (by simp)),mc O c R v λy hy=>h y (by simp [hy])]
theorem yw (O : aJ) {cs : Lz} (h0 : ∀a ∈ cs,a ≠ 0) : ∀(l : Nat) (R : ZZ) (v y : Lz),y ∈ iF O cs l R v ↔ ∃c : Lz,c.length=R.length/\cw c=l/\(∀b ∈ c,b ≠ 0->b ∈ cs)/\y=gV O v c R
 | 0,R,v,y=>by
  rw [iF,MK];constructor
  ·rintro rfl;refine ⟨List.replicate R.length 0,by simp,gQ.2 λy hy=>(List.mem_replicate.1 hy).2,λb hb hb0=>absurd (List.mem_replicate.1 hb).2 hb0,?_⟩;rw [mc O _ _ _ λy hy=>(List.mem_replicate.1 hy).2]
  ·rintro ⟨c,h1,h2,_,h4⟩;rw [h4,mc O _ _ _ (gQ.1 h2)]
 | l+1,R,v,y=>by
  rw [iF,rS O h0 l (yw O h0 l) R v y];constructor
  ·rintro ⟨c,h1,h2,h3,h4⟩;exact ⟨c,h1,h2,xG.1 h3,h4⟩
  ·rintro ⟨c,h1,h2,h3,h4⟩;exact ⟨c,h1,h2,xG.2 h3,h4⟩
theorem sq {cs : Lz} : ∀ {c : Lz},cw c ≠ 0->(FC cs [1] c ↔ nth c (gJ c)=1/\∀j,gJ c<j->j<c.length->nth c j ≠ 0->nth c j ∈ cs)
 | [],h=>absurd rfl h
 | a :: c,h=>by
  rw [FC,gJ];by_cases ha : a=0
  ·rw [kt,Mg ha] at h;rw [Mg ha,Mg ha,sq (by omega)];constructor
   ·rintro ⟨h1,h2⟩;refine ⟨by simpa [nth] using h1,λj h3 h4 h5=>?_⟩;match j,h3,h4,h5 with
    | j+1,h3,h4,h5=>simpa [nth] using h2 j (by omega) (by simpa using h4) (by simpa [nth] using h5)
   ·rintro ⟨h1,h2⟩;refine ⟨by simpa [nth] using h1,λj h3 h4 h5=>?_⟩;simpa [nth] using h2 (j+1) (by omega) (by simpa using h4) (by simpa [nth] using h5)
  ·rw [Mh ha,Mh ha];constructor
   ·rintro ⟨h1,h2⟩;refine ⟨by simpa [nth] using h1,λj h3 h4 h5=>?_⟩;match j,h3,h4,h5 with
    | j+1,h3,h4,h5 =>
     have h6 : j<c.length:=by simpa using h4
     have e : nth (a :: c) (j+1)=nth c j:=by simp [nth]
     rw [e] at h5 ⊢
     exact h2 _ (aN h6) h5
   ·rintro ⟨h1,h2⟩;refine ⟨by simpa [nth] using h1,λb hb hb0=>?_⟩;obtain ⟨j,hj,rfl⟩:=List.mem_iff_getElem.1 hb;have e : nth (a :: c) (j+1)=nth c j:=by simp [nth]
    have:=h2 (j+1) (by omega) (by simpa using hj) (by rw [e,aj hj];exact hb0);rwa [e,aj hj] at this
end
def pH (O : aJ) (q m w : Nat) (sys : List ZZ) (b : Lz) : Lz:=sys.foldl (λb G=>(lL O (dY q) [1] w G (List.replicate m 0)).foldl (di O) b) b
def su (q k s w : Nat) : Nat:=s * (dN k w * (q - 1) ^ (w - 1))
def mX (q k s n w : Nat) : Bool:=decide (dN k w<=65536) && decide ((q - 1) ^ (w - 1)<=65536) && decide (su q k s w<=65536 - n)
def DP (O : aJ) (q m k : Nat) (sys : List ZZ) (rks : Lz) : Nat->Nat->Lz->Nat->ZZ->ZZ × Lz × Int
 | 0,_,b,_,o=>(o,b,0)
 | f+1,w,b,n,o =>
  if mX q k sys.length n w=true then
   (if fU k w rks rks.length > (cw (pH O q m w sys b) : Int) then
    (o ++ [[(w : Int),((n+su q k sys.length w : Nat) : Int),(cw (pH O q m w sys b) : Int),fU k w rks rks.length]],pH O q m w sys b,0)
   else DP O q m k sys rks f (w+1) (pH O q m w sys b) (n+su q k sys.length w) (o ++ [[(w : Int),((n+su q k sys.length w : Nat) : Int),(cw (pH O q m w sys b) : Int),fU k w rks rks.length]]))
  else ([],[],8)
section
variable {P M : Int} {mod : Lz} {m : Nat} {L : ZZ}
def CW (P M : Int) (mod : Lz) (m : Nat) (L : ZZ) (y : Lz) : Prop :=
 Vc (aa P M.toNat mod).El m y/\RS (aa P M.toNat mod).ops (aa P M.toNat mod).El m L (λi=>nth y i)/\cw y ≠ 0
theorem fS {O : aJ} : ∀ {T : List (Lz × Int)} {U : Lz},pa O L m U T->∀t ∈ T,bG m t.1=true/\yp O L t.1=true/\1<=t.2/\t.2<=(L.length : Int)
 | [],_,_,t,ht=>by simp at ht
 | t0 :: T,U,h,t,ht=>by
  obtain ⟨h1,h2,h3,h4,h5⟩:=h;rcases List.mem_cons.1 ht with rfl | ht
  ·have hbd:=oo U t.1 t.1.length;have hl : t.1.length=L.length:=(lC.1 h2).1;exact ⟨h1,h2,h3,by omega⟩
  ·exact fS h5 t ht
theorem mz {O : aJ} {Q : Lz} (h : bG m Q=true) (hB : yp O L Q=true) : qW m Q/\Q.length=L.length/\(jP O L Q).length=Q.length :=
 ⟨p6 h,(lC.1 hB).1,(lC.1 hB).2⟩
theorem yq (hE : aH P M mod m L=0) {Q : Lz} (hQ : bG m Q=true) (hB : yp (aa P M.toNat mod).ops L Q=true) {y : Lz} (hy : Vc (aa P M.toNat mod).El m y) (hr : RS (aa P M.toNat mod).ops (aa P M.toNat mod).El m L (λi=>nth y i)) :
  y=bK (aa P M.toNat mod).ops m (aO Q y) (ew (aa P M.toNat mod).ops m L Q) L.length:=by
 obtain ⟨N',e,hm1,hm64,F,hR⟩:=aS hE;obtain rfl : m=N':=by omega
 obtain ⟨hI,hl,hg⟩:=mz hQ hB;obtain ⟨s1,s2,_,s4⟩:=oM hE hI hl hg;have hcan : dX (aa P M.toNat mod).ops m (ew (aa P M.toNat mod).ops m L Q)=L:=s4;have hsub:=(gd F s1).1;rw [hcan] at hsub;obtain ⟨v,hv,h2⟩:=RS.LB F s1 (hsub.rs hr);rw [s2] at hv h2;obtain ⟨w1,_,w3⟩:=vF hE hI hl hg (v:=v) hv.1 λk hk=>hv.at hk;have h3 : y=bK (aa P M.toNat mod).ops m v (ew (aa P M.toNat mod).ops m L Q) L.length:=fR (by rw [hy.1,w1.1]) λi hi=>h2 i (by rw [<- hy.1];exact hi);have h4 : aO Q y=v:=by rw [h3];exact w3
 rw [h4];exact h3
theorem E3 {Q y : Lz} (h : ∀z ∈ y,z=0) : cw (aO Q y)=0:=by
 refine gQ.2 λz hz=>?_;unfold aO at hz;obtain ⟨q,_,rfl⟩:=List.mem_map.1 hz;by_cases hq : q.toNat<y.length
 ·rw [aj hq];exact h _ (MM hq)
 ·unfold nth;rw [Mk,Nf (by omega)];rfl
theorem tQ (O : aJ) (m : Nat) {c : Lz} {G : ZZ} (h : ∀y ∈ c,y=0) : ∀k,k<=c.length->bK O m c G k=List.replicate m 0
 | 0,_=>rfl
 | k+1,hk=>by rw [bK,Mg (h _ (aN (by omega))),tQ O m h k (by omega)]
theorem zr {m : Nat} : ∀z ∈ List.replicate m (0 : Int),z=0:=λz hz=>(List.mem_replicate.1 hz).2
theorem C3 (hE : aH P M mod m L=0) {Q : Lz} (hQ : bG m Q=true) (hB : yp (aa P M.toNat mod).ops L Q=true) {y : Lz} (h : CW P M mod m L y) : cw (aO Q y) ≠ 0:=λh0=>by obtain ⟨hI,hl,hg⟩:=mz hQ hB;have h1:=yq hE hQ hB h.1 h.2.1;rw [tQ _ _ (gQ.1 h0) _ (by simp [aO,hl])] at h1;exact h.2.2 (by rw [h1];exact gQ.2 zr)
theorem JK {q : Nat} {b : Int} (h : b ∈ dY q) : 0<=b/\b<q:=by have:=oP.1 h;omega
theorem rW (hE : aH P M mod m L=0) {Q : Lz} (hQ : bG m Q=true) (hB : yp (aa P M.toNat mod).ops L Q=true) {l : Nat} {y : Lz} :
  y ∈ lL (aa P M.toNat mod).ops (dY (aa P M.toNat mod).q) [1] (l+1) (ew (aa P M.toNat mod).ops m L Q) (List.replicate m 0) ↔ CW P M mod m L y/\cw (aO Q y)=l+1/\nth (aO Q y) (gJ (aO Q y))=1:=by
 obtain ⟨N',e,hm1,hm64,F,hR⟩:=aS hE;obtain rfl : m=N':=by omega
 obtain ⟨hI,hl,hg⟩:=mz hQ hB;obtain ⟨s1,s2,_,s4⟩:=oM hE hI hl hg;have hcan : dX (aa P M.toNat mod).ops m (ew (aa P M.toNat mod).ops m L Q)=L:=s4;have hsub:=(gd F s1).2;rw [hcan] at hsub;have hpl : ∀y,(aO Q y).length=L.length:=λy=>by simp [aO,hl]
 rw [lL,rS _ (by simp) l (yw _ (λa ha=>by have:=oP.1 ha;omega) l)];constructor
 ·rintro ⟨c,h1,h2,h3,h4⟩;rw [s2] at h1;have hc0 : cw c ≠ 0:=by omega
  obtain ⟨f1,f2⟩:=(sq hc0).1 h3;have hel : ∀k,k<L.length->(aa P M.toNat mod).El (nth c k):=λk hk=>by
   by_cases e0 : nth c k=0
   ·rw [e0];exact F.zero
   ·by_cases e1 : k<gJ c
    ·exact absurd (lT c k e1) e0
    ·by_cases e2 : k=gJ c
     ·rw [e2,f1];exact F.one
     ·exact JK (f2 k (by omega) (by omega) e0)
  obtain ⟨w1,_,w3⟩:=vF hE hI hl hg (v:=c) h1 hel;have hy : y=bK (aa P M.toNat mod).ops m c (ew (aa P M.toNat mod).ops m L Q) L.length:=by have h5:=nA (O:=(aa P M.toNat mod).ops) (m:=m) (v:=c) (L:=ew (aa P M.toNat mod).ops m L Q) (by rw [s2];exact h1) L.length 0 (by rw [s2];omega);rw [h4,<- s2,<- h5];rfl
  rw [<- hy] at w1 w3;refine ⟨⟨w1,?_,λh0=>?_⟩,by rw [w3];exact h2,by rw [w3];exact f1⟩
  ·have:=(gH F s1 (x:=c) (by rw [s2];exact hel) L.length (by rw [s2];exact Mf _)).2;rw [<- hy] at this;exact hsub.rs this
  ·have h6:=E3 (Q:=Q) (gQ.1 h0);rw [w3] at h6;omega
 ·rintro ⟨hy,h2,h3⟩;have h1:=yq hE hQ hB hy.1 hy.2.1;obtain ⟨c,hc⟩ : ∃c,aO Q y=c:=⟨_,rfl⟩
  have hcl : c.length=L.length:=by rw [<- hc];exact hpl y
  rw [hc] at h1 h2 h3;refine ⟨c,by rw [s2];exact hcl,h2,(sq (by omega)).2 ⟨h3,λj _ hj hj0=>?_⟩,?_⟩
  ·have h7 : nth c j=nth y (nth Q j).toNat:=by rw [<- hc];exact ed Q y (by omega)
   have h8:=hI j (by omega);have h9 : (aa P M.toNat mod).El (nth c j):=by rw [h7];exact hy.1.at (by omega)
   exact oP.2 ⟨by have:=h9.1;omega,h9.2⟩
  ·have h5:=nA (O:=(aa P M.toNat mod).ops) (m:=m) (v:=c) (L:=ew (aa P M.toNat mod).ops m L Q) (by rw [s2];exact hcl) L.length 0 (by rw [s2];omega);rw [h1,<- s2,<- h5];rfl
theorem CW.yy (hE : aH P M mod m L=0) {y : Lz} (h : CW P M mod m L y) {s : Int} (hs : (aa P M.toNat mod).El s) (h0 : s ≠ 0) : CW P M mod m L (y.map ((aa P M.toNat mod).ops.mul s)):=by
 obtain ⟨N',e,hm1,hm64,F,hR⟩:=aS hE;obtain rfl : m=N':=by omega
 refine ⟨h.1.yy F hs,(h.2.1.smul F hs).congr λx hx=>fZ _ _ _ (by rw [h.1.1];exact hx),?_⟩;rw [qZ F hs h0 h.1.2];exact h.2.2
theorem CW.L6 (hE : aH P M mod m L=0) {y : Lz} (h : CW P M mod m L y) : CW P M mod m L (gv (aa P M.toNat mod).ops y):=by
 obtain ⟨N',e,hm1,hm64,F,hR⟩:=aS hE;obtain rfl : m=N':=by omega
 obtain ⟨h1,h2⟩:=kF h.1 h.2.2;obtain ⟨h3,h4⟩:=l7 F h1 h2;exact h.yy hE h3 h4
theorem Ae {O : aJ} {Q y : Lz} (hI : qW y.length Q) (s : Int) : aO Q (y.map (O.mul s))=(aO Q y).map (O.mul s):=by unfold aO;rw [N3];refine M7 λq hq=>?_;obtain ⟨j,hj,rfl⟩:=List.mem_iff_getElem.1 hq;have h:=hI j hj;rw [aj hj] at h;exact fZ O y s (by omega)
theorem Eu (hE : aH P M mod m L=0) {Q : Lz} (hQ : bG m Q=true) (hB : yp (aa P M.toNat mod).ops L Q=true) {l : Nat} {x : Lz} (hx : CW P M mod m L x) (hl : cw (aO Q x)=l+1) :
  ∃y ∈ lL (aa P M.toNat mod).ops (dY (aa P M.toNat mod).q) [1] (l+1) (ew (aa P M.toNat mod).ops m L Q) (List.replicate m 0),gv (aa P M.toNat mod).ops y=gv (aa P M.toNat mod).ops x:=by
 obtain ⟨N',e,hm1,hm64,F,hR⟩:=aS hE;obtain rfl : m=N':=by omega
 obtain ⟨hI,hql,hg⟩:=mz hQ hB;have hc : Vc (aa P M.toNat mod).El Q.length (aO Q x):=⟨by simp [aO],λz hz=>by
  obtain ⟨j,hj,rfl⟩:=List.mem_iff_getElem.1 hz;have hj2 : j<Q.length:=by simpa [aO] using hj
  have h8:=hI j hj2;rw [<- aj hj,ed Q x hj2];exact hx.1.at (by omega)⟩
 have hc0 : cw (aO Q x) ≠ 0:=by omega
 obtain ⟨h1,h2⟩:=kF hc hc0;obtain ⟨h3,h4⟩:=l7 F h1 h2;refine ⟨x.map ((aa P M.toNat mod).ops.mul ((aa P M.toNat mod).ops.inv (nth (aO Q x) (gJ (aO Q x))))),(rW hE hQ hB).2 ⟨hx.yy hE h3 h4,?_,?_⟩,yX F h3 h4 hx.1 hx.2.2⟩
 ·rw [Ae (by rw [hx.1.1];exact hI),qZ F h3 h4 hc.2];exact hl
 ·rw [Ae (by rw [hx.1.1];exact hI)];exact BH F hc hc0
theorem vz {α β γ : Type} (f : γ->β->γ) (g : α->List β) : ∀(l : List α) (b : γ),l.foldl (λb a=>(g a).foldl f b) b=(l.flatMap g).foldl f b
 | [],_=>rfl
 | a :: l,b=>by rw [PY,vz f g l,PB,Qy]
def kS (P M : Int) (mod : Lz) (m : Nat) (L : ZZ) : List ZZ:=(gN (aa P M.toNat mod).ops L m).map λt=>ew (aa P M.toNat mod).ops m L t.1
theorem xL (hE : aH P M mod m L=0) (hk : 1<=L.length) : gN (aa P M.toNat mod).ops L m ≠ []:=λh=>by
 obtain ⟨N',e,hm1,hm64,F,hR⟩:=aS hE;obtain rfl : m=N':=by omega
 have h1:=(gB hE).1;rw [h] at h1;have h6:=(dK (bL hE).2.2.2).2;rw [Mm] at h6;have hcan : dX (aa P M.toNat mod).ops m L=L:=h6;obtain ⟨hPv,_⟩:=db F hR;have hcl:=bY F hR;rw [hcan] at hPv hcl;have h2:=hPv.one 0 0 (by omega) (by omega);have h3:=hPv.lt 0 (by omega);rw [Mg rfl,h1 _ (by omega) (by simp) 0 (by omega)] at h2;exact absurd h2 (by decide)
theorem FA (hE : aH P M mod m L=0) (l : Nat) (b : Lz) :
  (pH (aa P M.toNat mod).ops (aa P M.toNat mod).q m (l+1) (kS P M mod m L) b=b\/∃y,CW P M mod m L y/\pH (aa P M.toNat mod).ops (aa P M.toNat mod).q m (l+1) (kS P M mod m L) b=gv (aa P M.toNat mod).ops y) /\
  (∀x,CW P M mod m L x->(∃t ∈ gN (aa P M.toNat mod).ops L m,cw (aO t.1 x)=l+1)->qy (pH (aa P M.toNat mod).ops (aa P M.toNat mod).q m (l+1) (kS P M mod m L) b) (gv (aa P M.toNat mod).ops x)) /\
  (cw b ≠ 0->qy (pH (aa P M.toNat mod).ops (aa P M.toNat mod).q m (l+1) (kS P M mod m L) b) b) /\
  (l+1<=L.length->cw (pH (aa P M.toNat mod).ops (aa P M.toNat mod).q m (l+1) (kS P M mod m L) b) ≠ 0):=by
 obtain ⟨N',e,hm1,hm64,F,hR⟩:=aS hE;obtain rfl : m=N':=by omega
 have hall:=λt ht=>fS (gB hE).1 t ht;unfold pH;rw [vz];have hin : ∀y,y ∈ (kS P M mod m L).flatMap (λG=>lL (aa P M.toNat mod).ops (dY (aa P M.toNat mod).q) [1] (l+1) G (List.replicate m 0)) ↔
   ∃t ∈ gN (aa P M.toNat mod).ops L m,CW P M mod m L y/\cw (aO t.1 y)=l+1/\nth (aO t.1 y) (gJ (aO t.1 y))=1:=λy=>by
  rw [Ox];constructor
  ·rintro ⟨G,hG,hy⟩;obtain ⟨t,ht,rfl⟩:=List.mem_map.1 hG;exact ⟨t,ht,(rW hE (hall t ht).1 (hall t ht).2.1).1 hy⟩
  ·rintro ⟨t,ht,h⟩;exact ⟨_,List.mem_map.2 ⟨t,ht,rfl⟩,(rW hE (hall t ht).1 (hall t ht).2.1).2 h⟩
 obtain ⟨a1,a2,a3,a4⟩:=vG F (m:=m) ((kS P M mod m L).flatMap λG=>lL (aa P M.toNat mod).ops (dY (aa P M.toNat mod).q) [1] (l+1) G (List.replicate m 0)) b λy hy=>by obtain ⟨t,_,h,_⟩:=(hin y).1 hy;exact ⟨h.1,h.2.2⟩
 refine ⟨?_,?_,a3,λhlk=>a4 (.inl ?_)⟩
 ·rcases a1 with h | ⟨y,hy,h⟩
  ·exact .inl h
  ·obtain ⟨t,_,h2,_⟩:=(hin y).1 hy;exact .inr ⟨y,h2,h⟩
 ·rintro x hx ⟨t,ht,h⟩;obtain ⟨y,hy,h2⟩:=Eu hE (hall t ht).1 (hall t ht).2.1 hx h;rw [<- h2];exact a2 y (List.mem_flatMap.2 ⟨_,List.mem_map.2 ⟨t,ht,rfl⟩,hy⟩)
 ·intro hnil;obtain ⟨t,ht⟩:=Pt _ (xL hE (by omega));rw [PK] at hnil;have h2:=hnil _ (List.mem_map.2 ⟨t,ht,rfl⟩);obtain ⟨hI,hql,hg⟩:=mz (hall t ht).1 (hall t ht).2.1;have h3:=th (aa P M.toNat mod).ops (dY (aa P M.toNat mod).q) 1 l (ew (aa P M.toNat mod).ops m L t.1) (List.replicate m 0);rw [h2,(oM hE hI hql hg).2.1,l9] at h3;have h4:=oc L.length (l+1) hlk;have hq : 1<=(aa P M.toNat mod).q - 1:=by have h5 : (1 : Int)<(aa P M.toNat mod).q:=F.one.2;omega
  have h6 : 0<dN L.length (l+1) * ((aa P M.toNat mod).q - 1) ^ l:=Nat.mul_pos h4 (Qe hq);simp at h3;omega
def yL (P M : Int) (mod : Lz) (m : Nat) (L : ZZ) (r : Lz) : Prop :=
 ∀x,CW P M mod m L x->((∃t ∈ gN (aa P M.toNat mod).ops L m,(cw (aO t.1 x) : Int)<=nth r 0)->nth r 2<=cw x)/\((∀t ∈ gN (aa P M.toNat mod).ops L m,nth r 0<(cw (aO t.1 x) : Int))->nth r 3<=cw x)
def nK (P M : Int) (mod : Lz) (m : Nat) (L : ZZ) (b : Lz) : Prop:=CW P M mod m L b/\gv (aa P M.toNat mod).ops b=b
theorem F2 (hE : aH P M mod m L=0) (hk : 1<=L.length) (hk64 : L.length<=64) : ∀(f w : Nat) (b : Lz) (n : Nat) (o : ZZ),w+1+f=L.length+1->((w=0/\b=[])\/nK P M mod m L b) ->
  (∀x,CW P M mod m L x->(∃t ∈ gN (aa P M.toNat mod).ops L m,cw (aO t.1 x)<=w)->qy b (gv (aa P M.toNat mod).ops x))->(∀r ∈ o,yL P M mod m L r) ->
  ∀ {o2 : ZZ} {b2 : Lz} {e : Int},DP (aa P M.toNat mod).ops (aa P M.toNat mod).q m L.length (kS P M mod m L) ((gN (aa P M.toNat mod).ops L m).map (·.2)) f (w+1) b n o=(o2,b2,e) ->
  (e=8/\o2=[]/\b2=[])\/(e=0/\nK P M mod m L b2/\(∀x,CW P M mod m L x->qy b2 (gv (aa P M.toNat mod).ops x))/\(∀r ∈ o2,yL P M mod m L r)/\o.length+(if f=0 then 0 else 1)<=o2.length)
 | 0,w,b,n,o,hw,hb,hs,ho,o2,b2,e,h=>by
  rw [DP] at h;obtain ⟨rfl,rfl,rfl⟩ : o=o2/\b=b2/\0=e:=by simpa using h
  refine .inr ⟨rfl,hb.resolve_left (λh=>by omega),λx hx=>hs x hx ?_,ho,by simp⟩;obtain ⟨t,ht⟩:=Pt _ (xL hE hk);refine ⟨t,ht,?_⟩;have h1 : cw (aO t.1 x)<=(aO t.1 x).length:=Ol;have h2:=(lC.1 (fS (gB hE).1 t ht).2.1).1;rw [show (aO t.1 x).length=t.1.length by simp [aO]] at h1;omega
 | f+1,w,b,n,o,hw,hb,hs,ho,o2,b2,e,h=>by
  obtain ⟨N',e0,hm1,hm64,F,hR⟩:=aS hE;obtain rfl : m=N':=by omega
  obtain ⟨a1,a2,a3,a4⟩:=FA hE w b;have a4:=a4 (by omega);rw [DP] at h;by_cases hm : mX (aa P M.toNat mod).q L.length (kS P M mod m L).length n (w+1)=true;rotate_left
  ·rw [Mh hm] at h;obtain ⟨rfl,rfl,rfl⟩ : []=o2/\[]=b2/\8=e:=by simpa using h
   exact .inl ⟨rfl,rfl,rfl⟩
  rw [Mg hm] at h;clear hm;obtain ⟨B,hB⟩ : ∃B,pH (aa P M.toNat mod).ops (aa P M.toNat mod).q m (w+1) (kS P M mod m L) b=B:=⟨_,rfl⟩
  obtain ⟨fl,hfl⟩ : ∃fl,fU (L.length : Int) ((w+1 : Nat) : Int) ((gN (aa P M.toNat mod).ops L m).map (·.2)) ((gN (aa P M.toNat mod).ops L m).map (·.2)).length=fl:=⟨_,rfl⟩
  rw [hB,hfl] at h;rw [hB] at a1 a2 a3 a4;have hBk : nK P M mod m L B:=by
   rcases a1 with h1 | ⟨y,hy,h1⟩
   ·rcases hb with hb | hb
    ·rw [h1,hb.2] at a4;exact absurd C6 a4
    ·rw [h1];exact hb
   ·rw [h1];exact ⟨hy.L6 hE,DV F hy.1 hy.2.2⟩
  have hseen : ∀x,CW P M mod m L x->(∃t ∈ gN (aa P M.toNat mod).ops L m,cw (aO t.1 x)<=w+1)->qy B (gv (aa P M.toNat mod).ops x):=by
   rintro x hx ⟨t,ht,hle⟩;by_cases e1 : cw (aO t.1 x)=w+1
   ·exact a2 x hx ⟨t,ht,e1⟩
   ·have hc:=C3 hE (fS (gB hE).1 t ht).1 (fS (gB hE).1 t ht).2.1 hx;rcases hb with hb | hb
    ·omega
    ·exact (a3 hb.1.2.2).trans (hs x hx ⟨t,ht,by omega⟩)
  have hfloor : ∀x,CW P M mod m L x->(∀t ∈ gN (aa P M.toNat mod).ops L m,((w+1 : Nat) : Int)<(cw (aO t.1 x) : Int))->fl<=cw x:=λx hx hu=>by
   obtain ⟨f',h1,h2⟩:=EU hE hx.1.1 (v:=((w+1 : Nat) : Int)) (by omega) hk64 hu;unfold CG at h1;split at h1
   ·rw [hfl] at h1;obtain ⟨rfl,_⟩ : fl=f'/\True:=by simpa using h1
    exact h2
   ·simp at h1
  have hro : ∀r ∈ o ++ [[((w+1 : Nat) : Int),((n+su (aa P M.toNat mod).q L.length (kS P M mod m L).length (w+1) : Nat) : Int),(cw B : Int),fl]],yL P M mod m L r:=λr hr=>by
   rcases List.mem_append.1 hr with hr | hr
   ·exact ho r hr
   ·rw [List.mem_singleton.1 hr];intro x hx;refine ⟨?_,λhu=>hfloor x hx hu⟩;rintro ⟨t,ht,hle⟩;have hle2 : (cw (aO t.1 x) : Int)<=((w+1 : Nat) : Int):=hle;have h1:=(hseen x hx ⟨t,ht,by omega⟩).wt;rw [rp F hx.1 hx.2.2] at h1;show (cw B : Int)<=cw x;omega
  by_cases hst : fl > (cw B : Int)
  ·rw [Mg hst] at h;simp only [Prod.mk.injEq] at h;obtain ⟨rfl,rfl,rfl⟩:=h;refine .inr ⟨rfl,hBk,λx hx=>?_,hro,by simp⟩;by_cases hx2 : ∃t ∈ gN (aa P M.toNat mod).ops L m,cw (aO t.1 x)<=w+1
   ·exact hseen x hx hx2
   ·have h1:=hfloor x hx λt ht=>by have : ¬ cw (aO t.1 x)<=w+1:=λh2=>hx2 ⟨t,ht,h2⟩;omega
    left;rw [rp F hx.1 hx.2.2];omega
  ·rw [Mh hst] at h;rcases F2 hE hk hk64 f (w+1) B _ _ (by omega) (.inr hBk) hseen hro h with h1 | ⟨h1,h2,h3,h4,h5⟩
   ·exact .inl h1
   ·refine .inr ⟨h1,h2,h3,h4,?_⟩;rw [Mp,Mz] at h5;split at h5 <;> simp <;> omega
end
theorem cA.below {w w' : World} {B : Nat} {a : OA} {n : Nat} {l : Lz} (h : cA B w a n l) (hb : Rs w w') : cA B w' a n l:=⟨h.ints.ah hb,h.lo⟩
theorem oG.ah {F : Nat->Prop} {w w' : World} {a : OA} {n : Nat} {l : Lz} (h : oG F w a n l) (hb : Rs w w') : oG F w' a n l:=⟨h.ints.ah hb,h.lo⟩
theorem wE.ah {F : Nat->Prop} {w w' : World} {g b : Nat} {P M : Int} {am : OA} {mn cm : Nat} {N : Int} {a : OA} {n c : Nat} {ag : OA} {ng cg : Nat} {ab : OA} {cb : Nat} {B : Lz} {k : Nat} (h : wE F w g b P M am mn cm N a n c ag ng cg ab cb B k) (hb : Rs w w') : wE F w' g b P M am mn cm N a n c ag ng cg ab cb B k :=
 ⟨h.box.ah hb,h.best.ah hb⟩
def xO (F : Nat->Prop) (w0 : World) (g b : Nat) (G : cJ) (P M : Int) (am : OA) (mn cm : Nat) (N : Int) (a : OA) (n c : Nat) (ag : OA) (ng cg : Nat) (m : Nat) (ar : OA) (nr cr : Nat) (R : ZZ) (l : Nat) : Prop :=
 ∀(w : World) (ab : OA) (cb : Nat) (B : Lz) (k : Nat) (av : OA) (cv : Nat) (v : Lz) (fs : Nat) (al : Bool),(∀x,F x->x<w.heap.size)->Rs w0 w->wE F w g b P M am mn cm N a n c ag ng cg ab cb B k->bX (g+1) w ar nr R->cA (g+1) w av m v->G.Ei v->fs<=nr ->
  k+(lL G.ops (dY G.q) (if al=true then [1] else dY G.q) l (R.drop fs) v).length<=1000000 ->
  Calls prog 101 #[.pointer (some ⟨g,0,none⟩),.slice ar nr cr,.slice av m cv,.int .i64 fs,.int .i64 l,.bool al] w λe w'=>e = .returned (.tuple #[])/\∃ab' cb',
   wE F w' g b P M am mn cm N a n c ag ng cg ab' cb' ((lL G.ops (dY G.q) (if al=true then [1] else dY G.q) l (R.drop fs) v).foldl (di G.ops) B) (k+(lL G.ops (dY G.q) (if al=true then [1] else dY G.q) l (R.drop fs) v).length)/\aw w w' (One g) (One g)
theorem Ey {w0 : World} {b g : Nat} {G : cJ} {P M : Int} {am : OA} {mn cm : Nat} {N : Int} {a : OA} {n c : Nat} {ag : OA} {ng cg : Nat} {m : Nat} {ar : OA} {nr cr : Nat} {R : ZZ}
  {F : Nat->Prop} (hF : F g) (h : dW w0 b G) (hg : w0.heap.size<=g) (hm : m<=1000000) : xO F w0 g b G P M am mn cm N a n c ag ng cg m ar nr cr R 0:=by
 intro w ab cb B k av cv v fs al hFl hb hs hR hv hve hfs hk;have hk1 : k+1<=1000000:=by cases al <;> exact hk
 have hlk:=Gl av m cv v hF hFl h hb hg hs hv hve hm (by omega);refine Calls.mono (R:=λe w'=>e = .returned (.tuple #[])/\∃ab' cb',wE F w' g b P M am mn cm N a n c ag ng cg ab' cb' (di G.ops B v) (k+1)/\aw w w' (One g) (One g)) ?_ (λe w' h=>h);clear hk;go_enter func101,ntmps101;go_wp2_with fail;refine hlk.mono ?_;rintro e w' ⟨rfl,h1⟩;go_wp2_with fail;(try simp only [Exit.inBlock,Exit.then])
 refine bodyPost_ret (results_none rfl _ _ _) rfl ?_;exact ⟨rfl,h1⟩
theorem D0 {w0 : World} {b g : Nat} {G : cJ} {P M : Int} {am : OA} {mn cm : Nat} {N : Int} {a : OA} {n c : Nat} {ag : OA} {ng cg : Nat} {m : Nat} {ar : OA} {nr cr : Nat} {R : ZZ}
  {F : Nat->Prop} (hF : F g) (h : dW w0 b G) (hg : w0.heap.size<=g) (hm : m<=64) (hm1 : 1<=m) (hRw : bx G.El m R) (hR64 : nr<=64) (l : Nat) (hl64 : l<=64) (IH : xO F w0 g b G P M am mn cm N a n c ag ng cg m ar nr cr R l) : xO F w0 g b G P M am mn cm N a n c ag ng cg m ar nr cr R (l+1):=by
 intro w ab cb B k av cv v fs al hFl hb hs hR hv hve hfs hk;have hops:=Q6 h;have hq2 : 2<=G.q:=h.q2;have hq256 : G.q<=256:=h.q256;have hvl : v.length=m:=hv.ints.len;have hRl : R.length=nr:=hR.len;have Hops:=Z5 hops;have Hve:=Z5 hve;have Hvl:=Z5 hvl;have HRl:=Z5 hRl;have HRw:=Z5 hRw;have HIH:=Z5 IH;have HF0:=Z5 (My hF hFl);have HSW:=Z5 (My hs (My hR (My hv hb)));have Hh:=Z5 h;have Hg:=Z5 hg;obtain ⟨c0,hc0⟩ : ∃c0,(if al=true then [1] else dY G.q)=c0:=⟨_,rfl⟩
 rw [hc0] at hk ⊢;have Hc0:=Z5 hc0;rw [lL] at hk ⊢;obtain ⟨FB,hFB⟩ : ∃FB,(lK G.ops (iF G.ops (dY G.q) l) c0 (R.drop fs) v).foldl (di G.ops) B=FB:=⟨_,rfl⟩
 obtain ⟨FK,hFK⟩ : ∃FK,k+(lK G.ops (iF G.ops (dY G.q) l) c0 (R.drop fs) v).length=FK:=⟨_,rfl⟩
 rw [hFB,hFK];rw [hFK] at hk;have HS : Hid (∀V,aw w V (One g) (One g)->bX (g+1) V ar nr R/\cA (g+1) V av m v/\Rs w0 V):=λV hV=>⟨HSW.out.2.1.cQ hV λx hx=>by rw [show x=g from hx];omega,HSW.out.2.2.1.cQ hV,HSW.out.2.2.2.trans (hV.below (λx hx=>by rw [show x=g from hx];exact Hg.out) HSW.out.2.2.2.size)⟩
 have HFB:=Z5 hFB;have HFK:=Z5 hFK;have hplR:=hR.pl;obtain ⟨LL,hLL⟩ : ∃LL : Int,((l+1 : Nat) : Int)=LL:=⟨_,rfl⟩
 have hL1 : LL - 1=(l : Int):=by omega
 have el0 : (LL == 0)=false:=by simp;omega
 rw [hLL];have HLL:=Z5 hLL;clear h hg hb hR hv hve hops hvl hRl hRw IH hc0 hFB hFK;go_enter func101,ntmps101;go_wp2_with fail;go_loopw [12] (λiv wr=>∃(i : Nat) (ab' : OA) (cb' : Nat) (B' : Lz) (k' : Nat),i<=nr/\iv = .int .i64 i/\Hid (wE F wr g b P M am mn cm N a n c ag ng cg ab' cb' B' k')/\aw w wr (One g) (One g) /\
   Hid ((lK G.ops (iF G.ops (dY G.q) l) c0 (R.drop i) v).foldl (di G.ops) B'=FB)/\Hid (k'+(lK G.ops (iF G.ops (dY G.q) l) c0 (R.drop i) v).length=FK)) (λiv _=>nr - (intOf iv).toNat)
 case atStart=>exact ⟨fs,ab,cb,B,k,hfs,rfl,hs,QY _ _,HFB.out,HFK.out⟩
 case round =>
  clear hs HFB HFK
  obtain ⟨i,ab',cb',B',k',hi,rfl,hsea,hmv,hfb,hfk⟩:=hrel
  generalize wr=X at *
  by_cases hlt : i+l+1<=nr
  ·have d1 : decide ((i : Int)+LL<=(nr : Int))=true:=by simp;omega
   have hiR : i<R.length:=by rw [HRl.out];omega
   have Hdrop : Hid (R.drop i=ai R i :: R.drop (i+1)):=uu R hiR
   have hRiE:=HRw.out.row hiR
   obtain ⟨Ri,hRi⟩ : ∃Ri,ai R i=Ri:=⟨_,rfl⟩
   rw [hRi] at Hdrop hRiE
   have HRi:=Z5 hRi
   have HRiE:=Z5 hRiE
   obtain ⟨T,hT⟩ : ∃T,lK G.ops (iF G.ops (dY G.q) l) c0 (R.drop (i+1)) v=T:=⟨_,rfl⟩
   have HT:=Z5 hT
   have hfb2 : Hid (((c0.drop 0).flatMap (λx=>iF G.ops (dY G.q) l (R.drop (i+1)) (kd G.ops v x Ri)) ++ T).foldl (di G.ops) B'=FB):=by have h1:=hfb.out;rw [Hdrop.out,lK,HT.out] at h1;exact h1
   have hfk2 : Hid (k'+((c0.drop 0).flatMap (λx=>iF G.ops (dY G.q) l (R.drop (i+1)) (kd G.ops v x Ri)) ++ T).length=FK):=by have h1:=hfk.out;rw [Hdrop.out,lK,HT.out] at h1;exact h1
   clear hfb hfk hT hRi hRiE hiR
   go_wp2_with fail
   go_loopw [13] (λiv wr=>∃(t : Nat) (ab' : OA) (cb' : Nat) (B' : Lz) (k' : Nat),t+1<=G.q/\(al=true->t=0)/\iv = .int .i64 ((t : Int)+1)/\Hid (wE F wr g b P M am mn cm N a n c ag ng cg ab' cb' B' k')/\aw w wr (One g) (One g) /\
     Hid (((c0.drop t).flatMap (λx=>iF G.ops (dY G.q) l (R.drop (i+1)) (kd G.ops v x Ri)) ++ T).foldl (di G.ops) B'=FB)/\Hid (k'+((c0.drop t).flatMap (λx=>iF G.ops (dY G.q) l (R.drop (i+1)) (kd G.ops v x Ri)) ++ T).length=FK)) (λiv _=>G.q+1 - (intOf iv).toNat)
   case atStart=>exact ⟨0,ab',cb',B',k',by omega,λ_=>rfl,rfl,hsea,hmv,hfb2,hfk2⟩
   case round =>
    clear hsea hmv hfb2 hfk2
    clear ab' cb' B' k'
    obtain ⟨t,ab',cb',B',k',ht,hal,rfl,hsea,hmv,hfb,hfk⟩:=hrel
    generalize wr=X1 at *
    obtain ⟨hR1,hv1,hb1⟩:=HS.out X1 hmv
    have hG1:=Hh.out.ah hb1
    have cg0:=hsea.out.box.cell 0 rfl
    by_cases hlq : t+1<G.q
    ·have d2 : decide ((t : Int)+1<(G.q : Int))=true:=by simp;omega
     have hdt : c0.drop t=((t : Int)+1) :: c0.drop (t+1):=by
      rw [<- Hc0.out];by_cases e : al=true
      ·rw [Mg e,hal e];rfl
      ·rw [Mh e];exact Ex (by omega)
     obtain ⟨rb,rm,rc,hcR,hrow⟩:=hR1.cell i (by omega)
     have hrm : rm=m:=by rw [<- hrow.ints.len,HRi.out];exact HRiE.out.1
     rw [hrm,HRi.out] at hrow
     rw [hrm] at hcR
     have Hrow:=Z5 hrow
     have Hv1:=Z5 hv1
     have HR1:=Z5 hR1
     have Hb1:=Z5 hb1
     have HG1:=Z5 hG1
     obtain ⟨A,hA⟩ : ∃A : Int,(t : Int)+1=A:=⟨_,rfl⟩
     have hA1 : 1<=A:=by omega
     have hAq : A<G.q:=by omega
     have hAE : G.El A:=⟨by omega,hAq⟩
     have HA:=Z5 hA
     rw [hA] at hdt d2 ⊢
     have Hdt:=Z5 hdt
     clear hA hrm hdt hrow hv1 hR1 hb1
     go_wp2_with fail
     refine (BP HG1.out).mono ?_
     rintro e w' ⟨rfl,rfl⟩
     go_wp2_with fail
     refine (eo av m cv v Hv1.out.ints (by omega)).mono ?_
     rintro e w4 ⟨a4,c4,rfl,ho4,hb4⟩
     have r4:=aA hb4 hcR
     have hin : (i : Int)<(nr : Int):=by omega
     have hin2 : i<nr:=by omega
     rw [Hvl.out] at ho4 ⊢
     go_wp2_with fail
     have hRil:=HRiE.out.1
     have hNl:=mb G.ops v A Ri (by rw [hRil,Hvl.out])
     have hNe:=IX Hops.out Hve.out HRiE.out.2 hAE (by rw [hRil,Hvl.out])
     have hNth : ∀j,j<m->nth (kd G.ops v A Ri) j=if nth Ri j=0 then nth v j else G.add (nth v j) (G.mul A (nth Ri j)):=λj hj =>
      zV G.ops v A Ri j (by rw [hRil,Hvl.out]) (by rw [Hvl.out];exact hj) (by omega)
     rw [Hvl.out] at hNl
     obtain ⟨Nw,hNw⟩ : ∃Nw,kd G.ops v A Ri=Nw:=⟨_,rfl⟩
     rw [hNw] at hNl hNe hNth
     have HNl:=Z5 hNl
     have HNe:=Z5 hNe
     have HNth:=Z5 hNth
     have HNw:=Z5 hNw
     have hX1l : g<X1.heap.size:=hsea.out.box.1
     clear hNl hNe hNth hNw hRil hcR r4 hG1 cg0 d2
     go_loopw [47] (λiv wr=>∃kk : Nat,kk<=m/\iv = .int .i64 kk/\wr.ownsRow X1.heap.size 3 1 (.slice a4 m c4) m ((fA Nw v kk).map (Value.int .i64))/\Rs X1 wr) (λiv _=>m - (intOf iv).toNat)
     case atStart=>exact ⟨0,Mj _,rfl,by rw [eU];exact ho4,hb4⟩
     case round =>
      clear ho4 hb4
      obtain ⟨kk,hkk,rfl,hown,hbr⟩:=hrel
      generalize wr=Y at *
      have hseaY:=hsea.out.ah hbr
      by_cases hlk : kk<m
      ·have hir:=Hrow.out.ints.ah hbr
       have hpr:=hir.pl
       have cir:=hir.cell kk hlk
       have hkN : Nw.length=v.length:=by rw [HNl.out,Hvl.out]
       have hval:=HNth.out kk hlk
       have hmix:=eO Nw v kk kk hkN (by rw [Hvl.out];omega)
       rw [Mh (by omega)] at hmix
       by_cases hz : nth Ri kk=0
       ·rw [Mg hz] at hval
        have hsame:=sT Nw v kk hkN (by rw [Hvl.out];exact hlk) hval
        have Hsame:=Z5 hsame
        have hz2 : (nth Ri kk != 0)=false:=by simpa using hz
        clear hval hmix hsame hkN hz
        go_wp2_with fail
        go_roundw
        case rel=>exact ⟨kk+1,by omega,by go_num,by rw [Hsame.out];exact hown,hbr⟩
        case measure=>simp [intOf] <;> omega
       ·rw [Mh hz] at hval
        have hset:=eH Nw v kk hkN (by rw [Hvl.out];exact hlk)
        rw [hval] at hset
        have Hset:=Z5 hset
        obtain ⟨hiv,hmv2⟩:=QR hown
        have hpv:=hiv.pl
        have cv1:=hiv.cell kk hlk
        have fv1:=(hmv2 (by omega)).2 kk hlk
        rw [hmix] at cv1
        have elv : G.El (nth v kk):=Hve.out _ (aN (by rw [Hvl.out];exact hlk))
        have elr : G.El (nth Ri kk):=HRiE.out.2 _ (aN (by rw [HRiE.out.1];exact hlk))
        have cgr:=hseaY.box.cell 0 rfl
        have hGr:=HG1.out.ah hbr
        have elm : ∀x y,G.El (G.mul x y):=λx y=>Rc hGr x y
        have HG : Hid (dW Y.drew b G/\∀n,dW (Y.drewN n) b G):=⟨hGr.ah (Mi _ _).drew,λn=>hGr.drewN n⟩
        have hz2 : (nth Ri kk != 0)=true:=by simpa using hz
        have Hiv:=Z5 hiv
        clear hval hmix hset hkN hz hGr hir hiv hmv2 hseaY
        go_wp2_with fail
        go_region_law ((first
         | (go_simp;go_at_call 153;((with_reducible refine (oK A (nth Ri kk) HG.out.1 hAE elr).mono ?_);rintro e w4 ⟨m4,rfl,rfl⟩))
         | (go_simp;go_at_call 153;((with_reducible refine (oK A (nth Ri kk) (HG.out.2 _) hAE elr).mono ?_);rintro e w4 ⟨m4,rfl,rfl⟩))
         | (go_simp;go_at_call 152;((with_reducible refine (Lq (nth v kk) (G.mul A (nth Ri kk)) (HG.out.2 _) elv (elm _ _)).mono ?_);rintro e w4 ⟨m5,rfl,rfl⟩))))
        all_goals (
         go_wp2_with fail
         go_roundw
         case rel =>
          have hdr : bs Y (Y.drewN (1+m4+m5)):=⟨_,rfl⟩
          have h1:=bN (w:=Y.drewN (1+m4+m5)) hown kk hlk (.int .i64 (G.add (nth v kk) (G.mul A (nth Ri kk))))
          rw [<- MH,Hset.out] at h1
          have hlo:=(aZ hown (λe=>by have:=hpv (by omega);rw [e] at this;cases this)).1
          exact ⟨kk+1,by omega,by go_num,h1,(hbr.trans (hdr.below.mono hbr.size)).trans ((Mi _ _).setCell (p:=⟨an a4,aP a4+kk,none⟩) hlo _)⟩
         case measure=>simp [intOf] <;> omega)
      ·obtain rfl : kk=m:=by omega
       rw [fT Nw v kk HNl.out Hvl.out] at hown
       have hvN : cA (g+1) Y a4 kk Nw:=⟨(QR hown).1,λhn=>by have h1:=(aZ hown (by intro e;have:=((QR hown).1).pl hn;rw [e] at this;cases this)).1;omega⟩
       have hMY : aw w Y (One g) (One g):=hmv.trans (QU hbr _)
       obtain ⟨hRY,_,hbY⟩:=HS.out Y hMY
       have hsumA : lL G.ops (dY G.q) (if false=true then [1] else dY G.q) l (R.drop (i+1)) Nw=iF G.ops (dY G.q) l (R.drop (i+1)) Nw:=by rw [Mh (by decide)];exact EC _ _ _ _ _
       have hfb1:=hfb.out
       have hfk1:=hfk.out
       rw [Hdt.out,PB,HNw.out,NK] at hfb1 hfk1
       rw [Qy] at hfb1
       rw [Mp,<- N5] at hfk1
       have hcall:=HIH.out Y ab' cb' B' k' a4 c4 Nw (i+1) false (λx hx=>ME (HF0.out.2 x hx) hMY.size) hbY hseaY hRY hvN HNe.out (by omega) (by rw [hsumA];omega)
       rw [hsumA] at hcall
       have Hcall:=Z5 hcall
       have Hfb1:=Z5 hfb1
       have Hfk1:=Z5 hfk1
       have Hb:=Z5 hMY
       clear hcall hfb1 hfk1 hfb hfk hown hvN hRY hsumA hseaY hMY hsea hmv
       go_wp2_with fail
       refine Hcall.out.mono ?_
       rintro e w5 ⟨rfl,ab5,cb5,hs5,hM5⟩
       have hMF:=Hb.out.trans hM5
       have Hs5:=Z5 hs5
       clear hs5
       cases al
       ·go_wp2_with fail
        go_roundw
        case rel=>exact ⟨t+1,ab5,cb5,_,_,by omega,λh=>absurd h (by decide),by rw [<- HA.out];go_num,Hs5.out,hMF,Hfb1.out,Hfk1.out⟩
        case measure=>have:=HA.out;simp [intOf] <;> omega
       ·have ht0:=hal rfl
        have hnil : c0.drop (t+1)=[]:=by rw [<- Hc0.out,Mg rfl,ht0];rfl
        have Hn1 : Hid (T.foldl (di G.ops) ((iF G.ops (dY G.q) l (R.drop (i+1)) Nw).foldl (di G.ops) B')=FB):=by have h1:=Hfb1.out;rw [hnil] at h1;exact h1
        have Hn2 : Hid (k'+(iF G.ops (dY G.q) l (R.drop (i+1)) Nw).length+T.length=FK):=by have h1:=Hfk1.out;rw [hnil] at h1;exact h1
        clear hnil Hfb1 Hfk1
        go_wp2_with fail
        go_roundw
        case rel=>exact ⟨i+1,ab5,cb5,_,_,by omega,by go_num,Hs5.out,hMF,by show _=_;rw [HT.out];exact Hn1.out,by show _=_;rw [HT.out];exact Hn2.out⟩
        case measure=>simp [intOf] <;> omega
    ·have hal2 : al=false:=by
      cases al
      ·rfl
      ·have:=hal rfl;omega
     have d2 : decide ((t : Int)+1<(G.q : Int))=false:=by simp;omega
     have hnil : c0.drop t=[]:=by rw [<- Hc0.out,hal2];rw [Mh (by decide)];exact Nn (by rw [l9];omega)
     have Hn1 : Hid (T.foldl (di G.ops) B'=FB):=by have h1:=hfb.out;rw [hnil] at h1;exact h1
     have Hn2 : Hid (k'+T.length=FK):=by have h1:=hfk.out;rw [hnil] at h1;exact h1
     clear hnil hfb hfk hR1 hv1 hb1 hal2
     go_wp2_with fail
     refine (BP hG1).mono ?_
     rintro e w' ⟨rfl,rfl⟩
     go_wp2_with fail
     go_roundw
     case rel=>exact ⟨i+1,ab',cb',B',k',by omega,by go_num,hsea,hmv,by show _=_;rw [HT.out];exact Hn1.out,by show _=_;rw [HT.out];exact Hn2.out⟩
     case measure=>simp [intOf] <;> omega
  ·have d1 : decide ((i : Int)+LL<=(nr : Int))=false:=by simp;omega
   have hnil:=nH G.ops (dY G.q) c0 l (R.drop i) v (by rw [NQ,HRl.out];omega)
   have hfb1:=hfb.out
   have hfk1:=hfk.out
   rw [hnil] at hfb1 hfk1
   have hfb2 : B'=FB:=hfb1
   have hfk2 : k'=FK:=hfk1
   subst hfb2 hfk2
   clear hnil hfb1 hfk1 hfb hfk
   go_wp2_with fail
   go_end0
   exact ⟨rfl,ab',cb',hsea.out,hmv⟩
theorem zg {w0 : World} {b g : Nat} {G : cJ} {P M : Int} {am : OA} {mn cm : Nat} {N : Int} {a : OA} {n c : Nat} {ag : OA} {ng cg : Nat} {m : Nat} {ar : OA} {nr cr : Nat} {R : ZZ}
  {F : Nat->Prop} (hF : F g) (h : dW w0 b G) (hg : w0.heap.size<=g) (hm : m<=64) (hm1 : 1<=m) (hRw : bx G.El m R) (hR64 : nr<=64) : ∀l,l<=64->xO F w0 g b G P M am mn cm N a n c ag ng cg m ar nr cr R l
 | 0,_=>Ey hF h hg (by omega)
 | l+1,hl=>D0 hF h hg hm hm1 hRw hR64 l (by omega) (zg hF h hg hm hm1 hRw hR64 l (by omega))
theorem sA (w : World) (x y z : Int) (e : TypeId) {g : Nat} (hg : g=w.heap.size) : Ints (w.alloc (.cells #[.int .i64 x,.int .i64 y,.int .i64 z] e)) (some ⟨g,0,none⟩) 3 [x,y,z]:=by
 subst hg;have h:=QS w [.int .i64 x,.int .i64 y,.int .i64 z] e rfl;refine ⟨rfl,λ_=>rfl,by unfold maxLen;omega,λi hi=>?_⟩;match i,hi with
 | 0,_=>exact h.cell 0 rfl
 | 1,_=>exact h.cell 1 rfl
 | 2,_=>exact h.cell 2 rfl
theorem Ir {w0 w : World} {b g : Nat} {G : cJ} {P M : Int} {am : OA} {mn cm : Nat} {N : Int} {a : OA} {n c : Nat} {ag : OA} {ng cg : Nat} {ab : OA} {cb : Nat} {B : Lz} {k : Nat} (W : Nat)
  (h : dW w0 b G) (hb : Rs w0 w) {F : Nat->Prop} (hs : wE F w g b P M am mn cm N a n c ag ng cg ab cb B k) (hk : k<=65536) (hn : n<=64) (hW : 1<=W) (hWn : W<=n) (hg1 : 1<=ng) (hg64 : ng<=64) :
  Calls prog 100 #[.pointer (some ⟨g,0,none⟩),.int .i64 W] w λe w'=>Rs w w'/\∃z : Int,e = .returned (.tuple #[.int .i64 z,.int .i64 (if mX G.q n ng k W=true then 0 else 8)]):=by
 have hG:=h.ah hb;have hq2:=hG.q2;have hq256:=hG.q256;obtain ⟨er,her⟩ : ∃er : Int,(if mX G.q n ng k W=true then (0 : Int) else 8)=er:=⟨_,rfl⟩
 rw [her];obtain ⟨V,rfl⟩ : ∃V,W=V+1:=⟨W - 1,by omega⟩
 obtain ⟨q1,hq1⟩ : ∃q1,G.q=q1+1:=⟨G.q - 1,by omega⟩
 have hmB : mX G.q n ng k (V+1)=(decide (dN n (V+1)<=65536) && decide (q1 ^ V<=65536) && decide (ng * (dN n (V+1) * q1 ^ V)<=65536 - k)):=by unfold mX su;rw [hq1,Nu,Nu]
 rw [hmB] at her;have hC1 : 1<=dN n (V+1):=oc _ _ hWn;have hP1 : 1<=q1 ^ V:=Qe (by omega);have Hcho:=Z5 (λV2 : World=>Bl n (V+1) V2 hn hWn);have Hexp:=Z5 (λV2 : World=>Is q1 V V2 (by omega) (by omega) (by omega));have hcp : ((q1 : Int) ^ V)=((q1 ^ V : Nat) : Int):=by simp
 have Hord:=Z5 (λV2 (h2 : Rs w V2)=>BP (hG.ah h2));rw [hq1] at Hord;have HS : Hid (∀V2,Rs w V2->V2.cell? ⟨g,0,none⟩=some (.pointer (some ⟨b,0,none⟩))/\V2.cell? ⟨g,5,none⟩=some (.slice a n c)/\V2.cell? ⟨g,6,none⟩=some (.slice ag ng cg)/\V2.cell? ⟨g,8,none⟩=some (.int .i64 k)):=λV2 h2=>by have x:=hs.box.ah h2;exact ⟨x.cell 0 rfl,x.cell 5 rfl,x.cell 6 rfl,x.cell 8 rfl⟩
 obtain ⟨C,hC⟩ : ∃C,dN n (V+1)=C:=⟨_,rfl⟩
 obtain ⟨Pw,hPw⟩ : ∃Pw,q1 ^ V=Pw:=⟨_,rfl⟩
 unfold DS ED at Hcho;unfold qO pS at Hexp;rw [hcp,hPw] at Hexp;rw [hC] at Hcho her hC1;rw [hPw] at her hP1;have hVW : ((V+1 : Nat) : Int)=(V : Int)+1:=by omega
 rw [hVW] at Hcho;rw [hVW];obtain ⟨c0,c5,c6,c8⟩:=HS.out w (Mi _ _);have kq : wrap64 (q1 : Int)=q1:=K0 (by omega) (by omega);have kV : wrap64 (V : Int)=V:=K0 (by omega) (by omega);clear hmB hcp hC hPw hG h hb hs hq1;go_enter func100,ntmps100;by_cases hCb : C<=65536;rotate_left
 ·have he : er=8:=by rw [<- her,M1 hCb];rfl
  subst he;rw [Mh (by omega),Mh (by omega)] at Hcho;have Hc2:=Z5 (Hcho.out w);clear her Hcho hCb;go_wp2_with fail;refine Hc2.out.mono ?_;rintro e w1 ⟨rfl,hb1⟩;go_wp2_with fail;go_ret2;exact ⟨hb1,_,rfl⟩
 rw [Mg (by omega),Mg (by omega)] at Hcho;have Hc2:=Z5 (Hcho.out w);clear Hcho;go_wp2_with fail;refine Hc2.out.mono ?_;rintro e w1 ⟨rfl,hb1⟩;obtain ⟨c0,c5,c6,c8⟩:=HS.out w1 hb1;have Ho1:=Z5 (Hord.out w1 hb1);have He1:=Z5 (Hexp.out w1);clear Hc2 Hord Hexp;go_wp2_with fail;refine Ho1.out.mono ?_;rintro e w' ⟨rfl,rfl⟩;by_cases hPb : Pw<=65536;rotate_left
 ·have he : er=8:=by rw [<- her,M1 hPb,Oq,Qf];rfl
  subst he;rw [Mh (by omega),Mh (by omega)] at He1;clear her hPb Ho1;go_wp2_with fail;refine He1.out.mono ?_;rintro e w' ⟨rfl,rfl⟩;go_wp2_with fail;go_ret2;exact ⟨hb1,_,rfl⟩
 rw [Mg (by omega),Mg (by omega)] at He1;have hpr : dh [(ng : Int),(C : Int),(Pw : Int)] 3=((ng * (C * Pw) : Nat) : Int):=by simp only [dh,nth];simp [No]
 have HPr : Hid (∀V2,Rs w V2->∀a3 c3,Ints V2 a3 3 [(ng : Int),(C : Int),(Pw : Int)]->Calls prog 170 #[.int .i64 (65536 - (k : Int)),.slice a3 3 c3] V2 λe w'=>(∃z : Int,e = .returned (.tuple #[.int .i64 z,.int .i64 er]))/\V2=w'):=λV2 _ a3 c3 h3=>by
  refine (AJ (65536 - (k : Int)) a3 3 c3 [(ng : Int),(C : Int),(Pw : Int)] V2 (by omega) h3 λx hx=>?_).mono ?_
  ·simp at hx;rcases hx with rfl | rfl | rfl <;> omega
  ·rintro e w' ⟨rfl,rfl⟩;refine ⟨⟨EM (65536 - (k : Int)) [(ng : Int),(C : Int),(Pw : Int)],?_⟩,rfl⟩;have e1 : Bz (65536 - (k : Int)) [(ng : Int),(C : Int),(Pw : Int)]=er:=by
    unfold Bz;show (if dh [(ng : Int),(C : Int),(Pw : Int)] 3<=65536 - (k : Int) then (0 : Int) else 8)=er;rw [hpr,<- her,MO hCb,MO hPb,Bool.and_self,OC];by_cases hz : ng * (C * Pw)<=65536 - k
    ·rw [Mg (by omega),MO hz];rfl
    ·rw [Mh (by omega),M1 hz];rfl
   rw [e1]
 have He8 : Hid (er ≠ 0->er=8):=λh=>by
  rw [<- her] at h ⊢;split at h
  ·exact absurd rfl h
  ·rename_i h1;rw [Mh h1]
 clear her hpr Ho1;go_wp2_with fail;refine He1.out.mono ?_;rintro e w' ⟨rfl,rfl⟩;obtain ⟨c0,c5,c6,c8⟩:=HS.out w1 hb1;have kk : IntKind.i64.wrap (65536 - (k : Int))=65536 - (k : Int):=Mq _ (by omega);obtain ⟨d0,d5,d6,d8⟩:=HS.out _ (QQ hb1 (aB w1 (.cells #[.int .i64 (ng : Int),.int .i64 (C : Int),.int .i64 (Pw : Int)] 3)));go_upto_region 7 with fail;go_cut [6,7] (λzv ev wx=>(∃z : Int,zv = .int .i64 z)/\ev = .int .i64 er/\Rs w wx);case first =>
  go_region_law ((first
   | (go_simp;go_at_call 170;((with_reducible refine (HPr.out _ (QQ hb1 (by first | exact (aB _ _).drew | exact aB _ _ | exact ((Mi _ _).drew).alloc (Mf _) _ | exact (aB _ _).drew | exact (Mi _ _).drew | assumption)) _ _ (by first | exact (sA _ _ _ _ _ rfl).ah (Mi _ _).drew | exact sA _ _ _ _ _ rfl | assumption)).mono ?_);rintro e w3 ⟨⟨z3,rfl⟩,rfl⟩))))
  all_goals (
   go_wp2_with fail
   go_meet
   exact ⟨⟨_,rfl⟩,rfl,QQ hb1 (by first | exact (aB _ _).drew | exact aB _ _ | exact (aB _ _).drew.drew)⟩)
 obtain ⟨⟨z,rfl⟩,rfl,hbc⟩:=hcut;generalize wc=V3 at *;by_cases he0 : er=0
 ·subst he0;go_wp2_with fail;go_ret2;exact ⟨hbc,_,rfl⟩
 ·have he1 : (er != 0)=true:=by simpa using he0
  have he8 : er=8:=He8.out he0;subst he8;go_wp2_with fail;go_ret2;exact ⟨hbc,_,rfl⟩
end Go.Proofs.YtcfmiocdlcapoaaGreat
