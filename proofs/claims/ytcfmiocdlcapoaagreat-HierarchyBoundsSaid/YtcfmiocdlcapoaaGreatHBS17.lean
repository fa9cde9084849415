import Derived.Test.YtcfmiocdlcapoaaGreatHBS12
namespace Go.Proofs.YtcfmiocdlcapoaaGreat
set_option linter.all false
set_option maxRecDepth 100000
set_option maxHeartbeats 4000000
open Go.RowKit Tryz
section
theorem aY.setOther {w : World} {B : Nat} {a : OA} {n c : Nat} {R : Z4} {L : ZZ} (h : aY w B a n c R L) {p : Addr} (hp : p.block<B) (v : Value) : aY (w.setCell p v) B a n c R L :=
 h.bu λb hb=>MB _ _ _ _ (by have:=(h.lt b hb).1;omega)
structure nI (w : World) (g : Nat) (x : Value) (a : OA) (k c : Nat) (R : Z4) (L : ZZ) : Prop where
 lt : g<w.heap.size
 c0 : w.cell? ⟨g,0,none⟩=some x
 c1 : w.cell? ⟨g,1,none⟩=some (.slice a k c)
 fr : ∀i,w.frozen? ⟨g,i,none⟩=false
 om : aY w (g+1) a k c R L
namespace nI
variable {w w' w4 w5 : World} {g : Nat} {x : Value} {a : OA} {k c : Nat} {R : Z4} {L : ZZ}
theorem ah (h : nI w g x a k c R L) (hb : Rs w w') : nI w' g x a k c R L :=
 ⟨ME h.lt hb.size,aA hb h.c0,aA hb h.c1,λi=>j9 hb h.lt (h.fr i),h.om.ah hb⟩
theorem uq (h : nI w g x a k c R L) : cF a g:=by
 by_cases ha : a=none
 ·exact .inl ha
 ·exact .inr λe=>by have:=(aZ h.om.own ha).1;omega
theorem xX {o : Obj} (h : nI w4 g x a k c R L) (hgr5 : (w4.alloc o).grownBy w5 (Value.slice a k c).ownBlock) : w5.cell? ⟨g,0,none⟩=some x/\w5.cell? ⟨g,1,none⟩=some (.slice a k c)/\w5.frozen? ⟨g,1,none⟩=false:=by
 have hb1:=aB w4 o;have hlt:=h.lt;have hs1:=hb1.size;exact ⟨bA hgr5 (aM h.c0 o) h.uq,bA hgr5 (aM h.c1 o) h.uq,
  (MD (w:=w4.alloc o) (a:=⟨g,1,none⟩) (hgr5.block g (by omega) λe=>h.uq.own k c e.symm)).trans (cR h.lt (h.fr 1) _)⟩
theorem push {a4 a5 : OA} {n4 c4 c5 : Nat} {N : Lz} {o : Obj} (h : nI w4 g x a k c R L) (hn4 : N.length=n4)
  (hown4 : w4.ownsRow (g+1) 3 1 (.slice a4 n4 c4) n4 (N.map (Value.int .i64))) (hra : a4 ≠ none->¬ bS a R (an a4))
  (hown5 : w5.ownsRow (g+1) 22 1 (.slice a5 (k+1) c5) (k+1) (List.zipWith jx R L ++ [.slice a4 n4 c4])) (hgr5 : (w4.alloc o).grownBy w5 (Value.slice a k c).ownBlock)
  (hap5 : ∀x,x<(w4.alloc o).heap.size->cF a x->cF a5 x) :
  nI (w5.setCell ⟨g,1,none⟩ (.slice a5 (k+1) c5)) g x a5 (k+1) c5 (R ++ [(a4,c4)]) (L ++ [N])/\Below g w4 (w5.setCell ⟨g,1,none⟩ (.slice a5 (k+1) c5)):=by
 subst hn4;have hb1:=aB w4 o;have hO:=h.om.ah hb1;have hr:=ba hown4 hb1;have hP:=Re hO hr hra hown5 hgr5 hap5;have hlt:=h.lt;have hs1:=hb1.size;have hB5 : Below (g+1) w4 w5:=QT (hb1.mono (by omega)) hO.own hgr5 (Mf _) (by omega);have hs:=hB5.size;have k0:=bA hgr5 (aM h.c0 o) h.uq;have k1:=bA hgr5 (aM h.c1 o) h.uq;refine ⟨⟨by simp;omega,?_,Mw _ _ _ k1,λi=>?_,hP.setOther (by simp) _⟩,(hB5.mono (by omega)).setCell (by simp) _⟩
 ·rw [MA _ _ _ _ (by simp)];exact k0
 ·rw [MW];exact (MD (w:=w4.alloc o) (a:=⟨g,i,none⟩) (hgr5.block g (by omega) λe=>h.uq.own k c e.symm)).trans (cR h.lt (h.fr i) _)
theorem start {U : World} {g : Nat} {x : Value} (hU : bf U g [x,.slice none 0 0]) : nI U g x none 0 0 [] [] :=
 ⟨hU.1,hU.cell 0 rfl,hU.cell 1 rfl,hU.frozen,aY.empty _ _⟩
end nI
theorem bf.two (w : World) (x0 y0 x y : Value) (e : TypeId) : bf (((w.alloc (.cells #[x0,y0] e)).setCell ⟨w.heap.size,0,none⟩ x).setCell ⟨w.heap.size,1,none⟩ y) w.heap.size [x,y]:=by
 have h : bf (w.alloc (.cells #[x0,y0] e)) w.heap.size [x0,y0]:=QS w [x0,y0] e rfl;have k0:=h.cell 0 rfl;have k1:=h.cell 1 rfl;refine ⟨by simp,λi v hv=>?_,λi=>by rw [MW,MW];exact h.frozen i⟩;match i,hv with
 | 0,hv =>
  obtain rfl : x=v:=by simpa using hv
  rw [MA _ _ _ _ (by simp)]
  exact Mw _ _ _ k0
 | 1,hv =>
  obtain rfl : y=v:=by simpa using hv
  exact Mw _ _ _ (by rw [MA _ _ _ _ (by simp)];exact k1)
 | i+2,hv=>simp at hv
end
theorem tY (x : Int) (w : World) : Calls prog 275 #[.int .i64 x] w λe w'=>e = .returned (.bool (x != 0))/\w=w':=by go_enter func275,ntmps275;go_wp2;go_ret;exact ⟨rfl,rfl⟩
theorem vU (a : OA) (n c : Nat) (l : Lz) (w : World) (hi : Ints w a n l) :
  Calls prog 97 #[.slice a n c,.func (.func 275) #[] #[]] w λe w'=>e = .returned (.int .i64 (i6 l))/\w=w':=by
 have Hlen:=Z5 hi.len;have hpl:=hi.pl;have hmax:=hi.max;unfold maxLen at hmax;go_enter func97,ntmps97;go_wp2_with fail;go_loop [8] (λiv=>∃k : Nat,k<=n/\iv = .int .i64 k/\Hid (∀j,j<k->nth l j=0)) (λiv=>n - (intOf iv).toNat);case atStart=>exact ⟨0,Mj _,rfl,λj hj=>by omega⟩
 case round =>
  obtain ⟨k,hk,rfl,hall⟩:=hrel
  by_cases hlt : k<n
  ·have ck:=hi.cell k hlt
   by_cases hz : nth l k=0
   ·have hz' : (nth l k != 0)=false:=by simpa using hz
    have Hz:=Z5 hz
    clear hz
    go_wp2_with fail
    refine (tY _ _).mono ?_
    rintro e w' ⟨rfl,rfl⟩
    go_wp2_with fail
    go_round
    case rel=>exact ⟨k+1,by omega,by go_num,λj hj=>by
     rcases MU j k with h | h
     ·exact hall.out j h
     ·rw [show j=k by omega];exact Hz.out⟩
    case measure=>simp [intOf] <;> omega
   ·have hz' : (nth l k != 0)=true:=by simpa using hz
    have Hf : Hid (i6 l=k):=by show _=_;have:=yj l k (by rw [Hlen.out];exact hlt) hall.out hz;rw [i6,this,Mg (by rw [Hlen.out];exact hlt)]
    clear hz
    go_wp2_with fail
    refine (tY _ _).mono ?_
    rintro e w' ⟨rfl,rfl⟩
    go_wp2_with fail
    go_ret
    exact ⟨aI Hf.out.symm,rfl⟩
  ·obtain rfl : k=n:=by omega
   have Hf : Hid (i6 l = -1):=by show _=_;have:=oT l (by rw [Hlen.out];exact hall.out);rw [i6,this,Mh (by omega)]
   go_wp2_with fail
   go_ret
   exact ⟨aI Hf.out.symm,rfl⟩
theorem D6 {w w0 : World} {b : Nat} {G : cJ} (bb : Nat) (ar : OA) (cr : Nat) (R : Z4) (ap : OA) (cp : Nat) (s : BS) (av : OA) (cv n : Nat) (v : Lz)
  (h : dW w0 b G) (hb : Rs w0 w) (hB : nS w w0.heap.size bb b ar cr R ap cp s) (hs : s.Ok G.El n) (hv : w.ownsRow w0.heap.size 3 1 (.slice av n cv) n (v.map (Value.int .i64)))
  (hav : av ≠ none->¬ td bb ar R ap (an av)) (hve : G.Ei v) (hn : n<=1000000) (hk : s.rows.length<=1000000) :
  Calls prog 268 #[.pointer (some ⟨bb,0,none⟩),.slice av n cv] w (zj w0 bb b ar R ap av G.ops s v w):=by
 have hvl : v.length=n:=by simpa using jT hv
 have hpv:=(QR hv).1.pl;have hcl:=Q6 h;have hred:=oL hcl hs.rws hs.plc ⟨hvl,hve⟩;have Hred:=Z5 hred;have Hvl:=Z5 hvl;have Hs:=Z5 hs;have Hve:=Z5 hve;have c1:=hB.c1;have hplr:=hB.om.pl;clear hred hvl hs hve;go_enter func268,ntmps268;go_wp2_with fail;obtain ⟨kk,hkk⟩ : ∃kk,s.rows.length=kk:=⟨_,rfl⟩
 have Hkk:=Z5 hkk;rw [hkk] at hk hplr c1;rw [hkk];clear hkk;go_loopw [18] (λiv wr=>∃k : Nat,k<=kk/\iv = .int .i64 k/\wr.ownsRow w0.heap.size 3 1 (.slice av n cv) n ((bU G.ops s.rows s.place v k).map (Value.int .i64))/\de av w wr) (λiv _=>kk - (intOf iv).toNat);case atStart=>exact ⟨0,Mj _,rfl,hv,Rb _ _⟩
 case round =>
  obtain ⟨k,hkk2,rfl,hown,honly⟩:=hrel
  have hBr:=hB.only honly hav
  by_cases hlt : k<kk
  ·have hkr : k<s.rows.length:=by rw [Hkk.out];exact hlt
   have e0:=hBr.c0
   have e2:=hBr.c2
   have er:=hBr.om.cell hkr
   have ir:=hBr.om.ints hkr
   have hrow:=Hs.out.rws.row hkr
   have hplc:=Hs.out.plc k hkr
   rw [hrow.1] at er ir
   obtain ⟨ip,mp⟩:=QR hBr.pl
   have ep:=ip.cell k hkr
   have hpp:=ip.pl
   rw [Hkk.out] at e2 hpp
   obtain ⟨pn,hpn⟩ : ∃pn : Nat,nth s.place k=pn:=⟨(nth s.place k).toNat,by omega⟩
   rw [hpn] at ep hplc
   have hpnn : pn<n:=by omega
   have hrd:=Hred.out k (by omega)
   have hrd1:=Hred.out (k+1) (by omega)
   have hstep : bU G.ops s.rows s.place v (k+1)=eE G.ops (bU G.ops s.rows s.place v k) pn (ai s.rows k):=by rw [bU,hpn]
   have Hstep:=Z5 hstep
   have Hrow:=Z5 hrow
   have Hpn:=Z5 hpn
   clear hstep hpn
   obtain ⟨u,hu⟩ : ∃u,bU G.ops s.rows s.place v k=u:=⟨_,rfl⟩
   rw [hu] at hown hrd
   have Hu:=Z5 hu
   obtain ⟨iu,mu⟩:=QR hown
   have eu:=iu.cell pn hpnn
   have hpu:=iu.pl
   have Hrd:=Z5 hrd
   clear hu hrow hrd hrd1
   by_cases hz : nth u pn=0
   ·have hz' : (nth u pn != 0)=false:=by simpa using hz
    have Hn : Hid (bU G.ops s.rows s.place v (k+1)=u):=by show _=_;rw [Hstep.out,Hu.out,eE,Mm,Mg hz]
    clear hz
    go_wp2_with fail
    go_roundw
    case rel=>exact ⟨k+1,by omega,by go_num,by rw [Hn.out];exact hown,honly⟩
    case measure=>simp [intOf] <;> omega
   ·have hz' : (nth u pn != 0)=true:=by simpa using hz
    have Hn : Hid (bU G.ops s.rows s.place v (k+1)=dZ G.ops u (nth u pn) (ai s.rows k)):=by show _=_;rw [Hstep.out,Hu.out,eE,Mm,Mh hz]
    have hxe : G.El (nth u pn):=Hrd.out.2 _ (aN (by rw [Hrd.out.1];exact hpnn))
    have hSl : (dZ G.ops u (nth u pn) (ai s.rows k)).length=u.length:=fp _ _ _ _ (by rw [Hrow.out.1,Hrd.out.1])
    have hSn:=λi hi=>eX G.ops u (nth u pn) (ai s.rows k) i (by rw [Hrow.out.1,Hrd.out.1]) hi
    have HSl:=Z5 hSl
    have HSn:=Z5 hSn
    clear hz hSl hSn
    have hplr2:=ir.pl
    go_wp2_with fail
    generalize nth u pn=x at *
    generalize dZ G.ops u x (ai s.rows k)=S at *
    go_loopw [37] (λiv wx=>∃j : Nat,j<=n/\iv = .int .i64 j/\wx.ownsRow w0.heap.size 3 1 (.slice av n cv) n ((fA S u j).map (Value.int .i64))/\de av w wx) (λiv _=>n - (intOf iv).toNat)
    case atStart=>exact ⟨0,Mj _,rfl,by rw [eU];exact hown,honly⟩
    case round =>
     obtain ⟨j,hj,rfl,hown2,honly2⟩:=hrel
     have hBx:=hB.only honly2 hav
     have ix:=hBx.om.ints hkr
     rw [Hrow.out.1] at ix
     by_cases hjn : j<n
     ·have cj:=ix.cell j hjn
      have f0:=hBx.c0
      obtain ⟨im,mm⟩:=QR hown2
      have cm:=im.cell j hjn
      have fm:=(mm (by omega)).2 j hjn
      have hju : j<u.length:=by rw [Hrd.out.1];exact hjn
      have hmix:=eO S u j j HSl.out (by omega)
      rw [Mh (by omega)] at hmix
      rw [hmix] at cm
      have hset:=eH S u j HSl.out hju
      rw [HSn.out j hju] at hset
      have Hset:=Z5 hset
      have ely : G.El (nth (ai s.rows k) j):=Hrow.out.2 _ (aN (by rw [Hrow.out.1];exact hjn))
      have elv : G.El (nth u j):=Hrd.out.2 _ (aN hju)
      have elm : ∀x y,G.El (G.mul x y):=λx y=>Rc h x y
      have hbx : Rs w0 wr:=MS hb (honly2.below (λha=>(aZ hv ha).1) hb.size)
      have hGr : dW wr b G:=h.ah hbx
      have HG : Hid (dW wr.drew b G/\∀n,dW (wr.drewN n) b G):=⟨hGr.ah (Mi _ _).drew,λn=>hGr.drewN n⟩
      clear hset hmix
      go_wp2_with fail
      go_region_law ((first
       | (go_simp;go_at_call 153;((with_reducible refine (oK x (nth (ai s.rows k) j) HG.out.1 hxe ely).mono ?_);rintro e w4 ⟨m4,rfl,rfl⟩))
       | (go_simp;go_at_call 153;((with_reducible refine (oK x (nth (ai s.rows k) j) (HG.out.2 _) hxe ely).mono ?_);rintro e w4 ⟨m4,rfl,rfl⟩))
       | (go_simp;go_at_call 191;((with_reducible refine (KK (nth u j) (G.mul x (nth (ai s.rows k) j)) (HG.out.2 _) elv (elm _ _)).mono ?_);rintro e w4 ⟨m5,rfl,rfl⟩))))
      all_goals (
       go_wp2_with fail
       go_roundw
       case rel =>
        have hdr : bs wr (wr.drewN (1+m4+m5)):=⟨_,rfl⟩
        refine ⟨j+1,by omega,by go_num,?_,honly2.trans ((Q2 hdr).trans (Ra _ j _ (by intro e;have:=hpv (by omega);rw [e] at this;cases this)))⟩
        have h1:=bN (w:=wr.drewN (1+m4+m5)) hown2 j hjn (.int .i64 (G.sub (nth u j) (G.mul x (nth (ai s.rows k) j))))
        rw [<- MH,show G.sub (nth u j) (G.mul x (nth (ai s.rows k) j))=G.ops.add (nth u j) (G.ops.neg (G.ops.mul x (nth (ai s.rows k) j))) from rfl,Hset.out] at h1
        exact h1
       case measure=>simp [intOf] <;> omega)
     ·obtain rfl : j=n:=by omega
      rw [fT S u j (by rw [HSl.out,Hrd.out.1]) Hrd.out.1] at hown2
      go_wp2_with fail
      go_roundw
      case rel=>exact ⟨k+1,by omega,by go_num,by rw [Hn.out];exact hown2,honly2⟩
      case measure=>simp [intOf] <;> omega
  ·obtain rfl : k=kk:=by omega
   have hrd:=Hred.out k (by rw [Hkk.out];exact Mf _)
   have hurd : bU G.ops s.rows s.place v k=s.red G.ops v:=by rw [BS.red,Hkk.out]
   rw [hurd] at hown hrd
   obtain ⟨iu,mu⟩:=QR hown
   have Hrd:=Z5 hrd
   clear hurd hrd
   go_wp2_with fail
   refine (vU _ _ _ _ _ iu).mono ?_
   rintro e w' ⟨rfl,rfl⟩
   by_cases hf : gJ (s.red G.ops v)<(s.red G.ops v).length
   ·have hfv : i6 (s.red G.ops v)=gJ (s.red G.ops v):=by rw [i6,Mg hf]
    have hfn:=kn _ hf
    have Ht : Hid (s.eh G.ops v=true):=by show _=_;simpa [BS.eh] using hf
    have HN : Hid (s.next G.ops v=⟨s.rows ++ [(s.red G.ops v).map (G.mul (G.inv (nth (s.red G.ops v) (gJ (s.red G.ops v)))))],s.place ++ [(gJ (s.red G.ops v) : Int)]⟩):=by show _=_;rw [BS.next,Mg Ht.out];rfl
    rw [hfv]
    obtain ⟨u,hu⟩ : ∃u,s.red G.ops v=u:=⟨_,rfl⟩
    rw [hu] at hown Hrd hf hfn iu HN
    rw [hu]
    clear hu hfv
    obtain ⟨f,hff⟩ : ∃f,gJ u=f:=⟨_,rfl⟩
    rw [hff] at hf hfn HN
    rw [hff]
    have hfn' : f<n:=by rw [<- Hrd.out.1];exact hf
    have e0:=hBr.c0
    have eu:=iu.cell f hfn'
    have hpu:=iu.pl
    have elf : G.El (nth u f):=Hrd.out.2 _ (aN hf)
    have hbx : Rs w0 wr:=MS hb (honly.below (λha=>(aZ hv ha).1) hb.size)
    have hGr : dW wr b G:=h.ah hbx
    have HG : Hid (dW wr.drew b G/\∀n,dW (wr.drewN n) b G):=⟨hGr.ah (Mi _ _).drew,λn=>hGr.drewN n⟩
    have Hfn:=Z5 hfn
    have Hf:=Z5 hf
    clear hff hfn hf
    go_upto_region 15 with fail
    go_cut [11] (λdv wx=>dv = .int .i64 (G.inv (nth u f))/\bs wr wx)
    case first =>
     go_region_held3 (λw'=>w'.cell? ⟨bb,0,none⟩=some (.pointer (some ⟨b,0,none⟩))/\w'.cell? ⟨an av,aP av+f,none⟩=some (.int .i64 (nth u f)))
      (exact ⟨e0,eu⟩)
      (first
      | (go_at_call 193;((with_reducible refine (Ax _ HG.out.1 elf Hfn.out).mono ?_);rintro e w4 ⟨m4,rfl,rfl⟩)))
     all_goals (
      go_step;go_step
      go_meet
      exact ⟨rfl,⟨_,rfl⟩⟩)
    obtain ⟨rfl,hdr⟩:=hcut
    generalize wc=V at *
    have hBV : nS V w0.heap.size bb b ar cr R ap cp s:=hBr.ah hdr.below
    have hownV:=ba hown hdr.below
    have hbV : Rs w0 V:=hdr.xR hbx
    have honV : de av w V:=honly.trans (Q2 hdr)
    clear hBr hown hbx hGr HG e0 eu iu mu hdr honly
    obtain ⟨iu,mu⟩:=QR hownV
    have HGV : Hid (dW V.drew b G/\∀n,dW (V.drewN n) b G):=⟨(h.ah hbV).ah (Mi _ _).drew,λn=>(h.ah hbV).drewN n⟩
    have hiel : G.El (G.inv (nth u f)):=Rj h _
    have e0:=hBV.c0
    have e1:=hBV.c1
    have f1:=hBV.fr 1
    have hS : ∀W,Rs V W->W.cell? ⟨bb,0,none⟩=some (.pointer (some ⟨b,0,none⟩))/\W.cell? ⟨bb,1,none⟩=some (.slice ar s.rows.length cr)/\W.frozen? ⟨bb,1,none⟩=false/\Rs V W:=by intro W hW;have hBW:=hBV.ah hW;exact ⟨hBW.c0,hBW.c1,hBW.fr 1,hW⟩
    have HS:=Z5 hS
    have haptb : cF ar bb:=by
     by_cases ha : ar=none
     ·exact .inl ha
     ·exact .inr λe=>hBV.d1 (.inl ⟨ha,e.symm⟩)
    have hR : ∀W,Rs V W->W.ownsRow w0.heap.size 22 1 (.slice ar k cr) k (List.zipWith jx R s.rows):=λW hW=>by have:=(hBV.om.ah hW).own;rwa [Hkk.out] at this
    have HR:=Z5 hR
    obtain ⟨N,hN⟩ : ∃N,u.map (G.mul (G.inv (nth u f)))=N:=⟨_,rfl⟩
    have hsc : Calls prog 194 #[.pointer (some ⟨b,0,none⟩),.int .i64 (G.inv (nth u f)),.slice av n cv] V.drew (cX V.drew N):=by rw [<- hN];exact wT (G.inv (nth u f)) _ _ _ u HGV.out.1 hiel (iu.ah (Mi _ _).drew) Hrd.out.2 hn
    have Hsc:=Z5 hsc
    have HNe:=Z5 hN
    rw [hN] at HN
    clear hN hsc
    clear hS hR
    go_upto_region 16 with fail
    go_cut [] (λwx=>∃ar' cr' R',wx.cell? ⟨bb,1,none⟩=some (.slice ar' (k+1) cr')/\aY wx w0.heap.size ar' (k+1) cr' R' (s.rows ++ [N]) /\
     aw V wx (λx=>x=bb\/bS ar R x) (λx=>x=bb\/bS ar' R' x)/\¬ bS ar' R' bb /\
     (∀i v,i ≠ 1->V.cell? ⟨bb,i,none⟩=some v->wx.cell? ⟨bb,i,none⟩=some v)/\∀i,wx.frozen? ⟨bb,i,none⟩=false)
    case first =>
     rw [Hkk.out] at e1 HS
     go_region_law ((first
      | (go_simp;go_at_call 194;((with_reducible refine Hsc.out.mono ?_);rintro e w4 ⟨a4,c4,rfl,hown4,hb4⟩;obtain ⟨q0,q1,q2,q5⟩:=HS.out w4 (QQ (Mi _ _).drew hb4);have q6 : bb<w4.heap.size:=Mn w4 _ q0))
      | (refine iQ (by rfl) (.tmp 83) (.tmp 91) 25 22 (by rfl) (.slice none 0 0) 24 underlying25 fg (by rfl) w0.heap.size ar k cr (List.zipWith jx R s.rows) (by rfl) (HR.out _ (QQ q5 (aB _ _))) (some ⟨w4.heap.size,0,none⟩) 1 1 [.slice a4 N.length c4] (by rfl) (λ_=>rfl) rfl (by intro j hj;obtain rfl : j=0:=(by omega);exact dq _ _ _ rfl) (by intro y hy;simp at hy;subst hy;rfl) (by omega) (by unfold maxLen;omega) (by have e1:=hbV.size;have e2:=NW q5;simp;omega) ?_;intro a5 c5 w5 hown5 hgr5 hap5;have p1:=bA hgr5 (aM q1 _) haptb;have p2 : w5.frozen? ⟨bb,1,none⟩=false:=(MD (hgr5.block bb (Mn _ _ (aM q1 _)) (λe=>haptb.own k cr e.symm))).trans (cR (Mn _ _ q1) q2 _))))
     all_goals (
      go_wp2_with fail
      go_meet
      exact hBV.Ii Hkk.out hbV.size (QQ (Mi _ _).drew hb4) hown4 hown5 hgr5 hap5 ⟨_,p1⟩)
    obtain ⟨ar',cr',R',y1,hOX,hMX,hdX,hcX,hfX⟩:=hcut
    generalize wc=X at *
    have y0:=hcX 0 _ (by omega) e0
    have y2:=hcX 2 _ (by omega) hBV.c2
    have yf:=hfX 2
    have hnI : ap ≠ none->¬ (an ap=bb\/bS ar R (an ap)):=λh0 hI=>by
     rcases hI with h1 | h1
     ·rcases hBV.d2 with h2 | h2
      ·exact h0 h2
      ·exact h2 h1
     ·exact hBV.d3 h0 h1
    have hpX:=hMX.own hBV.pl hnI
    have hd3 : ap ≠ none->¬ bS ar' R' (an ap):=λh0 hI=>hMX.not (aZ hBV.pl h0).2 (hnI h0) (.inr hI)
    rw [Hkk.out] at y2 hpX
    have hbX : Rs w0 X:=hbV.trans (hMX.below (λx hx=>(hBV.lt x (by rcases hx with h1 | h1;exact .inl h1;exact .inr (.inl h1))).1) hbV.size)
    have hz : bb<X.heap.size:=Mn X _ y0
    have HfX:=Z5 hfX
    have Hd3:=Z5 hd3
    have HdX:=Z5 hdX
    have hd2:=hBV.d2
    have hbB:=hBV.bB
    have hcn:=bm X (.int .i64 f) 3
    clear hcX hfX hd3 hdX e0 e1 f1
    go_wp2_with (at_builtin;refine bj rfl _ _ 22 3 rfl (.int .i64 0) 8 underlying22 bt rfl w0.heap.size ap k cp _ rfl (hpX.alloc _) ⟨X.heap.size,0,none⟩ 1 (.int .i64 f) rfl hcn rfl (by omega) (by unfold maxLen;omega) (by have e1:=hbX.size;simp;omega) ?_;intro a6 c6 w6 hown6 hgr6 hap6;have p1:=bA hgr6 (aM y2 _) hd2;have p2 : w6.frozen? ⟨bb,2,none⟩=false:=(MD (hgr6.block bb (Mn _ _ (aM y2 _)) (λe=>hd2.own k cp e.symm))).trans (cR hz yf _))
    have hP:=nS.FD (w6:=w6) hbB y0 y1 ⟨_,y2⟩ HfX.out hOX hpX HdX.out hd2 Hd3.out hown6 hgr6 hap6
    have HP:=Z5 hP
    clear hP
    go_ret
    refine ⟨ar',cr',R',a6,c6,bz Ht.out.symm,by rw [HN.out];exact HP.out.1,?_⟩
    refine Rg (w':=V) (I':=λx=>td bb ar R ap x\/(av ≠ none/\x=an av)) ?_ (Rg (w':=X) (I':=td bb ar' R' ap) ?_ HP.out.2)
    ·exact ⟨honV.os,honV.tape,honV.output,honV.size,λx hx hI=>honV.block x hx λh2=>hI (.inr h2),λx hx=>.inl hx⟩
    ·refine ⟨hMX.os,hMX.tape,hMX.output,hMX.size,λx hx hI=>hMX.block x hx λh2=>hI (.inl (by rcases h2 with h3 | h3;exact .inl h3;exact .inr (.inl h3))),λx hx=>?_⟩
     rcases hx with h1 | h1 | h1
     ·exact .inl (.inl (.inl h1))
     ·rcases hMX.grow x (.inr h1) with h2 | h2
      ·exact .inl (.inl (by rcases h2 with h3 | h3;exact .inl h3;exact .inr (.inl h3)))
      ·exact .inr h2
     ·exact .inl (.inl (.inr (.inr h1)))
   ·have hfv : i6 (s.red G.ops v) = -1:=by rw [i6,Mh hf]
    rw [hfv]
    have Ht : Hid (s.eh G.ops v=false):=by show _=_;simp [BS.eh];omega
    have HN : Hid (s.next G.ops v=s):=by show _=_;rw [BS.next,Mh (by rw [Ht.out];simp)]
    clear hf hfv
    go_wp2_with fail
    go_ret
    refine ⟨ar,cr,R,ap,cp,bz Ht.out.symm,by rw [HN.out];exact hBr,?_⟩
    exact ⟨honly.os,honly.tape,honly.output,honly.size,λx hx hI=>honly.block x hx λh2=>hI (.inr h2),λx hx=>.inl (.inl hx)⟩
section
def GX : Z4->List (Lz × Int)->List Value
 | r :: R,t :: T=>.slice r.1 t.1.length r.2 :: .int .i64 t.2 :: GX R T
 | _,_=>[]
theorem Ah (r : OA × Nat) (t : Lz × Int) : ∀(R : Z4) (T : List (Lz × Int)),R.length=T.length->GX (R ++ [r]) (T ++ [t])=GX R T ++ [.slice r.1 t.1.length r.2,.int .i64 t.2]
 | [],[],_=>rfl
 | [],_ :: _,h=>by simp at h
 | _ :: _,[],h=>by simp at h
 | x :: R,y :: T,h=>by rw [Np,Np,GX,Ah r t R T (by simpa using h)];rfl
theorem wz {P : Program} {w : World} {ops : Array Oper} {rest : List Oper} {o : Oper} {ac : Act} {Q : Exit->Act->World->Prop}
  (hg : o.guard=none) (s x : Operand) (t e : TypeId) (hop : o.op = .call { callee:=.builtin .append,args:=#[s,x],argTypes:=#[t,t] }) (z : Value) (bytes : Nat)
  (h1 : P.underlying t=some (.slice e)) (h2 : (P.info? e).map (λi=>(i.zero,i.size,i.bytes))=some (some z,2,bytes)) (hz : z.cells.size=2)
  (B : Nat) (a : OA) (n c : Nat) (xs : List Value) (hs : ac.eval s = .slice a n c) (hown : w.ownsRow B e 2 (.slice a n c) n xs)
  (g cc : Nat) (u v : Value) (hx : ac.eval x = .slice (some ⟨g,0,none⟩) 1 cc) (hu : w.cell? ⟨g,0,none⟩=some u) (hv : w.cell? ⟨g,1,none⟩=some v) (h1c : u.oneCell'=true) (h1d : v.oneCell'=true)
  (b2 : (n+1) * bytes<=140737488355328) (b3 : n+1<=maxLen) (hB : B<=w.heap.size)
  (hK : ∀a' c' w',w'.ownsRow B e 2 (.slice a' (n+1) c') (n+1) (xs ++ [u,v])->w.grownBy w' (Value.slice a n c).ownBlock->(∀b,b<w.heap.size->cF a b->cF a' b)->wpList P ops Q rest (ac.put o.dst (.slice a' (n+1) c')) w') :
  wpList P ops Q (o :: rest) ac w:=by
 obtain ⟨i,hi,hz0,hz1,hz2⟩ : ∃i,P.info? e=some i/\i.zero=some z/\i.size=2/\i.bytes=bytes:=by
  cases hp : P.info? e with
  | none=>rw [hp] at h2;cases h2
  | some i=>rw [hp] at h2;simp at h2;exact ⟨i,rfl,h2.1,h2.2.1,h2.2.2⟩
 refine wpList_append_own_at w hg s x t hop B e i z 2 bytes h1 hi hz0 hz1 hz2 hz (by decide) _ n xs hs hown ⟨g,0,none⟩ 1 cc [u,v] hx rfl ?_ ?_ b3 b2 hB λv' w' hown' hgr _ hat=>?_
 ·intro j y hj;match j,hj with
  | 0,hj=>simp at hj;subst hj;simpa [Addr.add] using hu
  | 1,hj=>simp at hj;subst hj;simpa [Addr.add] using hv
 ·intro y hy;simp at hy;rcases hy with rfl | rfl
  ·exact h1c
  ·exact h1d
 ·obtain ⟨a',c',rfl⟩ : ∃a' c',v' = .slice a' (n+1) c':=by
   rcases hown'.2 with ⟨_,h0⟩ | ⟨g',cap,cur,rfl,_⟩
   ·omega
   ·exact ⟨_,cap,rfl⟩
  refine hK a' c' w' hown' hgr λb hb hapt=>?_;have h:=hapt.own n c;rcases hat with h3 | h3
  ·exact Rl (n:=n+1) (c:=c') (by rw [h3];exact h)
  ·exact Rl (n:=n+1) (c:=c') (by rw [h3];intro h4;cases h4;omega)
structure ua (w : World) (B : Nat) (a : OA) (k c : Nat) (R : Z4) (T : List (Lz × Int)) : Prop where
 rl : R.length=k
 tl : T.length=k
 own : w.ownsRow B 64 2 (.slice a k c) k (GX R T)
 row : ∀p ∈ R.zip T,Ints w p.1.1 p.2.1.length p.2.1/\(p.1.1 ≠ none->B<=an p.1.1/\an p.1.1<w.heap.size)/\(p.1.1 ≠ none->cF a (an p.1.1))
namespace ua
variable {w w' w5 V : World} {B : Nat} {a : OA} {k c : Nat} {R : Z4} {T : List (Lz × Int)}
theorem start (w : World) (B : Nat) : ua w B none 0 0 [] []:=⟨rfl,rfl,⟨rfl,.inl ⟨rfl,rfl⟩⟩,λp hp=>by simp at hp⟩
theorem J5 (h : ua w B a k c R T) (ha : a ≠ none) : B<=an a/\an a<w.heap.size:=by
 rcases h.own.2 with ⟨hv,_⟩ | ⟨g,cap,cur,hv,hg,hh,_⟩
 ·cases hv;exact absurd rfl ha
 ·cases hv;exact ⟨hg,(Array.getElem?_eq_some_iff.1 hh).1⟩
theorem bu (h : ua w B a k c R T) (hs : w.heap.size<=w'.heap.size) (h1 : a ≠ none->w'.heap[an a]? = w.heap[an a]?) (h2 : ∀r ∈ R,r.1 ≠ none->w'.heap[an r.1]? = w.heap[an r.1]?) : ua w' B a k c R T:=by
 refine ⟨h.rl,h.tl,⟨h.own.1,?_⟩,λp hp=>?_⟩
 ·rcases h.own.2 with hn | ⟨g,cap,cur,hv,hg,hh,r⟩
  ·exact .inl hn
  ·cases hv
   exact .inr ⟨g,_,cur,rfl,hg,by rw [show w'.heap[g]? = w.heap[g]? from h1 (by simp)];exact hh,r⟩
 ·obtain ⟨g1,g2,g3⟩:=h.row p hp;have hm : p.1 ∈ R:=(List.of_mem_zip (a:=p.1) (b:=p.2) hp).1;refine ⟨g1.of_block λhn=>h2 p.1 hm λe=>?_,λhn=>⟨(g2 hn).1,ME (g2 hn).2 hs⟩,g3⟩;have:=g1.pl hn;rw [e] at this;cases this
theorem ah (h : ua w B a k c R T) (hb : Rs w w') : ua w' B a k c R T :=
 h.bu hb.size (λha=>hb.block _ (h.J5 ha).2) λr hr hn=>by
  obtain ⟨i,hi,rfl⟩:=List.mem_iff_getElem.1 hr;have hi2 : i<T.length:=by rw [h.tl,<- h.rl];exact hi
  exact hb.block _ ((h.row (R[i],T[i]) (List.mem_iff_getElem.2 ⟨i,by simp;omega,by simp⟩)).2.1 hn).2
theorem Gd (h : ua w B a k c R T) {r : OA × Nat} (hr : r ∈ R) (hn : r.1 ≠ none) : (B<=an r.1/\an r.1<w.heap.size)/\cF a (an r.1):=by
 obtain ⟨i,hi,rfl⟩:=List.mem_iff_getElem.1 hr;have hi2 : i<T.length:=by rw [h.tl,<- h.rl];exact hi
 have h1:=h.row (R[i],T[i]) (List.mem_iff_getElem.2 ⟨i,by simp;omega,by simp⟩);exact ⟨h1.2.1 hn,h1.2.2 hn⟩
theorem grown {au : OA} {nu cu : Nat} (h : ua w B a k c R T) (hg : w.grownBy w' (Value.slice au nu cu).ownBlock) (h1 : a ≠ none->cF au (an a)) (h2 : ∀r ∈ R,r.1 ≠ none->cF au (an r.1)) : ua w' B a k c R T :=
 h.bu hg.size (λha=>hg.block _ (h.J5 ha).2 λe=>(h1 ha).own nu cu e.symm) λr hr hn=>hg.block _ (h.Gd hr hn).1.2 λe=>(h2 r hr hn).own nu cu e.symm
theorem push {sa a5 : OA} {sc c5 : Nat} {S : Lz} {rk : Int} (h : ua V B a k c R T) (hS : Ints V sa S.length S) (hSB : sa ≠ none->B<=an sa/\an sa<V.heap.size) (hSa : sa ≠ none->cF a (an sa))
  (hown5 : w5.ownsRow B 64 2 (.slice a5 (k+1) c5) (k+1) (GX R T ++ [.slice sa S.length sc,.int .i64 rk])) (hgr5 : V.grownBy w5 (Value.slice a k c).ownBlock)
  (hap5 : ∀b,b<V.heap.size->cF a b->cF a5 b) : ua w5 B a5 (k+1) c5 (R ++ [(sa,sc)]) (T ++ [(S,rk)]):=by
 refine ⟨by simp [h.rl],by simp [h.tl],by rw [Ah _ _ R T (by rw [h.rl,h.tl])];exact hown5,λp hp=>?_⟩;rw [List.zip_append (by rw [h.rl,h.tl])] at hp;rcases List.mem_append.1 hp with hp | hp
 ·obtain ⟨g1,g2,g3⟩:=h.row p hp;refine ⟨g1.of_block λhn=>?_,λhn=>⟨(g2 hn).1,ME (g2 hn).2 hgr5.size⟩,λhn=>hap5 _ (g2 hn).2 (g3 hn)⟩;have hne : p.1.1 ≠ none:=λe=>by have:=g1.pl hn;rw [e] at this;cases this
  exact hgr5.block _ (g2 hne).2 λe=>(g3 hne).own k c e.symm
 ·simp at hp;subst hp;refine ⟨hS.of_block λhn=>?_,λhn=>⟨(hSB hn).1,ME (hSB hn).2 hgr5.size⟩,λhn=>hap5 _ (hSB hn).2 (hSa hn)⟩;have hne : sa ≠ none:=λe=>by have:=hS.pl hn;rw [e] at this;cases this
  exact hgr5.block _ (hSB hne).2 λe=>(hSa hne).own k c e.symm
end ua
end
end Go.Proofs.YtcfmiocdlcapoaaGreat
