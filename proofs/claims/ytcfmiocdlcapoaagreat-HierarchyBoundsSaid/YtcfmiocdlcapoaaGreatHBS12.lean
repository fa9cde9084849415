import Derived.Test.YtcfmiocdlcapoaaGreatHBS8
import Derived.Test.YtcfmiocdlcapoaaGreatHBS7
namespace Go.Proofs.YtcfmiocdlcapoaaGreat
set_option linter.all false
set_option maxRecDepth 100000
set_option maxHeartbeats 4000000
open Go.RowKit Tryz
def zj (w0 : World) (bb b : Nat) (ar : OA) (R : Z4) (ap av : OA) (O : aJ) (s : BS) (v : Lz) (w : World) (e : Ending) (w' : World) : Prop :=
 ∃ar' cr' R' ap' cp',e = .returned (.bool (s.eh O v))/\nS w' w0.heap.size bb b ar' cr' R' ap' cp' (s.next O v) /\
  aw w w' (λx=>td bb ar R ap x\/(av ≠ none/\x=an av)) (td bb ar' R' ap')
theorem FY {w w0 : World} {b : Nat} {G : cJ} (bb : Nat) (ar : OA) (cr : Nat) (R : Z4) (ap : OA) (cp : Nat) (s : BS) (av : OA) (cv n : Nat) (v : Lz)
  (h : dW w0 b G) (hb : Rs w0 w) (hB : nS w w0.heap.size bb b ar cr R ap cp s) (hs : s.Ok G.El n) (hv : w.ownsRow w0.heap.size 3 1 (.slice av n cv) n (v.map (Value.int .i64)))
  (hav : av ≠ none->¬ td bb ar R ap (an av)) (hve : G.Ei v) (hn : n<=1000000) (hk : s.rows.length<=1000000) :
  Calls prog 132 #[.pointer (some ⟨bb,0,none⟩),.slice av n cv] w (zj w0 bb b ar R ap av G.ops s v w):=by
 have hvl : v.length=n:=by simpa using jT hv
 have hpv:=(QR hv).1.pl;have hcl:=Q6 h;have hred:=oL hcl hs.rws hs.plc ⟨hvl,hve⟩;have Hred:=Z5 hred;have Hvl:=Z5 hvl;have Hs:=Z5 hs;have Hve:=Z5 hve;have c1:=hB.c1;have hplr:=hB.om.pl;clear hred hvl hs hve;go_enter func132,ntmps132;go_wp2_with fail;obtain ⟨kk,hkk⟩ : ∃kk,s.rows.length=kk:=⟨_,rfl⟩
 have Hkk:=Z5 hkk;rw [hkk] at hk hplr c1;rw [hkk];clear hkk;go_loopw [18] (λiv wr=>∃k : Nat,k<=kk/\iv = .int .i64 k/\wr.ownsRow w0.heap.size 3 1 (.slice av n cv) n ((bU G.ops s.rows s.place v k).map (Value.int .i64))/\de av w wr) (λiv _=>kk - (intOf iv).toNat);case atStart=>exact ⟨0,Mj _,rfl,hv,Rb _ _⟩
 case round =>
  obtain ⟨k,hkk2,rfl,hown,honly⟩:=hrel
  have hBr:=hB.only honly hav
  by_cases hlt : k<kk
  ·have hkr : k<s.rows.length:=by rw [Hkk.out];exact hlt
   have e0:=hBr.c0
   have e2:=hBr.c2
   have er:=hBr.om.cell hkr
   have ir:=hBr.om.ints hkr
   have hrow:=Hs.out.rws.row hkr
   have hplc:=Hs.out.plc k hkr
   rw [hrow.1] at er ir
   obtain ⟨ip,mp⟩:=QR hBr.pl
   have ep:=ip.cell k hkr
   have hpp:=ip.pl
   rw [Hkk.out] at e2 hpp
   obtain ⟨pn,hpn⟩ : ∃pn : Nat,nth s.place k=pn:=⟨(nth s.place k).toNat,by omega⟩
   rw [hpn] at ep hplc
   have hpnn : pn<n:=by omega
   have hrd:=Hred.out k (by omega)
   have hrd1:=Hred.out (k+1) (by omega)
   have hstep : bU G.ops s.rows s.place v (k+1)=eE G.ops (bU G.ops s.rows s.place v k) pn (ai s.rows k):=by rw [bU,hpn]
   have Hstep:=Z5 hstep
   have Hrow:=Z5 hrow
   have Hpn:=Z5 hpn
   clear hstep hpn
   obtain ⟨u,hu⟩ : ∃u,bU G.ops s.rows s.place v k=u:=⟨_,rfl⟩
   rw [hu] at hown hrd
   have Hu:=Z5 hu
   obtain ⟨iu,mu⟩:=QR hown
   have eu:=iu.cell pn hpnn
   have hpu:=iu.pl
   have Hrd:=Z5 hrd
   clear hu hrow hrd hrd1
   by_cases hz : nth u pn=0
   ·have hz' : (nth u pn != 0)=false:=by simpa using hz
    have Hn : Hid (bU G.ops s.rows s.place v (k+1)=u):=by show _=_;rw [Hstep.out,Hu.out,eE,Mm,Mg hz]
    clear hz
    go_wp2_with fail
    go_roundw
    case rel=>exact ⟨k+1,by omega,by go_num,by rw [Hn.out];exact hown,honly⟩
    case measure=>simp [intOf] <;> omega
   ·have hz' : (nth u pn != 0)=true:=by simpa using hz
    have Hn : Hid (bU G.ops s.rows s.place v (k+1)=dZ G.ops u (nth u pn) (ai s.rows k)):=by show _=_;rw [Hstep.out,Hu.out,eE,Mm,Mh hz]
    have hxe : G.El (nth u pn):=Hrd.out.2 _ (aN (by rw [Hrd.out.1];exact hpnn))
    have hSl : (dZ G.ops u (nth u pn) (ai s.rows k)).length=u.length:=fp _ _ _ _ (by rw [Hrow.out.1,Hrd.out.1])
    have hSn:=λi hi=>eX G.ops u (nth u pn) (ai s.rows k) i (by rw [Hrow.out.1,Hrd.out.1]) hi
    have HSl:=Z5 hSl
    have HSn:=Z5 hSn
    clear hz hSl hSn
    have hplr2:=ir.pl
    go_wp2_with fail
    generalize nth u pn=x at *
    generalize dZ G.ops u x (ai s.rows k)=S at *
    go_loopw [37] (λiv wx=>∃j : Nat,j<=n/\iv = .int .i64 j/\wx.ownsRow w0.heap.size 3 1 (.slice av n cv) n ((fA S u j).map (Value.int .i64))/\de av w wx) (λiv _=>n - (intOf iv).toNat)
    case atStart=>exact ⟨0,Mj _,rfl,by rw [eU];exact hown,honly⟩
    case round =>
     obtain ⟨j,hj,rfl,hown2,honly2⟩:=hrel
     have hBx:=hB.only honly2 hav
     have ix:=hBx.om.ints hkr
     rw [Hrow.out.1] at ix
     by_cases hjn : j<n
     ·have cj:=ix.cell j hjn
      have f0:=hBx.c0
      obtain ⟨im,mm⟩:=QR hown2
      have cm:=im.cell j hjn
      have fm:=(mm (by omega)).2 j hjn
      have hju : j<u.length:=by rw [Hrd.out.1];exact hjn
      have hmix:=eO S u j j HSl.out (by omega)
      rw [Mh (by omega)] at hmix
      rw [hmix] at cm
      have hset:=eH S u j HSl.out hju
      rw [HSn.out j hju] at hset
      have Hset:=Z5 hset
      have ely : G.El (nth (ai s.rows k) j):=Hrow.out.2 _ (aN (by rw [Hrow.out.1];exact hjn))
      have elv : G.El (nth u j):=Hrd.out.2 _ (aN hju)
      have elm : ∀x y,G.El (G.mul x y):=λx y=>Rc h x y
      have hbx : Rs w0 wr:=MS hb (honly2.below (λha=>(aZ hv ha).1) hb.size)
      have hGr : dW wr b G:=h.ah hbx
      have HG : Hid (dW wr.drew b G/\∀n,dW (wr.drewN n) b G):=⟨hGr.ah (Mi _ _).drew,λn=>hGr.drewN n⟩
      clear hset hmix
      go_wp2_with fail
      go_region_law ((first
       | (go_simp;go_at_call 153;((with_reducible refine (oK x (nth (ai s.rows k) j) HG.out.1 hxe ely).mono ?_);rintro e w4 ⟨m4,rfl,rfl⟩))
       | (go_simp;go_at_call 153;((with_reducible refine (oK x (nth (ai s.rows k) j) (HG.out.2 _) hxe ely).mono ?_);rintro e w4 ⟨m4,rfl,rfl⟩))
       | (go_simp;go_at_call 191;((with_reducible refine (KK (nth u j) (G.mul x (nth (ai s.rows k) j)) (HG.out.2 _) elv (elm _ _)).mono ?_);rintro e w4 ⟨m5,rfl,rfl⟩))))
      all_goals (
       go_wp2_with fail
       go_roundw
       case rel =>
        have hdr : bs wr (wr.drewN (1+m4+m5)):=⟨_,rfl⟩
        refine ⟨j+1,by omega,by go_num,?_,honly2.trans ((Q2 hdr).trans (Ra _ j _ (by intro e;have:=hpv (by omega);rw [e] at this;cases this)))⟩
        have h1:=bN (w:=wr.drewN (1+m4+m5)) hown2 j hjn (.int .i64 (G.sub (nth u j) (G.mul x (nth (ai s.rows k) j))))
        rw [<- MH,show G.sub (nth u j) (G.mul x (nth (ai s.rows k) j))=G.ops.add (nth u j) (G.ops.neg (G.ops.mul x (nth (ai s.rows k) j))) from rfl,Hset.out] at h1
        exact h1
       case measure=>simp [intOf] <;> omega)
     ·obtain rfl : j=n:=by omega
      rw [fT S u j (by rw [HSl.out,Hrd.out.1]) Hrd.out.1] at hown2
      go_wp2_with fail
      go_roundw
      case rel=>exact ⟨k+1,by omega,by go_num,by rw [Hn.out];exact hown2,honly2⟩
      case measure=>simp [intOf] <;> omega
  ·obtain rfl : k=kk:=by omega
   have hrd:=Hred.out k (by rw [Hkk.out];exact Mf _)
   have hurd : bU G.ops s.rows s.place v k=s.red G.ops v:=by rw [BS.red,Hkk.out]
   rw [hurd] at hown hrd
   obtain ⟨iu,mu⟩:=QR hown
   have Hrd:=Z5 hrd
   clear hurd hrd
   go_wp2_with fail
   refine (Aw _ _ _ _ _ iu).mono ?_
   rintro e w' ⟨rfl,rfl⟩
   by_cases hf : gJ (s.red G.ops v)<(s.red G.ops v).length
   ·have hfv : i6 (s.red G.ops v)=gJ (s.red G.ops v):=by rw [i6,Mg hf]
    have hfn:=kn _ hf
    have Ht : Hid (s.eh G.ops v=true):=by show _=_;simpa [BS.eh] using hf
    have HN : Hid (s.next G.ops v=⟨s.rows ++ [(s.red G.ops v).map (G.mul (G.inv (nth (s.red G.ops v) (gJ (s.red G.ops v)))))],s.place ++ [(gJ (s.red G.ops v) : Int)]⟩):=by show _=_;rw [BS.next,Mg Ht.out];rfl
    rw [hfv]
    obtain ⟨u,hu⟩ : ∃u,s.red G.ops v=u:=⟨_,rfl⟩
    rw [hu] at hown Hrd hf hfn iu HN
    rw [hu]
    clear hu hfv
    obtain ⟨f,hff⟩ : ∃f,gJ u=f:=⟨_,rfl⟩
    rw [hff] at hf hfn HN
    rw [hff]
    have hfn' : f<n:=by rw [<- Hrd.out.1];exact hf
    have e0:=hBr.c0
    have eu:=iu.cell f hfn'
    have hpu:=iu.pl
    have elf : G.El (nth u f):=Hrd.out.2 _ (aN hf)
    have hbx : Rs w0 wr:=MS hb (honly.below (λha=>(aZ hv ha).1) hb.size)
    have hGr : dW wr b G:=h.ah hbx
    have HG : Hid (dW wr.drew b G/\∀n,dW (wr.drewN n) b G):=⟨hGr.ah (Mi _ _).drew,λn=>hGr.drewN n⟩
    have Hfn:=Z5 hfn
    have Hf:=Z5 hf
    clear hff hfn hf
    go_upto_region 15 with fail
    go_cut [11] (λdv wx=>dv = .int .i64 (G.inv (nth u f))/\bs wr wx)
    case first =>
     go_region_held3 (λw'=>w'.cell? ⟨bb,0,none⟩=some (.pointer (some ⟨b,0,none⟩))/\w'.cell? ⟨an av,aP av+f,none⟩=some (.int .i64 (nth u f)))
      (exact ⟨e0,eu⟩)
      (first
      | (go_at_call 193;((with_reducible refine (Ax _ HG.out.1 elf Hfn.out).mono ?_);rintro e w4 ⟨m4,rfl,rfl⟩)))
     all_goals (
      go_step;go_step
      go_meet
      exact ⟨rfl,⟨_,rfl⟩⟩)
    obtain ⟨rfl,hdr⟩:=hcut
    generalize wc=V at *
    have hBV : nS V w0.heap.size bb b ar cr R ap cp s:=hBr.ah hdr.below
    have hownV:=ba hown hdr.below
    have hbV : Rs w0 V:=hdr.xR hbx
    have honV : de av w V:=honly.trans (Q2 hdr)
    clear hBr hown hbx hGr HG e0 eu iu mu hdr honly
    obtain ⟨iu,mu⟩:=QR hownV
    have HGV : Hid (dW V.drew b G/\∀n,dW (V.drewN n) b G):=⟨(h.ah hbV).ah (Mi _ _).drew,λn=>(h.ah hbV).drewN n⟩
    have hiel : G.El (G.inv (nth u f)):=Rj h _
    have e0:=hBV.c0
    have e1:=hBV.c1
    have f1:=hBV.fr 1
    have hS : ∀W,Rs V W->W.cell? ⟨bb,0,none⟩=some (.pointer (some ⟨b,0,none⟩))/\W.cell? ⟨bb,1,none⟩=some (.slice ar s.rows.length cr)/\W.frozen? ⟨bb,1,none⟩=false/\Rs V W:=by intro W hW;have hBW:=hBV.ah hW;exact ⟨hBW.c0,hBW.c1,hBW.fr 1,hW⟩
    have HS:=Z5 hS
    have haptb : cF ar bb:=by
     by_cases ha : ar=none
     ·exact .inl ha
     ·exact .inr λe=>hBV.d1 (.inl ⟨ha,e.symm⟩)
    have hR : ∀W,Rs V W->W.ownsRow w0.heap.size 22 1 (.slice ar k cr) k (List.zipWith jx R s.rows):=λW hW=>by have:=(hBV.om.ah hW).own;rwa [Hkk.out] at this
    have HR:=Z5 hR
    obtain ⟨N,hN⟩ : ∃N,u.map (G.mul (G.inv (nth u f)))=N:=⟨_,rfl⟩
    have hsc : Calls prog 194 #[.pointer (some ⟨b,0,none⟩),.int .i64 (G.inv (nth u f)),.slice av n cv] V.drew (cX V.drew N):=by rw [<- hN];exact wT (G.inv (nth u f)) _ _ _ u HGV.out.1 hiel (iu.ah (Mi _ _).drew) Hrd.out.2 hn
    have Hsc:=Z5 hsc
    have HNe:=Z5 hN
    rw [hN] at HN
    clear hN hsc
    clear hS hR
    go_upto_region 16 with fail
    go_cut [] (λwx=>∃ar' cr' R',wx.cell? ⟨bb,1,none⟩=some (.slice ar' (k+1) cr')/\aY wx w0.heap.size ar' (k+1) cr' R' (s.rows ++ [N]) /\
     aw V wx (λx=>x=bb\/bS ar R x) (λx=>x=bb\/bS ar' R' x)/\¬ bS ar' R' bb /\
     (∀i v,i ≠ 1->V.cell? ⟨bb,i,none⟩=some v->wx.cell? ⟨bb,i,none⟩=some v)/\∀i,wx.frozen? ⟨bb,i,none⟩=false)
    case first =>
     rw [Hkk.out] at e1 HS
     go_region_law ((first
      | (go_simp;go_at_call 194;((with_reducible refine Hsc.out.mono ?_);rintro e w4 ⟨a4,c4,rfl,hown4,hb4⟩;obtain ⟨q0,q1,q2,q5⟩:=HS.out w4 (QQ (Mi _ _).drew hb4);have q6 : bb<w4.heap.size:=Mn w4 _ q0))
      | (refine iQ (by rfl) (.tmp 83) (.tmp 91) 25 22 (by rfl) (.slice none 0 0) 24 underlying25 fg (by rfl) w0.heap.size ar k cr (List.zipWith jx R s.rows) (by rfl) (HR.out _ (QQ q5 (aB _ _))) (some ⟨w4.heap.size,0,none⟩) 1 1 [.slice a4 N.length c4] (by rfl) (λ_=>rfl) rfl (by intro j hj;obtain rfl : j=0:=(by omega);exact dq _ _ _ rfl) (by intro y hy;simp at hy;subst hy;rfl) (by omega) (by unfold maxLen;omega) (by have e1:=hbV.size;have e2:=NW q5;simp;omega) ?_;intro a5 c5 w5 hown5 hgr5 hap5;have p1:=bA hgr5 (aM q1 _) haptb;have p2 : w5.frozen? ⟨bb,1,none⟩=false:=(MD (hgr5.block bb (Mn _ _ (aM q1 _)) (λe=>haptb.own k cr e.symm))).trans (cR (Mn _ _ q1) q2 _))))
     all_goals (
      go_wp2_with fail
      go_meet
      exact hBV.Ii Hkk.out hbV.size (QQ (Mi _ _).drew hb4) hown4 hown5 hgr5 hap5 ⟨_,p1⟩)
    obtain ⟨ar',cr',R',y1,hOX,hMX,hdX,hcX,hfX⟩:=hcut
    generalize wc=X at *
    have y0:=hcX 0 _ (by omega) e0
    have y2:=hcX 2 _ (by omega) hBV.c2
    have yf:=hfX 2
    have hnI : ap ≠ none->¬ (an ap=bb\/bS ar R (an ap)):=λh0 hI=>by
     rcases hI with h1 | h1
     ·rcases hBV.d2 with h2 | h2
      ·exact h0 h2
      ·exact h2 h1
     ·exact hBV.d3 h0 h1
    have hpX:=hMX.own hBV.pl hnI
    have hd3 : ap ≠ none->¬ bS ar' R' (an ap):=λh0 hI=>hMX.not (aZ hBV.pl h0).2 (hnI h0) (.inr hI)
    rw [Hkk.out] at y2 hpX
    have hbX : Rs w0 X:=hbV.trans (hMX.below (λx hx=>(hBV.lt x (by rcases hx with h1 | h1;exact .inl h1;exact .inr (.inl h1))).1) hbV.size)
    have hz : bb<X.heap.size:=Mn X _ y0
    have HfX:=Z5 hfX
    have Hd3:=Z5 hd3
    have HdX:=Z5 hdX
    have hd2:=hBV.d2
    have hbB:=hBV.bB
    have hcn:=bm X (.int .i64 f) 3
    clear hcX hfX hd3 hdX e0 e1 f1
    go_wp2_with (at_builtin;refine bj rfl _ _ 22 3 rfl (.int .i64 0) 8 underlying22 bt rfl w0.heap.size ap k cp _ rfl (hpX.alloc _) ⟨X.heap.size,0,none⟩ 1 (.int .i64 f) rfl hcn rfl (by omega) (by unfold maxLen;omega) (by have e1:=hbX.size;simp;omega) ?_;intro a6 c6 w6 hown6 hgr6 hap6;have p1:=bA hgr6 (aM y2 _) hd2;have p2 : w6.frozen? ⟨bb,2,none⟩=false:=(MD (hgr6.block bb (Mn _ _ (aM y2 _)) (λe=>hd2.own k cp e.symm))).trans (cR hz yf _))
    have hP:=nS.FD (w6:=w6) hbB y0 y1 ⟨_,y2⟩ HfX.out hOX hpX HdX.out hd2 Hd3.out hown6 hgr6 hap6
    have HP:=Z5 hP
    clear hP
    go_ret
    refine ⟨ar',cr',R',a6,c6,bz Ht.out.symm,by rw [HN.out];exact HP.out.1,?_⟩
    refine Rg (w':=V) (I':=λx=>td bb ar R ap x\/(av ≠ none/\x=an av)) ?_ (Rg (w':=X) (I':=td bb ar' R' ap) ?_ HP.out.2)
    ·exact ⟨honV.os,honV.tape,honV.output,honV.size,λx hx hI=>honV.block x hx λh2=>hI (.inr h2),λx hx=>.inl hx⟩
    ·refine ⟨hMX.os,hMX.tape,hMX.output,hMX.size,λx hx hI=>hMX.block x hx λh2=>hI (.inl (by rcases h2 with h3 | h3;exact .inl h3;exact .inr (.inl h3))),λx hx=>?_⟩
     rcases hx with h1 | h1 | h1
     ·exact .inl (.inl (.inl h1))
     ·rcases hMX.grow x (.inr h1) with h2 | h2
      ·exact .inl (.inl (by rcases h2 with h3 | h3;exact .inl h3;exact .inr (.inl h3)))
      ·exact .inr h2
     ·exact .inl (.inl (.inr (.inr h1)))
   ·have hfv : i6 (s.red G.ops v) = -1:=by rw [i6,Mh hf]
    rw [hfv]
    have Ht : Hid (s.eh G.ops v=false):=by show _=_;simp [BS.eh];omega
    have HN : Hid (s.next G.ops v=s):=by show _=_;rw [BS.next,Mh (by rw [Ht.out];simp)]
    clear hf hfv
    go_wp2_with fail
    go_ret
    refine ⟨ar,cr,R,ap,cp,bz Ht.out.symm,by rw [HN.out];exact hBr,?_⟩
    exact ⟨honly.os,honly.tape,honly.output,honly.size,λx hx hI=>honly.block x hx λh2=>hI (.inr h2),λx hx=>.inl (.inl hx)⟩
def cO (O : aJ) (L : ZZ) (Q : Lz) : Nat->BS × Lz
 | 0=>(⟨[],[]⟩,[])
 | k+1=>((cO O L Q k).1.next O (aK L (nth Q k).toNat),if (cO O L Q k).1.eh O (aK L (nth Q k).toNat)=true then (cO O L Q k).2 ++ [nth Q k] else (cO O L Q k).2)
def jP (O : aJ) (L : ZZ) (Q : Lz) : Lz:=(cO O L Q Q.length).2
theorem BS.zK (O : aJ) (s : BS) (v : Lz) : (s.next O v).rows.length<=s.rows.length+1:=by unfold BS.next;split <;> simp
theorem aY.empty (w : World) (B : Nat) : aY w B none 0 0 [] [] :=
 ⟨rfl,rfl,bP,λi hi=>by omega,λi hi=>by omega,λi j hi=>by omega⟩
theorem nS.start {w : World} {B bb b : Nat} (hB : B<=bb) (h : bf w bb [.pointer (some ⟨b,0,none⟩),.slice none 0 0,.slice none 0 0]) : nS w B bb b none 0 [] none 0 ⟨[],[]⟩ :=
 ⟨hB,h.cell 0 rfl,h.cell 1 rfl,h.cell 2 rfl,λi=>h.frozen i,aY.empty w B,bP,λhI=>by
  rcases hI with ⟨h1,_⟩ | ⟨i,hi,_⟩
  ·exact h1 rfl
  ·simp at hi,.inl rfl,λh1=>absurd rfl h1⟩
theorem Dd {El : Int->Prop} {m : Nat} {L : ZZ} (h : bx El m L) {i : Nat} (hi : i<m) : (aK L i).length=L.length/\∀y ∈ aK L i,El y:=by refine ⟨cC _ _,λy hy=>?_⟩;unfold aK at hy;obtain ⟨r,hr,rfl⟩:=List.mem_map.1 hy;exact (h r hr).2 _ (aN (by rw [(h r hr).1];exact hi))
theorem sg {w : World} {b : Nat} {G : cJ} (P M : Int) (am : OA) (mn cm : Nat) (N : Int) (a : OA) (n c : Nat) (L : ZZ) (m : Nat) (ao : OA) (no co : Nat) (Q : Lz)
  (h : dW w b G) (hi : cU w a n L) (hR : bx G.El m L) (hq : Ints w ao no Q) (hQ : ∀k,k<no->0<=nth Q k/\nth Q k<m) (hn : n<=1000000) (hno : no<=1000000) :
  Calls prog 69 #[.pointer (some ⟨b,0,none⟩),.agg #[.int .i64 P,.int .i64 M,.slice am mn cm,.int .i64 N,.slice a n c],.slice ao no co] w (cX w (jP G.ops L Q)):=by
 have Hlen:=Z5 hi.len;have HR:=Z5 hR;have HQ:=Z5 hQ;have Hql:=Z5 hq.len;have hplq:=hq.pl;have hcl:=Z5 (Q6 h);clear hR hQ;go_enter func69,ntmps69;go_wp2_with fail;obtain ⟨W,hW⟩ : ∃W : World,W=w.alloc (.cells #[.int .i64 P,.int .i64 M,.slice am mn cm,.int .i64 N,.slice a n c] 27):=⟨_,rfl⟩
 rw [<- hW];have hbW : Rs w W:=by rw [hW];exact aB _ _
 have x0 : bf W w.heap.size [.int .i64 P,.int .i64 M,.slice am mn cm,.int .i64 N,.slice a n c]:=by rw [hW];exact QS _ _ _ rfl
 have hsW : w.heap.size+1=W.heap.size:=by rw [hW];simp
 rw [hsW];have HX:=Z5 x0;have HsW:=Z5 hsW;have hGW:=h.ah hbW;have hiW:=hi.ah hbW;have hqW:=hq.ah hbW;clear hW x0 hsW;obtain ⟨V,hV⟩ : ∃V : World,V=W.alloc (.cells #[.pointer (some ⟨b,0,none⟩),.slice none 0 0,.slice none 0 0] 152):=⟨_,rfl⟩
 rw [<- hV];have hbV : Rs W V:=by rw [hV];exact aB _ _
 have hB0 : nS V W.heap.size W.heap.size b none 0 [] none 0 ⟨[],[]⟩:=nS.start (Mf _) (by rw [hV];exact QS _ _ _ rfl);clear hV;go_loopw [8,16] (λqv iv wr=>∃(k : Nat) (aq : OA) (cq : Nat) (out : Lz) (s : BS) (ar : OA) (cr : Nat) (R : Z4) (ap : OA) (cp : Nat),k<=no/\iv = .int .i64 k/\qv = .slice aq out.length cq /\
   Hid (cO G.ops L Q k=(s,out))/\nS wr W.heap.size W.heap.size b ar cr R ap cp s/\wr.ownsRow W.heap.size 3 1 (.slice aq out.length cq) out.length (out.map (Value.int .i64))/\Hid (aq ≠ none->¬ td W.heap.size ar R ap (an aq)) /\
   Rs W wr/\Hid (s.Ok G.El n)/\s.rows.length<=k/\out.length<=k)
  (λ_ iv _=>no - (intOf iv).toNat)
 case atStart=>exact ⟨0,none,0,[],⟨[],[]⟩,none,0,[],none,0,Mj _,rfl,rfl,rfl,hB0,bP,λh0=>absurd rfl h0,hbV,⟨λr hr=>by simp at hr,rfl,λi hi=>by simp at hi⟩,Mj _,Mj _⟩
 case round =>
  obtain ⟨k,aq,cq,out,s,ar,cr,R,ap,cp,hk,rfl,rfl,hst,hBr,hop,hdq,hbr,hok,hsk,hok2⟩:=hrel
  generalize wr=U at *
  by_cases hlt : k<no
  ·have cq1:=(hqW.ah hbr).cell k hlt
   have hQk:=HQ.out k hlt
   obtain ⟨i,hik⟩ : ∃i : Nat,nth Q k=i:=⟨(nth Q k).toNat,by omega⟩
   rw [hik] at cq1 hQk
   have him : i<m:=by omega
   have xU:=HX.out.ah hbr
   have b0:=xU.cell 0 rfl
   have b1:=xU.cell 1 rfl
   have b2:=xU.cell 2 rfl
   have b3:=xU.cell 3 rfl
   have b4:=xU.cell 4 rfl
   have hcol:=Dd HR.out him
   rw [Hlen.out] at hcol
   have hstep : cO G.ops L Q (k+1)=(s.next G.ops (aK L i),if s.eh G.ops (aK L i)=true then out ++ [(i : Int)] else out):=by rw [cO,hst.out,hik,Mm]
   have Hstep:=Z5 hstep
   have Hcol:=Z5 hcol
   clear xU hstep hcol hik
   go_wp2_with fail
   refine (Ba P M am mn cm N a n c L i U (hiW.ah hbr) (λr hr=>by rw [(HR.out r hr).1];exact him) hn).mono ?_
   rintro e w3 ⟨a3,c3,rfl,hown3,hb3⟩
   rw [Hcol.out.1] at hown3
   rw [Hcol.out.1]
   have hB3:=hBr.ah hb3
   have hbw3:=QQ hbr hb3
   have hn3 : a3 ≠ none->¬ td W.heap.size ar R ap (an a3):=λh0 hI=>by have h1:=(aZ hown3 h0).1;have h2:=(hBr.lt _ hI).2;omega
   go_wp2_with fail
   refine (FY W.heap.size ar cr R ap cp s a3 c3 n (aK L i) hGW hbw3 hB3 hok.out (bg hown3 hbr.size) hn3 Hcol.out.2 hn (by omega)).mono ?_
   rintro e w4 ⟨ar',cr',R',ap',cp',rfl,hB4,hM4⟩
   have hbw4 : Rs W w4:=hbw3.trans (hM4.below (λx hx=>by
    rcases hx with h1 | ⟨h1,h2⟩
    ·exact (hB3.lt x h1).1
    ·rw [h2];exact Mt hbr.size (aZ hown3 h1).1) hbw3.size)
   have hop3:=ba hop hb3
   have hnI : aq ≠ none->¬ (td W.heap.size ar R ap (an aq)\/(a3 ≠ none/\an aq=an a3)):=λh0 hI=>by
    rcases hI with h1 | ⟨h1,h2⟩
    ·exact hdq.out h0 h1
    ·have e1:=(aZ hop h0).2;have e2:=(aZ hown3 h1).1;omega
   have hop4:=hM4.own hop3 hnI
   have hdq4 : aq ≠ none->¬ td W.heap.size ar' R' ap' (an aq):=λh0=>hM4.not (aZ hop3 h0).2 (hnI h0)
   have hok4 : (s.next G.ops (aK L i)).Ok G.El n:=BS.Ok.next hcl.out hok.out Hcol.out
   have hlen4:=BS.zK G.ops s (aK L i)
   have Hok4:=Z5 hok4
   have Hdq4:=Z5 hdq4
   clear hnI hdq4 hok4 b0 b1 b2 b3 b4
   by_cases ht : s.eh G.ops (aK L i)=true
   ·rw [ht]
    have Hst : Hid (cO G.ops L Q (k+1)=(s.next G.ops (aK L i),out ++ [(i : Int)])):=by show _=_;rw [Hstep.out,Mg ht]
    clear ht
    generalize s.next G.ops (aK L i)=s' at *
    have hcn:=bm w4 (.int .i64 i) 3
    have hbn:=aB w4 (.cells #[.int .i64 i] 3)
    have hsz4:=hbw4.size
    go_wp2_with (at_builtin;refine bj rfl _ _ 22 3 rfl (.int .i64 0) 8 underlying22 bt rfl W.heap.size aq out.length cq _ rfl (hop4.alloc _) ⟨w4.heap.size,0,none⟩ 1 (.int .i64 i) rfl hcn rfl (by omega) (by unfold maxLen;omega) (by simp;omega) ?_;intro a5 c5 w5 hown5 hgr5 hap5)
    go_roundw
    case rel =>
     have hBn:=hB4.ah hbn
     have haq : ∀x,td W.heap.size ar' R' ap' x->cF aq x:=λx hx=>by
      by_cases h0 : aq=none
      ·exact .inl h0
      ·exact .inr λe=>Hdq4.out h0 (e ▸ hx)
     have hB5 : nS w5 W.heap.size W.heap.size b ar' cr' R' ap' cp' s':=hBn.bu λx hx=>hgr5.block x (hBn.lt x hx).2 λe=>(haq x hx).own _ _ e.symm
     have hb5 : Rs W w5:=QT (MS hbw4 (hbn.mono hsz4)) (hop4.alloc _) hgr5 (Mf _) (Mt hsz4 hbn.size)
     refine ⟨k+1,a5,c5,out ++ [(i : Int)],s',ar',cr',R',ap',cp',by omega,by go_num,by simp,Hst.out,hB5,?_,?_,hb5,Hok4.out,by omega,by simp;omega⟩
     ·simpa using hown5
     ·show a5 ≠ none->_
      intro h0 hI
      rcases hap5 _ (hBn.lt _ hI).2 (haq _ hI) with h1 | h1
      ·exact h0 h1
      ·exact h1 rfl
    case measure=>simp [intOf] <;> omega
   ·have ht' : s.eh G.ops (aK L i)=false:=by simpa using ht
    rw [ht']
    have Hst : Hid (cO G.ops L Q (k+1)=(s.next G.ops (aK L i),out)):=by show _=_;rw [Hstep.out,Mh ht]
    clear ht ht'
    generalize s.next G.ops (aK L i)=s' at *
    go_wp2_with fail
    go_roundw
    case rel=>exact ⟨k+1,aq,cq,out,s',ar',cr',R',ap',cp',by omega,by go_num,rfl,Hst.out,hB4,hop4,Hdq4.out,hbw4,Hok4.out,by omega,by omega⟩
    case measure=>simp [intOf] <;> omega
  ·obtain rfl : k=no:=by omega
   have Ho : Hid (jP G.ops L Q=out):=by show _=_;rw [jP,Hql.out,hst.out]
   go_wp2_with fail
   go_ret
   exact ⟨aq,cq,by rw [Ho.out];rfl,by rw [Ho.out];exact bg hop hbW.size,QQ hbW hbr⟩
theorem aY.JB (w : World) (B : Nat) : aY w B none 0 0 [] [] :=
 ⟨rfl,rfl,bP,λi hi=>by omega,λi hi=>by omega,λi j hi=>by omega⟩
theorem BN (P : Int) (m : Nat) (am : OA) (mn cm : Nat) (mod : Lz) (av : OA) (n cv : Nat) (v : Lz) (s : Int) (au : OA) (cu : Nat) (u : Lz) (w : World) (hf : vW w P m am mn mod) (hs : fC P m s)
  (hi : Ints w av n v) (hu : Ints w au n u) (hve : ∀x ∈ v,fC P m x) (hue : ∀x ∈ u,fC P m x) (hn : n<=1000000) :
  Calls prog 115 #[.agg #[.int .i64 P,.int .i64 m,.slice am mn cm],.slice av n cv,.int .i64 s,.slice au n cu] w (cX w (bW (mQ P m mod) v s u)):=by
 have hrf:=hf.rf;have Hs:=Z5 (hrf.jO hs);have Hvl:=Z5 hi.len;have Hul:=Z5 hu.len;have hplv:=hi.pl;have hplu:=hu.pl;have Hev : Hid (∀k,k<n->jO (aU P m) (nth v k)=true):=λk hk=>hrf.jO (hve _ (aN (by rw [hi.len];exact hk)));have Heu : Hid (∀k,k<n->jO (aU P m) (nth u k)=true):=λk hk=>hrf.jO (hue _ (aN (by rw [hu.len];exact hk)));have HNl : Hid ((bW (mQ P m mod) v s u).length=n):=by show _=_;rw [fo _ _ _ _ (by rw [hi.len,hu.len]),hi.len]
 have HNn : Hid (∀k,k<n->nth (bW (mQ P m mod) v s u) k=if nth u k=0 then nth v k else eD P m (nth v k) (mulR P m mod s (nth u k))):=λk hk=>jH (mQ P m mod) v s u k (by rw [hi.len,hu.len]) (by rw [hi.len];exact hk);obtain ⟨NN,hNN⟩ : ∃NN,bW (mQ P m mod) v s u=NN:=⟨_,rfl⟩
 rw [hNN] at HNl HNn;rw [hNN];clear hve hue hNN;go_enter func115,ntmps115;go_wp2_with (at_make;refine b9 rfl _ _ 22 3 rfl (.int .i64 0) 8 underlying22 bt rfl n rfl rfl (by omega) (by unfold maxLen;omega) ?_;intro a1 w1 hown hbel hge hlt);obtain ⟨W,hW⟩ : ∃W : World,W=w.alloc (.cells #[.int .i64 P,.int .i64 m,.slice am mn cm] 24):=⟨_,rfl⟩
 rw [<- hW] at hown hbel hge;have hbW : Rs w W:=by rw [hW];exact aB _ _
 have x0 : bf W w.heap.size [.int .i64 P,.int .i64 m,.slice am mn cm]:=by rw [hW];exact QS _ _ _ rfl
 have hfW:=hf.ah hbW;have hiW:=hi.ah hbW;have huW:=hu.ah hbW;have hS : ∀k,k<n->∀V,Rs W V->V.cell? ⟨w.heap.size,0,none⟩=some (.int .i64 P)/\V.cell? ⟨w.heap.size,1,none⟩=some (.int .i64 m)/\V.cell? ⟨w.heap.size,2,none⟩=some (.slice am mn cm) /\
   V.cell? ⟨an av,aP av+k,none⟩=some (.int .i64 (nth v k))/\V.cell? ⟨an au,aP au+k,none⟩=some (.int .i64 (nth u k))/\Rs W V:=by intro k hk V hV;have x1:=x0.ah hV;exact ⟨x1.cell 0 rfl,x1.cell 1 rfl,x1.cell 2 rfl,(hiW.ah hV).cell k hk,(huW.ah hV).cell k hk,hV⟩
 have HS:=Z5 hS;clear hW x0 hS;go_loopw [10] (λiv wr=>∃k : Nat,k<=n/\iv = .int .i64 k /\
   wr.ownsRow W.heap.size 3 1 (.slice a1 n n) n ((dn (NN.take k) k n).map (Value.int .i64))/\Rs W wr)
  (λi _=>n - (intOf i).toNat)
 case atStart=>exact ⟨0,Mj _,rfl,by simpa [dn] using hown,hbel⟩
 case round =>
  obtain ⟨k,hk,rfl,hown,hbel⟩:=hrel
  obtain ⟨hints,hmine⟩:=QR hown
  have hpl1:=hints.pl
  by_cases hlt : k<n
  ·have hB:=(hmine (by omega)).1
   have cc:=hints.cell k hlt
   have cf:=(hmine (by omega)).2 k hlt
   obtain ⟨d0,d1,d2,d3,d4,_⟩:=HS.out k hlt wr hbel
   have hset : ∀(V : World) (z : Int),z=nth NN k->V.ownsRow W.heap.size 3 1 (.slice a1 n n) n ((dn (NN.take k) k n).map (Value.int .i64))->(V.setCell ⟨an a1,aP a1+k,none⟩ (.int .i64 z)).ownsRow W.heap.size 3 1 (.slice a1 n n) n ((dn (NN.take (k+1)) (k+1) n).map (Value.int .i64)):=by rintro V z rfl hV;have h:=bN hV k hlt (.int .i64 (nth NN k));rw [<- MH,fK _ _ _ _ (by simp [HNl.out];omega) hlt] at h;rw [Mu (by rw [HNl.out];omega)];rw [aj (by rw [HNl.out];omega)] at h ⊢;exact h
   have Hset:=Z5 hset
   have HB:=Z5 hB
   have hNk:=HNn.out k hlt
   have hown':=bN hown k hlt (.int .i64 (nth v k))
   by_cases hz : nth u k=0
   ·rw [Mg hz] at hNk
    have hz' : (nth u k != 0)=false:=by simpa using hz
    have HNk:=Z5 hNk
    have dd : (wr.setCell ⟨an a1,aP a1+k,none⟩ (.int .i64 (nth v k))).cell? ⟨an au,aP au+k,none⟩=some (.int .i64 (nth u k)):=(HS.out k hlt _ (hbel.setCell hB _)).2.2.2.2.1
    clear hset hz hNk hown'
    go_wp2_with fail
    go_roundw
    case rel=>exact ⟨k+1,by omega,by go_num,Hset.out _ _ HNk.out.symm hown,hbel.setCell HB.out _⟩
    case measure=>simp [intOf] <;> omega
   ·rw [Mh hz] at hNk
    have hz' : (nth u k != 0)=true:=by simpa using hz
    have HNk:=Z5 hNk
    obtain ⟨U,hU⟩ : ∃U : World,U=wr.setCell ⟨an a1,aP a1+k,none⟩ (.int .i64 (nth v k)):=⟨_,rfl⟩
    have hbU : Rs W U:=by rw [hU];exact hbel.setCell hB _
    have dd : (wr.setCell ⟨an a1,aP a1+k,none⟩ (.int .i64 (nth v k))).cell? ⟨an au,aP au+k,none⟩=some (.int .i64 (nth u k)):=(HS.out k hlt _ (hbel.setCell hB _)).2.2.2.2.1
    rw [<- hU] at hown'
    have hmdU:=(hfW.ah hbU).mods
    have Hmd : Hid (∀V,Rs U V->AD V P m am mn mod):=λV hV=>hmdU.ah hV
    have HK : Hid (∀V,Rs U V->(∃y,V.cell? ⟨an a1,aP a1+k,none⟩=some y)/\V.frozen? ⟨an a1,aP a1+k,none⟩=false/\V.ownsRow W.heap.size 3 1 (.slice a1 n n) n (((dn (NN.take k) k n).map (Value.int .i64)).set k (.int .i64 (nth v k)))):=λV hV=>by have ho:=ba hown' hV;have h5:=bC ho k hlt;exact ⟨⟨_,by rw [h5.1,MP (by rw [h5.2.2.2.1];exact hlt)]⟩,h5.2.1,ho⟩
    have HbU:=Z5 hbU
    have HelM : Hid (jO (aU P m) (mulR P m mod s (nth u k))=true):=hrf.jO (wZ hrf mod _ _)
    have HSk : Hid (∀V,Rs W V->V.cell? ⟨w.heap.size,0,none⟩=some (.int .i64 P)/\V.cell? ⟨w.heap.size,1,none⟩=some (.int .i64 m)/\V.cell? ⟨w.heap.size,2,none⟩=some (.slice am mn cm) /\
     V.cell? ⟨an av,aP av+k,none⟩=some (.int .i64 (nth v k))/\V.cell? ⟨an au,aP au+k,none⟩=some (.int .i64 (nth u k))/\Rs W V):=HS.out k hlt
    have hset2 : ∀V : World,V.ownsRow W.heap.size 3 1 (.slice a1 n n) n (((dn (NN.take k) k n).map (Value.int .i64)).set k (.int .i64 (nth v k))) ->
      (V.setCell ⟨an a1,aP a1+k,none⟩ (.int .i64 (eD P m (nth v k) (mulR P m mod s (nth u k))))).ownsRow W.heap.size 3 1 (.slice a1 n n) n ((dn (NN.take (k+1)) (k+1) n).map (Value.int .i64)):=by intro V hV;rw [<- HNk.out];have h:=bN hV k hlt (.int .i64 (nth NN k));rw [List.set_set,<- MH,fK _ _ _ _ (by simp [HNl.out];omega) hlt] at h;rw [Mu (by rw [HNl.out];omega)];rw [aj (by rw [HNl.out];omega)] at h ⊢;exact h
    have Hset2:=Z5 hset2
    clear hset hz hNk hown' hmdU hbU hset2
    go_wp2_with fail
    rw [<- hU]
    clear hU d0 d1 d2 d3 d4 cc cf dd hbel hints hmine hown hB
    go_region_held3 (λV=>V.cell? ⟨w.heap.size,0,none⟩=some (.int .i64 P)/\V.cell? ⟨w.heap.size,1,none⟩=some (.int .i64 m)/\V.cell? ⟨w.heap.size,2,none⟩=some (.slice am mn cm) /\
      V.cell? ⟨an av,aP av+k,none⟩=some (.int .i64 (nth v k))/\V.cell? ⟨an au,aP au+k,none⟩=some (.int .i64 (nth u k))/\Rs W V)
     ((refine HSk.out _ ?_;first | exact HbU.out.drew | exact QQ HbU.out hb7 | exact QQ HbU.out hb9 | exact (QQ HbU.out hb9).setCell HB.out _))
     (first
      | (go_at_call 180;((with_reducible refine (tJ P m am mn cm mod s (nth u k) _ hrf (Hmd.out _ (Mi _ _).drew) Hs.out (Heu.out k hlt)).mono ?_);rintro e w4 ⟨rfl,hb4⟩;have hb7 : Rs U w4:=QQ (Mi _ _).drew hb4))
      | (go_at_call 179;((with_reducible refine (Ib P m am mn cm (nth v k) (mulR P m mod s (nth u k)) _ hrf (Hev.out k hlt) HelM.out).mono ?_);rintro e w5 ⟨rfl,hb5⟩;have hb9 : Rs U w5:=QQ hb7 hb5;obtain ⟨⟨v9,k9⟩,f9,o9⟩:=HK.out w5 hb9)))
    clear k9 f9
    go_wp2_with fail
    go_roundw
    case rel=>exact ⟨k+1,by omega,by go_num,Hset2.out _ o9,(QQ HbU.out hb9).setCell HB.out _⟩
    case measure=>simp [intOf] <;> omega
  ·obtain rfl : k=n:=by omega
   have hfin : dn (NN.take k) k k=NN:=by rw [gD,Ms (by rw [HNl.out];exact Mf _)]
   rw [hfin] at hown
   clear hfin
   go_wp2_with fail
   go_ret
   exact ⟨a1,k,by rw [HNl.out];rfl,by rw [HNl.out];exact bg hown hbW.size,QQ hbW hbel⟩
theorem D9 (a : OA) (n c : Nat) (L : ZZ) (w : World) (hi : cU w a n L) (hn : n<=1000000) (hL : ∀l ∈ L,l.length<=1000000) :
  Calls prog 231 #[.slice a n c] w (Bq w L):=by
 have hpl:=hi.pl;have Hlen:=Z5 hi.len;have HL:=Z5 hL;clear hL;go_enter func231,ntmps231;go_wp2_with fail;go_loopw [3,4] (λsv iv wr=>∃(k : Nat) (a1 : OA) (c1 : Nat),k<=n/\iv = .int .i64 k/\sv = .slice a1 k c1/\(∃R,aY wr w.heap.size a1 k c1 R (L.take k))/\Rs w wr) (λ_ iv _=>n - (intOf iv).toNat);case atStart=>exact ⟨0,none,0,Mj _,rfl,rfl,⟨[],by simpa using aY.JB w w.heap.size⟩,Mi _ _⟩
 case round =>
  obtain ⟨k,a1,c1,hk,rfl,rfl,⟨R,hO⟩,hbr⟩:=hrel
  by_cases hlt : k<n
  ·obtain ⟨ra,rn,rc,hcell,hrow⟩:=(hi.ah hbr).cell k hlt
   have hkL : k<L.length:=by rw [Hlen.out];exact hlt
   have hrl : rn<=1000000:=by rw [<- hrow.len,aF hkL];exact HL.out _ (MM hkL)
   have hO1:=mL wr 3
   have hbe:=aB wr (.cells #[] 3)
   obtain ⟨l,hl⟩ : ∃l,ai L k=l:=⟨_,rfl⟩
   rw [hl] at hrow
   have Htk : Hid (L.take (k+1)=L.take k ++ [l]):=by show _=_;rw [Mu hkL,<- hl,aF hkL]
   have hrowe:=hrow.ah hbe
   have hcell2:=aM hcell (.cells #[] 3)
   have hpr:=hrow.pl
   have Hrl:=Z5 hrow.len
   have hsz:=hbr.size
   clear hl
   go_wp2_with (at_builtin;first
    | (refine iH (by rfl) (.tmp 12) (.tmp 16) 22 3 (by rfl) (.int .i64 0) 8 underlying22 bt (by rfl) wr.heap.size _ 0 0 [] (by rfl) hO1 ra rn rc (l.map (Value.int .i64)) (by rfl) hpr (by simp [Hrl.out]) (Q8 hrowe) (ints_oneCell _ _) (by omega) (by unfold maxLen;omega) (NW hbe) ?_;intro a3 c3 w3 hown3 hgr3 hap3;have hb3 : Rs wr w3:=QT (B:=wr.heap.size) (e:=3) (xs:=[]) hbe hO1 hgr3 (Mf _) (NW hbe);rw [OP] at hown3 ⊢;rw [Nv] at hown3)
    | (refine bj rfl _ _ 25 22 rfl (.slice none 0 0) 24 underlying25 fg rfl w.heap.size a1 k c1 _ rfl ((hO.ah (QQ hb3 (aB _ _))).own) ⟨w3.heap.size,0,none⟩ 1 (.slice a3 rn c3) rfl (bm w3 _ _) rfl (by omega) (by unfold maxLen;omega) (by have h1:=NW hb3;simp;omega) ?_;intro a5 c5 w5 hown5 hgr5 hap5)
    | fail)
   go_roundw
   case rel =>
    have hb4 : Rs wr (w3.alloc (.cells #[.slice a3 rn c3] 22)):=QQ hb3 (aB _ _)
    have hO4:=hO.ah hb4
    have hown4 : (w3.alloc (.cells #[.slice a3 rn c3] 22)).ownsRow w.heap.size 3 1 (.slice a3 l.length c3) l.length (l.map (Value.int .i64)):=by rw [Hrl.out];exact bg (ba hown3 (aB _ _)) hsz
    have hra : a3 ≠ none->¬ bS a1 R (an a3):=λh0 hI=>by have h1:=(aZ hown3 h0).1;have h2:=(hO.lt _ hI).2;omega
    have hP:=Re hO4 hown4 hra (by rw [Hrl.out];exact hown5) hgr5 hap5
    have hb5 : Rs w w5:=QT (QQ hbr hb4) hO4.own hgr5 (Mf _) (Mt hsz hb4.size)
    exact ⟨k+1,a5,c5,by omega,by go_num,rfl,⟨_,by rw [Htk.out];exact hP⟩,hb5⟩
   case measure=>simp [intOf] <;> omega
  ·obtain rfl : k=n:=by omega
   rw [Ms (by rw [Hlen.out];exact Mf _)] at hO
   go_wp2_with fail
   go_ret
   exact ⟨a1,c1,R,by rw [Hlen.out];rfl,by rw [Hlen.out];exact hO,hbr⟩
section
namespace bR
variable {O : aJ} {El : Int->Prop} (F : bR O El)
include F
theorem zI {x : Int} (hx : El x) : O.add 0 x=x:=by rw [F.add_comm _ _ F.zero hx,F.add_zero x hx]
theorem tw {x : Int} (hx : El x) : O.add (O.neg x) x=0:=by rw [F.add_comm _ _ (F.cl.neg x hx) hx,F.add_neg x hx]
theorem Lj {x y : Int} (hx : El x) (hy : El y) : O.add (O.neg x) (O.add x y)=y:=by rw [<- F.add_assoc _ _ _ (F.cl.neg x hx) hx hy,F.tw hx,F.zI hy]
theorem cancel {x y z : Int} (hx : El x) (hy : El y) (hz : El z) (h : O.add x y=O.add x z) : y=z:=by rw [<- F.Lj hx hy,h,F.Lj hx hz]
theorem dt {x : Int} (hx : El x) : O.mul x 0=0:=by have h0:=F.cl.mul x 0 hx F.zero;refine F.cancel h0 h0 F.zero ?_;rw [<- F.mul_add x 0 0 hx F.zero F.zero,F.add_zero 0 F.zero,F.add_zero _ h0]
theorem kj {x : Int} (hx : El x) : O.mul 0 x=0:=by rw [F.mul_comm _ _ F.zero hx,F.dt hx]
theorem iE {x : Int} (hx : El x) : O.mul x 1=x:=by rw [F.mul_comm _ _ hx F.one,F.one_mul x hx]
theorem nO {x y : Int} (hx : El x) (hy : El y) (h : O.add x y=0) : y=O.neg x :=
 F.cancel hx hy (F.cl.neg x hx) (by rw [h,F.add_neg x hx])
theorem fD : O.neg 0=0:=(F.nO F.zero F.zero (F.add_zero 0 F.zero)).symm
theorem mul_neg {x y : Int} (hx : El x) (hy : El y) : O.mul x (O.neg y)=O.neg (O.mul x y):=by have hn:=F.cl.neg y hy;refine F.nO (F.cl.mul x y hx hy) (F.cl.mul x _ hx hn) ?_;rw [<- F.mul_add x y _ hx hy hn,F.add_neg y hy,F.dt hx]
theorem neg_mul {x y : Int} (hx : El x) (hy : El y) : O.mul (O.neg x) y=O.neg (O.mul x y):=by rw [F.mul_comm _ _ (F.cl.neg x hx) hy,F.mul_neg hy hx,F.mul_comm _ _ hy hx]
theorem Gq {a b c d : Int} (ha : El a) (hb : El b) (hc : El c) (hd : El d) : O.add (O.add a b) (O.add c d)=O.add (O.add a c) (O.add b d):=by rw [F.add_assoc a b _ ha hb (F.cl.add c d hc hd),F.add_assoc a c _ ha hc (F.cl.add b d hb hd),<- F.add_assoc b c d hb hc hd,F.add_comm b c hb hc,F.add_assoc c b d hc hb hd]
theorem neg_add {x y : Int} (hx : El x) (hy : El y) : O.neg (O.add x y)=O.add (O.neg x) (O.neg y):=by have hnx:=F.cl.neg x hx;have hny:=F.cl.neg y hy;refine (F.nO (F.cl.add x y hx hy) (F.cl.add _ _ hnx hny) ?_).symm;rw [F.Gq hx hy hnx hny,F.add_neg x hx,F.add_neg y hy,F.add_zero 0 F.zero]
theorem neg_neg {x : Int} (hx : El x) : O.neg (O.neg x)=x:=(F.nO (F.cl.neg x hx) hx (F.tw hx)).symm
theorem rP {x y : Int} (hx : El x) (hy : El y) (h0 : x ≠ 0) (h : O.mul x y=0) : y=0:=by have hi:=F.cl.inv x hx h0;rw [<- F.one_mul y hy,<- F.mul_inv x hx h0,F.mul_comm x _ hx hi,F.mul_assoc _ x y hi hx hy,h,F.dt hi]
theorem comb {A B x A' B' R : Int} (hA : El A) (hB : El B) (hx : El x) (hA' : El A') (hB' : El B') (hR : El R) :
  O.add (O.add A (O.neg (O.mul x B))) (O.neg (O.mul (O.add A' (O.neg (O.mul x B'))) R))=O.add (O.add A (O.neg (O.mul A' R))) (O.neg (O.mul x (O.add B (O.neg (O.mul B' R))))):=by
 have m:=F.cl.mul;have n:=F.cl.neg;have h1:=m x B hx hB;have h2:=m A' R hA' hR;have hxB:=m x B' hx hB';have h3:=m _ R hxB hR;have hBR:=m B' R hB' hR;have e1 : O.mul (O.add A' (O.neg (O.mul x B'))) R=O.add (O.mul A' R) (O.neg (O.mul (O.mul x B') R)):=by rw [F.mul_comm _ R (F.cl.add _ _ hA' (n _ hxB)) hR,F.mul_add R _ _ hR hA' (n _ hxB),F.mul_comm R A' hR hA',F.mul_comm R _ hR (n _ hxB),F.neg_mul hxB hR]
 have e2 : O.mul x (O.add B (O.neg (O.mul B' R)))=O.add (O.mul x B) (O.neg (O.mul (O.mul x B') R)):=by rw [F.mul_add x _ _ hx hB (n _ hBR),F.mul_neg hx hBR,F.mul_assoc x B' R hx hB' hR]
 rw [e1,e2,F.neg_add h2 (n _ h3),F.neg_add h1 (n _ h3),F.neg_neg h3,F.Gq hA (n _ h1) (n _ h2) h3,F.Gq hA (n _ h2) (n _ h1) h3]
end bR
def Vc (El : Int->Prop) (n : Nat) (v : Lz) : Prop:=v.length=n/\∀y ∈ v,El y
theorem Vc.at {El : Int->Prop} {n : Nat} {v : Lz} (h : Vc El n v) {i : Nat} (hi : i<n) : El (nth v i):=h.2 _ (aN (by rw [h.1];exact hi))
theorem Vc.sub {O : aJ} {El : Int->Prop} (F : bR O El) {n : Nat} {v r : Lz} {x : Int} (hv : Vc El n v) (hr : Vc El n r) (hx : El x) : Vc El n (dZ O v x r) :=
 ⟨by rw [fp _ _ _ _ (by rw [hr.1,hv.1])];exact hv.1,vD F.cl hv.2 hr.2 hx⟩
theorem Vc.yy {O : aJ} {El : Int->Prop} (F : bR O El) {n : Nat} {r : Lz} {x : Int} (hr : Vc El n r) (hx : El x) : Vc El n (r.map (O.mul x)) :=
 ⟨by rw [Mx];exact hr.1,λy hy=>by obtain ⟨z,hz,rfl⟩:=List.mem_map.1 hy;exact F.cl.mul _ _ hx (hr.2 z hz)⟩
structure ja (O : aJ) (El : Int->Prop) (n : Nat) (φ : Lz->Int) : Prop where
 el : ∀v,Vc El n v->El (φ v)
 sub : ∀v r x,Vc El n v->Vc El n r->El x->φ (dZ O v x r)=O.add (φ v) (O.neg (O.mul x (φ r)))
 yy : ∀r x,Vc El n r->El x->φ (r.map (O.mul x))=O.mul x (φ r)
variable {O : aJ} {El : Int->Prop} {n : Nat}
theorem fZ (O : aJ) (r : Lz) (x : Int) {i : Nat} (hi : i<r.length) : nth (r.map (O.mul x)) i=O.mul x (nth r i):=by rw [aj (by simpa using hi),aj hi];simp
theorem ja.vH (F : bR O El) {i : Nat} (hi : i<n) : ja O El n (λv=>nth v i) :=
 ⟨λv hv=>hv.at hi,λv r x hv hr hx=>eX O v x r i (by rw [hr.1,hv.1]) (by rw [hv.1];exact hi),λr x hr hx=>fZ O r x (by rw [hr.1];exact hi)⟩
theorem ja.congr (F : bR O El) {φ ψ : Lz->Int} (h : ja O El n φ) (e : ∀v,Vc El n v->ψ v=φ v) : ja O El n ψ :=
 ⟨λv hv=>by rw [e v hv];exact h.el v hv,λv r x hv hr hx=>by rw [e _ (hv.sub F hr hx),e v hv,e r hr];exact h.sub v r x hv hr hx,
  λr x hr hx=>by rw [e _ (hr.yy F hx),e r hr];exact h.yy r x hr hx⟩
theorem ja.comb (F : bR O El) {φ ψ : Lz->Int} (h : ja O El n φ) (g : ja O El n ψ) {s : Int} (hs : El s) : ja O El n (λv=>O.add (φ v) (O.neg (O.mul (ψ v) s))) :=
 ⟨λv hv=>F.cl.add _ _ (h.el v hv) (F.cl.neg _ (F.cl.mul _ _ (g.el v hv) hs)),
  λv r x hv hr hx=>by show O.add (φ (dZ O v x r)) (O.neg (O.mul (ψ (dZ O v x r)) s))=_;rw [h.sub v r x hv hr hx,g.sub v r x hv hr hx];exact F.comb (h.el v hv) (h.el r hr) hx (g.el v hv) (g.el r hr) hs,
  λr x hr hx=>by show O.add (φ (r.map (O.mul x))) (O.neg (O.mul (ψ (r.map (O.mul x))) s))=_;rw [h.yy r x hr hx,g.yy r x hr hx,F.mul_assoc x _ s hx (g.el r hr) hs,<- F.mul_neg hx (F.cl.mul _ _ (g.el r hr) hs),<- F.mul_add x _ _ hx (h.el r hr) (F.cl.neg _ (F.cl.mul _ _ (g.el r hr) hs))]⟩
def ie (O : aJ) (El : Int->Prop) (n : Nat) (c : Nat->Lz) (l : Z6) (x : Nat) : Prop:=∀φ,ja O El n φ->(∀y ∈ l,φ (c y)=0)->φ (c x)=0
theorem JJ (F : bR O El) {c : Nat->Lz} (hc : ∀i,Vc El n (c i)) : yA (ie O El n c) where
 mem l x hx φ _ h:=h x hx
 mono l l' h y hy φ hφ h0:=hy φ hφ λx hx=>h x hx φ hφ h0
 exch l x y h hn:=by
  intro b hb h0;apply Mv;intro hbx;apply hn;intro a ha ha0;apply Mv;intro hay;have hax : a (c x) ≠ 0:=λe=>hay (h a ha λz hz=>by
   rcases List.mem_cons.1 hz with rfl | hz
   ·exact e
   ·exact ha0 z hz)
  have h1:=ha.el _ (hc x);have h2:=hb.el _ (hc x);have hbi:=F.cl.inv _ h2 hbx;have hs:=F.cl.mul _ _ hbi h1;have:=h _ (ha.comb F hb hs) λz hz=>by
   rcases List.mem_cons.1 hz with rfl | hz
   ·show O.add (a (c z)) (O.neg (O.mul (b (c z)) (O.mul (O.inv (b (c z))) (a (c z)))))=0;rw [<- F.mul_assoc _ _ _ h2 hbi h1,F.mul_inv _ h2 hbx,F.one_mul _ h1,F.add_neg _ h1]
   ·show O.add (a (c z)) (O.neg (O.mul (b (c z)) _))=0;rw [ha0 z hz,h0 z (List.mem_cons.2 (.inr hz)),F.kj hs,F.fD,F.add_zero 0 F.zero]
  have h3 : O.add (a (c y)) (O.neg (O.mul (b (c y)) (O.mul (O.inv (b (c x))) (a (c x)))))=0:=this;rw [h0 y (by simp),F.kj hs,F.fD,F.add_zero _ (ha.el _ (hc y))] at h3;exact hay h3
structure BS.Inv (El : Int->Prop) (n : Nat) (s : BS) : Prop where
 ok : s.Ok El n
 one : ∀i,i<s.rows.length->nth (ai s.rows i) (nth s.place i).toNat=1
 zero : ∀j i,j<i->i<s.rows.length->nth (ai s.rows i) (nth s.place j).toNat=0
theorem BS.Ok.row {s : BS} (h : s.Ok El n) {i : Nat} (hi : i<s.rows.length) : Vc El n (ai s.rows i):=h.rws.row hi
theorem BS.Ok.pl {s : BS} (h : s.Ok El n) {i : Nat} (hi : i<s.rows.length) : (nth s.place i).toNat<n:=by have:=h.plc i hi;omega
theorem Vc.eE (F : bR O El) {u r : Lz} {p : Int} (hu : Vc El n u) (hr : Vc El n r) (hp : p.toNat<n) : Vc El n (eE O u p r):=by
 unfold Go.Proofs.YtcfmiocdlcapoaaGreat.eE;split
 ·exact hu
 ·exact hu.sub F hr (hu.at hp)
theorem Vc.bU (F : bR O El) {s : BS} (h : s.Ok El n) {v : Lz} (hv : Vc El n v) : ∀k,k<=s.rows.length->Vc El n (bU O s.rows s.place v k)
 | 0,_=>hv
 | k+1,hk=>(Vc.bU F h hv k (by omega)).eE F (h.row (by omega)) (h.pl (by omega))
theorem j7 (F : bR O El) {u r : Lz} {p : Int} (hu : Vc El n u) (hr : Vc El n r) (hp : p.toNat<n) {i : Nat} (hi : i<n) :
  nth (eE O u p r) i=O.add (nth u i) (O.neg (O.mul (nth u p.toNat) (nth r i))):=by
 unfold eE;split
 ·rename_i h0;rw [h0,F.kj (hr.at hi),F.fD,F.add_zero _ (hu.at hi)]
 ·exact eX O u _ r i (by rw [hr.1,hu.1]) (by rw [hu.1];exact hi)
namespace BS.Inv
variable {s : BS}
theorem place (F : bR O El) (h : s.Inv El n) {v : Lz} (hv : Vc El n v) : ∀k,k<=s.rows.length->∀j,j<k->nth (bU O s.rows s.place v k) (nth s.place j).toNat=0
 | 0,_,j,hj=>by omega
 | k+1,hk,j,hj=>by
  have hu:=Vc.bU F h.ok hv k (by omega);have hpk:=h.ok.pl (i:=k) (by omega);have hpj:=h.ok.pl (i:=j) (by omega);rw [bU,j7 F hu (h.ok.row (by omega)) hpk hpj];by_cases e : j=k
  ·subst e;rw [h.one j (by omega),F.iE (hu.at hpk),F.add_neg _ (hu.at hpk)]
  ·rw [place F h hv k (by omega) j (by omega),h.zero j k (by omega) (by omega),F.dt (hu.at hpk),F.fD,F.add_zero 0 F.zero]
theorem stay (h : s.Inv El n) {i : Nat} (hi : i<s.rows.length) : ∀k,k<=i->bU O s.rows s.place (ai s.rows i) k=ai s.rows i
 | 0,_=>rfl
 | k+1,hk=>by rw [bU,stay h hi k (by omega),eE,Mg (h.zero k i (by omega) hi)]
theorem gone (F : bR O El) (h : s.Inv El n) {i : Nat} (hi : i<s.rows.length) : ∀k,i<k->k<=s.rows.length->∀t,t<n->nth (bU O s.rows s.place (ai s.rows i) k) t=0
 | 0,hk,_,_,_=>by omega
 | k+1,hk,hkl,t,ht=>by
  have hu:=Vc.bU F h.ok (h.ok.row hi) k (by omega);have hr:=h.ok.row (i:=k) (by omega);have hpk:=h.ok.pl (i:=k) (by omega);rw [bU,j7 F hu hr hpk ht];by_cases e : k=i
  ·subst e;rw [h.stay hi k (Mf _),h.one k hi,F.one_mul _ (hr.at ht),F.add_neg _ (hr.at ht)]
  ·rw [gone F h hi k (by omega) (by omega) t ht,gone F h hi k (by omega) (by omega) _ hpk,F.kj (hr.at ht),F.fD,F.add_zero 0 F.zero]
theorem L3 (F : bR O El) (h : s.Inv El n) : ∀k,k<=s.rows.length->∀i,i<n->ja O El n (λv=>nth (bU O s.rows s.place v k) i)
 | 0,_,i,hi=>ja.vH F hi
 | k+1,hk,i,hi=>by have hpk:=h.ok.pl (i:=k) (by omega);have hr:=h.ok.row (i:=k) (by omega);refine ja.congr F ((L3 F h k (by omega) i hi).comb F (L3 F h k (by omega) _ hpk) (hr.at hi)) λv hv=>?_;show nth (bU O s.rows s.place v (k+1)) i=_;rw [bU,j7 F (Vc.bU F h.ok hv k (by omega)) hr hpk hi]
theorem form (F : bR O El) (h : s.Inv El n) {φ : Lz->Int} (hφ : ja O El n φ) (h0 : ∀i,i<s.rows.length->φ (ai s.rows i)=0) {v : Lz} (hv : Vc El n v) : ∀k,k<=s.rows.length->φ (bU O s.rows s.place v k)=φ v
 | 0,_=>rfl
 | k+1,hk=>by
  have hu:=Vc.bU F h.ok hv k (by omega);have hr:=h.ok.row (i:=k) (by omega);have hpk:=h.ok.pl (i:=k) (by omega);rw [bU,eE];split
  ·exact form F h hφ h0 hv k (by omega)
  ·rw [hφ.sub _ _ _ hu hr (hu.at hpk),h0 k (by omega),F.dt (hu.at hpk),F.fD,form F h hφ h0 hv k (by omega),F.add_zero _ (hφ.el v hv)]
end BS.Inv
theorem ja.zero (F : bR O El) {φ : Lz->Int} (h : ja O El n φ) {v : Lz} (hv : Vc El n v) (h0 : ∀i,i<n->nth v i=0) : φ v=0:=by
 have e : v=v.map (O.mul 0):=fR (by simp) λi hi=>by rw [fZ O v 0 hi,F.kj (hv.at (by rw [<- hv.1];exact hi)),h0 i (by rw [<- hv.1];exact hi)]
 rw [e,h.yy v 0 hv F.zero,F.kj (h.el v hv)]
theorem me (F : bR O El) {s : BS} (h : s.Inv El n) {v : Lz} (hv : Vc El n v) :
  s.eh O v=false ↔ ∀φ,ja O El n φ->(∀i,i<s.rows.length->φ (ai s.rows i)=0)->φ v=0:=by
 have hu : Vc El n (s.red O v):=Vc.bU F h.ok hv _ (Mf _);constructor
 ·intro ht φ hφ h0;rw [<- h.form F hφ h0 hv _ (Mf _)];refine hφ.zero F hu λi hi=>lT (s.red O v) i ?_;have h1 : ¬ gJ (s.red O v)<(s.red O v).length:=by simpa [BS.eh] using ht
  have h2:=GP (s.red O v);have:=hu.1;omega
 ·intro h0;apply Mv;intro ht;have h1 : gJ (s.red O v)<(s.red O v).length:=by simpa [BS.eh] using ht
  have:=hu.1;exact kn _ h1 (h0 _ (h.L3 F _ (Mf _) _ (by omega)) λi hi=>h.gone F hi _ hi (Mf _) _ (by omega))
theorem kB (L : ZZ) (r : Lz) (i : Nat) : ai (L ++ [r]) i=if i<L.length then ai L i else if i=L.length then r else ai [] 0:=by
 unfold ai;simp only [Mk];split
 ·rename_i h;rw [ML h]
 ·rename_i h;split
  ·rename_i e;subst e;simp
  ·rename_i e;rw [Nf (by simp;omega)];simp
theorem iJ (l : Lz) (r : Int) (i : Nat) : nth (l ++ [r]) i=if i<l.length then nth l i else if i=l.length then r else 0:=by
 unfold nth;simp only [Mk];split
 ·rename_i h;rw [ML h]
 ·rename_i h;split
  ·rename_i e;subst e;simp
  ·rename_i e;rw [Nf (by simp;omega)];simp
theorem BS.Inv.next (F : bR O El) {s : BS} (h : s.Inv El n) {v : Lz} (hv : Vc El n v) : (s.next O v).Inv El n:=by
 refine ⟨h.ok.next F.cl hv,?_,?_⟩
 ·unfold BS.next;split
  ·rename_i ht;have hu : Vc El n (s.red O v):=Vc.bU F h.ok hv _ (Mf _);have hf : gJ (s.red O v)<(s.red O v).length:=by simpa [BS.eh] using ht
   have hne:=kn _ hf;have hl:=hu.1;have hel:=hu.at (i:=gJ (s.red O v)) (by omega);intro i hi;simp only [Mp,Mz] at hi;simp only [kB,iJ,h.ok.len];by_cases e : i<s.rows.length
   ·rw [Mg e,Mg e];exact h.one i e
   ·rw [Mh e,Mh e,Mg (by omega),Mg (by omega),Mm,fZ O _ _ hf,F.mul_comm _ _ (F.cl.inv _ hel hne) hel,F.mul_inv _ hel hne]
  ·exact h.one
 ·unfold BS.next;split
  ·rename_i ht;have hu : Vc El n (s.red O v):=Vc.bU F h.ok hv _ (Mf _);have hf : gJ (s.red O v)<(s.red O v).length:=by simpa [BS.eh] using ht
   have hne:=kn _ hf;have hl:=hu.1;have hel:=hu.at (i:=gJ (s.red O v)) (by omega);intro j i hji hi;simp only [Mp,Mz] at hi;simp only [kB,iJ,h.ok.len];rw [Mg (show j<s.rows.length by omega)];by_cases e : i<s.rows.length
   ·rw [Mg e];exact h.zero j i hji e
   ·have hpj:=h.ok.pl (i:=j) (by omega);rw [Mh e,Mg (by omega),fZ O _ _ (by omega),BS.red,h.place F hv _ (Mf _) j (by omega)];exact F.dt (F.cl.inv _ hel hne)
  ·exact h.zero
def JF (O : aJ) (El : Int->Prop) (n : Nat) (c : Nat->Lz) (l : Z6) (s : BS) : Prop :=
 ∀φ,ja O El n φ->((∀y ∈ l,φ (c y)=0) ↔ ∀i,i<s.rows.length->φ (ai s.rows i)=0)
theorem JF.next (F : bR O El) {c : Nat->Lz} (hc : ∀i,Vc El n (c i)) {l : Z6} {s : BS} (h : s.Inv El n) (hs : JF O El n c l s) (x : Nat) : JF O El n c (x :: l) (s.next O (c x)):=by
 intro φ hφ;have key : (∀i,i<s.rows.length->φ (ai s.rows i)=0)->((φ (c x)=0) ↔ ∀i,i<(s.next O (c x)).rows.length->φ (ai (s.next O (c x)).rows i)=0):=by
  intro h0;have hu : Vc El n (s.red O (c x)):=Vc.bU F h.ok (hc x) _ (Mf _);have hform:=h.form F hφ h0 (hc x) _ (Mf _);unfold BS.next;split
  ·rename_i ht;have hf : gJ (s.red O (c x))<(s.red O (c x)).length:=by simpa [BS.eh] using ht
   have hne:=kn _ hf;have hl:=hu.1;have hel:=hu.at (i:=gJ (s.red O (c x))) (by omega);have hi:=F.cl.inv _ hel hne;have hscl:=hφ.yy _ _ hu hi;have hine : O.inv (nth (s.red O (c x)) (gJ (s.red O (c x)))) ≠ 0:=by intro e;have:=F.mul_inv _ hel hne;rw [e,F.dt hel] at this;exact absurd this (by decide)
   constructor
   ·intro hx i hi2;simp only [Mp,Mz] at hi2;simp only [kB];by_cases e : i<s.rows.length
    ·rw [Mg e];exact h0 i e
    ·rw [Mh e,Mg (by omega),hscl];show O.mul _ (φ (bU O s.rows s.place (c x) s.rows.length))=0;rw [hform,hx,F.dt hi]
   ·intro hall;have:=hall s.rows.length (by simp);simp only [kB] at this;rw [Mh (Oj _),Mg trivial,hscl] at this;rw [<- hform];exact F.rP hi (hφ.el _ hu) hine this
  ·rename_i ht;exact ⟨λ_=>h0,λ_=>(me F h (hc x)).1 (by simpa using ht) φ hφ h0⟩
 constructor
 ·intro hall;have h1 : ∀i,i<s.rows.length->φ (ai s.rows i)=0:=(hs φ hφ).1 λy hy=>hall y (List.mem_cons.2 (.inr hy));exact (key h1).1 (hall x (by simp))
 ·intro hall;have h1 : ∀i,i<s.rows.length->φ (ai s.rows i)=0:=by
   intro i hi;have hlen : s.rows.length<=(s.next O (c x)).rows.length:=by unfold BS.next;split <;> simp
   have:=hall i (by omega);unfold BS.next at this;split at this
   ·simp only [kB] at this;rw [Mg hi] at this;exact this
   ·exact this
  intro y hy;rcases List.mem_cons.1 hy with rfl | hy
  ·exact (key h1).2 hall
  ·exact (hs φ hφ).2 h1 y hy
def kT (Q : Lz) : Nat->Z6
 | 0=>[]
 | k+1=>(nth Q k).toNat :: kT Q k
theorem gR (Q : Lz) (x : Nat) : ∀k,x ∈ kT Q k ↔ ∃j,j<k/\(nth Q j).toNat=x
 | 0=>by simp [kT]
 | k+1=>by
  rw [kT,List.mem_cons,gR Q x k];constructor
  ·rintro (h | ⟨j,hj,h⟩)
   ·exact ⟨k,by omega,h.symm⟩
   ·exact ⟨j,by omega,h⟩
  ·rintro ⟨j,hj,h⟩;by_cases e : j=k
   ·subst e;exact .inl h.symm
   ·exact .inr ⟨j,by omega,h⟩
theorem ch {m : Nat} {L : ZZ} (h : bx El m L) (h0 : El 0) (i : Nat) : Vc El L.length (aK L i):=by
 refine ⟨cC _ _,λy hy=>?_⟩;unfold aK at hy;obtain ⟨r,hr,rfl⟩:=List.mem_map.1 hy;by_cases hi : i<m
 ·exact (h r hr).2 _ (aN (by rw [(h r hr).1];exact hi))
 ·have : nth r i=0:=by unfold nth;rw [Mk,Nf (by rw [(h r hr).1];omega)];rfl
  rw [this];exact h0
theorem B2 (F : bR O El) {m : Nat} {L : ZZ} (hL : bx El m L) (Q : Lz) : ∀k,(cO O L Q k).1.Inv El L.length/\JF O El L.length (aK L) (kT Q k) (cO O L Q k).1 /\
  Rk (ie O El L.length (aK L)) (kT Q k) (cO O L Q k).2.length
 | 0=>⟨⟨⟨λr hr=>by simp [cO] at hr,rfl,λi hi=>by simp [cO] at hi⟩,λi hi=>by simp [cO] at hi,λj i _ hi=>by simp [cO] at hi⟩,λφ _=>⟨λ_ i hi=>by simp [cO] at hi,λ_ y hy=>by simp [kT] at hy⟩,.nil⟩
 | k+1=>by
  obtain ⟨h1,h2,h3⟩:=B2 F hL Q k;have hc:=ch hL F.zero;refine ⟨h1.next F (hc _),h2.next F hc h1 _,?_⟩;have htk:=me F h1 (hc (nth Q k).toNat);have hcl : ie O El L.length (aK L) (kT Q k) (nth Q k).toNat ↔ (cO O L Q k).1.eh O (aK L (nth Q k).toNat)=false:=by rw [htk];exact ⟨λh φ hφ h0=>h φ hφ ((h2 φ hφ).2 h0),λh φ hφ h0=>h φ hφ ((h2 φ hφ).1 h0)⟩
  rw [kT,cO];by_cases ht : (cO O L Q k).1.eh O (aK L (nth Q k).toNat)=true
  ·rw [Mg ht];simp only [Mp,Mz];exact .ind _ (λh=>by rw [hcl.1 h] at ht;simp at ht) h3
  ·rw [Mh ht];exact .dep _ (hcl.2 (by simpa using ht)) h3
theorem pN (F : bR O El) {m : Nat} {L : ZZ} (hL : bx El m L) (Q : Lz) : Rk (ie O El L.length (aK L)) (kT Q Q.length) (jP O L Q).length:=(B2 F hL Q Q.length).2.2
theorem da (F : bR O El) {m : Nat} {L : ZZ} (hL : bx El m L) : yA (ie O El L.length (aK L)):=JJ F (ch hL F.zero)
end
section
variable {O : aJ} {El : Int->Prop} {m n : Nat}
theorem ja.smul (F : bR O El) {φ : Lz->Int} (h : ja O El n φ) {s : Int} (hs : El s) : ja O El n (λv=>O.mul s (φ v)) :=
 ⟨λv hv=>F.cl.mul _ _ hs (h.el v hv),
  λv r x hv hr hx=>by show O.mul s (φ (dZ O v x r))=O.add (O.mul s (φ v)) (O.neg (O.mul x (O.mul s (φ r))));have h1:=h.el v hv;have h2:=h.el r hr;rw [h.sub v r x hv hr hx,F.mul_add s _ _ hs h1 (F.cl.neg _ (F.cl.mul _ _ hx h2)),F.mul_neg hs (F.cl.mul _ _ hx h2),<- F.mul_assoc s x _ hs hx h2,F.mul_comm s x hs hx,F.mul_assoc x s _ hx hs h2],
  λr x hr hx=>by show O.mul s (φ (r.map (O.mul x)))=O.mul x (O.mul s (φ r));have h2:=h.el r hr;rw [h.yy r x hr hx,<- F.mul_assoc s x _ hs hx h2,F.mul_comm s x hs hx,F.mul_assoc x s _ hx hs h2]⟩
theorem ek (g : Nat->Int) (k i : Nat) (hi : i<k) : nth ((List.range k).map g) i=g i:=by rw [aj (by simpa using hi)];simp
theorem ja.vec {k : Nat} {e : Lz->Int} (he : ja O El k e) (g : Nat->Lz->Int) (hg : ∀i,i<k->ja O El n (g i)) : ja O El n (λv=>e ((List.range k).map λi=>g i v)):=by
 have hv' : ∀v,Vc El n v->Vc El k ((List.range k).map λi=>g i v):=λv hv=>⟨by simp,λy hy=>by obtain ⟨i,hi,rfl⟩:=List.mem_map.1 hy;exact (hg i (List.mem_range.1 hi)).el v hv⟩
 refine ⟨λv hv=>he.el _ (hv' v hv),λv r x hv hr hx=>?_,λr x hr hx=>?_⟩
 ·show e _=_;rw [<- he.sub _ _ x (hv' v hv) (hv' r hr) hx];congr 1;refine fR (by rw [fp _ _ _ _ (by simp)];simp) λi hi=>?_;have hi' : i<k:=by simpa using hi
  rw [eX O _ x _ i (by simp) (by simpa using hi'),ek _ _ _ hi',ek _ _ _ hi',ek _ _ _ hi'];exact (hg i hi').sub v r x hv hr hx
 ·show e _=_;rw [<- he.yy _ x (hv' r hr) hx];congr 1;refine fR (by simp) λi hi=>?_;have hi' : i<k:=by simpa using hi
  rw [fZ O _ x (by simpa using hi'),ek _ _ _ hi',ek _ _ _ hi'];exact (hg i hi').yy r x hr hx
def RS (O : aJ) (El : Int->Prop) (m : Nat) (L : ZZ) (f : Nat->Int) : Prop:=∃e,ja O El L.length e/\∀x,x<m->f x=e (aK L x)
theorem RS.row (F : bR O El) {L : ZZ} {i : Nat} (hi : i<L.length) : RS O El m L (λx=>nth (ai L i) x) :=
 ⟨λv=>nth v i,ja.vH F hi,λx _=>(bM L x i hi).symm⟩
theorem RS.comb (F : bR O El) {L : ZZ} {f g : Nat->Int} (hf : RS O El m L f) (hg : RS O El m L g) {s : Int} (hs : El s) : RS O El m L (λx=>O.add (f x) (O.neg (O.mul (g x) s))):=by obtain ⟨a,ha,ha2⟩:=hf;obtain ⟨b,hb,hb2⟩:=hg;exact ⟨_,ha.comb F hb hs,λx hx=>by show O.add (f x) _=_;rw [ha2 x hx,hb2 x hx]⟩
theorem RS.smul (F : bR O El) {L : ZZ} {f : Nat->Int} (hf : RS O El m L f) {s : Int} (hs : El s) : RS O El m L (λx=>O.mul s (f x)):=by obtain ⟨a,ha,ha2⟩:=hf;exact ⟨_,ha.smul F hs,λx hx=>by show O.mul s (f x)=_;rw [ha2 x hx]⟩
theorem RS.congr {L : ZZ} {f g : Nat->Int} (hf : RS O El m L f) (h : ∀x,x<m->g x=f x) : RS O El m L g:=by obtain ⟨a,ha,ha2⟩:=hf;exact ⟨a,ha,λx hx=>by rw [h x hx,ha2 x hx]⟩
def gF (O : aJ) (El : Int->Prop) (m : Nat) (A B : ZZ) : Prop:=∀i,i<A.length->RS O El m B (λx=>nth (ai A i) x)
theorem gF.refl (F : bR O El) (L : ZZ) : gF O El m L L:=λ_ hi=>.row F hi
theorem gF.rs {A B : ZZ} (h : gF O El m A B) {f : Nat->Int} (hf : RS O El m A f) : RS O El m B f:=by
 obtain ⟨e,he,he2⟩:=hf;obtain ⟨g,hg⟩ : ∃g : Nat->Lz->Int,∀i,i<A.length->ja O El B.length (g i)/\∀x,x<m->nth (ai A i) x=g i (aK B x):=by
  have h2 : ∀i,∃g : Lz->Int,i<A.length->ja O El B.length g/\∀x,x<m->nth (ai A i) x=g (aK B x):=λi=>by
   by_cases hi : i<A.length
   ·obtain ⟨g,h1,h2⟩:=h i hi;exact ⟨g,λ_=>⟨h1,h2⟩⟩
   ·exact ⟨λ_=>0,λh=>absurd h hi⟩
  exact ⟨λi=>Classical.choose (h2 i),λi hi=>Classical.choose_spec (h2 i) hi⟩
 refine ⟨_,he.vec g λi hi=>(hg i hi).1,λx hx=>?_⟩;rw [he2 x hx];congr 1;refine fR (by simp [cC]) λi hi=>?_;rw [cC] at hi;rw [ek _ _ _ hi,bM A x i hi];exact (hg i hi).2 x hx
theorem gF.trans {A B C : ZZ} (h : gF O El m A B) (h2 : gF O El m B C) : gF O El m A C:=λi hi=>h2.rs (h i hi)
theorem gF.cl {A B : ZZ} (h : gF O El m A B) {l : Z6} {x : Nat} (hl : ∀y ∈ l,y<m) (hx : x<m) (hc : ie O El B.length (aK B) l x) : ie O El A.length (aK A) l x:=by intro φ hφ h0;obtain ⟨e,he,he2⟩:=h.rs (f:=λx=>φ (aK A x)) ⟨φ,hφ,λ_ _=>rfl⟩;have e1 : φ (aK A x)=e (aK B x):=he2 x hx;rw [e1];refine hc e he λy hy=>?_;rw [<- he2 y (hl y hy)];exact h0 y hy
structure l8 (L : ZZ) (P : Lz) (c : Nat) : Prop where
 le : P.length<=L.length
 lt : ∀j,j<P.length->0<=nth P j/\nth P j<c
 one : ∀j i,j<P.length->i<L.length->nth (ai L i) (nth P j).toNat=if i=j then 1 else 0
 zero : ∀i x,P.length<=i->i<L.length->x<c->nth (ai L i) x=0
def sw (t k i : Nat) : Nat:=if i=t then k else if i=k then t else i
theorem K4 {t k n i : Nat} (ht : t<n) (hk : k<n) (hi : i<n) : sw t k i<n:=by unfold sw;split;exact hk;split;exact ht;exact hi
theorem IT {L : ZZ} {t k : Nat} (ht : t<L.length) (hk : k<L.length) (i : Nat) : ai (if k=t then L else bk L t k) i=ai L (sw t k i):=by
 unfold sw bk;split
 ·rename_i e;subst e;split
  ·rename_i e;rw [e]
  ·rfl
 ·rename_i hne;rw [e8 _ _ _ _ (by simpa using hk),e8 _ _ _ _ ht];by_cases h1 : i=t
  ·rw [Mh (by omega),Mg h1,Mg h1]
  ·rw [Mh h1,Mh h1];by_cases h2 : i=k
   ·rw [Mg h2,Mg h2]
   ·rw [Mh h2,Mh h2]
theorem HU (F : bR O El) {L : ZZ} (hL : bx El m L) {t c : Nat} (ht : t<L.length) {i x : Nat} (hx : x<m) :
  nth (ai (bq O L t c) i) x=if i=t then O.mul (O.inv (nth (ai L t) c)) (nth (ai L t) x) else nth (ai L i) x:=by
 have hr:=hL.row ht;have he : El (nth (ai L t) x):=hr.2 _ (aN (by rw [hr.1];exact hx));unfold bq;split
 ·rename_i h1;split
  ·rename_i e;rw [e,h1,F.one_mul _ he]
  ·rfl
 ·rw [e8 _ _ _ _ ht];split
  ·exact fZ O _ _ (by rw [hr.1];exact hx)
  ·rfl
theorem sj (O : aJ) (t c : Nat) (L : ZZ) : ∀i,i<=L.length->∀j,ai (aR O t c L i) j=if j<i/\j ≠ t then bT O (ai L t) c (ai L j) else ai L j
 | 0,_,j=>by rw [Mh (by omega)];rfl
 | i+1,hi,j=>by
  have ih:=sj O t c L i (by omega);unfold aR;split
  ·rename_i e;rw [ih j];by_cases h : j<i/\j ≠ t
   ·rw [Mg h,Mg ⟨by omega,h.2⟩]
   ·rw [Mh h,Mh (by omega)]
  ·rename_i e;have e1 : ai (aR O t c L i) t=ai L t:=by rw [ih t,Mh (by omega)]
   have e2 : ai (aR O t c L i) i=ai L i:=by rw [ih i,Mh (by omega)]
   rw [e8 _ _ _ _ (by rw [dc];omega),e1,e2];by_cases h : j=i
   ·subst h;rw [Mg rfl,Mg ⟨by omega,e⟩]
   ·rw [Mh h,ih j];by_cases h2 : j<i/\j ≠ t
    ·rw [Mg h2,Mg ⟨by omega,h2.2⟩]
    ·rw [Mh h2,Mh (by omega)]
theorem xI (F : bR O El) {pv r : Lz} {c x : Nat} (hp : Vc El m pv) (hr : Vc El m r) (hc : c<m) (hx : x<m) :
  nth (bT O pv c r) x=O.add (nth r x) (O.neg (O.mul (nth pv x) (nth r c))):=by
 have h1:=hp.at hx;have h2:=hr.at hx;have h3:=hr.at hc;unfold bT;split
 ·rename_i h0;rw [h0,F.dt h1,F.fD,F.add_zero _ h2]
 ·rw [jH O r _ pv x (by rw [hp.1,hr.1]) (by rw [hr.1];exact hx)];split
  ·rename_i h0;rw [h0,F.kj h3,F.fD,F.add_zero _ h2]
  ·rw [F.neg_mul h3 h1,F.mul_comm _ _ h3 h1]
section
variable {L : ZZ} {t k c : Nat}
theorem eY (F : bR O El) (hL : bx El m L) (ht : t<L.length) (hk : k<L.length) (hc : c<m) (h0 : nth (ai L k) c ≠ 0) {i x : Nat} (hi : i<L.length) (hx : x<m) :
  nth (ai (eB O L t k c) i) x=if i=t then O.mul (O.inv (nth (ai L k) c)) (nth (ai L k) x) else
   O.add (nth (ai L (sw t k i)) x) (O.neg (O.mul (O.mul (O.inv (nth (ai L k) c)) (nth (ai L k) x)) (nth (ai L (sw t k i)) c))):=by
 rw [iB];obtain ⟨L1,hL1⟩ : ∃L1,(if k=t then L else bk L t k)=L1:=⟨_,rfl⟩
 have hn1 : ∀i,ai L1 i=ai L (sw t k i):=λi=>by rw [<- hL1];exact IT ht hk i
 have hl1 : L1.length=L.length:=by rw [<- hL1];split <;> simp [dQ]
 have hR1 : bx El m L1:=by
  rw [<- hL1];split
  ·exact hL
  ·exact hL.swap ht hk
 have hswt : sw t k t=k:=by simp [sw]
 have h01 : nth (ai L1 t) c ≠ 0:=by rw [hn1,hswt];exact h0
 rw [hL1];have hR2 : bx El m (bq O L1 t c):=hR1.norm F.cl (by omega) hc h01;have hN : ∀ {i x : Nat},x<m->nth (ai (bq O L1 t c) i) x=if i=t then O.mul (O.inv (nth (ai L1 t) c)) (nth (ai L1 t) x) else nth (ai L1 i) x:=λhx=>HU F hR1 (by omega) hx
 rw [sj O t c _ L.length (by rw [cZ];omega)];by_cases e : i=t
 ·rw [Mh (by omega),Mg e,hN hx,Mg e,hn1,hswt]
 ·rw [Mg ⟨hi,e⟩,Mh e,xI F (hR2.row (by rw [cZ];omega)) (hR2.row (by rw [cZ];omega)) hc hx,hN hx,hN hx,hN hc,Mh e,Mh e,Mg rfl,hn1,hn1,hswt]
variable (F : bR O El) (hL : bx El m L) (ht : t<L.length) (hk : k<L.length) (hc : c<m) (h0 : nth (ai L k) c ≠ 0)
include F hL ht hk hc h0
theorem A0 : gF O El m (eB O L t k c) L:=by
 intro i hi;rw [et] at hi;have hp : El (nth (ai L k) c):=Vc.at (hL.row hk) hc;have hpi:=F.cl.inv _ hp h0;by_cases e : i=t
 ·exact ((RS.row F hk).smul F hpi).congr λx hx=>by rw [eY F hL ht hk hc h0 hi hx,Mg e]
 ·have hs:=K4 ht hk hi;exact ((RS.row F hs).comb F ((RS.row F hk).smul F hpi) (s:=nth (ai L (sw t k i)) c) (Vc.at (hL.row hs) hc)).congr λx hx=>by rw [eY F hL ht hk hc h0 hi hx,Mh e]
theorem Ck : gF O El m L (eB O L t k c):=by
 intro i hi;have hp : El (nth (ai L k) c):=Vc.at (hL.row hk) hc;have hpi:=F.cl.inv _ hp h0;have htB : t<(eB O L t k c).length:=by rw [et];exact ht
 by_cases e : i=k
 ·refine ((RS.row F htB).smul F hp).congr λx hx=>?_;have hx1 : El (nth (ai L k) x):=Vc.at (hL.row hk) hx;rw [eY F hL ht hk hc h0 ht hx,Mg rfl,<- F.mul_assoc _ _ _ hp hpi hx1,F.mul_inv _ hp h0,F.one_mul _ hx1,e]
 ·have hj : ∃j,j<L.length/\j ≠ t/\sw t k j=i:=by
   by_cases e2 : i=t
   ·exact ⟨k,hk,by omega,by unfold sw;rw [Mh (by omega),Mg rfl,e2]⟩
   ·exact ⟨i,hi,e2,by unfold sw;rw [Mh e2,Mh e]⟩
  obtain ⟨j,hj,hjt,hsw⟩:=hj;have hs : El (nth (ai L i) c):=Vc.at (hL.row hi) hc;refine ((RS.row F (i:=j) (by rw [et];exact hj)).comb F (RS.row F htB) (s:=O.neg (nth (ai L i) c)) (F.cl.neg _ hs)).congr λx hx=>?_;have hx1 : El (nth (ai L k) x):=Vc.at (hL.row hk) hx;have hx2 : El (nth (ai L i) x):=Vc.at (hL.row hi) hx;have hy:=F.cl.mul _ _ hpi hx1;have hq:=F.cl.mul _ _ hy hs;rw [eY F hL ht hk hc h0 ht hx,Mg rfl,eY F hL ht hk hc h0 hj hx,Mh hjt,hsw,F.mul_neg hy hs,F.neg_neg hq,F.add_assoc _ _ _ hx2 (F.cl.neg _ hq) hq,F.tw hq,F.add_zero _ hx2]
end
theorem l8.next (F : bR O El) {L : ZZ} {P : Lz} {c k : Nat} (h : l8 L P c) (hL : bx El m L) (hc : c<m) (ht : P.length<L.length) (hk : k<L.length) (htk : P.length<=k) (h0 : nth (ai L k) c ≠ 0) :
  l8 (eB O L P.length k c) (P ++ [(c : Int)]) (c+1):=by
 have hp : El (nth (ai L k) c):=Vc.at (hL.row hk) hc;have hpi:=F.cl.inv _ hp h0;have hsw : ∀i,P.length<=i->i<L.length->P.length<=sw P.length k i/\sw P.length k i<L.length:=λi h1 h2=>by unfold sw;split;omega;split <;> omega
 have hswl : ∀i,i<P.length->sw P.length k i=i:=λi h1=>by unfold sw;rw [Mh (by omega),Mh (by omega)]
 refine ⟨by rw [et,Mp];simp;omega,λj hj=>?_,λj i hj hi=>?_,λi x h1 h2 hx=>?_⟩
 ·rw [iJ];rw [Mp,Mz] at hj;by_cases e : j<P.length
  ·rw [Mg e];have:=h.lt j e;omega
  ·rw [Mh e,Mg (by omega)];omega
 ·rw [Mp,Mz] at hj;rw [et] at hi;rw [iJ];by_cases e : j<P.length
  ·rw [Mg e];have hb:=h.lt j e;have hx : (nth P j).toNat<m:=by omega
   have hk0:=h.one j k e hk;rw [Mh (by omega)] at hk0;rw [eY F hL ht hk hc h0 hi hx,hk0,F.dt hpi];by_cases e2 : i=P.length
   ·rw [Mg e2,Mh (by omega)]
   ·rw [Mh e2];have hsl : sw P.length k i<L.length:=by unfold sw;split;omega;split <;> omega
    rw [F.kj (Vc.at (hL.row hsl) hc),F.fD,F.add_zero _ (Vc.at (hL.row hsl) hx),h.one j _ e hsl];by_cases e3 : i<P.length
    ·rw [hswl i e3]
    ·have:=(hsw i (by omega) hi).1;rw [Mh (by omega),Mh (by omega)]
  ·have ej : j=P.length:=by omega
   rw [Mh e,Mg ej,Mm,eY F hL ht hk hc h0 hi hc,ej];by_cases e2 : i=P.length
   ·rw [Mg e2,Mg e2,F.mul_comm _ _ hpi hp,F.mul_inv _ hp h0]
   ·rw [Mh e2,Mh e2];have hsl : sw P.length k i<L.length:=by unfold sw;split;omega;split <;> omega
    have hq : El (nth (ai L (sw P.length k i)) c):=Vc.at (hL.row hsl) hc;rw [F.mul_comm _ _ hpi hp,F.mul_inv _ hp h0,F.one_mul _ hq,F.add_neg _ hq]
 ·rw [Mp,Mz] at h1;rw [et] at h2;have hxm : x<m:=by omega
  have hs:=hsw i (by omega) h2;have hq : El (nth (ai L (sw P.length k i)) c):=Vc.at (hL.row hs.2) hc;rw [eY F hL ht hk hc h0 h2 hxm,Mh (by omega)];by_cases e : x=c
  ·subst e;rw [F.mul_comm _ _ hpi hp,F.mul_inv _ hp h0,F.one_mul _ hq,F.add_neg _ hq]
  ·rw [h.zero _ x hs.1 hs.2 (by omega),h.zero k x htk hk (by omega),F.dt hpi,F.kj hq,F.fD,F.add_zero 0 F.zero]
theorem kA (F : bR O El) {L : ZZ} (hL : bx El m L) (k : Nat) (hk : k<=m) : bx El m (aC O L k).1 :=
 (nJ (O':=O) ⟨λ_ _ _ _=>rfl,λ_ _ _ _=>rfl,λ_ _=>rfl,λ_ _ _=>rfl⟩ F.cl hL k hk).2
theorem jF (F : bR O El) {L : ZZ} (hL : bx El m L) : ∀k,k<=m->l8 (aC O L k).1 (aC O L k).2 k/\gF O El m (aC O L k).1 L/\gF O El m L (aC O L k).1
 | 0,_=>⟨⟨Mj _,λj hj=>by simp [aC] at hj,λj i hj=>by simp [aC] at hj,λi x _ _ hx=>by omega⟩,.refl F L,.refl F L⟩
 | k+1,hk=>by
  obtain ⟨h1,h2,h3⟩:=jF F hL k (by omega);have hR:=kA F hL k (by omega);have hb:=lj (L:=(aC O L k).1) (c:=k) (k:=(aC O L k).2.length) h1.le;by_cases hlt : (aC O L k).2.length<(aC O L k).1.length
  ·rw [dA (Lk:=(aC O L k).1) (P:=(aC O L k).2) rfl hlt];split
   ·rename_i hf;refine ⟨⟨h1.le,λj hj=>⟨(h1.lt j hj).1,Int.lt_trans (h1.lt j hj).2 (by omega)⟩,h1.one,λi x hi1 hi2 hx=>?_⟩,h2,h3⟩;by_cases e : x=k
    ·subst e;exact j4 _ x ((aC O L x).1.length - (aC O L x).2.length) _ i hi1 (by show i<aW _ x _;rw [hf];exact hi2)
    ·exact h1.zero i x hi1 hi2 (by omega)
   ·rename_i hf;have hfl : aW (aC O L k).1 k (aC O L k).2.length<(aC O L k).1.length:=by omega
    have hne : nth (ai (aC O L k).1 (aW (aC O L k).1 k (aC O L k).2.length)) k ≠ 0:=fP _ k _ _ (by show aW _ k _<_;omega);exact ⟨h1.next F hR (by omega) hlt hfl hb.1 hne,(A0 F hR hlt hfl (by omega) hne).trans h2,h3.trans (Ck F hR hlt hfl (by omega) hne)⟩
  ·have hfull : (aC O L k).2.length=L.length:=by have:=cN O L k;have:=h1.le;omega
   rw [fE hfull 1];have hl:=cN O L k;exact ⟨⟨h1.le,λj hj=>by have:=h1.lt j hj;omega,h1.one,λi x hi1 hi2 hx=>by omega⟩,h2,h3⟩
theorem l8.ind (F : bR O El) {L : ZZ} {P : Lz} {c : Nat} (h : l8 L P c) : ∀k,k<=P.length->Rk (ie O El L.length (aK L)) (kT P k) k
 | 0,_=>.nil
 | k+1,hk=>by
  rw [kT];refine .ind _ (λhc=>?_) (h.ind F k (by omega));have hkl:=h.le;have h1:=hc (λv=>nth v k) (ja.vH F (by omega)) λy hy=>by obtain ⟨j,hj,rfl⟩:=(gR P y k).1 hy;show nth (aK L _) k=0;rw [bM L _ k (by omega),h.one j k (by omega) (by omega),Mh (by omega)]
  have h2 : nth (aK L (nth P k).toNat) k=0:=h1;rw [bM L _ k (by omega),h.one k k (by omega) (by omega),Mg rfl] at h2;exact absurd h2 (by decide)
def i9 (O : aJ) (L : ZZ) (P : Lz) (v : Lz) : Nat->Lz
 | 0=>v
 | k+1=>dZ O (i9 O L P v k) (nth (i9 O L P v k) k) (aK L (nth P k).toNat)
theorem l8.less (F : bR O El) {L : ZZ} {P : Lz} {c : Nat} (h : l8 L P c) (hL : bx El m L) {v : Lz} (hv : Vc El L.length v) {φ : Lz->Int} (hφ : ja O El L.length φ)
  (h0 : ∀j,j<P.length->φ (aK L (nth P j).toNat)=0) : ∀k,k<=P.length->Vc El L.length (i9 O L P v k)/\φ (i9 O L P v k)=φ v/\∀i,i<L.length->nth (i9 O L P v k) i=if i<k then 0 else nth v i
 | 0,_=>⟨hv,rfl,λi _=>by rw [Mh (by omega)];rfl⟩
 | k+1,hk=>by
  obtain ⟨h1,h2,h3⟩:=h.less F hL hv hφ h0 k (by omega);have hle:=h.le;have hcol:=ch hL F.zero (nth P k).toNat;have hx:=h1.at (i:=k) (by omega);refine ⟨h1.sub F hcol hx,?_,λi hi=>?_⟩
  ·rw [i9,hφ.sub _ _ _ h1 hcol hx,h0 k (by omega),F.dt hx,F.fD,F.add_zero _ (hφ.el _ h1),h2]
  ·rw [i9,eX O _ _ _ i (by rw [hcol.1,h1.1]) (by rw [h1.1];exact hi),bM L _ i hi,h.one k i (by omega) hi];by_cases e : i=k
   ·subst e;rw [Mg rfl,F.iE hx,F.add_neg _ hx,Mg (by omega)]
   ·rw [Mh e,F.dt hx,F.fD,F.add_zero _ (h1.at hi),h3 i hi];by_cases e2 : i<k
    ·rw [Mg e2,Mg (by omega)]
    ·rw [Mh e2,Mh (by omega)]
theorem l8.all (F : bR O El) {L : ZZ} {P : Lz} (h : l8 L P m) (hL : bx El m L) {x : Nat} (hx : x<m) : ie O El L.length (aK L) (kT P P.length) x:=by
 intro φ hφ h0;obtain ⟨h1,h2,h3⟩:=h.less F hL (ch hL F.zero x) hφ (λj hj=>h0 _ ((gR P _ _).2 ⟨j,hj,rfl⟩)) _ (Mf _);rw [<- h2];refine hφ.zero F h1 λi hi=>?_;rw [h3 i hi];split
 ·rfl
 ·rw [bM L x i hi];exact h.zero i x (by omega) hi hx
theorem Rk.map {cl cl' : Z6->Nat->Prop} (D : Nat->Prop) (f : Nat->Nat) (hc : ∀l x,(∀y ∈ l,D y)->D x->(cl l x ↔ cl' (l.map f) (f x))) {l : Z6} {r : Nat} (h : Rk cl l r) : (∀y ∈ l,D y)->Rk cl' (l.map f) r:=by
 induction h with
 | nil=>intro _;exact .nil
 | dep x hx _ ih =>
  intro hD
  exact .dep _ ((hc _ _ (λy hy=>hD y (List.mem_cons.2 (.inr hy))) (hD x (by simp))).1 hx) (ih λy hy=>hD y (List.mem_cons.2 (.inr hy)))
 | ind x hx _ ih =>
  intro hD
  exact .ind _ (λh=>hx ((hc _ _ (λy hy=>hD y (List.mem_cons.2 (.inr hy))) (hD x (by simp))).2 h)) (ih λy hy=>hD y (List.mem_cons.2 (.inr hy)))
theorem Fz (F : bR O El) {L : ZZ} (hL : bx El m L) : Rk (ie O El L.length (aK L)) (List.range m) (aC O L m).2.length:=by
 obtain ⟨h1,h2,h3⟩:=jF F hL m (Mf _);have hR:=kA F hL m (Mf _);have hC:=da F hR;have k1:=(h1.ind F _ (Mf _)).BR hC (List.range m) λx hx=>h1.all F hR (List.mem_range.1 hx);have k2:=Rk.map (cl':=ie O El L.length (aK L)) (λy=>y<m) id (λl x hl hx=>by rw [P8];exact ⟨h3.cl hl hx,h2.cl hl hx⟩) k1 λy hy=>by
  rcases List.mem_append.1 hy with hy | hy
  ·exact List.mem_range.1 hy
  ·obtain ⟨j,hj,rfl⟩:=(gR _ _ _).1 hy;have:=h1.lt j hj;omega
 obtain ⟨r,hr⟩:=Rq (ie O El L.length (aK L)) (List.range m);have e:=Q9 (da F hL) k2 hr λx=>by
  rw [P8,M0];constructor
  ·rintro (h | h)
   ·exact h
   ·obtain ⟨j,hj,rfl⟩:=(gR _ _ _).1 h;have:=h1.lt j hj;exact List.mem_range.2 (by omega)
  ·exact .inl
 rw [e];exact hr
def aO (Q : Lz) (r : Lz) : Lz:=Q.map λq=>nth r q.toNat
theorem ed (Q r : Lz) {i : Nat} (hi : i<Q.length) : nth (aO Q r) i=nth r (nth Q i).toNat:=by rw [aj (show i<(aO Q r).length by simpa [aO] using hi),aj hi];simp [aO]
theorem lQ {L : ZZ} (hL : bx El n L) {Q : Lz} (hQ : ∀j,j<Q.length->0<=nth Q j/\nth Q j<n) : bx El Q.length (L.map (aO Q)):=by intro r hr;obtain ⟨r0,h0,rfl⟩:=List.mem_map.1 hr;refine ⟨by simp [aO],λx hx=>?_⟩;obtain ⟨q,hq,rfl⟩:=List.mem_map.1 hx;obtain ⟨j,hj,rfl⟩:=List.mem_iff_getElem.1 hq;have:=hQ j hj;rw [aj hj] at this;exact (hL r0 h0).2 _ (aN (by rw [(hL r0 h0).1];omega))
theorem Jq (F : bR O El) {L : ZZ} (hL : bx El n L) {Q : Lz} (hQ : ∀j,j<Q.length->0<=nth Q j/\nth Q j<n) :
  Rk (ie O El L.length (aK L)) ((List.range Q.length).map λj=>(nth Q j).toNat) (aC O (L.map (aO Q)) Q.length).2.length:=by
 have hR:=lQ hL hQ;have hcol : ∀j,j<Q.length->aK (L.map (aO Q)) j=aK L (nth Q j).toNat:=λj hj=>by unfold aK;rw [N3];exact M7 λr _=>ed Q r hj
 refine Rk.map (λj=>j<Q.length) _ (λl x hl hx=>?_) (Fz F hR) λy hy=>List.mem_range.1 hy;unfold ie;rw [Mx];constructor
 ·intro h φ hφ h0;rw [<- hcol x hx];refine h φ hφ λy hy=>?_;rw [hcol y (hl y hy)];exact h0 _ (List.mem_map.2 ⟨y,hy,rfl⟩)
 ·intro h φ hφ h0;rw [hcol x hx];refine h φ hφ λy hy=>?_;obtain ⟨j,hj,rfl⟩:=List.mem_map.1 hy;rw [<- hcol j (hl j hj)];exact h0 j hj
end
def QV:=@Vc.at
def Q5:=@RS.row
end Go.Proofs.YtcfmiocdlcapoaaGreat
