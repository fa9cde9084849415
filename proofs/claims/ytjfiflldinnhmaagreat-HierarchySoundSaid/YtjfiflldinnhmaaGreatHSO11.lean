import Derived.Test.YtjfiflldinnhmaaGreatHSO8
import Derived.Test.YtjfiflldinnhmaaGreatHSO7
namespace Go.Proofs.YtjfiflldinnhmaaGreat
set_option linter.all false
set_option maxRecDepth 100000
set_option maxHeartbeats 4000000
open Go.RowKit Go.Proofs.Tryz
def tj (w0 : World) (bb b : Nat) (ar : OA) (R : LA) (ap av : OA) (O : aL) (s : BS) (v : LI) (w : World) (e : Ending) (w' : World) : Prop :=
 ∃ar' cr' R' ap' cp',e = .returned (.bool (s.dF O v))/\kQ w' w0.heap.size bb b ar' cr' R' ap' cp' (s.next O v) /\
  aw w w' (λx=>pr bb ar R ap x\/(av ≠ none/\x=ah av)) (pr bb ar' R' ap')
theorem Bn {w w0 : World} {b : Nat} {G : cC} (bb : Nat) (ar : OA) (cr : Nat) (R : LA) (ap : OA) (cp : Nat) (s : BS) (av : OA) (cv n : Nat) (v : LI)
  (h : dY w0 b G) (hb : JA w0 w) (hB : kQ w w0.heap.size bb b ar cr R ap cp s) (hs : s.Ok G.El n) (hv : w.ownsRow w0.heap.size 3 1 (.slice av n cv) n (v.map (Value.int .i64)))
  (hav : av ≠ none->¬ pr bb ar R ap (ah av)) (hve : G.CL v) (hn : n<=1000000) (hk : s.rows.length<=1000000) :
  Calls prog 126 #[.pointer (some ⟨bb,0,none⟩),.slice av n cv] w (tj w0 bb b ar R ap av G.ops s v w):=by
 have hvl : v.length=n:=by simpa using iw hv
 have hpv:=(I9 hv).1.pl;have hcl:=Js h;have hred:=lh hcl hs.rws hs.plc ⟨hvl,hve⟩;have Hred:=Z5 hred;have Hvl:=Z5 hvl;have Hs:=Z5 hs;have Hve:=Z5 hve;have c1:=hB.c1;have hplr:=hB.om.pl;clear hred hvl hs hve;go_enter func126,ntmps126;go_wp2_with fail;obtain ⟨kk,hkk⟩ : ∃kk,s.rows.length=kk:=⟨_,rfl⟩
 have Hkk:=Z5 hkk;rw [hkk] at hk hplr c1;rw [hkk];clear hkk;go_loopw [18] (λiv wr=>∃k : Nat,k<=kk/\iv = .int .i64 k/\wr.ownsRow w0.heap.size 3 1 (.slice av n cv) n ((bN G.ops s.rows s.place v k).map (Value.int .i64))/\bT av w wr) (λiv _=>kk - (intOf iv).toNat);case atStart=>exact ⟨0,EL _,rfl,hv,Jq _ _⟩
 case round =>
  obtain ⟨k,hkk2,rfl,hown,honly⟩:=hrel
  have hBr:=hB.only honly hav
  by_cases hlt : k<kk
  ·have hkr : k<s.rows.length:=by rw [Hkk.out];exact hlt
   have e0:=hBr.c0
   have e2:=hBr.c2
   have er:=hBr.om.cell hkr
   have ir:=hBr.om.ints hkr
   have hrow:=Hs.out.rws.row hkr
   have hplc:=Hs.out.plc k hkr
   rw [hrow.1] at er ir
   obtain ⟨ip,mp⟩:=I9 hBr.pl
   have ep:=ip.cell k hkr
   have hpp:=ip.pl
   rw [Hkk.out] at e2 hpp
   obtain ⟨pn,hpn⟩ : ∃pn : Nat,nth s.place k=pn:=⟨(nth s.place k).toNat,by omega⟩
   rw [hpn] at ep hplc
   have hpnn : pn<n:=by omega
   have hrd:=Hred.out k (by omega)
   have hrd1:=Hred.out (k+1) (by omega)
   have hstep : bN G.ops s.rows s.place v (k+1)=dw G.ops (bN G.ops s.rows s.place v k) pn (af s.rows k):=by rw [bN,hpn]
   have Hstep:=Z5 hstep
   have Hrow:=Z5 hrow
   have Hpn:=Z5 hpn
   clear hstep hpn
   obtain ⟨u,hu⟩ : ∃u,bN G.ops s.rows s.place v k=u:=⟨_,rfl⟩
   rw [hu] at hown hrd
   have Hu:=Z5 hu
   obtain ⟨iu,mu⟩:=I9 hown
   have eu:=iu.cell pn hpnn
   have hpu:=iu.pl
   have Hrd:=Z5 hrd
   clear hu hrow hrd hrd1
   by_cases hz : nth u pn=0
   ·have hz' : (nth u pn != 0)=false:=by simpa using hz
    have Hn : Hid (bN G.ops s.rows s.place v (k+1)=u):=by show _=_;rw [Hstep.out,Hu.out,dw,EM,EH hz]
    clear hz
    go_wp2_with fail
    go_roundw
    case rel=>exact ⟨k+1,by omega,by go_num,by rw [Hn.out];exact hown,honly⟩
    case measure=>simp [intOf] <;> omega
   ·have hz' : (nth u pn != 0)=true:=by simpa using hz
    have Hn : Hid (bN G.ops s.rows s.place v (k+1)=dj G.ops u (nth u pn) (af s.rows k)):=by show _=_;rw [Hstep.out,Hu.out,dw,EM,EG hz]
    have hxe : G.El (nth u pn):=Hrd.out.2 _ (aO (by rw [Hrd.out.1];exact hpnn))
    have hSl : (dj G.ops u (nth u pn) (af s.rows k)).length=u.length:=dS _ _ _ _ (by rw [Hrow.out.1,Hrd.out.1])
    have hSn:=λi hi=>dH G.ops u (nth u pn) (af s.rows k) i (by rw [Hrow.out.1,Hrd.out.1]) hi
    have HSl:=Z5 hSl
    have HSn:=Z5 hSn
    clear hz hSl hSn
    have hplr2:=ir.pl
    go_wp2_with fail
    generalize nth u pn=x at *
    generalize dj G.ops u x (af s.rows k)=S at *
    go_loopw [37] (λiv wx=>∃j : Nat,j<=n/\iv = .int .i64 j/\wx.ownsRow w0.heap.size 3 1 (.slice av n cv) n ((ei S u j).map (Value.int .i64))/\bT av w wx) (λiv _=>n - (intOf iv).toNat)
    case atStart=>exact ⟨0,EL _,rfl,by rw [ew];exact hown,honly⟩
    case round =>
     obtain ⟨j,hj,rfl,hown2,honly2⟩:=hrel
     have hBx:=hB.only honly2 hav
     have ix:=hBx.om.ints hkr
     rw [Hrow.out.1] at ix
     by_cases hjn : j<n
     ·have cj:=ix.cell j hjn
      have f0:=hBx.c0
      obtain ⟨im,mm⟩:=I9 hown2
      have cm:=im.cell j hjn
      have fm:=(mm (by omega)).2 j hjn
      have hju : j<u.length:=by rw [Hrd.out.1];exact hjn
      have hmix:=dR S u j j HSl.out (by omega)
      rw [EG (by omega)] at hmix
      rw [hmix] at cm
      have hset:=dW S u j HSl.out hju
      rw [HSn.out j hju] at hset
      have Hset:=Z5 hset
      have ely : G.El (nth (af s.rows k) j):=Hrow.out.2 _ (aO (by rw [Hrow.out.1];exact hjn))
      have elv : G.El (nth u j):=Hrd.out.2 _ (aO hju)
      have elm : ∀x y,G.El (G.mul x y):=λx y=>Jw h x y
      have hbx : JA w0 wr:=Ft hb (honly2.below (λha=>(aU hv ha).1) hb.size)
      have hGr : dY wr b G:=h.aa hbx
      have HG : Hid (dY wr.drew b G/\∀n,dY (wr.drewN n) b G):=⟨hGr.aa (EI _ _).drew,λn=>hGr.drewN n⟩
      clear hset hmix
      go_wp2_with fail
      go_region_law ((first
       | (go_simp;go_at_call 77;((with_reducible refine (o0 x (nth (af s.rows k) j) HG.out.1 hxe ely).mono ?_);rintro e w4 ⟨m4,rfl,rfl⟩))
       | (go_simp;go_at_call 77;((with_reducible refine (o0 x (nth (af s.rows k) j) (HG.out.2 _) hxe ely).mono ?_);rintro e w4 ⟨m4,rfl,rfl⟩))
       | (go_simp;go_at_call 187;((with_reducible refine (Dc (nth u j) (G.mul x (nth (af s.rows k) j)) (HG.out.2 _) elv (elm _ _)).mono ?_);rintro e w4 ⟨m5,rfl,rfl⟩))))
      all_goals (
       go_wp2_with fail
       go_roundw
       case rel =>
        have hdr : bf wr (wr.drewN (1+m4+m5)):=⟨_,rfl⟩
        refine ⟨j+1,by omega,by go_num,?_,honly2.trans ((Jg hdr).trans (Jo _ j _ (by intro e;have:=hpv (by omega);rw [e] at this;cases this)))⟩
        have h1:=bz (w:=wr.drewN (1+m4+m5)) hown2 j hjn (.int .i64 (G.sub (nth u j) (G.mul x (nth (af s.rows k) j))))
        rw [<- Ff,show G.sub (nth u j) (G.mul x (nth (af s.rows k) j))=G.ops.add (nth u j) (G.ops.neg (G.ops.mul x (nth (af s.rows k) j))) from rfl,Hset.out] at h1
        exact h1
       case measure=>simp [intOf] <;> omega)
     ·obtain rfl : j=n:=by omega
      rw [fb S u j (by rw [HSl.out,Hrd.out.1]) Hrd.out.1] at hown2
      go_wp2_with fail
      go_roundw
      case rel=>exact ⟨k+1,by omega,by go_num,by rw [Hn.out];exact hown2,honly2⟩
      case measure=>simp [intOf] <;> omega
  ·obtain rfl : k=kk:=by omega
   have hrd:=Hred.out k (by rw [Hkk.out];exact EF _)
   have hurd : bN G.ops s.rows s.place v k=s.red G.ops v:=by rw [BS.red,Hkk.out]
   rw [hurd] at hown hrd
   obtain ⟨iu,mu⟩:=I9 hown
   have Hrd:=Z5 hrd
   clear hurd hrd
   go_wp2_with fail
   refine (uc _ _ _ _ _ iu).mono ?_
   rintro e w' ⟨rfl,rfl⟩
   by_cases hf : iQ (s.red G.ops v)<(s.red G.ops v).length
   ·have hfv : jz (s.red G.ops v)=iQ (s.red G.ops v):=by rw [jz,EH hf]
    have hfn:=jB _ hf
    have Ht : Hid (s.dF G.ops v=true):=by show _=_;simpa [BS.dF] using hf
    have HN : Hid (s.next G.ops v=⟨s.rows ++ [(s.red G.ops v).map (G.mul (G.inv (nth (s.red G.ops v) (iQ (s.red G.ops v)))))],s.place ++ [(iQ (s.red G.ops v) : Int)]⟩):=by show _=_;rw [BS.next,EH Ht.out];rfl
    rw [hfv]
    obtain ⟨u,hu⟩ : ∃u,s.red G.ops v=u:=⟨_,rfl⟩
    rw [hu] at hown Hrd hf hfn iu HN
    rw [hu]
    clear hu hfv
    obtain ⟨f,hff⟩ : ∃f,iQ u=f:=⟨_,rfl⟩
    rw [hff] at hf hfn HN
    rw [hff]
    have hfn' : f<n:=by rw [<- Hrd.out.1];exact hf
    have e0:=hBr.c0
    have eu:=iu.cell f hfn'
    have hpu:=iu.pl
    have elf : G.El (nth u f):=Hrd.out.2 _ (aO hf)
    have hbx : JA w0 wr:=Ft hb (honly.below (λha=>(aU hv ha).1) hb.size)
    have hGr : dY wr b G:=h.aa hbx
    have HG : Hid (dY wr.drew b G/\∀n,dY (wr.drewN n) b G):=⟨hGr.aa (EI _ _).drew,λn=>hGr.drewN n⟩
    have Hfn:=Z5 hfn
    have Hf:=Z5 hf
    clear hff hfn hf
    go_upto_region 15 with fail
    go_cut [11] (λdv wx=>dv = .int .i64 (G.inv (nth u f))/\bf wr wx)
    case first =>
     go_region_held3 (λw'=>w'.cell? ⟨bb,0,none⟩=some (.pointer (some ⟨b,0,none⟩))/\w'.cell? ⟨ah av,aG av+f,none⟩=some (.int .i64 (nth u f)))
      (exact ⟨e0,eu⟩)
      (first
      | (go_at_call 189;((with_reducible refine (A6 _ HG.out.1 elf Hfn.out).mono ?_);rintro e w4 ⟨m4,rfl,rfl⟩)))
     all_goals (
      go_step;go_step
      go_meet
      exact ⟨rfl,⟨_,rfl⟩⟩)
    obtain ⟨rfl,hdr⟩:=hcut
    generalize wc=V at *
    have hBV : kQ V w0.heap.size bb b ar cr R ap cp s:=hBr.aa hdr.below
    have hownV:=aY hown hdr.below
    have hbV : JA w0 V:=hdr.wR hbx
    have honV : bT av w V:=honly.trans (Jg hdr)
    clear hBr hown hbx hGr HG e0 eu iu mu hdr honly
    obtain ⟨iu,mu⟩:=I9 hownV
    have HGV : Hid (dY V.drew b G/\∀n,dY (V.drewN n) b G):=⟨(h.aa hbV).aa (EI _ _).drew,λn=>(h.aa hbV).drewN n⟩
    have hiel : G.El (G.inv (nth u f)):=cC.sL h _
    have e0:=hBV.c0
    have e1:=hBV.c1
    have f1:=hBV.fr 1
    have hS : ∀W,JA V W->W.cell? ⟨bb,0,none⟩=some (.pointer (some ⟨b,0,none⟩))/\W.cell? ⟨bb,1,none⟩=some (.slice ar s.rows.length cr)/\W.frozen? ⟨bb,1,none⟩=false/\JA V W:=by intro W hW;have hBW:=hBV.aa hW;exact ⟨hBW.c0,hBW.c1,hBW.fr 1,hW⟩
    have HS:=Z5 hS
    have haptb : db ar bb:=by
     by_cases ha : ar=none
     ·exact .inl ha
     ·exact .inr λe=>hBV.d1 (.inl ⟨ha,e.symm⟩)
    have hR : ∀W,JA V W->W.ownsRow w0.heap.size 22 1 (.slice ar k cr) k (List.zipWith gU R s.rows):=λW hW=>by have:=(hBV.om.aa hW).own;rwa [Hkk.out] at this
    have HR:=Z5 hR
    obtain ⟨N,hN⟩ : ∃N,u.map (G.mul (G.inv (nth u f)))=N:=⟨_,rfl⟩
    have hsc : Calls prog 86 #[.pointer (some ⟨b,0,none⟩),.int .i64 (G.inv (nth u f)),.slice av n cv] V.drew (cB V.drew N):=by rw [<- hN];exact wS (G.inv (nth u f)) _ _ _ u HGV.out.1 hiel (iu.aa (EI _ _).drew) Hrd.out.2 hn
    have Hsc:=Z5 hsc
    have HNe:=Z5 hN
    rw [hN] at HN
    clear hN hsc
    clear hS hR
    go_upto_region 16 with fail
    go_cut [] (λwx=>∃ar' cr' R',wx.cell? ⟨bb,1,none⟩=some (.slice ar' (k+1) cr')/\aN wx w0.heap.size ar' (k+1) cr' R' (s.rows ++ [N]) /\
     aw V wx (λx=>x=bb\/bH ar R x) (λx=>x=bb\/bH ar' R' x)/\¬ bH ar' R' bb /\
     (∀i v,i ≠ 1->V.cell? ⟨bb,i,none⟩=some v->wx.cell? ⟨bb,i,none⟩=some v)/\∀i,wx.frozen? ⟨bb,i,none⟩=false)
    case first =>
     rw [Hkk.out] at e1 HS
     go_region_law ((first
      | (go_simp;go_at_call 86;((with_reducible refine Hsc.out.mono ?_);rintro e w4 ⟨a4,c4,rfl,hown4,hb4⟩;obtain ⟨q0,q1,q2,q5⟩:=HS.out w4 (I8 (EI _ _).drew hb4);have q6 : bb<w4.heap.size:=EP w4 _ q0))
      | (refine ie (by rfl) (.tmp 83) (.tmp 91) 25 22 (by rfl) (.slice none 0 0) 24 underlying25 eh (by rfl) w0.heap.size ar k cr (List.zipWith gU R s.rows) (by rfl) (HR.out _ (I8 q5 (aA _ _))) (some ⟨w4.heap.size,0,none⟩) 1 1 [.slice a4 N.length c4] (by rfl) (λ_=>rfl) rfl (by intro j hj;obtain rfl : j=0:=(by omega);exact eC _ _ _ rfl) (by intro y hy;simp at hy;subst hy;rfl) (by omega) (by unfold maxLen;omega) (by have e1:=hbV.size;have e2:=FU q5;simp;omega) ?_;intro a5 c5 w5 hown5 hgr5 hap5;have p1:=bF hgr5 (aJ q1 _) haptb;have p2 : w5.frozen? ⟨bb,1,none⟩=false:=(E5 (hgr5.block bb (EP _ _ (aJ q1 _)) (λe=>haptb.own k cr e.symm))).trans (bV (EP _ _ q1) q2 _))))
     all_goals (
      go_wp2_with fail
      go_meet
      exact hBV.Bp Hkk.out hbV.size (I8 (EI _ _).drew hb4) hown4 hown5 hgr5 hap5 ⟨_,p1⟩)
    obtain ⟨ar',cr',R',y1,hOX,hMX,hdX,hcX,hfX⟩:=hcut
    generalize wc=X at *
    have y0:=hcX 0 _ (by omega) e0
    have y2:=hcX 2 _ (by omega) hBV.c2
    have yf:=hfX 2
    have hnI : ap ≠ none->¬ (ah ap=bb\/bH ar R (ah ap)):=λh0 hI=>by
     rcases hI with h1 | h1
     ·rcases hBV.d2 with h2 | h2
      ·exact h0 h2
      ·exact h2 h1
     ·exact hBV.d3 h0 h1
    have hpX:=hMX.own hBV.pl hnI
    have hd3 : ap ≠ none->¬ bH ar' R' (ah ap):=λh0 hI=>hMX.not (aU hBV.pl h0).2 (hnI h0) (.inr hI)
    rw [Hkk.out] at y2 hpX
    have hbX : JA w0 X:=hbV.trans (hMX.below (λx hx=>(hBV.lt x (by rcases hx with h1 | h1;exact .inl h1;exact .inr (.inl h1))).1) hbV.size)
    have hz : bb<X.heap.size:=EP X _ y0
    have HfX:=Z5 hfX
    have Hd3:=Z5 hd3
    have HdX:=Z5 hdX
    have hd2:=hBV.d2
    have hbB:=hBV.bB
    have hcn:=bk X (.int .i64 f) 3
    clear hcX hfX hd3 hdX e0 e1 f1
    go_wp2_with (at_builtin;refine aX rfl _ _ 22 3 rfl (.int .i64 0) 8 underlying22 bh rfl w0.heap.size ap k cp _ rfl (hpX.alloc _) ⟨X.heap.size,0,none⟩ 1 (.int .i64 f) rfl hcn rfl (by omega) (by unfold maxLen;omega) (by have e1:=hbX.size;simp;omega) ?_;intro a6 c6 w6 hown6 hgr6 hap6;have p1:=bF hgr6 (aJ y2 _) hd2;have p2 : w6.frozen? ⟨bb,2,none⟩=false:=(E5 (hgr6.block bb (EP _ _ (aJ y2 _)) (λe=>hd2.own k cp e.symm))).trans (bV hz yf _))
    have hP:=kQ.AD (w6:=w6) hbB y0 y1 ⟨_,y2⟩ HfX.out hOX hpX HdX.out hd2 Hd3.out hown6 hgr6 hap6
    have HP:=Z5 hP
    clear hP
    go_ret
    refine ⟨ar',cr',R',a6,c6,bj Ht.out.symm,by rw [HN.out];exact HP.out.1,?_⟩
    refine Jv (w':=V) (I':=λx=>pr bb ar R ap x\/(av ≠ none/\x=ah av)) ?_ (Jv (w':=X) (I':=pr bb ar' R' ap) ?_ HP.out.2)
    ·exact ⟨honV.os,honV.tape,honV.output,honV.size,λx hx hI=>honV.block x hx λh2=>hI (.inr h2),λx hx=>.inl hx⟩
    ·refine ⟨hMX.os,hMX.tape,hMX.output,hMX.size,λx hx hI=>hMX.block x hx λh2=>hI (.inl (by rcases h2 with h3 | h3;exact .inl h3;exact .inr (.inl h3))),λx hx=>?_⟩
     rcases hx with h1 | h1 | h1
     ·exact .inl (.inl (.inl h1))
     ·rcases hMX.grow x (.inr h1) with h2 | h2
      ·exact .inl (.inl (by rcases h2 with h3 | h3;exact .inl h3;exact .inr (.inl h3)))
      ·exact .inr h2
     ·exact .inl (.inl (.inr (.inr h1)))
   ·have hfv : jz (s.red G.ops v) = -1:=by rw [jz,EG hf]
    rw [hfv]
    have Ht : Hid (s.dF G.ops v=false):=by show _=_;simp [BS.dF];omega
    have HN : Hid (s.next G.ops v=s):=by show _=_;rw [BS.next,EG (by rw [Ht.out];simp)]
    clear hf hfv
    go_wp2_with fail
    go_ret
    refine ⟨ar,cr,R,ap,cp,bj Ht.out.symm,by rw [HN.out];exact hBr,?_⟩
    exact ⟨honly.os,honly.tape,honly.output,honly.size,λx hx hI=>honly.block x hx λh2=>hI (.inr h2),λx hx=>.inl (.inl hx)⟩
theorem aN.Cv (w : World) (B : Nat) : aN w B none 0 0 [] [] :=
 ⟨rfl,rfl,bG,λi hi=>by omega,λi hi=>by omega,λi j hi=>by omega⟩
theorem wD (P : Int) (m : Nat) (am : OA) (mn cm : Nat) (mod : LI) (av : OA) (n cv : Nat) (v : LI) (s : Int) (au : OA) (cu : Nat) (u : LI) (w : World) (hf : rT w P m am mn mod) (hs : ef P m s)
  (hi : Ints w av n v) (hu : Ints w au n u) (hve : ∀x ∈ v,ef P m x) (hue : ∀x ∈ u,ef P m x) (hn : n<=1000000) :
  Calls prog 241 #[.agg #[.int .i64 P,.int .i64 m,.slice am mn cm],.slice av n cv,.int .i64 s,.slice au n cu] w (cB w (cw (kn P m mod) v s u)):=by
 have hrf:=hf.rf;have Hs:=Z5 (hrf.gZ hs);have Hvl:=Z5 hi.len;have Hul:=Z5 hu.len;have hplv:=hi.pl;have hplu:=hu.pl;have Hev : Hid (∀k,k<n->gZ (aH P m) (nth v k)=true):=λk hk=>hrf.gZ (hve _ (aO (by rw [hi.len];exact hk)));have Heu : Hid (∀k,k<n->gZ (aH P m) (nth u k)=true):=λk hk=>hrf.gZ (hue _ (aO (by rw [hu.len];exact hk)));have HNl : Hid ((cw (kn P m mod) v s u).length=n):=by show _=_;rw [dT _ _ _ _ (by rw [hi.len,hu.len]),hi.len]
 have HNn : Hid (∀k,k<n->nth (cw (kn P m mod) v s u) k=if nth u k=0 then nth v k else du P m (nth v k) (mulR P m mod s (nth u k))):=λk hk=>gM (kn P m mod) v s u k (by rw [hi.len,hu.len]) (by rw [hi.len];exact hk);obtain ⟨NN,hNN⟩ : ∃NN,cw (kn P m mod) v s u=NN:=⟨_,rfl⟩
 rw [hNN] at HNl HNn;rw [hNN];clear hve hue hNN;go_enter func241,ntmps241;go_wp2_with (at_make;refine bZ rfl _ _ 22 3 rfl (.int .i64 0) 8 underlying22 bh rfl n rfl rfl (by omega) (by unfold maxLen;omega) ?_;intro a1 w1 hown hbel hge hlt);obtain ⟨W,hW⟩ : ∃W : World,W=w.alloc (.cells #[.int .i64 P,.int .i64 m,.slice am mn cm] 24):=⟨_,rfl⟩
 rw [<- hW] at hown hbel hge;have hbW : JA w W:=by rw [hW];exact aA _ _
 have x0 : ba W w.heap.size [.int .i64 P,.int .i64 m,.slice am mn cm]:=by rw [hW];exact Ja _ _ _ rfl
 have hfW:=hf.aa hbW;have hiW:=hi.aa hbW;have huW:=hu.aa hbW;have hS : ∀k,k<n->∀V,JA W V->V.cell? ⟨w.heap.size,0,none⟩=some (.int .i64 P)/\V.cell? ⟨w.heap.size,1,none⟩=some (.int .i64 m)/\V.cell? ⟨w.heap.size,2,none⟩=some (.slice am mn cm) /\
   V.cell? ⟨ah av,aG av+k,none⟩=some (.int .i64 (nth v k))/\V.cell? ⟨ah au,aG au+k,none⟩=some (.int .i64 (nth u k))/\JA W V:=by intro k hk V hV;have x1:=x0.aa hV;exact ⟨x1.cell 0 rfl,x1.cell 1 rfl,x1.cell 2 rfl,(hiW.aa hV).cell k hk,(huW.aa hV).cell k hk,hV⟩
 have HS:=Z5 hS;clear hW x0 hS;go_loopw [10] (λiv wr=>∃k : Nat,k<=n/\iv = .int .i64 k /\
   wr.ownsRow W.heap.size 3 1 (.slice a1 n n) n ((cH (NN.take k) k n).map (Value.int .i64))/\JA W wr)
  (λi _=>n - (intOf i).toNat)
 case atStart=>exact ⟨0,EL _,rfl,by simpa [cH] using hown,hbel⟩
 case round =>
  obtain ⟨k,hk,rfl,hown,hbel⟩:=hrel
  obtain ⟨hints,hmine⟩:=I9 hown
  have hpl1:=hints.pl
  by_cases hlt : k<n
  ·have hB:=(hmine (by omega)).1
   have cc:=hints.cell k hlt
   have cf:=(hmine (by omega)).2 k hlt
   obtain ⟨d0,d1,d2,d3,d4,_⟩:=HS.out k hlt wr hbel
   have hset : ∀(V : World) (z : Int),z=nth NN k->V.ownsRow W.heap.size 3 1 (.slice a1 n n) n ((cH (NN.take k) k n).map (Value.int .i64))->(V.setCell ⟨ah a1,aG a1+k,none⟩ (.int .i64 z)).ownsRow W.heap.size 3 1 (.slice a1 n n) n ((cH (NN.take (k+1)) (k+1) n).map (Value.int .i64)):=by rintro V z rfl hV;have h:=bz hV k hlt (.int .i64 (nth NN k));rw [<- Ff,en _ _ _ _ (by simp [HNl.out];omega) hlt] at h;rw [EV (by rw [HNl.out];omega)];rw [ai (by rw [HNl.out];omega)] at h ⊢;exact h
   have Hset:=Z5 hset
   have HB:=Z5 hB
   have hNk:=HNn.out k hlt
   have hown':=bz hown k hlt (.int .i64 (nth v k))
   by_cases hz : nth u k=0
   ·rw [EH hz] at hNk
    have hz' : (nth u k != 0)=false:=by simpa using hz
    have HNk:=Z5 hNk
    have dd : (wr.setCell ⟨ah a1,aG a1+k,none⟩ (.int .i64 (nth v k))).cell? ⟨ah au,aG au+k,none⟩=some (.int .i64 (nth u k)):=(HS.out k hlt _ (hbel.setCell hB _)).2.2.2.2.1
    clear hset hz hNk hown'
    go_wp2_with fail
    go_roundw
    case rel=>exact ⟨k+1,by omega,by go_num,Hset.out _ _ HNk.out.symm hown,hbel.setCell HB.out _⟩
    case measure=>simp [intOf] <;> omega
   ·rw [EG hz] at hNk
    have hz' : (nth u k != 0)=true:=by simpa using hz
    have HNk:=Z5 hNk
    obtain ⟨U,hU⟩ : ∃U : World,U=wr.setCell ⟨ah a1,aG a1+k,none⟩ (.int .i64 (nth v k)):=⟨_,rfl⟩
    have hbU : JA W U:=by rw [hU];exact hbel.setCell hB _
    have dd : (wr.setCell ⟨ah a1,aG a1+k,none⟩ (.int .i64 (nth v k))).cell? ⟨ah au,aG au+k,none⟩=some (.int .i64 (nth u k)):=(HS.out k hlt _ (hbel.setCell hB _)).2.2.2.2.1
    rw [<- hU] at hown'
    have hmdU:=(hfW.aa hbU).mods
    have Hmd : Hid (∀V,JA U V->tY V P m am mn mod):=λV hV=>hmdU.aa hV
    have HK : Hid (∀V,JA U V->(∃y,V.cell? ⟨ah a1,aG a1+k,none⟩=some y)/\V.frozen? ⟨ah a1,aG a1+k,none⟩=false/\V.ownsRow W.heap.size 3 1 (.slice a1 n n) n (((cH (NN.take k) k n).map (Value.int .i64)).set k (.int .i64 (nth v k)))):=λV hV=>by have ho:=aY hown' hV;have h5:=bs ho k hlt;exact ⟨⟨_,by rw [h5.1,Fa (by rw [h5.2.2.2.1];exact hlt)]⟩,h5.2.1,ho⟩
    have HbU:=Z5 hbU
    have HelM : Hid (gZ (aH P m) (mulR P m mod s (nth u k))=true):=hrf.gZ (rJ hrf mod _ _)
    have HSk : Hid (∀V,JA W V->V.cell? ⟨w.heap.size,0,none⟩=some (.int .i64 P)/\V.cell? ⟨w.heap.size,1,none⟩=some (.int .i64 m)/\V.cell? ⟨w.heap.size,2,none⟩=some (.slice am mn cm) /\
     V.cell? ⟨ah av,aG av+k,none⟩=some (.int .i64 (nth v k))/\V.cell? ⟨ah au,aG au+k,none⟩=some (.int .i64 (nth u k))/\JA W V):=HS.out k hlt
    have hset2 : ∀V : World,V.ownsRow W.heap.size 3 1 (.slice a1 n n) n (((cH (NN.take k) k n).map (Value.int .i64)).set k (.int .i64 (nth v k))) ->
      (V.setCell ⟨ah a1,aG a1+k,none⟩ (.int .i64 (du P m (nth v k) (mulR P m mod s (nth u k))))).ownsRow W.heap.size 3 1 (.slice a1 n n) n ((cH (NN.take (k+1)) (k+1) n).map (Value.int .i64)):=by intro V hV;rw [<- HNk.out];have h:=bz hV k hlt (.int .i64 (nth NN k));rw [List.set_set,<- Ff,en _ _ _ _ (by simp [HNl.out];omega) hlt] at h;rw [EV (by rw [HNl.out];omega)];rw [ai (by rw [HNl.out];omega)] at h ⊢;exact h
    have Hset2:=Z5 hset2
    clear hset hz hNk hown' hmdU hbU hset2
    go_wp2_with fail
    rw [<- hU]
    clear hU d0 d1 d2 d3 d4 cc cf dd hbel hints hmine hown hB
    go_region_held3 (λV=>V.cell? ⟨w.heap.size,0,none⟩=some (.int .i64 P)/\V.cell? ⟨w.heap.size,1,none⟩=some (.int .i64 m)/\V.cell? ⟨w.heap.size,2,none⟩=some (.slice am mn cm) /\
      V.cell? ⟨ah av,aG av+k,none⟩=some (.int .i64 (nth v k))/\V.cell? ⟨ah au,aG au+k,none⟩=some (.int .i64 (nth u k))/\JA W V)
     ((refine HSk.out _ ?_;first | exact HbU.out.drew | exact I8 HbU.out hb7 | exact I8 HbU.out hb9 | exact (I8 HbU.out hb9).setCell HB.out _))
     (first
      | (go_at_call 149;((with_reducible refine (o7 P m am mn cm mod s (nth u k) _ hrf (Hmd.out _ (EI _ _).drew) Hs.out (Heu.out k hlt)).mono ?_);rintro e w4 ⟨rfl,hb4⟩;have hb7 : JA U w4:=I8 (EI _ _).drew hb4))
      | (go_at_call 148;((with_reducible refine (zO P m am mn cm (nth v k) (mulR P m mod s (nth u k)) _ hrf (Hev.out k hlt) HelM.out).mono ?_);rintro e w5 ⟨rfl,hb5⟩;have hb9 : JA U w5:=I8 hb7 hb5;obtain ⟨⟨v9,k9⟩,f9,o9⟩:=HK.out w5 hb9)))
    clear k9 f9
    go_wp2_with fail
    go_roundw
    case rel=>exact ⟨k+1,by omega,by go_num,Hset2.out _ o9,(I8 HbU.out hb9).setCell HB.out _⟩
    case measure=>simp [intOf] <;> omega
  ·obtain rfl : k=n:=by omega
   have hfin : cH (NN.take k) k k=NN:=by rw [eZ,ES (by rw [HNl.out];exact EF _)]
   rw [hfin] at hown
   clear hfin
   go_wp2_with fail
   go_ret
   exact ⟨a1,k,by rw [HNl.out];rfl,by rw [HNl.out];exact aW hown hbW.size,I8 hbW hbel⟩
theorem zt (a : OA) (n c : Nat) (L : LL) (w : World) (hi : bY w a n L) (hn : n<=1000000) (hL : ∀l ∈ L,l.length<=1000000) :
  Calls prog 238 #[.slice a n c] w (Bh w L):=by
 have hpl:=hi.pl;have Hlen:=Z5 hi.len;have HL:=Z5 hL;clear hL;go_enter func238,ntmps238;go_wp2_with fail;go_loopw [3,4] (λsv iv wr=>∃(k : Nat) (a1 : OA) (c1 : Nat),k<=n/\iv = .int .i64 k/\sv = .slice a1 k c1/\(∃R,aN wr w.heap.size a1 k c1 R (L.take k))/\JA w wr) (λ_ iv _=>n - (intOf iv).toNat);case atStart=>exact ⟨0,none,0,EL _,rfl,rfl,⟨[],by simpa using aN.Cv w w.heap.size⟩,EI _ _⟩
 case round =>
  obtain ⟨k,a1,c1,hk,rfl,rfl,⟨R,hO⟩,hbr⟩:=hrel
  by_cases hlt : k<n
  ·obtain ⟨ra,rn,rc,hcell,hrow⟩:=(hi.aa hbr).cell k hlt
   have hkL : k<L.length:=by rw [Hlen.out];exact hlt
   have hrl : rn<=1000000:=by rw [<- hrow.len,aE hkL];exact HL.out _ (Fj hkL)
   have hO1:=ke wr 3
   have hbe:=aA wr (.cells #[] 3)
   obtain ⟨l,hl⟩ : ∃l,af L k=l:=⟨_,rfl⟩
   rw [hl] at hrow
   have Htk : Hid (L.take (k+1)=L.take k ++ [l]):=by show _=_;rw [EV hkL,<- hl,aE hkL]
   have hrowe:=hrow.aa hbe
   have hcell2:=aJ hcell (.cells #[] 3)
   have hpr:=hrow.pl
   have Hrl:=Z5 hrow.len
   have hsz:=hbr.size
   clear hl
   go_wp2_with (at_builtin;first
    | (refine iJ (by rfl) (.tmp 12) (.tmp 16) 22 3 (by rfl) (.int .i64 0) 8 underlying22 bh (by rfl) wr.heap.size _ 0 0 [] (by rfl) hO1 ra rn rc (l.map (Value.int .i64)) (by rfl) hpr (by simp [Hrl.out]) (Jr hrowe) (ints_oneCell _ _) (by omega) (by unfold maxLen;omega) (FU hbe) ?_;intro a3 c3 w3 hown3 hgr3 hap3;have hb3 : JA wr w3:=Jb (B:=wr.heap.size) (e:=3) (xs:=[]) hbe hO1 hgr3 (EF _) (FU hbe);rw [GX] at hown3 ⊢;rw [FV] at hown3)
    | (refine aX rfl _ _ 25 22 rfl (.slice none 0 0) 24 underlying25 eh rfl w.heap.size a1 k c1 _ rfl ((hO.aa (I8 hb3 (aA _ _))).own) ⟨w3.heap.size,0,none⟩ 1 (.slice a3 rn c3) rfl (bk w3 _ _) rfl (by omega) (by unfold maxLen;omega) (by have h1:=FU hb3;simp;omega) ?_;intro a5 c5 w5 hown5 hgr5 hap5)
    | fail)
   go_roundw
   case rel =>
    have hb4 : JA wr (w3.alloc (.cells #[.slice a3 rn c3] 22)):=I8 hb3 (aA _ _)
    have hO4:=hO.aa hb4
    have hown4 : (w3.alloc (.cells #[.slice a3 rn c3] 22)).ownsRow w.heap.size 3 1 (.slice a3 l.length c3) l.length (l.map (Value.int .i64)):=by rw [Hrl.out];exact aW (aY hown3 (aA _ _)) hsz
    have hra : a3 ≠ none->¬ bH a1 R (ah a3):=λh0 hI=>by have h1:=(aU hown3 h0).1;have h2:=(hO.lt _ hI).2;omega
    have hP:=Jt hO4 hown4 hra (by rw [Hrl.out];exact hown5) hgr5 hap5
    have hb5 : JA w w5:=Jb (I8 hbr hb4) hO4.own hgr5 (EF _) (ET hsz hb4.size)
    exact ⟨k+1,a5,c5,by omega,by go_num,rfl,⟨_,by rw [Htk.out];exact hP⟩,hb5⟩
   case measure=>simp [intOf] <;> omega
  ·obtain rfl : k=n:=by omega
   rw [ES (by rw [Hlen.out];exact EF _)] at hO
   go_wp2_with fail
   go_ret
   exact ⟨a1,c1,R,by rw [Hlen.out];rfl,by rw [Hlen.out];exact hO,hbr⟩
def dy (O : aL) (L : LL) (Q : LI) : Nat->BS × LI
 | 0=>(⟨[],[]⟩,[])
 | k+1=>((dy O L Q k).1.next O (aQ L (nth Q k).toNat),if (dy O L Q k).1.dF O (aQ L (nth Q k).toNat)=true then (dy O L Q k).2 ++ [nth Q k] else (dy O L Q k).2)
def mz (O : aL) (L : LL) (Q : LI) : LI:=(dy O L Q Q.length).2
theorem BS.uX (O : aL) (s : BS) (v : LI) : (s.next O v).rows.length<=s.rows.length+1:=by unfold BS.next;split <;> simp
theorem aN.empty (w : World) (B : Nat) : aN w B none 0 0 [] [] :=
 ⟨rfl,rfl,bG,λi hi=>by omega,λi hi=>by omega,λi j hi=>by omega⟩
theorem kQ.start {w : World} {B bb b : Nat} (hB : B<=bb) (h : ba w bb [.pointer (some ⟨b,0,none⟩),.slice none 0 0,.slice none 0 0]) : kQ w B bb b none 0 [] none 0 ⟨[],[]⟩ :=
 ⟨hB,h.cell 0 rfl,h.cell 1 rfl,h.cell 2 rfl,λi=>h.frozen i,aN.empty w B,bG,λhI=>by
  rcases hI with ⟨h1,_⟩ | ⟨i,hi,_⟩
  ·exact h1 rfl
  ·simp at hi,.inl rfl,λh1=>absurd rfl h1⟩
theorem xE {El : Int->Prop} {m : Nat} {L : LL} (h : bx El m L) {i : Nat} (hi : i<m) : (aQ L i).length=L.length/\∀y ∈ aQ L i,El y:=by refine ⟨b8 _ _,λy hy=>?_⟩;unfold aQ at hy;obtain ⟨r,hr,rfl⟩:=List.mem_map.1 hy;exact (h r hr).2 _ (aO (by rw [(h r hr).1];exact hi))
theorem wJ {w : World} {b : Nat} {G : cC} (P M : Int) (am : OA) (mn cm : Nat) (N : Int) (a : OA) (n c : Nat) (L : LL) (m : Nat) (ao : OA) (no co : Nat) (Q : LI)
  (h : dY w b G) (hi : bY w a n L) (hR : bx G.El m L) (hq : Ints w ao no Q) (hQ : ∀k,k<no->0<=nth Q k/\nth Q k<m) (hn : n<=1000000) (hno : no<=1000000) :
  Calls prog 62 #[.pointer (some ⟨b,0,none⟩),.agg #[.int .i64 P,.int .i64 M,.slice am mn cm,.int .i64 N,.slice a n c],.slice ao no co] w (cB w (mz G.ops L Q)):=by
 have Hlen:=Z5 hi.len;have HR:=Z5 hR;have HQ:=Z5 hQ;have Hql:=Z5 hq.len;have hplq:=hq.pl;have hcl:=Z5 (Js h);clear hR hQ;go_enter func62,ntmps62;go_wp2_with fail;obtain ⟨W,hW⟩ : ∃W : World,W=w.alloc (.cells #[.int .i64 P,.int .i64 M,.slice am mn cm,.int .i64 N,.slice a n c] 27):=⟨_,rfl⟩
 rw [<- hW];have hbW : JA w W:=by rw [hW];exact aA _ _
 have x0 : ba W w.heap.size [.int .i64 P,.int .i64 M,.slice am mn cm,.int .i64 N,.slice a n c]:=by rw [hW];exact Ja _ _ _ rfl
 have hsW : w.heap.size+1=W.heap.size:=by rw [hW];simp
 rw [hsW];have HX:=Z5 x0;have HsW:=Z5 hsW;have hGW:=h.aa hbW;have hiW:=hi.aa hbW;have hqW:=hq.aa hbW;clear hW x0 hsW;obtain ⟨V,hV⟩ : ∃V : World,V=W.alloc (.cells #[.pointer (some ⟨b,0,none⟩),.slice none 0 0,.slice none 0 0] 149):=⟨_,rfl⟩
 rw [<- hV];have hbV : JA W V:=by rw [hV];exact aA _ _
 have hB0 : kQ V W.heap.size W.heap.size b none 0 [] none 0 ⟨[],[]⟩:=kQ.start (EF _) (by rw [hV];exact Ja _ _ _ rfl);clear hV;go_loopw [8,16] (λqv iv wr=>∃(k : Nat) (aq : OA) (cq : Nat) (out : LI) (s : BS) (ar : OA) (cr : Nat) (R : LA) (ap : OA) (cp : Nat),k<=no/\iv = .int .i64 k/\qv = .slice aq out.length cq /\
   Hid (dy G.ops L Q k=(s,out))/\kQ wr W.heap.size W.heap.size b ar cr R ap cp s/\wr.ownsRow W.heap.size 3 1 (.slice aq out.length cq) out.length (out.map (Value.int .i64))/\Hid (aq ≠ none->¬ pr W.heap.size ar R ap (ah aq)) /\
   JA W wr/\Hid (s.Ok G.El n)/\s.rows.length<=k/\out.length<=k)
  (λ_ iv _=>no - (intOf iv).toNat)
 case atStart=>exact ⟨0,none,0,[],⟨[],[]⟩,none,0,[],none,0,EL _,rfl,rfl,rfl,hB0,bG,λh0=>absurd rfl h0,hbV,⟨λr hr=>by simp at hr,rfl,λi hi=>by simp at hi⟩,EL _,EL _⟩
 case round =>
  obtain ⟨k,aq,cq,out,s,ar,cr,R,ap,cp,hk,rfl,rfl,hst,hBr,hop,hdq,hbr,hok,hsk,hok2⟩:=hrel
  generalize wr=U at *
  by_cases hlt : k<no
  ·have cq1:=(hqW.aa hbr).cell k hlt
   have hQk:=HQ.out k hlt
   obtain ⟨i,hik⟩ : ∃i : Nat,nth Q k=i:=⟨(nth Q k).toNat,by omega⟩
   rw [hik] at cq1 hQk
   have him : i<m:=by omega
   have xU:=HX.out.aa hbr
   have b0:=xU.cell 0 rfl
   have b1:=xU.cell 1 rfl
   have b2:=xU.cell 2 rfl
   have b3:=xU.cell 3 rfl
   have b4:=xU.cell 4 rfl
   have hcol:=xE HR.out him
   rw [Hlen.out] at hcol
   have hstep : dy G.ops L Q (k+1)=(s.next G.ops (aQ L i),if s.dF G.ops (aQ L i)=true then out ++ [(i : Int)] else out):=by rw [dy,hst.out,hik,EM]
   have Hstep:=Z5 hstep
   have Hcol:=Z5 hcol
   clear xU hstep hcol hik
   go_wp2_with fail
   refine (vy P M am mn cm N a n c L i U (hiW.aa hbr) (λr hr=>by rw [(HR.out r hr).1];exact him) hn).mono ?_
   rintro e w3 ⟨a3,c3,rfl,hown3,hb3⟩
   rw [Hcol.out.1] at hown3
   rw [Hcol.out.1]
   have hB3:=hBr.aa hb3
   have hbw3:=I8 hbr hb3
   have hn3 : a3 ≠ none->¬ pr W.heap.size ar R ap (ah a3):=λh0 hI=>by have h1:=(aU hown3 h0).1;have h2:=(hBr.lt _ hI).2;omega
   go_wp2_with fail
   refine (Bn W.heap.size ar cr R ap cp s a3 c3 n (aQ L i) hGW hbw3 hB3 hok.out (aW hown3 hbr.size) hn3 Hcol.out.2 hn (by omega)).mono ?_
   rintro e w4 ⟨ar',cr',R',ap',cp',rfl,hB4,hM4⟩
   have hbw4 : JA W w4:=hbw3.trans (hM4.below (λx hx=>by
    rcases hx with h1 | ⟨h1,h2⟩
    ·exact (hB3.lt x h1).1
    ·rw [h2];exact ET hbr.size (aU hown3 h1).1) hbw3.size)
   have hop3:=aY hop hb3
   have hnI : aq ≠ none->¬ (pr W.heap.size ar R ap (ah aq)\/(a3 ≠ none/\ah aq=ah a3)):=λh0 hI=>by
    rcases hI with h1 | ⟨h1,h2⟩
    ·exact hdq.out h0 h1
    ·have e1:=(aU hop h0).2;have e2:=(aU hown3 h1).1;omega
   have hop4:=hM4.own hop3 hnI
   have hdq4 : aq ≠ none->¬ pr W.heap.size ar' R' ap' (ah aq):=λh0=>hM4.not (aU hop3 h0).2 (hnI h0)
   have hok4 : (s.next G.ops (aQ L i)).Ok G.El n:=BS.Ok.next hcl.out hok.out Hcol.out
   have hlen4:=BS.uX G.ops s (aQ L i)
   have Hok4:=Z5 hok4
   have Hdq4:=Z5 hdq4
   clear hnI hdq4 hok4 b0 b1 b2 b3 b4
   by_cases ht : s.dF G.ops (aQ L i)=true
   ·rw [ht]
    have Hst : Hid (dy G.ops L Q (k+1)=(s.next G.ops (aQ L i),out ++ [(i : Int)])):=by show _=_;rw [Hstep.out,EH ht]
    clear ht
    generalize s.next G.ops (aQ L i)=s' at *
    have hcn:=bk w4 (.int .i64 i) 3
    have hbn:=aA w4 (.cells #[.int .i64 i] 3)
    have hsz4:=hbw4.size
    go_wp2_with (at_builtin;refine aX rfl _ _ 22 3 rfl (.int .i64 0) 8 underlying22 bh rfl W.heap.size aq out.length cq _ rfl (hop4.alloc _) ⟨w4.heap.size,0,none⟩ 1 (.int .i64 i) rfl hcn rfl (by omega) (by unfold maxLen;omega) (by simp;omega) ?_;intro a5 c5 w5 hown5 hgr5 hap5)
    go_roundw
    case rel =>
     have hBn:=hB4.aa hbn
     have haq : ∀x,pr W.heap.size ar' R' ap' x->db aq x:=λx hx=>by
      by_cases h0 : aq=none
      ·exact .inl h0
      ·exact .inr λe=>Hdq4.out h0 (e ▸ hx)
     have hB5 : kQ w5 W.heap.size W.heap.size b ar' cr' R' ap' cp' s':=hBn.bt λx hx=>hgr5.block x (hBn.lt x hx).2 λe=>(haq x hx).own _ _ e.symm
     have hb5 : JA W w5:=Jb (Ft hbw4 (hbn.mono hsz4)) (hop4.alloc _) hgr5 (EF _) (ET hsz4 hbn.size)
     refine ⟨k+1,a5,c5,out ++ [(i : Int)],s',ar',cr',R',ap',cp',by omega,by go_num,by simp,Hst.out,hB5,?_,?_,hb5,Hok4.out,by omega,by simp;omega⟩
     ·simpa using hown5
     ·show a5 ≠ none->_
      intro h0 hI
      rcases hap5 _ (hBn.lt _ hI).2 (haq _ hI) with h1 | h1
      ·exact h0 h1
      ·exact h1 rfl
    case measure=>simp [intOf] <;> omega
   ·have ht' : s.dF G.ops (aQ L i)=false:=by simpa using ht
    rw [ht']
    have Hst : Hid (dy G.ops L Q (k+1)=(s.next G.ops (aQ L i),out)):=by show _=_;rw [Hstep.out,EG ht]
    clear ht ht'
    generalize s.next G.ops (aQ L i)=s' at *
    go_wp2_with fail
    go_roundw
    case rel=>exact ⟨k+1,aq,cq,out,s',ar',cr',R',ap',cp',by omega,by go_num,rfl,Hst.out,hB4,hop4,Hdq4.out,hbw4,Hok4.out,by omega,by omega⟩
    case measure=>simp [intOf] <;> omega
  ·obtain rfl : k=no:=by omega
   have Ho : Hid (mz G.ops L Q=out):=by show _=_;rw [mz,Hql.out,hst.out]
   go_wp2_with fail
   go_ret
   exact ⟨aq,cq,by rw [Ho.out];rfl,by rw [Ho.out];exact aW hop hbW.size,I8 hbW hbr⟩
section
namespace bU
variable {O : aL} {El : Int->Prop} (F : bU O El)
include F
theorem tD {x : Int} (hx : El x) : O.add 0 x=x:=by rw [F.add_comm _ _ F.zero hx,F.add_zero x hx]
theorem od {x : Int} (hx : El x) : O.add (O.neg x) x=0:=by rw [F.add_comm _ _ (F.cl.neg x hx) hx,F.add_neg x hx]
theorem DZ {x y : Int} (hx : El x) (hy : El y) : O.add (O.neg x) (O.add x y)=y:=by rw [<- F.add_assoc _ _ _ (F.cl.neg x hx) hx hy,F.od hx,F.tD hy]
theorem cancel {x y z : Int} (hx : El x) (hy : El y) (hz : El z) (h : O.add x y=O.add x z) : y=z:=by rw [<- F.DZ hx hy,h,F.DZ hx hz]
theorem dh {x : Int} (hx : El x) : O.mul x 0=0:=by have h0:=F.cl.mul x 0 hx F.zero;refine F.cancel h0 h0 F.zero ?_;rw [<- F.mul_add x 0 0 hx F.zero F.zero,F.add_zero 0 F.zero,F.add_zero _ h0]
theorem jh {x : Int} (hx : El x) : O.mul 0 x=0:=by rw [F.mul_comm _ _ F.zero hx,F.dh hx]
theorem kg {x : Int} (hx : El x) : O.mul x 1=x:=by rw [F.mul_comm _ _ hx F.one,F.one_mul x hx]
theorem lU {x y : Int} (hx : El x) (hy : El y) (h : O.add x y=0) : y=O.neg x :=
 F.cancel hx hy (F.cl.neg x hx) (by rw [h,F.add_neg x hx])
theorem ey : O.neg 0=0:=(F.lU F.zero F.zero (F.add_zero 0 F.zero)).symm
theorem mul_neg {x y : Int} (hx : El x) (hy : El y) : O.mul x (O.neg y)=O.neg (O.mul x y):=by have hn:=F.cl.neg y hy;refine F.lU (F.cl.mul x y hx hy) (F.cl.mul x _ hx hn) ?_;rw [<- F.mul_add x y _ hx hy hn,F.add_neg y hy,F.dh hx]
theorem neg_mul {x y : Int} (hx : El x) (hy : El y) : O.mul (O.neg x) y=O.neg (O.mul x y):=by rw [F.mul_comm _ _ (F.cl.neg x hx) hy,F.mul_neg hy hx,F.mul_comm _ _ hy hx]
theorem AL {a b c d : Int} (ha : El a) (hb : El b) (hc : El c) (hd : El d) : O.add (O.add a b) (O.add c d)=O.add (O.add a c) (O.add b d):=by rw [F.add_assoc a b _ ha hb (F.cl.add c d hc hd),F.add_assoc a c _ ha hc (F.cl.add b d hb hd),<- F.add_assoc b c d hb hc hd,F.add_comm b c hb hc,F.add_assoc c b d hc hb hd]
theorem neg_add {x y : Int} (hx : El x) (hy : El y) : O.neg (O.add x y)=O.add (O.neg x) (O.neg y):=by have hnx:=F.cl.neg x hx;have hny:=F.cl.neg y hy;refine (F.lU (F.cl.add x y hx hy) (F.cl.add _ _ hnx hny) ?_).symm;rw [F.AL hx hy hnx hny,F.add_neg x hx,F.add_neg y hy,F.add_zero 0 F.zero]
theorem neg_neg {x : Int} (hx : El x) : O.neg (O.neg x)=x:=(F.lU (F.cl.neg x hx) hx (F.od hx)).symm
theorem A1 {x y : Int} (hx : El x) (hy : El y) (h0 : x ≠ 0) (h : O.mul x y=0) : y=0:=by have hi:=F.cl.inv x hx h0;rw [<- F.one_mul y hy,<- F.mul_inv x hx h0,F.mul_comm x _ hx hi,F.mul_assoc _ x y hi hx hy,h,F.dh hi]
theorem comb {A B x A' B' R : Int} (hA : El A) (hB : El B) (hx : El x) (hA' : El A') (hB' : El B') (hR : El R) :
  O.add (O.add A (O.neg (O.mul x B))) (O.neg (O.mul (O.add A' (O.neg (O.mul x B'))) R))=O.add (O.add A (O.neg (O.mul A' R))) (O.neg (O.mul x (O.add B (O.neg (O.mul B' R))))):=by
 have m:=F.cl.mul;have n:=F.cl.neg;have h1:=m x B hx hB;have h2:=m A' R hA' hR;have hxB:=m x B' hx hB';have h3:=m _ R hxB hR;have hBR:=m B' R hB' hR;have e1 : O.mul (O.add A' (O.neg (O.mul x B'))) R=O.add (O.mul A' R) (O.neg (O.mul (O.mul x B') R)):=by rw [F.mul_comm _ R (F.cl.add _ _ hA' (n _ hxB)) hR,F.mul_add R _ _ hR hA' (n _ hxB),F.mul_comm R A' hR hA',F.mul_comm R _ hR (n _ hxB),F.neg_mul hxB hR]
 have e2 : O.mul x (O.add B (O.neg (O.mul B' R)))=O.add (O.mul x B) (O.neg (O.mul (O.mul x B') R)):=by rw [F.mul_add x _ _ hx hB (n _ hBR),F.mul_neg hx hBR,F.mul_assoc x B' R hx hB' hR]
 rw [e1,e2,F.neg_add h2 (n _ h3),F.neg_add h1 (n _ h3),F.neg_neg h3,F.AL hA (n _ h1) (n _ h2) h3,F.AL hA (n _ h2) (n _ h1) h3]
end bU
def Vc (El : Int->Prop) (n : Nat) (v : LI) : Prop:=v.length=n/\∀y ∈ v,El y
theorem Vc.at {El : Int->Prop} {n : Nat} {v : LI} (h : Vc El n v) {i : Nat} (hi : i<n) : El (nth v i):=h.2 _ (aO (by rw [h.1];exact hi))
theorem Vc.sub {O : aL} {El : Int->Prop} (F : bU O El) {n : Nat} {v r : LI} {x : Int} (hv : Vc El n v) (hr : Vc El n r) (hx : El x) : Vc El n (dj O v x r) :=
 ⟨by rw [dS _ _ _ _ (by rw [hr.1,hv.1])];exact hv.1,qx F.cl hv.2 hr.2 hx⟩
theorem Vc.Bv {O : aL} {El : Int->Prop} (F : bU O El) {n : Nat} {r : LI} {x : Int} (hr : Vc El n r) (hx : El x) : Vc El n (r.map (O.mul x)) :=
 ⟨by rw [Fo];exact hr.1,λy hy=>by obtain ⟨z,hz,rfl⟩:=List.mem_map.1 hy;exact F.cl.mul _ _ hx (hr.2 z hz)⟩
structure gV (O : aL) (El : Int->Prop) (n : Nat) (φ : LI->Int) : Prop where
 el : ∀v,Vc El n v->El (φ v)
 sub : ∀v r x,Vc El n v->Vc El n r->El x->φ (dj O v x r)=O.add (φ v) (O.neg (O.mul x (φ r)))
 Bv : ∀r x,Vc El n r->El x->φ (r.map (O.mul x))=O.mul x (φ r)
variable {O : aL} {El : Int->Prop} {n : Nat}
theorem j4 (O : aL) (r : LI) (x : Int) {i : Nat} (hi : i<r.length) : nth (r.map (O.mul x)) i=O.mul x (nth r i):=by rw [ai (by simpa using hi),ai hi];simp
theorem gV.xD (F : bU O El) {i : Nat} (hi : i<n) : gV O El n (λv=>nth v i) :=
 ⟨λv hv=>hv.at hi,λv r x hv hr hx=>dH O v x r i (by rw [hr.1,hv.1]) (by rw [hv.1];exact hi),λr x hr hx=>j4 O r x (by rw [hr.1];exact hi)⟩
theorem gV.congr (F : bU O El) {φ ψ : LI->Int} (h : gV O El n φ) (e : ∀v,Vc El n v->ψ v=φ v) : gV O El n ψ :=
 ⟨λv hv=>by rw [e v hv];exact h.el v hv,λv r x hv hr hx=>by rw [e _ (hv.sub F hr hx),e v hv,e r hr];exact h.sub v r x hv hr hx,
  λr x hr hx=>by rw [e _ (hr.Bv F hx),e r hr];exact h.Bv r x hr hx⟩
theorem gV.comb (F : bU O El) {φ ψ : LI->Int} (h : gV O El n φ) (g : gV O El n ψ) {s : Int} (hs : El s) : gV O El n (λv=>O.add (φ v) (O.neg (O.mul (ψ v) s))) :=
 ⟨λv hv=>F.cl.add _ _ (h.el v hv) (F.cl.neg _ (F.cl.mul _ _ (g.el v hv) hs)),
  λv r x hv hr hx=>by show O.add (φ (dj O v x r)) (O.neg (O.mul (ψ (dj O v x r)) s))=_;rw [h.sub v r x hv hr hx,g.sub v r x hv hr hx];exact F.comb (h.el v hv) (h.el r hr) hx (g.el v hv) (g.el r hr) hs,
  λr x hr hx=>by show O.add (φ (r.map (O.mul x))) (O.neg (O.mul (ψ (r.map (O.mul x))) s))=_;rw [h.Bv r x hr hx,g.Bv r x hr hx,F.mul_assoc x _ s hx (g.el r hr) hs,<- F.mul_neg hx (F.cl.mul _ _ (g.el r hr) hs),<- F.mul_add x _ _ hx (h.el r hr) (F.cl.neg _ (F.cl.mul _ _ (g.el r hr) hs))]⟩
def lQ (O : aL) (El : Int->Prop) (n : Nat) (c : Nat->LI) (l : LN) (x : Nat) : Prop:=∀φ,gV O El n φ->(∀y ∈ l,φ (c y)=0)->φ (c x)=0
theorem Cp (F : bU O El) {c : Nat->LI} (hc : ∀i,Vc El n (c i)) : va (lQ O El n c) where
 mem l x hx φ _ h:=h x hx
 mono l l' h y hy φ hφ h0:=hy φ hφ λx hx=>h x hx φ hφ h0
 exch l x y h hn:=by
  intro b hb h0;apply Fe;intro hbx;apply hn;intro a ha ha0;apply Fe;intro hay;have hax : a (c x) ≠ 0:=λe=>hay (h a ha λz hz=>by
   rcases List.mem_cons.1 hz with rfl | hz
   ·exact e
   ·exact ha0 z hz)
  have h1:=ha.el _ (hc x);have h2:=hb.el _ (hc x);have hbi:=F.cl.inv _ h2 hbx;have hs:=F.cl.mul _ _ hbi h1;have:=h _ (ha.comb F hb hs) λz hz=>by
   rcases List.mem_cons.1 hz with rfl | hz
   ·show O.add (a (c z)) (O.neg (O.mul (b (c z)) (O.mul (O.inv (b (c z))) (a (c z)))))=0;rw [<- F.mul_assoc _ _ _ h2 hbi h1,F.mul_inv _ h2 hbx,F.one_mul _ h1,F.add_neg _ h1]
   ·show O.add (a (c z)) (O.neg (O.mul (b (c z)) _))=0;rw [ha0 z hz,h0 z (List.mem_cons.2 (.inr hz)),F.jh hs,F.ey,F.add_zero 0 F.zero]
  have h3 : O.add (a (c y)) (O.neg (O.mul (b (c y)) (O.mul (O.inv (b (c x))) (a (c x)))))=0:=this;rw [h0 y (by simp),F.jh hs,F.ey,F.add_zero _ (ha.el _ (hc y))] at h3;exact hay h3
structure BS.Inv (El : Int->Prop) (n : Nat) (s : BS) : Prop where
 ok : s.Ok El n
 one : ∀i,i<s.rows.length->nth (af s.rows i) (nth s.place i).toNat=1
 zero : ∀j i,j<i->i<s.rows.length->nth (af s.rows i) (nth s.place j).toNat=0
theorem BS.Ok.row {s : BS} (h : s.Ok El n) {i : Nat} (hi : i<s.rows.length) : Vc El n (af s.rows i):=h.rws.row hi
theorem BS.Ok.pl {s : BS} (h : s.Ok El n) {i : Nat} (hi : i<s.rows.length) : (nth s.place i).toNat<n:=by have:=h.plc i hi;omega
theorem Vc.dw (F : bU O El) {u r : LI} {p : Int} (hu : Vc El n u) (hr : Vc El n r) (hp : p.toNat<n) : Vc El n (dw O u p r):=by
 unfold Go.Proofs.YtjfiflldinnhmaaGreat.dw;split
 ·exact hu
 ·exact hu.sub F hr (hu.at hp)
theorem Vc.bN (F : bU O El) {s : BS} (h : s.Ok El n) {v : LI} (hv : Vc El n v) : ∀k,k<=s.rows.length->Vc El n (bN O s.rows s.place v k)
 | 0,_=>hv
 | k+1,hk=>(Vc.bN F h hv k (by omega)).dw F (h.row (by omega)) (h.pl (by omega))
theorem jL (F : bU O El) {u r : LI} {p : Int} (hu : Vc El n u) (hr : Vc El n r) (hp : p.toNat<n) {i : Nat} (hi : i<n) :
  nth (dw O u p r) i=O.add (nth u i) (O.neg (O.mul (nth u p.toNat) (nth r i))):=by
 unfold dw;split
 ·rename_i h0;rw [h0,F.jh (hr.at hi),F.ey,F.add_zero _ (hu.at hi)]
 ·exact dH O u _ r i (by rw [hr.1,hu.1]) (by rw [hu.1];exact hi)
namespace BS.Inv
variable {s : BS}
theorem place (F : bU O El) (h : s.Inv El n) {v : LI} (hv : Vc El n v) : ∀k,k<=s.rows.length->∀j,j<k->nth (bN O s.rows s.place v k) (nth s.place j).toNat=0
 | 0,_,j,hj=>by omega
 | k+1,hk,j,hj=>by
  have hu:=Vc.bN F h.ok hv k (by omega);have hpk:=h.ok.pl (i:=k) (by omega);have hpj:=h.ok.pl (i:=j) (by omega);rw [bN,jL F hu (h.ok.row (by omega)) hpk hpj];by_cases e : j=k
  ·subst e;rw [h.one j (by omega),F.kg (hu.at hpk),F.add_neg _ (hu.at hpk)]
  ·rw [place F h hv k (by omega) j (by omega),h.zero j k (by omega) (by omega),F.dh (hu.at hpk),F.ey,F.add_zero 0 F.zero]
theorem stay (h : s.Inv El n) {i : Nat} (hi : i<s.rows.length) : ∀k,k<=i->bN O s.rows s.place (af s.rows i) k=af s.rows i
 | 0,_=>rfl
 | k+1,hk=>by rw [bN,stay h hi k (by omega),dw,EH (h.zero k i (by omega) hi)]
theorem gone (F : bU O El) (h : s.Inv El n) {i : Nat} (hi : i<s.rows.length) : ∀k,i<k->k<=s.rows.length->∀t,t<n->nth (bN O s.rows s.place (af s.rows i) k) t=0
 | 0,hk,_,_,_=>by omega
 | k+1,hk,hkl,t,ht=>by
  have hu:=Vc.bN F h.ok (h.ok.row hi) k (by omega);have hr:=h.ok.row (i:=k) (by omega);have hpk:=h.ok.pl (i:=k) (by omega);rw [bN,jL F hu hr hpk ht];by_cases e : k=i
  ·subst e;rw [h.stay hi k (EF _),h.one k hi,F.one_mul _ (hr.at ht),F.add_neg _ (hr.at ht)]
  ·rw [gone F h hi k (by omega) (by omega) t ht,gone F h hi k (by omega) (by omega) _ hpk,F.jh (hr.at ht),F.ey,F.add_zero 0 F.zero]
theorem Ec (F : bU O El) (h : s.Inv El n) : ∀k,k<=s.rows.length->∀i,i<n->gV O El n (λv=>nth (bN O s.rows s.place v k) i)
 | 0,_,i,hi=>gV.xD F hi
 | k+1,hk,i,hi=>by have hpk:=h.ok.pl (i:=k) (by omega);have hr:=h.ok.row (i:=k) (by omega);refine gV.congr F ((Ec F h k (by omega) i hi).comb F (Ec F h k (by omega) _ hpk) (hr.at hi)) λv hv=>?_;show nth (bN O s.rows s.place v (k+1)) i=_;rw [bN,jL F (Vc.bN F h.ok hv k (by omega)) hr hpk hi]
theorem form (F : bU O El) (h : s.Inv El n) {φ : LI->Int} (hφ : gV O El n φ) (h0 : ∀i,i<s.rows.length->φ (af s.rows i)=0) {v : LI} (hv : Vc El n v) : ∀k,k<=s.rows.length->φ (bN O s.rows s.place v k)=φ v
 | 0,_=>rfl
 | k+1,hk=>by
  have hu:=Vc.bN F h.ok hv k (by omega);have hr:=h.ok.row (i:=k) (by omega);have hpk:=h.ok.pl (i:=k) (by omega);rw [bN,dw];split
  ·exact form F h hφ h0 hv k (by omega)
  ·rw [hφ.sub _ _ _ hu hr (hu.at hpk),h0 k (by omega),F.dh (hu.at hpk),F.ey,form F h hφ h0 hv k (by omega),F.add_zero _ (hφ.el v hv)]
end BS.Inv
theorem gV.zero (F : bU O El) {φ : LI->Int} (h : gV O El n φ) {v : LI} (hv : Vc El n v) (h0 : ∀i,i<n->nth v i=0) : φ v=0:=by
 have e : v=v.map (O.mul 0):=ij (by simp) λi hi=>by rw [j4 O v 0 hi,F.jh (hv.at (by rw [<- hv.1];exact hi)),h0 i (by rw [<- hv.1];exact hi)]
 rw [e,h.Bv v 0 hv F.zero,F.jh (h.el v hv)]
theorem mL (F : bU O El) {s : BS} (h : s.Inv El n) {v : LI} (hv : Vc El n v) :
  s.dF O v=false ↔ ∀φ,gV O El n φ->(∀i,i<s.rows.length->φ (af s.rows i)=0)->φ v=0:=by
 have hu : Vc El n (s.red O v):=Vc.bN F h.ok hv _ (EF _);constructor
 ·intro ht φ hφ h0;rw [<- h.form F hφ h0 hv _ (EF _)];refine hφ.zero F hu λi hi=>te (s.red O v) i ?_;have h1 : ¬ iQ (s.red O v)<(s.red O v).length:=by simpa [BS.dF] using ht
  have h2:=AH (s.red O v);have:=hu.1;omega
 ·intro h0;apply Fe;intro ht;have h1 : iQ (s.red O v)<(s.red O v).length:=by simpa [BS.dF] using ht
  have:=hu.1;exact jB _ h1 (h0 _ (h.Ec F _ (EF _) _ (by omega)) λi hi=>h.gone F hi _ hi (EF _) _ (by omega))
theorem i6 (L : LL) (r : LI) (i : Nat) : af (L ++ [r]) i=if i<L.length then af L i else if i=L.length then r else af [] 0:=by
 unfold af;simp only [EJ];split
 ·rename_i h;rw [E2 h]
 ·rename_i h;split
  ·rename_i e;subst e;simp
  ·rename_i e;rw [FC (by simp;omega)];simp
theorem fU (l : LI) (r : Int) (i : Nat) : nth (l ++ [r]) i=if i<l.length then nth l i else if i=l.length then r else 0:=by
 unfold nth;simp only [EJ];split
 ·rename_i h;rw [E2 h]
 ·rename_i h;split
  ·rename_i e;subst e;simp
  ·rename_i e;rw [FC (by simp;omega)];simp
theorem BS.Inv.next (F : bU O El) {s : BS} (h : s.Inv El n) {v : LI} (hv : Vc El n v) : (s.next O v).Inv El n:=by
 refine ⟨h.ok.next F.cl hv,?_,?_⟩
 ·unfold BS.next;split
  ·rename_i ht;have hu : Vc El n (s.red O v):=Vc.bN F h.ok hv _ (EF _);have hf : iQ (s.red O v)<(s.red O v).length:=by simpa [BS.dF] using ht
   have hne:=jB _ hf;have hl:=hu.1;have hel:=hu.at (i:=iQ (s.red O v)) (by omega);intro i hi;simp only [ER,E0] at hi;simp only [i6,fU,h.ok.len];by_cases e : i<s.rows.length
   ·rw [EH e,EH e];exact h.one i e
   ·rw [EG e,EG e,EH (by omega),EH (by omega),EM,j4 O _ _ hf,F.mul_comm _ _ (F.cl.inv _ hel hne) hel,F.mul_inv _ hel hne]
  ·exact h.one
 ·unfold BS.next;split
  ·rename_i ht;have hu : Vc El n (s.red O v):=Vc.bN F h.ok hv _ (EF _);have hf : iQ (s.red O v)<(s.red O v).length:=by simpa [BS.dF] using ht
   have hne:=jB _ hf;have hl:=hu.1;have hel:=hu.at (i:=iQ (s.red O v)) (by omega);intro j i hji hi;simp only [ER,E0] at hi;simp only [i6,fU,h.ok.len];rw [EH (show j<s.rows.length by omega)];by_cases e : i<s.rows.length
   ·rw [EH e];exact h.zero j i hji e
   ·have hpj:=h.ok.pl (i:=j) (by omega);rw [EG e,EH (by omega),j4 O _ _ (by omega),BS.red,h.place F hv _ (EF _) j (by omega)];exact F.dh (F.cl.inv _ hel hne)
  ·exact h.zero
def Cq (O : aL) (El : Int->Prop) (n : Nat) (c : Nat->LI) (l : LN) (s : BS) : Prop :=
 ∀φ,gV O El n φ->((∀y ∈ l,φ (c y)=0) ↔ ∀i,i<s.rows.length->φ (af s.rows i)=0)
theorem Cq.next (F : bU O El) {c : Nat->LI} (hc : ∀i,Vc El n (c i)) {l : LN} {s : BS} (h : s.Inv El n) (hs : Cq O El n c l s) (x : Nat) : Cq O El n c (x :: l) (s.next O (c x)):=by
 intro φ hφ;have key : (∀i,i<s.rows.length->φ (af s.rows i)=0)->((φ (c x)=0) ↔ ∀i,i<(s.next O (c x)).rows.length->φ (af (s.next O (c x)).rows i)=0):=by
  intro h0;have hu : Vc El n (s.red O (c x)):=Vc.bN F h.ok (hc x) _ (EF _);have hform:=h.form F hφ h0 (hc x) _ (EF _);unfold BS.next;split
  ·rename_i ht;have hf : iQ (s.red O (c x))<(s.red O (c x)).length:=by simpa [BS.dF] using ht
   have hne:=jB _ hf;have hl:=hu.1;have hel:=hu.at (i:=iQ (s.red O (c x))) (by omega);have hi:=F.cl.inv _ hel hne;have hscl:=hφ.Bv _ _ hu hi;have hine : O.inv (nth (s.red O (c x)) (iQ (s.red O (c x)))) ≠ 0:=by intro e;have:=F.mul_inv _ hel hne;rw [e,F.dh hel] at this;exact absurd this (by decide)
   constructor
   ·intro hx i hi2;simp only [ER,E0] at hi2;simp only [i6];by_cases e : i<s.rows.length
    ·rw [EH e];exact h0 i e
    ·rw [EG e,EH (by omega),hscl];show O.mul _ (φ (bN O s.rows s.place (c x) s.rows.length))=0;rw [hform,hx,F.dh hi]
   ·intro hall;have:=hall s.rows.length (by simp);simp only [i6] at this;rw [EG (Gr _),EH trivial,hscl] at this;rw [<- hform];exact F.A1 hi (hφ.el _ hu) hine this
  ·rename_i ht;exact ⟨λ_=>h0,λ_=>(mL F h (hc x)).1 (by simpa using ht) φ hφ h0⟩
 constructor
 ·intro hall;have h1 : ∀i,i<s.rows.length->φ (af s.rows i)=0:=(hs φ hφ).1 λy hy=>hall y (List.mem_cons.2 (.inr hy));exact (key h1).1 (hall x (by simp))
 ·intro hall;have h1 : ∀i,i<s.rows.length->φ (af s.rows i)=0:=by
   intro i hi;have hlen : s.rows.length<=(s.next O (c x)).rows.length:=by unfold BS.next;split <;> simp
   have:=hall i (by omega);unfold BS.next at this;split at this
   ·simp only [i6] at this;rw [EH hi] at this;exact this
   ·exact this
  intro y hy;rcases List.mem_cons.1 hy with rfl | hy
  ·exact (key h1).2 hall
  ·exact (hs φ hφ).2 h1 y hy
def pL (Q : LI) : Nat->LN
 | 0=>[]
 | k+1=>(nth Q k).toNat :: pL Q k
theorem jd (Q : LI) (x : Nat) : ∀k,x ∈ pL Q k ↔ ∃j,j<k/\(nth Q j).toNat=x
 | 0=>by simp [pL]
 | k+1=>by
  rw [pL,List.mem_cons,jd Q x k];constructor
  ·rintro (h | ⟨j,hj,h⟩)
   ·exact ⟨k,by omega,h.symm⟩
   ·exact ⟨j,by omega,h⟩
  ·rintro ⟨j,hj,h⟩;by_cases e : j=k
   ·subst e;exact .inl h.symm
   ·exact .inr ⟨j,by omega,h⟩
theorem cA {m : Nat} {L : LL} (h : bx El m L) (h0 : El 0) (i : Nat) : Vc El L.length (aQ L i):=by
 refine ⟨b8 _ _,λy hy=>?_⟩;unfold aQ at hy;obtain ⟨r,hr,rfl⟩:=List.mem_map.1 hy;by_cases hi : i<m
 ·exact (h r hr).2 _ (aO (by rw [(h r hr).1];exact hi))
 ·have : nth r i=0:=by unfold nth;rw [EJ,FC (by rw [(h r hr).1];omega)];rfl
  rw [this];exact h0
theorem Bi (F : bU O El) {m : Nat} {L : LL} (hL : bx El m L) (Q : LI) : ∀k,(dy O L Q k).1.Inv El L.length/\Cq O El L.length (aQ L) (pL Q k) (dy O L Q k).1 /\
  Rk (lQ O El L.length (aQ L)) (pL Q k) (dy O L Q k).2.length
 | 0=>⟨⟨⟨λr hr=>by simp [dy] at hr,rfl,λi hi=>by simp [dy] at hi⟩,λi hi=>by simp [dy] at hi,λj i _ hi=>by simp [dy] at hi⟩,λφ _=>⟨λ_ i hi=>by simp [dy] at hi,λ_ y hy=>by simp [pL] at hy⟩,.nil⟩
 | k+1=>by
  obtain ⟨h1,h2,h3⟩:=Bi F hL Q k;have hc:=cA hL F.zero;refine ⟨h1.next F (hc _),h2.next F hc h1 _,?_⟩;have htk:=mL F h1 (hc (nth Q k).toNat);have hcl : lQ O El L.length (aQ L) (pL Q k) (nth Q k).toNat ↔ (dy O L Q k).1.dF O (aQ L (nth Q k).toNat)=false:=by rw [htk];exact ⟨λh φ hφ h0=>h φ hφ ((h2 φ hφ).2 h0),λh φ hφ h0=>h φ hφ ((h2 φ hφ).1 h0)⟩
  rw [pL,dy];by_cases ht : (dy O L Q k).1.dF O (aQ L (nth Q k).toNat)=true
  ·rw [EH ht];simp only [ER,E0];exact .ind _ (λh=>by rw [hcl.1 h] at ht;simp at ht) h3
  ·rw [EG ht];exact .dep _ (hcl.2 (by simpa using ht)) h3
theorem Dk (F : bU O El) {m : Nat} {L : LL} (hL : bx El m L) (Q : LI) : Rk (lQ O El L.length (aQ L)) (pL Q Q.length) (mz O L Q).length:=(Bi F hL Q Q.length).2.2
theorem lE (F : bU O El) {m : Nat} {L : LL} (hL : bx El m L) : va (lQ O El L.length (aQ L)):=Cp F (cA hL F.zero)
end
section
variable {O : aL} {El : Int->Prop} {m n : Nat}
theorem gV.smul (F : bU O El) {φ : LI->Int} (h : gV O El n φ) {s : Int} (hs : El s) : gV O El n (λv=>O.mul s (φ v)) :=
 ⟨λv hv=>F.cl.mul _ _ hs (h.el v hv),
  λv r x hv hr hx=>by show O.mul s (φ (dj O v x r))=O.add (O.mul s (φ v)) (O.neg (O.mul x (O.mul s (φ r))));have h1:=h.el v hv;have h2:=h.el r hr;rw [h.sub v r x hv hr hx,F.mul_add s _ _ hs h1 (F.cl.neg _ (F.cl.mul _ _ hx h2)),F.mul_neg hs (F.cl.mul _ _ hx h2),<- F.mul_assoc s x _ hs hx h2,F.mul_comm s x hs hx,F.mul_assoc x s _ hx hs h2],
  λr x hr hx=>by show O.mul s (φ (r.map (O.mul x)))=O.mul x (O.mul s (φ r));have h2:=h.el r hr;rw [h.Bv r x hr hx,<- F.mul_assoc s x _ hs hx h2,F.mul_comm s x hs hx,F.mul_assoc x s _ hx hs h2]⟩
theorem dp (g : Nat->Int) (k i : Nat) (hi : i<k) : nth ((List.range k).map g) i=g i:=by rw [ai (by simpa using hi)];simp
theorem gV.vec {k : Nat} {e : LI->Int} (he : gV O El k e) (g : Nat->LI->Int) (hg : ∀i,i<k->gV O El n (g i)) : gV O El n (λv=>e ((List.range k).map λi=>g i v)):=by
 have hv' : ∀v,Vc El n v->Vc El k ((List.range k).map λi=>g i v):=λv hv=>⟨by simp,λy hy=>by obtain ⟨i,hi,rfl⟩:=List.mem_map.1 hy;exact (hg i (List.mem_range.1 hi)).el v hv⟩
 refine ⟨λv hv=>he.el _ (hv' v hv),λv r x hv hr hx=>?_,λr x hr hx=>?_⟩
 ·show e _=_;rw [<- he.sub _ _ x (hv' v hv) (hv' r hr) hx];congr 1;refine ij (by rw [dS _ _ _ _ (by simp)];simp) λi hi=>?_;have hi' : i<k:=by simpa using hi
  rw [dH O _ x _ i (by simp) (by simpa using hi'),dp _ _ _ hi',dp _ _ _ hi',dp _ _ _ hi'];exact (hg i hi').sub v r x hv hr hx
 ·show e _=_;rw [<- he.Bv _ x (hv' r hr) hx];congr 1;refine ij (by simp) λi hi=>?_;have hi' : i<k:=by simpa using hi
  rw [j4 O _ x (by simpa using hi'),dp _ _ _ hi',dp _ _ _ hi'];exact (hg i hi').Bv r x hr hx
def RS (O : aL) (El : Int->Prop) (m : Nat) (L : LL) (f : Nat->Int) : Prop:=∃e,gV O El L.length e/\∀x,x<m->f x=e (aQ L x)
theorem RS.row (F : bU O El) {L : LL} {i : Nat} (hi : i<L.length) : RS O El m L (λx=>nth (af L i) x) :=
 ⟨λv=>nth v i,gV.xD F hi,λx _=>(bR L x i hi).symm⟩
theorem RS.comb (F : bU O El) {L : LL} {f g : Nat->Int} (hf : RS O El m L f) (hg : RS O El m L g) {s : Int} (hs : El s) : RS O El m L (λx=>O.add (f x) (O.neg (O.mul (g x) s))):=by obtain ⟨a,ha,ha2⟩:=hf;obtain ⟨b,hb,hb2⟩:=hg;exact ⟨_,ha.comb F hb hs,λx hx=>by show O.add (f x) _=_;rw [ha2 x hx,hb2 x hx]⟩
theorem RS.smul (F : bU O El) {L : LL} {f : Nat->Int} (hf : RS O El m L f) {s : Int} (hs : El s) : RS O El m L (λx=>O.mul s (f x)):=by obtain ⟨a,ha,ha2⟩:=hf;exact ⟨_,ha.smul F hs,λx hx=>by show O.mul s (f x)=_;rw [ha2 x hx]⟩
theorem RS.congr {L : LL} {f g : Nat->Int} (hf : RS O El m L f) (h : ∀x,x<m->g x=f x) : RS O El m L g:=by obtain ⟨a,ha,ha2⟩:=hf;exact ⟨a,ha,λx hx=>by rw [h x hx,ha2 x hx]⟩
def gy (O : aL) (El : Int->Prop) (m : Nat) (A B : LL) : Prop:=∀i,i<A.length->RS O El m B (λx=>nth (af A i) x)
theorem gy.refl (F : bU O El) (L : LL) : gy O El m L L:=λ_ hi=>.row F hi
theorem gy.rs {A B : LL} (h : gy O El m A B) {f : Nat->Int} (hf : RS O El m A f) : RS O El m B f:=by
 obtain ⟨e,he,he2⟩:=hf;obtain ⟨g,hg⟩ : ∃g : Nat->LI->Int,∀i,i<A.length->gV O El B.length (g i)/\∀x,x<m->nth (af A i) x=g i (aQ B x):=by
  have h2 : ∀i,∃g : LI->Int,i<A.length->gV O El B.length g/\∀x,x<m->nth (af A i) x=g (aQ B x):=λi=>by
   by_cases hi : i<A.length
   ·obtain ⟨g,h1,h2⟩:=h i hi;exact ⟨g,λ_=>⟨h1,h2⟩⟩
   ·exact ⟨λ_=>0,λh=>absurd h hi⟩
  exact ⟨λi=>Classical.choose (h2 i),λi hi=>Classical.choose_spec (h2 i) hi⟩
 refine ⟨_,he.vec g λi hi=>(hg i hi).1,λx hx=>?_⟩;rw [he2 x hx];congr 1;refine ij (by simp [b8]) λi hi=>?_;rw [b8] at hi;rw [dp _ _ _ hi,bR A x i hi];exact (hg i hi).2 x hx
theorem gy.trans {A B C : LL} (h : gy O El m A B) (h2 : gy O El m B C) : gy O El m A C:=λi hi=>h2.rs (h i hi)
theorem gy.cl {A B : LL} (h : gy O El m A B) {l : LN} {x : Nat} (hl : ∀y ∈ l,y<m) (hx : x<m) (hc : lQ O El B.length (aQ B) l x) : lQ O El A.length (aQ A) l x:=by intro φ hφ h0;obtain ⟨e,he,he2⟩:=h.rs (f:=λx=>φ (aQ A x)) ⟨φ,hφ,λ_ _=>rfl⟩;have e1 : φ (aQ A x)=e (aQ B x):=he2 x hx;rw [e1];refine hc e he λy hy=>?_;rw [<- he2 y (hl y hy)];exact h0 y hy
structure kY (L : LL) (P : LI) (c : Nat) : Prop where
 le : P.length<=L.length
 lt : ∀j,j<P.length->0<=nth P j/\nth P j<c
 one : ∀j i,j<P.length->i<L.length->nth (af L i) (nth P j).toNat=if i=j then 1 else 0
 zero : ∀i x,P.length<=i->i<L.length->x<c->nth (af L i) x=0
def sw (t k i : Nat) : Nat:=if i=t then k else if i=k then t else i
theorem DH {t k n i : Nat} (ht : t<n) (hk : k<n) (hi : i<n) : sw t k i<n:=by unfold sw;split;exact hk;split;exact ht;exact hi
theorem BQ {L : LL} {t k : Nat} (ht : t<L.length) (hk : k<L.length) (i : Nat) : af (if k=t then L else bm L t k) i=af L (sw t k i):=by
 unfold sw bm;split
 ·rename_i e;subst e;split
  ·rename_i e;rw [e]
  ·rfl
 ·rename_i hne;rw [eg _ _ _ _ (by simpa using hk),eg _ _ _ _ ht];by_cases h1 : i=t
  ·rw [EG (by omega),EH h1,EH h1]
  ·rw [EG h1,EG h1];by_cases h2 : i=k
   ·rw [EH h2,EH h2]
   ·rw [EG h2,EG h2]
theorem Bt (F : bU O El) {L : LL} (hL : bx El m L) {t c : Nat} (ht : t<L.length) {i x : Nat} (hx : x<m) :
  nth (af (bw O L t c) i) x=if i=t then O.mul (O.inv (nth (af L t) c)) (nth (af L t) x) else nth (af L i) x:=by
 have hr:=hL.row ht;have he : El (nth (af L t) x):=hr.2 _ (aO (by rw [hr.1];exact hx));unfold bw;split
 ·rename_i h1;split
  ·rename_i e;rw [e,h1,F.one_mul _ he]
  ·rfl
 ·rw [eg _ _ _ _ ht];split
  ·exact j4 O _ _ (by rw [hr.1];exact hx)
  ·rfl
theorem oU (O : aL) (t c : Nat) (L : LL) : ∀i,i<=L.length->∀j,af (aT O t c L i) j=if j<i/\j ≠ t then bW O (af L t) c (af L j) else af L j
 | 0,_,j=>by rw [EG (by omega)];rfl
 | i+1,hi,j=>by
  have ih:=oU O t c L i (by omega);unfold aT;split
  ·rename_i e;rw [ih j];by_cases h : j<i/\j ≠ t
   ·rw [EH h,EH ⟨by omega,h.2⟩]
   ·rw [EG h,EG (by omega)]
  ·rename_i e;have e1 : af (aT O t c L i) t=af L t:=by rw [ih t,EG (by omega)]
   have e2 : af (aT O t c L i) i=af L i:=by rw [ih i,EG (by omega)]
   rw [eg _ _ _ _ (by rw [cR];omega),e1,e2];by_cases h : j=i
   ·subst h;rw [EH rfl,EH ⟨by omega,e⟩]
   ·rw [EG h,ih j];by_cases h2 : j<i/\j ≠ t
    ·rw [EH h2,EH ⟨by omega,h2.2⟩]
    ·rw [EG h2,EG (by omega)]
theorem rH (F : bU O El) {pv r : LI} {c x : Nat} (hp : Vc El m pv) (hr : Vc El m r) (hc : c<m) (hx : x<m) :
  nth (bW O pv c r) x=O.add (nth r x) (O.neg (O.mul (nth pv x) (nth r c))):=by
 have h1:=hp.at hx;have h2:=hr.at hx;have h3:=hr.at hc;unfold bW;split
 ·rename_i h0;rw [h0,F.dh h1,F.ey,F.add_zero _ h2]
 ·rw [gM O r _ pv x (by rw [hp.1,hr.1]) (by rw [hr.1];exact hx)];split
  ·rename_i h0;rw [h0,F.jh h3,F.ey,F.add_zero _ h2]
  ·rw [F.neg_mul h3 h1,F.mul_comm _ _ h3 h1]
section
variable {L : LL} {t k c : Nat}
theorem dG (F : bU O El) (hL : bx El m L) (ht : t<L.length) (hk : k<L.length) (hc : c<m) (h0 : nth (af L k) c ≠ 0) {i x : Nat} (hi : i<L.length) (hx : x<m) :
  nth (af (et O L t k c) i) x=if i=t then O.mul (O.inv (nth (af L k) c)) (nth (af L k) x) else
   O.add (nth (af L (sw t k i)) x) (O.neg (O.mul (O.mul (O.inv (nth (af L k) c)) (nth (af L k) x)) (nth (af L (sw t k i)) c))):=by
 rw [gH];obtain ⟨L1,hL1⟩ : ∃L1,(if k=t then L else bm L t k)=L1:=⟨_,rfl⟩
 have hn1 : ∀i,af L1 i=af L (sw t k i):=λi=>by rw [<- hL1];exact BQ ht hk i
 have hl1 : L1.length=L.length:=by rw [<- hL1];split <;> simp [dc]
 have hR1 : bx El m L1:=by
  rw [<- hL1];split
  ·exact hL
  ·exact hL.swap ht hk
 have hswt : sw t k t=k:=by simp [sw]
 have h01 : nth (af L1 t) c ≠ 0:=by rw [hn1,hswt];exact h0
 rw [hL1];have hR2 : bx El m (bw O L1 t c):=hR1.norm F.cl (by omega) hc h01;have hN : ∀ {i x : Nat},x<m->nth (af (bw O L1 t c) i) x=if i=t then O.mul (O.inv (nth (af L1 t) c)) (nth (af L1 t) x) else nth (af L1 i) x:=λhx=>Bt F hR1 (by omega) hx
 rw [oU O t c _ L.length (by rw [cP];omega)];by_cases e : i=t
 ·rw [EG (by omega),EH e,hN hx,EH e,hn1,hswt]
 ·rw [EH ⟨hi,e⟩,EG e,rH F (hR2.row (by rw [cP];omega)) (hR2.row (by rw [cP];omega)) hc hx,hN hx,hN hx,hN hc,EG e,EG e,EH rfl,hn1,hn1,hswt]
variable (F : bU O El) (hL : bx El m L) (ht : t<L.length) (hk : k<L.length) (hc : c<m) (h0 : nth (af L k) c ≠ 0)
include F hL ht hk hc h0
theorem vq : gy O El m (et O L t k c) L:=by
 intro i hi;rw [dt] at hi;have hp : El (nth (af L k) c):=Vc.at (hL.row hk) hc;have hpi:=F.cl.inv _ hp h0;by_cases e : i=t
 ·exact ((RS.row F hk).smul F hpi).congr λx hx=>by rw [dG F hL ht hk hc h0 hi hx,EH e]
 ·have hs:=DH ht hk hi;exact ((RS.row F hs).comb F ((RS.row F hk).smul F hpi) (s:=nth (af L (sw t k i)) c) (Vc.at (hL.row hs) hc)).congr λx hx=>by rw [dG F hL ht hk hc h0 hi hx,EG e]
theorem vw : gy O El m L (et O L t k c):=by
 intro i hi;have hp : El (nth (af L k) c):=Vc.at (hL.row hk) hc;have hpi:=F.cl.inv _ hp h0;have htB : t<(et O L t k c).length:=by rw [dt];exact ht
 by_cases e : i=k
 ·refine ((RS.row F htB).smul F hp).congr λx hx=>?_;have hx1 : El (nth (af L k) x):=Vc.at (hL.row hk) hx;rw [dG F hL ht hk hc h0 ht hx,EH rfl,<- F.mul_assoc _ _ _ hp hpi hx1,F.mul_inv _ hp h0,F.one_mul _ hx1,e]
 ·have hj : ∃j,j<L.length/\j ≠ t/\sw t k j=i:=by
   by_cases e2 : i=t
   ·exact ⟨k,hk,by omega,by unfold sw;rw [EG (by omega),EH rfl,e2]⟩
   ·exact ⟨i,hi,e2,by unfold sw;rw [EG e2,EG e]⟩
  obtain ⟨j,hj,hjt,hsw⟩:=hj;have hs : El (nth (af L i) c):=Vc.at (hL.row hi) hc;refine ((RS.row F (i:=j) (by rw [dt];exact hj)).comb F (RS.row F htB) (s:=O.neg (nth (af L i) c)) (F.cl.neg _ hs)).congr λx hx=>?_;have hx1 : El (nth (af L k) x):=Vc.at (hL.row hk) hx;have hx2 : El (nth (af L i) x):=Vc.at (hL.row hi) hx;have hy:=F.cl.mul _ _ hpi hx1;have hq:=F.cl.mul _ _ hy hs;rw [dG F hL ht hk hc h0 ht hx,EH rfl,dG F hL ht hk hc h0 hj hx,EG hjt,hsw,F.mul_neg hy hs,F.neg_neg hq,F.add_assoc _ _ _ hx2 (F.cl.neg _ hq) hq,F.od hq,F.add_zero _ hx2]
end
theorem kY.next (F : bU O El) {L : LL} {P : LI} {c k : Nat} (h : kY L P c) (hL : bx El m L) (hc : c<m) (ht : P.length<L.length) (hk : k<L.length) (htk : P.length<=k) (h0 : nth (af L k) c ≠ 0) :
  kY (et O L P.length k c) (P ++ [(c : Int)]) (c+1):=by
 have hp : El (nth (af L k) c):=Vc.at (hL.row hk) hc;have hpi:=F.cl.inv _ hp h0;have hsw : ∀i,P.length<=i->i<L.length->P.length<=sw P.length k i/\sw P.length k i<L.length:=λi h1 h2=>by unfold sw;split;omega;split <;> omega
 have hswl : ∀i,i<P.length->sw P.length k i=i:=λi h1=>by unfold sw;rw [EG (by omega),EG (by omega)]
 refine ⟨by rw [dt,ER];simp;omega,λj hj=>?_,λj i hj hi=>?_,λi x h1 h2 hx=>?_⟩
 ·rw [fU];rw [ER,E0] at hj;by_cases e : j<P.length
  ·rw [EH e];have:=h.lt j e;omega
  ·rw [EG e,EH (by omega)];omega
 ·rw [ER,E0] at hj;rw [dt] at hi;rw [fU];by_cases e : j<P.length
  ·rw [EH e];have hb:=h.lt j e;have hx : (nth P j).toNat<m:=by omega
   have hk0:=h.one j k e hk;rw [EG (by omega)] at hk0;rw [dG F hL ht hk hc h0 hi hx,hk0,F.dh hpi];by_cases e2 : i=P.length
   ·rw [EH e2,EG (by omega)]
   ·rw [EG e2];have hsl : sw P.length k i<L.length:=by unfold sw;split;omega;split <;> omega
    rw [F.jh (Vc.at (hL.row hsl) hc),F.ey,F.add_zero _ (Vc.at (hL.row hsl) hx),h.one j _ e hsl];by_cases e3 : i<P.length
    ·rw [hswl i e3]
    ·have:=(hsw i (by omega) hi).1;rw [EG (by omega),EG (by omega)]
  ·have ej : j=P.length:=by omega
   rw [EG e,EH ej,EM,dG F hL ht hk hc h0 hi hc,ej];by_cases e2 : i=P.length
   ·rw [EH e2,EH e2,F.mul_comm _ _ hpi hp,F.mul_inv _ hp h0]
   ·rw [EG e2,EG e2];have hsl : sw P.length k i<L.length:=by unfold sw;split;omega;split <;> omega
    have hq : El (nth (af L (sw P.length k i)) c):=Vc.at (hL.row hsl) hc;rw [F.mul_comm _ _ hpi hp,F.mul_inv _ hp h0,F.one_mul _ hq,F.add_neg _ hq]
 ·rw [ER,E0] at h1;rw [dt] at h2;have hxm : x<m:=by omega
  have hs:=hsw i (by omega) h2;have hq : El (nth (af L (sw P.length k i)) c):=Vc.at (hL.row hs.2) hc;rw [dG F hL ht hk hc h0 h2 hxm,EG (by omega)];by_cases e : x=c
  ·subst e;rw [F.mul_comm _ _ hpi hp,F.mul_inv _ hp h0,F.one_mul _ hq,F.add_neg _ hq]
  ·rw [h.zero _ x hs.1 hs.2 (by omega),h.zero k x htk hk (by omega),F.dh hpi,F.jh hq,F.ey,F.add_zero 0 F.zero]
theorem kS (F : bU O El) {L : LL} (hL : bx El m L) (k : Nat) (hk : k<=m) : bx El m (aB O L k).1 :=
 (kC (O':=O) ⟨λ_ _ _ _=>rfl,λ_ _ _ _=>rfl,λ_ _=>rfl,λ_ _ _=>rfl⟩ F.cl hL k hk).2
theorem i7 (F : bU O El) {L : LL} (hL : bx El m L) : ∀k,k<=m->kY (aB O L k).1 (aB O L k).2 k/\gy O El m (aB O L k).1 L/\gy O El m L (aB O L k).1
 | 0,_=>⟨⟨EL _,λj hj=>by simp [aB] at hj,λj i hj=>by simp [aB] at hj,λi x _ _ hx=>by omega⟩,.refl F L,.refl F L⟩
 | k+1,hk=>by
  obtain ⟨h1,h2,h3⟩:=i7 F hL k (by omega);have hR:=kS F hL k (by omega);have hb:=jf (L:=(aB O L k).1) (c:=k) (k:=(aB O L k).2.length) h1.le;by_cases hlt : (aB O L k).2.length<(aB O L k).1.length
  ·rw [dn (Lk:=(aB O L k).1) (P:=(aB O L k).2) rfl hlt];split
   ·rename_i hf;refine ⟨⟨h1.le,λj hj=>⟨(h1.lt j hj).1,Int.lt_trans (h1.lt j hj).2 (by omega)⟩,h1.one,λi x hi1 hi2 hx=>?_⟩,h2,h3⟩;by_cases e : x=k
    ·subst e;exact iA _ x ((aB O L x).1.length - (aB O L x).2.length) _ i hi1 (by show i<aM _ x _;rw [hf];exact hi2)
    ·exact h1.zero i x hi1 hi2 (by omega)
   ·rename_i hf;have hfl : aM (aB O L k).1 k (aB O L k).2.length<(aB O L k).1.length:=by omega
    have hne : nth (af (aB O L k).1 (aM (aB O L k).1 k (aB O L k).2.length)) k ≠ 0:=eB _ k _ _ (by show aM _ k _<_;omega);exact ⟨h1.next F hR (by omega) hlt hfl hb.1 hne,(vq F hR hlt hfl (by omega) hne).trans h2,h3.trans (vw F hR hlt hfl (by omega) hne)⟩
  ·have hfull : (aB O L k).2.length=L.length:=by have:=cN O L k;have:=h1.le;omega
   rw [fh hfull 1];have hl:=cN O L k;exact ⟨⟨h1.le,λj hj=>by have:=h1.lt j hj;omega,h1.one,λi x hi1 hi2 hx=>by omega⟩,h2,h3⟩
theorem kY.ind (F : bU O El) {L : LL} {P : LI} {c : Nat} (h : kY L P c) : ∀k,k<=P.length->Rk (lQ O El L.length (aQ L)) (pL P k) k
 | 0,_=>.nil
 | k+1,hk=>by
  rw [pL];refine .ind _ (λhc=>?_) (h.ind F k (by omega));have hkl:=h.le;have h1:=hc (λv=>nth v k) (gV.xD F (by omega)) λy hy=>by obtain ⟨j,hj,rfl⟩:=(jd P y k).1 hy;show nth (aQ L _) k=0;rw [bR L _ k (by omega),h.one j k (by omega) (by omega),EG (by omega)]
  have h2 : nth (aQ L (nth P k).toNat) k=0:=h1;rw [bR L _ k (by omega),h.one k k (by omega) (by omega),EH rfl] at h2;exact absurd h2 (by decide)
def gk (O : aL) (L : LL) (P : LI) (v : LI) : Nat->LI
 | 0=>v
 | k+1=>dj O (gk O L P v k) (nth (gk O L P v k) k) (aQ L (nth P k).toNat)
theorem kY.less (F : bU O El) {L : LL} {P : LI} {c : Nat} (h : kY L P c) (hL : bx El m L) {v : LI} (hv : Vc El L.length v) {φ : LI->Int} (hφ : gV O El L.length φ)
  (h0 : ∀j,j<P.length->φ (aQ L (nth P j).toNat)=0) : ∀k,k<=P.length->Vc El L.length (gk O L P v k)/\φ (gk O L P v k)=φ v/\∀i,i<L.length->nth (gk O L P v k) i=if i<k then 0 else nth v i
 | 0,_=>⟨hv,rfl,λi _=>by rw [EG (by omega)];rfl⟩
 | k+1,hk=>by
  obtain ⟨h1,h2,h3⟩:=h.less F hL hv hφ h0 k (by omega);have hle:=h.le;have hcol:=cA hL F.zero (nth P k).toNat;have hx:=h1.at (i:=k) (by omega);refine ⟨h1.sub F hcol hx,?_,λi hi=>?_⟩
  ·rw [gk,hφ.sub _ _ _ h1 hcol hx,h0 k (by omega),F.dh hx,F.ey,F.add_zero _ (hφ.el _ h1),h2]
  ·rw [gk,dH O _ _ _ i (by rw [hcol.1,h1.1]) (by rw [h1.1];exact hi),bR L _ i hi,h.one k i (by omega) hi];by_cases e : i=k
   ·subst e;rw [EH rfl,F.kg hx,F.add_neg _ hx,EH (by omega)]
   ·rw [EG e,F.dh hx,F.ey,F.add_zero _ (h1.at hi),h3 i hi];by_cases e2 : i<k
    ·rw [EH e2,EH (by omega)]
    ·rw [EG e2,EG (by omega)]
theorem kY.all (F : bU O El) {L : LL} {P : LI} (h : kY L P m) (hL : bx El m L) {x : Nat} (hx : x<m) : lQ O El L.length (aQ L) (pL P P.length) x:=by
 intro φ hφ h0;obtain ⟨h1,h2,h3⟩:=h.less F hL (cA hL F.zero x) hφ (λj hj=>h0 _ ((jd P _ _).2 ⟨j,hj,rfl⟩)) _ (EF _);rw [<- h2];refine hφ.zero F h1 λi hi=>?_;rw [h3 i hi];split
 ·rfl
 ·rw [bR L x i hi];exact h.zero i x (by omega) hi hx
theorem Rk.map {cl cl' : LN->Nat->Prop} (D : Nat->Prop) (f : Nat->Nat) (hc : ∀l x,(∀y ∈ l,D y)->D x->(cl l x ↔ cl' (l.map f) (f x))) {l : LN} {r : Nat} (h : Rk cl l r) : (∀y ∈ l,D y)->Rk cl' (l.map f) r:=by
 induction h with
 | nil=>intro _;exact .nil
 | dep x hx _ ih =>
  intro hD
  exact .dep _ ((hc _ _ (λy hy=>hD y (List.mem_cons.2 (.inr hy))) (hD x (by simp))).1 hx) (ih λy hy=>hD y (List.mem_cons.2 (.inr hy)))
 | ind x hx _ ih =>
  intro hD
  exact .ind _ (λh=>hx ((hc _ _ (λy hy=>hD y (List.mem_cons.2 (.inr hy))) (hD x (by simp))).2 h)) (ih λy hy=>hD y (List.mem_cons.2 (.inr hy)))
theorem Dl (F : bU O El) {L : LL} (hL : bx El m L) : Rk (lQ O El L.length (aQ L)) (List.range m) (aB O L m).2.length:=by
 obtain ⟨h1,h2,h3⟩:=i7 F hL m (EF _);have hR:=kS F hL m (EF _);have hC:=lE F hR;have k1:=(h1.ind F _ (EF _)).vp hC (List.range m) λx hx=>h1.all F hR (List.mem_range.1 hx);have k2:=Rk.map (cl':=lQ O El L.length (aQ L)) (λy=>y<m) id (λl x hl hx=>by rw [List.map_id];exact ⟨h3.cl hl hx,h2.cl hl hx⟩) k1 λy hy=>by
  rcases List.mem_append.1 hy with hy | hy
  ·exact List.mem_range.1 hy
  ·obtain ⟨j,hj,rfl⟩:=(jd _ _ _).1 hy;have:=h1.lt j hj;omega
 obtain ⟨r,hr⟩:=Rk.ex (lQ O El L.length (aQ L)) (List.range m);have e:=Rk.same (lE F hL) k2 hr λx=>by
  rw [List.map_id,FH];constructor
  ·rintro (h | h)
   ·exact h
   ·obtain ⟨j,hj,rfl⟩:=(jd _ _ _).1 h;have:=h1.lt j hj;exact List.mem_range.2 (by omega)
  ·exact .inl
 rw [e];exact hr
def bK (Q : LI) (r : LI) : LI:=Q.map λq=>nth r q.toNat
theorem j5 (Q r : LI) {i : Nat} (hi : i<Q.length) : nth (bK Q r) i=nth r (nth Q i).toNat:=by rw [ai (show i<(bK Q r).length by simpa [bK] using hi),ai hi];simp [bK]
theorem zU {L : LL} (hL : bx El n L) {Q : LI} (hQ : ∀j,j<Q.length->0<=nth Q j/\nth Q j<n) : bx El Q.length (L.map (bK Q)):=by intro r hr;obtain ⟨r0,h0,rfl⟩:=List.mem_map.1 hr;refine ⟨by simp [bK],λx hx=>?_⟩;obtain ⟨q,hq,rfl⟩:=List.mem_map.1 hx;obtain ⟨j,hj,rfl⟩:=List.mem_iff_getElem.1 hq;have:=hQ j hj;rw [ai hj] at this;exact (hL r0 h0).2 _ (aO (by rw [(hL r0 h0).1];omega))
end
def Jd:=@Vc.at
def Jp:=@RS.row
end Go.Proofs.YtjfiflldinnhmaaGreat
