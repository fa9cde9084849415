import Derived.Test.YthglbncgemdcbaaGreatS8
import Derived.Sort.OwnSortedInts
import Derived.Test.YthglbncgemdcbaaGreatS2
import Derived.Test.YthglbncgemdcbaaGreatS7
namespace Go.Proofs.YthglbncgemdcbaaGreat
set_option linter.all false
set_option maxRecDepth 100000
set_option maxHeartbeats 4000000
open Go.RowKit Go.Proofs.Tryz
theorem wm (x : Int) (w : World) : Calls prog 267 #[.int .i64 x] w λe w'=>e = .returned (.bool (x != 0))/\w=w':=by go_enter func267,ntmps267;go_wp2;go_ret;exact ⟨rfl,rfl⟩
theorem zE (a : OA) (n c : Nat) (l : Lz) (w : World) (hi : Ints w a n l) :
  Calls prog 111 #[.slice a n c,.func (.func 267) #[] #[]] w λe w'=>e = .returned (.int .i64 (oQ l))/\w=w':=by
 have Hlen:=Z5 hi.len;have hpl:=hi.pl;have hmax:=hi.max;unfold maxLen at hmax;go_enter func111,ntmps111;go_wp2_with fail;go_loop [8] (λiv=>∃k : Nat,k<=n/\iv = .int .i64 k/\Hid (∀j,j<k->nth l j=0)) (λiv=>n - (intOf iv).toNat);case atStart=>exact ⟨0,Ni _,rfl,λj hj=>by omega⟩
 case round =>
  obtain ⟨k,hk,rfl,hall⟩:=hrel
  by_cases hlt : k<n
  ·have ck:=hi.cell k hlt
   by_cases hz : nth l k=0
   ·have hz' : (nth l k != 0)=false:=by simpa using hz
    have Hz:=Z5 hz
    clear hz
    go_wp2_with fail
    refine (wm _ _).mono ?_
    rintro e w' ⟨rfl,rfl⟩
    go_wp2_with fail
    go_round
    case rel=>exact ⟨k+1,by omega,by go_num,λj hj=>by
     rcases N3 j k with h | h
     ·exact hall.out j h
     ·rw [show j=k by omega];exact Hz.out⟩
    case measure=>simp [intOf] <;> omega
   ·have hz' : (nth l k != 0)=true:=by simpa using hz
    have Hf : Hid (oQ l=k):=by show _=_;have:=vU l k (by rw [Hlen.out];exact hlt) hall.out hz;rw [oQ,this,Nd (by rw [Hlen.out];exact hlt)]
    clear hz
    go_wp2_with fail
    refine (wm _ _).mono ?_
    rintro e w' ⟨rfl,rfl⟩
    go_wp2_with fail
    go_ret
    exact ⟨aP Hf.out.symm,rfl⟩
  ·obtain rfl : k=n:=by omega
   have Hf : Hid (oQ l = -1):=by show _=_;have:=rX l (by rw [Hlen.out];exact hall.out);rw [oQ,this,Nf (by omega)]
   go_wp2_with fail
   go_ret
   exact ⟨aP Hf.out.symm,rfl⟩
theorem GV {w w0 : World} {b : Nat} {G : dn} (bb : Nat) (ar : OA) (cr : Nat) (R : Z4) (ap : OA) (cp : Nat) (s : BS) (av : OA) (cv n : Nat) (v : Lz)
  (h : ew w0 b G) (hb : SW w0 w) (hB : rJ w w0.heap.size bb b ar cr R ap cp s) (hs : s.Ok G.El n) (hv : w.ownsRow w0.heap.size 3 1 (.slice av n cv) n (v.map (Value.int .i64)))
  (hav : av ≠ none->¬ vo bb ar R ap (ablk av)) (hve : G.Ec v) (hn : n<=1000000) (hk : s.rows.length<=1000000) :
  Calls prog 257 #[.pointer (some ⟨bb,0,none⟩),.slice av n cv] w (CC w0 bb b ar R ap av G.ops s v w):=by
 have hvl : v.length=n:=by simpa using kS hv
 have hpv:=(R6 hv).1.pl;have hcl:=SA h;have hred:=mO hcl hs.rws hs.plc ⟨hvl,hve⟩;have Hred:=Z5 hred;have Hvl:=Z5 hvl;have Hs:=Z5 hs;have Hve:=Z5 hve;have c1:=hB.c1;have hplr:=hB.om.pl;clear hred hvl hs hve;go_enter func257,ntmps257;go_wp2_with fail;obtain ⟨kk,hkk⟩ : ∃kk,s.rows.length=kk:=⟨_,rfl⟩
 have Hkk:=Z5 hkk;rw [hkk] at hk hplr c1;rw [hkk];clear hkk;go_loopw [18] (λiv wr=>∃k : Nat,k<=kk/\iv = .int .i64 k/\wr.ownsRow w0.heap.size 3 1 (.slice av n cv) n ((redTo G.ops s.rows s.place v k).map (Value.int .i64))/\dp av w wr) (λiv _=>kk - (intOf iv).toNat);case atStart=>exact ⟨0,Ni _,rfl,hv,Sq _ _⟩
 case round =>
  obtain ⟨k,hkk2,rfl,hown,honly⟩:=hrel
  have hBr:=hB.only honly hav
  by_cases hlt : k<kk
  ·have hkr : k<s.rows.length:=by rw [Hkk.out];exact hlt
   have e0:=hBr.c0
   have e2:=hBr.c2
   have er:=hBr.om.cell hkr
   have ir:=hBr.om.ints hkr
   have hrow:=Hs.out.rws.row hkr
   have hplc:=Hs.out.plc k hkr
   rw [hrow.1] at er ir
   obtain ⟨ip,mp⟩:=R6 hBr.pl
   have ep:=ip.cell k hkr
   have hpp:=ip.pl
   rw [Hkk.out] at e2 hpp
   obtain ⟨pn,hpn⟩ : ∃pn : Nat,nth s.place k=pn:=⟨(nth s.place k).toNat,by omega⟩
   rw [hpn] at ep hplc
   have hpnn : pn<n:=by omega
   have hrd:=Hred.out k (by omega)
   have hrd1:=Hred.out (k+1) (by omega)
   have hstep : redTo G.ops s.rows s.place v (k+1)=eK G.ops (redTo G.ops s.rows s.place v k) pn (ai s.rows k):=by rw [redTo,hpn]
   have Hstep:=Z5 hstep
   have Hrow:=Z5 hrow
   have Hpn:=Z5 hpn
   clear hstep hpn
   obtain ⟨u,hu⟩ : ∃u,redTo G.ops s.rows s.place v k=u:=⟨_,rfl⟩
   rw [hu] at hown hrd
   have Hu:=Z5 hu
   obtain ⟨iu,mu⟩:=R6 hown
   have eu:=iu.cell pn hpnn
   have hpu:=iu.pl
   have Hrd:=Z5 hrd
   clear hu hrow hrd hrd1
   by_cases hz : nth u pn=0
   ·have hz' : (nth u pn != 0)=false:=by simpa using hz
    have Hn : Hid (redTo G.ops s.rows s.place v (k+1)=u):=by show _=_;rw [Hstep.out,Hu.out,eK,Nb,Nd hz]
    clear hz
    go_wp2_with fail
    go_roundw
    case rel=>exact ⟨k+1,by omega,by go_num,by rw [Hn.out];exact hown,honly⟩
    case measure=>simp [intOf] <;> omega
   ·have hz' : (nth u pn != 0)=true:=by simpa using hz
    have Hn : Hid (redTo G.ops s.rows s.place v (k+1)=ez G.ops u (nth u pn) (ai s.rows k)):=by show _=_;rw [Hstep.out,Hu.out,eK,Nb,Nf hz]
    have hxe : G.El (nth u pn):=Hrd.out.2 _ (aH (by rw [Hrd.out.1];exact hpnn))
    have hSl : (ez G.ops u (nth u pn) (ai s.rows k)).length=u.length:=fZ _ _ _ _ (by rw [Hrow.out.1,Hrd.out.1])
    have hSn:=λi hi=>ga G.ops u (nth u pn) (ai s.rows k) i (by rw [Hrow.out.1,Hrd.out.1]) hi
    have HSl:=Z5 hSl
    have HSn:=Z5 hSn
    clear hz hSl hSn
    have hplr2:=ir.pl
    go_wp2_with fail
    generalize nth u pn=x at *
    generalize ez G.ops u x (ai s.rows k)=S at *
    go_loopw [37] (λiv wx=>∃j : Nat,j<=n/\iv = .int .i64 j/\wx.ownsRow w0.heap.size 3 1 (.slice av n cv) n ((jk S u j).map (Value.int .i64))/\dp av w wx) (λiv _=>n - (intOf iv).toNat)
    case atStart=>exact ⟨0,Ni _,rfl,by rw [gR];exact hown,honly⟩
    case round =>
     obtain ⟨j,hj,rfl,hown2,honly2⟩:=hrel
     have hBx:=hB.only honly2 hav
     have ix:=hBx.om.ints hkr
     rw [Hrow.out.1] at ix
     by_cases hjn : j<n
     ·have cj:=ix.cell j hjn
      have f0:=hBx.c0
      obtain ⟨im,mm⟩:=R6 hown2
      have cm:=im.cell j hjn
      have fm:=(mm (by omega)).2 j hjn
      have hju : j<u.length:=by rw [Hrd.out.1];exact hjn
      have hmix:=fI S u j j HSl.out (by omega)
      rw [Nf (by omega)] at hmix
      rw [hmix] at cm
      have hset:=gD S u j HSl.out hju
      rw [HSn.out j hju] at hset
      have Hset:=Z5 hset
      have ely : G.El (nth (ai s.rows k) j):=Hrow.out.2 _ (aH (by rw [Hrow.out.1];exact hjn))
      have elv : G.El (nth u j):=Hrd.out.2 _ (aH hju)
      have elm : ∀x y,G.El (G.mul x y):=λx y=>SE h x y
      have hbx : SW w0 wr:=N2 hb (honly2.below (λha=>(aY hv ha).1) hb.size)
      have hGr : ew wr b G:=h.ah hbx
      have HG : Hid (ew wr.drew b G/\∀n,ew (wr.drewN n) b G):=⟨hGr.ah (Nc _ _).drew,λn=>hGr.drewN n⟩
      clear hset hmix
      go_wp2_with fail
      go_region_law ((first
       | (go_simp;go_at_call 57;((with_reducible refine (qF x (nth (ai s.rows k) j) HG.out.1 hxe ely).mono ?_);rintro e w4 ⟨m4,rfl,rfl⟩))
       | (go_simp;go_at_call 57;((with_reducible refine (qF x (nth (ai s.rows k) j) (HG.out.2 _) hxe ely).mono ?_);rintro e w4 ⟨m4,rfl,rfl⟩))
       | (go_simp;go_at_call 199;((with_reducible refine (Lj (nth u j) (G.mul x (nth (ai s.rows k) j)) (HG.out.2 _) elv (elm _ _)).mono ?_);rintro e w4 ⟨m5,rfl,rfl⟩))))
      all_goals (
       go_wp2_with fail
       go_roundw
       case rel =>
        have hdr : bf wr (wr.drewN (1+m4+m5)):=⟨_,rfl⟩
        refine ⟨j+1,by omega,by go_num,?_,honly2.trans ((Sm hdr).trans (St _ j _ (by intro e;have:=hpv (by omega);rw [e] at this;cases this)))⟩
        have h1:=bK (w:=wr.drewN (1+m4+m5)) hown2 j hjn (.int .i64 (G.sub (nth u j) (G.mul x (nth (ai s.rows k) j))))
        rw [<- NF,show G.sub (nth u j) (G.mul x (nth (ai s.rows k) j))=G.ops.add (nth u j) (G.ops.neg (G.ops.mul x (nth (ai s.rows k) j))) from rfl,Hset.out] at h1
        exact h1
       case measure=>simp [intOf] <;> omega)
     ·obtain rfl : j=n:=by omega
      rw [iW S u j (by rw [HSl.out,Hrd.out.1]) Hrd.out.1] at hown2
      go_wp2_with fail
      go_roundw
      case rel=>exact ⟨k+1,by omega,by go_num,by rw [Hn.out];exact hown2,honly2⟩
      case measure=>simp [intOf] <;> omega
  ·obtain rfl : k=kk:=by omega
   have hrd:=Hred.out k (by rw [Hkk.out];exact Na _)
   have hurd : redTo G.ops s.rows s.place v k=s.red G.ops v:=by rw [BS.red,Hkk.out]
   rw [hurd] at hown hrd
   obtain ⟨iu,mu⟩:=R6 hown
   have Hrd:=Z5 hrd
   clear hurd hrd
   go_wp2_with fail
   refine (zE _ _ _ _ _ iu).mono ?_
   rintro e w' ⟨rfl,rfl⟩
   by_cases hf : fnz (s.red G.ops v)<(s.red G.ops v).length
   ·have hfv : oQ (s.red G.ops v)=fnz (s.red G.ops v):=by rw [oQ,Nd hf]
    have hfn:=pz _ hf
    have Ht : Hid (s.eF G.ops v=true):=by show _=_;simpa [BS.eF] using hf
    have HN : Hid (s.next G.ops v=⟨s.rows ++ [(s.red G.ops v).map (G.mul (G.inv (nth (s.red G.ops v) (fnz (s.red G.ops v)))))],s.place ++ [(fnz (s.red G.ops v) : Int)]⟩):=by show _=_;rw [BS.next,Nd Ht.out];rfl
    rw [hfv]
    obtain ⟨u,hu⟩ : ∃u,s.red G.ops v=u:=⟨_,rfl⟩
    rw [hu] at hown Hrd hf hfn iu HN
    rw [hu]
    clear hu hfv
    obtain ⟨f,hff⟩ : ∃f,fnz u=f:=⟨_,rfl⟩
    rw [hff] at hf hfn HN
    rw [hff]
    have hfn' : f<n:=by rw [<- Hrd.out.1];exact hf
    have e0:=hBr.c0
    have eu:=iu.cell f hfn'
    have hpu:=iu.pl
    have elf : G.El (nth u f):=Hrd.out.2 _ (aH hf)
    have hbx : SW w0 wr:=N2 hb (honly.below (λha=>(aY hv ha).1) hb.size)
    have hGr : ew wr b G:=h.ah hbx
    have HG : Hid (ew wr.drew b G/\∀n,ew (wr.drewN n) b G):=⟨hGr.ah (Nc _ _).drew,λn=>hGr.drewN n⟩
    have Hfn:=Z5 hfn
    have Hf:=Z5 hf
    clear hff hfn hf
    go_upto_region 15 with fail
    go_cut [11] (λdv wx=>dv = .int .i64 (G.inv (nth u f))/\bf wr wx)
    case first =>
     go_region_held3 (λw'=>w'.cell? ⟨bb,0,none⟩=some (.pointer (some ⟨b,0,none⟩))/\w'.cell? ⟨ablk av,aK av+f,none⟩=some (.int .i64 (nth u f)))
      (exact ⟨e0,eu⟩)
      (first
      | (go_at_call 201;((with_reducible refine (Jt _ HG.out.1 elf Hfn.out).mono ?_);rintro e w4 ⟨m4,rfl,rfl⟩)))
     all_goals (
      go_step;go_step
      go_meet
      exact ⟨rfl,⟨_,rfl⟩⟩)
    obtain ⟨rfl,hdr⟩:=hcut
    generalize wc=V at *
    have hBV : rJ V w0.heap.size bb b ar cr R ap cp s:=hBr.ah hdr.below
    have hownV:=bd hown hdr.below
    have hbV : SW w0 V:=hdr.zU hbx
    have honV : dp av w V:=honly.trans (Sm hdr)
    clear hBr hown hbx hGr HG e0 eu iu mu hdr honly
    obtain ⟨iu,mu⟩:=R6 hownV
    have HGV : Hid (ew V.drew b G/\∀n,ew (V.drewN n) b G):=⟨(h.ah hbV).ah (Nc _ _).drew,λn=>(h.ah hbV).drewN n⟩
    have hiel : G.El (G.inv (nth u f)):=SV h _
    have e0:=hBV.c0
    have e1:=hBV.c1
    have f1:=hBV.fr 1
    have hS : ∀W,SW V W->W.cell? ⟨bb,0,none⟩=some (.pointer (some ⟨b,0,none⟩))/\W.cell? ⟨bb,1,none⟩=some (.slice ar s.rows.length cr)/\W.frozen? ⟨bb,1,none⟩=false/\SW V W:=by intro W hW;have hBW:=hBV.ah hW;exact ⟨hBW.c0,hBW.c1,hBW.fr 1,hW⟩
    have HS:=Z5 hS
    have haptb : gE ar bb:=by
     by_cases ha : ar=none
     ·exact .inl ha
     ·exact .inr λe=>hBV.d1 (.inl ⟨ha,e.symm⟩)
    have hR : ∀W,SW V W->W.ownsRow w0.heap.size 22 1 (.slice ar k cr) k (List.zipWith l5 R s.rows):=λW hW=>by have:=(hBV.om.ah hW).own;rwa [Hkk.out] at this
    have HR:=Z5 hR
    obtain ⟨N,hN⟩ : ∃N,u.map (G.mul (G.inv (nth u f)))=N:=⟨_,rfl⟩
    have hsc : Calls prog 66 #[.pointer (some ⟨b,0,none⟩),.int .i64 (G.inv (nth u f)),.slice av n cv] V.drew (b8 V.drew N):=by rw [<- hN];exact xj (G.inv (nth u f)) _ _ _ u HGV.out.1 hiel (iu.ah (Nc _ _).drew) Hrd.out.2 hn
    have Hsc:=Z5 hsc
    have HNe:=Z5 hN
    rw [hN] at HN
    clear hN hsc
    clear hS hR
    go_upto_region 16 with fail
    go_cut [] (λwx=>∃ar' cr' R',wx.cell? ⟨bb,1,none⟩=some (.slice ar' (k+1) cr')/\aT wx w0.heap.size ar' (k+1) cr' R' (s.rows ++ [N]) /\
     aE V wx (λx=>x=bb\/cU ar R x) (λx=>x=bb\/cU ar' R' x)/\¬ cU ar' R' bb /\
     (∀i v,i ≠ 1->V.cell? ⟨bb,i,none⟩=some v->wx.cell? ⟨bb,i,none⟩=some v)/\∀i,wx.frozen? ⟨bb,i,none⟩=false)
    case first =>
     rw [Hkk.out] at e1 HS
     go_region_law ((first
      | (go_simp;go_at_call 66;((with_reducible refine Hsc.out.mono ?_);rintro e w4 ⟨a4,c4,rfl,hown4,hb4⟩;obtain ⟨q0,q1,q2,q5⟩:=HS.out w4 (RZ (Nc _ _).drew hb4);have q6 : bb<w4.heap.size:=Nt w4 _ q0))
      | (refine dE (by rfl) (.tmp 83) (.tmp 91) 25 22 (by rfl) (.slice none 0 0) 24 underlying25 df (by rfl) w0.heap.size ar k cr (List.zipWith l5 R s.rows) (by rfl) (HR.out _ (RZ q5 (an _ _))) (some ⟨w4.heap.size,0,none⟩) 1 1 [.slice a4 N.length c4] (by rfl) (λ_=>rfl) rfl (by intro j hj;obtain rfl : j=0:=(by omega);exact dj _ _ _ rfl) (by intro y hy;simp at hy;subst hy;rfl) (by omega) (by unfold maxLen;omega) (by have e1:=hbV.size;have e2:=Om q5;simp;omega) ?_;intro a5 c5 w5 hown5 hgr5 hap5;have p1:=bT hgr5 (bu q1 _) haptb;have p2 : w5.frozen? ⟨bb,1,none⟩=false:=(N1 (hgr5.block bb (Nt _ _ (bu q1 _)) (λe=>haptb.own k cr e.symm))).trans (dX (Nt _ _ q1) q2 _))))
     all_goals (
      go_wp2_with fail
      go_meet
      exact hBV.JC Hkk.out hbV.size (RZ (Nc _ _).drew hb4) hown4 hown5 hgr5 hap5 ⟨_,p1⟩)
    obtain ⟨ar',cr',R',y1,hOX,hMX,hdX,hcX,hfX⟩:=hcut
    generalize wc=X at *
    have y0:=hcX 0 _ (by omega) e0
    have y2:=hcX 2 _ (by omega) hBV.c2
    have yf:=hfX 2
    have hnI : ap ≠ none->¬ (ablk ap=bb\/cU ar R (ablk ap)):=λh0 hI=>by
     rcases hI with h1 | h1
     ·rcases hBV.d2 with h2 | h2
      ·exact h0 h2
      ·exact h2 h1
     ·exact hBV.d3 h0 h1
    have hpX:=hMX.own hBV.pl hnI
    have hd3 : ap ≠ none->¬ cU ar' R' (ablk ap):=λh0 hI=>hMX.not (aY hBV.pl h0).2 (hnI h0) (.inr hI)
    rw [Hkk.out] at y2 hpX
    have hbX : SW w0 X:=hbV.trans (hMX.below (λx hx=>(hBV.lt x (by rcases hx with h1 | h1;exact .inl h1;exact .inr (.inl h1))).1) hbV.size)
    have hz : bb<X.heap.size:=Nt X _ y0
    have HfX:=Z5 hfX
    have Hd3:=Z5 hd3
    have HdX:=Z5 hdX
    have hd2:=hBV.d2
    have hbB:=hBV.bB
    have hcn:=ba X (.int .i64 f) 3
    clear hcX hfX hd3 hdX e0 e1 f1
    go_wp2_with (at_builtin;refine aO rfl _ _ 22 3 rfl (.int .i64 0) 8 underlying22 aU rfl w0.heap.size ap k cp _ rfl (hpX.alloc _) ⟨X.heap.size,0,none⟩ 1 (.int .i64 f) rfl hcn rfl (by omega) (by unfold maxLen;omega) (by have e1:=hbX.size;simp;omega) ?_;intro a6 c6 w6 hown6 hgr6 hap6;have p1:=bT hgr6 (bu y2 _) hd2;have p2 : w6.frozen? ⟨bb,2,none⟩=false:=(N1 (hgr6.block bb (Nt _ _ (bu y2 _)) (λe=>hd2.own k cp e.symm))).trans (dX hz yf _))
    have hP:=rJ.JT (w6:=w6) hbB y0 y1 ⟨_,y2⟩ HfX.out hOX hpX HdX.out hd2 Hd3.out hown6 hgr6 hap6
    have HP:=Z5 hP
    clear hP
    go_ret
    refine ⟨ar',cr',R',a6,c6,aZ Ht.out.symm,by rw [HN.out];exact HP.out.1,?_⟩
    refine Sx (w':=V) (I':=λx=>vo bb ar R ap x\/(av ≠ none/\x=ablk av)) ?_ (Sx (w':=X) (I':=vo bb ar' R' ap) ?_ HP.out.2)
    ·exact ⟨honV.os,honV.tape,honV.output,honV.size,λx hx hI=>honV.block x hx λh2=>hI (.inr h2),λx hx=>.inl hx⟩
    ·refine ⟨hMX.os,hMX.tape,hMX.output,hMX.size,λx hx hI=>hMX.block x hx λh2=>hI (.inl (by rcases h2 with h3 | h3;exact .inl h3;exact .inr (.inl h3))),λx hx=>?_⟩
     rcases hx with h1 | h1 | h1
     ·exact .inl (.inl (.inl h1))
     ·rcases hMX.grow x (.inr h1) with h2 | h2
      ·exact .inl (.inl (by rcases h2 with h3 | h3;exact .inl h3;exact .inr (.inl h3)))
      ·exact .inr h2
     ·exact .inl (.inl (.inr (.inr h1)))
   ·have hfv : oQ (s.red G.ops v) = -1:=by rw [oQ,Nf hf]
    rw [hfv]
    have Ht : Hid (s.eF G.ops v=false):=by show _=_;simp [BS.eF];omega
    have HN : Hid (s.next G.ops v=s):=by show _=_;rw [BS.next,Nf (by rw [Ht.out];simp)]
    clear hf hfv
    go_wp2_with fail
    go_ret
    refine ⟨ar,cr,R,ap,cp,aZ Ht.out.symm,by rw [HN.out];exact hBr,?_⟩
    exact ⟨honly.os,honly.tape,honly.output,honly.size,λx hx hI=>honly.block x hx λh2=>hI (.inr h2),λx hx=>.inl (.inl hx)⟩
section
open Go.RowKit Go.Shelf Go.Sort
theorem AV (a : OA) (c : Nat) (w : World) : Calls prog 166 #[.slice a 0 c,.int .i64 0,.int .i64 0] w λe w'=>e = .returned (.tuple #[])/\w'=w:=by go_enter func166,ntmps166;go_wp2_with fail;refine wp_loop_rounds 1 ?_;rw [rounds_succ];go_wp2_with fail;go_end0;exact ⟨rfl,rfl⟩
theorem JB (a : OA) (c : Nat) (w : World) : Calls prog 116 #[.slice a 0 c,.int .i64 0,.int .i64 0,.int .i64 0] w λe w'=>e = .returned (.tuple #[])/\w'=w:=by go_enter func116,ntmps116;go_wp2_with fail;refine wp_loop_rounds 1 ?_;rw [rounds_succ];go_wp2_with fail;refine (AV a c w).mono ?_;rintro e w' ⟨rfl,rfl⟩;go_wp2_with fail;(try simp only [Exit.inBlock,Exit.then]);refine bodyPost_ret (results_none rfl _ _ _) rfl ?_;exact ⟨rfl,rfl⟩
theorem Ax (w : World) : Calls prog 117 #[.int .u64 0] w λe w'=>e = .returned (.int .i64 0)/\w'=w :=
 calls_of_every_depth λD=>AnyS.bits_LenIn { Mx with } D 0 w (by omega) (by omega)
theorem Ie (a : OA) (c : Nat) (w : World) : Calls prog 67 #[.slice a 0 c] w λe w'=>e = .returned (.tuple #[])/\w'=w:=by go_enter func67,ntmps67;go_wp2_with fail;refine (Ax w).mono ?_;rintro e w' ⟨rfl,rfl⟩;go_wp2_with fail;refine (JB a c w').mono ?_;rintro e w' ⟨rfl,rfl⟩;go_wp2_with fail;go_end0;exact ⟨rfl,rfl⟩
theorem vI (B : Nat) (a : OA) (n c : Nat) (l : Lz) (w : World) (hown : w.ownsRow B 3 1 (.slice a n c) n (l.map (Value.int .i64))) (hB : B<=w.heap.size) (hn : n<=1000000) :
  Calls prog 67 #[.slice a n c] w λe w'=>e = .returned (.tuple #[])/\w'.ownsRow B 3 1 (.slice a n c) n ((dt l).map (Value.int .i64))/\w.grownBy w' (Value.slice a n c).ownBlock/\Below B w w':=by
 have hl : l.length=n:=by simpa using kS hown
 have hown':=hown;rcases hown.2 with ⟨hv,hz⟩ | ⟨g,cap,cur,hv,hbase,hb,h1,h2,h3,h4⟩
 ·cases hv
  have hl0 : l=[]:=NL hl;subst hl0;refine (Ie none 0 w).mono ?_;rintro e w' ⟨rfl,rfl⟩;exact ⟨rfl,by simpa [dt] using hown',⟨rfl,rfl,rfl,Na _,λk _ _=>rfl⟩,Nc _ _⟩
 ·cases hv
  subst hl;have hH:=holds_of_blockI (ss:=l) hb (by simpa using h4);have hgl : g<w.heap.size:=(Array.getElem?_eq_some_iff.1 hb).1;refine (Any.slices_Sort_int Mx g 0 c l w hH hgl (by omega)).mono ?_;rintro e w' ⟨rfl,nn,os,rfl⟩;have hgr:=grownBy_sortedI (w:=w) (g:=g) (n:=nn) (os:=os) (l.mergeSort λx y=>decide (x<=y)).toArray;exact ⟨rfl,ownsRow_sortedI (by simp) hbase hb h1 h2 h3,hgr,(Nc B w).grown hgr hB (λj hj=>by cases hj;exact hbase)⟩
theorem Ez (Bs : Nat) (a : OA) (len cap : Nat) (zs : Lz) (hlen : len<=1000000) (w : World) (hBs : Bs<w.heap.size) (hc : w.cell? ⟨Bs,0,none⟩=some (.slice a len cap)) (hI : Ints w a len zs) :
  Calls prog 259 #[.func (.func 269) #[] #[.pointer (some ⟨Bs,0,none⟩)]] w λe W' =>
   ∃a2 c2,e = .returned (.slice a2 len c2)/\W'.ownsRow w.heap.size 3 1 (.slice a2 len c2) len ((dt zs).map (Value.int .i64))/\SW w W':=by go_enter func259,ntmps259;go_wp2_with fail;refine (Ba Bs a len cap zs hlen w hBs hc hI).mono ?_;rintro e w1 ⟨v,rfl,hown,hb⟩;obtain ⟨a2,c2,rfl,_⟩:=Sv hown;have HS:=Z5 (vI w.heap.size a2 len c2 zs w1 hown hb.size hlen);clear hown;go_wp2_with fail;refine HS.out.mono ?_;rintro e w2 ⟨rfl,hown2,_,hb2⟩;go_wp2_with fail;go_ret;exact ⟨a2,c2,rfl,hown2,hb.trans hb2⟩
end
section
open Go.RowKit
end
section
open Go.RowKit
end
def dO (w : World) (e : Ending) (w' : World) : Prop:=∃z,e = .returned (.bool z)/\SW w w'
theorem tj (a : OA) (n c K : Nat) (L : ZZ) (w : World) (hi : br w a n L) (hK : K<=100000) :
  Calls prog 83 #[.agg #[.int .i64 0,.slice a n c],.int .i64 K] w (dO w):=by
 have Hlen:=Z5 hi.len;have hpl:=hi.pl;have hmax:=hi.max;unfold maxLen at hmax;go_enter func83,ntmps83;go_upto_region 1 with fail;obtain ⟨W,hW⟩ : ∃W : World,W=w.alloc (.cells #[.int .i64 0,.slice a n c] 94):=⟨_,rfl⟩
 rw [<- hW];have hbW : SW w W:=by rw [hW];exact an _ _
 have x0 : aN W w.heap.size [.int .i64 0,.slice a n c]:=by rw [hW];exact R9 _ _ _ rfl
 have c0:=x0.cell 0 rfl;have c1:=x0.cell 1 rfl;have hiW:=hi.ah hbW;have HbW:=Z5 hbW;clear hW x0 hi hbW;by_cases h1 : K<n
 ·have d1 : decide (K<n)=true:=by simpa using h1
  have d1' : decide ((K : Int)<n)=true:=by simp;omega
  go_wp2_with fail;go_ret;exact ⟨_,rfl,HbW.out⟩
 ·have d1 : decide (K<n)=false:=by simpa using h1
  have d1' : decide ((K : Int)<n)=false:=by simp;omega
  go_wp2_with fail;go_loopw [5,6] (λlv iv wr=>∃k m : Nat,k<=n/\m<=K/\lv = .int .i64 m/\iv = .int .i64 k/\wr=W) (λ_ iv _=>n - (intOf iv).toNat);case atStart=>exact ⟨0,K - n,Ni _,by omega,by go_num,rfl,rfl⟩
  case round =>
   obtain ⟨k,m,hk,hm,rfl,rfl,rfl⟩:=hrel
   by_cases hlt : k<n
   ·obtain ⟨ra,rn,rc,hcell,hrow⟩:=hiW.cell k hlt
    by_cases h2 : m<rn
    ·have d2 : decide (m<rn)=true:=by simpa using h2
     have d2' : decide ((m : Int)<rn)=true:=by simp;omega
     go_wp2_with fail
     go_ret
     exact ⟨_,rfl,HbW.out⟩
    ·have d2 : decide (m<rn)=false:=by simpa using h2
     have d2' : decide ((m : Int)<rn)=false:=by simp;omega
     have d3 : (rn : Int)<=m:=by omega
     go_wp2_with fail
     go_roundw
     case rel=>exact ⟨k+1,m - rn,by omega,by omega,by go_num,by go_num,by first | rfl | trivial⟩
     case measure=>simp [intOf] <;> omega
   ·obtain rfl : k=n:=by omega
    go_wp2_with fail
    go_ret
    exact ⟨_,rfl,HbW.out⟩
theorem lY (P M : Int) (am : OA) (mn cm : Nat) (N : Int) (a : OA) (n c K : Nat) (L : ZZ) (w : World) (hi : br w a n L) (hK : K<=100000) :
  Calls prog 32 #[.agg #[.int .i64 P,.int .i64 M,.slice am mn cm,.int .i64 N,.slice a n c],.int .i64 K] w (dO w):=by have H:=Z5 (λV hV=>tj a n c K L V (hi.ah hV) hK : ∀V,SW w V->_);clear hi;go_enter func32,ntmps32;go_wp2_with fail;have hbW:=an w (.cells #[.int .i64 P,.int .i64 M,.slice am mn cm,.int .i64 N,.slice a n c] 27);refine (H.out _ hbW).mono ?_;rintro e w1 ⟨z,rfl,hb1⟩;have hF:=RZ hbW hb1;go_wp2_with fail;go_ret;exact ⟨z,rfl,hF⟩
end Go.Proofs.YthglbncgemdcbaaGreat
