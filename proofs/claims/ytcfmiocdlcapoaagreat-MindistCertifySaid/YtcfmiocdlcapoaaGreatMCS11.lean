import Derived.Test.YtcfmiocdlcapoaaGreatMCS8
import Derived.Test.YtcfmiocdlcapoaaGreatMCS7
import Derived.Sort.OwnSortedInts
import Derived.Test.YtcfmiocdlcapoaaGreatMCS2
namespace Go.Proofs.YtcfmiocdlcapoaaGreat
set_option linter.all false
set_option maxRecDepth 100000
set_option maxHeartbeats 8000000
open Go.RowKit Go.Proofs.Tryz
def xk (w0 : World) (bb b : Nat) (ar : OA) (R : La) (ap av : OA) (O : aS) (s : BS) (v : Lz) (w : World) (e : Ending) (w' : World) : Prop :=
 ∃ar' cr' R' ap' cp',e = .returned (.bool (s.dz O v))/\mL w' w0.heap.size bb b ar' cr' R' ap' cp' (s.next O v) /\
  aA w w' (λx=>qH bb ar R ap x\/(av ≠ none/\x=aj av)) (qH bb ar' R' ap')
theorem EH {w w0 : World} {b : Nat} {G : cW} (bb : Nat) (ar : OA) (cr : Nat) (R : La) (ap : OA) (cp : Nat) (s : BS) (av : OA) (cv n : Nat) (v : Lz)
  (h : dT w0 b G) (hb : NS w0 w) (hB : mL w w0.heap.size bb b ar cr R ap cp s) (hs : s.Ok G.El n) (hv : w.ownsRow w0.heap.size 3 1 (.slice av n cv) n (v.map (Value.int .i64)))
  (hav : av ≠ none->¬ qH bb ar R ap (aj av)) (hve : G.Bz v) (hn : n<=1000000) (hk : s.rows.length<=1000000) :
  Calls prog 132 #[.pointer (some ⟨bb,0,none⟩),.slice av n cv] w (xk w0 bb b ar R ap av G.ops s v w):=by
 have hvl : v.length=n:=by simpa using iP hv
 have hpv:=(Ni hv).1.pl;have hcl:=NA h;have hred:=kT hcl hs.rws hs.plc ⟨hvl,hve⟩;have Hred:=Z5 hred;have Hvl:=Z5 hvl;have Hs:=Z5 hs;have Hve:=Z5 hve;have c1:=hB.c1;have hplr:=hB.om.pl;clear hred hvl hs hve;go_enter func132,ntmps132;go_wp2_with fail;obtain ⟨kk,hkk⟩ : ∃kk,s.rows.length=kk:=⟨_,rfl⟩
 have Hkk:=Z5 hkk;rw [hkk] at hk hplr c1;rw [hkk];clear hkk;go_loopw [18] (λiv wr=>∃k : Nat,k<=kk/\iv = .int .i64 k/\wr.ownsRow w0.heap.size 3 1 (.slice av n cv) n ((bu G.ops s.rows s.place v k).map (Value.int .i64))/\cP av w wr) (λiv _=>kk - (intOf iv).toNat);case atStart=>exact ⟨0,I7 _,rfl,hv,ND _ _⟩
 case round =>
  obtain ⟨k,hkk2,rfl,hown,honly⟩:=hrel
  have hBr:=hB.only honly hav
  by_cases hlt : k<kk
  ·have hkr : k<s.rows.length:=by rw [Hkk.out];exact hlt
   have e0:=hBr.c0
   have e2:=hBr.c2
   have er:=hBr.om.cell hkr
   have ir:=hBr.om.ints hkr
   have hrow:=Hs.out.rws.row hkr
   have hplc:=Hs.out.plc k hkr
   rw [hrow.1] at er ir
   obtain ⟨ip,mp⟩:=Ni hBr.pl
   have ep:=ip.cell k hkr
   have hpp:=ip.pl
   rw [Hkk.out] at e2 hpp
   obtain ⟨pn,hpn⟩ : ∃pn : Nat,nth s.place k=pn:=⟨(nth s.place k).toNat,by omega⟩
   rw [hpn] at ep hplc
   have hpnn : pn<n:=by omega
   have hrd:=Hred.out k (by omega)
   have hrd1:=Hred.out (k+1) (by omega)
   have hstep : bu G.ops s.rows s.place v (k+1)=dG G.ops (bu G.ops s.rows s.place v k) pn (an s.rows k):=by rw [bu,hpn]
   have Hstep:=Z5 hstep
   have Hrow:=Z5 hrow
   have Hpn:=Z5 hpn
   clear hstep hpn
   obtain ⟨u,hu⟩ : ∃u,bu G.ops s.rows s.place v k=u:=⟨_,rfl⟩
   rw [hu] at hown hrd
   have Hu:=Z5 hu
   obtain ⟨iu,mu⟩:=Ni hown
   have eu:=iu.cell pn hpnn
   have hpu:=iu.pl
   have Hrd:=Z5 hrd
   clear hu hrow hrd hrd1
   by_cases hz : nth u pn=0
   ·have hz' : (nth u pn != 0)=false:=by simpa using hz
    have Hn : Hid (bu G.ops s.rows s.place v (k+1)=u):=by show _=_;rw [Hstep.out,Hu.out,dG,Jd,I6 hz]
    clear hz
    go_wp2_with fail
    go_roundw
    case rel=>exact ⟨k+1,by omega,by go_num,by rw [Hn.out];exact hown,honly⟩
    case measure=>simp [intOf] <;> omega
   ·have hz' : (nth u pn != 0)=true:=by simpa using hz
    have Hn : Hid (bu G.ops s.rows s.place v (k+1)=dF G.ops u (nth u pn) (an s.rows k)):=by show _=_;rw [Hstep.out,Hu.out,dG,Jd,I5 hz]
    have hxe : G.El (nth u pn):=Hrd.out.2 _ (aK (by rw [Hrd.out.1];exact hpnn))
    have hSl : (dF G.ops u (nth u pn) (an s.rows k)).length=u.length:=dY _ _ _ _ (by rw [Hrow.out.1,Hrd.out.1])
    have hSn:=λi hi=>eF G.ops u (nth u pn) (an s.rows k) i (by rw [Hrow.out.1,Hrd.out.1]) hi
    have HSl:=Z5 hSl
    have HSn:=Z5 hSn
    clear hz hSl hSn
    have hplr2:=ir.pl
    go_wp2_with fail
    generalize nth u pn=x at *
    generalize dF G.ops u x (an s.rows k)=S at *
    go_loopw [37] (λiv wx=>∃j : Nat,j<=n/\iv = .int .i64 j/\wx.ownsRow w0.heap.size 3 1 (.slice av n cv) n ((fc S u j).map (Value.int .i64))/\cP av w wx) (λiv _=>n - (intOf iv).toNat)
    case atStart=>exact ⟨0,I7 _,rfl,by rw [eQ];exact hown,honly⟩
    case round =>
     obtain ⟨j,hj,rfl,hown2,honly2⟩:=hrel
     have hBx:=hB.only honly2 hav
     have ix:=hBx.om.ints hkr
     rw [Hrow.out.1] at ix
     by_cases hjn : j<n
     ·have cj:=ix.cell j hjn
      have f0:=hBx.c0
      obtain ⟨im,mm⟩:=Ni hown2
      have cm:=im.cell j hjn
      have fm:=(mm (by omega)).2 j hjn
      have hju : j<u.length:=by rw [Hrd.out.1];exact hjn
      have hmix:=ek S u j j HSl.out (by omega)
      rw [I5 (by omega)] at hmix
      rw [hmix] at cm
      have hset:=ey S u j HSl.out hju
      rw [HSn.out j hju] at hset
      have Hset:=Z5 hset
      have ely : G.El (nth (an s.rows k) j):=Hrow.out.2 _ (aK (by rw [Hrow.out.1];exact hjn))
      have elv : G.El (nth u j):=Hrd.out.2 _ (aK hju)
      have elm : ∀x y,G.El (G.mul x y):=λx y=>NJ h x y
      have hbx : NS w0 wr:=Ju hb (honly2.below (λha=>(aM hv ha).1) hb.size)
      have hGr : dT wr b G:=h.aa hbx
      have HG : Hid (dT wr.drew b G/\∀n,dT (wr.drewN n) b G):=⟨hGr.aa (I1 _ _).drew,λn=>hGr.drewN n⟩
      clear hset hmix
      go_wp2_with fail
      go_region_law ((first
       | (go_simp;go_at_call 153;((with_reducible refine (n9 x (nth (an s.rows k) j) HG.out.1 hxe ely).mono ?_);rintro e w4 ⟨m4,rfl,rfl⟩))
       | (go_simp;go_at_call 153;((with_reducible refine (n9 x (nth (an s.rows k) j) (HG.out.2 _) hxe ely).mono ?_);rintro e w4 ⟨m4,rfl,rfl⟩))
       | (go_simp;go_at_call 191;((with_reducible refine (Gq (nth u j) (G.mul x (nth (an s.rows k) j)) (HG.out.2 _) elv (elm _ _)).mono ?_);rintro e w4 ⟨m5,rfl,rfl⟩))))
      all_goals (
       go_wp2_with fail
       go_roundw
       case rel =>
        have hdr : bf wr (wr.drewN (1+m4+m5)):=⟨_,rfl⟩
        refine ⟨j+1,by omega,by go_num,?_,honly2.trans ((Nt hdr).trans (Nz _ j _ (by intro e;have:=hpv (by omega);rw [e] at this;cases this)))⟩
        have h1:=bT (w:=wr.drewN (1+m4+m5)) hown2 j hjn (.int .i64 (G.sub (nth u j) (G.mul x (nth (an s.rows k) j))))
        rw [<- Jq,show G.sub (nth u j) (G.mul x (nth (an s.rows k) j))=G.ops.add (nth u j) (G.ops.neg (G.ops.mul x (nth (an s.rows k) j))) from rfl,Hset.out] at h1
        exact h1
       case measure=>simp [intOf] <;> omega)
     ·obtain rfl : j=n:=by omega
      rw [fD S u j (by rw [HSl.out,Hrd.out.1]) Hrd.out.1] at hown2
      go_wp2_with fail
      go_roundw
      case rel=>exact ⟨k+1,by omega,by go_num,by rw [Hn.out];exact hown2,honly2⟩
      case measure=>simp [intOf] <;> omega
  ·obtain rfl : k=kk:=by omega
   have hrd:=Hred.out k (by rw [Hkk.out];exact IZ _)
   have hurd : bu G.ops s.rows s.place v k=s.red G.ops v:=by rw [BS.red,Hkk.out]
   rw [hurd] at hown hrd
   obtain ⟨iu,mu⟩:=Ni hown
   have Hrd:=Z5 hrd
   clear hurd hrd
   go_wp2_with fail
   refine (xy _ _ _ _ _ iu).mono ?_
   rintro e w' ⟨rfl,rfl⟩
   by_cases hf : fY (s.red G.ops v)<(s.red G.ops v).length
   ·have hfv : iD (s.red G.ops v)=fY (s.red G.ops v):=by rw [iD,I6 hf]
    have hfn:=iY _ hf
    have Ht : Hid (s.dz G.ops v=true):=by show _=_;simpa [BS.dz] using hf
    have HN : Hid (s.next G.ops v=⟨s.rows ++ [(s.red G.ops v).map (G.mul (G.inv (nth (s.red G.ops v) (fY (s.red G.ops v)))))],s.place ++ [(fY (s.red G.ops v) : Int)]⟩):=by show _=_;rw [BS.next,I6 Ht.out];rfl
    rw [hfv]
    obtain ⟨u,hu⟩ : ∃u,s.red G.ops v=u:=⟨_,rfl⟩
    rw [hu] at hown Hrd hf hfn iu HN
    rw [hu]
    clear hu hfv
    obtain ⟨f,hff⟩ : ∃f,fY u=f:=⟨_,rfl⟩
    rw [hff] at hf hfn HN
    rw [hff]
    have hfn' : f<n:=by rw [<- Hrd.out.1];exact hf
    have e0:=hBr.c0
    have eu:=iu.cell f hfn'
    have hpu:=iu.pl
    have elf : G.El (nth u f):=Hrd.out.2 _ (aK hf)
    have hbx : NS w0 wr:=Ju hb (honly.below (λha=>(aM hv ha).1) hb.size)
    have hGr : dT wr b G:=h.aa hbx
    have HG : Hid (dT wr.drew b G/\∀n,dT (wr.drewN n) b G):=⟨hGr.aa (I1 _ _).drew,λn=>hGr.drewN n⟩
    have Hfn:=Z5 hfn
    have Hf:=Z5 hf
    clear hff hfn hf
    go_upto_region 15 with fail
    go_cut [11] (λdv wx=>dv = .int .i64 (G.inv (nth u f))/\bf wr wx)
    case first =>
     go_region_held3 (λw'=>w'.cell? ⟨bb,0,none⟩=some (.pointer (some ⟨b,0,none⟩))/\w'.cell? ⟨aj av,aL av+f,none⟩=some (.int .i64 (nth u f)))
      (exact ⟨e0,eu⟩)
      (first
      | (go_at_call 193;((with_reducible refine (zB _ HG.out.1 elf Hfn.out).mono ?_);rintro e w4 ⟨m4,rfl,rfl⟩)))
     all_goals (
      go_step;go_step
      go_meet
      exact ⟨rfl,⟨_,rfl⟩⟩)
    obtain ⟨rfl,hdr⟩:=hcut
    generalize wc=V at *
    have hBV : mL V w0.heap.size bb b ar cr R ap cp s:=hBr.aa hdr.below
    have hownV:=aX hown hdr.below
    have hbV : NS w0 V:=hdr.ue hbx
    have honV : cP av w V:=honly.trans (Nt hdr)
    clear hBr hown hbx hGr HG e0 eu iu mu hdr honly
    obtain ⟨iu,mu⟩:=Ni hownV
    have HGV : Hid (dT V.drew b G/\∀n,dT (V.drewN n) b G):=⟨(h.aa hbV).aa (I1 _ _).drew,λn=>(h.aa hbV).drewN n⟩
    have hiel : G.El (G.inv (nth u f)):=NP h _
    have e0:=hBV.c0
    have e1:=hBV.c1
    have f1:=hBV.fr 1
    have hS : ∀W,NS V W->W.cell? ⟨bb,0,none⟩=some (.pointer (some ⟨b,0,none⟩))/\W.cell? ⟨bb,1,none⟩=some (.slice ar s.rows.length cr)/\W.frozen? ⟨bb,1,none⟩=false/\NS V W:=by intro W hW;have hBW:=hBV.aa hW;exact ⟨hBW.c0,hBW.c1,hBW.fr 1,hW⟩
    have HS:=Z5 hS
    have haptb : cJ ar bb:=by
     by_cases ha : ar=none
     ·exact .inl ha
     ·exact .inr λe=>hBV.d1 (.inl ⟨ha,e.symm⟩)
    have hR : ∀W,NS V W->W.ownsRow w0.heap.size 22 1 (.slice ar k cr) k (List.zipWith eY R s.rows):=λW hW=>by have:=(hBV.om.aa hW).own;rwa [Hkk.out] at this
    have HR:=Z5 hR
    obtain ⟨N,hN⟩ : ∃N,u.map (G.mul (G.inv (nth u f)))=N:=⟨_,rfl⟩
    have hsc : Calls prog 194 #[.pointer (some ⟨b,0,none⟩),.int .i64 (G.inv (nth u f)),.slice av n cv] V.drew (dh V.drew N):=by rw [<- hN];exact uE (G.inv (nth u f)) _ _ _ u HGV.out.1 hiel (iu.aa (I1 _ _).drew) Hrd.out.2 hn
    have Hsc:=Z5 hsc
    have HNe:=Z5 hN
    rw [hN] at HN
    clear hN hsc
    clear hS hR
    go_upto_region 16 with fail
    go_cut [] (λwx=>∃ar' cr' R',wx.cell? ⟨bb,1,none⟩=some (.slice ar' (k+1) cr')/\aP wx w0.heap.size ar' (k+1) cr' R' (s.rows ++ [N]) /\
     aA V wx (λx=>x=bb\/bS ar R x) (λx=>x=bb\/bS ar' R' x)/\¬ bS ar' R' bb /\
     (∀i v,i ≠ 1->V.cell? ⟨bb,i,none⟩=some v->wx.cell? ⟨bb,i,none⟩=some v)/\∀i,wx.frozen? ⟨bb,i,none⟩=false)
    case first =>
     rw [Hkk.out] at e1 HS
     go_region_law ((first
      | (go_simp;go_at_call 194;((with_reducible refine Hsc.out.mono ?_);rintro e w4 ⟨a4,c4,rfl,hown4,hb4⟩;obtain ⟨q0,q1,q2,q5⟩:=HS.out w4 (Nh (I1 _ _).drew hb4);have q6 : bb<w4.heap.size:=Jf w4 _ q0))
      | (refine bH (by rfl) (.tmp 83) (.tmp 91) 25 22 (by rfl) (.slice none 0 0) 24 underlying25 di (by rfl) w0.heap.size ar k cr (List.zipWith eY R s.rows) (by rfl) (HR.out _ (Nh q5 (aw _ _))) (some ⟨w4.heap.size,0,none⟩) 1 1 [.slice a4 N.length c4] (by rfl) (λ_=>rfl) rfl (by intro j hj;obtain rfl : j=0:=(by omega);exact bM _ _ _ rfl) (by intro y hy;simp at hy;subst hy;rfl) (by omega) (by unfold maxLen;omega) (by have e1:=hbV.size;have e2:=J7 q5;simp;omega) ?_;intro a5 c5 w5 hown5 hgr5 hap5;have p1:=bC hgr5 (aY q1 _) haptb;have p2 : w5.frozen? ⟨bb,1,none⟩=false:=(JJ (hgr5.block bb (Jf _ _ (aY q1 _)) (λe=>haptb.own k cr e.symm))).trans (ef (Jf _ _ q1) q2 _))))
     all_goals (
      go_wp2_with fail
      go_meet
      exact hBV.CY Hkk.out hbV.size (Nh (I1 _ _).drew hb4) hown4 hown5 hgr5 hap5 ⟨_,p1⟩)
    obtain ⟨ar',cr',R',y1,hOX,hMX,hdX,hcX,hfX⟩:=hcut
    generalize wc=X at *
    have y0:=hcX 0 _ (by omega) e0
    have y2:=hcX 2 _ (by omega) hBV.c2
    have yf:=hfX 2
    have hnI : ap ≠ none->¬ (aj ap=bb\/bS ar R (aj ap)):=λh0 hI=>by
     rcases hI with h1 | h1
     ·rcases hBV.d2 with h2 | h2
      ·exact h0 h2
      ·exact h2 h1
     ·exact hBV.d3 h0 h1
    have hpX:=hMX.own hBV.pl hnI
    have hd3 : ap ≠ none->¬ bS ar' R' (aj ap):=λh0 hI=>hMX.not (aM hBV.pl h0).2 (hnI h0) (.inr hI)
    rw [Hkk.out] at y2 hpX
    have hbX : NS w0 X:=hbV.trans (hMX.below (λx hx=>(hBV.lt x (by rcases hx with h1 | h1;exact .inl h1;exact .inr (.inl h1))).1) hbV.size)
    have hz : bb<X.heap.size:=Jf X _ y0
    have HfX:=Z5 hfX
    have Hd3:=Z5 hd3
    have HdX:=Z5 hdX
    have hd2:=hBV.d2
    have hbB:=hBV.bB
    have hcn:=bk X (.int .i64 f) 3
    clear hcX hfX hd3 hdX e0 e1 f1
    go_wp2_with (at_builtin;refine bg rfl _ _ 22 3 rfl (.int .i64 0) 8 underlying22 ba rfl w0.heap.size ap k cp _ rfl (hpX.alloc _) ⟨X.heap.size,0,none⟩ 1 (.int .i64 f) rfl hcn rfl (by omega) (by unfold maxLen;omega) (by have e1:=hbX.size;simp;omega) ?_;intro a6 c6 w6 hown6 hgr6 hap6;have p1:=bC hgr6 (aY y2 _) hd2;have p2 : w6.frozen? ⟨bb,2,none⟩=false:=(JJ (hgr6.block bb (Jf _ _ (aY y2 _)) (λe=>hd2.own k cp e.symm))).trans (ef hz yf _))
    have hP:=mL.Dv (w6:=w6) hbB y0 y1 ⟨_,y2⟩ HfX.out hOX hpX HdX.out hd2 Hd3.out hown6 hgr6 hap6
    have HP:=Z5 hP
    clear hP
    go_ret
    refine ⟨ar',cr',R',a6,c6,bd Ht.out.symm,by rw [HN.out];exact HP.out.1,?_⟩
    refine NK (w':=V) (I':=λx=>qH bb ar R ap x\/(av ≠ none/\x=aj av)) ?_ (NK (w':=X) (I':=qH bb ar' R' ap) ?_ HP.out.2)
    ·exact ⟨honV.os,honV.tape,honV.output,honV.size,λx hx hI=>honV.block x hx λh2=>hI (.inr h2),λx hx=>.inl hx⟩
    ·refine ⟨hMX.os,hMX.tape,hMX.output,hMX.size,λx hx hI=>hMX.block x hx λh2=>hI (.inl (by rcases h2 with h3 | h3;exact .inl h3;exact .inr (.inl h3))),λx hx=>?_⟩
     rcases hx with h1 | h1 | h1
     ·exact .inl (.inl (.inl h1))
     ·rcases hMX.grow x (.inr h1) with h2 | h2
      ·exact .inl (.inl (by rcases h2 with h3 | h3;exact .inl h3;exact .inr (.inl h3)))
      ·exact .inr h2
     ·exact .inl (.inl (.inr (.inr h1)))
   ·have hfv : iD (s.red G.ops v) = -1:=by rw [iD,I5 hf]
    rw [hfv]
    have Ht : Hid (s.dz G.ops v=false):=by show _=_;simp [BS.dz];omega
    have HN : Hid (s.next G.ops v=s):=by show _=_;rw [BS.next,I5 (by rw [Ht.out];simp)]
    clear hf hfv
    go_wp2_with fail
    go_ret
    refine ⟨ar,cr,R,ap,cp,bd Ht.out.symm,by rw [HN.out];exact hBr,?_⟩
    exact ⟨honly.os,honly.tape,honly.output,honly.size,λx hx hI=>honly.block x hx λh2=>hI (.inr h2),λx hx=>.inl (.inl hx)⟩
theorem aP.GS (w : World) (B : Nat) : aP w B none 0 0 [] [] :=
 ⟨rfl,rfl,bX,λi hi=>by omega,λi hi=>by omega,λi j hi=>by omega⟩
theorem mE (P : Int) (m : Nat) (am : OA) (mn cm : Nat) (mod : Lz) (av : OA) (n cv : Nat) (v : Lz) (s : Int) (au : OA) (cu : Nat) (u : Lz) (w : World) (hf : rZ w P m am mn mod) (hs : e9 P m s)
  (hi : Ints w av n v) (hu : Ints w au n u) (hve : ∀x ∈ v,e9 P m x) (hue : ∀x ∈ u,e9 P m x) (hn : n<=1000000) :
  Calls prog 115 #[.agg #[.int .i64 P,.int .i64 m,.slice am mn cm],.slice av n cv,.int .i64 s,.slice au n cu] w (dh w (bP (ia P m mod) v s u)):=by
 have hrf:=hf.rf;have Hs:=Z5 (hrf.jj hs);have Hvl:=Z5 hi.len;have Hul:=Z5 hu.len;have hplv:=hi.pl;have hplu:=hu.pl;have Hev : Hid (∀k,k<n->jj (aN P m) (nth v k)=true):=λk hk=>hrf.jj (hve _ (aK (by rw [hi.len];exact hk)));have Heu : Hid (∀k,k<n->jj (aN P m) (nth u k)=true):=λk hk=>hrf.jj (hue _ (aK (by rw [hu.len];exact hk)));have HNl : Hid ((bP (ia P m mod) v s u).length=n):=by show _=_;rw [cA _ _ _ _ (by rw [hi.len,hu.len]),hi.len]
 have HNn : Hid (∀k,k<n->nth (bP (ia P m mod) v s u) k=if nth u k=0 then nth v k else eh P m (nth v k) (mulR P m mod s (nth u k))):=λk hk=>gK (ia P m mod) v s u k (by rw [hi.len,hu.len]) (by rw [hi.len];exact hk);obtain ⟨NN,hNN⟩ : ∃NN,bP (ia P m mod) v s u=NN:=⟨_,rfl⟩
 rw [hNN] at HNl HNn;rw [hNN];clear hve hue hNN;go_enter func115,ntmps115;go_wp2_with (at_make;refine cC rfl _ _ 22 3 rfl (.int .i64 0) 8 underlying22 ba rfl n rfl rfl (by omega) (by unfold maxLen;omega) ?_;intro a1 w1 hown hbel hge hlt);obtain ⟨W,hW⟩ : ∃W : World,W=w.alloc (.cells #[.int .i64 P,.int .i64 m,.slice am mn cm] 24):=⟨_,rfl⟩
 rw [<- hW] at hown hbel hge;have hbW : NS w W:=by rw [hW];exact aw _ _
 have x0 : aZ W w.heap.size [.int .i64 P,.int .i64 m,.slice am mn cm]:=by rw [hW];exact Nj _ _ _ rfl
 have hfW:=hf.aa hbW;have hiW:=hi.aa hbW;have huW:=hu.aa hbW;have hS : ∀k,k<n->∀V,NS W V->V.cell? ⟨w.heap.size,0,none⟩=some (.int .i64 P)/\V.cell? ⟨w.heap.size,1,none⟩=some (.int .i64 m)/\V.cell? ⟨w.heap.size,2,none⟩=some (.slice am mn cm) /\
   V.cell? ⟨aj av,aL av+k,none⟩=some (.int .i64 (nth v k))/\V.cell? ⟨aj au,aL au+k,none⟩=some (.int .i64 (nth u k))/\NS W V:=by intro k hk V hV;have x1:=x0.aa hV;exact ⟨x1.cell 0 rfl,x1.cell 1 rfl,x1.cell 2 rfl,(hiW.aa hV).cell k hk,(huW.aa hV).cell k hk,hV⟩
 have HS:=Z5 hS;clear hW x0 hS;go_loopw [10] (λiv wr=>∃k : Nat,k<=n/\iv = .int .i64 k /\
   wr.ownsRow W.heap.size 3 1 (.slice a1 n n) n ((cU (NN.take k) k n).map (Value.int .i64))/\NS W wr)
  (λi _=>n - (intOf i).toNat)
 case atStart=>exact ⟨0,I7 _,rfl,by simpa [cU] using hown,hbel⟩
 case round =>
  obtain ⟨k,hk,rfl,hown,hbel⟩:=hrel
  obtain ⟨hints,hmine⟩:=Ni hown
  have hpl1:=hints.pl
  by_cases hlt : k<n
  ·have hB:=(hmine (by omega)).1
   have cc:=hints.cell k hlt
   have cf:=(hmine (by omega)).2 k hlt
   obtain ⟨d0,d1,d2,d3,d4,_⟩:=HS.out k hlt wr hbel
   have hset : ∀(V : World) (z : Int),z=nth NN k->V.ownsRow W.heap.size 3 1 (.slice a1 n n) n ((cU (NN.take k) k n).map (Value.int .i64))->(V.setCell ⟨aj a1,aL a1+k,none⟩ (.int .i64 z)).ownsRow W.heap.size 3 1 (.slice a1 n n) n ((cU (NN.take (k+1)) (k+1) n).map (Value.int .i64)):=by rintro V z rfl hV;have h:=bT hV k hlt (.int .i64 (nth NN k));rw [<- Jq,eO _ _ _ _ (by simp [HNl.out];omega) hlt] at h;rw [Ja (by rw [HNl.out];omega)];rw [ai (by rw [HNl.out];omega)] at h ⊢;exact h
   have Hset:=Z5 hset
   have HB:=Z5 hB
   have hNk:=HNn.out k hlt
   have hown':=bT hown k hlt (.int .i64 (nth v k))
   by_cases hz : nth u k=0
   ·rw [I6 hz] at hNk
    have hz' : (nth u k != 0)=false:=by simpa using hz
    have HNk:=Z5 hNk
    have dd : (wr.setCell ⟨aj a1,aL a1+k,none⟩ (.int .i64 (nth v k))).cell? ⟨aj au,aL au+k,none⟩=some (.int .i64 (nth u k)):=(HS.out k hlt _ (hbel.setCell hB _)).2.2.2.2.1
    clear hset hz hNk hown'
    go_wp2_with fail
    go_roundw
    case rel=>exact ⟨k+1,by omega,by go_num,Hset.out _ _ HNk.out.symm hown,hbel.setCell HB.out _⟩
    case measure=>simp [intOf] <;> omega
   ·rw [I5 hz] at hNk
    have hz' : (nth u k != 0)=true:=by simpa using hz
    have HNk:=Z5 hNk
    obtain ⟨U,hU⟩ : ∃U : World,U=wr.setCell ⟨aj a1,aL a1+k,none⟩ (.int .i64 (nth v k)):=⟨_,rfl⟩
    have hbU : NS W U:=by rw [hU];exact hbel.setCell hB _
    have dd : (wr.setCell ⟨aj a1,aL a1+k,none⟩ (.int .i64 (nth v k))).cell? ⟨aj au,aL au+k,none⟩=some (.int .i64 (nth u k)):=(HS.out k hlt _ (hbel.setCell hB _)).2.2.2.2.1
    rw [<- hU] at hown'
    have hmdU:=(hfW.aa hbU).mods
    have Hmd : Hid (∀V,NS U V->xQ V P m am mn mod):=λV hV=>hmdU.aa hV
    have HK : Hid (∀V,NS U V->(∃y,V.cell? ⟨aj a1,aL a1+k,none⟩=some y)/\V.frozen? ⟨aj a1,aL a1+k,none⟩=false/\V.ownsRow W.heap.size 3 1 (.slice a1 n n) n (((cU (NN.take k) k n).map (Value.int .i64)).set k (.int .i64 (nth v k)))):=λV hV=>by have ho:=aX hown' hV;have h5:=bW ho k hlt;exact ⟨⟨_,by rw [h5.1,JI (by rw [h5.2.2.2.1];exact hlt)]⟩,h5.2.1,ho⟩
    have HbU:=Z5 hbU
    have HelM : Hid (jj (aN P m) (mulR P m mod s (nth u k))=true):=hrf.jj (vb hrf mod _ _)
    have HSk : Hid (∀V,NS W V->V.cell? ⟨w.heap.size,0,none⟩=some (.int .i64 P)/\V.cell? ⟨w.heap.size,1,none⟩=some (.int .i64 m)/\V.cell? ⟨w.heap.size,2,none⟩=some (.slice am mn cm) /\
     V.cell? ⟨aj av,aL av+k,none⟩=some (.int .i64 (nth v k))/\V.cell? ⟨aj au,aL au+k,none⟩=some (.int .i64 (nth u k))/\NS W V):=HS.out k hlt
    have hset2 : ∀V : World,V.ownsRow W.heap.size 3 1 (.slice a1 n n) n (((cU (NN.take k) k n).map (Value.int .i64)).set k (.int .i64 (nth v k))) ->
      (V.setCell ⟨aj a1,aL a1+k,none⟩ (.int .i64 (eh P m (nth v k) (mulR P m mod s (nth u k))))).ownsRow W.heap.size 3 1 (.slice a1 n n) n ((cU (NN.take (k+1)) (k+1) n).map (Value.int .i64)):=by intro V hV;rw [<- HNk.out];have h:=bT hV k hlt (.int .i64 (nth NN k));rw [List.set_set,<- Jq,eO _ _ _ _ (by simp [HNl.out];omega) hlt] at h;rw [Ja (by rw [HNl.out];omega)];rw [ai (by rw [HNl.out];omega)] at h ⊢;exact h
    have Hset2:=Z5 hset2
    clear hset hz hNk hown' hmdU hbU hset2
    go_wp2_with fail
    rw [<- hU]
    clear hU d0 d1 d2 d3 d4 cc cf dd hbel hints hmine hown hB
    go_region_held3 (λV=>V.cell? ⟨w.heap.size,0,none⟩=some (.int .i64 P)/\V.cell? ⟨w.heap.size,1,none⟩=some (.int .i64 m)/\V.cell? ⟨w.heap.size,2,none⟩=some (.slice am mn cm) /\
      V.cell? ⟨aj av,aL av+k,none⟩=some (.int .i64 (nth v k))/\V.cell? ⟨aj au,aL au+k,none⟩=some (.int .i64 (nth u k))/\NS W V)
     ((refine HSk.out _ ?_;first | exact HbU.out.drew | exact Nh HbU.out hb7 | exact Nh HbU.out hb9 | exact (Nh HbU.out hb9).setCell HB.out _))
     (first
      | (go_at_call 180;((with_reducible refine (qy P m am mn cm mod s (nth u k) _ hrf (Hmd.out _ (I1 _ _).drew) Hs.out (Heu.out k hlt)).mono ?_);rintro e w4 ⟨rfl,hb4⟩;have hb7 : NS U w4:=Nh (I1 _ _).drew hb4))
      | (go_at_call 179;((with_reducible refine (D9 P m am mn cm (nth v k) (mulR P m mod s (nth u k)) _ hrf (Hev.out k hlt) HelM.out).mono ?_);rintro e w5 ⟨rfl,hb5⟩;have hb9 : NS U w5:=Nh hb7 hb5;obtain ⟨⟨v9,k9⟩,f9,o9⟩:=HK.out w5 hb9)))
    clear k9 f9
    go_wp2_with fail
    go_roundw
    case rel=>exact ⟨k+1,by omega,by go_num,Hset2.out _ o9,(Nh HbU.out hb9).setCell HB.out _⟩
    case measure=>simp [intOf] <;> omega
  ·obtain rfl : k=n:=by omega
   have hfin : cU (NN.take k) k k=NN:=by rw [fy,I8 (by rw [HNl.out];exact IZ _)]
   rw [hfin] at hown
   clear hfin
   go_wp2_with fail
   go_ret
   exact ⟨a1,k,by rw [HNl.out];rfl,by rw [HNl.out];exact aU hown hbW.size,Nh hbW hbel⟩
theorem Br (a : OA) (n c : Nat) (L : Ll) (w : World) (hi : ch w a n L) (hn : n<=1000000) (hL : ∀l ∈ L,l.length<=1000000) :
  Calls prog 231 #[.slice a n c] w (zT w L):=by
 have hpl:=hi.pl;have Hlen:=Z5 hi.len;have HL:=Z5 hL;clear hL;go_enter func231,ntmps231;go_wp2_with fail;go_loopw [3,4] (λsv iv wr=>∃(k : Nat) (a1 : OA) (c1 : Nat),k<=n/\iv = .int .i64 k/\sv = .slice a1 k c1/\(∃R,aP wr w.heap.size a1 k c1 R (L.take k))/\NS w wr) (λ_ iv _=>n - (intOf iv).toNat);case atStart=>exact ⟨0,none,0,I7 _,rfl,rfl,⟨[],by simpa using aP.GS w w.heap.size⟩,I1 _ _⟩
 case round =>
  obtain ⟨k,a1,c1,hk,rfl,rfl,⟨R,hO⟩,hbr⟩:=hrel
  by_cases hlt : k<n
  ·obtain ⟨ra,rn,rc,hcell,hrow⟩:=(hi.aa hbr).cell k hlt
   have hkL : k<L.length:=by rw [Hlen.out];exact hlt
   have hrl : rn<=1000000:=by rw [<- hrow.len,aE hkL];exact HL.out _ (JA hkL)
   have hO1:=ff wr 3
   have hbe:=aw wr (.cells #[] 3)
   obtain ⟨l,hl⟩ : ∃l,an L k=l:=⟨_,rfl⟩
   rw [hl] at hrow
   have Htk : Hid (L.take (k+1)=L.take k ++ [l]):=by show _=_;rw [Ja hkL,<- hl,aE hkL]
   have hrowe:=hrow.aa hbe
   have hcell2:=aY hcell (.cells #[] 3)
   have hpr:=hrow.pl
   have Hrl:=Z5 hrow.len
   have hsz:=hbr.size
   clear hl
   go_wp2_with (at_builtin;first
    | (refine ee (by rfl) (.tmp 12) (.tmp 16) 22 3 (by rfl) (.int .i64 0) 8 underlying22 ba (by rfl) wr.heap.size _ 0 0 [] (by rfl) hO1 ra rn rc (l.map (Value.int .i64)) (by rfl) hpr (by simp [Hrl.out]) (Np hrowe) (ints_oneCell _ _) (by omega) (by unfold maxLen;omega) (J7 hbe) ?_;intro a3 c3 w3 hown3 hgr3 hap3;have hb3 : NS wr w3:=Nk (B:=wr.heap.size) (e:=3) (xs:=[]) hbe hO1 hgr3 (IZ _) (J7 hbe);rw [Kk] at hown3 ⊢;rw [JL] at hown3)
    | (refine bg rfl _ _ 25 22 rfl (.slice none 0 0) 24 underlying25 di rfl w.heap.size a1 k c1 _ rfl ((hO.aa (Nh hb3 (aw _ _))).own) ⟨w3.heap.size,0,none⟩ 1 (.slice a3 rn c3) rfl (bk w3 _ _) rfl (by omega) (by unfold maxLen;omega) (by have h1:=J7 hb3;simp;omega) ?_;intro a5 c5 w5 hown5 hgr5 hap5)
    | fail)
   go_roundw
   case rel =>
    have hb4 : NS wr (w3.alloc (.cells #[.slice a3 rn c3] 22)):=Nh hb3 (aw _ _)
    have hO4:=hO.aa hb4
    have hown4 : (w3.alloc (.cells #[.slice a3 rn c3] 22)).ownsRow w.heap.size 3 1 (.slice a3 l.length c3) l.length (l.map (Value.int .i64)):=by rw [Hrl.out];exact aU (aX hown3 (aw _ _)) hsz
    have hra : a3 ≠ none->¬ bS a1 R (aj a3):=λh0 hI=>by have h1:=(aM hown3 h0).1;have h2:=(hO.lt _ hI).2;omega
    have hP:=Ny hO4 hown4 hra (by rw [Hrl.out];exact hown5) hgr5 hap5
    have hb5 : NS w w5:=Nk (Nh hbr hb4) hO4.own hgr5 (IZ _) (Ji hsz hb4.size)
    exact ⟨k+1,a5,c5,by omega,by go_num,rfl,⟨_,by rw [Htk.out];exact hP⟩,hb5⟩
   case measure=>simp [intOf] <;> omega
  ·obtain rfl : k=n:=by omega
   rw [I8 (by rw [Hlen.out];exact IZ _)] at hO
   go_wp2_with fail
   go_ret
   exact ⟨a1,c1,R,by rw [Hlen.out];rfl,by rw [Hlen.out];exact hO,hbr⟩
theorem uJ (L : Ll) (t : Nat) : bh L t t=L:=by rw [bh,jG,jG]
theorem aP.newRow {V V5 : World} {B : Nat} {a : OA} {n c : Nat} {R : La} {L : Ll} (h : aP V B a n c R L) {i : Nat} (hi : i<n) (hb : NS V V5) (hB : B<=V.heap.size) {a5 : OA} {c5 : Nat} {l : Lz}
  (hown : V5.ownsRow V.heap.size 3 1 (.slice a5 l.length c5) l.length (l.map (Value.int .i64))) :
  ∃R',aP (V5.setCell ⟨aj a,aL a+i,none⟩ (.slice a5 l.length c5)) B a n c R' (L.set i l)/\aA V (V5.setCell ⟨aj a,aL a+i,none⟩ (.slice a5 l.length c5)) (bS a R) (bS a R'):=by
 have hO4:=h.aa hb;have hnew : ∀b,b<V.heap.size->cJ a5 b:=λb hb=>lA hown hb;have h1:=hO4.setRow hi (aU hown hB) (hnew _ (h.lt _ (.inl ⟨h.ne (by omega),rfl⟩)).2) (λj hj _=>by
  by_cases hn : (aO R j).1=none
  ·exact .inl hn
  ·exact .inr (hnew _ (h.lt _ (aP.lZ (by rw [h.rl];exact hj) hn)).2))
 have h2:=h.mc hb hi (r:=a5) (rc:=c5) (.slice a5 l.length c5) (λha=>.inr (aM hown ha).1);exact ⟨_,h1,h2⟩
def oK (O : aS) (L : Ll) (cols : Nat) (w : World) (e : Ending) (w' : World) : Prop :=
 ∃a c R ap cp,e = .returned (.tuple #[.slice a L.length c,.slice ap (aD O L cols).2.length cp])/\aP w' w.heap.size a L.length c R (aD O L cols).1 /\
  w'.ownsRow w.heap.size 3 1 (.slice ap (aD O L cols).2.length cp) (aD O L cols).2.length ((aD O L cols).2.map (Value.int .i64))/\NS w w'
theorem tS (P : Int) (m : Nat) (am : OA) (mn cm : Nat) (mod : Lz) (a : OA) (n c cols len : Nat) (L : Ll) (w : World) (hf : rZ w P m am mn mod) (hi : ch w a n L)
  (hR : cw (e9 P m) len L) (hcl : cols<=len) (hlen : len<=1000000) (hn : n<=1000000) (hinv : ∀p,e9 P m p->p ≠ 0->(gy P m mod p=1 ↔ p=1)) :
  Calls prog 183 #[.agg #[.int .i64 P,.int .i64 m,.slice am mn cm],.slice a n c,.int .i64 cols] w (oK (ia P m mod) L cols w):=by
 obtain ⟨O,hO⟩ : ∃O,ia P m mod=O:=⟨_,rfl⟩
 rw [hO];have HO:=Z5 hO;have Hcl : Hid (vO O (e9 P m)):=by show vO O _;rw [<- hO];exact IU hf.rf mod
 have Hinv:=Z5 hinv;have Hlen:=Z5 hi.len;have HR:=Z5 hR;have hLl : ∀l ∈ L,l.length<=1000000:=λl hl=>by rw [(hR l hl).1];exact hlen
 have HLl:=Z5 hLl;clear hinv hR hLl hO;have hfin : ∀w' a' c' R' ap cp Lk Pv,(Lk,Pv)=aD O L cols->aP w' w.heap.size a' n c' R' Lk->w'.ownsRow w.heap.size 3 1 (.slice ap Pv.length cp) Pv.length (Pv.map (Value.int .i64))->NS w w' ->
   oK O L cols w (.returned (.tuple #[.slice a' n c',.slice ap Pv.length cp])) w':=by
  intro w' a' c' R' ap cp Lk Pv he h1 h2 h3;have e1 : (aD O L cols).1=Lk:=by rw [<- he]
  have e2 : (aD O L cols).2=Pv:=by rw [<- he]
  refine ⟨a',c',R',ap,cp,?_,?_,?_,h3⟩
  ·rw [e2,Hlen.out]
  ·rw [e1,Hlen.out];exact h1
  ·rw [e2];exact h2
 have Hfin:=Z5 hfin;clear hfin;go_enter func183,ntmps183;go_wp2_with fail;obtain ⟨W,hW⟩ : ∃W : World,W=w.alloc (.cells #[.int .i64 P,.int .i64 m,.slice am mn cm] 24):=⟨_,rfl⟩
 rw [<- hW];have hbW : NS w W:=by rw [hW];exact aw _ _
 have x0 : aZ W w.heap.size [.int .i64 P,.int .i64 m,.slice am mn cm]:=by rw [hW];exact Nj _ _ _ rfl
 have HX:=Z5 x0;have hfW:=hf.aa hbW;clear hW x0;refine (Br a n c L W (hi.aa hbW) hn HLl.out).mono ?_;rintro e w1 ⟨a1,c1,R1,rfl,hO1,hb1⟩;rw [Hlen.out] at hO1 ⊢;have hS : ∀V,NS W V->V.cell? ⟨w.heap.size,0,none⟩=some (.int .i64 P)/\V.cell? ⟨w.heap.size,1,none⟩=some (.int .i64 m)/\V.cell? ⟨w.heap.size,2,none⟩=some (.slice am mn cm)/\rZ V P m am mn mod:=by intro V hV;have x1:=HX.out.aa hV;exact ⟨x1.cell 0 rfl,x1.cell 1 rfl,x1.cell 2 rfl,hfW.aa hV⟩
 have HS:=Z5 hS;have hpl1:=hO1.pl;clear hS;go_wp2_with fail;go_loopw [9,10,11] (λpv av cv wr=>∃(k : Nat) (R' : La) (ap : OA) (cp : Nat) (Lk : Ll) (Pv : Lz),k<=cols/\cv = .int .i64 k/\av = .int .i64 Pv.length/\pv = .slice ap Pv.length cp /\
   Hid ((Lk,Pv)=aD O L k)/\aP wr W.heap.size a1 n c1 R' Lk/\wr.ownsRow W.heap.size 3 1 (.slice ap Pv.length cp) Pv.length (Pv.map (Value.int .i64))/\Hid (ap ≠ none->¬ bS a1 R' (aj ap)) /\
   NS W wr/\cw (e9 P m) len Lk/\Pv.length<=n) (λ_ _ cv _=>cols - (intOf cv).toNat)
 case atStart=>exact ⟨0,R1,none,0,L,[],I7 _,rfl,rfl,rfl,rfl,hO1,bX,λh=>absurd rfl h,hb1,HR.out,I7 _⟩
 case round =>
  obtain ⟨k,R',ap,cp,Lk,Pv,hkc,rfl,rfl,rfl,hst,hOr,hop,hoi,hbr,hrw,hPn⟩:=hrel
  generalize wr=V at *
  have HLkn:=Z5 hOr.ll
  by_cases hk : k<cols
  ·have hk' : decide ((k : Int)<cols)=true:=by simp;omega
   by_cases hPl : Pv.length<n
   ·have hPl' : decide ((Pv.length : Int)<n)=true:=by simp;omega
    obtain ⟨t,ht⟩ : ∃t,Pv.length=t:=⟨_,rfl⟩
    have Ht:=Z5 ht
    rw [ht] at hPl hPn hop hPl'
    rw [ht]
    clear ht
    go_wp2_with fail
    go_loop [12] (λkv=>∃j : Nat,t<=j/\j<=n/\kv = .int .i64 j/\Hid (bn Lk k t=bn Lk k j)) (λkv=>n - (intOf kv).toNat)
    case atStart=>exact ⟨t,IZ _,hPn,rfl,rfl⟩
    case round =>
     obtain ⟨j,hj1,hj2,rfl,hfr⟩:=hrel
     by_cases hjn : j<n
     ·have hLj : j<Lk.length:=by rw [HLkn.out];exact hjn
      have hrow:=hrw.row hLj
      have ci:=hOr.cell hjn
      have ri:=hOr.ints hjn
      rw [hrow.1] at ci ri
      have ck:=ri.cell k (by omega)
      have hpr:=ri.pl
      have hkl : (k : Int)<len:=by omega
      have hjn' : decide ((j : Int)<n)=true:=by simp;omega
      have hfs:=gh (c:=k) hLj
      by_cases hz : nth (an Lk j) k=0
      ·rw [I6 hz] at hfs
       have hz' : (nth (an Lk j) k == 0)=true:=by simpa using hz
       have Hf : Hid (bn Lk k t=bn Lk k (j+1)):=by show _=_;rw [hfr.out,hfs]
       clear hz hfs hrow
       go_wp2_with fail
       go_round
       case rel=>exact ⟨j+1,by omega,by omega,by go_num,Hf.out⟩
       case measure=>simp [intOf] <;> omega
      ·rw [I5 hz] at hfs
       have hz' : (nth (an Lk j) k == 0)=false:=by simpa using hz
       have Hf : Hid (bn Lk k t=j):=by show _=_;rw [hfr.out,hfs]
       have hjne : ((j : Int) == n)=false:=by simp;omega
       have Hz:=Z5 hz
       have Hrow:=Z5 hrow
       clear hz hfs hrow
       have ct:=hOr.cell hPl
       have fk:=hOr.frozen hjn
       have ft:=hOr.frozen hPl
       have k3 : (V.setCell ⟨aj a1,aL a1+t,none⟩ (.slice (aO R' j).1 len (aO R' j).2)).cell? ⟨aj a1,aL a1+j,none⟩=some (.slice (aO R' j).1 len (aO R' j).2):=by
        by_cases e : j=t
        ·subst e;exact Jk _ _ _ ct
        ·rw [Jw _ _ _ _ (by simp <;> omega)];exact ci
       have htl : t<Lk.length:=by rw [HLkn.out];exact hPl
       have hrt:=hrw.row htl
       rw [hrt.1] at ct
       have Hrt:=Z5 hrt
       clear hrt
       go_upto_region 11 with fail
       go_cut [] (λwx=>∃R2,aP wx W.heap.size a1 n c1 R2 (bh Lk t j)/\aA V wx (bS a1 R') (bS a1 R2))
       case first =>
        have hO2:=(hOr.swap hPl hjn).drew
        have hM2:=(hOr.pY hPl hjn (.slice (aO R' j).1 (an Lk j).length (aO R' j).2) (.slice (aO R' t).1 (an Lk t).length (aO R' t).2)).drew
        rw [Hrow.out.1,Hrt.out.1] at hO2 hM2
        have HO2:=Z5 (Jg hO2 hM2)
        clear hO2 hM2
        go_region
        all_goals (
         go_wp2_with fail
         go_meet
         exact ⟨_,HO2.out.1,HO2.out.2⟩)
       obtain ⟨R2,hO2,hM2⟩:=hcut
       generalize wc=U at *
       have hbU : NS W U:=hbr.trans (hM2.below (λb' hb'=>(hOr.lt b' hb').1) hbr.size)
       have hrw1:=hrw.swap htl hLj
       have hl1 : (bh Lk t j).length=n:=by rw [dJ];exact HLkn.out
       have hnz1 : nth (an (bh Lk t j) t) k ≠ 0:=by
        rw [nU _ _ _ _ htl hLj];have e : kA t j t=j:=by unfold kA;split <;> simp_all
        rw [e];exact Hz.out
       have HL1 : Hid (ed O Lk t j k=aR O t k (bm O (bh Lk t j) t k) n):=by
        show _=_;rw [gN,HLkn.out];by_cases e : j=t
        ·rw [I6 e,e,uJ]
        ·rw [I5 e]
       obtain ⟨L1,hL1⟩ : ∃L1,bh Lk t j=L1:=⟨_,rfl⟩
       rw [hL1] at hO2 hrw1 hl1 hnz1 HL1
       have hrow1:=hrw1.row (i:=t) (by omega)
       have tr:=hO2.cell hPl
       have ti:=hO2.ints hPl
       rw [hrow1.1] at tr ti
       have tc:=ti.cell k (by omega)
       have tp:=ti.pl
       have hel : e9 P m (nth (an L1 t) k):=hrow1.2 _ (aK (by rw [hrow1.1];omega))
       have hiff:=Hinv.out _ hel hnz1
       have hOinv : O.inv (nth (an L1 t) k)=gy P m mod (nth (an L1 t) k):=by rw [<- HO.out];rfl
       have HOinv:=Z5 hOinv
       have Hiff:=Z5 hiff
       have Hrow1:=Z5 hrow1
       have Hl1:=Z5 hl1
       have Hnz1:=Z5 hnz1
       have hopU:=hM2.own hop hoi.out
       have hoiU : ap ≠ none->¬ bS a1 R2 (aj ap):=λhn=>hM2.not (aM hop hn).2 (hoi.out hn)
       have HoiU:=Z5 hoiU
       obtain ⟨d0,d1,d2,hfU⟩:=HS.out U hbU
       have hBU:=hbU.size
       clear hL1 hrow1 hl1 hnz1 hiff hOinv hoiU ci ri ck hpr ct fk ft k3 hjn' hz' hop hM2 hOr
       go_upto_if 69 with fail
       go_cut [] (λwx=>∃R3,aP wx W.heap.size a1 n c1 R3 (bm O L1 t k)/\aA U wx (bS a1 R2) (bS a1 R3))
       case first =>
        by_cases hp1 : nth (an L1 t) k=1
        ·have hp1' : (nth (an L1 t) k != 1)=false:=by simp [hp1]
         have Hn : Hid (bm O L1 t k=L1):=by show _=_;rw [bm,I6 (by rw [HOinv.out];exact Hiff.out.2 hp1)]
         clear hp1
         go_wp2_with fail
         go_meet
         exact ⟨R2,by rw [Hn.out];exact hO2,Ns _ _⟩
        ·have hp1' : (nth (an L1 t) k != 1)=true:=by simpa using hp1
         obtain ⟨N,hN⟩ : ∃N,(an L1 t).map (mulR P m mod (gy P m mod (nth (an L1 t) k)))=N:=⟨_,rfl⟩
         have Hn : Hid (bm O L1 t k=L1.set t N):=by show _=_;rw [bm,I5 (by rw [HOinv.out];exact λh=>hp1 (Hiff.out.1 h)),HOinv.out,<- hN,<- HO.out];rfl
         have hQ : ∀V,NS U V->V.cell? ⟨w.heap.size,0,none⟩=some (.int .i64 P)/\V.cell? ⟨w.heap.size,1,none⟩=some (.int .i64 m)/\V.cell? ⟨w.heap.size,2,none⟩=some (.slice am mn cm) /\
           V.cell? ⟨aj a1,aL a1+t,none⟩=some (.slice (aO R2 t).1 len (aO R2 t).2)/\V.cell? ⟨aj (aO R2 t).1,aL (aO R2 t).1+k,none⟩=some (.int .i64 (nth (an L1 t) k))/\V.frozen? ⟨aj a1,aL a1+t,none⟩=false/\NS U V :=
          λV hV=>⟨aB hV d0,aB hV d1,aB hV d2,aB hV tr,aB hV tc,(hO2.aa hV).frozen hPl,hV⟩
         have HQ:=Z5 hQ
         have Hin : Hid (∀V,NS U V->Calls prog 116 #[.agg #[.int .i64 P,.int .i64 m,.slice am mn cm],.int .i64 (nth (an L1 t) k)] V λe w'=>e = .returned (.int .i64 (gy P m mod (nth (an L1 t) k)))/\NS V w') :=
          λV hV=>xR P m am mn cm mod _ V (hfU.aa hV) hel
         have Hsc : Hid (∀V,NS U V->Calls prog 232 #[.agg #[.int .i64 P,.int .i64 m,.slice am mn cm],.int .i64 (gy P m mod (nth (an L1 t) k)),.slice (aO R2 t).1 len (aO R2 t).2] V (dh V N)) :=
          λV hV=>by rw [<- hN];exact Ao P m am mn cm mod _ _ len _ _ V (hfU.aa hV) (AA hf.rf mod _) (ti.aa hV) Hrow1.out.2 hlen
         have HF : Hid (∀V5 a5 c5,V5.ownsRow U.heap.size 3 1 (.slice a5 N.length c5) N.length (N.map (Value.int .i64))->NS U V5 ->
           ∃R3,aP (V5.setCell ⟨aj a1,aL a1+t,none⟩ (.slice a5 N.length c5)) W.heap.size a1 n c1 R3 (bm O L1 t k)/\aA U (V5.setCell ⟨aj a1,aL a1+t,none⟩ (.slice a5 N.length c5)) (bS a1 R2) (bS a1 R3)) :=
          λV5 a5 c5 h1 h2=>by rw [Hn.out];exact hO2.newRow hPl h2 hBU h1
         clear hp1 hQ hN
         go_wp2_with fail
         obtain ⟨p,hp⟩ : ∃p,nth (an L1 t) k=p:=⟨_,rfl⟩
         rw [hp] at HQ Hin Hsc
         obtain ⟨iv,hiv⟩ : ∃iv,gy P m mod p=iv:=⟨_,rfl⟩
         rw [hiv] at Hin Hsc
         rw [hp] at tc
         clear hp hiv
         have hap : ∀(V : World) (v : Value),(V.setCell ⟨aj a1,aL a1+t,none⟩ v).cell? ⟨aj (aO R2 t).1,aL (aO R2 t).1+k,none⟩=V.cell? ⟨aj (aO R2 t).1,aL (aO R2 t).1+k,none⟩:=λV v=>by
          refine Jw _ _ _ _ λe=>?_;have h0 : (aO R2 t).1 ≠ none:=λh=>by have:=tp (by omega);rw [h] at this;cases this
          rcases hO2.sB t hPl with h1 | h1
          ·exact h0 h1
          ·have h2:=congrArg Addr.block e;simp at h2;first | exact h1 h2 | exact h1 h2.symm
         have Hap:=Z5 hap
         have hBa : U.heap.size<=U.heap.size:=IZ _
         have hBlk : W.heap.size<=aj a1:=(hO2.lt _ (.inl ⟨hO2.ne (by omega),rfl⟩)).1
         have HbU:=Z5 hbU
         have HX2 : Hid (∀V,NS W V->V.cell? ⟨w.heap.size,0,none⟩=some (.int .i64 P)/\V.cell? ⟨w.heap.size,1,none⟩=some (.int .i64 m)/\V.cell? ⟨w.heap.size,2,none⟩=some (.slice am mn cm)):=λV hV=>⟨(HS.out V hV).1,(HS.out V hV).2.1,(HS.out V hV).2.2.1⟩
         clear hap
         refine o4 (λV=>V.cell? ⟨w.heap.size,0,none⟩=some (.int .i64 P)/\V.cell? ⟨w.heap.size,1,none⟩=some (.int .i64 m)/\V.cell? ⟨w.heap.size,2,none⟩=some (.slice am mn cm)/\V.cell? ⟨aj a1,aL a1+t,none⟩=some (.slice (aO R2 t).1 len (aO R2 t).2)/\V.cell? ⟨aj (aO R2 t).1,aL (aO R2 t).1+k,none⟩=some (.int .i64 p)) 18 (by kernel_rfl) (by exact ⟨d0,d1,d2,tr,tc⟩) λhI=>?_
         refine aW (i:=0) (v:=?_) rfl (by decide +kernel) (by decide +kernel) (by decide +kernel) (λ_ _ _ h=>h) (JC ⟨by rfl,?_⟩) hI ?_
         rotate_left
         ·intro V hSV;(try dsimp only at hSV);obtain ⟨e0,e1,e2,e3,e4⟩:=hSV;go_simp;(try with_reducible rfl)
         clear hI;intro hI;(try simp only [Act.put,I0,I3,I4] at hI ⊢)
         refine aW (i:=1) (v:=?_) rfl (by decide +kernel) (by decide +kernel) (by decide +kernel) (λ_ _ _ h=>h) (JC ⟨by rfl,?_⟩) hI ?_
         rotate_left
         ·intro V hSV;(try dsimp only at hSV);obtain ⟨e0,e1,e2,e3,e4⟩:=hSV;go_simp;(try with_reducible rfl)
         clear hI;intro hI;(try simp only [Act.put,I0,I3,I4] at hI ⊢)
         refine aW (i:=2) (v:=?_) rfl (by decide +kernel) (by decide +kernel) (by decide +kernel) (λ_ _ _ h=>h) (JC ⟨by rfl,?_⟩) hI ?_
         rotate_left
         ·intro V hSV;(try dsimp only at hSV);obtain ⟨e0,e1,e2,e3,e4⟩:=hSV;go_simp;(try with_reducible rfl)
         clear hI;intro hI;(try simp only [Act.put,I0,I3,I4] at hI ⊢)
         refine aW (i:=3) (v:=?_) rfl (by decide +kernel) (by decide +kernel) (by decide +kernel) (λ_ _ _ h=>h) (JC ⟨by rfl,?_⟩) hI ?_
         rotate_left
         ·intro V hSV;(try dsimp only at hSV);obtain ⟨e0,e1,e2,e3,e4⟩:=hSV;go_simp;(try with_reducible rfl)
         clear hI;intro hI;(try simp only [Act.put,I0,I3,I4] at hI ⊢)
         refine aW (i:=4) (v:=?_) rfl (by decide +kernel) (by decide +kernel) (by decide +kernel) (λ_ _ _ h=>h) (JC ⟨by rfl,?_⟩) hI ?_
         rotate_left
         ·intro V hSV;(try dsimp only at hSV);obtain ⟨e0,e1,e2,e3,e4⟩:=hSV;go_simp;(try with_reducible rfl)
         clear hI;intro hI;(try simp only [Act.put,I0,I3,I4] at hI ⊢)
         refine aW (i:=5) (v:=?_) rfl (by decide +kernel) (by decide +kernel) (by decide +kernel) (λ_ _ _ h=>h) (JC ⟨by rfl,?_⟩) hI ?_
         rotate_left
         ·intro V hSV;(try dsimp only at hSV);obtain ⟨e0,e1,e2,e3,e4⟩:=hSV;go_simp;(try with_reducible rfl)
         clear hI;intro hI;(try simp only [Act.put,I0,I3,I4] at hI ⊢)
         refine aW (i:=6) (v:=?_) rfl (by decide +kernel) (by decide +kernel) (by decide +kernel) (λ_ _ _ h=>h) (JC ⟨by rfl,?_⟩) hI ?_
         rotate_left
         ·intro V hSV;(try dsimp only at hSV);obtain ⟨e0,e1,e2,e3,e4⟩:=hSV;go_simp;(try with_reducible rfl)
         clear hI;intro hI;(try simp only [Act.put,I0,I3,I4] at hI ⊢)
         refine aW (i:=7) (v:=?_) rfl (by decide +kernel) (by decide +kernel) (by decide +kernel) (λ_ _ _ h=>h) (JC ⟨by rfl,?_⟩) hI ?_
         rotate_left
         ·intro V hSV;(try dsimp only at hSV);obtain ⟨e0,e1,e2,e3,e4⟩:=hSV;go_simp;(try with_reducible rfl)
         clear hI;intro hI;(try simp only [Act.put,I0,I3,I4] at hI ⊢)
         refine aW (i:=8) (v:=?_) rfl (by decide +kernel) (by decide +kernel) (by decide +kernel) (λ_ _ _ h=>h) (JC ⟨by rfl,?_⟩) hI ?_
         rotate_left
         ·intro V hSV;(try dsimp only at hSV);obtain ⟨e0,e1,e2,e3,e4⟩:=hSV;go_simp;(try with_reducible rfl)
         clear hI;intro hI;(try simp only [Act.put,I0,I3,I4] at hI ⊢)
         refine aW (i:=9) (v:=?_) rfl (by decide +kernel) (by decide +kernel) (by decide +kernel) (λ_ _ _ h=>h) (JC ⟨by rfl,?_⟩) hI ?_
         rotate_left
         ·intro V hSV;(try dsimp only at hSV);obtain ⟨e0,e1,e2,e3,e4⟩:=hSV;go_simp;(try with_reducible rfl)
         clear hI;intro hI;(try simp only [Act.put,I0,I3,I4] at hI ⊢)
         refine aW (i:=10) (v:=?_) rfl (by decide +kernel) (by decide +kernel) (by decide +kernel) (λ_ _ _ h=>h) (JC ⟨by rfl,?_⟩) hI ?_
         rotate_left
         ·intro V hSV;(try dsimp only at hSV);obtain ⟨e0,e1,e2,e3,e4⟩:=hSV;go_simp;(try with_reducible rfl)
         clear hI;intro hI;(try simp only [Act.put,I0,I3,I4] at hI ⊢)
         refine aW (i:=12) (v:=?_) rfl (by decide +kernel) (by decide +kernel) (by decide +kernel) (λ_ _ _ h=>h) (JC ⟨by rfl,?_⟩) hI ?_
         rotate_left
         ·intro V hSV;(try dsimp only at hSV);obtain ⟨e0,e1,e2,e3,e4⟩:=hSV;go_simp;(try with_reducible rfl)
         clear hI;intro hI;(try simp only [Act.put,I0,I3,I4] at hI ⊢)
         refine aW (i:=13) (v:=?_) rfl (by decide +kernel) (by decide +kernel) (by decide +kernel) (λ_ _ _ h=>h) (JC ⟨by rfl,?_⟩) hI ?_
         rotate_left
         ·intro V hSV;(try dsimp only at hSV);obtain ⟨e0,e1,e2,e3,e4⟩:=hSV;go_simp;(try with_reducible rfl)
         clear hI;intro hI;(try simp only [Act.put,I0,I3,I4] at hI ⊢)
         refine aW (i:=14) (v:=?_) rfl (by decide +kernel) (by decide +kernel) (by decide +kernel) (λ_ _ _ h=>h) (JC ⟨by rfl,?_⟩) hI ?_
         rotate_left
         ·intro V hSV;(try dsimp only at hSV);obtain ⟨e0,e1,e2,e3,e4⟩:=hSV;go_simp;(try with_reducible rfl)
         clear hI;intro hI;(try simp only [Act.put,I0,I3,I4] at hI ⊢)
         refine aW (i:=15) (v:=?_) rfl (by decide +kernel) (by decide +kernel) (by decide +kernel) (λ_ _ _ h=>h) (JC ⟨by rfl,?_⟩) hI ?_
         rotate_left
         ·intro V hSV;(try dsimp only at hSV);obtain ⟨e0,e1,e2,e3,e4⟩:=hSV;go_simp;(try with_reducible rfl)
         clear hI;intro hI;(try simp only [Act.put,I0,I3,I4] at hI ⊢)
         refine lH (i:=11) (by decide +kernel) (by omega) hI.1 rfl (λK hK=>?_)
         go_simp
         go_at_call 116;((with_reducible refine (Hin.out _ (I1 _ _).drew).mono ?_);rintro e w4 ⟨rfl,hb4⟩;obtain ⟨q0,q1,q2,q3,q4,q5,q6⟩:=HQ.out w4 (Nh (I1 _ _).drew hb4))
         refine hK.out _ _ (by exact ⟨q0,q1,q2,q3,q4⟩) (λhI=>?_)
         clear hK K
         refine lH (i:=16) (by decide +kernel) (by omega) hI.1 rfl (λK hK=>?_)
         go_simp
         go_at_call 232;((with_reducible refine (Hsc.out _ q6).mono ?_);rintro e w5 ⟨a5,c5,rfl,hown5,hb5⟩;obtain ⟨s0,s1,s2,s3,s4,s5,s6⟩:=HQ.out w5 (Nh q6 hb5))
         refine hK.out _ _ (by exact ⟨s0,s1,s2,s3,s4⟩) (λhI=>?_)
         clear hK K
         refine aW (i:=17) (v:=?_) rfl (by decide +kernel) (by decide +kernel) (by decide +kernel) (λ_ _ _ h=>h) (JC ⟨by rfl,?_⟩) hI ?_
         rotate_left
         ·intro V hSV;(try dsimp only at hSV);obtain ⟨e0,e1,e2,e3,e4⟩:=hSV;go_simp;(try with_reducible rfl)
         clear hI;intro hI;(try simp only [Act.put,I0,I3,I4] at hI ⊢)
         refine rS (i:=18) (by decide +kernel) (by omega) (by decide +kernel) rfl (λK hK=>?_)
         go_simp
         refine hK.out _ _ ?_
         clear hK K
         have Ho5:=Z5 (aU hown5 q6.size)
         clear hown5
         go_wp2_with fail
         go_meet
         exact HF.out _ _ _ Ho5.out s6
       obtain ⟨R3,hO3,hM3⟩:=hcut
       generalize wc=T at *
       have hbT : NS W T:=hbU.trans (hM3.below (λb' hb'=>(hO2.lt b' hb').1) hbU.size)
       have hrw2:=hrw1.norm Hcl.out (t:=t) (c:=k) (by rw [Hl1.out];exact hPl) (by omega) Hnz1.out
       have hl2 : (bm O L1 t k).length=n:=by rw [cZ];exact Hl1.out
       have Hl2:=Z5 hl2
       have hopT:=hM3.own hopU HoiU.out
       have hoiT : ap ≠ none->¬ bS a1 R3 (aj ap):=λhn=>hM3.not (aM hopU hn).2 (HoiU.out hn)
       have HoiT:=Z5 hoiT
       clear hl2 hoiT tr ti tc tp hel d0 d1 d2 hfU hopU hM3
       obtain ⟨L2,hL2⟩ : ∃L2,bm O L1 t k=L2:=⟨_,rfl⟩
       rw [hL2] at hO3 hrw2 Hl2 HL1
       clear hL2
       go_wp2_with fail
       go_loopw [13] (λiv wx=>∃(i : Nat) (R4 : La),i<=n/\iv = .int .i64 i/\aP wx W.heap.size a1 n c1 R4 (aR O t k L2 i)/\aA T wx (bS a1 R3) (bS a1 R4)) (λiv _=>n - (intOf iv).toNat)
       case atStart=>exact ⟨0,R3,I7 _,rfl,hO3,Ns _ _⟩
       case round =>
        obtain ⟨i,R4,hi,rfl,hOi,hMi⟩:=hrel
        generalize wr=X at *
        have hbX : NS W X:=hbT.trans (hMi.below (λb' hb'=>(hO3.lt b' hb').1) hbT.size)
        obtain ⟨d0,d1,d2,hfX⟩:=HS.out X hbX
        by_cases hin : i<n
        ·have hrwi:=Nv Hcl.out hrw2 (t:=t) (c:=k) (by rw [Hl2.out];exact hPl) (by omega) i (by rw [Hl2.out];exact hi)
         have hli : (aR O t k L2 i).length=n:=by rw [cY];exact Hl2.out
         have hstep : aR O t k L2 (i+1)=if i=t then aR O t k L2 i else (aR O t k L2 i).set i (bY O (an (aR O t k L2 i) t) k (an (aR O t k L2 i) i)):=rfl
         have Hstep:=Z5 hstep
         obtain ⟨Li,hLi⟩ : ∃Li,aR O t k L2 i=Li:=⟨_,rfl⟩
         rw [hLi] at hrwi hli Hstep hOi
         have hri:=hrwi.row (i:=i) (by omega)
         have hrt:=hrwi.row (i:=t) (by omega)
         have ci:=hOi.cell hin
         have ct:=hOi.cell hPl
         have ii:=hOi.ints hin
         have it:=hOi.ints hPl
         rw [hri.1] at ci ii
         rw [hrt.1] at ct it
         have ck:=ii.cell k (by omega)
         have hpi:=ii.pl
         have hxel : e9 P m (nth (an Li i) k):=hri.2 _ (aK (by rw [hri.1];omega))
         have Hri:=Z5 hri
         have Hrt:=Z5 hrt
         clear hri hrt hli hstep hLi
         by_cases hit : i=t
         ·have hit' : ((i : Int) != t)=false:=by simp [hit]
          have Hn : Hid (aR O t k L2 (i+1)=Li):=by show _=_;rw [Hstep.out,I6 hit]
          clear hit
          go_wp2_with fail
          go_roundw
          case rel=>exact ⟨i+1,R4,by omega,by go_num,by rw [Hn.out];exact hOi,hMi⟩
          case measure=>simp [intOf] <;> omega
         ·have hit' : ((i : Int) != t)=true:=by simp;omega
          by_cases hx0 : nth (an Li i) k=0
          ·have hx0' : (nth (an Li i) k != 0)=false:=by simp [hx0]
           have Hn : Hid (aR O t k L2 (i+1)=Li):=by show _=_;rw [Hstep.out,I5 hit,bY,I6 hx0,jG]
           clear hit hx0
           go_wp2_with fail
           go_roundw
           case rel=>exact ⟨i+1,R4,by omega,by go_num,by rw [Hn.out];exact hOi,hMi⟩
           case measure=>simp [intOf] <;> omega
          ·have hx0' : (nth (an Li i) k != 0)=true:=by simpa using hx0
           obtain ⟨N,hN⟩ : ∃N,bP O (an Li i) (fK P m (nth (an Li i) k)) (an Li t)=N:=⟨_,rfl⟩
           have Hn : Hid (aR O t k L2 (i+1)=Li.set i N):=by show _=_;rw [Hstep.out,I5 hit,bY,I5 hx0,<- hN,<- HO.out];rfl
           have hQ : ∀V,NS X V->V.cell? ⟨w.heap.size,0,none⟩=some (.int .i64 P)/\V.cell? ⟨w.heap.size,1,none⟩=some (.int .i64 m)/\V.cell? ⟨w.heap.size,2,none⟩=some (.slice am mn cm) /\
             V.cell? ⟨aj a1,aL a1+i,none⟩=some (.slice (aO R4 i).1 len (aO R4 i).2)/\V.cell? ⟨aj a1,aL a1+t,none⟩=some (.slice (aO R4 t).1 len (aO R4 t).2)/\V.cell? ⟨aj (aO R4 i).1,aL (aO R4 i).1+k,none⟩=some (.int .i64 (nth (an Li i) k))/\V.frozen? ⟨aj a1,aL a1+i,none⟩=false/\NS X V :=
            λV hV=>⟨aB hV d0,aB hV d1,aB hV d2,aB hV ci,aB hV ct,aB hV ck,(hOi.aa hV).frozen hin,hV⟩
           have HQ:=Z5 hQ
           have Hng : Hid (∀V,NS X V->Calls prog 233 #[.agg #[.int .i64 P,.int .i64 m,.slice am mn cm],.int .i64 (nth (an Li i) k)] V λe w'=>e = .returned (.int .i64 (fK P m (nth (an Li i) k)))/\NS V w') :=
            λV hV=>DA P m am mn cm _ V hf.rf (hf.rf.jj hxel)
           have Had : Hid (∀V,NS X V->Calls prog 115 #[.agg #[.int .i64 P,.int .i64 m,.slice am mn cm],.slice (aO R4 i).1 len (aO R4 i).2,.int .i64 (fK P m (nth (an Li i) k)),.slice (aO R4 t).1 len (aO R4 t).2] V (dh V N)) :=
            λV hV=>by rw [<- hN,<- HO.out];exact mE P m am mn cm mod _ len _ _ _ _ _ _ V (hfX.aa hV) (uC hf.rf.res _) (ii.aa hV) (it.aa hV) Hri.out.2 Hrt.out.2 hlen
           have HF : Hid (∀V5 a5 c5,V5.ownsRow X.heap.size 3 1 (.slice a5 N.length c5) N.length (N.map (Value.int .i64))->NS X V5 ->
             ∃R5,aP (V5.setCell ⟨aj a1,aL a1+i,none⟩ (.slice a5 N.length c5)) W.heap.size a1 n c1 R5 (aR O t k L2 (i+1))/\aA X (V5.setCell ⟨aj a1,aL a1+i,none⟩ (.slice a5 N.length c5)) (bS a1 R4) (bS a1 R5)) :=
            λV5 a5 c5 h1 h2=>by rw [Hn.out];exact hOi.newRow hin h2 hbX.size h1
           have Hit:=Z5 hit
           clear hit hx0 hQ hN Hn
           obtain ⟨p,hp⟩ : ∃p,nth (an Li i) k=p:=⟨_,rfl⟩
           rw [hp] at HQ Hng Had ck hx0'
           obtain ⟨iv,hiv⟩ : ∃iv,fK P m p=iv:=⟨_,rfl⟩
           rw [hiv] at Hng Had
           clear hp hiv
           have hap : ∀(V : World) (v : Value),(V.setCell ⟨aj a1,aL a1+i,none⟩ v).cell? ⟨aj (aO R4 i).1,aL (aO R4 i).1+k,none⟩=V.cell? ⟨aj (aO R4 i).1,aL (aO R4 i).1+k,none⟩ /\
             (V.setCell ⟨aj a1,aL a1+i,none⟩ v).cell? ⟨aj a1,aL a1+t,none⟩=V.cell? ⟨aj a1,aL a1+t,none⟩:=λV v=>by
            refine ⟨Jw _ _ _ _ λe=>?_,Jw _ _ _ _ (by have:=Hit.out;simp <;> omega)⟩;have h0 : (aO R4 i).1 ≠ none:=λh=>by have:=hpi (by omega);rw [h] at this;cases this
            rcases hOi.sB i hin with h1 | h1
            ·exact h0 h1
            ·have h2:=congrArg Addr.block e;simp at h2;first | exact h1 h2 | exact h1 h2.symm
           have Hap:=Z5 hap
           have hBlk : W.heap.size<=aj a1:=(hOi.lt _ (.inl ⟨hOi.ne (by omega),rfl⟩)).1
           have HbX:=Z5 hbX
           have HX2 : Hid (∀V,NS W V->V.cell? ⟨w.heap.size,0,none⟩=some (.int .i64 P)/\V.cell? ⟨w.heap.size,1,none⟩=some (.int .i64 m)/\V.cell? ⟨w.heap.size,2,none⟩=some (.slice am mn cm)):=λV hV=>⟨(HS.out V hV).1,(HS.out V hV).2.1,(HS.out V hV).2.2.1⟩
           clear hap
           go_wp2_with fail
           refine o4 (λV=>V.cell? ⟨w.heap.size,0,none⟩=some (.int .i64 P)/\V.cell? ⟨w.heap.size,1,none⟩=some (.int .i64 m)/\V.cell? ⟨w.heap.size,2,none⟩=some (.slice am mn cm)/\V.cell? ⟨aj a1,aL a1+i,none⟩=some (.slice (aO R4 i).1 len (aO R4 i).2)/\V.cell? ⟨aj a1,aL a1+t,none⟩=some (.slice (aO R4 t).1 len (aO R4 t).2)/\V.cell? ⟨aj (aO R4 i).1,aL (aO R4 i).1+k,none⟩=some (.int .i64 p)) 22 (by kernel_rfl) (by exact ⟨d0,d1,d2,ci,ct,ck⟩) λhI=>?_
           refine aW (i:=0) (v:=?_) rfl (by decide +kernel) (by decide +kernel) (by decide +kernel) (λ_ _ _ h=>h) (JC ⟨by rfl,?_⟩) hI ?_
           rotate_left
           ·intro V hSV;(try dsimp only at hSV);obtain ⟨e0,e1,e2,e3,e4,e5⟩:=hSV;go_simp;(try with_reducible rfl)
           clear hI;intro hI;(try simp only [Act.put,I0,I3,I4] at hI ⊢)
           refine aW (i:=1) (v:=?_) rfl (by decide +kernel) (by decide +kernel) (by decide +kernel) (λ_ _ _ h=>h) (JC ⟨by rfl,?_⟩) hI ?_
           rotate_left
           ·intro V hSV;(try dsimp only at hSV);obtain ⟨e0,e1,e2,e3,e4,e5⟩:=hSV;go_simp;(try with_reducible rfl)
           clear hI;intro hI;(try simp only [Act.put,I0,I3,I4] at hI ⊢)
           refine aW (i:=2) (v:=?_) rfl (by decide +kernel) (by decide +kernel) (by decide +kernel) (λ_ _ _ h=>h) (JC ⟨by rfl,?_⟩) hI ?_
           rotate_left
           ·intro V hSV;(try dsimp only at hSV);obtain ⟨e0,e1,e2,e3,e4,e5⟩:=hSV;go_simp;(try with_reducible rfl)
           clear hI;intro hI;(try simp only [Act.put,I0,I3,I4] at hI ⊢)
           refine aW (i:=3) (v:=?_) rfl (by decide +kernel) (by decide +kernel) (by decide +kernel) (λ_ _ _ h=>h) (JC ⟨by rfl,?_⟩) hI ?_
           rotate_left
           ·intro V hSV;(try dsimp only at hSV);obtain ⟨e0,e1,e2,e3,e4,e5⟩:=hSV;go_simp;(try with_reducible rfl)
           clear hI;intro hI;(try simp only [Act.put,I0,I3,I4] at hI ⊢)
           refine aW (i:=4) (v:=?_) rfl (by decide +kernel) (by decide +kernel) (by decide +kernel) (λ_ _ _ h=>h) (JC ⟨by rfl,?_⟩) hI ?_
           rotate_left
           ·intro V hSV;(try dsimp only at hSV);obtain ⟨e0,e1,e2,e3,e4,e5⟩:=hSV;go_simp;(try with_reducible rfl)
           clear hI;intro hI;(try simp only [Act.put,I0,I3,I4] at hI ⊢)
           refine aW (i:=5) (v:=?_) rfl (by decide +kernel) (by decide +kernel) (by decide +kernel) (λ_ _ _ h=>h) (JC ⟨by rfl,?_⟩) hI ?_
           rotate_left
           ·intro V hSV;(try dsimp only at hSV);obtain ⟨e0,e1,e2,e3,e4,e5⟩:=hSV;go_simp;(try with_reducible rfl)
           clear hI;intro hI;(try simp only [Act.put,I0,I3,I4] at hI ⊢)
           refine aW (i:=6) (v:=?_) rfl (by decide +kernel) (by decide +kernel) (by decide +kernel) (λ_ _ _ h=>h) (JC ⟨by rfl,?_⟩) hI ?_
           rotate_left
           ·intro V hSV;(try dsimp only at hSV);obtain ⟨e0,e1,e2,e3,e4,e5⟩:=hSV;go_simp;(try with_reducible rfl)
           clear hI;intro hI;(try simp only [Act.put,I0,I3,I4] at hI ⊢)
           refine aW (i:=7) (v:=?_) rfl (by decide +kernel) (by decide +kernel) (by decide +kernel) (λ_ _ _ h=>h) (JC ⟨by rfl,?_⟩) hI ?_
           rotate_left
           ·intro V hSV;(try dsimp only at hSV);obtain ⟨e0,e1,e2,e3,e4,e5⟩:=hSV;go_simp;(try with_reducible rfl)
           clear hI;intro hI;(try simp only [Act.put,I0,I3,I4] at hI ⊢)
           refine aW (i:=8) (v:=?_) rfl (by decide +kernel) (by decide +kernel) (by decide +kernel) (λ_ _ _ h=>h) (JC ⟨by rfl,?_⟩) hI ?_
           rotate_left
           ·intro V hSV;(try dsimp only at hSV);obtain ⟨e0,e1,e2,e3,e4,e5⟩:=hSV;go_simp;(try with_reducible rfl)
           clear hI;intro hI;(try simp only [Act.put,I0,I3,I4] at hI ⊢)
           refine aW (i:=9) (v:=?_) rfl (by decide +kernel) (by decide +kernel) (by decide +kernel) (λ_ _ _ h=>h) (JC ⟨by rfl,?_⟩) hI ?_
           rotate_left
           ·intro V hSV;(try dsimp only at hSV);obtain ⟨e0,e1,e2,e3,e4,e5⟩:=hSV;go_simp;(try with_reducible rfl)
           clear hI;intro hI;(try simp only [Act.put,I0,I3,I4] at hI ⊢)
           refine aW (i:=10) (v:=?_) rfl (by decide +kernel) (by decide +kernel) (by decide +kernel) (λ_ _ _ h=>h) (JC ⟨by rfl,?_⟩) hI ?_
           rotate_left
           ·intro V hSV;(try dsimp only at hSV);obtain ⟨e0,e1,e2,e3,e4,e5⟩:=hSV;go_simp;(try with_reducible rfl)
           clear hI;intro hI;(try simp only [Act.put,I0,I3,I4] at hI ⊢)
           refine aW (i:=11) (v:=?_) rfl (by decide +kernel) (by decide +kernel) (by decide +kernel) (λ_ _ _ h=>h) (JC ⟨by rfl,?_⟩) hI ?_
           rotate_left
           ·intro V hSV;(try dsimp only at hSV);obtain ⟨e0,e1,e2,e3,e4,e5⟩:=hSV;go_simp;(try with_reducible rfl)
           clear hI;intro hI;(try simp only [Act.put,I0,I3,I4] at hI ⊢)
           refine aW (i:=12) (v:=?_) rfl (by decide +kernel) (by decide +kernel) (by decide +kernel) (λ_ _ _ h=>h) (JC ⟨by rfl,?_⟩) hI ?_
           rotate_left
           ·intro V hSV;(try dsimp only at hSV);obtain ⟨e0,e1,e2,e3,e4,e5⟩:=hSV;go_simp;(try with_reducible rfl)
           clear hI;intro hI;(try simp only [Act.put,I0,I3,I4] at hI ⊢)
           refine aW (i:=13) (v:=?_) rfl (by decide +kernel) (by decide +kernel) (by decide +kernel) (λ_ _ _ h=>h) (JC ⟨by rfl,?_⟩) hI ?_
           rotate_left
           ·intro V hSV;(try dsimp only at hSV);obtain ⟨e0,e1,e2,e3,e4,e5⟩:=hSV;go_simp;(try with_reducible rfl)
           clear hI;intro hI;(try simp only [Act.put,I0,I3,I4] at hI ⊢)
           refine aW (i:=14) (v:=?_) rfl (by decide +kernel) (by decide +kernel) (by decide +kernel) (λ_ _ _ h=>h) (JC ⟨by rfl,?_⟩) hI ?_
           rotate_left
           ·intro V hSV;(try dsimp only at hSV);obtain ⟨e0,e1,e2,e3,e4,e5⟩:=hSV;go_simp;(try with_reducible rfl)
           clear hI;intro hI;(try simp only [Act.put,I0,I3,I4] at hI ⊢)
           refine aW (i:=16) (v:=?_) rfl (by decide +kernel) (by decide +kernel) (by decide +kernel) (λ_ _ _ h=>h) (JC ⟨by rfl,?_⟩) hI ?_
           rotate_left
           ·intro V hSV;(try dsimp only at hSV);obtain ⟨e0,e1,e2,e3,e4,e5⟩:=hSV;go_simp;(try with_reducible rfl)
           clear hI;intro hI;(try simp only [Act.put,I0,I3,I4] at hI ⊢)
           refine aW (i:=17) (v:=?_) rfl (by decide +kernel) (by decide +kernel) (by decide +kernel) (λ_ _ _ h=>h) (JC ⟨by rfl,?_⟩) hI ?_
           rotate_left
           ·intro V hSV;(try dsimp only at hSV);obtain ⟨e0,e1,e2,e3,e4,e5⟩:=hSV;go_simp;(try with_reducible rfl)
           clear hI;intro hI;(try simp only [Act.put,I0,I3,I4] at hI ⊢)
           refine aW (i:=18) (v:=?_) rfl (by decide +kernel) (by decide +kernel) (by decide +kernel) (λ_ _ _ h=>h) (JC ⟨by rfl,?_⟩) hI ?_
           rotate_left
           ·intro V hSV;(try dsimp only at hSV);obtain ⟨e0,e1,e2,e3,e4,e5⟩:=hSV;go_simp;(try with_reducible rfl)
           clear hI;intro hI;(try simp only [Act.put,I0,I3,I4] at hI ⊢)
           refine aW (i:=19) (v:=?_) rfl (by decide +kernel) (by decide +kernel) (by decide +kernel) (λ_ _ _ h=>h) (JC ⟨by rfl,?_⟩) hI ?_
           rotate_left
           ·intro V hSV;(try dsimp only at hSV);obtain ⟨e0,e1,e2,e3,e4,e5⟩:=hSV;go_simp;(try with_reducible rfl)
           clear hI;intro hI;(try simp only [Act.put,I0,I3,I4] at hI ⊢)
           refine lH (i:=15) (by decide +kernel) (by omega) hI.1 rfl (λK hK=>?_)
           go_simp
           go_at_call 233;((with_reducible refine (Hng.out _ (I1 _ _).drew).mono ?_);rintro e w4 ⟨rfl,hb4⟩;obtain ⟨q0,q1,q2,q3,q4,q5,q7,q6⟩:=HQ.out w4 (Nh (I1 _ _).drew hb4))
           refine hK.out _ _ (by exact ⟨q0,q1,q2,q3,q4,q5⟩) (λhI=>?_)
           clear hK K
           refine lH (i:=20) (by decide +kernel) (by omega) hI.1 rfl (λK hK=>?_)
           go_simp
           go_at_call 115;((with_reducible refine (Had.out _ q6).mono ?_);rintro e w5 ⟨a5,c5,rfl,hown5,hb5⟩;obtain ⟨s0,s1,s2,s3,s4,s5,s7,s6⟩:=HQ.out w5 (Nh q6 hb5))
           refine hK.out _ _ (by exact ⟨s0,s1,s2,s3,s4,s5⟩) (λhI=>?_)
           clear hK K
           refine aW (i:=21) (v:=?_) rfl (by decide +kernel) (by decide +kernel) (by decide +kernel) (λ_ _ _ h=>h) (JC ⟨by rfl,?_⟩) hI ?_
           rotate_left
           ·intro V hSV;(try dsimp only at hSV);obtain ⟨e0,e1,e2,e3,e4,e5⟩:=hSV;go_simp;(try with_reducible rfl)
           clear hI;intro hI;(try simp only [Act.put,I0,I3,I4] at hI ⊢)
           refine rS (i:=22) (by decide +kernel) (by omega) (by decide +kernel) rfl (λK hK=>?_)
           go_simp
           refine hK.out _ _ ?_
           clear hK K
           have Ho5:=Z5 (aU hown5 q6.size)
           have Hs6:=Z5 s6
           clear hown5 HQ Hng Had q0 q1 q2 q3 q4 q5 q6 q7 s0 s1 s2 s3 s4 s5 s6 s7
           go_wp2_with fail
           go_roundw
           case rel =>
            obtain ⟨R5,hO5,hM5⟩:=HF.out _ _ _ Ho5.out Hs6.out
            exact ⟨i+1,R5,by omega,by go_num,hO5,hMi.trans hM5⟩
           case measure=>simp [intOf] <;> omega
        ·obtain rfl : i=n:=by omega
         have hopX:=hMi.own hopT HoiT.out
         have hoiX : ap ≠ none->¬ bS a1 R4 (aj ap):=λhn=>hMi.not (aM hopT hn).2 (HoiT.out hn)
         have HoiX:=Z5 hoiX
         have hcn:=bk X (.int .i64 k) 3
         have hbn:=aw X (.cells #[.int .i64 k] 3)
         have hsz:=hbX.size
         clear hoiX
         go_wp2_with (at_builtin;refine bg rfl _ _ 22 3 rfl (.int .i64 0) 8 underlying22 ba rfl W.heap.size ap t cp _ rfl (hopX.alloc _) ⟨X.heap.size,0,none⟩ 1 (.int .i64 k) rfl hcn rfl (by omega) (by unfold maxLen;omega) (by simp;omega) ?_;intro a3 c3 w3 hown3 hgr hap3)
         go_roundw
         case rel =>
          have hnx : aD O L (k+1)=(aR O t k L2 i,Pv ++ [(k : Int)]):=by rw [du hst.out (by rw [HLkn.out,Ht.out];exact hPl),Ht.out,I5 (by rw [Hf.out,HLkn.out];omega),Hf.out,HL1.out]
          have hne : ∀b',bS a1 R4 b'->cJ ap b':=λb' hb'=>by
           by_cases hn : ap=none
           ·exact .inl hn
           ·exact .inr λe=>HoiX.out hn (by rw [e];exact hb')
          have hOn:=hOi.aa hbn
          have hO6 : aP w3 W.heap.size a1 i c1 R4 (aR O t k L2 i):=hOn.bj λb' hb'=>hgr.block b' (hOn.lt b' hb').2 λe=>(hne b' hb').own t cp e.symm
          have hb3 : NS W w3:=Nk (Ju hbX (hbn.mono hsz)) (hopX.alloc _) hgr (IZ _) (Ji hsz hbn.size)
          have hrw3:=Nv Hcl.out hrw2 (t:=t) (c:=k) (by rw [Hl2.out];exact hPl) (by omega) i (by rw [Hl2.out];exact hi)
          have ho4 : a3 ≠ none->¬ bS a1 R4 (aj a3):=λhn hI=>by
           rcases hap3 _ (hOn.lt _ hI).2 (hne _ hI) with h1 | h1
           ·exact hn h1
           ·exact h1 rfl
          have hPl2 : (Pv ++ [(k : Int)]).length=t+1:=by rw [Jh,Ht.out];rfl
          refine ⟨k+1,R4,a3,c3,aR O t k L2 i,Pv ++ [(k : Int)],by omega,by go_num,by rw [hPl2];go_num,by rw [hPl2],hnx.symm,hO6,?_,ho4,hb3,hrw3,by rw [hPl2];omega⟩
          rw [hPl2];simpa using hown3
         case measure=>simp [intOf] <;> omega
     ·obtain rfl : j=n:=by omega
      have Hn : Hid ((Lk,Pv)=aD O L (k+1)):=by show _=_;rw [du hst.out (by rw [HLkn.out,Ht.out];exact hPl),Ht.out,I6 (by rw [hfr.out,jq (by rw [HLkn.out];exact IZ _),HLkn.out])]
      have hjj : decide ((j : Int)<j)=false:=by simp
      go_wp2_with fail
      go_roundw
      case rel=>exact ⟨k+1,R',ap,cp,Lk,Pv,by omega,by go_num,by rw [Ht.out],by rw [Ht.out],Hn.out,hOr,by rw [Ht.out];exact hop,hoi.out,hbr,hrw,by rw [Ht.out];exact hPn⟩
      case measure=>simp [intOf] <;> omega
   ·have hPe : Pv.length=n:=by omega
    have hfull : (Lk,Pv)=aD O L cols:=by rw [show cols=k+(cols - k) by omega,fu (by rw [<- hst.out,hPe,<- Hlen.out]),<- hst.out]
    have Hfull:=Z5 hfull
    have hPe' : decide ((Pv.length : Int)<n)=false:=by simp;omega
    clear hfull hPe
    go_wp2_with fail
    go_ret2
    exact Hfin.out _ _ _ _ _ _ _ _ Hfull.out (hOr.mono hbW.size) (aU hop hbW.size) (Nh hbW hbr)
  ·obtain rfl : k=cols:=by omega
   have hk' : decide ((k : Int)<k)=false:=by simp
   go_wp2_with fail
   go_ret2
   exact Hfin.out _ _ _ _ _ _ _ _ hst.out (hOr.mono hbW.size) (aU hop hbW.size) (Nh hbW hbr)
section
open Go.RowKit Go.Shelf Go.Sort
theorem u5 (a : OA) (c : Nat) (w : World) : Calls prog 195 #[.slice a 0 c,.int .i64 0,.int .i64 0] w λe w'=>e = .returned (.tuple #[])/\w'=w:=by go_enter func195,ntmps195;go_wp2_with fail;refine wp_loop_rounds 1 ?_;rw [rounds_succ];go_wp2_with fail;go_end0;exact ⟨rfl,rfl⟩
theorem DP (a : OA) (c : Nat) (w : World) : Calls prog 134 #[.slice a 0 c,.int .i64 0,.int .i64 0,.int .i64 0] w λe w'=>e = .returned (.tuple #[])/\w'=w:=by go_enter func134,ntmps134;go_wp2_with fail;refine wp_loop_rounds 1 ?_;rw [rounds_succ];go_wp2_with fail;refine (u5 a c w).mono ?_;rintro e w' ⟨rfl,rfl⟩;go_wp2_with fail;(try simp only [Exit.inBlock,Exit.then]);refine bodyPost_ret (results_none rfl _ _ _) rfl ?_;exact ⟨rfl,rfl⟩
theorem uy (w : World) : Calls prog 135 #[.int .u64 0] w λe w'=>e = .returned (.int .i64 0)/\w'=w :=
 calls_of_every_depth λD=>AnyS.bits_LenIn { Ic with } D 0 w (by omega) (by omega)
theorem Bw (a : OA) (c : Nat) (w : World) : Calls prog 70 #[.slice a 0 c] w λe w'=>e = .returned (.tuple #[])/\w'=w:=by go_enter func70,ntmps70;go_wp2_with fail;refine (uy w).mono ?_;rintro e w' ⟨rfl,rfl⟩;go_wp2_with fail;refine (DP a c w').mono ?_;rintro e w' ⟨rfl,rfl⟩;go_wp2_with fail;go_end0;exact ⟨rfl,rfl⟩
theorem pX (B : Nat) (a : OA) (n c : Nat) (l : Lz) (w : World) (hown : w.ownsRow B 3 1 (.slice a n c) n (l.map (Value.int .i64))) (hB : B<=w.heap.size) (hn : n<=1000000) :
  Calls prog 70 #[.slice a n c] w λe w'=>e = .returned (.tuple #[])/\w'.ownsRow B 3 1 (.slice a n c) n ((bA l).map (Value.int .i64))/\w.grownBy w' (Value.slice a n c).ownBlock/\Below B w w':=by
 have hl : l.length=n:=by simpa using iP hown
 have hown':=hown;rcases hown.2 with ⟨hv,hz⟩ | ⟨g,cap,cur,hv,hbase,hb,h1,h2,h3,h4⟩
 ·cases hv
  have hl0 : l=[]:=Jp hl;subst hl0;refine (Bw none 0 w).mono ?_;rintro e w' ⟨rfl,rfl⟩;exact ⟨rfl,by simpa [bA] using hown',⟨rfl,rfl,rfl,IZ _,λk _ _=>rfl⟩,I1 _ _⟩
 ·cases hv
  subst hl;have hH:=holds_of_blockI (ss:=l) hb (by simpa using h4);have hgl : g<w.heap.size:=(Array.getElem?_eq_some_iff.1 hb).1;refine (Any.slices_Sort_int Ic g 0 c l w hH hgl (by omega)).mono ?_;rintro e w' ⟨rfl,nn,os,rfl⟩;have hgr:=grownBy_sortedI (w:=w) (g:=g) (n:=nn) (os:=os) (l.mergeSort λx y=>decide (x<=y)).toArray;exact ⟨rfl,ownsRow_sortedI (by simp) hbase hb h1 h2 h3,hgr,(I1 B w).grown hgr hB (λj hj=>by cases hj;exact hbase)⟩
theorem yV (Bs : Nat) (a : OA) (len cap : Nat) (zs : Lz) (hlen : len<=1000000) (w : World) (hBs : Bs<w.heap.size) (hc : w.cell? ⟨Bs,0,none⟩=some (.slice a len cap)) (hI : Ints w a len zs) :
  Calls prog 270 #[.func (.func 277) #[] #[.pointer (some ⟨Bs,0,none⟩)]] w λe W' =>
   ∃a2 c2,e = .returned (.slice a2 len c2)/\W'.ownsRow w.heap.size 3 1 (.slice a2 len c2) len ((bA zs).map (Value.int .i64))/\NS w W':=by go_enter func270,ntmps270;go_wp2_with fail;refine (xA Bs a len cap zs hlen w hBs hc hI).mono ?_;rintro e w1 ⟨v,rfl,hown,hb⟩;obtain ⟨a2,c2,rfl,_⟩:=Nx hown;have HS:=Z5 (pX w.heap.size a2 len c2 zs w1 hown hb.size hlen);clear hown;go_wp2_with fail;refine HS.out.mono ?_;rintro e w2 ⟨rfl,hown2,_,hb2⟩;go_wp2_with fail;go_ret;exact ⟨a2,c2,rfl,hown2,hb.trans hb2⟩
end
end Go.Proofs.YtcfmiocdlcapoaaGreat
