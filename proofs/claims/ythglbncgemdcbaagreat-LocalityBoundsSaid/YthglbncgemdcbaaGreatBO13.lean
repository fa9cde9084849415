import Derived.Test.YthglbncgemdcbaaGreatBO7
import Derived.Sort.OwnSortedInts
import Derived.Test.YthglbncgemdcbaaGreatBO2
namespace Go.Proofs.YthglbncgemdcbaaGreat
set_option linter.all false
set_option maxRecDepth 100000
set_option maxHeartbeats 4000000
open Go.RowKit Go.Proofs.Tryz
theorem tU (x:Int) (w:ej):Calls prog 267 #[cG x] w λe w'=>e = .returned (.bool (x != 0))/\w=w':=by go_enter func267,ntmps267;go_wp2;go_ret;exact ⟨rfl,rfl⟩
theorem yg (a:OA) (n c:Nat) (l:Lz) (w:ej) (hi:Ints w a n l) :
  Calls prog 111 #[.slice a n c,.func (.func 267) #[] #[]] w λe w'=>e = .returned (cG (iX l))/\w=w':=by
 have Z:=Z5 hi.len;have I:=hi.pl;have S:=hi.max;unfold maxLen at S;go_enter func111,ntmps111;go_wp2_with fail;go_loop [8] (λQ=>∃k:Nat,k<=n/\Q = cG k/\Hid (∀j,j<k->nth l j=0)) (λQ=>n - (intOf Q).toNat);case atStart=>exact ⟨0,Nb _,rfl,λj G=>by omega⟩
 case round =>
  obtain ⟨k,E,rfl,Y⟩:=hrel
  by_cases X:k<n
  ·have F:=hi.cell k X
   by_cases U:nth l k=0
   ·have K:(nth l k != 0)=false:=by simpa using U
    have H:=Z5 U
    clear U
    go_wp2_with fail
    refine (tU _ _).mono ?_
    rintro e w' ⟨rfl,rfl⟩
    go_wp2_with fail
    go_round
    case rel=>exact ⟨k+1,by omega,by go_num,λj G=>by
     rcases NU j k with h | h
     ·exact Y j h
     ·rw [show j=k by omega];exact H⟩
    case measure=>simp [intOf]<;>omega
   ·have K:(nth l k != 0)=true:=by simpa using U
    have N:Hid (iX l=k):=by show _=_;have:=wU l k (by rw [Z.out];exact X) Y.out U;rw [iX,this,M7 (by rw [Z.out];exact X)]
    clear U
    go_wp2_with fail
    refine (tU _ _).mono ?_
    rintro e w' ⟨rfl,rfl⟩
    go_wp2_with fail
    go_ret
    exact ⟨aK N.symm,rfl⟩
  ·obtain rfl:k=n:=by omega
   have N:Hid (iX l = -1):=by show _=_;have:=nR l (by rw [Z.out];exact Y);rw [iX,this,M8 (by omega)]
   go_wp2_with fail
   go_ret
   exact ⟨aK N.symm,rfl⟩
theorem FI {w r:ej} {b:Nat} {G:bX} (K:Nat) (ar:OA) (cr:Nat) (R:Z4) (ap:OA) (cp:Nat) (s:BS) (av:OA) (cv n:Nat) (v:Lz)
  (h:dg r b G) (hb:SJ r w) (hB:nP w r.heap.size K b ar cr R ap cp s) (hs:s.Ok G.El n) (hv:w.ownsRow r.heap.size 3 1 (.slice av n cv) n (v.map (Value.int .i64)))
  (hav:av ≠ none->¬ sK K ar R ap (ablk av)) (hve:G.vn v) (hn:n<=1000000) (hk:s.rows.length<=1000000) :
  Calls prog 257 #[ea K 0,.slice av n cv] w (yZ r K b ar R ap av G.ops s v w):=by
 have hvl:v.length=n:=by simpa using jd hv
 have hpv:=(RW hv).1.pl;have hcl:=Sk h;have hred:=kG hcl hs.rws hs.plc ⟨hvl,hve⟩;have Hred:=Z5 hred;have Hvl:=Z5 hvl;have Hs:=Z5 hs;have Hve:=Z5 hve;have c1:=hB.c1;have hplr:=hB.om.pl;clear hred hvl hs hve;go_enter func257,ntmps257;go_wp2_with fail;obtain ⟨kk,hkk⟩:∃kk,s.rows.length=kk:=⟨_,rfl⟩
 have A:=Z5 hkk;rw [hkk] at hk hplr c1;rw [hkk];clear hkk;go_loopw [18] (λiv wr=>∃k:Nat,k<=kk/\iv = cG k/\wr.ownsRow r.heap.size 3 1 (.slice av n cv) n ((redTo G.ops s.rows s.place v k).map (Value.int .i64))/\ch av w wr) (λiv _=>kk - (intOf iv).toNat);case atStart=>exact ⟨0,Nb _,rfl,hv,Sg _ _⟩
 case round =>
  obtain ⟨k,hkk2,rfl,U,Z⟩:=hrel
  have F:=hB.only Z hav
  by_cases hlt:k<kk
  ·have hkr:k<s.rows.length:=by rw [A.out];exact hlt
   have e0:=F.c0
   have e2:=F.c2
   have er:=F.om.cell hkr
   have ir:=F.om.ints hkr
   have hrow:=Hs.rws.row hkr
   have hplc:=Hs.plc k hkr
   rw [hrow.1] at er ir
   obtain ⟨ip,mp⟩:=RW F.pl
   have ep:=ip.cell k hkr
   have hpp:=ip.pl
   rw [A.out] at e2 hpp
   obtain ⟨pn,hpn⟩:∃pn:Nat,nth s.place k=pn:=⟨(nth s.place k).toNat,by omega⟩
   rw [hpn] at ep hplc
   have hpnn:pn<n:=by omega
   have hrd:=Hred k (by omega)
   have hrd1:=Hred (k+1) (by omega)
   have hstep:redTo G.ops s.rows s.place v (k+1)=dM G.ops (redTo G.ops s.rows s.place v k) pn (aj s.rows k):=by rw [redTo,hpn]
   have Hstep:=Z5 hstep
   have C:=Z5 hrow
   have Hpn:=Z5 hpn
   clear hstep hpn
   obtain ⟨u,hu⟩:∃u,redTo G.ops s.rows s.place v k=u:=⟨_,rfl⟩
   rw [hu] at U hrd
   have Hu:=Z5 hu
   obtain ⟨iu,mu⟩:=RW U
   have eu:=iu.cell pn hpnn
   have hpu:=iu.pl
   have Q:=Z5 hrd
   clear hu hrow hrd hrd1
   by_cases hz:nth u pn=0
   ·have hz':(nth u pn != 0)=false:=by simpa using hz
    have Hn:Hid (redTo G.ops s.rows s.place v (k+1)=u):=by show _=_;rw [Hstep.out,Hu.out,dM,M9,M7 hz]
    clear hz
    go_wp2_with fail
    go_roundw
    case rel=>exact ⟨k+1,by omega,by go_num,by rw [Hn.out];exact U,Z⟩
    case measure=>simp [intOf]<;>omega
   ·have hz':(nth u pn != 0)=true:=by simpa using hz
    have Hn:Hid (redTo G.ops s.rows s.place v (k+1)=dH G.ops u (nth u pn) (aj s.rows k)):=by show _=_;rw [Hstep.out,Hu.out,dM,M9,M8 hz]
    have hxe:G.El (nth u pn):=Q.2 _ (aG (by rw [Q.1];exact hpnn))
    have hSl:(dH G.ops u (nth u pn) (aj s.rows k)).length=u.length:=ez _ _ _ _ (by rw [C.1,Q.1])
    have hSn:=λi hi=>ey G.ops u (nth u pn) (aj s.rows k) i (by rw [C.1,Q.1]) hi
    have HSl:=Z5 hSl
    have HSn:=Z5 hSn
    clear hz hSl hSn
    have hplr2:=ir.pl
    go_wp2_with fail
    generalize nth u pn=x at *
    generalize dH G.ops u x (aj s.rows k)=S at *
    go_loopw [37] (λiv wx=>∃j:Nat,j<=n/\iv = cG j/\wx.ownsRow r.heap.size 3 1 (.slice av n cv) n ((eJ S u j).map (Value.int .i64))/\ch av w wx) (λiv _=>n - (intOf iv).toNat)
    case atStart=>exact ⟨0,Nb _,rfl,by rw [dX];exact U,Z⟩
    case round =>
     obtain ⟨j,hj,rfl,H,I⟩:=hrel
     have hBx:=hB.only I hav
     have ix:=hBx.om.ints hkr
     rw [C.1] at ix
     by_cases hjn:j<n
     ·have cj:=ix.cell j hjn
      have f0:=hBx.c0
      obtain ⟨im,mm⟩:=RW H
      have cm:=im.cell j hjn
      have fm:=(mm (by omega)).2 j hjn
      have hju:j<u.length:=by rw [Q.1];exact hjn
      have hmix:=dS S u j j HSl.out (by omega)
      rw [M8 (by omega)] at hmix
      rw [hmix] at cm
      have hset:=dU S u j HSl.out hju
      rw [HSn j hju] at hset
      have Hset:=Z5 hset
      have ely:G.El (nth (aj s.rows k) j):=C.2 _ (aG (by rw [C.1];exact hjn))
      have elv:G.El (nth u j):=Q.2 _ (aG hju)
      have elm:∀x y,G.El (G.mul x y):=λx y=>Sr h x y
      have hbx:SJ r wr:=NK hb (I.below (λha=>(aP hv ha).1) hb.size)
      have hGr:dg wr b G:=h.ai hbx
      have HG:Hid (dg wr.drew b G/\∀n,dg (wr.drewN n) b G):=⟨hGr.ai (M5 _ _).drew,λn=>hGr.drewN n⟩
      clear hset hmix
      go_wp2_with fail
      go_region_law ((first
       | (go_simp;go_at_call 57;((with_reducible refine (lp x (nth (aj s.rows k) j) HG.out.1 hxe ely).mono ?_);rintro e w4 ⟨m4,rfl,rfl⟩))
       | (go_simp;go_at_call 57;((with_reducible refine (lp x (nth (aj s.rows k) j) (HG.out.2 _) hxe ely).mono ?_);rintro e w4 ⟨m4,rfl,rfl⟩))
       | (go_simp;go_at_call 199;((with_reducible refine (JR (nth u j) (G.mul x (nth (aj s.rows k) j)) (HG.out.2 _) elv (elm _ _)).mono ?_);rintro e w4 ⟨m5,rfl,rfl⟩))))
      all_goals (
       go_wp2_with fail
       go_roundw
       case rel =>
        have hdr:bm wr (wr.drewN (1+m4+m5)):=⟨_,rfl⟩
        refine ⟨j+1,by omega,by go_num,?_,I.trans ((Sc hdr).trans (Sl _ j _ (by intro e;have:=hpv (by omega);rw [e] at this;cases this)))⟩
        have h1:=bA (w:=wr.drewN (1+m4+m5)) H j hjn (cG (G.sub (nth u j) (G.mul x (nth (aj s.rows k) j))))
        rw [<- Ny,show G.sub (nth u j) (G.mul x (nth (aj s.rows k) j))=G.ops.add (nth u j) (G.ops.neg (G.ops.mul x (nth (aj s.rows k) j))) from rfl,Hset.out] at h1
        exact h1
       case measure=>simp [intOf]<;>omega)
     ·obtain rfl:j=n:=by omega
      rw [eD S u j (by rw [HSl.out,Q.1]) Q.1] at H
      go_wp2_with fail
      go_roundw
      case rel=>exact ⟨k+1,by omega,by go_num,by rw [Hn.out];exact H,I⟩
      case measure=>simp [intOf]<;>omega
  ·obtain rfl:k=kk:=by omega
   have hrd:=Hred k (by rw [A.out];exact M4 _)
   have hurd:redTo G.ops s.rows s.place v k=s.red G.ops v:=by rw [BS.red,A.out]
   rw [hurd] at U hrd
   obtain ⟨iu,mu⟩:=RW U
   have Q:=Z5 hrd
   clear hurd hrd
   go_wp2_with fail
   refine (yg _ _ _ _ _ iu).mono ?_
   rintro e w' ⟨rfl,rfl⟩
   by_cases hf:fnz (s.red G.ops v)<(s.red G.ops v).length
   ·have hfv:iX (s.red G.ops v)=fnz (s.red G.ops v):=by rw [iX,M7 hf]
    have hfn:=j5 _ hf
    have Ht:Hid (s.ei G.ops v=true):=by show _=_;simpa [BS.ei] using hf
    have HN:Hid (s.next G.ops v=⟨s.rows ++ [(s.red G.ops v).map (G.mul (G.inv (nth (s.red G.ops v) (fnz (s.red G.ops v)))))],s.place ++ [(fnz (s.red G.ops v):Int)]⟩):=by show _=_;rw [BS.next,M7 Ht.out];rfl
    rw [hfv]
    obtain ⟨u,hu⟩:∃u,s.red G.ops v=u:=⟨_,rfl⟩
    rw [hu] at U Q hf hfn iu HN
    rw [hu]
    clear hu hfv
    obtain ⟨f,hff⟩:∃f,fnz u=f:=⟨_,rfl⟩
    rw [hff] at hf hfn HN
    rw [hff]
    have hfn':f<n:=by rw [<- Q.1];exact hf
    have e0:=F.c0
    have eu:=iu.cell f hfn'
    have hpu:=iu.pl
    have elf:G.El (nth u f):=Q.2 _ (aG hf)
    have hbx:SJ r wr:=NK hb (Z.below (λha=>(aP hv ha).1) hb.size)
    have hGr:dg wr b G:=h.ai hbx
    have HG:Hid (dg wr.drew b G/\∀n,dg (wr.drewN n) b G):=⟨hGr.ai (M5 _ _).drew,λn=>hGr.drewN n⟩
    have Hfn:=Z5 hfn
    have Hf:=Z5 hf
    clear hff hfn hf
    go_upto_region 15 with fail
    go_cut [11] (λdv wx=>dv = cG (G.inv (nth u f))/\bm wr wx)
    case first =>
     go_region_held3 (λw'=>w'.cell? ⟨K,0,none⟩=some (ea b 0)/\w'.cell? ⟨ablk av,aN av+f,none⟩=some (cG (nth u f)))
      (exact ⟨e0,eu⟩)
      (first
      | (go_at_call 201;((with_reducible refine (Af _ HG.out.1 elf Hfn.out).mono ?_);rintro e w4 ⟨m4,rfl,rfl⟩)))
     all_goals (
      go_step;go_step
      go_meet
      exact ⟨rfl,⟨_,rfl⟩⟩)
    obtain ⟨rfl,hdr⟩:=hcut
    generalize wc=V at *
    have Y:nP V r.heap.size K b ar cr R ap cp s:=F.ai hdr.below
    have hownV:=bj U hdr.below
    have hbV:SJ r V:=hdr.tO hbx
    have D:ch av w V:=Z.trans (Sc hdr)
    clear F U hbx hGr HG e0 eu iu mu hdr Z
    obtain ⟨iu,mu⟩:=RW hownV
    have HGV:Hid (dg V.drew b G/\∀n,dg (V.drewN n) b G):=⟨(h.ai hbV).ai (M5 _ _).drew,λn=>(h.ai hbV).drewN n⟩
    have hiel:G.El (G.inv (nth u f)):=SA h _
    have e0:=Y.c0
    have e1:=Y.c1
    have f1:=Y.fr 1
    have hS:∀W,SJ V W->W.cell? ⟨K,0,none⟩=some (ea b 0)/\W.cell? ⟨K,1,none⟩=some (.slice ar s.rows.length cr)/\W.frozen? ⟨K,1,none⟩=false/\SJ V W:=by intro W hW;have hBW:=Y.ai hW;exact ⟨hBW.c0,hBW.c1,hBW.fr 1,hW⟩
    have HS:=Z5 hS
    have haptb:dq ar K:=by
     by_cases ha:ar=none
     ·exact .inl ha
     ·exact .inr λe=>Y.d1 (.inl ⟨ha,e.symm⟩)
    have hR:∀W,SJ V W->W.ownsRow r.heap.size 22 1 (.slice ar k cr) k (List.zipWith jD R s.rows):=λW hW=>by have:=(Y.om.ai hW).own;rwa [A.out] at this
    have HR:=Z5 hR
    obtain ⟨N,hN⟩:∃N,u.map (G.mul (G.inv (nth u f)))=N:=⟨_,rfl⟩
    have hsc:Calls prog 66 #[ea b 0,cG (G.inv (nth u f)),.slice av n cv] V.drew (cR V.drew N):=by rw [<- hN];exact pK (G.inv (nth u f)) _ _ _ u HGV.1 hiel (iu.ai (M5 _ _).drew) Q.2 hn
    have Hsc:=Z5 hsc
    have HNe:=Z5 hN
    rw [hN] at HN
    clear hN hsc
    clear hS hR
    go_upto_region 16 with fail
    go_cut [] (λwx=>∃z cr' R',wx.cell? ⟨K,1,none⟩=some (.slice z (k+1) cr')/\aS wx r.heap.size z (k+1) cr' R' (s.rows ++ [N]) /\
     aB V wx (λx=>x=K\/bN ar R x) (λx=>x=K\/bN z R' x)/\¬ bN z R' K /\
     (∀i v,i ≠ 1->V.cell? ⟨K,i,none⟩=some v->wx.cell? ⟨K,i,none⟩=some v)/\∀i,wx.frozen? ⟨K,i,none⟩=false)
    case first =>
     rw [A.out] at e1 HS
     go_region_law ((first
      | (go_simp;go_at_call 66;((with_reducible refine Hsc.out.mono ?_);rintro e w4 ⟨a4,c4,rfl,hown4,hb4⟩;obtain ⟨q0,q1,q2,q5⟩:=HS.out w4 (RU (M5 _ _).drew hb4);have q6:K<w4.heap.size:=Nf w4 _ q0))
      | (refine gB (by rfl) (.tmp 83) (.tmp 91) 25 22 (by rfl) ds 24 underlying25 ed (by rfl) r.heap.size ar k cr (List.zipWith jD R s.rows) (by rfl) (HR _ (RU q5 (aD _ _))) (some ⟨w4.heap.size,0,none⟩) 1 1 [.slice a4 N.length c4] (by rfl) (λ_=>rfl) rfl (by intro j hj;obtain rfl:j=0:=(by omega);exact dB _ _ _ rfl) (by intro y hy;simp at hy;subst hy;rfl) (by omega) (by unfold maxLen;omega) (by have e1:=hbV.size;have e2:=OR q5;simp;omega) ?_;intro a5 c5 w5 hown5 hgr5 hap5;have p1:=bG hgr5 (aU q1 _) haptb;have p2:w5.frozen? ⟨K,1,none⟩=false:=(NI (hgr5.block K (Nf _ _ (aU q1 _)) (λe=>haptb.own k cr e.symm))).trans (dA (Nf _ _ q1) q2 _))))
     all_goals (
      go_wp2_with fail
      go_meet
      exact Y.IA A.out hbV.size (RU (M5 _ _).drew hb4) hown4 hown5 hgr5 hap5 ⟨_,p1⟩)
    obtain ⟨z,cr',R',y1,hOX,E,hdX,hcX,hfX⟩:=hcut
    generalize wc=X at *
    have y0:=hcX 0 _ (by omega) e0
    have y2:=hcX 2 _ (by omega) Y.c2
    have yf:=hfX 2
    have hnI:ap ≠ none->¬ (ablk ap=K\/bN ar R (ablk ap)):=λh0 hI=>by
     rcases hI with h1 | h1
     ·rcases Y.d2 with h2 | h2
      ·exact h0 h2
      ·exact h2 h1
     ·exact Y.d3 h0 h1
    have hpX:=E.own Y.pl hnI
    have hd3:ap ≠ none->¬ bN z R' (ablk ap):=λh0 hI=>E.not (aP Y.pl h0).2 (hnI h0) (.inr hI)
    rw [A.out] at y2 hpX
    have hbX:SJ r X:=hbV.trans (E.below (λx hx=>(Y.lt x (by rcases hx with h1 | h1;exact .inl h1;exact .inr (.inl h1))).1) hbV.size)
    have hz:K<X.heap.size:=Nf X _ y0
    have HfX:=Z5 hfX
    have Hd3:=Z5 hd3
    have HdX:=Z5 hdX
    have hd2:=Y.d2
    have hbB:=Y.bB
    have hcn:=bh X (cG f) 3
    clear hcX hfX hd3 hdX e0 e1 f1
    go_wp2_with (at_builtin;refine bd rfl _ _ 22 3 rfl (cG 0) 8 underlying22 br rfl r.heap.size ap k cp _ rfl (hpX.alloc _) ⟨X.heap.size,0,none⟩ 1 (cG f) rfl hcn rfl (by omega) (by unfold maxLen;omega) (by have e1:=hbX.size;simp;omega) ?_;intro a6 c6 w6 hown6 hgr6 hap6;have p1:=bG hgr6 (aU y2 _) hd2;have p2:w6.frozen? ⟨K,2,none⟩=false:=(NI (hgr6.block K (Nf _ _ (aU y2 _)) (λe=>hd2.own k cp e.symm))).trans (dA hz yf _))
    have hP:=nP.GW (w6:=w6) hbB y0 y1 ⟨_,y2⟩ HfX.out hOX hpX HdX.out hd2 Hd3.out hown6 hgr6 hap6
    have HP:=Z5 hP
    clear hP
    go_ret
    refine ⟨z,cr',R',a6,c6,ba Ht.symm,by rw [HN.out];exact HP.1,?_⟩
    refine Sj (w':=V) (I':=λx=>sK K ar R ap x\/(av ≠ none/\x=ablk av)) ?_ (Sj (w':=X) (I':=sK K z R' ap) ?_ HP.2)
    ·exact ⟨D.os,D.tape,D.output,D.size,λx hx hI=>D.block x hx λh2=>hI (.inr h2),λx hx=>.inl hx⟩
    ·refine ⟨E.os,E.tape,E.output,E.size,λx hx hI=>E.block x hx λh2=>hI (.inl (by rcases h2 with h3 | h3;exact .inl h3;exact .inr (.inl h3))),λx hx=>?_⟩
     rcases hx with h1 | h1 | h1
     ·exact .inl (.inl (.inl h1))
     ·rcases E.grow x (.inr h1) with h2 | h2
      ·exact .inl (.inl (by rcases h2 with h3 | h3;exact .inl h3;exact .inr (.inl h3)))
      ·exact .inr h2
     ·exact .inl (.inl (.inr (.inr h1)))
   ·have hfv:iX (s.red G.ops v) = -1:=by rw [iX,M8 hf]
    rw [hfv]
    have Ht:Hid (s.ei G.ops v=false):=by show _=_;simp [BS.ei];omega
    have HN:Hid (s.next G.ops v=s):=by show _=_;rw [BS.next,M8 (by rw [Ht.out];simp)]
    clear hf hfv
    go_wp2_with fail
    go_ret
    refine ⟨ar,cr,R,ap,cp,ba Ht.symm,by rw [HN.out];exact F,?_⟩
    exact ⟨Z.os,Z.tape,Z.output,Z.size,λx hx hI=>Z.block x hx λh2=>hI (.inr h2),λx hx=>.inl (.inl hx)⟩
def bF (l:Lz):Lz:=l.mergeSort λx y=>decide (x<=y)
theorem cB (l:Lz):(bF l).Perm l:=List.mergeSort_perm l _
theorem fb (l:Lz):(bF l).length=l.length:=(cB l).length_eq
theorem tR (l:Lz):(bF l).Pairwise λx y=>x<=y:=by have h:=List.pairwise_mergeSort (le:=λx y:Int=>decide (x<=y)) (λa b c h1 h2=>by simp at *;omega) (λa b=>by simp;omega) l;exact h.imp λh=>by simpa using h
theorem lX:∀ {l Z:Lz},l.Pairwise (λx y=>x<=y)->Z.Pairwise (λx y=>x<=y)->l.Perm Z->l=Z
 | [],Z,_,_,h=>by rw [List.nil_perm] at h;exact h.symm
 | x :: l,[],_,_,h=>by rw [List.perm_nil] at h;exact h
 | x :: l,y :: Z,h1,h2,h=>by
  rw [Pg] at h1 h2;have Y:x ∈ y :: Z:=h.subset (Og ..);have hy:y ∈ x :: l:=h.symm.subset (Og ..);have e:x=y:=by
   rcases List.mem_cons.1 Y with e | Y
   ·exact e
   ·rcases List.mem_cons.1 hy with e | hy
    ·exact e.symm
    ·have:=h1.1 y hy;have:=h2.1 x Y;omega
  subst e;rw [lX h1.2 h2.2 (List.Perm.cons_inv h)]
theorem oc {l Z:Lz} (h:Z.Pairwise λx y=>x<=y) (Y:Z.Perm l):Z=bF l:=lX h (tR l) (Y.trans (cB l).symm)
theorem uK {l:Lz} (h:∀i j,i<j->j<l.length->nth l i ≠ nth l j):l.Nodup:=by unfold List.Nodup;rw [O3];intro i j hi Y Z;have:=h i j Z Y;rwa [an hi,an Y] at this
theorem Bp {m:Int} {l:Lz} (Z:l.Nodup) (hb:∀x ∈ l,0<=x/\x<m):dZ m (bF l)=true:=by
 have h1:=tR l;have h2:(bF l).Nodup:=(cB l).nodup_iff.2 Z;have h3:∀x ∈ bF l,0<=x/\x<m:=λx Y=>hb x ((cB l).subset Y);rw [O3] at h1;unfold List.Nodup at h2;rw [O3] at h2;have key:∀k,(∀i,i<k->jE m (bF l) i=true)->qZ m (bF l) k=true:=λk=>by
  induction k with
  | zero=>intro _;rfl
  | succ k X=>intro h;exact ke (X λi hi=>h i (by omega)) (h k (by omega))
 unfold dZ;refine key _ λi hi=>?_;have h4:=h3 _ (NL hi);unfold jE;rw [an hi];by_cases h0:i=0
 ·simp [h0] at h4 ⊢;omega
 ·have h5:=h1 (i - 1) i (by omega) hi (by omega);have U:=h2 (i - 1) i (by omega) hi (by omega);rw [an (show i - 1<(bF l).length by omega)];simp;omega
section
open Go.RowKit Go.Shelf Go.Sort
theorem xF (a:OA) (c:Nat) (w:ej):Calls prog 166 #[.slice a 0 c,cG 0,cG 0] w λe w'=>e = .returned (.tuple #[])/\w'=w:=by go_enter func166,ntmps166;go_wp2_with fail;refine wp_loop_rounds 1 ?_;rw [rounds_succ];go_wp2_with fail;go_end0;exact ⟨rfl,rfl⟩
theorem I5 (a:OA) (c:Nat) (w:ej):Calls prog 116 #[.slice a 0 c,cG 0,cG 0,cG 0] w λe w'=>e = .returned (.tuple #[])/\w'=w:=by go_enter func116,ntmps116;go_wp2_with fail;refine wp_loop_rounds 1 ?_;rw [rounds_succ];go_wp2_with fail;refine (xF a c w).mono ?_;rintro e w' ⟨rfl,rfl⟩;go_wp2_with fail;(try simp only [Exit.inBlock,Exit.then]);refine bodyPost_ret (results_none rfl _ _ _) rfl ?_;exact ⟨rfl,rfl⟩
theorem xh (w:ej):Calls prog 117 #[.int .u64 0] w λe w'=>e = .returned (cG 0)/\w'=w :=
 calls_of_every_depth λD=>AnyS.bits_LenIn { Mr with } D 0 w (by omega) (by omega)
theorem FJ (a:OA) (c:Nat) (w:ej):Calls prog 67 #[.slice a 0 c] w λe w'=>e = .returned (.tuple #[])/\w'=w:=by go_enter func67,ntmps67;go_wp2_with fail;refine (xh w).mono ?_;rintro e w' ⟨rfl,rfl⟩;go_wp2_with fail;refine (I5 a c w').mono ?_;rintro e w' ⟨rfl,rfl⟩;go_wp2_with fail;go_end0;exact ⟨rfl,rfl⟩
theorem oo (B:Nat) (a:OA) (n c:Nat) (l:Lz) (w:ej) (Y:w.ownsRow B 3 1 (.slice a n c) n (l.map (Value.int .i64))) (H:B<=w.heap.size) (E:n<=1000000) :
  Calls prog 67 #[.slice a n c] w λe w'=>e = .returned (.tuple #[])/\w'.ownsRow B 3 1 (.slice a n c) n ((bF l).map (Value.int .i64))/\w.grownBy w' (Value.slice a n c).ownBlock/\Below B w w':=by
 have K:l.length=n:=by simpa using jd Y
 have X:=Y;rcases Y.2 with ⟨S,D⟩ | ⟨g,cap,cur,S,Z,hb,h1,h2,h3,h4⟩
 ·cases S
  have Q:l=[]:=NF K;subst Q;refine (FJ none 0 w).mono ?_;rintro e w' ⟨rfl,rfl⟩;exact ⟨rfl,by simpa [bF] using X,⟨rfl,rfl,rfl,M4 _,λk _ _=>rfl⟩,M5 _ _⟩
 ·cases S
  subst K;have G:=holds_of_blockI (ss:=l) hb (by simpa using h4);have N:g<w.heap.size:=(Array.getElem?_eq_some_iff.1 hb).1;refine (Any.slices_Sort_int Mr g 0 c l w G N (by omega)).mono ?_;rintro e w' ⟨rfl,I,os,rfl⟩;have U:=grownBy_sortedI (w:=w) (g:=g) (n:=I) (os:=os) (l.mergeSort λx y=>decide (x<=y)).toArray;exact ⟨rfl,ownsRow_sortedI (by simp) Z hb h1 h2 h3,U,(M5 B w).grown U H (λj F=>by cases F;exact Z)⟩
theorem BJ (U:Nat) (a:OA) (len cap:Nat) (X:Lz) (hlen:len<=1000000) (w:ej) (Q:U<w.heap.size) (H:w.cell? ⟨U,0,none⟩=some (.slice a len cap)) (hI:Ints w a len X) :
  Calls prog 259 #[.func (.func 269) #[] #[ea U 0]] w λe N =>
   ∃a2 c2,e = .returned (.slice a2 len c2)/\N.ownsRow w.heap.size 3 1 (.slice a2 len c2) len ((bF X).map (Value.int .i64))/\SJ w N:=by go_enter func259,ntmps259;go_wp2_with fail;refine (AR U a len cap X hlen w Q H hI).mono ?_;rintro e K ⟨v,rfl,Z,hb⟩;obtain ⟨a2,c2,rfl,_⟩:=Sf Z;have I:=Z5 (oo w.heap.size a2 len c2 X K Z hb.size hlen);clear Z;go_wp2_with fail;refine I.mono ?_;rintro e G ⟨rfl,Y,_,S⟩;go_wp2_with fail;go_ret;exact ⟨a2,c2,rfl,Y,hb.trans S⟩
end
section
theorem aS.setOther {w:ej} {B:Nat} {a:OA} {n c:Nat} {R:Z4} {L:ZZ} (h:aS w B a n c R L) {p:Addr} (Z:p.block<B) (v:Value):aS (w.setCell p v) B a n c R L :=
 h.bf λb hb=>Nt _ _ _ _ (by have:=(h.lt b hb).1;omega)
structure jF (w:ej) (g:Nat) (x:Value) (a:OA) (k c:Nat) (R:Z4) (L:ZZ):Prop where
 lt:g<w.heap.size
 c0:w.cell? ⟨g,0,none⟩=some x
 c1:w.cell? ⟨g,1,none⟩=some (.slice a k c)
 fr:∀i,w.frozen? ⟨g,i,none⟩=false
 om:aS w (g+1) a k c R L
namespace jF
variable {w w' w4 w5:ej} {g:Nat} {x:Value} {a:OA} {k c:Nat} {R:Z4} {L:ZZ}
theorem ai (h:jF w g x a k c R L) (hb:SJ w w'):jF w' g x a k c R L :=
 ⟨Nz h.lt hb.size,aC hb h.c0,aC hb h.c1,λi=>dR hb h.lt (h.fr i),h.om.ai hb⟩
theorem ue (h:jF w g x a k c R L):dq a g:=by
 by_cases ha:a=none
 ·exact .inl ha
 ·exact .inr λe=>by have:=(aP h.om.own ha).1;omega
theorem lO {o:Obj} (h:jF w4 g x a k c R L) (Z:(w4.alloc o).grownBy w5 (Value.slice a k c).ownBlock):w5.cell? ⟨g,0,none⟩=some x/\w5.cell? ⟨g,1,none⟩=some (.slice a k c)/\w5.frozen? ⟨g,1,none⟩=false:=by
 have Y:=aD w4 o;have X:=h.lt;have U:=Y.size;exact ⟨bG Z (aU h.c0 o) h.ue,bG Z (aU h.c1 o) h.ue,
  (NI (w:=w4.alloc o) (a:=⟨g,1,none⟩) (Z.block g (by omega) λe=>h.ue.own k c e.symm)).trans (dA h.lt (h.fr 1) _)⟩
theorem push {a4 a5:OA} {K c4 I:Nat} {N:Lz} {o:Obj} (h:jF w4 g x a k c R L) (G:N.length=K)
  (X:w4.ownsRow (g+1) 3 1 (.slice a4 K c4) K (N.map (Value.int .i64))) (H:a4 ≠ none->¬ bN a R (ablk a4))
  (U:w5.ownsRow (g+1) 22 1 (.slice a5 (k+1) I) (k+1) (List.zipWith jD R L ++ [.slice a4 K c4])) (Z:(w4.alloc o).grownBy w5 (Value.slice a k c).ownBlock)
  (S:∀x,x<(w4.alloc o).heap.size->dq a x->dq a5 x) :
  jF (w5.setCell ⟨g,1,none⟩ (.slice a5 (k+1) I)) g x a5 (k+1) I (R ++ [(a4,c4)]) (L ++ [N])/\Below g w4 (w5.setCell ⟨g,1,none⟩ (.slice a5 (k+1) I)):=by
 subst G;have Y:=aD w4 o;have F:=h.om.ai Y;have r:=bj X Y;have C:=Ss F r H U Z S;have z:=h.lt;have A:=Y.size;have Q:Below (g+1) w4 w5:=RY (Y.mono (by omega)) F.own Z (M4 _) (by omega);have j:=Q.size;have D:=bG Z (aU h.c0 o) h.ue;have E:=bG Z (aU h.c1 o) h.ue;refine ⟨⟨by simp;omega,?_,Ns _ _ _ E,λi=>?_,C.setOther (by simp) _⟩,(Q.mono (by omega)).setCell (by simp) _⟩
 ·rw [Nr _ _ _ _ (by simp)];exact D
 ·rw [NY];exact (NI (w:=w4.alloc o) (a:=⟨g,i,none⟩) (Z.block g (by omega) λe=>h.ue.own k c e.symm)).trans (dA h.lt (h.fr i) _)
theorem start {U:ej} {g:Nat} {x:Value} (Z:aQ U g [x,ds]):jF U g x none 0 0 [] [] :=
 ⟨Z.1,Z.cell 0 rfl,Z.cell 1 rfl,Z.frozen,SB _ _⟩
end jF
end
section
variable {O:aL} {El:Int->Prop}
def iU (O:aL):Lz->Int->Int
 | [],_=>0
 | c :: a,x=>O.add c (O.mul x (iU O a x))
def quoP (O:aL) (s:Int):Lz->Lz
 | []=>[]
 | [_]=>[]
 | _ :: d :: a=>iU O (d :: a) s :: quoP O s (d :: a)
theorem lV (F:bQ O El) {x:Int} (Z:El x):∀ {a:Lz},(∀c ∈ a,El c)->El (iU O a x)
 | [],_=>F.zero
 | c :: a,h=>F.cl.add _ _ (h c (by simp)) (F.cl.mul _ _ Z (lV F Z λy hy=>h y (NC _ hy)))
theorem zI (O:aL) (s:Int):∀a:Lz,(quoP O s a).length=a.length - 1
 | []=>rfl
 | [_]=>rfl
 | _ :: d :: a=>by rw [quoP,NO,zI O s (d :: a)];simp
theorem rK (F:bQ O El) {s:Int} (Y:El s):∀ {a:Lz},(∀c ∈ a,El c)->∀c ∈ quoP O s a,El c
 | [],_,c,Z=>by simp [quoP] at Z
 | [_],_,c,Z=>by simp [quoP] at Z
 | b :: d :: a,h,c,Z=>by
  rw [quoP] at Z;rcases List.mem_cons.1 Z with rfl | Z
  ·exact lV F Y λy hy=>h y (NC _ hy)
  ·exact rK F Y (λy hy=>h y (NC _ hy)) c Z
theorem De (F:bQ O El) {c x:Int} (Y:El c) (Z:El x):iU O [c] x=c:=by show O.add c (O.mul x 0)=c;rw [F.df Z,F.add_zero _ Y]
theorem D3 (F:bQ O El) {s x:Int} (N:El s) (U:El x):∀ {a:Lz},(∀c ∈ a,El c)->iU O a x=O.add (O.mul (O.add x (O.neg s)) (iU O (quoP O s a) x)) (iU O a s)
 | [],_=>by show (0:Int)=O.add (O.mul _ 0) 0;rw [F.df (F.cl.add _ _ U (F.cl.neg _ N)),F.add_zero _ F.zero]
 | [c],h=>by have I:=h c (by simp);rw [De F I U,De F I N];show c=O.add (O.mul _ 0) c;rw [F.df (F.cl.add _ _ U (F.cl.neg _ N)),F.ui I]
 | c :: d :: a,h=>by
  have I:=h c (by simp);have ha:∀y ∈ d :: a,El y:=λy hy=>h y (NC _ hy);have ih:=D3 F N U ha;have Z:=lV F N ha;have hAx:=lV F U ha;have G:=lV F U (rK F N ha);have Y:=F.cl.add _ _ U (F.cl.neg _ N);have e1:iU O (c :: d :: a) x=O.add c (O.mul x (iU O (d :: a) x)):=rfl;have e:iU O (c :: d :: a) s=O.add c (O.mul s (iU O (d :: a) s)):=rfl;have r:iU O (quoP O s (c :: d :: a)) x=O.add (iU O (d :: a) s) (O.mul x (iU O (quoP O s (d :: a)) x)):=rfl;rw [e1,e,r];generalize iU O (d :: a) s=A at *;generalize iU O (d :: a) x=B at *;generalize iU O (quoP O s (d :: a)) x=Q at *;generalize j:O.add x (O.neg s)=D at *;have E:x=O.add D s:=by rw [<- j,F.add_assoc _ _ _ U (F.cl.neg _ N) N,F.po N,F.add_zero _ U]
  have S:=F.cl.mul _ _ Y Z;have K:=F.cl.mul _ _ N Z;have H:=F.cl.mul _ _ U G;have X:=F.cl.mul _ _ Y H;have hxA:=F.cl.mul _ _ U Z;have C:=F.cl.mul _ _ Y G;have f1:O.mul x B=O.add (O.mul D (O.mul x Q)) (O.mul x A):=by rw [ih,F.mul_add _ _ _ U C Z,<- F.mul_assoc _ _ _ U Y G,F.mul_comm _ _ U Y,F.mul_assoc _ _ _ Y U G]
  have f2:O.mul x A=O.add (O.mul D A) (O.mul s A):=by rw [F.mul_comm _ _ U Z,F.mul_comm _ _ Y Z,F.mul_comm _ _ N Z,<- F.mul_add _ _ _ Z Y N,<- E]
  rw [f1,f2,F.mul_add _ _ _ Y Z H];generalize O.mul D A=u at *;generalize O.mul s A=v at *;generalize O.mul D (O.mul x Q)=z at *;rw [F.add_comm _ _ S X,F.add_assoc _ _ _ X S (F.cl.add _ _ I K),<- F.add_assoc _ _ _ I X (F.cl.add _ _ S K),F.add_comm _ _ I X,F.add_assoc _ _ _ X I (F.cl.add _ _ S K),<- F.add_assoc _ _ _ I S K,F.add_comm _ _ I S,F.add_assoc _ _ _ S I K]
theorem kA (F:bQ O El) {s:Int} (Z:El s):∀ {l:Lz},(∀y ∈ l,y=0)->iU O l s=0
 | [],_=>rfl
 | y :: l,h=>by show O.add y (O.mul s (iU O l s))=0;rw [kA F Z λz Y=>h z (NC _ Y),h y (by simp),F.df Z,F.add_zero _ F.zero]
theorem vJ (F:bQ O El) {s:Int} (Y:El s):∀ {c:Int} {a:Lz},(∀y ∈ a,El y)->(∀y ∈ quoP O s (c :: a),y=0)->∀y ∈ a,y=0
 | c,[],_,_=>by simp
 | c,d :: a,h,Z=>by
  rw [quoP] at Z;have hd:=h d (by simp);have ha:∀y ∈ a,El y:=λy hy=>h y (NC _ hy);have h1:=vJ F Y ha λy hy=>Z y (NC _ hy);have h2:iU O (d :: a) s=0:=Z _ (by simp);have h3:d=0:=by have e:iU O (d :: a) s=O.add d (O.mul s (iU O a s)):=rfl;rw [e,kA F Y h1,F.df Y,F.add_zero _ hd] at h2;exact h2
  intro y hy;rcases List.mem_cons.1 hy with rfl | hy
  ·exact h3
  ·exact h1 y hy
theorem kZ (F:bQ O El):∀ {X a:Lz},X.Nodup->(∀x ∈ X,El x)->(∀c ∈ a,El c)->(∀x ∈ X,iU O a x=0)->a.length<=X.length->∀c ∈ a,c=0
 | [],a,_,_,_,_,Q=>by have e:a=[]:=NF (by simpa using Q);subst e;simp
 | s :: X,[],_,_,_,_,_=>by simp
 | s :: X,c :: a,K,I,ha,h0,Q=>by
  have Y:=I s (by simp);have U:∀x ∈ X,El x:=λx S=>I x (NC _ S);have h1:=kZ F (X:=X) (a:=quoP O s (c :: a)) (List.nodup_cons.1 K).2 U (rK F Y ha) (λx S=>by
   have Z:=U x S;have h2:=D3 F Y Z ha;rw [h0 x (NC _ S),h0 s (by simp)] at h2;have H:=F.cl.add _ _ Z (F.cl.neg _ Y);have N:=lV F Z (rK F Y ha);rw [F.add_zero _ (F.cl.mul _ _ H N)] at h2;refine F.nE H N (λe=>(List.nodup_cons.1 K).1 ?_) h2.symm;have h3:x=s:=by
    have h4:=F.l8 Z (F.cl.neg _ Y) e;have h5:O.neg (O.neg s)=O.neg (O.neg x):=by rw [h4]
    rw [F.neg_neg Y,F.neg_neg Z] at h5;exact h5.symm
   rw [<- h3];exact S) (by rw [zI];simp only [NO] at Q ⊢;omega)
  have h2:=vJ F Y (λy hy=>ha y (NC _ hy)) h1;intro y hy;rcases List.mem_cons.1 hy with rfl | hy
  ·have h3:=h0 s (by simp);have e:iU O (y :: a) s=O.add y (O.mul s (iU O a s)):=rfl;have G:iU O a s=0:=kA F Y h2;rw [e,G,F.df Y,F.add_zero _ (ha y (by simp))] at h3;exact h3
  ·exact h2 y hy
end

section
def I6:Z4->List (Lz × Int)->List Value
 | r :: R,t :: T=>.slice r.1 t.1.length r.2 :: cG t.2 :: I6 R T
 | _,_=>[]
theorem Am (r:OA × Nat) (t:Lz × Int):∀(R:Z4) (T:List (Lz × Int)),R.length=T.length->I6 (R ++ [r]) (T ++ [t])=I6 R T ++ [.slice r.1 t.1.length r.2,cG t.2]
 | [],[],_=>rfl
 | [],_ :: _,h=>by simp at h
 | _ :: _,[],h=>by simp at h
 | x :: R,y :: T,h=>by rw [OD,OD,I6,Am r t R T (by simpa using h)];rfl
theorem yr {P:Program} {w:ej} {ops:Array Oper} {rest:List Oper} {o:Oper} {ac:Act} {Q:Exit->Act->ej->Prop}
  (r:o.guard=none) (s x:Operand) (t e:TypeId) (E:o.op = .call { callee:=.builtin .append,args:=#[s,x],argTypes:=#[t,t] }) (z:Value) (bytes:Nat)
  (h1:P.underlying t=some (.slice e)) (h2:(P.info? e).map (λi=>(i.zero,i.size,i.bytes))=some (some z,2,bytes)) (hz:z.cells.size=2)
  (B:Nat) (a:OA) (n c:Nat) (xs:List Value) (hs:ac.eval s = .slice a n c) (S:w.ownsRow B e 2 (.slice a n c) n xs)
  (g C:Nat) (u v:Value) (hx:ac.eval x = .slice (some ⟨g,0,none⟩) 1 C) (hu:w.cell? ⟨g,0,none⟩=some u) (hv:w.cell? ⟨g,1,none⟩=some v) (H:u.oneCell'=true) (D:v.oneCell'=true)
  (b2:(n+1) * bytes<=140737488355328) (b3:n+1<=maxLen) (hB:B<=w.heap.size)
  (hK:∀a' Y w',w'.ownsRow B e 2 (.slice a' (n+1) Y) (n+1) (xs ++ [u,v])->w.grownBy w' (Value.slice a n c).ownBlock->(∀b,b<w.heap.size->dq a b->dq a' b)->wpList P ops Q rest (ac.put o.dst (.slice a' (n+1) Y)) w') :
  wpList P ops Q (o :: rest) ac w:=by
 obtain ⟨i,hi,F,I,N⟩:∃i,P.info? e=some i/\i.zero=some z/\i.size=2/\i.bytes=bytes:=by
  cases A:P.info? e with
  | none=>rw [A] at h2;cases h2
  | some i=>rw [A] at h2;simp at h2;exact ⟨i,rfl,h2.1,h2.2.1,h2.2.2⟩
 refine wpList_append_own_at w r s x t E B e i z 2 bytes h1 hi F I N hz (by decide) _ n xs hs S ⟨g,0,none⟩ 1 C [u,v] hx rfl ?_ ?_ b3 b2 hB λv' w' Z G _ K=>?_
 ·intro j y X;match j,X with
  | 0,X=>simp at X;subst X;simpa [Addr.add] using hu
  | 1,X=>simp at X;subst X;simpa [Addr.add] using hv
 ·intro y hy;simp at hy;rcases hy with rfl | rfl
  ·exact H
  ·exact D
 ·obtain ⟨a',Y,rfl⟩:∃a' Y,v' = .slice a' (n+1) Y:=by
   rcases Z.2 with ⟨_,h0⟩ | ⟨g',cap,cur,rfl,_⟩
   ·omega
   ·exact ⟨_,cap,rfl⟩
  refine hK a' Y w' Z G λb hb U=>?_;have h:=U.own n c;rcases K with h3 | h3
  ·exact SC (n:=n+1) (c:=Y) (by rw [h3];exact h)
  ·exact SC (n:=n+1) (c:=Y) (by rw [h3];intro h4;cases h4;omega)
structure uf (w:ej) (B:Nat) (a:OA) (k c:Nat) (R:Z4) (T:List (Lz × Int)):Prop where
 rl:R.length=k
 tl:T.length=k
 own:w.ownsRow B 177 2 (.slice a k c) k (I6 R T)
 row:∀p ∈ R.zip T,Ints w p.1.1 p.2.1.length p.2.1/\(p.1.1 ≠ none->B<=ablk p.1.1/\ablk p.1.1<w.heap.size)/\(p.1.1 ≠ none->dq a (ablk p.1.1))
namespace uf
variable {w w' w5 V:ej} {B:Nat} {a:OA} {k c:Nat} {R:Z4} {T:List (Lz × Int)}
theorem start (w:ej) (B:Nat):uf w B none 0 0 [] []:=⟨rfl,rfl,⟨rfl,.inl ⟨rfl,rfl⟩⟩,λp Z=>by simp at Z⟩
theorem Gy (h:uf w B a k c R T) (ha:a ≠ none):B<=ablk a/\ablk a<w.heap.size:=by
 rcases h.own.2 with ⟨Z,_⟩ | ⟨g,cap,cur,Z,Y,X,_⟩
 ·cases Z;exact absurd rfl ha
 ·cases Z;exact ⟨Y,(Array.getElem?_eq_some_iff.1 X).1⟩
theorem bf (h:uf w B a k c R T) (Q:w.heap.size<=w'.heap.size) (h1:a ≠ none->w'.heap[ablk a]? = w.heap[ablk a]?) (h2:∀r ∈ R,r.1 ≠ none->w'.heap[ablk r.1]? = w.heap[ablk r.1]?):uf w' B a k c R T:=by
 refine ⟨h.rl,h.tl,⟨h.own.1,?_⟩,λp Y=>?_⟩
 ·rcases h.own.2 with Z | ⟨g,cap,cur,X,U,S,r⟩
  ·exact .inl Z
  ·cases X
   exact .inr ⟨g,_,cur,rfl,U,by rw [show w'.heap[g]? = w.heap[g]? from h1 (by simp)];exact S,r⟩
 ·obtain ⟨g1,g2,g3⟩:=h.row p Y;have hm:p.1 ∈ R:=(List.of_mem_zip (a:=p.1) (b:=p.2) Y).1;refine ⟨g1.of_block λZ=>h2 p.1 hm λe=>?_,λZ=>⟨(g2 Z).1,Nz (g2 Z).2 Q⟩,g3⟩;have:=g1.pl Z;rw [e] at this;cases this
theorem ai (h:uf w B a k c R T) (hb:SJ w w'):uf w' B a k c R T :=
 h.bf hb.size (λha=>hb.block _ (h.Gy ha).2) λr Y Z=>by
  obtain ⟨i,hi,rfl⟩:=List.mem_iff_getElem.1 Y;have X:i<T.length:=by rw [h.tl,<- h.rl];exact hi
  exact hb.block _ ((h.row (R[i],T[i]) (List.mem_iff_getElem.2 ⟨i,by simp;omega,by simp⟩)).2.1 Z).2
theorem Gf (h:uf w B a k c R T) {r:OA × Nat} (Y:r ∈ R) (Z:r.1 ≠ none):(B<=ablk r.1/\ablk r.1<w.heap.size)/\dq a (ablk r.1):=by
 obtain ⟨i,hi,rfl⟩:=List.mem_iff_getElem.1 Y;have X:i<T.length:=by rw [h.tl,<- h.rl];exact hi
 have h1:=h.row (R[i],T[i]) (List.mem_iff_getElem.2 ⟨i,by simp;omega,by simp⟩);exact ⟨h1.2.1 Z,h1.2.2 Z⟩
theorem grown {Y:OA} {U Z:Nat} (h:uf w B a k c R T) (X:w.grownBy w' (Value.slice Y U Z).ownBlock) (h1:a ≠ none->dq Y (ablk a)) (h2:∀r ∈ R,r.1 ≠ none->dq Y (ablk r.1)):uf w' B a k c R T :=
 h.bf X.size (λha=>X.block _ (h.Gy ha).2 λe=>(h1 ha).own U Z e.symm) λr Q S=>X.block _ (h.Gf Q S).1.2 λe=>(h2 r Q S).own U Z e.symm
theorem push {U a5:OA} {H G:Nat} {S:Lz} {rk:Int} (h:uf V B a k c R T) (hS:Ints V U S.length S) (X:U ≠ none->B<=ablk U/\ablk U<V.heap.size) (I:U ≠ none->dq a (ablk U))
  (K:w5.ownsRow B 177 2 (.slice a5 (k+1) G) (k+1) (I6 R T ++ [.slice U S.length H,cG rk])) (Y:V.grownBy w5 (Value.slice a k c).ownBlock)
  (Q:∀b,b<V.heap.size->dq a b->dq a5 b):uf w5 B a5 (k+1) G (R ++ [(U,H)]) (T ++ [(S,rk)]):=by
 refine ⟨by simp [h.rl],by simp [h.tl],by rw [Am _ _ R T (by rw [h.rl,h.tl])];exact K,λp N=>?_⟩;rw [List.zip_append (by rw [h.rl,h.tl])] at N;rcases List.mem_append.1 N with N | N
 ·obtain ⟨g1,g2,g3⟩:=h.row p N;refine ⟨g1.of_block λZ=>?_,λZ=>⟨(g2 Z).1,Nz (g2 Z).2 Y.size⟩,λZ=>Q _ (g2 Z).2 (g3 Z)⟩;have hne:p.1.1 ≠ none:=λe=>by have:=g1.pl Z;rw [e] at this;cases this
  exact Y.block _ (g2 hne).2 λe=>(g3 hne).own k c e.symm
 ·simp at N;subst N;refine ⟨hS.of_block λZ=>?_,λZ=>⟨(X Z).1,Nz (X Z).2 Y.size⟩,λZ=>Q _ (X Z).2 (I Z)⟩;have hne:U ≠ none:=λe=>by have:=hS.pl Z;rw [e] at this;cases this
  exact Y.block _ (X hne).2 λe=>(I hne).own k c e.symm
end uf
end
structure Ms (w:ej) (a:OA) (n:Nat) (T:List (Lz × Int)):Prop where
 len:T.length=n
 pl:Pl a n
 max:n<=maxLen
 cell:∀i (h:i<T.length),∃sa sc,w.cell? ⟨ablk a,aN a+i * 2,none⟩=some (.slice sa T[i].1.length sc)/\w.cell? ⟨ablk a,aN a+i * 2+1,none⟩=some (cG T[i].2)/\Ints w sa T[i].1.length T[i].1
theorem Ms.ai {w w':ej} {a:OA} {n:Nat} {T:List (Lz × Int)} (h:Ms w a n T) (hb:SJ w w'):Ms w' a n T :=
 ⟨h.len,h.pl,h.max,λi hi=>by obtain ⟨Z,Y,h1,h2,h3⟩:=h.cell i hi;exact ⟨Z,Y,aC hb h1,aC hb h2,h3.ai hb⟩⟩
theorem GP:∀(R:Z4) (T:List (Lz × Int)),R.length=T.length->∀i (h:i<T.length) (h2:i<R.length),(I6 R T)[i * 2]? = some (.slice (R[i]).1 (T[i]).1.length (R[i]).2)/\(I6 R T)[i * 2+1]? = some (cG (T[i]).2)
 | [],[],_,i,h,_=>by simp at h
 | [],_ :: _,h,_,_,_=>by simp at h
 | _ :: _,[],h,_,_,_=>by simp at h
 | r :: R,t :: T,h,0,_,_=>by simp [I6]
 | r :: R,t :: T,h,i+1,hi,Z=>by have:=GP R T (by simpa using h) i (by simpa using hi) (by simpa using Z);rw [I6,show (i+1) * 2=i * 2+1+1 by omega];simpa using this
theorem uf.str {w:ej} {B:Nat} {a:OA} {k c:Nat} {R:Z4} {T:List (Lz × Int)} (h:uf w B a k c R T):Ms w a k T:=by
 have Y:R.length=T.length:=by rw [h.rl,h.tl]
 rcases h.own.2 with ⟨Z,h0⟩ | ⟨g,cap,cur,Z,K,H,N,hm,G,I⟩
 ·cases Z
  have Q:T=[]:=NF h.tl;subst Q;exact ⟨rfl,λh=>by omega,by unfold maxLen;omega,λi hi=>by simp at hi⟩
 ·cases Z
  refine ⟨h.tl,λ_=>rfl,by omega,λi hi=>?_⟩;have X:i<R.length:=by omega
  obtain ⟨e1,S⟩:=GP R T Y i hi X;have U:=World.ownsRow.cells h.own (g:=g) rfl;have h3:=h.row (R[i],T[i]) (List.mem_iff_getElem.2 ⟨i,by simp;omega,by simp⟩);have c1:=U _ _ e1;have c2:=U _ _ S;rw [Qn] at c1 c2;refine ⟨(R[i]).1,(R[i]).2,?_,?_,h3.1⟩
  ·simpa [ablk,aN] using c1
  ·simpa [ablk,aN] using c2
end Go.Proofs.YthglbncgemdcbaaGreat
