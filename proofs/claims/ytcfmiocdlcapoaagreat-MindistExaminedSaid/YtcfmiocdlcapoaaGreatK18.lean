/-  -/
import Derived.Test.YtcfmiocdlcapoaaGreatK12
namespace Go.Proofs.YtcfmiocdlcapoaaGreat
set_option linter.unusedVariables false
set_option linter.unusedSimpArgs false
set_option linter.unusedSectionVars false

section
set_option maxRecDepth 100000
set_option maxHeartbeats 4000000

open Go.RowKit
theorem addNzE_any (x : Int) (w : World) : Calls Tryz.prog 275 #[.int .i64 x] w λe w'=>e = .returned (.bool (x != 0))/\w=w':=by
 go_enter Tryz.func275,Tryz.ntmps275
 go_wp2
 go_ret
 exact ⟨rfl,rfl⟩
theorem indexNzE_any (a : Option Addr) (n c : Nat) (l : List Int) (w : World) (hi : Ints w a n l) :
  Calls Tryz.prog 97 #[.slice a n c,.func (.func 275) #[] #[]] w λe w'=>e = .returned (.int .i64 (fnzV l))/\w=w':=by
 have Hlen:=Lib.hid hi.len
 have hpl:=hi.pl
 have hmax:=hi.max
 unfold maxLen at hmax
 go_enter Tryz.func97,Tryz.ntmps97
 go_wp2_with fail
 go_loop [8] (λiv=>∃k : Nat,k<=n/\iv = .int .i64 k/\Hid (∀j,j<k->nth l j=0)) (λiv=>n - (intOf iv).toNat)
 case atStart=>exact ⟨0,Nat.zero_le _,rfl,λj hj=>by omega⟩
 case round =>
  obtain ⟨k,hk,rfl,hall⟩:=hrel
  by_cases hlt : k<n
  ·have ck:=hi.cell k hlt
   by_cases hz : nth l k=0
   ·have hz' : (nth l k != 0)=false:=by simpa using hz
    have Hz:=Lib.hid hz
    clear hz
    go_wp2_with fail
    refine (addNzE_any _ _).mono ?_
    rintro e w' ⟨rfl,rfl⟩
    go_wp2_with fail
    go_round
    case rel=>exact ⟨k+1,by omega,by go_num,λj hj=>by
     rcases Nat.lt_or_ge j k with h | h
     ·exact hall.out j h
     ·rw [show j=k by omega];exact Hz.out⟩
    case measure=>simp [intOf] <;> omega
   ·have hz' : (nth l k != 0)=true:=by simpa using hz
    have Hf : Hid (fnzV l=k):=by
     show _=_
     have:=fnz_at l k (by rw [Hlen.out];exact hlt) hall.out hz
     rw [fnzV,this,if_pos (by rw [Hlen.out];exact hlt)]
    clear hz
    go_wp2_with fail
    refine (addNzE_any _ _).mono ?_
    rintro e w' ⟨rfl,rfl⟩
    go_wp2_with fail
    go_ret
    exact ⟨ret_int Hf.out.symm,rfl⟩
  ·obtain rfl : k=n:=by omega
   have Hf : Hid (fnzV l = -1):=by
    show _=_
    have:=fnz_none l (by rw [Hlen.out];exact hall.out)
    rw [fnzV,this,if_neg (by omega)]
   go_wp2_with fail
   go_ret
   exact ⟨ret_int Hf.out.symm,rfl⟩
theorem baddE_any {w w0 : World} {b : Nat} {G : Tbl} (bb : Nat) (ar : Option Addr) (cr : Nat) (R : List (Option Addr × Nat)) (ap : Option Addr) (cp : Nat) (s : BS) (av : Option Addr) (cv n : Nat) (v : List Int)
  (h : GFw w0 b G) (hb : Below w0.heap.size w0 w) (hB : Bas w w0.heap.size bb b ar cr R ap cp s) (hs : s.Ok G.El n) (hv : w.ownsRow w0.heap.size 3 1 (.slice av n cv) n (v.map (Value.int .i64)))
  (hav : av ≠ none->¬ BIn bb ar R ap (ablk av)) (hve : G.Els v) (hn : n<=1000000) (hk : s.rows.length<=1000000) :
  Calls Tryz.prog 268 #[.pointer (some ⟨bb,0,none⟩),.slice av n cv] w (BaddPost w0 bb b ar R ap av G.ops s v w):=by
 have hvl : v.length=n:=by simpa using own_len hv
 have hpv:=(Ints.own hv).1.pl
 have hcl:=Tbl.cl h
 have hred:=redTo_el hcl hs.rws hs.plc ⟨hvl,hve⟩
 have Hred:=Lib.hid hred
 have Hvl:=Lib.hid hvl
 have Hs:=Lib.hid hs
 have Hve:=Lib.hid hve
 have c1:=hB.c1
 have hplr:=hB.om.pl
 clear hred hvl hs hve
 go_enter Tryz.func268,Tryz.ntmps268
 go_wp2_with fail
 obtain ⟨kk,hkk⟩ : ∃kk,s.rows.length=kk:=⟨_,rfl⟩
 have Hkk:=Lib.hid hkk
 rw [hkk] at hk hplr c1
 rw [hkk]
 clear hkk
 go_loopw [18] (λiv wr=>∃k : Nat,k<=kk/\iv = .int .i64 k/\wr.ownsRow w0.heap.size 3 1 (.slice av n cv) n ((redTo G.ops s.rows s.place v k).map (Value.int .i64))/\Only av w wr) (λiv _=>kk - (intOf iv).toNat)
 case atStart=>exact ⟨0,Nat.zero_le _,rfl,hv,Only.refl _ _⟩
 case round =>
  obtain ⟨k,hkk2,rfl,hown,honly⟩:=hrel
  have hBr:=hB.only honly hav
  by_cases hlt : k<kk
  ·have hkr : k<s.rows.length:=by rw [Hkk.out];exact hlt
   have e0:=hBr.c0
   have e2:=hBr.c2
   have er:=hBr.om.cell hkr
   have ir:=hBr.om.ints hkr
   have hrow:=Hs.out.rws.row hkr
   have hplc:=Hs.out.plc k hkr
   rw [hrow.1] at er ir
   obtain ⟨ip,mp⟩:=Ints.own hBr.pl
   have ep:=ip.cell k hkr
   have hpp:=ip.pl
   rw [Hkk.out] at e2 hpp
   obtain ⟨pn,hpn⟩ : ∃pn : Nat,nth s.place k=pn:=⟨(nth s.place k).toNat,by omega⟩
   rw [hpn] at ep hplc
   have hpnn : pn<n:=by omega
   have hrd:=Hred.out k (by omega)
   have hrd1:=Hred.out (k+1) (by omega)
   have hstep : redTo G.ops s.rows s.place v (k+1)=redStep G.ops (redTo G.ops s.rows s.place v k) pn (nthR s.rows k):=by rw [redTo,hpn]
   have Hstep:=Lib.hid hstep
   have Hrow:=Lib.hid hrow
   have Hpn:=Lib.hid hpn
   clear hstep hpn
   obtain ⟨u,hu⟩ : ∃u,redTo G.ops s.rows s.place v k=u:=⟨_,rfl⟩
   rw [hu] at hown hrd
   have Hu:=Lib.hid hu
   obtain ⟨iu,mu⟩:=Ints.own hown
   have eu:=iu.cell pn hpnn
   have hpu:=iu.pl
   have Hrd:=Lib.hid hrd
   clear hu hrow hrd hrd1
   by_cases hz : nth u pn=0
   ·have hz' : (nth u pn != 0)=false:=by simpa using hz
    have Hn : Hid (redTo G.ops s.rows s.place v (k+1)=u):=by show _=_;rw [Hstep.out,Hu.out,redStep,Int.toNat_natCast,if_pos hz]
    clear hz
    go_wp2_with fail
    go_roundw
    case rel=>exact ⟨k+1,by omega,by go_num,by rw [Hn.out];exact hown,honly⟩
    case measure=>simp [intOf] <;> omega
   ·have hz' : (nth u pn != 0)=true:=by simpa using hz
    have Hn : Hid (redTo G.ops s.rows s.place v (k+1)=subRow G.ops u (nth u pn) (nthR s.rows k)):=by show _=_;rw [Hstep.out,Hu.out,redStep,Int.toNat_natCast,if_neg hz]
    have hxe : G.El (nth u pn):=Hrd.out.2 _ (nth_mem (by rw [Hrd.out.1];exact hpnn))
    have hSl : (subRow G.ops u (nth u pn) (nthR s.rows k)).length=u.length:=subRow_length _ _ _ _ (by rw [Hrow.out.1,Hrd.out.1])
    have hSn:=λi hi=>nth_subRow G.ops u (nth u pn) (nthR s.rows k) i (by rw [Hrow.out.1,Hrd.out.1]) hi
    have HSl:=Lib.hid hSl
    have HSn:=Lib.hid hSn
    clear hz hSl hSn
    have hplr2:=ir.pl
    go_wp2_with fail
    generalize nth u pn=x at *
    generalize subRow G.ops u x (nthR s.rows k)=S at *
    go_loopw [37] (λiv wx=>∃j : Nat,j<=n/\iv = .int .i64 j/\wx.ownsRow w0.heap.size 3 1 (.slice av n cv) n ((mixTo S u j).map (Value.int .i64))/\Only av w wx) (λiv _=>n - (intOf iv).toNat)
    case atStart=>exact ⟨0,Nat.zero_le _,rfl,by rw [mixTo_zero];exact hown,honly⟩
    case round =>
     obtain ⟨j,hj,rfl,hown2,honly2⟩:=hrel
     have hBx:=hB.only honly2 hav
     have ix:=hBx.om.ints hkr
     rw [Hrow.out.1] at ix
     by_cases hjn : j<n
     ·have cj:=ix.cell j hjn
      have f0:=hBx.c0
      obtain ⟨im,mm⟩:=Ints.own hown2
      have cm:=im.cell j hjn
      have fm:=(mm (by omega)).2 j hjn
      have hju : j<u.length:=by rw [Hrd.out.1];exact hjn
      have hmix:=nth_mixTo S u j j HSl.out (by omega)
      rw [if_neg (by omega)] at hmix
      rw [hmix] at cm
      have hset:=mixTo_set S u j HSl.out hju
      rw [HSn.out j hju] at hset
      have Hset:=Lib.hid hset
      have ely : G.El (nth (nthR s.rows k) j):=Hrow.out.2 _ (nth_mem (by rw [Hrow.out.1];exact hjn))
      have elv : G.El (nth u j):=Hrd.out.2 _ (nth_mem hju)
      have elm : ∀x y,G.El (G.mul x y):=λx y=>Tbl.mul_el h x y
      have hbx : Below w0.heap.size w0 wr:=Below.trans hb (honly2.below (λha=>(own_ne hv ha).1) hb.size)
      have hGr : GFw wr b G:=h.keep hbx
      have HG : Hid (GFw wr.drew b G/\∀n,GFw (wr.drewN n) b G):=⟨hGr.keep (Below.refl _ _).drew,λn=>hGr.drewN n⟩
      clear hset hmix
      go_wp2_with fail
      go_region_law ((first
       | (go_simp;go_at_call 153;((with_reducible refine (gMul x (nth (nthR s.rows k) j) HG.out.1 hxe ely).mono ?_);rintro e w4 ⟨m4,rfl,rfl⟩))
       | (go_simp;go_at_call 153;((with_reducible refine (gMul x (nth (nthR s.rows k) j) (HG.out.2 _) hxe ely).mono ?_);rintro e w4 ⟨m4,rfl,rfl⟩))
       | (go_simp;go_at_call 191;((with_reducible refine (gSub (nth u j) (G.mul x (nth (nthR s.rows k) j)) (HG.out.2 _) elv (elm _ _)).mono ?_);rintro e w4 ⟨m5,rfl,rfl⟩))))
      all_goals (
       go_wp2_with fail
       go_roundw
       case rel =>
        have hdr : Drawn wr (wr.drewN (1+m4+m5)):=⟨_,rfl⟩
        refine ⟨j+1,by omega,by go_num,?_,honly2.trans ((Only.drawn hdr).trans (Only.set _ j _ (by intro e;have:=hpv (by omega);rw [e] at this;cases this)))⟩
        have h1:=own_set (w:=wr.drewN (1+m4+m5)) hown2 j hjn (.int .i64 (G.sub (nth u j) (G.mul x (nth (nthR s.rows k) j))))
        rw [<- List.map_set,show G.sub (nth u j) (G.mul x (nth (nthR s.rows k) j))=G.ops.add (nth u j) (G.ops.neg (G.ops.mul x (nth (nthR s.rows k) j))) from rfl,Hset.out] at h1
        exact h1
       case measure=>simp [intOf] <;> omega)
     ·obtain rfl : j=n:=by omega
      rw [mixTo_all S u j (by rw [HSl.out,Hrd.out.1]) Hrd.out.1] at hown2
      go_wp2_with fail
      go_roundw
      case rel=>exact ⟨k+1,by omega,by go_num,by rw [Hn.out];exact hown2,honly2⟩
      case measure=>simp [intOf] <;> omega
  ·obtain rfl : k=kk:=by omega
   have hrd:=Hred.out k (by rw [Hkk.out];exact Nat.le_refl _)
   have hurd : redTo G.ops s.rows s.place v k=s.red G.ops v:=by rw [BS.red,Hkk.out]
   rw [hurd] at hown hrd
   obtain ⟨iu,mu⟩:=Ints.own hown
   have Hrd:=Lib.hid hrd
   clear hurd hrd
   go_wp2_with fail
   refine (indexNzE_any _ _ _ _ _ iu).mono ?_
   rintro e w' ⟨rfl,rfl⟩
   by_cases hf : fnz (s.red G.ops v)<(s.red G.ops v).length
   ·have hfv : fnzV (s.red G.ops v)=fnz (s.red G.ops v):=by rw [fnzV,if_pos hf]
    have hfn:=fnz_ne _ hf
    have Ht : Hid (s.takes G.ops v=true):=by show _=_;simpa [BS.takes] using hf
    have HN : Hid (s.next G.ops v=⟨s.rows ++ [(s.red G.ops v).map (G.mul (G.inv (nth (s.red G.ops v) (fnz (s.red G.ops v)))))],s.place ++ [(fnz (s.red G.ops v) : Int)]⟩):=by
     show _=_;rw [BS.next,if_pos Ht.out];rfl
    rw [hfv]
    obtain ⟨u,hu⟩ : ∃u,s.red G.ops v=u:=⟨_,rfl⟩
    rw [hu] at hown Hrd hf hfn iu HN
    rw [hu]
    clear hu hfv
    obtain ⟨f,hff⟩ : ∃f,fnz u=f:=⟨_,rfl⟩
    rw [hff] at hf hfn HN
    rw [hff]
    have hfn' : f<n:=by rw [<- Hrd.out.1];exact hf
    have e0:=hBr.c0
    have eu:=iu.cell f hfn'
    have hpu:=iu.pl
    have elf : G.El (nth u f):=Hrd.out.2 _ (nth_mem hf)
    have hbx : Below w0.heap.size w0 wr:=Below.trans hb (honly.below (λha=>(own_ne hv ha).1) hb.size)
    have hGr : GFw wr b G:=h.keep hbx
    have HG : Hid (GFw wr.drew b G/\∀n,GFw (wr.drewN n) b G):=⟨hGr.keep (Below.refl _ _).drew,λn=>hGr.drewN n⟩
    have Hfn:=Lib.hid hfn
    have Hf:=Lib.hid hf
    clear hff hfn hf
    go_upto_region 15 with fail
    go_cut [11] (λdv wx=>dv = .int .i64 (G.inv (nth u f))/\Drawn wr wx)
    case first =>
     go_region_held3 (λw'=>w'.cell? ⟨bb,0,none⟩=some (.pointer (some ⟨b,0,none⟩))/\w'.cell? ⟨ablk av,aoff av+f,none⟩=some (.int .i64 (nth u f)))
      (exact ⟨e0,eu⟩)
      (first
      | (go_at_call 193;((with_reducible refine (gInv _ HG.out.1 elf Hfn.out).mono ?_);rintro e w4 ⟨m4,rfl,rfl⟩)))
     all_goals (
      go_step;go_step
      go_meet
      exact ⟨rfl,⟨_,rfl⟩⟩)
    obtain ⟨rfl,hdr⟩:=hcut
    generalize wc=V at *
    have hBV : Bas V w0.heap.size bb b ar cr R ap cp s:=hBr.keep hdr.below
    have hownV:=own_keep hown hdr.below
    have hbV : Below w0.heap.size w0 V:=hdr.below' hbx
    have honV : Only av w V:=honly.trans (Only.drawn hdr)
    clear hBr hown hbx hGr HG e0 eu iu mu hdr honly
    obtain ⟨iu,mu⟩:=Ints.own hownV
    have HGV : Hid (GFw V.drew b G/\∀n,GFw (V.drewN n) b G):=⟨(h.keep hbV).keep (Below.refl _ _).drew,λn=>(h.keep hbV).drewN n⟩
    have hiel : G.El (G.inv (nth u f)):=Tbl.inv_el h _
    have e0:=hBV.c0
    have e1:=hBV.c1
    have f1:=hBV.fr 1
    have hS : ∀W,Below V.heap.size V W->W.cell? ⟨bb,0,none⟩=some (.pointer (some ⟨b,0,none⟩))/\W.cell? ⟨bb,1,none⟩=some (.slice ar s.rows.length cr)/\W.frozen? ⟨bb,1,none⟩=false/\Below V.heap.size V W:=by
     intro W hW
     have hBW:=hBV.keep hW
     exact ⟨hBW.c0,hBW.c1,hBW.fr 1,hW⟩
    have HS:=Lib.hid hS
    have haptb : Apt ar bb:=by
     by_cases ha : ar=none
     ·exact .inl ha
     ·exact .inr λe=>hBV.d1 (.inl ⟨ha,e.symm⟩)
    have hR : ∀W,Below V.heap.size V W->W.ownsRow w0.heap.size 22 1 (.slice ar k cr) k (List.zipWith rowV R s.rows):=λW hW=>by
     have:=(hBV.om.keep hW).own
     rwa [Hkk.out] at this
    have HR:=Lib.hid hR
    obtain ⟨N,hN⟩ : ∃N,u.map (G.mul (G.inv (nth u f)))=N:=⟨_,rfl⟩
    have hsc : Calls Tryz.prog 194 #[.pointer (some ⟨b,0,none⟩),.int .i64 (G.inv (nth u f)),.slice av n cv] V.drew (NewInts V.drew N):=by
     rw [<- hN];exact gScale (G.inv (nth u f)) _ _ _ u HGV.out.1 hiel (iu.keep (Below.refl _ _).drew) Hrd.out.2 hn
    have Hsc:=Lib.hid hsc
    have HNe:=Lib.hid hN
    rw [hN] at HN
    clear hN hsc
    clear hS hR
    go_upto_region 16 with fail
    go_cut [] (λwx=>∃ar' cr' R',wx.cell? ⟨bb,1,none⟩=some (.slice ar' (k+1) cr')/\OMat wx w0.heap.size ar' (k+1) cr' R' (s.rows ++ [N]) /\
     Moves V wx (λx=>x=bb\/OIn ar R x) (λx=>x=bb\/OIn ar' R' x)/\¬ OIn ar' R' bb /\
     (∀i v,i ≠ 1->V.cell? ⟨bb,i,none⟩=some v->wx.cell? ⟨bb,i,none⟩=some v)/\∀i,wx.frozen? ⟨bb,i,none⟩=false)
    case first =>
     rw [Hkk.out] at e1 HS
     go_region_law ((first
      | (go_simp;go_at_call 194;((with_reducible refine Hsc.out.mono ?_);rintro e w4 ⟨a4,c4,rfl,hown4,hb4⟩;obtain ⟨q0,q1,q2,q5⟩:=HS.out w4 (Below.next (Below.refl _ _).drew hb4);have q6 : bb<w4.heap.size:=World.block_lt_of_cell? w4 _ q0))
      | (refine step_appAll (by rfl) (.tmp 83) (.tmp 91) 25 22 (by rfl) (.slice none 0 0) 24 Tryz.underlying25 infoInts (by rfl) w0.heap.size ar k cr (List.zipWith rowV R s.rows) (by rfl) (HR.out _ (Below.next q5 (below1 _ _))) (some ⟨w4.heap.size,0,none⟩) 1 1 [.slice a4 N.length c4] (by rfl) (λ_=>rfl) rfl (by intro j hj;obtain rfl : j=0:=(by omega);exact cell_new' _ _ _ rfl) (by intro y hy;simp at hy;subst hy;rfl) (by omega) (by unfold maxLen;omega) (by have e1:=hbV.size;have e2:=Below.size q5;simp;omega) ?_;intro a5 c5 w5 hown5 hgr5 hap5;have p1:=cell_grownApt hgr5 (cell_box q1 _) haptb;have p2 : w5.frozen? ⟨bb,1,none⟩=false:=(World.frozen?_of_block (hgr5.block bb (World.block_lt_of_cell? _ _ (cell_box q1 _)) (λe=>haptb.own k cr e.symm))).trans (frozen_box (World.block_lt_of_cell? _ _ q1) q2 _))))
     all_goals (
      go_wp2_with fail
      go_meet
      exact hBV.push16 Hkk.out hbV.size (Below.next (Below.refl _ _).drew hb4) hown4 hown5 hgr5 hap5 ⟨_,p1⟩)
    obtain ⟨ar',cr',R',y1,hOX,hMX,hdX,hcX,hfX⟩:=hcut
    generalize wc=X at *
    have y0:=hcX 0 _ (by omega) e0
    have y2:=hcX 2 _ (by omega) hBV.c2
    have yf:=hfX 2
    have hnI : ap ≠ none->¬ (ablk ap=bb\/OIn ar R (ablk ap)):=λh0 hI=>by
     rcases hI with h1 | h1
     ·rcases hBV.d2 with h2 | h2
      ·exact h0 h2
      ·exact h2 h1
     ·exact hBV.d3 h0 h1
    have hpX:=hMX.own hBV.pl hnI
    have hd3 : ap ≠ none->¬ OIn ar' R' (ablk ap):=λh0 hI=>hMX.not (own_ne hBV.pl h0).2 (hnI h0) (.inr hI)
    rw [Hkk.out] at y2 hpX
    have hbX : Below w0.heap.size w0 X:=hbV.trans (hMX.below (λx hx=>(hBV.lt x (by rcases hx with h1 | h1;exact .inl h1;exact .inr (.inl h1))).1) hbV.size)
    have hz : bb<X.heap.size:=World.block_lt_of_cell? X _ y0
    have HfX:=Lib.hid hfX
    have Hd3:=Lib.hid hd3
    have HdX:=Lib.hid hdX
    have hd2:=hBV.d2
    have hbB:=hBV.bB
    have hcn:=cell_new X (.int .i64 f) 3
    clear hcX hfX hd3 hdX e0 e1 f1
    go_wp2_with (at_builtin;refine wpList_push rfl _ _ 22 3 rfl (.int .i64 0) 8 Tryz.underlying22 infoInt rfl w0.heap.size ap k cp _ rfl (hpX.alloc _) ⟨X.heap.size,0,none⟩ 1 (.int .i64 f) rfl hcn rfl (by omega) (by unfold maxLen;omega) (by have e1:=hbX.size;simp;omega) ?_;intro a6 c6 w6 hown6 hgr6 hap6;have p1:=cell_grownApt hgr6 (cell_box y2 _) hd2;have p2 : w6.frozen? ⟨bb,2,none⟩=false:=(World.frozen?_of_block (hgr6.block bb (World.block_lt_of_cell? _ _ (cell_box y2 _)) (λe=>hd2.own k cp e.symm))).trans (frozen_box hz yf _))
    have hP:=Bas.push17 (w6:=w6) hbB y0 y1 ⟨_,y2⟩ HfX.out hOX hpX HdX.out hd2 Hd3.out hown6 hgr6 hap6
    have HP:=Lib.hid hP
    clear hP
    go_ret
    refine ⟨ar',cr',R',a6,c6,ret_bool Ht.out.symm,by rw [HN.out];exact HP.out.1,?_⟩
    refine Moves.trans (w':=V) (I':=λx=>BIn bb ar R ap x\/(av ≠ none/\x=ablk av)) ?_ (Moves.trans (w':=X) (I':=BIn bb ar' R' ap) ?_ HP.out.2)
    ·exact ⟨honV.os,honV.tape,honV.output,honV.size,λx hx hI=>honV.block x hx λh2=>hI (.inr h2),λx hx=>.inl hx⟩
    ·refine ⟨hMX.os,hMX.tape,hMX.output,hMX.size,λx hx hI=>hMX.block x hx λh2=>hI (.inl (by rcases h2 with h3 | h3;exact .inl h3;exact .inr (.inl h3))),λx hx=>?_⟩
     rcases hx with h1 | h1 | h1
     ·exact .inl (.inl (.inl h1))
     ·rcases hMX.grow x (.inr h1) with h2 | h2
      ·exact .inl (.inl (by rcases h2 with h3 | h3;exact .inl h3;exact .inr (.inl h3)))
      ·exact .inr h2
     ·exact .inl (.inl (.inr (.inr h1)))
   ·have hfv : fnzV (s.red G.ops v) = -1:=by rw [fnzV,if_neg hf]
    rw [hfv]
    have Ht : Hid (s.takes G.ops v=false):=by show _=_;simp [BS.takes];omega
    have HN : Hid (s.next G.ops v=s):=by show _=_;rw [BS.next,if_neg (by rw [Ht.out];simp)]
    clear hf hfv
    go_wp2_with fail
    go_ret
    refine ⟨ar,cr,R,ap,cp,ret_bool Ht.out.symm,by rw [HN.out];exact hBr,?_⟩
    exact ⟨honly.os,honly.tape,honly.output,honly.size,λx hx hI=>honly.block x hx λh2=>hI (.inr h2),λx hx=>.inl (.inl hx)⟩
end

section
set_option maxRecDepth 100000
set_option maxHeartbeats 4000000

open Go.RowKit
def isV (P M : Int) (mod : List Int) (N : Int) (L : List (List Int)) (Q : List Int) : Bool :=
 decide (rankE P M mod N L Q=0) && (decide ((grS (tblOf P M.toNat mod).ops L Q).length=Q.length) && decide ((grS (tblOf P M.toNat mod).ops L Q).length=L.length))
theorem infIs_any (P M : Int) (am : Option Addr) (mn cm : Nat) (mod : List Int) (N : Int) (a : Option Addr) (n c : Nat) (L : List (List Int)) (ao : Option Addr) (no co : Nat) (Q : List Int) (w : World)
  (hmod : Ints w am mn mod) (hi : Mat w a n L) (hq : Ints w ao no Q) :
  Calls Tryz.prog 167 #[.agg #[.int .i64 P,.int .i64 M,.slice am mn cm,.int .i64 N,.slice a n c],.slice ao no co] w
   λe w'=>e = .returned (.tuple #[.bool (isV P M mod N L Q),.int .i64 (rankE P M mod N L Q)])/\Below w.heap.size w w':=by
 have hql:=hq.len
 have hil:=hi.len
 go_enter Tryz.func167,Tryz.ntmps167
 go_wp2_with fail
 obtain ⟨W,hW⟩ : ∃W : World,W=w.alloc (.cells #[.int .i64 P,.int .i64 M,.slice am mn cm,.int .i64 N,.slice a n c] 27):=⟨_,rfl⟩
 rw [<- hW]
 have hbW : Below w.heap.size w W:=by rw [hW];exact below1 _ _
 have x0 : Box W w.heap.size [.int .i64 P,.int .i64 M,.slice am mn cm,.int .i64 N,.slice a n c]:=by rw [hW];exact Box.new _ _ _ rfl
 have HX:=Lib.hid x0
 clear hW x0
 refine (rank_any P M am mn cm mod N a n c L ao no co Q W (hmod.keep hbW) (hi.keep hbW) (hq.keep hbW)).mono ?_
 rintro e w1 ⟨hb1,⟨hE,rfl⟩ | ⟨hE,rfl⟩⟩
 ·have HV : Hid (isV P M mod N L Q=false):=by show _=_;unfold isV;rw [decide_eq_false hE];rfl
  have hE1 : (rankE P M mod N L Q == 0)=false:=by simpa using hE
  have hbw1:=Below.next hbW hb1
  clear hE hql hil
  go_wp2_with fail
  go_ret2
  exact ⟨by rw [HV.out];rfl,hbw1⟩
 ·have HV : Hid (isV P M mod N L Q=(decide ((grS (tblOf P M.toNat mod).ops L Q).length=no) && decide ((grS (tblOf P M.toNat mod).ops L Q).length=n))):=by show _=_;unfold isV;rw [decide_eq_true hE,hql,hil];rfl
  have hbw1:=Below.next hbW hb1
  have xU:=HX.out.keep hb1
  have b4:=xU.cell 4 rfl
  have HE:=Lib.hid hE
  clear hE hql hil xU
  obtain ⟨r,hr⟩ : ∃r,(grS (tblOf P M.toNat mod).ops L Q).length=r:=⟨_,rfl⟩
  rw [hr] at HV ⊢
  clear hr
  by_cases h1 : r=no
  ·subst h1
   have h1' : ((r : Int) == r)=true:=by simp
   by_cases h2 : r=n
   ·subst h2
    have HV2 : Hid (isV P M mod N L Q=true):=by show _=_;rw [HV.out];simp
    clear HV
    go_wp2_with fail
    go_ret2
    exact ⟨by rw [HV2.out,HE.out];rfl,hbw1⟩
   ·have h2' : ((r : Int) == n)=false:=by simp only [beq_eq_false_iff_ne,ne_eq];omega
    have HV2 : Hid (isV P M mod N L Q=false):=by show _=_;rw [HV.out];simp [h2]
    clear h2 HV
    go_wp2_with fail
    go_ret2
    exact ⟨by rw [HV2.out,HE.out];rfl,hbw1⟩
  ·have h1' : ((r : Int) == no)=false:=by simp only [beq_eq_false_iff_ne,ne_eq];omega
   have HV2 : Hid (isV P M mod N L Q=false):=by show _=_;rw [HV.out];simp [h1]
   clear h1 HV
   go_wp2_with fail
   go_ret2
   exact ⟨by rw [HV2.out,HE.out];rfl,hbw1⟩
end

section
open Go.RowKit
theorem OMat.setOther {w : World} {B : Nat} {a : Option Addr} {n c : Nat} {R : List (Option Addr × Nat)} {L : List (List Int)} (h : OMat w B a n c R L) {p : Addr} (hp : p.block<B) (v : Value) : OMat (w.setCell p v) B a n c R L :=
 h.of_blocks λb hb=>Below.heap_setCell _ _ _ _ (by have:=(h.lt b hb).1;omega)
structure MOut (w : World) (g : Nat) (x : Value) (a : Option Addr) (k c : Nat) (R : List (Option Addr × Nat)) (L : List (List Int)) : Prop where
 lt : g<w.heap.size
 c0 : w.cell? ⟨g,0,none⟩=some x
 c1 : w.cell? ⟨g,1,none⟩=some (.slice a k c)
 fr : ∀i,w.frozen? ⟨g,i,none⟩=false
 om : OMat w (g+1) a k c R L
namespace MOut

variable {w w' w4 w5 : World} {g : Nat} {x : Value} {a : Option Addr} {k c : Nat} {R : List (Option Addr × Nat)} {L : List (List Int)}
theorem keep (h : MOut w g x a k c R L) (hb : Below w.heap.size w w') : MOut w' g x a k c R L :=
 ⟨Nat.lt_of_lt_of_le h.lt hb.size,cell_keep hb h.c0,cell_keep hb h.c1,λi=>frozen_keep hb h.lt (h.fr i),h.om.keep hb⟩
theorem apt (h : MOut w g x a k c R L) : Apt a g:=by
 by_cases ha : a=none
 ·exact .inl ha
 ·exact .inr λe=>by have:=(own_ne h.om.own ha).1;omega
theorem pushed {o : Obj} (h : MOut w4 g x a k c R L) (hgr5 : (w4.alloc o).grownBy w5 (Value.slice a k c).ownBlock) : w5.cell? ⟨g,0,none⟩=some x/\w5.cell? ⟨g,1,none⟩=some (.slice a k c)/\w5.frozen? ⟨g,1,none⟩=false:=by
 have hb1:=below1 w4 o
 have hlt:=h.lt
 have hs1:=hb1.size
 exact ⟨cell_grownApt hgr5 (cell_box h.c0 o) h.apt,cell_grownApt hgr5 (cell_box h.c1 o) h.apt,
  (World.frozen?_of_block (w:=w4.alloc o) (a:=⟨g,1,none⟩) (hgr5.block g (by omega) λe=>h.apt.own k c e.symm)).trans (frozen_box h.lt (h.fr 1) _)⟩
theorem push {a4 a5 : Option Addr} {n4 c4 c5 : Nat} {N : List Int} {o : Obj} (h : MOut w4 g x a k c R L) (hn4 : N.length=n4)
  (hown4 : w4.ownsRow (g+1) 3 1 (.slice a4 n4 c4) n4 (N.map (Value.int .i64))) (hra : a4 ≠ none->¬ OIn a R (ablk a4))
  (hown5 : w5.ownsRow (g+1) 22 1 (.slice a5 (k+1) c5) (k+1) (List.zipWith rowV R L ++ [.slice a4 n4 c4])) (hgr5 : (w4.alloc o).grownBy w5 (Value.slice a k c).ownBlock)
  (hap5 : ∀x,x<(w4.alloc o).heap.size->Apt a x->Apt a5 x) :
  MOut (w5.setCell ⟨g,1,none⟩ (.slice a5 (k+1) c5)) g x a5 (k+1) c5 (R ++ [(a4,c4)]) (L ++ [N])/\Below g w4 (w5.setCell ⟨g,1,none⟩ (.slice a5 (k+1) c5)):=by
 subst hn4
 have hb1:=below1 w4 o
 have hO:=h.om.keep hb1
 have hr:=own_keep hown4 hb1
 have hP:=OMat.push hO hr hra hown5 hgr5 hap5
 have hlt:=h.lt
 have hs1:=hb1.size
 have hB5 : Below (g+1) w4 w5:=Below.app (hb1.mono (by omega)) hO.own hgr5 (Nat.le_refl _) (by omega)
 have hs:=hB5.size
 have k0:=cell_grownApt hgr5 (cell_box h.c0 o) h.apt
 have k1:=cell_grownApt hgr5 (cell_box h.c1 o) h.apt
 refine ⟨⟨by simp;omega,?_,World.cell?_setCell_same _ _ _ k1,λi=>?_,hP.setOther (by simp) _⟩,(hB5.mono (by omega)).setCell (by simp) _⟩
 ·rw [World.cell?_setCell_other _ _ _ _ (by simp)];exact k0
 ·rw [World.frozen?_setCell]
  exact (World.frozen?_of_block (w:=w4.alloc o) (a:=⟨g,i,none⟩) (hgr5.block g (by omega) λe=>h.apt.own k c e.symm)).trans (frozen_box h.lt (h.fr i) _)
theorem start {U : World} {g : Nat} {x : Value} (hU : Box U g [x,.slice none 0 0]) : MOut U g x none 0 0 [] [] :=
 ⟨hU.1,hU.cell 0 rfl,hU.cell 1 rfl,hU.frozen,OMat.empty _ _⟩
end MOut
end

section
open Go.RowKit
def stV : List (Option Addr × Nat)->List (List Int × Int)->List Value
 | r :: R,t :: T=>.slice r.1 t.1.length r.2 :: .int .i64 t.2 :: stV R T
 | _,_=>[]
theorem stV_snoc (r : Option Addr × Nat) (t : List Int × Int) : ∀(R : List (Option Addr × Nat)) (T : List (List Int × Int)),R.length=T.length->stV (R ++ [r]) (T ++ [t])=stV R T ++ [.slice r.1 t.1.length r.2,.int .i64 t.2]
 | [],[],_=>rfl
 | [],_ :: _,h=>by simp at h
 | _ :: _,[],h=>by simp at h
 | x :: R,y :: T,h=>by
  rw [List.cons_append,List.cons_append,stV,stV_snoc r t R T (by simpa using h)]
  rfl
theorem wpList_push2 {P : Program} {w : World} {ops : Array Oper} {rest : List Oper} {o : Oper} {ac : Act} {Q : Exit->Act->World->Prop}
  (hg : o.guard=none) (s x : Operand) (t e : TypeId) (hop : o.op = .call { callee:=.builtin .append,args:=#[s,x],argTypes:=#[t,t] }) (z : Value) (bytes : Nat)
  (h1 : P.underlying t=some (.slice e)) (h2 : (P.info? e).map (λi=>(i.zero,i.size,i.bytes))=some (some z,2,bytes)) (hz : z.cells.size=2)
  (B : Nat) (a : Option Addr) (n c : Nat) (xs : List Value) (hs : ac.eval s = .slice a n c) (hown : w.ownsRow B e 2 (.slice a n c) n xs)
  (g cc : Nat) (u v : Value) (hx : ac.eval x = .slice (some ⟨g,0,none⟩) 1 cc) (hu : w.cell? ⟨g,0,none⟩=some u) (hv : w.cell? ⟨g,1,none⟩=some v) (h1c : u.oneCell'=true) (h1d : v.oneCell'=true)
  (b2 : (n+1) * bytes<=140737488355328) (b3 : n+1<=maxLen) (hB : B<=w.heap.size)
  (hK : ∀a' c' w',w'.ownsRow B e 2 (.slice a' (n+1) c') (n+1) (xs ++ [u,v])->w.grownBy w' (Value.slice a n c).ownBlock->(∀b,b<w.heap.size->Apt a b->Apt a' b)->wpList P ops Q rest (ac.put o.dst (.slice a' (n+1) c')) w') :
  wpList P ops Q (o :: rest) ac w:=by
 obtain ⟨i,hi,hz0,hz1,hz2⟩ : ∃i,P.info? e=some i/\i.zero=some z/\i.size=2/\i.bytes=bytes:=by
  cases hp : P.info? e with
  | none=>rw [hp] at h2;cases h2
  | some i=>rw [hp] at h2;simp at h2;exact ⟨i,rfl,h2.1,h2.2.1,h2.2.2⟩
 refine wpList_append_own_at w hg s x t hop B e i z 2 bytes h1 hi hz0 hz1 hz2 hz (by decide) _ n xs hs hown ⟨g,0,none⟩ 1 cc [u,v] hx rfl ?_ ?_ b3 b2 hB λv' w' hown' hgr _ hat=>?_
 ·intro j y hj
  match j,hj with
  | 0,hj=>simp at hj;subst hj;simpa [Addr.add] using hu
  | 1,hj=>simp at hj;subst hj;simpa [Addr.add] using hv
 ·intro y hy
  simp at hy
  rcases hy with rfl | rfl
  ·exact h1c
  ·exact h1d
 ·obtain ⟨a',c',rfl⟩ : ∃a' c',v' = .slice a' (n+1) c':=by
   rcases hown'.2 with ⟨_,h0⟩ | ⟨g',cap,cur,rfl,_⟩
   ·omega
   ·exact ⟨_,cap,rfl⟩
  refine hK a' c' w' hown' hgr λb hb hapt=>?_
  have h:=hapt.own n c
  rcases hat with h3 | h3
  ·exact Apt.of_own (n:=n+1) (c:=c') (by rw [h3];exact h)
  ·exact Apt.of_own (n:=n+1) (c:=c') (by rw [h3];intro h4;cases h4;omega)
structure OSt (w : World) (B : Nat) (a : Option Addr) (k c : Nat) (R : List (Option Addr × Nat)) (T : List (List Int × Int)) : Prop where
 rl : R.length=k
 tl : T.length=k
 own : w.ownsRow B 64 2 (.slice a k c) k (stV R T)
 row : ∀p ∈ R.zip T,Ints w p.1.1 p.2.1.length p.2.1/\(p.1.1 ≠ none->B<=ablk p.1.1/\ablk p.1.1<w.heap.size)/\(p.1.1 ≠ none->Apt a (ablk p.1.1))
namespace OSt

variable {w w' w5 V : World} {B : Nat} {a : Option Addr} {k c : Nat} {R : List (Option Addr × Nat)} {T : List (List Int × Int)}
theorem start (w : World) (B : Nat) : OSt w B none 0 0 [] []:=⟨rfl,rfl,⟨rfl,.inl ⟨rfl,rfl⟩⟩,λp hp=>by simp at hp⟩
theorem blk (h : OSt w B a k c R T) (ha : a ≠ none) : B<=ablk a/\ablk a<w.heap.size:=by
 rcases h.own.2 with ⟨hv,_⟩ | ⟨g,cap,cur,hv,hg,hh,_⟩
 ·cases hv;exact absurd rfl ha
 ·cases hv;exact ⟨hg,(Array.getElem?_eq_some_iff.1 hh).1⟩
theorem of_blocks (h : OSt w B a k c R T) (hs : w.heap.size<=w'.heap.size) (h1 : a ≠ none->w'.heap[ablk a]? = w.heap[ablk a]?) (h2 : ∀r ∈ R,r.1 ≠ none->w'.heap[ablk r.1]? = w.heap[ablk r.1]?) : OSt w' B a k c R T:=by
 refine ⟨h.rl,h.tl,⟨h.own.1,?_⟩,λp hp=>?_⟩
 ·rcases h.own.2 with hn | ⟨g,cap,cur,hv,hg,hh,r⟩
  ·exact .inl hn
  ·cases hv
   exact .inr ⟨g,_,cur,rfl,hg,by rw [show w'.heap[g]? = w.heap[g]? from h1 (by simp)];exact hh,r⟩
 ·obtain ⟨g1,g2,g3⟩:=h.row p hp
  have hm : p.1 ∈ R:=(List.of_mem_zip (a:=p.1) (b:=p.2) hp).1
  refine ⟨g1.of_block λhn=>h2 p.1 hm λe=>?_,λhn=>⟨(g2 hn).1,Nat.lt_of_lt_of_le (g2 hn).2 hs⟩,g3⟩
  have:=g1.pl hn
  rw [e] at this;cases this
theorem keep (h : OSt w B a k c R T) (hb : Below w.heap.size w w') : OSt w' B a k c R T :=
 h.of_blocks hb.size (λha=>hb.block _ (h.blk ha).2) λr hr hn=>by
  obtain ⟨i,hi,rfl⟩:=List.mem_iff_getElem.1 hr
  have hi2 : i<T.length:=by rw [h.tl,<- h.rl];exact hi
  exact hb.block _ ((h.row (R[i],T[i]) (List.mem_iff_getElem.2 ⟨i,by simp;omega,by simp⟩)).2.1 hn).2
theorem row_of (h : OSt w B a k c R T) {r : Option Addr × Nat} (hr : r ∈ R) (hn : r.1 ≠ none) : (B<=ablk r.1/\ablk r.1<w.heap.size)/\Apt a (ablk r.1):=by
 obtain ⟨i,hi,rfl⟩:=List.mem_iff_getElem.1 hr
 have hi2 : i<T.length:=by rw [h.tl,<- h.rl];exact hi
 have h1:=h.row (R[i],T[i]) (List.mem_iff_getElem.2 ⟨i,by simp;omega,by simp⟩)
 exact ⟨h1.2.1 hn,h1.2.2 hn⟩
theorem grown {au : Option Addr} {nu cu : Nat} (h : OSt w B a k c R T) (hg : w.grownBy w' (Value.slice au nu cu).ownBlock) (h1 : a ≠ none->Apt au (ablk a)) (h2 : ∀r ∈ R,r.1 ≠ none->Apt au (ablk r.1)) : OSt w' B a k c R T :=
 h.of_blocks hg.size (λha=>hg.block _ (h.blk ha).2 λe=>(h1 ha).own nu cu e.symm) λr hr hn=>hg.block _ (h.row_of hr hn).1.2 λe=>(h2 r hr hn).own nu cu e.symm
theorem push {sa a5 : Option Addr} {sc c5 : Nat} {S : List Int} {rk : Int} (h : OSt V B a k c R T) (hS : Ints V sa S.length S) (hSB : sa ≠ none->B<=ablk sa/\ablk sa<V.heap.size) (hSa : sa ≠ none->Apt a (ablk sa))
  (hown5 : w5.ownsRow B 64 2 (.slice a5 (k+1) c5) (k+1) (stV R T ++ [.slice sa S.length sc,.int .i64 rk])) (hgr5 : V.grownBy w5 (Value.slice a k c).ownBlock)
  (hap5 : ∀b,b<V.heap.size->Apt a b->Apt a5 b) : OSt w5 B a5 (k+1) c5 (R ++ [(sa,sc)]) (T ++ [(S,rk)]):=by
 refine ⟨by simp [h.rl],by simp [h.tl],by rw [stV_snoc _ _ R T (by rw [h.rl,h.tl])];exact hown5,λp hp=>?_⟩
 rw [List.zip_append (by rw [h.rl,h.tl])] at hp
 rcases List.mem_append.1 hp with hp | hp
 ·obtain ⟨g1,g2,g3⟩:=h.row p hp
  refine ⟨g1.of_block λhn=>?_,λhn=>⟨(g2 hn).1,Nat.lt_of_lt_of_le (g2 hn).2 hgr5.size⟩,λhn=>hap5 _ (g2 hn).2 (g3 hn)⟩
  have hne : p.1.1 ≠ none:=λe=>by
   have:=g1.pl hn
   rw [e] at this;cases this
  exact hgr5.block _ (g2 hne).2 λe=>(g3 hne).own k c e.symm
 ·simp at hp
  subst hp
  refine ⟨hS.of_block λhn=>?_,λhn=>⟨(hSB hn).1,Nat.lt_of_lt_of_le (hSB hn).2 hgr5.size⟩,λhn=>hap5 _ (hSB hn).2 (hSa hn)⟩
  have hne : sa ≠ none:=λe=>by
   have:=hS.pl hn
   rw [e] at this;cases this
  exact hgr5.block _ (hSB hne).2 λe=>(hSa hne).own k c e.symm
end OSt
end

section
open Go.RowKit
structure StR (w : World) (a : Option Addr) (n : Nat) (T : List (List Int × Int)) : Prop where
 len : T.length=n
 pl : Pl a n
 max : n<=maxLen
 cell : ∀i (h : i<T.length),∃sa sc,w.cell? ⟨ablk a,aoff a+i * 2,none⟩=some (.slice sa T[i].1.length sc)/\w.cell? ⟨ablk a,aoff a+i * 2+1,none⟩=some (.int .i64 T[i].2)/\Ints w sa T[i].1.length T[i].1
theorem StR.keep {w w' : World} {a : Option Addr} {n : Nat} {T : List (List Int × Int)} (h : StR w a n T) (hb : Below w.heap.size w w') : StR w' a n T :=
 ⟨h.len,h.pl,h.max,λi hi=>by
  obtain ⟨sa,sc,h1,h2,h3⟩:=h.cell i hi
  exact ⟨sa,sc,cell_keep hb h1,cell_keep hb h2,h3.keep hb⟩⟩
theorem stV_at : ∀(R : List (Option Addr × Nat)) (T : List (List Int × Int)),R.length=T.length->∀i (h : i<T.length) (h2 : i<R.length),(stV R T)[i * 2]? = some (.slice (R[i]).1 (T[i]).1.length (R[i]).2)/\(stV R T)[i * 2+1]? = some (.int .i64 (T[i]).2)
 | [],[],_,i,h,_=>by simp at h
 | [],_ :: _,h,_,_,_=>by simp at h
 | _ :: _,[],h,_,_,_=>by simp at h
 | r :: R,t :: T,h,0,_,_=>by simp [stV]
 | r :: R,t :: T,h,i+1,hi,hi2=>by
  have:=stV_at R T (by simpa using h) i (by simpa using hi) (by simpa using hi2)
  rw [stV,show (i+1) * 2=i * 2+1+1 by omega]
  simpa using this
theorem OSt.str {w : World} {B : Nat} {a : Option Addr} {k c : Nat} {R : List (Option Addr × Nat)} {T : List (List Int × Int)} (h : OSt w B a k c R T) : StR w a k T:=by
 have hRT : R.length=T.length:=by rw [h.rl,h.tl]
 rcases h.own.2 with ⟨hv,h0⟩ | ⟨g,cap,cur,hv,hg,hh,hn,hm,hs,ht⟩
 ·cases hv
  have hT : T=[]:=List.eq_nil_of_length_eq_zero h.tl
  subst hT
  exact ⟨rfl,λh=>by omega,by unfold maxLen;omega,λi hi=>by simp at hi⟩
 ·cases hv
  refine ⟨h.tl,λ_=>rfl,by omega,λi hi=>?_⟩
  have hi2 : i<R.length:=by omega
  obtain ⟨e1,e2⟩:=stV_at R T hRT i hi hi2
  have hc:=World.ownsRow.cells h.own (g:=g) rfl
  have h3:=h.row (R[i],T[i]) (List.mem_iff_getElem.2 ⟨i,by simp;omega,by simp⟩)
  have c1:=hc _ _ e1
  have c2:=hc _ _ e2
  rw [Addr.add_lit] at c1 c2
  refine ⟨(R[i]).1,(R[i]).2,?_,?_,h3.1⟩
  ·simpa [ablk,aoff] using c1
  ·simpa [ablk,aoff] using c2
end

end Go.Proofs.YtcfmiocdlcapoaaGreat
