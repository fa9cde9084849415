import Derived.Test.YtcfmiocdlcapoaaGreatMCS5
namespace Go.Proofs.YtcfmiocdlcapoaaGreat
set_option linter.all false
set_option maxRecDepth 100000
set_option maxHeartbeats 4000000
open Go.RowKit Go.Proofs.Tryz
section
variable {w : World} {b : Nat} {G : cW}
theorem cw.flip {El : Int->Prop} {m n t j k : Nat} {L : Ll} (h : cw El m L) (hl : L.length=n) (ht : t<n) (hj : j<n) (hz : nth (an L j) k ≠ 0) :
  cw El m (if j=t then L else bh L t j)/\(if j=t then L else bh L t j).length=n/\nth (an (if j=t then L else bh L t j) t) k ≠ 0:=by
 split
 ·rename_i e;subst e;exact ⟨h,hl,hz⟩
 ·rename_i e;refine ⟨h.swap (by omega) (by omega),by rw [dJ];exact hl,?_⟩;rw [nU _ _ _ _ (by omega) (by omega),kA,I5 (by omega),I6 rfl];exact hz
theorem jG (L : Ll) (i : Nat) : L.set i (an L i)=L:=by
 apply L5;intro j;rw [Kp];by_cases h : i=j
 ·subst h;by_cases h1 : i<L.length
  ·simp [h1,an]
  ·simp [h1]
 ·simp [h]
theorem aY {w : World} {p : Addr} {v : Value} (h : w.cell? p=some v) (o : Obj) : (w.alloc o).cell? p=some v:=aB ((I1 _ _).alloc (IZ _) o) h
theorem bk (w : World) (x : Value) (e : TypeId) : (w.alloc (.cells #[x] e)).cell? ⟨w.heap.size,0,none⟩=some x:=aG w #[x] e rfl 0
theorem kb (w : World) (x : Value) (e : TypeId) : (w.alloc (.cells #[x] e)).frozen? ⟨w.heap.size,0,none⟩=false:=by simp
theorem bM (w : World) (x : Value) (e : TypeId) {s : Nat} (hs : s=w.heap.size) : (w.alloc (.cells #[x] e)).cell? ⟨s,0,none⟩=some x:=by subst hs;exact bk w x e
structure IA (w0 w W0 : World) (a : OA) (n c : Nat) (R : La) (wr : World) (R' : La) (Lk : Ll) (len : Nat) (G : cW) : Prop where
 om : aP wr w0.heap.size a n c R' Lk
 mv : aA W0 wr (bS a R) (bS a R')
 rws : cw G.El len Lk
def wP (w0 : World) (a : OA) (n c : Nat) (R : La) (L : Ll) (m : Nat) (G : cW) (w : World) (e : Ending) (w' : World) : Prop :=
 ∃R' ap cp d,e = .returned (.tuple #[.slice ap (aD G.ops L m).2.length cp,.int .i64 d])/\aP w' w0.heap.size a n c R' (aD G.ops L m).1 /\
  w'.ownsRow w.heap.size 3 1 (.slice ap (aD G.ops L m).2.length cp) (aD G.ops L m).2.length ((aD G.ops L m).2.map (Value.int .i64))/\aA w w' (bS a R) (bS a R')/\NS w0 w'
theorem sy (w0 : World) (a : OA) (n c m len : Nat) (R : La) (L : Ll) (h : dT w0 b G) (hb : NS w0 w) (hO : aP w w0.heap.size a n c R L)
  (hR : cw G.El len L) (hml : m<=len) (hlen : len<=1000000) (hn : n<=1000000) :
  Calls prog 214 #[.pointer (some ⟨b,0,none⟩),.slice a n c,.int .i64 m,.slice none 0 0] w (wP w0 a n c R L m G w):=by
 have hfin : ∀w' R' ap cp d Lk P,(Lk,P)=aD G.ops L m->aP w' w0.heap.size a n c R' Lk->w'.ownsRow w.heap.size 3 1 (.slice ap P.length cp) P.length (P.map (Value.int .i64))->aA w w' (bS a R) (bS a R') ->
   wP w0 a n c R L m G w (.returned (.tuple #[.slice ap P.length cp,.int .i64 d])) w':=by
  intro w' R' ap cp d Lk P he h1 h2 h3;have e1 : (aD G.ops L m).1=Lk:=by rw [<- he]
  have e2 : (aD G.ops L m).2=P:=by rw [<- he]
  refine ⟨R',ap,cp,d,?_,?_,?_,h3,hb.trans (h3.below (λb' hb'=>(hO.lt b' hb').1) hb.size)⟩
  ·rw [e2]
  ·rw [e1];exact h1
  ·rw [e2];exact h2
 have Hfin:=Z5 hfin;clear hfin;have hpl:=hO.pl;have hGe : G.El 1:=⟨by omega,by have:=h.q2;omega⟩
 have hal:=((I1 w.heap.size w).alloc (IZ _) (.cells #[.pointer (some ⟨b,0,none⟩)] 95))
 go_enter func214,ntmps214;have hmf : ∀(fn : Fn) (first cap : Array Value) (w : World),(Instr.makeFunc fn first cap).run prog w = .ok (.func fn first cap) w:=λ_ _ _ _=>rfl;go_wp2_with fail;obtain ⟨W0,hW0⟩ : ∃W0 : World,W0=((w.alloc (.cells #[.pointer (some ⟨b,0,none⟩)] 95)).alloc (.cells #[.slice a n c] 25)).alloc (.cells #[.slice none 0 0] 25):=⟨_,rfl⟩
 rw [<- hW0];have hbW0 : NS w W0:=by rw [hW0];exact ((hal.alloc (by simp) _).alloc (by simp;omega) _)
 have hsW0 : w.heap.size+1+1+1=W0.heap.size:=by rw [hW0];simp
 have q0 : W0.cell? ⟨w.heap.size,0,none⟩=some (.pointer (some ⟨b,0,none⟩)):=by rw [hW0];exact aY (aY (bk _ _ _) _) _
 have q1 : W0.cell? ⟨w.heap.size+1,0,none⟩=some (.slice a n c):=by rw [hW0];exact aY (bM _ _ _ (by simp)) _
 have q2 : W0.cell? ⟨w.heap.size+1+1,0,none⟩=some (.slice none 0 0):=by rw [hW0];exact bM _ _ _ (by simp)
 have HsW0:=Z5 hsW0;clear hsW0 hW0 hal;go_loopw [10,12,13] (λdv pv cv wr=>∃(k : Nat) (R' : La) (ap : OA) (cp : Nat) (d : Int) (Lk : Ll) (P : Lz),k<=m/\cv = .int .i64 k/\pv = .slice ap P.length cp/\dv = .int .i64 d /\
   Hid ((Lk,P)=aD G.ops L k)/\aP wr w0.heap.size a n c R' Lk/\wr.ownsRow (w.heap.size+1+1+1) 3 1 (.slice ap P.length cp) P.length (P.map (Value.int .i64))/\Hid (ap ≠ none->¬ bS a R' (aj ap)) /\
   aA W0 wr (bS a R) (bS a R')/\cw G.El len Lk/\G.El d/\P.length<=n)
  (λ_ _ cv _=>m - (intOf cv).toNat)
 case atStart =>
  exact ⟨0,R,none,0,1,L,[],I7 _,rfl,rfl,rfl,rfl,hO.aa hbW0,bX,λh=>absurd rfl h,Ns _ _,hR,hGe,I7 _⟩
 case round =>
  obtain ⟨k,R',ap,cp,d,Lk,P,hkm,rfl,rfl,rfl,hst,hOr,hop,hoi,hmv,hrw,hde,hPn⟩:=hrel
  generalize wr=V at *
  have r0:=hmv.cell q0 (hO.new (IZ _))
  have r1:=hmv.cell q1 (hO.new (by simp))
  have r2:=hmv.cell q2 (hO.new (by simp;omega))
  have hmw : aA w V (bS a R) (bS a R'):=(Nn hbW0 _).trans hmv
  have hLkn : Lk.length=n:=hOr.ll
  have HLkn:=Z5 hLkn
  clear hLkn
  by_cases hk : k<m
  ·by_cases hPl : P.length<n
   ·have hPl' : (P.length : Int)<n:=by omega
    have hk' : (k : Int)<m:=by omega
    go_wp2_with fail
    obtain ⟨Y,hY⟩ : ∃Y : World,Y=(V.alloc (.cells #[.int .i64 P.length] 3)).alloc (.cells #[.int .i64 P.length] 3):=⟨_,rfl⟩
    rw [<- hY]
    have hbY : NS V Y:=by rw [hY];exact ((I1 _ _).alloc (IZ _) _).alloc (by simp) _
    have hYs : Y.heap.size=V.heap.size+2:=by rw [hY];simp
    have yt : Y.cell? ⟨V.heap.size,0,none⟩=some (.int .i64 P.length):=by rw [hY];exact aY (bk _ _ _) _
    have yk : Y.cell? ⟨V.heap.size+1,0,none⟩=some (.int .i64 P.length):=by rw [hY];exact bM _ _ _ (by simp)
    have yf : Y.frozen? ⟨V.heap.size+1,0,none⟩=false:=by rw [hY];simp
    have HYs:=Z5 hYs
    have HPn:=Z5 hPn
    clear hY hYs
    go_loopw [] (λwx=>∃j : Nat,P.length<=j/\j<=n/\Hid (bn Lk k P.length=bn Lk k j)/\wx.cell? ⟨V.heap.size+1,0,none⟩=some (.int .i64 j)/\wx.frozen? ⟨V.heap.size+1,0,none⟩=false/\Below (V.heap.size+1) Y wx)
     (λwx=>n - (intOf ((wx.cell? ⟨V.heap.size+1,0,none⟩).getD undef)).toNat)
    case atStart=>exact ⟨P.length,IZ _,hPn,rfl,yk,yf,I1 _ _⟩
    case round =>
     obtain ⟨j,hj1,hj2,hfr,kx,kf,hYx⟩:=hrel
     have hbx : NS V wr:=hbY.trans (hYx.mono (by omega))
     have hOx:=hOr.aa hbx
     have x0:=aB hbx r0
     have x1:=aB hbx r1
     have x2:=aB hbx r2
     have xt : wr.cell? ⟨V.heap.size,0,none⟩=some (.int .i64 P.length):=(hYx.cell (by simp)).trans yt
     by_cases hjn : j<n
     ·have hLj : j<Lk.length:=by rw [HLkn.out];exact hjn
      have hrow:=hrw.row hLj
      have ci:=hOx.cell hjn
      have ri:=hOx.ints hjn
      rw [hrow.1] at ci ri
      have ck:=ri.cell k (by omega)
      have hpr:=ri.pl
      have hkl : (k : Int)<len:=by omega
      have hfs:=gh (c:=k) hLj
      by_cases hz : nth (an Lk j) k=0
      ·rw [I6 hz] at hfs
       have hz' : (nth (an Lk j) k == 0)=true:=by simpa using hz
       have Hf : Hid (bn Lk k P.length=bn Lk k (j+1)):=by show _=_;rw [hfr.out,hfs]
       clear hz hfs hrow
       go_wp2_with fail
       go_roundw
       case rel =>
        refine ⟨j+1,by omega,by omega,Hf.out,Jk _ _ _ kx,by rw [J8];exact kf,hYx.setCell (by simp) _⟩
       case measure=>rw [Jk _ _ _ kx,kx];simp [intOf] <;> omega
      ·rw [I5 hz] at hfs
       have hz' : (nth (an Lk j) k == 0)=false:=by simpa using hz
       have Hf : Hid (bn Lk k P.length=j):=by show _=_;rw [hfr.out,hfs]
       have hjn' : ((j : Int) == n)=false:=by simp;omega
       have Hz:=Z5 hz
       clear hz
       have Hrow:=Z5 hrow
       clear hfs hrow
       have n0 : ¬ bS a R' w.heap.size:=hmv.not (by have:=HsW0.out;omega) (hO.new (IZ _))
       have n1 : ¬ bS a R' (w.heap.size+1):=hmv.not (by have:=HsW0.out;omega) (hO.new (by omega))
       have n2 : ¬ bS a R' (w.heap.size+1+1):=hmv.not (by have:=HsW0.out;omega) (hO.new (by omega))
       have nt : ¬ bS a R' V.heap.size:=hOr.new (IZ _)
       have nk : ¬ bS a R' (V.heap.size+1):=hOr.new (by omega)
       have hx0 : NS w0 wr:=hb.trans (aA.below (hmw.trans (Nn hbx _)) (λb' hb'=>(hO.lt b' hb').1) hb.size)
       have HN:=Z5 (Jg n0 (Jg n1 (Jg n2 (Jg nt nk))))
       clear n0 n1 n2 nt nk
       go_upto_if 58 with fail
       go_cut [10] (λdv wx=>∃(d' : Int) (R1 : La),dv = .int .i64 d'/\G.El d'/\aP wx w0.heap.size a n c R1 (if j=P.length then Lk else bh Lk P.length j)/\aA wr wx (bS a R') (bS a R1))
       case first =>
        by_cases hjt : j=P.length
        ·have hjt' : ((j : Int) != P.length)=false:=by simp [hjt]
         have Hm : Hid ((if j=P.length then Lk else bh Lk P.length j)=Lk):=I6 hjt
         clear hjt
         go_wp2_with fail
         go_meet
         exact ⟨d,R',rfl,hde,by rw [Hm.out];exact hOx,Ns _ _⟩
        ·have hjt' : ((j : Int) != P.length)=true:=by simp;omega
         have Hm : Hid ((if j=P.length then Lk else bh Lk P.length j)=bh Lk P.length j):=I5 hjt
         have hsw:=qT w0.heap.size a n c R' Lk (V.heap.size+1) V.heap.size j P.length hOx kx xt hjn hPl hjt HN.out.2.2.2.2 HN.out.2.2.2.1
         have hea:=BJ _ _ (w.heap.size+1) (w.heap.size+1+1) a n c (λw'=>∃R1,aP w' w0.heap.size a n c R1 (bh Lk P.length j)/\aA wr w' (bS a R') (bS a R1)) x1
          (hsw.mono λe w' he=>⟨he.1,by obtain ⟨_,R1,h1,h2⟩:=he;exact h2.cell x2 HN.out.2.2.1,he.2⟩)
         have Hea:=Z5 hea
         clear hjt hsw hea
         go_wp2_with fail
         refine Hea.out.mono ?_
         rintro e w5 ⟨rfl,R1,hO5,hM5⟩
         have z0:=hM5.cell x0 HN.out.1
         have hb5 : NS w0 w5:=hx0.trans (hM5.below (λb' hb'=>(hOx.lt b' hb').1) hx0.size)
         go_wp2_with fail
         refine (Gj d (h.aa hb5) hde).mono ?_
         rintro e w6 ⟨m6,rfl,rfl⟩
         go_wp2_with fail
         go_meet
         exact ⟨_,R1,rfl,cW.ux h d,by rw [Hm.out];exact hO5.aa (below_drewN (I1 _ _) m6),hM5.trans (Nn (below_drewN (I1 _ _) m6) _)⟩
       obtain ⟨d',R1,rfl,hde',hO1,hM1⟩:=hcut
       generalize wc=U at *
       obtain ⟨hrw1,hl1,hnz1⟩:=cw.flip (t:=P.length) hrw HLkn.out hPl hjn Hz.out
       have c0:=hM1.cell x0 HN.out.1
       have c1:=hM1.cell x1 HN.out.2.1
       have c2:=hM1.cell x2 HN.out.2.2.1
       have ct:=hM1.cell xt HN.out.2.2.2.1
       have m0 : ¬ bS a R1 w.heap.size:=hM1.not (Jf wr _ x0) HN.out.1
       have m1 : ¬ bS a R1 (w.heap.size+1):=hM1.not (Jf wr _ x1) HN.out.2.1
       have m2 : ¬ bS a R1 (w.heap.size+1+1):=hM1.not (Jf wr _ x2) HN.out.2.2.1
       have mt : ¬ bS a R1 V.heap.size:=hM1.not (Jf wr _ xt) HN.out.2.2.2.1
       have hc0 : NS w0 U:=hx0.trans (hM1.below (λb' hb'=>(hOx.lt b' hb').1) hx0.size)
       have HM:=Z5 (Jg m0 (Jg m1 (Jg m2 mt)))
       have HL1 : Hid (ed G.ops Lk P.length j k=aR G.ops P.length k (bm G.ops (if j=P.length then Lk else bh Lk P.length j) P.length k) n):=by show _=_;rw [gN,HLkn.out]
       generalize (if j=P.length then Lk else bh Lk P.length j)=L1 at *
       have hrow1:=hrw1.row (i:=P.length) (by omega)
       have tr:=hO1.cell hPl
       have ti:=hO1.ints hPl
       rw [hrow1.1] at tr ti
       have tc:=ti.cell k (by omega)
       have tp:=ti.pl
       have hkl : (k : Int)<len:=by omega
       have hel : G.El (nth (an L1 P.length) k):=hrow1.2 _ (aK (by rw [hrow1.1];omega))
       have hG1:=h.aa hc0
       have HG1 : Hid (dT U.drew b G/\(∀n,dT (U.drewN n) b G)/\∀n,dT ((U.drewN n).alloc (.cells #[.int .i64 0] 3)) b G) :=
        ⟨hG1.aa (I1 _ _).drew,λn=>hG1.drewN n,λn=>(hG1.drewN n).aa ((I1 _ _).alloc (IZ _) _)⟩
       have Hnz:=Z5 hnz1
       have Hl1:=Z5 hl1
       have Hrow1:=Z5 hrow1
       clear hrow1 hl1 hnz1 m0 m1 m2 mt x0 x1 x2 xt kx kf ci ri ck hpr r0 r1 r2 yt yk yf q0 q1 q2
       go_upto_region 15 with fail
       go_cut [10] (λdv wx=>∃d2 : Int,dv = .int .i64 d2/\G.El d2/\bf U wx)
       case first =>
        go_region_held3 (λw'=>w'.cell? ⟨w.heap.size,0,none⟩=some (.pointer (some ⟨b,0,none⟩))/\w'.cell? ⟨w.heap.size+1,0,none⟩=some (.slice a n c)/\w'.cell? ⟨V.heap.size,0,none⟩=some (.int .i64 P.length) /\
          w'.cell? ⟨aj a,aL a+P.length,none⟩=some (.slice (aO R1 P.length).1 len (aO R1 P.length).2)/\w'.cell? ⟨aj (aO R1 P.length).1,aL (aO R1 P.length).1+k,none⟩=some (.int .i64 (nth (an L1 P.length) k)))
         (exact ⟨c0,c1,ct,tr,tc⟩)
         (first
         | (go_at_call 153;((with_reducible refine (n9 d' _ HG1.out.1 hde' hel).mono ?_);rintro e w4 ⟨m4,rfl,rfl⟩)))
        all_goals (
         go_step;go_step
         go_meet
         exact ⟨_,rfl,NJ h _ _,⟨_,rfl⟩⟩)
       obtain ⟨d2,rfl,hde2,m5,rfl⟩:=hcut
       have hS : ∀ W, NS U W → W.cell? ⟨w.heap.size, 0, none⟩ = some (.pointer (some ⟨b, 0, none⟩)) ∧ W.cell? ⟨w.heap.size + 1, 0, none⟩ = some (.slice a n c) ∧ W.cell? ⟨V.heap.size, 0, none⟩ = some (.int .i64 P.length) ∧
             W.cell? ⟨aj a,aL a+P.length,none⟩=some (.slice (aO R1 P.length).1 len (aO R1 P.length).2)/\W.cell? ⟨aj (aO R1 P.length).1,aL (aO R1 P.length).1+k,none⟩=some (.int .i64 (nth (an L1 P.length) k))/\NS U W :=
        λW hW=>⟨aB hW c0,aB hW c1,aB hW ct,aB hW tr,aB hW tc,hW⟩
       have HS:=Z5 hS
       clear hS
       go_upto_region 16 with fail
       go_cut [16,17] (λiv ev wx=>∃gi,iv = .pointer (some ⟨gi,0,none⟩)/\U.heap.size<=gi/\ev = .int .i64 0/\wx.cell? ⟨gi,0,none⟩=some (.int .i64 (G.inv (nth (an L1 P.length) k)))/\NS U wx)
       case first =>
        have hBU : NS U (U.drewN m5):=below_drewN (I1 _ _) m5
        have hfc : ∀k,((U.drewN k).alloc (.cells #[.int .i64 0] 3)).cell? ⟨U.heap.size,0,none⟩=some (.int .i64 0):=λk=>bk (U.drewN k) _ _
        have hfc2 : ∀k k',(((U.drewN k).alloc (.cells #[.int .i64 0] 3)).drewN k').cell? ⟨U.heap.size,0,none⟩=some (.int .i64 0):=λk _=>bk (U.drewN k) _ _
        have hff2 : ∀k k',(((U.drewN k).alloc (.cells #[.int .i64 0] 3)).drewN k').frozen? ⟨U.heap.size,0,none⟩=false:=λk _=>kb (U.drewN k) _ _
        have hff : ∀k,((U.drewN k).alloc (.cells #[.int .i64 0] 3)).frozen? ⟨U.heap.size,0,none⟩=false:=λk=>kb (U.drewN k) _ _
        go_region_held3 (λW=>W.cell? ⟨w.heap.size,0,none⟩=some (.pointer (some ⟨b,0,none⟩))/\W.cell? ⟨w.heap.size+1,0,none⟩=some (.slice a n c)/\W.cell? ⟨V.heap.size,0,none⟩=some (.int .i64 P.length) /\
          W.cell? ⟨aj a,aL a+P.length,none⟩=some (.slice (aO R1 P.length).1 len (aO R1 P.length).2)/\W.cell? ⟨aj (aO R1 P.length).1,aL (aO R1 P.length).1+k,none⟩=some (.int .i64 (nth (an L1 P.length) k))/\NS U W)
         ((refine HS.out _ ?_;first | exact hBU.drew | exact below_drewN (I1 _ _) _ | exact (below_drewN (I1 _ _) _).alloc (IZ _) _ | exact ((below_drewN (I1 _ _) _).alloc (IZ _) _).setCell (IZ _) _ | exact below_drewN ((below_drewN (I1 _ _) _).alloc (IZ _) _) _ | exact (below_drewN ((below_drewN (I1 _ _) _).alloc (IZ _) _) _).setCell (IZ _) _))
         (first
         | (go_at_call 193;((with_reducible refine (zB _ (HG1.out.2.1 _) hel Hnz.out).mono ?_);rintro e w4 ⟨m4,rfl,rfl⟩))
         | (go_at_call 193;((with_reducible refine (zB _ (HG1.out.2.2 _) hel Hnz.out).mono ?_);rintro e w4 ⟨m4,rfl,rfl⟩)))
        all_goals (
         go_step;go_step
         go_meet)
        ·exact ⟨U.heap.size,rfl,IZ _,rfl,Jk _ _ _ (hfc _),((below_drewN (I1 _ _) _).alloc (IZ _) _).setCell (IZ _) _⟩
        ·exact ⟨U.heap.size,rfl,IZ _,rfl,Jk _ _ _ (hfc2 _ _),(below_drewN ((below_drewN (I1 _ _) _).alloc (IZ _) _) _).setCell (IZ _) _⟩
       obtain ⟨gi,rfl,hgi,rfl,ig,hbi⟩:=hcut
       obtain ⟨i0,i1,it,ir,ic,_⟩:=HS.out wc hbi
       have i2:=aB hbi c2
       have hOi:=hO1.aa hbi
       have hci : NS w0 wc:=Ju hc0 (hbi.mono hc0.size)
       have hrw2:=hrw1.norm (NA h) (t:=P.length) (c:=k) (by rw [Hl1.out];exact hPl) (by omega) Hnz.out
       have hl2 : (bm G.ops L1 P.length k).length=n:=by rw [cZ];exact Hl1.out
       have Hl2:=Z5 hl2
       clear hl2
       go_upto_if 92 with fail
       go_cut [] (λwx=>∃R2,aP wx w0.heap.size a n c R2 (bm G.ops L1 P.length k)/\aA U wx (bS a R1) (bS a R2))
       case first =>
        have hv : G.ops.inv (nth (an L1 P.length) k)=G.inv (nth (an L1 P.length) k):=rfl
        have Hv:=Z5 hv
        clear hv
        by_cases hi1 : G.inv (nth (an L1 P.length) k)=1
        ·have Hn : Hid (bm G.ops L1 P.length k=L1):=by show _=_;rw [bm,I6 (by rw [Hv.out];exact hi1)]
         have hi1' : (G.inv (nth (an L1 P.length) k) != 1)=false:=by simp [hi1]
         clear hi1
         go_wp2_with fail
         go_meet
         exact ⟨R1,by rw [Hn.out];exact hOi,Nn hbi _⟩
        ·have Hn : Hid (bm G.ops L1 P.length k=L1.set P.length ((an L1 P.length).map (G.mul (G.inv (nth (an L1 P.length) k))))):=by show _=_;rw [bm,I5 (by rw [Hv.out];exact hi1)];rfl
         have hi1' : (G.inv (nth (an L1 P.length) k) != 1)=true:=by simpa using hi1
         have hsc:=oz w0 a n c R1 L1 w.heap.size gi V.heap.size (G.inv (nth (an L1 P.length) k)) P.length hOi h hci i0 ig it hPl (NP h _) (Hrow1.out.2) (by rw [Hrow1.out.1];exact hlen)
         have hea:=BY _ _ _ (w.heap.size+1) (w.heap.size+1+1) a n c (λw'=>∃R2,aP w' w0.heap.size a n c R2 (bm G.ops L1 P.length k)/\aA U w' (bS a R1) (bS a R2)) i1
          (hsc.mono λe w' he=>⟨he.1,by obtain ⟨_,R2,h1,h2⟩:=he;exact h2.cell i2 HM.out.2.2.1,by obtain ⟨_,R2,h1,h2⟩:=he;exact ⟨R2,by rw [Hn.out];exact h1,(Nn hbi _).trans h2⟩⟩)
         have Hea:=Z5 hea
         clear hi1 hsc hea
         go_wp2_with fail
         refine Hea.out.mono ?_
         rintro e w5 ⟨rfl,R2,hO5,hM5⟩
         go_wp2_with fail
         go_meet
         exact ⟨R2,hO5,hM5⟩
       obtain ⟨R2,hO2,hM2⟩:=hcut
       generalize wc=T at *
       have t0:=hM2.cell c0 HM.out.1
       have t1:=hM2.cell c1 HM.out.2.1
       have t2:=hM2.cell c2 HM.out.2.2.1
       have tt:=hM2.cell ct HM.out.2.2.2
       have hc2 : NS w0 T:=hc0.trans (hM2.below (λb' hb'=>(hO1.lt b' hb').1) hc0.size)
       have k0 : ¬ bS a R2 w.heap.size:=hM2.not (Jf U _ c0) HM.out.1
       have k1 : ¬ bS a R2 (w.heap.size+1):=hM2.not (Jf U _ c1) HM.out.2.1
       have k2 : ¬ bS a R2 (w.heap.size+1+1):=hM2.not (Jf U _ c2) HM.out.2.2.1
       have k3 : ¬ bS a R2 V.heap.size:=hM2.not (Jf U _ ct) HM.out.2.2.2
       have HK:=Z5 (Jg k0 (Jg k1 (Jg k2 k3)))
       have hmT : aA W0 T (bS a R) (bS a R2):=hmv.trans ((Nn hbx _).trans (hM1.trans hM2))
       have hop1:=aX hop hbx
       have hop2:=hM1.own hop1 hoi.out
       have ho2 : ap ≠ none->¬ bS a R1 (aj ap):=λhn=>hM1.not (aM hop1 hn).2 (hoi.out hn)
       have hop3:=hM2.own hop2 ho2
       have ho3 : ap ≠ none->¬ bS a R2 (aj ap):=λhn=>hM2.not (aM hop2 hn).2 (ho2 hn)
       have Ho3:=Z5 ho3
       clear k0 k1 k2 k3 c0 c1 c2 ct tr ti tc tp i0 i1 i2 it ir ic ig hop hop1 hop2 ho2 ho3 hel
       generalize bm G.ops L1 P.length k=L2 at *
       go_upto_region 19 with fail
       go_wp2_with fail
       go_loopw [98] (λiv wx=>∃i : Nat,i<=n/\iv = .int .i64 i/\aP wx w0.heap.size a n c R2 (aR G.ops P.length k L2 i)/\aA T wx (bS a R2) (bS a R2)) (λiv _=>n - (intOf iv).toNat)
       case atStart=>exact ⟨0,I7 _,rfl,hO2,Ns _ _⟩
       case round =>
        obtain ⟨i,hi,rfl,hOi,hMi⟩:=hrel
        generalize wr=X at *
        have x0:=hMi.cell t0 HK.out.1
        have x1:=hMi.cell t1 HK.out.2.1
        have x2:=hMi.cell t2 HK.out.2.2.1
        have xt:=hMi.cell tt HK.out.2.2.2
        have hcx : NS w0 X:=hc2.trans (hMi.below (λb' hb'=>(hO2.lt b' hb').1) hc2.size)
        by_cases hin : i<n
        ·have hrwi:=Nv (NA h) hrw2 (t:=P.length) (c:=k) (by rw [Hl2.out];exact hPl) (by omega) i (by rw [Hl2.out];exact hi)
         have hli : (aR G.ops P.length k L2 i).length=n:=by rw [cY];exact Hl2.out
         have hstep : aR G.ops P.length k L2 (i+1)=if i=P.length then aR G.ops P.length k L2 i else (aR G.ops P.length k L2 i).set i (bY G.ops (an (aR G.ops P.length k L2 i) P.length) k (an (aR G.ops P.length k L2 i) i)):=rfl
         have Hstep:=Z5 hstep
         clear hstep
         generalize aR G.ops P.length k L2 i=Li at *
         have hri:=hrwi.row (i:=i) (by omega)
         have hrt:=hrwi.row (i:=P.length) (by omega)
         have ci:=hOi.cell hin
         have ii:=hOi.ints hin
         rw [hri.1] at ci ii
         have ck:=ii.cell k (by omega)
         have hpi:=ii.pl
         have hxel : G.El (nth (an Li i) k):=hri.2 _ (aK (by rw [hri.1];omega))
         have Hri:=Z5 hri
         have Hrt:=Z5 hrt
         clear hri hrt hli
         have a1:=aY x1 (.cells #[.int .i64 i] 3)
         have a2:=bk X (.int .i64 i) 3
         have a3:=aY ci (.cells #[.int .i64 i] 3)
         have a4:=aY ck (.cells #[.int .i64 i] 3)
         have b1:=aY a1 (.cells #[.int .i64 (nth (an Li i) k)] 3)
         have b2:=aY a2 (.cells #[.int .i64 (nth (an Li i) k)] 3)
         have b3:=aY (aY xt (.cells #[.int .i64 i] 3)) (.cells #[.int .i64 (nth (an Li i) k)] 3)
         have b4 : ((X.alloc (.cells #[.int .i64 i] 3)).alloc (.cells #[.int .i64 (nth (an Li i) k)] 3)).cell? ⟨X.heap.size+1,0,none⟩=some (.int .i64 (nth (an Li i) k)):=bM _ _ _ (by simp)
         by_cases hit : i=P.length
         ·have hit' : ((i : Int) != P.length)=false:=by simp [hit]
          have Hn : Hid (aR G.ops P.length k L2 (i+1)=Li):=by show _=_;rw [Hstep.out,I6 hit]
          clear hit
          go_wp2_with fail
          go_roundw
          case rel=>exact ⟨i+1,by omega,by go_num,by rw [Hn.out];exact hOi.aa (((I1 _ _).alloc (IZ _) _).alloc (by simp) _),hMi.trans (Nn (((I1 _ _).alloc (IZ _) _).alloc (by simp) _) _)⟩
          case measure=>simp [intOf] <;> omega
         ·have hit' : ((i : Int) != P.length)=true:=by simp;omega
          by_cases hx0 : nth (an Li i) k=0
          ·have hx0' : (nth (an Li i) k != 0)=false:=by simp [hx0]
           have Hn : Hid (aR G.ops P.length k L2 (i+1)=Li):=by show _=_;rw [Hstep.out,I5 hit,bY,I6 hx0,jG]
           clear hit hx0
           go_wp2_with fail
           go_roundw
           case rel=>exact ⟨i+1,by omega,by go_num,by rw [Hn.out];exact hOi.aa (((I1 _ _).alloc (IZ _) _).alloc (by simp) _),hMi.trans (Nn (((I1 _ _).alloc (IZ _) _).alloc (by simp) _) _)⟩
           case measure=>simp [intOf] <;> omega
          ·have hx0' : (nth (an Li i) k != 0)=true:=by simpa using hx0
           have Hn : Hid (aR G.ops P.length k L2 (i+1)=Li.set i (bP G.ops (an Li i) (G.neg (nth (an Li i) k)) (an Li P.length))):=by show _=_;rw [Hstep.out,I5 hit,bY,I5 hx0];rfl
           have hbz : NS X ((X.alloc (.cells #[.int .i64 i] 3)).alloc (.cells #[.int .i64 (nth (an Li i) k)] 3)):=((I1 _ _).alloc (IZ _) _).alloc (by simp) _
           have zi : ((X.alloc (.cells #[.int .i64 i] 3)).alloc (.cells #[.int .i64 (nth (an Li i) k)] 3)).cell? ⟨X.heap.size,0,none⟩=some (.int .i64 i):=aY (bk _ _ _) _
           have zx : ((X.alloc (.cells #[.int .i64 i] 3)).alloc (.cells #[.int .i64 (nth (an Li i) k)] 3)).cell? ⟨X.heap.size+1,0,none⟩=some (.int .i64 (nth (an Li i) k)):=bM _ _ _ (by simp)
           have hsw:=oq w0 a n c R2 Li w.heap.size X.heap.size (X.heap.size+1) V.heap.size len i (nth (an Li i) k) P.length (hOi.aa hbz) h (hcx.trans (hbz.mono hcx.size)) (aB hbz x0) zi zx (aB hbz xt) hin hPl hit hxel
            HK.out.1 (hOi.new (IZ _)) (hOi.new (by omega)) HK.out.2.2.2 Hri.out.2 Hrt.out.2 Hri.out.1 Hrt.out.1
           have hea:=Cy _ _ _ _ (w.heap.size+1) (w.heap.size+1+1) a n c (λw'=>aP w' w0.heap.size a n c R2 (aR G.ops P.length k L2 (i+1))/\aA T w' (bS a R2) (bS a R2)) (aB hbz x1)
            (hsw.mono λe w' he=>⟨he.1,he.2.2.cell (aB hbz x2) HK.out.2.2.1,by rw [Hn.out];exact he.2.1,hMi.trans ((Nn hbz _).trans he.2.2)⟩)
           have Hea:=Z5 hea
           clear hit hx0 hsw hea zi zx hbz
           go_wp2_with fail
           refine Hea.out.mono ?_
           rintro e w5 ⟨rfl,hO5,hM5⟩
           go_wp2_with fail
           go_roundw
           case rel=>exact ⟨i+1,by omega,by go_num,hO5,hM5⟩
           case measure=>simp [intOf] <;> omega
        ·obtain rfl : i=n:=by omega
         have hopx:=hMi.own hop3 Ho3.out
         have hsz0 : w.heap.size+1+1+1<=X.heap.size:=by have e1:=HsW0.out;have e2:=(hmT.trans hMi).size;omega
         have hcn:=bk X (.int .i64 k) 3
         have hbX:=(I1 X.heap.size X).alloc (IZ _) (.cells #[.int .i64 k] 3)
         have hpl8:=HPn.out
         go_wp2_with (at_builtin;refine bg rfl _ _ 22 3 rfl (.int .i64 0) 8 underlying22 ba rfl (w.heap.size+1+1+1) ap P.length cp _ rfl (hopx.alloc _) ⟨X.heap.size,0,none⟩ 1 (.int .i64 k) rfl hcn rfl (by omega) (by unfold maxLen;omega) (Ji hsz0 hbX.size) ?_;intro a3 c3 w3 hown3 hgr hap3)
         go_roundw
         case rel =>
          have hnx : aD G.ops L (k+1)=(aR G.ops P.length k L2 i,P ++ [(k : Int)]):=by rw [du hst.out (by rw [HLkn.out];exact hPl),I5 (by rw [Hf.out,HLkn.out];omega),Hf.out,HL1.out]
          have hne : ∀b',bS a R2 b'->cJ ap b':=λb' hb'=>by
           by_cases hn : ap=none
           ·exact .inl hn
           ·exact .inr λe=>Ho3.out hn (by rw [e];exact hb')
          have hO3 : aP w3 w0.heap.size a i c R2 (aR G.ops P.length k L2 i) :=
           (hOi.aa hbX).bj λb' hb'=>hgr.block b' ((hOi.aa hbX).lt b' hb').2 λe=>(hne b' hb').own P.length cp e.symm
          have hb3 : Below (w.heap.size+1+1+1) X w3:=Nk (hbX.mono hsz0) (hopx.alloc _) hgr (IZ _) (Ji hsz0 hbX.size)
          have hm3 : aA W0 w3 (bS a R) (bS a R2):=by have h1:=hmT.trans hMi;refine ⟨hb3.os.trans h1.os,hb3.tape.trans h1.tape,hb3.output.trans h1.output,Ji h1.size hb3.size,λb' hb' hI=>(hb3.block b' (by rw [HsW0.out];exact hb')).trans (h1.block b' hb' hI),h1.grow⟩
          have hrw3:=Nv (NA h) hrw2 (t:=P.length) (c:=k) (by rw [Hl2.out];exact hPl) (by omega) i (by rw [Hl2.out];exact hi)
          have ho4 : a3 ≠ none->¬ bS a R2 (aj a3):=λhn hI=>by
           rcases hap3 _ ((hOi.aa hbX).lt _ hI).2 (hne _ hI) with h1 | h1
           ·exact hn h1
           ·exact h1 rfl
          refine ⟨k+1,R2,a3,c3,d2,aR G.ops P.length k L2 i,P ++ [(k : Int)],by omega,by go_num,by simp,rfl,hnx.symm,hO3,?_,ho4,hm3,hrw3,hde2,by simp;omega⟩
          simpa using hown3
         case measure=>simp [intOf] <;> omega
     ·obtain rfl : j=n:=by omega
      have Hn : Hid ((Lk,P)=aD G.ops L (k+1)):=by show _=_;rw [du hst.out (by rw [HLkn.out];exact hPl),I6 (by rw [hfr.out,jq (by rw [HLkn.out];exact IZ _),HLkn.out])]
      go_wp2_with fail
      go_roundw
      case rel =>
       have hmx : aA W0 wr (bS a R) (bS a R'):=hmv.trans (Nn hbx _)
       exact ⟨k+1,R',ap,cp,d,Lk,P,by omega,by go_num,rfl,rfl,Hn.out,hOx,aX hop hbx,hoi.out,hmx,hrw,hde,HPn.out⟩
      case measure=>simp [intOf] <;> omega
   ·have hPe : P.length=n:=by omega
    have hfull : (Lk,P)=aD G.ops L m:=by rw [show m=k+(m - k) by omega,fu (by rw [<- hst.out,hPe,<- hO.ll]),<- hst.out]
    have Hfull:=Z5 hfull
    have hPe' : ((P.length : Int)<n)=False:=by simp;omega
    clear hfull hPe
    go_wp2_with fail
    go_ret2
    exact Hfin.out _ _ _ _ _ _ _ Hfull.out hOr (aU hop (by omega)) hmw
  ·obtain rfl : k=m:=by omega
   go_wp2_with fail
   go_ret2
   exact Hfin.out _ _ _ _ _ _ _ hst.out hOr (aU hop (by omega)) hmw
end
end Go.Proofs.YtcfmiocdlcapoaaGreat
