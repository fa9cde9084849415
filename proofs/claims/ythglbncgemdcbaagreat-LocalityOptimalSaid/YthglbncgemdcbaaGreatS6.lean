import Derived.Test.YthglbncgemdcbaaGreatS5
namespace Go.Proofs.YthglbncgemdcbaaGreat
set_option linter.all false
set_option maxRecDepth 100000
set_option maxHeartbeats 4000000
open Go.RowKit Go.Proofs.Tryz
section
variable {w : World} {b : Nat} {G : dn}
theorem bp.flip {El : Int->Prop} {m n t j k : Nat} {L : ZZ} (h : bp El m L) (hl : L.length=n) (ht : t<n) (hj : j<n) (hz : nth (ai L j) k ≠ 0) :
  bp El m (if j=t then L else bt L t j)/\(if j=t then L else bt L t j).length=n/\nth (ai (if j=t then L else bt L t j) t) k ≠ 0:=by
 split
 ·rename_i e;subst e;exact ⟨h,hl,hz⟩
 ·rename_i e;refine ⟨h.swap (by omega) (by omega),by rw [bM];exact hl,?_⟩;rw [jc _ _ _ _ (by omega) (by omega),du,Nf (by omega),Nd rfl];exact hz
theorem pa (L : ZZ) (i : Nat) : L.set i (ai L i)=L:=by
 apply QH;intro j;rw [Oi];by_cases h : i=j
 ·subst h;by_cases h1 : i<L.length
  ·simp [h1,ai]
  ·simp [h1]
 ·simp [h]
theorem bu {w : World} {p : Addr} {v : Value} (h : w.cell? p=some v) (o : Obj) : (w.alloc o).cell? p=some v:=aB ((Nc _ _).alloc (Na _) o) h
theorem ba (w : World) (x : Value) (e : TypeId) : (w.alloc (.cells #[x] e)).cell? ⟨w.heap.size,0,none⟩=some x:=aI w #[x] e rfl 0
theorem xD (w : World) (x : Value) (e : TypeId) : (w.alloc (.cells #[x] e)).frozen? ⟨w.heap.size,0,none⟩=false:=by simp
theorem dj (w : World) (x : Value) (e : TypeId) {s : Nat} (hs : s=w.heap.size) : (w.alloc (.cells #[x] e)).cell? ⟨s,0,none⟩=some x:=by subst hs;exact ba w x e
structure MO (w0 w W0 : World) (a : OA) (n c : Nat) (R : Z4) (wr : World) (R' : Z4) (Lk : ZZ) (len : Nat) (G : dn) : Prop where
 om : aT wr w0.heap.size a n c R' Lk
 mv : aE W0 wr (cU a R) (cU a R')
 rws : bp G.El len Lk
def B9 (w0 : World) (a : OA) (n c : Nat) (R : Z4) (L : ZZ) (m : Nat) (G : dn) (w : World) (e : Ending) (w' : World) : Prop :=
 ∃R' ap cp d,e = .returned (.tuple #[.slice ap (aD G.ops L m).2.length cp,.int .i64 d])/\aT w' w0.heap.size a n c R' (aD G.ops L m).1 /\
  w'.ownsRow w.heap.size 3 1 (.slice ap (aD G.ops L m).2.length cp) (aD G.ops L m).2.length ((aD G.ops L m).2.map (Value.int .i64))/\aE w w' (cU a R) (cU a R')/\SW w0 w'
theorem xY (w0 : World) (a : OA) (n c m len : Nat) (R : Z4) (L : ZZ) (h : ew w0 b G) (hb : SW w0 w) (hO : aT w w0.heap.size a n c R L)
  (hR : bp G.El len L) (hml : m<=len) (hlen : len<=1000000) (hn : n<=1000000) :
  Calls prog 223 #[.pointer (some ⟨b,0,none⟩),.slice a n c,.int .i64 m,.slice none 0 0] w (B9 w0 a n c R L m G w):=by
 have hfin : ∀w' R' ap cp d Lk P,(Lk,P)=aD G.ops L m->aT w' w0.heap.size a n c R' Lk->w'.ownsRow w.heap.size 3 1 (.slice ap P.length cp) P.length (P.map (Value.int .i64))->aE w w' (cU a R) (cU a R') ->
   B9 w0 a n c R L m G w (.returned (.tuple #[.slice ap P.length cp,.int .i64 d])) w':=by
  intro w' R' ap cp d Lk P he h1 h2 h3;have e1 : (aD G.ops L m).1=Lk:=by rw [<- he]
  have e2 : (aD G.ops L m).2=P:=by rw [<- he]
  refine ⟨R',ap,cp,d,?_,?_,?_,h3,hb.trans (h3.below (λb' hb'=>(hO.lt b' hb').1) hb.size)⟩
  ·rw [e2]
  ·rw [e1];exact h1
  ·rw [e2];exact h2
 have Hfin:=Z5 hfin;clear hfin;have hpl:=hO.pl;have hGe : G.El 1:=⟨by omega,by have:=h.q2;omega⟩
 have hal:=((Nc w.heap.size w).alloc (Na _) (.cells #[.pointer (some ⟨b,0,none⟩)] 79))
 go_enter func223,ntmps223;have hmf : ∀(fn : Fn) (first cap : Array Value) (w : World),(Instr.makeFunc fn first cap).run prog w = .ok (.func fn first cap) w:=λ_ _ _ _=>rfl;go_wp2_with fail;obtain ⟨W0,hW0⟩ : ∃W0 : World,W0=((w.alloc (.cells #[.pointer (some ⟨b,0,none⟩)] 79)).alloc (.cells #[.slice a n c] 25)).alloc (.cells #[.slice none 0 0] 25):=⟨_,rfl⟩
 rw [<- hW0];have hbW0 : SW w W0:=by rw [hW0];exact ((hal.alloc (by simp) _).alloc (by simp;omega) _)
 have hsW0 : w.heap.size+1+1+1=W0.heap.size:=by rw [hW0];simp
 have q0 : W0.cell? ⟨w.heap.size,0,none⟩=some (.pointer (some ⟨b,0,none⟩)):=by rw [hW0];exact bu (bu (ba _ _ _) _) _
 have q1 : W0.cell? ⟨w.heap.size+1,0,none⟩=some (.slice a n c):=by rw [hW0];exact bu (dj _ _ _ (by simp)) _
 have q2 : W0.cell? ⟨w.heap.size+1+1,0,none⟩=some (.slice none 0 0):=by rw [hW0];exact dj _ _ _ (by simp)
 have HsW0:=Z5 hsW0;clear hsW0 hW0 hal;go_loopw [10,12,13] (λdv pv cv wr=>∃(k : Nat) (R' : Z4) (ap : OA) (cp : Nat) (d : Int) (Lk : ZZ) (P : Lz),k<=m/\cv = .int .i64 k/\pv = .slice ap P.length cp/\dv = .int .i64 d /\
   Hid ((Lk,P)=aD G.ops L k)/\aT wr w0.heap.size a n c R' Lk/\wr.ownsRow (w.heap.size+1+1+1) 3 1 (.slice ap P.length cp) P.length (P.map (Value.int .i64))/\Hid (ap ≠ none->¬ cU a R' (ablk ap)) /\
   aE W0 wr (cU a R) (cU a R')/\bp G.El len Lk/\G.El d/\P.length<=n)
  (λ_ _ cv _=>m - (intOf cv).toNat)
 case atStart =>
  exact ⟨0,R,none,0,1,L,[],Ni _,rfl,rfl,rfl,rfl,hO.ah hbW0,bV,λh=>absurd rfl h,Sp _ _,hR,hGe,Ni _⟩
 case round =>
  obtain ⟨k,R',ap,cp,d,Lk,P,hkm,rfl,rfl,rfl,hst,hOr,hop,hoi,hmv,hrw,hde,hPn⟩:=hrel
  generalize wr=V at *
  have r0:=hmv.cell q0 (hO.new (Na _))
  have r1:=hmv.cell q1 (hO.new (by simp))
  have r2:=hmv.cell q2 (hO.new (by simp;omega))
  have hmw : aE w V (cU a R) (cU a R'):=(Se hbW0 _).trans hmv
  have hLkn : Lk.length=n:=hOr.ll
  have HLkn:=Z5 hLkn
  clear hLkn
  by_cases hk : k<m
  ·by_cases hPl : P.length<n
   ·have hPl' : (P.length : Int)<n:=by omega
    have hk' : (k : Int)<m:=by omega
    go_wp2_with fail
    obtain ⟨Y,hY⟩ : ∃Y : World,Y=(V.alloc (.cells #[.int .i64 P.length] 3)).alloc (.cells #[.int .i64 P.length] 3):=⟨_,rfl⟩
    rw [<- hY]
    have hbY : SW V Y:=by rw [hY];exact ((Nc _ _).alloc (Na _) _).alloc (by simp) _
    have hYs : Y.heap.size=V.heap.size+2:=by rw [hY];simp
    have yt : Y.cell? ⟨V.heap.size,0,none⟩=some (.int .i64 P.length):=by rw [hY];exact bu (ba _ _ _) _
    have yk : Y.cell? ⟨V.heap.size+1,0,none⟩=some (.int .i64 P.length):=by rw [hY];exact dj _ _ _ (by simp)
    have yf : Y.frozen? ⟨V.heap.size+1,0,none⟩=false:=by rw [hY];simp
    have HYs:=Z5 hYs
    have HPn:=Z5 hPn
    clear hY hYs
    go_loopw [] (λwx=>∃j : Nat,P.length<=j/\j<=n/\Hid (bh Lk k P.length=bh Lk k j)/\wx.cell? ⟨V.heap.size+1,0,none⟩=some (.int .i64 j)/\wx.frozen? ⟨V.heap.size+1,0,none⟩=false/\Below (V.heap.size+1) Y wx)
     (λwx=>n - (intOf ((wx.cell? ⟨V.heap.size+1,0,none⟩).getD undef)).toNat)
    case atStart=>exact ⟨P.length,Na _,hPn,rfl,yk,yf,Nc _ _⟩
    case round =>
     obtain ⟨j,hj1,hj2,hfr,kx,kf,hYx⟩:=hrel
     have hbx : SW V wr:=hbY.trans (hYx.mono (by omega))
     have hOx:=hOr.ah hbx
     have x0:=aB hbx r0
     have x1:=aB hbx r1
     have x2:=aB hbx r2
     have xt : wr.cell? ⟨V.heap.size,0,none⟩=some (.int .i64 P.length):=(hYx.cell (by simp)).trans yt
     by_cases hjn : j<n
     ·have hLj : j<Lk.length:=by rw [HLkn.out];exact hjn
      have hrow:=hrw.row hLj
      have ci:=hOx.cell hjn
      have ri:=hOx.ints hjn
      rw [hrow.1] at ci ri
      have ck:=ri.cell k (by omega)
      have hpr:=ri.pl
      have hkl : (k : Int)<len:=by omega
      have hfs:=jI (c:=k) hLj
      by_cases hz : nth (ai Lk j) k=0
      ·rw [Nd hz] at hfs
       have hz' : (nth (ai Lk j) k == 0)=true:=by simpa using hz
       have Hf : Hid (bh Lk k P.length=bh Lk k (j+1)):=by show _=_;rw [hfr.out,hfs]
       clear hz hfs hrow
       go_wp2_with fail
       go_roundw
       case rel =>
        refine ⟨j+1,by omega,by omega,Hf.out,NJ _ _ _ kx,by rw [Oq];exact kf,hYx.setCell (by simp) _⟩
       case measure=>rw [NJ _ _ _ kx,kx];simp [intOf] <;> omega
      ·rw [Nf hz] at hfs
       have hz' : (nth (ai Lk j) k == 0)=false:=by simpa using hz
       have Hf : Hid (bh Lk k P.length=j):=by show _=_;rw [hfr.out,hfs]
       have hjn' : ((j : Int) == n)=false:=by simp;omega
       have Hz:=Z5 hz
       clear hz
       have Hrow:=Z5 hrow
       clear hfs hrow
       have n0 : ¬ cU a R' w.heap.size:=hmv.not (by have:=HsW0.out;omega) (hO.new (Na _))
       have n1 : ¬ cU a R' (w.heap.size+1):=hmv.not (by have:=HsW0.out;omega) (hO.new (by omega))
       have n2 : ¬ cU a R' (w.heap.size+1+1):=hmv.not (by have:=HsW0.out;omega) (hO.new (by omega))
       have nt : ¬ cU a R' V.heap.size:=hOr.new (Na _)
       have nk : ¬ cU a R' (V.heap.size+1):=hOr.new (by omega)
       have hx0 : SW w0 wr:=hb.trans (aE.below (hmw.trans (Se hbx _)) (λb' hb'=>(hO.lt b' hb').1) hb.size)
       have HN:=Z5 (Np n0 (Np n1 (Np n2 (Np nt nk))))
       clear n0 n1 n2 nt nk
       go_upto_if 58 with fail
       go_cut [10] (λdv wx=>∃(d' : Int) (R1 : Z4),dv = .int .i64 d'/\G.El d'/\aT wx w0.heap.size a n c R1 (if j=P.length then Lk else bt Lk P.length j)/\aE wr wx (cU a R') (cU a R1))
       case first =>
        by_cases hjt : j=P.length
        ·have hjt' : ((j : Int) != P.length)=false:=by simp [hjt]
         have Hm : Hid ((if j=P.length then Lk else bt Lk P.length j)=Lk):=Nd hjt
         clear hjt
         go_wp2_with fail
         go_meet
         exact ⟨d,R',rfl,hde,by rw [Hm.out];exact hOx,Sp _ _⟩
        ·have hjt' : ((j : Int) != P.length)=true:=by simp;omega
         have Hm : Hid ((if j=P.length then Lk else bt Lk P.length j)=bt Lk P.length j):=Nf hjt
         have hsw:=Jf w0.heap.size a n c R' Lk (V.heap.size+1) V.heap.size j P.length hOx kx xt hjn hPl hjt HN.out.2.2.2.2 HN.out.2.2.2.1
         have hea:=Gz _ _ (w.heap.size+1) (w.heap.size+1+1) a n c (λw'=>∃R1,aT w' w0.heap.size a n c R1 (bt Lk P.length j)/\aE wr w' (cU a R') (cU a R1)) x1
          (hsw.mono λe w' he=>⟨he.1,by obtain ⟨_,R1,h1,h2⟩:=he;exact h2.cell x2 HN.out.2.2.1,he.2⟩)
         have Hea:=Z5 hea
         clear hjt hsw hea
         go_wp2_with fail
         refine Hea.out.mono ?_
         rintro e w5 ⟨rfl,R1,hO5,hM5⟩
         have z0:=hM5.cell x0 HN.out.1
         have hb5 : SW w0 w5:=hx0.trans (hM5.below (λb' hb'=>(hOx.lt b' hb').1) hx0.size)
         go_wp2_with fail
         refine (Kv d (h.ah hb5) hde).mono ?_
         rintro e w6 ⟨m6,rfl,rfl⟩
         go_wp2_with fail
         go_meet
         exact ⟨_,R1,rfl,dn.zF h d,by rw [Hm.out];exact hO5.ah (below_drewN (Nc _ _) m6),hM5.trans (Se (below_drewN (Nc _ _) m6) _)⟩
       obtain ⟨d',R1,rfl,hde',hO1,hM1⟩:=hcut
       generalize wc=U at *
       obtain ⟨hrw1,hl1,hnz1⟩:=bp.flip (t:=P.length) hrw HLkn.out hPl hjn Hz.out
       have c0:=hM1.cell x0 HN.out.1
       have c1:=hM1.cell x1 HN.out.2.1
       have c2:=hM1.cell x2 HN.out.2.2.1
       have ct:=hM1.cell xt HN.out.2.2.2.1
       have m0 : ¬ cU a R1 w.heap.size:=hM1.not (Nt wr _ x0) HN.out.1
       have m1 : ¬ cU a R1 (w.heap.size+1):=hM1.not (Nt wr _ x1) HN.out.2.1
       have m2 : ¬ cU a R1 (w.heap.size+1+1):=hM1.not (Nt wr _ x2) HN.out.2.2.1
       have mt : ¬ cU a R1 V.heap.size:=hM1.not (Nt wr _ xt) HN.out.2.2.2.1
       have hc0 : SW w0 U:=hx0.trans (hM1.below (λb' hb'=>(hOx.lt b' hb').1) hx0.size)
       have HM:=Z5 (Np m0 (Np m1 (Np m2 mt)))
       have HL1 : Hid (fo G.ops Lk P.length j k=clearTo G.ops P.length k (bH G.ops (if j=P.length then Lk else bt Lk P.length j) P.length k) n):=by show _=_;rw [lf,HLkn.out]
       generalize (if j=P.length then Lk else bt Lk P.length j)=L1 at *
       have hrow1:=hrw1.row (i:=P.length) (by omega)
       have tr:=hO1.cell hPl
       have ti:=hO1.ints hPl
       rw [hrow1.1] at tr ti
       have tc:=ti.cell k (by omega)
       have tp:=ti.pl
       have hkl : (k : Int)<len:=by omega
       have hel : G.El (nth (ai L1 P.length) k):=hrow1.2 _ (aH (by rw [hrow1.1];omega))
       have hG1:=h.ah hc0
       have HG1 : Hid (ew U.drew b G/\(∀n,ew (U.drewN n) b G)/\∀n,ew ((U.drewN n).alloc (.cells #[.int .i64 0] 3)) b G) :=
        ⟨hG1.ah (Nc _ _).drew,λn=>hG1.drewN n,λn=>(hG1.drewN n).ah ((Nc _ _).alloc (Na _) _)⟩
       have Hnz:=Z5 hnz1
       have Hl1:=Z5 hl1
       have Hrow1:=Z5 hrow1
       clear hrow1 hl1 hnz1 m0 m1 m2 mt x0 x1 x2 xt kx kf ci ri ck hpr r0 r1 r2 yt yk yf q0 q1 q2
       go_upto_region 15 with fail
       go_cut [10] (λdv wx=>∃d2 : Int,dv = .int .i64 d2/\G.El d2/\bf U wx)
       case first =>
        go_region_held3 (λw'=>w'.cell? ⟨w.heap.size,0,none⟩=some (.pointer (some ⟨b,0,none⟩))/\w'.cell? ⟨w.heap.size+1,0,none⟩=some (.slice a n c)/\w'.cell? ⟨V.heap.size,0,none⟩=some (.int .i64 P.length) /\
          w'.cell? ⟨ablk a,aK a+P.length,none⟩=some (.slice (aV R1 P.length).1 len (aV R1 P.length).2)/\w'.cell? ⟨ablk (aV R1 P.length).1,aK (aV R1 P.length).1+k,none⟩=some (.int .i64 (nth (ai L1 P.length) k)))
         (exact ⟨c0,c1,ct,tr,tc⟩)
         (first
         | (go_at_call 57;((with_reducible refine (qF d' _ HG1.out.1 hde' hel).mono ?_);rintro e w4 ⟨m4,rfl,rfl⟩)))
        all_goals (
         go_step;go_step
         go_meet
         exact ⟨_,rfl,SE h _ _,⟨_,rfl⟩⟩)
       obtain ⟨d2,rfl,hde2,m5,rfl⟩:=hcut
       have hS : ∀ W, SW U W → W.cell? ⟨w.heap.size, 0, none⟩ = some (.pointer (some ⟨b, 0, none⟩)) ∧ W.cell? ⟨w.heap.size + 1, 0, none⟩ = some (.slice a n c) ∧ W.cell? ⟨V.heap.size, 0, none⟩ = some (.int .i64 P.length) ∧
             W.cell? ⟨ablk a,aK a+P.length,none⟩=some (.slice (aV R1 P.length).1 len (aV R1 P.length).2)/\W.cell? ⟨ablk (aV R1 P.length).1,aK (aV R1 P.length).1+k,none⟩=some (.int .i64 (nth (ai L1 P.length) k))/\SW U W :=
        λW hW=>⟨aB hW c0,aB hW c1,aB hW ct,aB hW tr,aB hW tc,hW⟩
       have HS:=Z5 hS
       clear hS
       go_upto_region 16 with fail
       go_cut [16,17] (λiv ev wx=>∃gi,iv = .pointer (some ⟨gi,0,none⟩)/\U.heap.size<=gi/\ev = .int .i64 0/\wx.cell? ⟨gi,0,none⟩=some (.int .i64 (G.inv (nth (ai L1 P.length) k)))/\SW U wx)
       case first =>
        have hBU : SW U (U.drewN m5):=below_drewN (Nc _ _) m5
        have hfc : ∀k,((U.drewN k).alloc (.cells #[.int .i64 0] 3)).cell? ⟨U.heap.size,0,none⟩=some (.int .i64 0):=λk=>ba (U.drewN k) _ _
        have hfc2 : ∀k k',(((U.drewN k).alloc (.cells #[.int .i64 0] 3)).drewN k').cell? ⟨U.heap.size,0,none⟩=some (.int .i64 0):=λk _=>ba (U.drewN k) _ _
        have hff2 : ∀k k',(((U.drewN k).alloc (.cells #[.int .i64 0] 3)).drewN k').frozen? ⟨U.heap.size,0,none⟩=false:=λk _=>xD (U.drewN k) _ _
        have hff : ∀k,((U.drewN k).alloc (.cells #[.int .i64 0] 3)).frozen? ⟨U.heap.size,0,none⟩=false:=λk=>xD (U.drewN k) _ _
        go_region_held3 (λW=>W.cell? ⟨w.heap.size,0,none⟩=some (.pointer (some ⟨b,0,none⟩))/\W.cell? ⟨w.heap.size+1,0,none⟩=some (.slice a n c)/\W.cell? ⟨V.heap.size,0,none⟩=some (.int .i64 P.length) /\
          W.cell? ⟨ablk a,aK a+P.length,none⟩=some (.slice (aV R1 P.length).1 len (aV R1 P.length).2)/\W.cell? ⟨ablk (aV R1 P.length).1,aK (aV R1 P.length).1+k,none⟩=some (.int .i64 (nth (ai L1 P.length) k))/\SW U W)
         ((refine HS.out _ ?_;first | exact hBU.drew | exact below_drewN (Nc _ _) _ | exact (below_drewN (Nc _ _) _).alloc (Na _) _ | exact ((below_drewN (Nc _ _) _).alloc (Na _) _).setCell (Na _) _ | exact below_drewN ((below_drewN (Nc _ _) _).alloc (Na _) _) _ | exact (below_drewN ((below_drewN (Nc _ _) _).alloc (Na _) _) _).setCell (Na _) _))
         (first
         | (go_at_call 201;((with_reducible refine (Jt _ (HG1.out.2.1 _) hel Hnz.out).mono ?_);rintro e w4 ⟨m4,rfl,rfl⟩))
         | (go_at_call 201;((with_reducible refine (Jt _ (HG1.out.2.2 _) hel Hnz.out).mono ?_);rintro e w4 ⟨m4,rfl,rfl⟩)))
        all_goals (
         go_step;go_step
         go_meet)
        ·exact ⟨U.heap.size,rfl,Na _,rfl,NJ _ _ _ (hfc _),((below_drewN (Nc _ _) _).alloc (Na _) _).setCell (Na _) _⟩
        ·exact ⟨U.heap.size,rfl,Na _,rfl,NJ _ _ _ (hfc2 _ _),(below_drewN ((below_drewN (Nc _ _) _).alloc (Na _) _) _).setCell (Na _) _⟩
       obtain ⟨gi,rfl,hgi,rfl,ig,hbi⟩:=hcut
       obtain ⟨i0,i1,it,ir,ic,_⟩:=HS.out wc hbi
       have i2:=aB hbi c2
       have hOi:=hO1.ah hbi
       have hci : SW w0 wc:=N2 hc0 (hbi.mono hc0.size)
       have hrw2:=hrw1.norm (SA h) (t:=P.length) (c:=k) (by rw [Hl1.out];exact hPl) (by omega) Hnz.out
       have hl2 : (bH G.ops L1 P.length k).length=n:=by rw [ek];exact Hl1.out
       have Hl2:=Z5 hl2
       clear hl2
       go_upto_if 92 with fail
       go_cut [] (λwx=>∃R2,aT wx w0.heap.size a n c R2 (bH G.ops L1 P.length k)/\aE U wx (cU a R1) (cU a R2))
       case first =>
        have hv : G.ops.inv (nth (ai L1 P.length) k)=G.inv (nth (ai L1 P.length) k):=rfl
        have Hv:=Z5 hv
        clear hv
        by_cases hi1 : G.inv (nth (ai L1 P.length) k)=1
        ·have Hn : Hid (bH G.ops L1 P.length k=L1):=by show _=_;rw [bH,Nd (by rw [Hv.out];exact hi1)]
         have hi1' : (G.inv (nth (ai L1 P.length) k) != 1)=false:=by simp [hi1]
         clear hi1
         go_wp2_with fail
         go_meet
         exact ⟨R1,by rw [Hn.out];exact hOi,Se hbi _⟩
        ·have Hn : Hid (bH G.ops L1 P.length k=L1.set P.length ((ai L1 P.length).map (G.mul (G.inv (nth (ai L1 P.length) k))))):=by show _=_;rw [bH,Nf (by rw [Hv.out];exact hi1)];rfl
         have hi1' : (G.inv (nth (ai L1 P.length) k) != 1)=true:=by simpa using hi1
         have hsc:=Gg w0 a n c R1 L1 w.heap.size gi V.heap.size (G.inv (nth (ai L1 P.length) k)) P.length hOi h hci i0 ig it hPl (SV h _) (Hrow1.out.2) (by rw [Hrow1.out.1];exact hlen)
         have hea:=GY _ _ _ (w.heap.size+1) (w.heap.size+1+1) a n c (λw'=>∃R2,aT w' w0.heap.size a n c R2 (bH G.ops L1 P.length k)/\aE U w' (cU a R1) (cU a R2)) i1
          (hsc.mono λe w' he=>⟨he.1,by obtain ⟨_,R2,h1,h2⟩:=he;exact h2.cell i2 HM.out.2.2.1,by obtain ⟨_,R2,h1,h2⟩:=he;exact ⟨R2,by rw [Hn.out];exact h1,(Se hbi _).trans h2⟩⟩)
         have Hea:=Z5 hea
         clear hi1 hsc hea
         go_wp2_with fail
         refine Hea.out.mono ?_
         rintro e w5 ⟨rfl,R2,hO5,hM5⟩
         go_wp2_with fail
         go_meet
         exact ⟨R2,hO5,hM5⟩
       obtain ⟨R2,hO2,hM2⟩:=hcut
       generalize wc=T at *
       have t0:=hM2.cell c0 HM.out.1
       have t1:=hM2.cell c1 HM.out.2.1
       have t2:=hM2.cell c2 HM.out.2.2.1
       have tt:=hM2.cell ct HM.out.2.2.2
       have hc2 : SW w0 T:=hc0.trans (hM2.below (λb' hb'=>(hO1.lt b' hb').1) hc0.size)
       have k0 : ¬ cU a R2 w.heap.size:=hM2.not (Nt U _ c0) HM.out.1
       have k1 : ¬ cU a R2 (w.heap.size+1):=hM2.not (Nt U _ c1) HM.out.2.1
       have k2 : ¬ cU a R2 (w.heap.size+1+1):=hM2.not (Nt U _ c2) HM.out.2.2.1
       have k3 : ¬ cU a R2 V.heap.size:=hM2.not (Nt U _ ct) HM.out.2.2.2
       have HK:=Z5 (Np k0 (Np k1 (Np k2 k3)))
       have hmT : aE W0 T (cU a R) (cU a R2):=hmv.trans ((Se hbx _).trans (hM1.trans hM2))
       have hop1:=bd hop hbx
       have hop2:=hM1.own hop1 hoi.out
       have ho2 : ap ≠ none->¬ cU a R1 (ablk ap):=λhn=>hM1.not (aY hop1 hn).2 (hoi.out hn)
       have hop3:=hM2.own hop2 ho2
       have ho3 : ap ≠ none->¬ cU a R2 (ablk ap):=λhn=>hM2.not (aY hop2 hn).2 (ho2 hn)
       have Ho3:=Z5 ho3
       clear k0 k1 k2 k3 c0 c1 c2 ct tr ti tc tp i0 i1 i2 it ir ic ig hop hop1 hop2 ho2 ho3 hel
       generalize bH G.ops L1 P.length k=L2 at *
       go_upto_region 19 with fail
       go_wp2_with fail
       go_loopw [98] (λiv wx=>∃i : Nat,i<=n/\iv = .int .i64 i/\aT wx w0.heap.size a n c R2 (clearTo G.ops P.length k L2 i)/\aE T wx (cU a R2) (cU a R2)) (λiv _=>n - (intOf iv).toNat)
       case atStart=>exact ⟨0,Ni _,rfl,hO2,Sp _ _⟩
       case round =>
        obtain ⟨i,hi,rfl,hOi,hMi⟩:=hrel
        generalize wr=X at *
        have x0:=hMi.cell t0 HK.out.1
        have x1:=hMi.cell t1 HK.out.2.1
        have x2:=hMi.cell t2 HK.out.2.2.1
        have xt:=hMi.cell tt HK.out.2.2.2
        have hcx : SW w0 X:=hc2.trans (hMi.below (λb' hb'=>(hO2.lt b' hb').1) hc2.size)
        by_cases hin : i<n
        ·have hrwi:=Sy (SA h) hrw2 (t:=P.length) (c:=k) (by rw [Hl2.out];exact hPl) (by omega) i (by rw [Hl2.out];exact hi)
         have hli : (clearTo G.ops P.length k L2 i).length=n:=by rw [en];exact Hl2.out
         have hstep : clearTo G.ops P.length k L2 (i+1)=if i=P.length then clearTo G.ops P.length k L2 i else (clearTo G.ops P.length k L2 i).set i (di G.ops (ai (clearTo G.ops P.length k L2 i) P.length) k (ai (clearTo G.ops P.length k L2 i) i)):=rfl
         have Hstep:=Z5 hstep
         clear hstep
         generalize clearTo G.ops P.length k L2 i=Li at *
         have hri:=hrwi.row (i:=i) (by omega)
         have hrt:=hrwi.row (i:=P.length) (by omega)
         have ci:=hOi.cell hin
         have ii:=hOi.ints hin
         rw [hri.1] at ci ii
         have ck:=ii.cell k (by omega)
         have hpi:=ii.pl
         have hxel : G.El (nth (ai Li i) k):=hri.2 _ (aH (by rw [hri.1];omega))
         have Hri:=Z5 hri
         have Hrt:=Z5 hrt
         clear hri hrt hli
         have a1:=bu x1 (.cells #[.int .i64 i] 3)
         have a2:=ba X (.int .i64 i) 3
         have a3:=bu ci (.cells #[.int .i64 i] 3)
         have a4:=bu ck (.cells #[.int .i64 i] 3)
         have b1:=bu a1 (.cells #[.int .i64 (nth (ai Li i) k)] 3)
         have b2:=bu a2 (.cells #[.int .i64 (nth (ai Li i) k)] 3)
         have b3:=bu (bu xt (.cells #[.int .i64 i] 3)) (.cells #[.int .i64 (nth (ai Li i) k)] 3)
         have b4 : ((X.alloc (.cells #[.int .i64 i] 3)).alloc (.cells #[.int .i64 (nth (ai Li i) k)] 3)).cell? ⟨X.heap.size+1,0,none⟩=some (.int .i64 (nth (ai Li i) k)):=dj _ _ _ (by simp)
         by_cases hit : i=P.length
         ·have hit' : ((i : Int) != P.length)=false:=by simp [hit]
          have Hn : Hid (clearTo G.ops P.length k L2 (i+1)=Li):=by show _=_;rw [Hstep.out,Nd hit]
          clear hit
          go_wp2_with fail
          go_roundw
          case rel=>exact ⟨i+1,by omega,by go_num,by rw [Hn.out];exact hOi.ah (((Nc _ _).alloc (Na _) _).alloc (by simp) _),hMi.trans (Se (((Nc _ _).alloc (Na _) _).alloc (by simp) _) _)⟩
          case measure=>simp [intOf] <;> omega
         ·have hit' : ((i : Int) != P.length)=true:=by simp;omega
          by_cases hx0 : nth (ai Li i) k=0
          ·have hx0' : (nth (ai Li i) k != 0)=false:=by simp [hx0]
           have Hn : Hid (clearTo G.ops P.length k L2 (i+1)=Li):=by show _=_;rw [Hstep.out,Nf hit,di,Nd hx0,pa]
           clear hit hx0
           go_wp2_with fail
           go_roundw
           case rel=>exact ⟨i+1,by omega,by go_num,by rw [Hn.out];exact hOi.ah (((Nc _ _).alloc (Na _) _).alloc (by simp) _),hMi.trans (Se (((Nc _ _).alloc (Na _) _).alloc (by simp) _) _)⟩
           case measure=>simp [intOf] <;> omega
          ·have hx0' : (nth (ai Li i) k != 0)=true:=by simpa using hx0
           have Hn : Hid (clearTo G.ops P.length k L2 (i+1)=Li.set i (bR G.ops (ai Li i) (G.neg (nth (ai Li i) k)) (ai Li P.length))):=by show _=_;rw [Hstep.out,Nf hit,di,Nf hx0];rfl
           have hbz : SW X ((X.alloc (.cells #[.int .i64 i] 3)).alloc (.cells #[.int .i64 (nth (ai Li i) k)] 3)):=((Nc _ _).alloc (Na _) _).alloc (by simp) _
           have zi : ((X.alloc (.cells #[.int .i64 i] 3)).alloc (.cells #[.int .i64 (nth (ai Li i) k)] 3)).cell? ⟨X.heap.size,0,none⟩=some (.int .i64 i):=bu (ba _ _ _) _
           have zx : ((X.alloc (.cells #[.int .i64 i] 3)).alloc (.cells #[.int .i64 (nth (ai Li i) k)] 3)).cell? ⟨X.heap.size+1,0,none⟩=some (.int .i64 (nth (ai Li i) k)):=dj _ _ _ (by simp)
           have hsw:=F9 w0 a n c R2 Li w.heap.size X.heap.size (X.heap.size+1) V.heap.size len i (nth (ai Li i) k) P.length (hOi.ah hbz) h (hcx.trans (hbz.mono hcx.size)) (aB hbz x0) zi zx (aB hbz xt) hin hPl hit hxel
            HK.out.1 (hOi.new (Na _)) (hOi.new (by omega)) HK.out.2.2.2 Hri.out.2 Hrt.out.2 Hri.out.1 Hrt.out.1
           have hea:=G8 _ _ _ _ (w.heap.size+1) (w.heap.size+1+1) a n c (λw'=>aT w' w0.heap.size a n c R2 (clearTo G.ops P.length k L2 (i+1))/\aE T w' (cU a R2) (cU a R2)) (aB hbz x1)
            (hsw.mono λe w' he=>⟨he.1,he.2.2.cell (aB hbz x2) HK.out.2.2.1,by rw [Hn.out];exact he.2.1,hMi.trans ((Se hbz _).trans he.2.2)⟩)
           have Hea:=Z5 hea
           clear hit hx0 hsw hea zi zx hbz
           go_wp2_with fail
           refine Hea.out.mono ?_
           rintro e w5 ⟨rfl,hO5,hM5⟩
           go_wp2_with fail
           go_roundw
           case rel=>exact ⟨i+1,by omega,by go_num,hO5,hM5⟩
           case measure=>simp [intOf] <;> omega
        ·obtain rfl : i=n:=by omega
         have hopx:=hMi.own hop3 Ho3.out
         have hsz0 : w.heap.size+1+1+1<=X.heap.size:=by have e1:=HsW0.out;have e2:=(hmT.trans hMi).size;omega
         have hcn:=ba X (.int .i64 k) 3
         have hbX:=(Nc X.heap.size X).alloc (Na _) (.cells #[.int .i64 k] 3)
         have hpl8:=HPn.out
         go_wp2_with (at_builtin;refine aO rfl _ _ 22 3 rfl (.int .i64 0) 8 underlying22 aU rfl (w.heap.size+1+1+1) ap P.length cp _ rfl (hopx.alloc _) ⟨X.heap.size,0,none⟩ 1 (.int .i64 k) rfl hcn rfl (by omega) (by unfold maxLen;omega) (Nr hsz0 hbX.size) ?_;intro a3 c3 w3 hown3 hgr hap3)
         go_roundw
         case rel =>
          have hnx : aD G.ops L (k+1)=(clearTo G.ops P.length k L2 i,P ++ [(k : Int)]):=by rw [fR hst.out (by rw [HLkn.out];exact hPl),Nf (by rw [Hf.out,HLkn.out];omega),Hf.out,HL1.out]
          have hne : ∀b',cU a R2 b'->gE ap b':=λb' hb'=>by
           by_cases hn : ap=none
           ·exact .inl hn
           ·exact .inr λe=>Ho3.out hn (by rw [e];exact hb')
          have hO3 : aT w3 w0.heap.size a i c R2 (clearTo G.ops P.length k L2 i) :=
           (hOi.ah hbX).bq λb' hb'=>hgr.block b' ((hOi.ah hbX).lt b' hb').2 λe=>(hne b' hb').own P.length cp e.symm
          have hb3 : Below (w.heap.size+1+1+1) X w3:=Sa (hbX.mono hsz0) (hopx.alloc _) hgr (Na _) (Nr hsz0 hbX.size)
          have hm3 : aE W0 w3 (cU a R) (cU a R2):=by have h1:=hmT.trans hMi;refine ⟨hb3.os.trans h1.os,hb3.tape.trans h1.tape,hb3.output.trans h1.output,Nr h1.size hb3.size,λb' hb' hI=>(hb3.block b' (by rw [HsW0.out];exact hb')).trans (h1.block b' hb' hI),h1.grow⟩
          have hrw3:=Sy (SA h) hrw2 (t:=P.length) (c:=k) (by rw [Hl2.out];exact hPl) (by omega) i (by rw [Hl2.out];exact hi)
          have ho4 : a3 ≠ none->¬ cU a R2 (ablk a3):=λhn hI=>by
           rcases hap3 _ ((hOi.ah hbX).lt _ hI).2 (hne _ hI) with h1 | h1
           ·exact hn h1
           ·exact h1 rfl
          refine ⟨k+1,R2,a3,c3,d2,clearTo G.ops P.length k L2 i,P ++ [(k : Int)],by omega,by go_num,by simp,rfl,hnx.symm,hO3,?_,ho4,hm3,hrw3,hde2,by simp;omega⟩
          simpa using hown3
         case measure=>simp [intOf] <;> omega
     ·obtain rfl : j=n:=by omega
      have Hn : Hid ((Lk,P)=aD G.ops L (k+1)):=by show _=_;rw [fR hst.out (by rw [HLkn.out];exact hPl),Nd (by rw [hfr.out,mh (by rw [HLkn.out];exact Na _),HLkn.out])]
      go_wp2_with fail
      go_roundw
      case rel =>
       have hmx : aE W0 wr (cU a R) (cU a R'):=hmv.trans (Se hbx _)
       exact ⟨k+1,R',ap,cp,d,Lk,P,by omega,by go_num,rfl,rfl,Hn.out,hOx,bd hop hbx,hoi.out,hmx,hrw,hde,HPn.out⟩
      case measure=>simp [intOf] <;> omega
   ·have hPe : P.length=n:=by omega
    have hfull : (Lk,P)=aD G.ops L m:=by rw [show m=k+(m - k) by omega,jw (by rw [<- hst.out,hPe,<- hO.ll]),<- hst.out]
    have Hfull:=Z5 hfull
    have hPe' : ((P.length : Int)<n)=False:=by simp;omega
    clear hfull hPe
    go_wp2_with fail
    go_ret2
    exact Hfin.out _ _ _ _ _ _ _ Hfull.out hOr (aX hop (by omega)) hmw
  ·obtain rfl : k=m:=by omega
   go_wp2_with fail
   go_ret2
   exact Hfin.out _ _ _ _ _ _ _ hst.out hOr (aX hop (by omega)) hmw
end
end Go.Proofs.YthglbncgemdcbaaGreat
