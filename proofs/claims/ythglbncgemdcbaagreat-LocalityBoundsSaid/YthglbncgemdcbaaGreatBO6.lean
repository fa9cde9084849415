import Derived.Test.YthglbncgemdcbaaGreatBO5
namespace Go.Proofs.YthglbncgemdcbaaGreat
set_option linter.all false
set_option maxRecDepth 100000
set_option maxHeartbeats 4000000
open Go.RowKit Go.Proofs.Tryz
section
variable {w:ej} {b:Nat} {G:bX}
theorem bz.flip {El:Int->Prop} {m n t j k:Nat} {L:ZZ} (h:bz El m L) (Y:L.length=n) (V:t<n) (X:j<n) (Z:nth (aj L j) k ≠ 0) :
  bz El m (if j=t then L else aY L t j)/\(if j=t then L else aY L t j).length=n/\nth (aj (if j=t then L else aY L t j) t) k ≠ 0:=by
 split
 ·rename_i e;subst e;exact ⟨h,Y,Z⟩
 ·rename_i e;refine ⟨h.swap (by omega) (by omega),by rw [bU];exact Y,?_⟩;rw [kB _ _ _ _ (by omega) (by omega),jQ,M8 (by omega),M7 rfl];exact Z
theorem kc (L:ZZ) (i:Nat):L.set i (aj L i)=L:=by
 apply Qw;intro j;rw [OP];by_cases h:i=j
 ·subst h;by_cases h1:i<L.length
  ·simp [h1,aj]
  ·simp [h1]
 ·simp [h]
theorem aU {w:ej} {p:Addr} {v:Value} (h:w.cell? p=some v) (o:Obj):(w.alloc o).cell? p=some v:=aC ((M5 _ _).alloc (M4 _) o) h
theorem bh (w:ej) (x:Value) (e:TypeId):(w.alloc (.cells #[x] e)).cell? ⟨w.heap.size,0,none⟩=some x:=aF w #[x] e rfl 0
theorem lj (w:ej) (x:Value) (e:TypeId):(w.alloc (.cells #[x] e)).frozen? ⟨w.heap.size,0,none⟩=false:=by simp
theorem dB (w:ej) (x:Value) (e:TypeId) {s:Nat} (Z:s=w.heap.size):(w.alloc (.cells #[x] e)).cell? ⟨s,0,none⟩=some x:=by subst Z;exact bh w x e
structure MF (w0 w W0:ej) (a:OA) (n c:Nat) (R:Z4) (wr:ej) (R':Z4) (Lk:ZZ) (len:Nat) (G:bX):Prop where
 om:aS wr w0.heap.size a n c R' Lk
 mv:aB W0 wr (bN a R) (bN a R')
 rws:bz G.El len Lk
def AK (Z:ej) (a:OA) (n c:Nat) (R:Z4) (L:ZZ) (m:Nat) (G:bX) (w:ej) (e:Ending) (w':ej):Prop :=
 ∃Y ap cp d,e = ec #[.slice ap (aE G.ops L m).2.length cp,cG d]/\aS w' Z.heap.size a n c Y (aE G.ops L m).1 /\
  w'.ownsRow w.heap.size 3 1 (.slice ap (aE G.ops L m).2.length cp) (aE G.ops L m).2.length ((aE G.ops L m).2.map (Value.int .i64))/\aB w w' (bN a R) (bN a Y)/\SJ Z w'
theorem uI (E:ej) (a:OA) (n c m len:Nat) (R:Z4) (L:ZZ) (h:dg E b G) (hb:SJ E w) (hO:aS w E.heap.size a n c R L)
  (hR:bz G.El len L) (hml:m<=len) (hlen:len<=1000000) (hn:n<=1000000) :
  Calls prog 223 #[ea b 0,.slice a n c,cG m,ds] w (AK E a n c R L m G w):=by
 have hfin:∀w' z ap cp d Lk P,(Lk,P)=aE G.ops L m->aS w' E.heap.size a n c z Lk->w'.ownsRow w.heap.size 3 1 (.slice ap P.length cp) P.length (P.map (Value.int .i64))->aB w w' (bN a R) (bN a z) ->
   AK E a n c R L m G w (ec #[.slice ap P.length cp,cG d]) w':=by
  intro w' z ap cp d Lk P he h1 h2 h3;have e1:(aE G.ops L m).1=Lk:=by rw [<- he]
  have e2:(aE G.ops L m).2=P:=by rw [<- he]
  refine ⟨z,ap,cp,d,?_,?_,?_,h3,hb.trans (h3.below (λb' Z=>(hO.lt b' Z).1) hb.size)⟩
  ·rw [e2]
  ·rw [e1];exact h1
  ·rw [e2];exact h2
 have Hfin:=Z5 hfin;clear hfin;have hpl:=hO.pl;have hGe:G.El 1:=⟨by omega,by have:=h.q2;omega⟩
 have hal:=((M5 w.heap.size w).alloc (M4 _) (.cells #[ea b 0] 79))
 go_enter func223,ntmps223;have hmf:∀(fn:Fn) (first cap:Array Value) (w:ej),(Instr.makeFunc fn first cap).run prog w = .ok (.func fn first cap) w:=λ_ _ _ _=>rfl;go_wp2_with fail;obtain ⟨W0,hW0⟩:∃W0:ej,W0=((w.alloc (.cells #[ea b 0] 79)).alloc (.cells #[.slice a n c] 25)).alloc (.cells #[ds] 25):=⟨_,rfl⟩
 rw [<- hW0];have hbW0:SJ w W0:=by rw [hW0];exact ((hal.alloc (by simp) _).alloc (by simp;omega) _)
 have hsW0:w.heap.size+1+1+1=W0.heap.size:=by rw [hW0];simp
 have q0:W0.cell? ⟨w.heap.size,0,none⟩=some (ea b 0):=by rw [hW0];exact aU (aU (bh _ _ _) _) _
 have q1:W0.cell? ⟨w.heap.size+1,0,none⟩=some (.slice a n c):=by rw [hW0];exact aU (dB _ _ _ (by simp)) _
 have q2:W0.cell? ⟨w.heap.size+1+1,0,none⟩=some ds:=by rw [hW0];exact dB _ _ _ (by simp)
 have HsW0:=Z5 hsW0;clear hsW0 hW0 hal;go_loopw [10,12,13] (λdv pv cv wr=>∃(k:Nat) (z:Z4) (ap:OA) (cp:Nat) (d:Int) (Lk:ZZ) (P:Lz),k<=m/\cv = cG k/\pv = .slice ap P.length cp/\dv = cG d /\
   Hid ((Lk,P)=aE G.ops L k)/\aS wr E.heap.size a n c z Lk/\wr.ownsRow (w.heap.size+1+1+1) 3 1 (.slice ap P.length cp) P.length (P.map (Value.int .i64))/\Hid (ap ≠ none->¬ bN a z (ablk ap)) /\
   aB W0 wr (bN a R) (bN a z)/\bz G.El len Lk/\G.El d/\P.length<=n)
  (λ_ _ cv _=>m - (intOf cv).toNat)
 case atStart =>
  exact ⟨0,R,none,0,1,L,[],Nb _,rfl,rfl,rfl,rfl,hO.ai hbW0,cJ,λh=>absurd rfl h,Sb _ _,hR,hGe,Nb _⟩
 case round =>
  obtain ⟨k,z,ap,cp,d,Lk,P,hkm,rfl,rfl,rfl,hst,hOr,hop,hoi,hmv,hrw,hde,hPn⟩:=hrel
  generalize wr=V at *
  have r0:=hmv.cell q0 (hO.new (M4 _))
  have r1:=hmv.cell q1 (hO.new (by simp))
  have r2:=hmv.cell q2 (hO.new (by simp;omega))
  have hmw:aB w V (bN a R) (bN a z):=(RZ hbW0 _).trans hmv
  have hLkn:Lk.length=n:=hOr.ll
  have N:=Z5 hLkn
  clear hLkn
  by_cases hk:k<m
  ·by_cases C:P.length<n
   ·have hPl':(P.length:Int)<n:=by omega
    have hk':(k:Int)<m:=by omega
    go_wp2_with fail
    obtain ⟨Y,hY⟩:∃Y:ej,Y=(V.alloc (.cells #[cG P.length] 3)).alloc (.cells #[cG P.length] 3):=⟨_,rfl⟩
    rw [<- hY]
    have hbY:SJ V Y:=by rw [hY];exact ((M5 _ _).alloc (M4 _) _).alloc (by simp) _
    have hYs:Y.heap.size=V.heap.size+2:=by rw [hY];simp
    have yt:Y.cell? ⟨V.heap.size,0,none⟩=some (cG P.length):=by rw [hY];exact aU (bh _ _ _) _
    have yk:Y.cell? ⟨V.heap.size+1,0,none⟩=some (cG P.length):=by rw [hY];exact dB _ _ _ (by simp)
    have yf:Y.frozen? ⟨V.heap.size+1,0,none⟩=false:=by rw [hY];simp
    have HYs:=Z5 hYs
    have HPn:=Z5 hPn
    clear hY hYs
    go_loopw [] (λwx=>∃j:Nat,P.length<=j/\j<=n/\Hid (aZ Lk k P.length=aZ Lk k j)/\wx.cell? ⟨V.heap.size+1,0,none⟩=some (cG j)/\wx.frozen? ⟨V.heap.size+1,0,none⟩=false/\Below (V.heap.size+1) Y wx)
     (λwx=>n - (intOf ((wx.cell? ⟨V.heap.size+1,0,none⟩).getD undef)).toNat)
    case atStart=>exact ⟨P.length,M4 _,hPn,rfl,yk,yf,M5 _ _⟩
    case round =>
     obtain ⟨j,hj1,hj2,hfr,kx,kf,hYx⟩:=hrel
     have r:SJ V wr:=hbY.trans (hYx.mono (by omega))
     have hOx:=hOr.ai r
     have x0:=aC r r0
     have x1:=aC r r1
     have x2:=aC r r2
     have xt:wr.cell? ⟨V.heap.size,0,none⟩=some (cG P.length):=(hYx.cell (by simp)).trans yt
     by_cases hjn:j<n
     ·have hLj:j<Lk.length:=by rw [N.out];exact hjn
      have hrow:=hrw.row hLj
      have ci:=hOx.cell hjn
      have ri:=hOx.ints hjn
      rw [hrow.1] at ci ri
      have ck:=ri.cell k (by omega)
      have hpr:=ri.pl
      have hkl:(k:Int)<len:=by omega
      have hfs:=fP (c:=k) hLj
      by_cases hz:nth (aj Lk j) k=0
      ·rw [M7 hz] at hfs
       have hz':(nth (aj Lk j) k == 0)=true:=by simpa using hz
       have Hf:Hid (aZ Lk k P.length=aZ Lk k (j+1)):=by show _=_;rw [hfr.out,hfs]
       clear hz hfs hrow
       go_wp2_with fail
       go_roundw
       case rel =>
        refine ⟨j+1,by omega,by omega,Hf,Ns _ _ _ kx,by rw [NY];exact kf,hYx.setCell (by simp) _⟩
       case measure=>rw [Ns _ _ _ kx,kx];simp [intOf]<;>omega
      ·rw [M8 hz] at hfs
       have hz':(nth (aj Lk j) k == 0)=false:=by simpa using hz
       have Hf:Hid (aZ Lk k P.length=j):=by show _=_;rw [hfr.out,hfs]
       have hjn':((j:Int) == n)=false:=by simp;omega
       have Hz:=Z5 hz
       clear hz
       have Hrow:=Z5 hrow
       clear hfs hrow
       have n0:¬ bN a z w.heap.size:=hmv.not (by have:=HsW0.out;omega) (hO.new (M4 _))
       have n1:¬ bN a z (w.heap.size+1):=hmv.not (by have:=HsW0.out;omega) (hO.new (by omega))
       have n2:¬ bN a z (w.heap.size+1+1):=hmv.not (by have:=HsW0.out;omega) (hO.new (by omega))
       have nt:¬ bN a z V.heap.size:=hOr.new (M4 _)
       have nk:¬ bN a z (V.heap.size+1):=hOr.new (by omega)
       have D:SJ E wr:=hb.trans (aB.below (hmw.trans (RZ r _)) (λb' Z=>(hO.lt b' Z).1) hb.size)
       have HN:=Z5 (Ng n0 (Ng n1 (Ng n2 (Ng nt nk))))
       clear n0 n1 n2 nt nk
       go_upto_if 58 with fail
       go_cut [10] (λdv wx=>∃(d':Int) (S:Z4),dv = cG d'/\G.El d'/\aS wx E.heap.size a n c S (if j=P.length then Lk else aY Lk P.length j)/\aB wr wx (bN a z) (bN a S))
       case first =>
        by_cases hjt:j=P.length
        ·have hjt':((j:Int) != P.length)=false:=by simp [hjt]
         have Hm:Hid ((if j=P.length then Lk else aY Lk P.length j)=Lk):=M7 hjt
         clear hjt
         go_wp2_with fail
         go_meet
         exact ⟨d,z,rfl,hde,by rw [Hm.out];exact hOx,Sb _ _⟩
        ·have hjt':((j:Int) != P.length)=true:=by simp;omega
         have Hm:Hid ((if j=P.length then Lk else aY Lk P.length j)=aY Lk P.length j):=M8 hjt
         have hsw:=tM E.heap.size a n c z Lk (V.heap.size+1) V.heap.size j P.length hOx kx xt hjn C hjt HN.2.2.2.2 HN.2.2.2.1
         have hea:=Fx _ _ (w.heap.size+1) (w.heap.size+1+1) a n c (λw'=>∃S,aS w' E.heap.size a n c S (aY Lk P.length j)/\aB wr w' (bN a z) (bN a S)) x1
          (hsw.mono λe w' he=>⟨he.1,by obtain ⟨_,S,h1,h2⟩:=he;exact h2.cell x2 HN.2.2.1,he.2⟩)
         have Hea:=Z5 hea
         clear hjt hsw hea
         go_wp2_with fail
         refine Hea.mono ?_
         rintro e w5 ⟨rfl,S,hO5,hM5⟩
         have z0:=hM5.cell x0 HN.1
         have hb5:SJ E w5:=D.trans (hM5.below (λb' Z=>(hOx.lt b' Z).1) D.size)
         go_wp2_with fail
         refine (Jo d (h.ai hb5) hde).mono ?_
         rintro e w6 ⟨m6,rfl,rfl⟩
         go_wp2_with fail
         go_meet
         exact ⟨_,S,rfl,bX.uc h d,by rw [Hm.out];exact hO5.ai (below_drewN (M5 _ _) m6),hM5.trans (RZ (below_drewN (M5 _ _) m6) _)⟩
       obtain ⟨d',S,rfl,hde',hO1,K⟩:=hcut
       generalize wc=U at *
       obtain ⟨hrw1,hl1,hnz1⟩:=bz.flip (t:=P.length) hrw N.out C hjn Hz.out
       have c0:=K.cell x0 HN.1
       have c1:=K.cell x1 HN.2.1
       have c2:=K.cell x2 HN.2.2.1
       have ct:=K.cell xt HN.2.2.2.1
       have m0:¬ bN a S w.heap.size:=K.not (Nf wr _ x0) HN.1
       have m1:¬ bN a S (w.heap.size+1):=K.not (Nf wr _ x1) HN.2.1
       have m2:¬ bN a S (w.heap.size+1+1):=K.not (Nf wr _ x2) HN.2.2.1
       have mt:¬ bN a S V.heap.size:=K.not (Nf wr _ xt) HN.2.2.2.1
       have hc0:SJ E U:=D.trans (K.below (λb' Z=>(hOx.lt b' Z).1) D.size)
       have HM:=Z5 (Ng m0 (Ng m1 (Ng m2 mt)))
       have HL1:Hid (eo G.ops Lk P.length j k=clearTo G.ops P.length k (bs G.ops (if j=P.length then Lk else aY Lk P.length j) P.length k) n):=by show _=_;rw [gV,N.out]
       generalize (if j=P.length then Lk else aY Lk P.length j)=B at *
       have H:=hrw1.row (i:=P.length) (by omega)
       have tr:=hO1.cell C
       have ti:=hO1.ints C
       rw [H.1] at tr ti
       have tc:=ti.cell k (by omega)
       have tp:=ti.pl
       have hkl:(k:Int)<len:=by omega
       have hel:G.El (nth (aj B P.length) k):=H.2 _ (aG (by rw [H.1];omega))
       have hG1:=h.ai hc0
       have HG1:Hid (dg U.drew b G/\(∀n,dg (U.drewN n) b G)/\∀n,dg ((U.drewN n).alloc (.cells #[cG 0] 3)) b G) :=
        ⟨hG1.ai (M5 _ _).drew,λn=>hG1.drewN n,λn=>(hG1.drewN n).ai ((M5 _ _).alloc (M4 _) _)⟩
       have Hnz:=Z5 hnz1
       have Hl1:=Z5 hl1
       have Hrow1:=Z5 H
       clear H hl1 hnz1 m0 m1 m2 mt x0 x1 x2 xt kx kf ci ri ck hpr r0 r1 r2 yt yk yf q0 q1 q2
       go_upto_region 15 with fail
       go_cut [10] (λdv wx=>∃d2:Int,dv = cG d2/\G.El d2/\bm U wx)
       case first =>
        go_region_held3 (λw'=>w'.cell? ⟨w.heap.size,0,none⟩=some (ea b 0)/\w'.cell? ⟨w.heap.size+1,0,none⟩=some (.slice a n c)/\w'.cell? ⟨V.heap.size,0,none⟩=some (cG P.length) /\
          w'.cell? ⟨ablk a,aN a+P.length,none⟩=some (.slice (aM S P.length).1 len (aM S P.length).2)/\w'.cell? ⟨ablk (aM S P.length).1,aN (aM S P.length).1+k,none⟩=some (cG (nth (aj B P.length) k)))
         (exact ⟨c0,c1,ct,tr,tc⟩)
         (first
         | (go_at_call 57;((with_reducible refine (lp d' _ HG1.out.1 hde' hel).mono ?_);rintro e w4 ⟨m4,rfl,rfl⟩)))
        all_goals (
         go_step;go_step
         go_meet
         exact ⟨_,rfl,Sr h _ _,⟨_,rfl⟩⟩)
       obtain ⟨d2,rfl,hde2,m5,rfl⟩:=hcut
       have hS : ∀ W, SJ U W → W.cell? ⟨w.heap.size, 0, none⟩ = some (.pointer (some ⟨b, 0, none⟩)) ∧ W.cell? ⟨w.heap.size + 1, 0, none⟩ = some (.slice a n c) ∧ W.cell? ⟨V.heap.size, 0, none⟩ = some (cG P.length) ∧
             W.cell? ⟨ablk a,aN a+P.length,none⟩=some (.slice (aM S P.length).1 len (aM S P.length).2)/\W.cell? ⟨ablk (aM S P.length).1,aN (aM S P.length).1+k,none⟩=some (cG (nth (aj B P.length) k))/\SJ U W :=
        λW hW=>⟨aC hW c0,aC hW c1,aC hW ct,aC hW tr,aC hW tc,hW⟩
       have HS:=Z5 hS
       clear hS
       go_upto_region 16 with fail
       go_cut [16,17] (λiv ev wx=>∃gi,iv = ea gi 0/\U.heap.size<=gi/\ev = cG 0/\wx.cell? ⟨gi,0,none⟩=some (cG (G.inv (nth (aj B P.length) k)))/\SJ U wx)
       case first =>
        have hBU:SJ U (U.drewN m5):=below_drewN (M5 _ _) m5
        have hfc:∀k,((U.drewN k).alloc (.cells #[cG 0] 3)).cell? ⟨U.heap.size,0,none⟩=some (cG 0):=λk=>bh (U.drewN k) _ _
        have hfc2:∀k k',(((U.drewN k).alloc (.cells #[cG 0] 3)).drewN k').cell? ⟨U.heap.size,0,none⟩=some (cG 0):=λk _=>bh (U.drewN k) _ _
        have hff2:∀k k',(((U.drewN k).alloc (.cells #[cG 0] 3)).drewN k').frozen? ⟨U.heap.size,0,none⟩=false:=λk _=>lj (U.drewN k) _ _
        have hff:∀k,((U.drewN k).alloc (.cells #[cG 0] 3)).frozen? ⟨U.heap.size,0,none⟩=false:=λk=>lj (U.drewN k) _ _
        go_region_held3 (λW=>W.cell? ⟨w.heap.size,0,none⟩=some (ea b 0)/\W.cell? ⟨w.heap.size+1,0,none⟩=some (.slice a n c)/\W.cell? ⟨V.heap.size,0,none⟩=some (cG P.length) /\
          W.cell? ⟨ablk a,aN a+P.length,none⟩=some (.slice (aM S P.length).1 len (aM S P.length).2)/\W.cell? ⟨ablk (aM S P.length).1,aN (aM S P.length).1+k,none⟩=some (cG (nth (aj B P.length) k))/\SJ U W)
         ((refine HS _ ?_;first|exact hBU.drew|exact below_drewN (M5 _ _) _|exact (below_drewN (M5 _ _) _).alloc (M4 _) _|exact ((below_drewN (M5 _ _) _).alloc (M4 _) _).setCell (M4 _) _|exact below_drewN ((below_drewN (M5 _ _) _).alloc (M4 _) _) _|exact (below_drewN ((below_drewN (M5 _ _) _).alloc (M4 _) _) _).setCell (M4 _) _))
         (first
         | (go_at_call 201;((with_reducible refine (Af _ (HG1.out.2.1 _) hel Hnz.out).mono ?_);rintro e w4 ⟨m4,rfl,rfl⟩))
         | (go_at_call 201;((with_reducible refine (Af _ (HG1.out.2.2 _) hel Hnz.out).mono ?_);rintro e w4 ⟨m4,rfl,rfl⟩)))
        all_goals (
         go_step;go_step
         go_meet)
        ·exact ⟨U.heap.size,rfl,M4 _,rfl,Ns _ _ _ (hfc _),((below_drewN (M5 _ _) _).alloc (M4 _) _).setCell (M4 _) _⟩
        ·exact ⟨U.heap.size,rfl,M4 _,rfl,Ns _ _ _ (hfc2 _ _),(below_drewN ((below_drewN (M5 _ _) _).alloc (M4 _) _) _).setCell (M4 _) _⟩
       obtain ⟨gi,rfl,hgi,rfl,ig,hbi⟩:=hcut
       obtain ⟨i0,i1,it,ir,ic,_⟩:=HS wc hbi
       have i2:=aC hbi c2
       have O:=hO1.ai hbi
       have hci:SJ E wc:=NK hc0 (hbi.mono hc0.size)
       have hrw2:=hrw1.norm (Sk h) (t:=P.length) (c:=k) (by rw [Hl1.out];exact C) (by omega) Hnz.out
       have hl2:(bs G.ops B P.length k).length=n:=by rw [di];exact Hl1
       have Hl2:=Z5 hl2
       clear hl2
       go_upto_if 92 with fail
       go_cut [] (λwx=>∃Q,aS wx E.heap.size a n c Q (bs G.ops B P.length k)/\aB U wx (bN a S) (bN a Q))
       case first =>
        have hv:G.ops.inv (nth (aj B P.length) k)=G.inv (nth (aj B P.length) k):=rfl
        have Hv:=Z5 hv
        clear hv
        by_cases hi1:G.inv (nth (aj B P.length) k)=1
        ·have Hn:Hid (bs G.ops B P.length k=B):=by show _=_;rw [bs,M7 (by rw [Hv.out];exact hi1)]
         have hi1':(G.inv (nth (aj B P.length) k) != 1)=false:=by simp [hi1]
         clear hi1
         go_wp2_with fail
         go_meet
         exact ⟨S,by rw [Hn.out];exact O,RZ hbi _⟩
        ·have Hn:Hid (bs G.ops B P.length k=B.set P.length ((aj B P.length).map (G.mul (G.inv (nth (aj B P.length) k))))):=by show _=_;rw [bs,M8 (by rw [Hv.out];exact hi1)];rfl
         have hi1':(G.inv (nth (aj B P.length) k) != 1)=true:=by simpa using hi1
         have hsc:=pr E a n c S B w.heap.size gi V.heap.size (G.inv (nth (aj B P.length) k)) P.length O h hci i0 ig it C (SA h _) (Hrow1.2) (by rw [Hrow1.1];exact hlen)
         have hea:=Ew _ _ _ (w.heap.size+1) (w.heap.size+1+1) a n c (λw'=>∃Q,aS w' E.heap.size a n c Q (bs G.ops B P.length k)/\aB U w' (bN a S) (bN a Q)) i1
          (hsc.mono λe w' he=>⟨he.1,by obtain ⟨_,Q,h1,h2⟩:=he;exact h2.cell i2 HM.2.2.1,by obtain ⟨_,Q,h1,h2⟩:=he;exact ⟨Q,by rw [Hn.out];exact h1,(RZ hbi _).trans h2⟩⟩)
         have Hea:=Z5 hea
         clear hi1 hsc hea
         go_wp2_with fail
         refine Hea.mono ?_
         rintro e w5 ⟨rfl,Q,hO5,hM5⟩
         go_wp2_with fail
         go_meet
         exact ⟨Q,hO5,hM5⟩
       obtain ⟨Q,hO2,I⟩:=hcut
       generalize wc=T at *
       have t0:=I.cell c0 HM.1
       have t1:=I.cell c1 HM.2.1
       have t2:=I.cell c2 HM.2.2.1
       have tt:=I.cell ct HM.2.2.2
       have hc2:SJ E T:=hc0.trans (I.below (λb' Z=>(hO1.lt b' Z).1) hc0.size)
       have k0:¬ bN a Q w.heap.size:=I.not (Nf U _ c0) HM.1
       have k1:¬ bN a Q (w.heap.size+1):=I.not (Nf U _ c1) HM.2.1
       have k2:¬ bN a Q (w.heap.size+1+1):=I.not (Nf U _ c2) HM.2.2.1
       have k3:¬ bN a Q V.heap.size:=I.not (Nf U _ ct) HM.2.2.2
       have HK:=Z5 (Ng k0 (Ng k1 (Ng k2 k3)))
       have hmT:aB W0 T (bN a R) (bN a Q):=hmv.trans ((RZ r _).trans (K.trans I))
       have hop1:=bj hop r
       have hop2:=K.own hop1 hoi.out
       have ho2:ap ≠ none->¬ bN a S (ablk ap):=λhn=>K.not (aP hop1 hn).2 (hoi hn)
       have hop3:=I.own hop2 ho2
       have ho3:ap ≠ none->¬ bN a Q (ablk ap):=λhn=>I.not (aP hop2 hn).2 (ho2 hn)
       have Ho3:=Z5 ho3
       clear k0 k1 k2 k3 c0 c1 c2 ct tr ti tc tp i0 i1 i2 it ir ic ig hop hop1 hop2 ho2 ho3 hel
       generalize bs G.ops B P.length k=L2 at *
       go_upto_region 19 with fail
       go_wp2_with fail
       go_loopw [98] (λiv wx=>∃i:Nat,i<=n/\iv = cG i/\aS wx E.heap.size a n c Q (clearTo G.ops P.length k L2 i)/\aB T wx (bN a Q) (bN a Q)) (λiv _=>n - (intOf iv).toNat)
       case atStart=>exact ⟨0,Nb _,rfl,hO2,Sb _ _⟩
       case round =>
        obtain ⟨i,hi,rfl,O,F⟩:=hrel
        generalize wr=X at *
        have x0:=F.cell t0 HK.1
        have x1:=F.cell t1 HK.2.1
        have x2:=F.cell t2 HK.2.2.1
        have xt:=F.cell tt HK.2.2.2
        have hcx:SJ E X:=hc2.trans (F.below (λb' Z=>(hO2.lt b' Z).1) hc2.size)
        by_cases hin:i<n
        ·have hrwi:=Si (Sk h) hrw2 (t:=P.length) (c:=k) (by rw [Hl2.out];exact C) (by omega) i (by rw [Hl2.out];exact hi)
         have hli:(clearTo G.ops P.length k L2 i).length=n:=by rw [dj];exact Hl2
         have hstep:clearTo G.ops P.length k L2 (i+1)=if i=P.length then clearTo G.ops P.length k L2 i else (clearTo G.ops P.length k L2 i).set i (bT G.ops (aj (clearTo G.ops P.length k L2 i) P.length) k (aj (clearTo G.ops P.length k L2 i) i)):=rfl
         have Hstep:=Z5 hstep
         clear hstep
         generalize clearTo G.ops P.length k L2 i=A at *
         have hri:=hrwi.row (i:=i) (by omega)
         have hrt:=hrwi.row (i:=P.length) (by omega)
         have ci:=O.cell hin
         have ii:=O.ints hin
         rw [hri.1] at ci ii
         have ck:=ii.cell k (by omega)
         have hpi:=ii.pl
         have hxel:G.El (nth (aj A i) k):=hri.2 _ (aG (by rw [hri.1];omega))
         have Hri:=Z5 hri
         have Hrt:=Z5 hrt
         clear hri hrt hli
         have a1:=aU x1 (.cells #[cG i] 3)
         have a2:=bh X (cG i) 3
         have a3:=aU ci (.cells #[cG i] 3)
         have a4:=aU ck (.cells #[cG i] 3)
         have b1:=aU a1 (.cells #[cG (nth (aj A i) k)] 3)
         have b2:=aU a2 (.cells #[cG (nth (aj A i) k)] 3)
         have b3:=aU (aU xt (.cells #[cG i] 3)) (.cells #[cG (nth (aj A i) k)] 3)
         have b4:((X.alloc (.cells #[cG i] 3)).alloc (.cells #[cG (nth (aj A i) k)] 3)).cell? ⟨X.heap.size+1,0,none⟩=some (cG (nth (aj A i) k)):=dB _ _ _ (by simp)
         by_cases hit:i=P.length
         ·have hit':((i:Int) != P.length)=false:=by simp [hit]
          have Hn:Hid (clearTo G.ops P.length k L2 (i+1)=A):=by show _=_;rw [Hstep.out,M7 hit]
          clear hit
          go_wp2_with fail
          go_roundw
          case rel=>exact ⟨i+1,by omega,by go_num,by rw [Hn.out];exact O.ai (((M5 _ _).alloc (M4 _) _).alloc (by simp) _),F.trans (RZ (((M5 _ _).alloc (M4 _) _).alloc (by simp) _) _)⟩
          case measure=>simp [intOf]<;>omega
         ·have hit':((i:Int) != P.length)=true:=by simp;omega
          by_cases D:nth (aj A i) k=0
          ·have hx0':(nth (aj A i) k != 0)=false:=by simp [D]
           have Hn:Hid (clearTo G.ops P.length k L2 (i+1)=A):=by show _=_;rw [Hstep.out,M8 hit,bT,M7 D,kc]
           clear hit D
           go_wp2_with fail
           go_roundw
           case rel=>exact ⟨i+1,by omega,by go_num,by rw [Hn.out];exact O.ai (((M5 _ _).alloc (M4 _) _).alloc (by simp) _),F.trans (RZ (((M5 _ _).alloc (M4 _) _).alloc (by simp) _) _)⟩
           case measure=>simp [intOf]<;>omega
          ·have hx0':(nth (aj A i) k != 0)=true:=by simpa using D
           have Hn:Hid (clearTo G.ops P.length k L2 (i+1)=A.set i (bZ G.ops (aj A i) (G.neg (nth (aj A i) k)) (aj A P.length))):=by show _=_;rw [Hstep.out,M8 hit,bT,M8 D];rfl
           have hbz:SJ X ((X.alloc (.cells #[cG i] 3)).alloc (.cells #[cG (nth (aj A i) k)] 3)):=((M5 _ _).alloc (M4 _) _).alloc (by simp) _
           have zi:((X.alloc (.cells #[cG i] 3)).alloc (.cells #[cG (nth (aj A i) k)] 3)).cell? ⟨X.heap.size,0,none⟩=some (cG i):=aU (bh _ _ _) _
           have zx:((X.alloc (.cells #[cG i] 3)).alloc (.cells #[cG (nth (aj A i) k)] 3)).cell? ⟨X.heap.size+1,0,none⟩=some (cG (nth (aj A i) k)):=dB _ _ _ (by simp)
           have hsw:=pF E a n c Q A w.heap.size X.heap.size (X.heap.size+1) V.heap.size len i (nth (aj A i) k) P.length (O.ai hbz) h (hcx.trans (hbz.mono hcx.size)) (aC hbz x0) zi zx (aC hbz xt) hin C hit hxel
            HK.1 (O.new (M4 _)) (O.new (by omega)) HK.2.2.2 Hri.2 Hrt.2 Hri.1 Hrt.1
           have hea:=Ep _ _ _ _ (w.heap.size+1) (w.heap.size+1+1) a n c (λw'=>aS w' E.heap.size a n c Q (clearTo G.ops P.length k L2 (i+1))/\aB T w' (bN a Q) (bN a Q)) (aC hbz x1)
            (hsw.mono λe w' he=>⟨he.1,he.2.2.cell (aC hbz x2) HK.2.2.1,by rw [Hn.out];exact he.2.1,F.trans ((RZ hbz _).trans he.2.2)⟩)
           have Hea:=Z5 hea
           clear hit D hsw hea zi zx hbz
           go_wp2_with fail
           refine Hea.mono ?_
           rintro e w5 ⟨rfl,hO5,hM5⟩
           go_wp2_with fail
           go_roundw
           case rel=>exact ⟨i+1,by omega,by go_num,hO5,hM5⟩
           case measure=>simp [intOf]<;>omega
        ·obtain rfl:i=n:=by omega
         have hopx:=F.own hop3 Ho3.out
         have hsz0:w.heap.size+1+1+1<=X.heap.size:=by have e1:=HsW0.out;have e2:=(hmT.trans F).size;omega
         have hcn:=bh X (cG k) 3
         have hbX:=(M5 X.heap.size X).alloc (M4 _) (.cells #[cG k] 3)
         have hpl8:=HPn.out
         go_wp2_with (at_builtin;refine bd rfl _ _ 22 3 rfl (cG 0) 8 underlying22 br rfl (w.heap.size+1+1+1) ap P.length cp _ rfl (hopx.alloc _) ⟨X.heap.size,0,none⟩ 1 (cG k) rfl hcn rfl (by omega) (by unfold maxLen;omega) (Np hsz0 hbX.size) ?_;intro a3 c3 w3 hown3 hgr hap3)
         go_roundw
         case rel =>
          have hnx:aE G.ops L (k+1)=(clearTo G.ops P.length k L2 i,P ++ [(k:Int)]):=by rw [dG hst.out (by rw [N.out];exact C),M8 (by rw [Hf.out,N.out];omega),Hf.out,HL1.out]
          have hne:∀b',bN a Q b'->dq ap b':=λb' Z=>by
           by_cases hn:ap=none
           ·exact .inl hn
           ·exact .inr λe=>Ho3 hn (by rw [e];exact Z)
          have hO3:aS w3 E.heap.size a i c Q (clearTo G.ops P.length k L2 i) :=
           (O.ai hbX).bf λb' Z=>hgr.block b' ((O.ai hbX).lt b' Z).2 λe=>(hne b' Z).own P.length cp e.symm
          have hb3:Below (w.heap.size+1+1+1) X w3:=RY (hbX.mono hsz0) (hopx.alloc _) hgr (M4 _) (Np hsz0 hbX.size)
          have hm3:aB W0 w3 (bN a R) (bN a Q):=by have h1:=hmT.trans F;refine ⟨hb3.os.trans h1.os,hb3.tape.trans h1.tape,hb3.output.trans h1.output,Np h1.size hb3.size,λb' Z hI=>(hb3.block b' (by rw [HsW0.out];exact Z)).trans (h1.block b' Z hI),h1.grow⟩
          have hrw3:=Si (Sk h) hrw2 (t:=P.length) (c:=k) (by rw [Hl2.out];exact C) (by omega) i (by rw [Hl2.out];exact hi)
          have ho4:a3 ≠ none->¬ bN a Q (ablk a3):=λhn hI=>by
           rcases hap3 _ ((O.ai hbX).lt _ hI).2 (hne _ hI) with h1 | h1
           ·exact hn h1
           ·exact h1 rfl
          refine ⟨k+1,Q,a3,c3,d2,clearTo G.ops P.length k L2 i,P ++ [(k:Int)],by omega,by go_num,by simp,rfl,hnx.symm,hO3,?_,ho4,hm3,hrw3,hde2,by simp;omega⟩
          simpa using hown3
         case measure=>simp [intOf]<;>omega
     ·obtain rfl:j=n:=by omega
      have Hn:Hid ((Lk,P)=aE G.ops L (k+1)):=by show _=_;rw [dG hst.out (by rw [N.out];exact C),M7 (by rw [hfr.out,iK (by rw [N.out];exact M4 _),N.out])]
      go_wp2_with fail
      go_roundw
      case rel =>
       have hmx:aB W0 wr (bN a R) (bN a z):=hmv.trans (RZ r _)
       exact ⟨k+1,z,ap,cp,d,Lk,P,by omega,by go_num,rfl,rfl,Hn,hOx,bj hop r,hoi,hmx,hrw,hde,HPn⟩
      case measure=>simp [intOf]<;>omega
   ·have hPe:P.length=n:=by omega
    have hfull:(Lk,P)=aE G.ops L m:=by rw [show m=k+(m - k) by omega,fG (by rw [<- hst.out,hPe,<- hO.ll]),<- hst.out]
    have Hfull:=Z5 hfull
    have hPe':((P.length:Int)<n)=False:=by simp;omega
    clear hfull hPe
    go_wp2_with fail
    go_ret2
    exact Hfin _ _ _ _ _ _ _ Hfull.out hOr (bq hop (by omega)) hmw
  ·obtain rfl:k=m:=by omega
   go_wp2_with fail
   go_ret2
   exact Hfin _ _ _ _ _ _ _ hst.out hOr (bq hop (by omega)) hmw
end
end Go.Proofs.YthglbncgemdcbaaGreat
