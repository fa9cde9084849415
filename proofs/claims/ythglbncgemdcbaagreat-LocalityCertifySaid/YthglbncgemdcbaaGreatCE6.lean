import Derived.Test.YthglbncgemdcbaaGreatCE5
namespace Go.Proofs.YthglbncgemdcbaaGreat
set_option linter.all false
set_option maxRecDepth 100000
set_option maxHeartbeats 4000000
open Go.RowKit Go.Proofs.Tryz
section
variable {w:World} {b:Nat} {G:cZ}
theorem bt.flip {El:Int->Prop} {m n t j k:Nat} {L:Ll} (h:bt El m L) (Z:L.length=n) (V:t<n) (X:j<n) (Y:nth (ai L j) k ≠ 0) :
  bt El m (if j=t then L else bj L t j)/\(if j=t then L else bj L t j).length=n/\nth (ai (if j=t then L else bj L t j) t) k ≠ 0:=by
 split
 ·rename_i e;subst e;exact ⟨h,Z,Y⟩
 ·rename_i e;refine ⟨h.swap (by omega) (by omega),by rw [bC];exact Z,?_⟩;rw [gO _ _ _ _ (by omega) (by omega),dX,KY (by omega),KX rfl];exact Y
theorem lr (L:Ll) (i:Nat):L.set i (ai L i)=L:=by
 apply N2;intro j;rw [Md];by_cases h:i=j
 ·subst h;by_cases h1:i<L.length
  ·simp [h1,ai]
  ·simp [h1]
 ·simp [h]
theorem br {w:World} {p:Addr} {v:Value} (h:w.cell? p=some v) (o:Obj):(w.alloc o).cell? p=some v:=aB ((KU _ _).alloc (KT _) o) h
theorem bm (w:World) (x:Value) (e:TypeId):(w.alloc (.cells #[x] e)).cell? ⟨w.heap.size,0,none⟩=some x:=aF w #[x] e rfl 0
theorem sd (w:World) (x:Value) (e:TypeId):(w.alloc (.cells #[x] e)).frozen? ⟨w.heap.size,0,none⟩=false:=by simp
theorem dB (w:World) (x:Value) (e:TypeId) {s:Nat} (Z:s=w.heap.size):(w.alloc (.cells #[x] e)).cell? ⟨s,0,none⟩=some x:=by subst Z;exact bm w x e
structure KF (w0 w W0:World) (a:OA) (n c:Nat) (R:LA) (wr:World) (R':LA) (Lk:Ll) (len:Nat) (G:cZ):Prop where
 om:aO wr w0.heap.size a n c R' Lk
 mv:aC W0 wr (bQ a R) (bQ a R')
 rws:bt G.El len Lk
def yd (Y:World) (a:OA) (n c:Nat) (R:LA) (L:Ll) (m:Nat) (G:cZ) (w:World) (e:Ending) (w':World):Prop :=
 ∃Z ap cp d,e = .returned (.tuple #[.slice ap (aD G.ops L m).2.length cp,cG d])/\aO w' Y.heap.size a n c Z (aD G.ops L m).1 /\
  w'.ownsRow w.heap.size 3 1 (.slice ap (aD G.ops L m).2.length cp) (aD G.ops L m).2.length ((aD G.ops L m).2.map (Value.int .i64))/\aC w w' (bQ a R) (bQ a Z)/\PY Y w'
theorem tI (F:World) (a:OA) (n c m len:Nat) (R:LA) (L:Ll) (h:dU F b G) (hb:PY F w) (hO:aO w F.heap.size a n c R L)
  (hR:bt G.El len L) (hml:m<=len) (hlen:len<=1000000) (hn:n<=1000000) :
  Calls prog 223 #[.pointer (some ⟨b,0,none⟩),.slice a n c,cG m,ds] w (yd F a n c R L m G w):=by
 have hfin:∀w' z ap cp d Lk P,(Lk,P)=aD G.ops L m->aO w' F.heap.size a n c z Lk->w'.ownsRow w.heap.size 3 1 (.slice ap P.length cp) P.length (P.map (Value.int .i64))->aC w w' (bQ a R) (bQ a z) ->
   yd F a n c R L m G w (.returned (.tuple #[.slice ap P.length cp,cG d])) w':=by
  intro w' z ap cp d Lk P he h1 h2 h3;have e1:(aD G.ops L m).1=Lk:=by rw [<- he]
  have e2:(aD G.ops L m).2=P:=by rw [<- he]
  refine ⟨z,ap,cp,d,?_,?_,?_,h3,hb.trans (h3.below (λb' Z=>(hO.lt b' Z).1) hb.size)⟩
  ·rw [e2]
  ·rw [e1];exact h1
  ·rw [e2];exact h2
 have Hfin:=Z5 hfin;clear hfin;have hpl:=hO.pl;have hGe:G.El 1:=⟨by omega,by have:=h.q2;omega⟩
 have hal:=((KU w.heap.size w).alloc (KT _) (.cells #[.pointer (some ⟨b,0,none⟩)] 79))
 go_enter func223,ntmps223;have hmf:∀(fn:Fn) (first cap:Array Value) (w:World),(Instr.makeFunc fn first cap).run prog w = .ok (.func fn first cap) w:=λ_ _ _ _=>rfl;go_wp2_with fail;obtain ⟨W0,hW0⟩:∃W0:World,W0=((w.alloc (.cells #[.pointer (some ⟨b,0,none⟩)] 79)).alloc (.cells #[.slice a n c] 25)).alloc (.cells #[ds] 25):=⟨_,rfl⟩
 rw [<- hW0];have hbW0:PY w W0:=by rw [hW0];exact ((hal.alloc (by simp) _).alloc (by simp;omega) _)
 have hsW0:w.heap.size+1+1+1=W0.heap.size:=by rw [hW0];simp
 have q0:W0.cell? ⟨w.heap.size,0,none⟩=some (.pointer (some ⟨b,0,none⟩)):=by rw [hW0];exact br (br (bm _ _ _) _) _
 have q1:W0.cell? ⟨w.heap.size+1,0,none⟩=some (.slice a n c):=by rw [hW0];exact br (dB _ _ _ (by simp)) _
 have q2:W0.cell? ⟨w.heap.size+1+1,0,none⟩=some ds:=by rw [hW0];exact dB _ _ _ (by simp)
 have HsW0:=Z5 hsW0;clear hsW0 hW0 hal;go_loopw [10,12,13] (λdv pv cv wr=>∃(k:Nat) (z:LA) (ap:OA) (cp:Nat) (d:Int) (Lk:Ll) (P:LI),k<=m/\cv = cG k/\pv = .slice ap P.length cp/\dv = cG d /\
   Hid ((Lk,P)=aD G.ops L k)/\aO wr F.heap.size a n c z Lk/\wr.ownsRow (w.heap.size+1+1+1) 3 1 (.slice ap P.length cp) P.length (P.map (Value.int .i64))/\Hid (ap ≠ none->¬ bQ a z (ablk ap)) /\
   aC W0 wr (bQ a R) (bQ a z)/\bt G.El len Lk/\G.El d/\P.length<=n)
  (λ_ _ cv _=>m - (intOf cv).toNat)
 case atStart =>
  exact ⟨0,R,none,0,1,L,[],K0 _,rfl,rfl,rfl,rfl,hO.af hbW0,cU,λh=>absurd rfl h,Pz _ _,hR,hGe,K0 _⟩
 case round =>
  obtain ⟨k,z,ap,cp,d,Lk,P,hkm,rfl,rfl,rfl,hst,hOr,hop,hoi,hmv,hrw,hde,hPn⟩:=hrel
  generalize wr=V at *
  have r0:=hmv.cell q0 (hO.new (KT _))
  have r1:=hmv.cell q1 (hO.new (by simp))
  have r2:=hmv.cell q2 (hO.new (by simp;omega))
  have hmw:aC w V (bQ a R) (bQ a z):=(Pr hbW0 _).trans hmv
  have hLkn:Lk.length=n:=hOr.ll
  have N:=Z5 hLkn
  clear hLkn
  by_cases hk:k<m
  ·by_cases D:P.length<n
   ·have hPl':(P.length:Int)<n:=by omega
    have hk':(k:Int)<m:=by omega
    go_wp2_with fail
    obtain ⟨Y,hY⟩:∃Y:World,Y=(V.alloc (.cells #[cG P.length] 3)).alloc (.cells #[cG P.length] 3):=⟨_,rfl⟩
    rw [<- hY]
    have hbY:PY V Y:=by rw [hY];exact ((KU _ _).alloc (KT _) _).alloc (by simp) _
    have hYs:Y.heap.size=V.heap.size+2:=by rw [hY];simp
    have yt:Y.cell? ⟨V.heap.size,0,none⟩=some (cG P.length):=by rw [hY];exact br (bm _ _ _) _
    have yk:Y.cell? ⟨V.heap.size+1,0,none⟩=some (cG P.length):=by rw [hY];exact dB _ _ _ (by simp)
    have yf:Y.frozen? ⟨V.heap.size+1,0,none⟩=false:=by rw [hY];simp
    have HYs:=Z5 hYs
    have HPn:=Z5 hPn
    clear hY hYs
    go_loopw [] (λwx=>∃j:Nat,P.length<=j/\j<=n/\Hid (bd Lk k P.length=bd Lk k j)/\wx.cell? ⟨V.heap.size+1,0,none⟩=some (cG j)/\wx.frozen? ⟨V.heap.size+1,0,none⟩=false/\Below (V.heap.size+1) Y wx)
     (λwx=>n - (intOf ((wx.cell? ⟨V.heap.size+1,0,none⟩).getD undef)).toNat)
    case atStart=>exact ⟨P.length,KT _,hPn,rfl,yk,yf,KU _ _⟩
    case round =>
     obtain ⟨j,hj1,hj2,hfr,kx,kf,hYx⟩:=hrel
     have hbx:PY V wr:=hbY.trans (hYx.mono (by omega))
     have hOx:=hOr.af hbx
     have x0:=aB hbx r0
     have x1:=aB hbx r1
     have x2:=aB hbx r2
     have xt:wr.cell? ⟨V.heap.size,0,none⟩=some (cG P.length):=(hYx.cell (by simp)).trans yt
     by_cases hjn:j<n
     ·have hLj:j<Lk.length:=by rw [N.out];exact hjn
      have hrow:=hrw.row hLj
      have ci:=hOx.cell hjn
      have ri:=hOx.ints hjn
      rw [hrow.1] at ci ri
      have ck:=ri.cell k (by omega)
      have hpr:=ri.pl
      have hkl:(k:Int)<len:=by omega
      have hfs:=gD (c:=k) hLj
      by_cases hz:nth (ai Lk j) k=0
      ·rw [KX hz] at hfs
       have hz':(nth (ai Lk j) k == 0)=true:=by simpa using hz
       have Hf:Hid (bd Lk k P.length=bd Lk k (j+1)):=by show _=_;rw [hfr.out,hfs]
       clear hz hfs hrow
       go_wp2_with fail
       go_roundw
       case rel =>
        refine ⟨j+1,by omega,by omega,Hf,Lh _ _ _ kx,by rw [L7];exact kf,hYx.setCell (by simp) _⟩
       case measure=>rw [Lh _ _ _ kx,kx];simp [intOf] <;> omega
      ·rw [KY hz] at hfs
       have hz':(nth (ai Lk j) k == 0)=false:=by simpa using hz
       have Hf:Hid (bd Lk k P.length=j):=by show _=_;rw [hfr.out,hfs]
       have hjn':((j:Int) == n)=false:=by simp;omega
       have Hz:=Z5 hz
       clear hz
       have Hrow:=Z5 hrow
       clear hfs hrow
       have n0:¬ bQ a z w.heap.size:=hmv.not (by have:=HsW0.out;omega) (hO.new (KT _))
       have n1:¬ bQ a z (w.heap.size+1):=hmv.not (by have:=HsW0.out;omega) (hO.new (by omega))
       have n2:¬ bQ a z (w.heap.size+1+1):=hmv.not (by have:=HsW0.out;omega) (hO.new (by omega))
       have nt:¬ bQ a z V.heap.size:=hOr.new (KT _)
       have nk:¬ bQ a z (V.heap.size+1):=hOr.new (by omega)
       have C:PY F wr:=hb.trans (aC.below (hmw.trans (Pr hbx _)) (λb' Z=>(hO.lt b' Z).1) hb.size)
       have HN:=Z5 (K3 n0 (K3 n1 (K3 n2 (K3 nt nk))))
       clear n0 n1 n2 nt nk
       go_upto_if 58 with fail
       go_cut [10] (λdv wx=>∃(d':Int) (S:LA),dv = cG d'/\G.El d'/\aO wx F.heap.size a n c S (if j=P.length then Lk else bj Lk P.length j)/\aC wr wx (bQ a z) (bQ a S))
       case first =>
        by_cases hjt:j=P.length
        ·have hjt':((j:Int) != P.length)=false:=by simp [hjt]
         have Hm:Hid ((if j=P.length then Lk else bj Lk P.length j)=Lk):=KX hjt
         clear hjt
         go_wp2_with fail
         go_meet
         exact ⟨d,z,rfl,hde,by rw [Hm.out];exact hOx,Pz _ _⟩
        ·have hjt':((j:Int) != P.length)=true:=by simp;omega
         have Hm:Hid ((if j=P.length then Lk else bj Lk P.length j)=bj Lk P.length j):=KY hjt
         have hsw:=F5 F.heap.size a n c z Lk (V.heap.size+1) V.heap.size j P.length hOx kx xt hjn D hjt HN.2.2.2.2 HN.2.2.2.1
         have hea:=Ew _ _ (w.heap.size+1) (w.heap.size+1+1) a n c (λw'=>∃S,aO w' F.heap.size a n c S (bj Lk P.length j)/\aC wr w' (bQ a z) (bQ a S)) x1
          (hsw.mono λe w' he=>⟨he.1,by obtain ⟨_,S,h1,h2⟩:=he;exact h2.cell x2 HN.2.2.1,he.2⟩)
         have Hea:=Z5 hea
         clear hjt hsw hea
         go_wp2_with fail
         refine Hea.mono ?_
         rintro e w5 ⟨rfl,S,hO5,hM5⟩
         have z0:=hM5.cell x0 HN.1
         have hb5:PY F w5:=C.trans (hM5.below (λb' Z=>(hOx.lt b' Z).1) C.size)
         go_wp2_with fail
         refine (IT d (h.af hb5) hde).mono ?_
         rintro e w6 ⟨m6,rfl,rfl⟩
         go_wp2_with fail
         go_meet
         exact ⟨_,S,rfl,cZ.u9 h d,by rw [Hm.out];exact hO5.af (below_drewN (KU _ _) m6),hM5.trans (Pr (below_drewN (KU _ _) m6) _)⟩
       obtain ⟨d',S,rfl,hde',hO1,K⟩:=hcut
       generalize wc=U at *
       obtain ⟨hrw1,hl1,hnz1⟩:=bt.flip (t:=P.length) hrw N.out D hjn Hz.out
       have c0:=K.cell x0 HN.1
       have c1:=K.cell x1 HN.2.1
       have c2:=K.cell x2 HN.2.2.1
       have ct:=K.cell xt HN.2.2.2.1
       have m0:¬ bQ a S w.heap.size:=K.not (Lb wr _ x0) HN.1
       have m1:¬ bQ a S (w.heap.size+1):=K.not (Lb wr _ x1) HN.2.1
       have m2:¬ bQ a S (w.heap.size+1+1):=K.not (Lb wr _ x2) HN.2.2.1
       have mt:¬ bQ a S V.heap.size:=K.not (Lb wr _ xt) HN.2.2.2.1
       have hc0:PY F U:=C.trans (K.below (λb' Z=>(hOx.lt b' Z).1) C.size)
       have HM:=Z5 (K3 m0 (K3 m1 (K3 m2 mt)))
       have HL1:Hid (eD G.ops Lk P.length j k=clearTo G.ops P.length k (bu G.ops (if j=P.length then Lk else bj Lk P.length j) P.length k) n):=by show _=_;rw [i9,N.out]
       generalize (if j=P.length then Lk else bj Lk P.length j)=A at *
       have B:=hrw1.row (i:=P.length) (by omega)
       have tr:=hO1.cell D
       have ti:=hO1.ints D
       rw [B.1] at tr ti
       have tc:=ti.cell k (by omega)
       have tp:=ti.pl
       have hkl:(k:Int)<len:=by omega
       have hel:G.El (nth (ai A P.length) k):=B.2 _ (aG (by rw [B.1];omega))
       have hG1:=h.af hc0
       have HG1:Hid (dU U.drew b G/\(∀n,dU (U.drewN n) b G)/\∀n,dU ((U.drewN n).alloc (.cells #[cG 0] 3)) b G) :=
        ⟨hG1.af (KU _ _).drew,λn=>hG1.drewN n,λn=>(hG1.drewN n).af ((KU _ _).alloc (KT _) _)⟩
       have Hnz:=Z5 hnz1
       have Hl1:=Z5 hl1
       have Hrow1:=Z5 B
       clear B hl1 hnz1 m0 m1 m2 mt x0 x1 x2 xt kx kf ci ri ck hpr r0 r1 r2 yt yk yf q0 q1 q2
       go_upto_region 15 with fail
       go_cut [10] (λdv wx=>∃d2:Int,dv = cG d2/\G.El d2/\bg U wx)
       case first =>
        go_region_held3 (λw'=>w'.cell? ⟨w.heap.size,0,none⟩=some (.pointer (some ⟨b,0,none⟩))/\w'.cell? ⟨w.heap.size+1,0,none⟩=some (.slice a n c)/\w'.cell? ⟨V.heap.size,0,none⟩=some (cG P.length) /\
          w'.cell? ⟨ablk a,aJ a+P.length,none⟩=some (.slice (aM S P.length).1 len (aM S P.length).2)/\w'.cell? ⟨ablk (aM S P.length).1,aJ (aM S P.length).1+k,none⟩=some (cG (nth (ai A P.length) k)))
         (exact ⟨c0,c1,ct,tr,tc⟩)
         (first
         | (go_at_call 57;((with_reducible refine (oh d' _ HG1.out.1 hde' hel).mono ?_);rintro e w4 ⟨m4,rfl,rfl⟩)))
        all_goals (
         go_step;go_step
         go_meet
         exact ⟨_,rfl,PQ h _ _,⟨_,rfl⟩⟩)
       obtain ⟨d2,rfl,hde2,m5,rfl⟩:=hcut
       have hS : ∀ W, PY U W → W.cell? ⟨w.heap.size, 0, none⟩ = some (.pointer (some ⟨b, 0, none⟩)) ∧ W.cell? ⟨w.heap.size + 1, 0, none⟩ = some (.slice a n c) ∧ W.cell? ⟨V.heap.size, 0, none⟩ = some (cG P.length) ∧
             W.cell? ⟨ablk a,aJ a+P.length,none⟩=some (.slice (aM S P.length).1 len (aM S P.length).2)/\W.cell? ⟨ablk (aM S P.length).1,aJ (aM S P.length).1+k,none⟩=some (cG (nth (ai A P.length) k))/\PY U W :=
        λW hW=>⟨aB hW c0,aB hW c1,aB hW ct,aB hW tr,aB hW tc,hW⟩
       have HS:=Z5 hS
       clear hS
       go_upto_region 16 with fail
       go_cut [16,17] (λiv ev wx=>∃gi,iv = .pointer (some ⟨gi,0,none⟩)/\U.heap.size<=gi/\ev = cG 0/\wx.cell? ⟨gi,0,none⟩=some (cG (G.inv (nth (ai A P.length) k)))/\PY U wx)
       case first =>
        have hBU:PY U (U.drewN m5):=below_drewN (KU _ _) m5
        have hfc:∀k,((U.drewN k).alloc (.cells #[cG 0] 3)).cell? ⟨U.heap.size,0,none⟩=some (cG 0):=λk=>bm (U.drewN k) _ _
        have hfc2:∀k k',(((U.drewN k).alloc (.cells #[cG 0] 3)).drewN k').cell? ⟨U.heap.size,0,none⟩=some (cG 0):=λk _=>bm (U.drewN k) _ _
        have hff2:∀k k',(((U.drewN k).alloc (.cells #[cG 0] 3)).drewN k').frozen? ⟨U.heap.size,0,none⟩=false:=λk _=>sd (U.drewN k) _ _
        have hff:∀k,((U.drewN k).alloc (.cells #[cG 0] 3)).frozen? ⟨U.heap.size,0,none⟩=false:=λk=>sd (U.drewN k) _ _
        go_region_held3 (λW=>W.cell? ⟨w.heap.size,0,none⟩=some (.pointer (some ⟨b,0,none⟩))/\W.cell? ⟨w.heap.size+1,0,none⟩=some (.slice a n c)/\W.cell? ⟨V.heap.size,0,none⟩=some (cG P.length) /\
          W.cell? ⟨ablk a,aJ a+P.length,none⟩=some (.slice (aM S P.length).1 len (aM S P.length).2)/\W.cell? ⟨ablk (aM S P.length).1,aJ (aM S P.length).1+k,none⟩=some (cG (nth (ai A P.length) k))/\PY U W)
         ((refine HS _ ?_;first | exact hBU.drew | exact below_drewN (KU _ _) _ | exact (below_drewN (KU _ _) _).alloc (KT _) _ | exact ((below_drewN (KU _ _) _).alloc (KT _) _).setCell (KT _) _ | exact below_drewN ((below_drewN (KU _ _) _).alloc (KT _) _) _ | exact (below_drewN ((below_drewN (KU _ _) _).alloc (KT _) _) _).setCell (KT _) _))
         (first
         | (go_at_call 201;((with_reducible refine (GM _ (HG1.out.2.1 _) hel Hnz.out).mono ?_);rintro e w4 ⟨m4,rfl,rfl⟩))
         | (go_at_call 201;((with_reducible refine (GM _ (HG1.out.2.2 _) hel Hnz.out).mono ?_);rintro e w4 ⟨m4,rfl,rfl⟩)))
        all_goals (
         go_step;go_step
         go_meet)
        ·exact ⟨U.heap.size,rfl,KT _,rfl,Lh _ _ _ (hfc _),((below_drewN (KU _ _) _).alloc (KT _) _).setCell (KT _) _⟩
        ·exact ⟨U.heap.size,rfl,KT _,rfl,Lh _ _ _ (hfc2 _ _),(below_drewN ((below_drewN (KU _ _) _).alloc (KT _) _) _).setCell (KT _) _⟩
       obtain ⟨gi,rfl,hgi,rfl,ig,hbi⟩:=hcut
       obtain ⟨i0,i1,it,ir,ic,_⟩:=HS wc hbi
       have i2:=aB hbi c2
       have O:=hO1.af hbi
       have hci:PY F wc:=L5 hc0 (hbi.mono hc0.size)
       have hrw2:=hrw1.norm (PL h) (t:=P.length) (c:=k) (by rw [Hl1.out];exact D) (by omega) Hnz.out
       have hl2:(bu G.ops A P.length k).length=n:=by rw [dy];exact Hl1
       have Hl2:=Z5 hl2
       clear hl2
       go_upto_if 92 with fail
       go_cut [] (λwx=>∃Q,aO wx F.heap.size a n c Q (bu G.ops A P.length k)/\aC U wx (bQ a S) (bQ a Q))
       case first =>
        have hv:G.ops.inv (nth (ai A P.length) k)=G.inv (nth (ai A P.length) k):=rfl
        have Hv:=Z5 hv
        clear hv
        by_cases hi1:G.inv (nth (ai A P.length) k)=1
        ·have Hn:Hid (bu G.ops A P.length k=A):=by show _=_;rw [bu,KX (by rw [Hv.out];exact hi1)]
         have hi1':(G.inv (nth (ai A P.length) k) != 1)=false:=by simp [hi1]
         clear hi1
         go_wp2_with fail
         go_meet
         exact ⟨S,by rw [Hn.out];exact O,Pr hbi _⟩
        ·have Hn:Hid (bu G.ops A P.length k=A.set P.length ((ai A P.length).map (G.mul (G.inv (nth (ai A P.length) k))))):=by show _=_;rw [bu,KY (by rw [Hv.out];exact hi1)];rfl
         have hi1':(G.inv (nth (ai A P.length) k) != 1)=true:=by simpa using hi1
         have hsc:=D7 F a n c S A w.heap.size gi V.heap.size (G.inv (nth (ai A P.length) k)) P.length O h hci i0 ig it D (cZ.vS h _) (Hrow1.2) (by rw [Hrow1.1];exact hlen)
         have hea:=Em _ _ _ (w.heap.size+1) (w.heap.size+1+1) a n c (λw'=>∃Q,aO w' F.heap.size a n c Q (bu G.ops A P.length k)/\aC U w' (bQ a S) (bQ a Q)) i1
          (hsc.mono λe w' he=>⟨he.1,by obtain ⟨_,Q,h1,h2⟩:=he;exact h2.cell i2 HM.2.2.1,by obtain ⟨_,Q,h1,h2⟩:=he;exact ⟨Q,by rw [Hn.out];exact h1,(Pr hbi _).trans h2⟩⟩)
         have Hea:=Z5 hea
         clear hi1 hsc hea
         go_wp2_with fail
         refine Hea.mono ?_
         rintro e w5 ⟨rfl,Q,hO5,hM5⟩
         go_wp2_with fail
         go_meet
         exact ⟨Q,hO5,hM5⟩
       obtain ⟨Q,hO2,H⟩:=hcut
       generalize wc=T at *
       have t0:=H.cell c0 HM.1
       have t1:=H.cell c1 HM.2.1
       have t2:=H.cell c2 HM.2.2.1
       have tt:=H.cell ct HM.2.2.2
       have hc2:PY F T:=hc0.trans (H.below (λb' Z=>(hO1.lt b' Z).1) hc0.size)
       have k0:¬ bQ a Q w.heap.size:=H.not (Lb U _ c0) HM.1
       have k1:¬ bQ a Q (w.heap.size+1):=H.not (Lb U _ c1) HM.2.1
       have k2:¬ bQ a Q (w.heap.size+1+1):=H.not (Lb U _ c2) HM.2.2.1
       have k3:¬ bQ a Q V.heap.size:=H.not (Lb U _ ct) HM.2.2.2
       have HK:=Z5 (K3 k0 (K3 k1 (K3 k2 k3)))
       have hmT:aC W0 T (bQ a R) (bQ a Q):=hmv.trans ((Pr hbx _).trans (K.trans H))
       have hop1:=bf hop hbx
       have hop2:=K.own hop1 hoi.out
       have ho2:ap ≠ none->¬ bQ a S (ablk ap):=λhn=>K.not (aT hop1 hn).2 (hoi hn)
       have hop3:=H.own hop2 ho2
       have ho3:ap ≠ none->¬ bQ a Q (ablk ap):=λhn=>H.not (aT hop2 hn).2 (ho2 hn)
       have Ho3:=Z5 ho3
       clear k0 k1 k2 k3 c0 c1 c2 ct tr ti tc tp i0 i1 i2 it ir ic ig hop hop1 hop2 ho2 ho3 hel
       generalize bu G.ops A P.length k=L2 at *
       go_upto_region 19 with fail
       go_wp2_with fail
       go_loopw [98] (λiv wx=>∃i:Nat,i<=n/\iv = cG i/\aO wx F.heap.size a n c Q (clearTo G.ops P.length k L2 i)/\aC T wx (bQ a Q) (bQ a Q)) (λiv _=>n - (intOf iv).toNat)
       case atStart=>exact ⟨0,K0 _,rfl,hO2,Pz _ _⟩
       case round =>
        obtain ⟨i,hi,rfl,O,E⟩:=hrel
        generalize wr=X at *
        have x0:=E.cell t0 HK.1
        have x1:=E.cell t1 HK.2.1
        have x2:=E.cell t2 HK.2.2.1
        have xt:=E.cell tt HK.2.2.2
        have hcx:PY F X:=hc2.trans (E.below (λb' Z=>(hO2.lt b' Z).1) hc2.size)
        by_cases hin:i<n
        ·have hrwi:=PI (PL h) hrw2 (t:=P.length) (c:=k) (by rw [Hl2.out];exact D) (by omega) i (by rw [Hl2.out];exact hi)
         have hli:(clearTo G.ops P.length k L2 i).length=n:=by rw [dA];exact Hl2
         have hstep:clearTo G.ops P.length k L2 (i+1)=if i=P.length then clearTo G.ops P.length k L2 i else (clearTo G.ops P.length k L2 i).set i (cR G.ops (ai (clearTo G.ops P.length k L2 i) P.length) k (ai (clearTo G.ops P.length k L2 i) i)):=rfl
         have Hstep:=Z5 hstep
         clear hstep
         generalize clearTo G.ops P.length k L2 i=r at *
         have hri:=hrwi.row (i:=i) (by omega)
         have hrt:=hrwi.row (i:=P.length) (by omega)
         have ci:=O.cell hin
         have ii:=O.ints hin
         rw [hri.1] at ci ii
         have ck:=ii.cell k (by omega)
         have hpi:=ii.pl
         have hxel:G.El (nth (ai r i) k):=hri.2 _ (aG (by rw [hri.1];omega))
         have Hri:=Z5 hri
         have Hrt:=Z5 hrt
         clear hri hrt hli
         have a1:=br x1 (.cells #[cG i] 3)
         have a2:=bm X (cG i) 3
         have a3:=br ci (.cells #[cG i] 3)
         have a4:=br ck (.cells #[cG i] 3)
         have b1:=br a1 (.cells #[cG (nth (ai r i) k)] 3)
         have b2:=br a2 (.cells #[cG (nth (ai r i) k)] 3)
         have b3:=br (br xt (.cells #[cG i] 3)) (.cells #[cG (nth (ai r i) k)] 3)
         have b4:((X.alloc (.cells #[cG i] 3)).alloc (.cells #[cG (nth (ai r i) k)] 3)).cell? ⟨X.heap.size+1,0,none⟩=some (cG (nth (ai r i) k)):=dB _ _ _ (by simp)
         by_cases hit:i=P.length
         ·have hit':((i:Int) != P.length)=false:=by simp [hit]
          have Hn:Hid (clearTo G.ops P.length k L2 (i+1)=r):=by show _=_;rw [Hstep.out,KX hit]
          clear hit
          go_wp2_with fail
          go_roundw
          case rel=>exact ⟨i+1,by omega,by go_num,by rw [Hn.out];exact O.af (((KU _ _).alloc (KT _) _).alloc (by simp) _),E.trans (Pr (((KU _ _).alloc (KT _) _).alloc (by simp) _) _)⟩
          case measure=>simp [intOf] <;> omega
         ·have hit':((i:Int) != P.length)=true:=by simp;omega
          by_cases C:nth (ai r i) k=0
          ·have hx0':(nth (ai r i) k != 0)=false:=by simp [C]
           have Hn:Hid (clearTo G.ops P.length k L2 (i+1)=r):=by show _=_;rw [Hstep.out,KY hit,cR,KX C,lr]
           clear hit C
           go_wp2_with fail
           go_roundw
           case rel=>exact ⟨i+1,by omega,by go_num,by rw [Hn.out];exact O.af (((KU _ _).alloc (KT _) _).alloc (by simp) _),E.trans (Pr (((KU _ _).alloc (KT _) _).alloc (by simp) _) _)⟩
           case measure=>simp [intOf] <;> omega
          ·have hx0':(nth (ai r i) k != 0)=true:=by simpa using C
           have Hn:Hid (clearTo G.ops P.length k L2 (i+1)=r.set i (bX G.ops (ai r i) (G.neg (nth (ai r i) k)) (ai r P.length))):=by show _=_;rw [Hstep.out,KY hit,cR,KY C];rfl
           have hbz:PY X ((X.alloc (.cells #[cG i] 3)).alloc (.cells #[cG (nth (ai r i) k)] 3)):=((KU _ _).alloc (KT _) _).alloc (by simp) _
           have zi:((X.alloc (.cells #[cG i] 3)).alloc (.cells #[cG (nth (ai r i) k)] 3)).cell? ⟨X.heap.size,0,none⟩=some (cG i):=br (bm _ _ _) _
           have zx:((X.alloc (.cells #[cG i] 3)).alloc (.cells #[cG (nth (ai r i) k)] 3)).cell? ⟨X.heap.size+1,0,none⟩=some (cG (nth (ai r i) k)):=dB _ _ _ (by simp)
           have hsw:=Eo F a n c Q r w.heap.size X.heap.size (X.heap.size+1) V.heap.size len i (nth (ai r i) k) P.length (O.af hbz) h (hcx.trans (hbz.mono hcx.size)) (aB hbz x0) zi zx (aB hbz xt) hin D hit hxel
            HK.1 (O.new (KT _)) (O.new (by omega)) HK.2.2.2 Hri.2 Hrt.2 Hri.1 Hrt.1
           have hea:=DQ _ _ _ _ (w.heap.size+1) (w.heap.size+1+1) a n c (λw'=>aO w' F.heap.size a n c Q (clearTo G.ops P.length k L2 (i+1))/\aC T w' (bQ a Q) (bQ a Q)) (aB hbz x1)
            (hsw.mono λe w' he=>⟨he.1,he.2.2.cell (aB hbz x2) HK.2.2.1,by rw [Hn.out];exact he.2.1,E.trans ((Pr hbz _).trans he.2.2)⟩)
           have Hea:=Z5 hea
           clear hit C hsw hea zi zx hbz
           go_wp2_with fail
           refine Hea.mono ?_
           rintro e w5 ⟨rfl,hO5,hM5⟩
           go_wp2_with fail
           go_roundw
           case rel=>exact ⟨i+1,by omega,by go_num,hO5,hM5⟩
           case measure=>simp [intOf] <;> omega
        ·obtain rfl:i=n:=by omega
         have hopx:=E.own hop3 Ho3.out
         have hsz0:w.heap.size+1+1+1<=X.heap.size:=by have e1:=HsW0.out;have e2:=(hmT.trans E).size;omega
         have hcn:=bm X (cG k) 3
         have hbX:=(KU X.heap.size X).alloc (KT _) (.cells #[cG k] 3)
         have hpl8:=HPn.out
         go_wp2_with (at_builtin;refine aS rfl _ _ 22 3 rfl (cG 0) 8 underlying22 bh rfl (w.heap.size+1+1+1) ap P.length cp _ rfl (hopx.alloc _) ⟨X.heap.size,0,none⟩ 1 (cG k) rfl hcn rfl (by omega) (by unfold maxLen;omega) (K9 hsz0 hbX.size) ?_;intro a3 c3 w3 hown3 hgr hap3)
         go_roundw
         case rel =>
          have hnx:aD G.ops L (k+1)=(clearTo G.ops P.length k L2 i,P ++ [(k:Int)]):=by rw [dZ hst.out (by rw [N.out];exact D),KY (by rw [Hf.out,N.out];omega),Hf.out,HL1.out]
          have hne:∀b',bQ a Q b'->eY ap b':=λb' Z=>by
           by_cases hn:ap=none
           ·exact .inl hn
           ·exact .inr λe=>Ho3 hn (by rw [e];exact Z)
          have hO3:aO w3 F.heap.size a i c Q (clearTo G.ops P.length k L2 i) :=
           (O.af hbX).bp λb' Z=>hgr.block b' ((O.af hbX).lt b' Z).2 λe=>(hne b' Z).own P.length cp e.symm
          have hb3:Below (w.heap.size+1+1+1) X w3:=Pp (hbX.mono hsz0) (hopx.alloc _) hgr (KT _) (K9 hsz0 hbX.size)
          have hm3:aC W0 w3 (bQ a R) (bQ a Q):=by have h1:=hmT.trans E;refine ⟨hb3.os.trans h1.os,hb3.tape.trans h1.tape,hb3.output.trans h1.output,K9 h1.size hb3.size,λb' Z hI=>(hb3.block b' (by rw [HsW0.out];exact Z)).trans (h1.block b' Z hI),h1.grow⟩
          have hrw3:=PI (PL h) hrw2 (t:=P.length) (c:=k) (by rw [Hl2.out];exact D) (by omega) i (by rw [Hl2.out];exact hi)
          have ho4:a3 ≠ none->¬ bQ a Q (ablk a3):=λhn hI=>by
           rcases hap3 _ ((O.af hbX).lt _ hI).2 (hne _ hI) with h1 | h1
           ·exact hn h1
           ·exact h1 rfl
          refine ⟨k+1,Q,a3,c3,d2,clearTo G.ops P.length k L2 i,P ++ [(k:Int)],by omega,by go_num,by simp,rfl,hnx.symm,hO3,?_,ho4,hm3,hrw3,hde2,by simp;omega⟩
          simpa using hown3
         case measure=>simp [intOf] <;> omega
     ·obtain rfl:j=n:=by omega
      have Hn:Hid ((Lk,P)=aD G.ops L (k+1)):=by show _=_;rw [dZ hst.out (by rw [N.out];exact D),KX (by rw [hfr.out,jK (by rw [N.out];exact KT _),N.out])]
      go_wp2_with fail
      go_roundw
      case rel =>
       have hmx:aC W0 wr (bQ a R) (bQ a z):=hmv.trans (Pr hbx _)
       exact ⟨k+1,z,ap,cp,d,Lk,P,by omega,by go_num,rfl,rfl,Hn,hOx,bf hop hbx,hoi,hmx,hrw,hde,HPn⟩
      case measure=>simp [intOf] <;> omega
   ·have hPe:P.length=n:=by omega
    have hfull:(Lk,P)=aD G.ops L m:=by rw [show m=k+(m - k) by omega,gw (by rw [<- hst.out,hPe,<- hO.ll]),<- hst.out]
    have Hfull:=Z5 hfull
    have hPe':((P.length:Int)<n)=False:=by simp;omega
    clear hfull hPe
    go_wp2_with fail
    go_ret2
    exact Hfin _ _ _ _ _ _ _ Hfull.out hOr (aY hop (by omega)) hmw
  ·obtain rfl:k=m:=by omega
   go_wp2_with fail
   go_ret2
   exact Hfin _ _ _ _ _ _ _ hst.out hOr (aY hop (by omega)) hmw
end
end Go.Proofs.YthglbncgemdcbaaGreat
