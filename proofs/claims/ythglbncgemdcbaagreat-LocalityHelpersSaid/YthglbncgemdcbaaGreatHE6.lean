import Derived.Test.YthglbncgemdcbaaGreatHE5
namespace Go.Proofs.YthglbncgemdcbaaGreat
set_option linter.all false
set_option maxRecDepth 100000
set_option maxHeartbeats 4000000
open Go.RowKit Go.Proofs.Tryz
section
variable {w : World} {b : Nat} {G : bX}
theorem bG.flip {El : Int->Prop} {m n t j k : Nat} {L : Ll} (h : bG El m L) (hl : L.length=n) (ht : t<n) (hj : j<n) (hz : nth (ai L j) k ≠ 0) :
  bG El m (if j=t then L else aX L t j)/\(if j=t then L else aX L t j).length=n/\nth (ai (if j=t then L else aX L t j) t) k ≠ 0:=by
 split
 ·rename_i e;subst e;exact ⟨h,hl,hz⟩
 ·rename_i e;refine ⟨h.swap (by omega) (by omega),by rw [bJ];exact hl,?_⟩;rw [jh _ _ _ _ (by omega) (by omega),iP,GU (by omega),GV rfl];exact hz
theorem j6 (L : Ll) (i : Nat) : L.set i (ai L i)=L:=by
 apply KC;intro j;rw [Jf];by_cases h : i=j
 ·subst h;by_cases h1 : i<L.length
  ·simp [h1,ai]
  ·simp [h1]
 ·simp [h]
theorem bp {w : World} {p : Addr} {v : Value} (h : w.cell? p=some v) (o : Obj) : (w.alloc o).cell? p=some v:=ak ((GS _ _).alloc (GQ _) o) h
theorem bm (w : World) (x : Value) (e : TypeId) : (w.alloc (.cells #[x] e)).cell? ⟨w.heap.size,0,none⟩=some x:=aE w #[x] e rfl 0
theorem pM (w : World) (x : Value) (e : TypeId) : (w.alloc (.cells #[x] e)).frozen? ⟨w.heap.size,0,none⟩=false:=by simp
theorem fS (w : World) (x : Value) (e : TypeId) {s : Nat} (hs : s=w.heap.size) : (w.alloc (.cells #[x] e)).cell? ⟨s,0,none⟩=some x:=by subst hs;exact bm w x e
structure Gz (w0 w W0 : World) (a : OA) (n c : Nat) (R : LA) (wr : World) (R' : LA) (Lk : Ll) (len : Nat) (G : bX) : Prop where
 om : aP wr w0.heap.size a n c R' Lk
 mv : aB W0 wr (bI a R) (bI a R')
 rws : bG G.El len Lk
def vm (w0 : World) (a : OA) (n c : Nat) (R : LA) (L : Ll) (m : Nat) (G : bX) (w : World) (e : Ending) (w' : World) : Prop :=
 ∃R' ap cp d,e = .returned (.tuple #[.slice ap (aC G.ops L m).2.length cp,.int .i64 d])/\aP w' w0.heap.size a n c R' (aC G.ops L m).1 /\
  w'.ownsRow w.heap.size 3 1 (.slice ap (aC G.ops L m).2.length cp) (aC G.ops L m).2.length ((aC G.ops L m).2.map (Value.int .i64))/\aB w w' (bI a R) (bI a R')/\Mv w0 w'
theorem q9 (w0 : World) (a : OA) (n c m len : Nat) (R : LA) (L : Ll) (h : dz w0 b G) (hb : Mv w0 w) (hO : aP w w0.heap.size a n c R L)
  (hR : bG G.El len L) (hml : m<=len) (hlen : len<=1000000) (hn : n<=1000000) :
  Calls prog 223 #[.pointer (some ⟨b,0,none⟩),.slice a n c,.int .i64 m,.slice none 0 0] w (vm w0 a n c R L m G w):=by
 have hfin : ∀w' R' ap cp d Lk P,(Lk,P)=aC G.ops L m->aP w' w0.heap.size a n c R' Lk->w'.ownsRow w.heap.size 3 1 (.slice ap P.length cp) P.length (P.map (Value.int .i64))->aB w w' (bI a R) (bI a R') ->
   vm w0 a n c R L m G w (.returned (.tuple #[.slice ap P.length cp,.int .i64 d])) w':=by
  intro w' R' ap cp d Lk P he h1 h2 h3;have e1 : (aC G.ops L m).1=Lk:=by rw [<- he]
  have e2 : (aC G.ops L m).2=P:=by rw [<- he]
  refine ⟨R',ap,cp,d,?_,?_,?_,h3,hb.trans (h3.below (λb' hb'=>(hO.lt b' hb').1) hb.size)⟩
  ·rw [e2]
  ·rw [e1];exact h1
  ·rw [e2];exact h2
 have Hfin:=Z5 hfin;clear hfin;have hpl:=hO.pl;have hGe : G.El 1:=⟨by omega,by have:=h.q2;omega⟩
 have hal:=((GS w.heap.size w).alloc (GQ _) (.cells #[.pointer (some ⟨b,0,none⟩)] 79))
 go_enter func223,ntmps223;have hmf : ∀(fn : Fn) (first cap : Array Value) (w : World),(Instr.makeFunc fn first cap).run prog w = .ok (.func fn first cap) w:=λ_ _ _ _=>rfl;go_wp2_with fail;obtain ⟨W0,hW0⟩ : ∃W0 : World,W0=((w.alloc (.cells #[.pointer (some ⟨b,0,none⟩)] 79)).alloc (.cells #[.slice a n c] 25)).alloc (.cells #[.slice none 0 0] 25):=⟨_,rfl⟩
 rw [<- hW0];have hbW0 : Mv w W0:=by rw [hW0];exact ((hal.alloc (by simp) _).alloc (by simp;omega) _)
 have hsW0 : w.heap.size+1+1+1=W0.heap.size:=by rw [hW0];simp
 have q0 : W0.cell? ⟨w.heap.size,0,none⟩=some (.pointer (some ⟨b,0,none⟩)):=by rw [hW0];exact bp (bp (bm _ _ _) _) _
 have q1 : W0.cell? ⟨w.heap.size+1,0,none⟩=some (.slice a n c):=by rw [hW0];exact bp (fS _ _ _ (by simp)) _
 have q2 : W0.cell? ⟨w.heap.size+1+1,0,none⟩=some (.slice none 0 0):=by rw [hW0];exact fS _ _ _ (by simp)
 have HsW0:=Z5 hsW0;clear hsW0 hW0 hal;go_loopw [10,12,13] (λdv pv cv wr=>∃(k : Nat) (R' : LA) (ap : OA) (cp : Nat) (d : Int) (Lk : Ll) (P : LI),k<=m/\cv = .int .i64 k/\pv = .slice ap P.length cp/\dv = .int .i64 d /\
   Hid ((Lk,P)=aC G.ops L k)/\aP wr w0.heap.size a n c R' Lk/\wr.ownsRow (w.heap.size+1+1+1) 3 1 (.slice ap P.length cp) P.length (P.map (Value.int .i64))/\Hid (ap ≠ none->¬ bI a R' (ablk ap)) /\
   aB W0 wr (bI a R) (bI a R')/\bG G.El len Lk/\G.El d/\P.length<=n)
  (λ_ _ cv _=>m - (intOf cv).toNat)
 case atStart =>
  exact ⟨0,R,none,0,1,L,[],G0 _,rfl,rfl,rfl,rfl,hO.af hbW0,cF,λh=>absurd rfl h,Ma _ _,hR,hGe,G0 _⟩
 case round =>
  obtain ⟨k,R',ap,cp,d,Lk,P,hkm,rfl,rfl,rfl,hst,hOr,hop,hoi,hmv,hrw,hde,hPn⟩:=hrel
  generalize wr=V at *
  have r0:=hmv.cell q0 (hO.new (GQ _))
  have r1:=hmv.cell q1 (hO.new (by simp))
  have r2:=hmv.cell q2 (hO.new (by simp;omega))
  have hmw : aB w V (bI a R) (bI a R'):=(L4 hbW0 _).trans hmv
  have hLkn : Lk.length=n:=hOr.ll
  have HLkn:=Z5 hLkn
  clear hLkn
  by_cases hk : k<m
  ·by_cases hPl : P.length<n
   ·have hPl' : (P.length : Int)<n:=by omega
    have hk' : (k : Int)<m:=by omega
    go_wp2_with fail
    obtain ⟨Y,hY⟩ : ∃Y : World,Y=(V.alloc (.cells #[.int .i64 P.length] 3)).alloc (.cells #[.int .i64 P.length] 3):=⟨_,rfl⟩
    rw [<- hY]
    have hbY : Mv V Y:=by rw [hY];exact ((GS _ _).alloc (GQ _) _).alloc (by simp) _
    have hYs : Y.heap.size=V.heap.size+2:=by rw [hY];simp
    have yt : Y.cell? ⟨V.heap.size,0,none⟩=some (.int .i64 P.length):=by rw [hY];exact bp (bm _ _ _) _
    have yk : Y.cell? ⟨V.heap.size+1,0,none⟩=some (.int .i64 P.length):=by rw [hY];exact fS _ _ _ (by simp)
    have yf : Y.frozen? ⟨V.heap.size+1,0,none⟩=false:=by rw [hY];simp
    have HYs:=Z5 hYs
    have HPn:=Z5 hPn
    clear hY hYs
    go_loopw [] (λwx=>∃j : Nat,P.length<=j/\j<=n/\Hid (aT Lk k P.length=aT Lk k j)/\wx.cell? ⟨V.heap.size+1,0,none⟩=some (.int .i64 j)/\wx.frozen? ⟨V.heap.size+1,0,none⟩=false/\Below (V.heap.size+1) Y wx)
     (λwx=>n - (intOf ((wx.cell? ⟨V.heap.size+1,0,none⟩).getD undef)).toNat)
    case atStart=>exact ⟨P.length,GQ _,hPn,rfl,yk,yf,GS _ _⟩
    case round =>
     obtain ⟨j,hj1,hj2,hfr,kx,kf,hYx⟩:=hrel
     have hbx : Mv V wr:=hbY.trans (hYx.mono (by omega))
     have hOx:=hOr.af hbx
     have x0:=ak hbx r0
     have x1:=ak hbx r1
     have x2:=ak hbx r2
     have xt : wr.cell? ⟨V.heap.size,0,none⟩=some (.int .i64 P.length):=(hYx.cell (by simp)).trans yt
     by_cases hjn : j<n
     ·have hLj : j<Lk.length:=by rw [HLkn.out];exact hjn
      have hrow:=hrw.row hLj
      have ci:=hOx.cell hjn
      have ri:=hOx.ints hjn
      rw [hrow.1] at ci ri
      have ck:=ri.cell k (by omega)
      have hpr:=ri.pl
      have hkl : (k : Int)<len:=by omega
      have hfs:=fN (c:=k) hLj
      by_cases hz : nth (ai Lk j) k=0
      ·rw [GV hz] at hfs
       have hz' : (nth (ai Lk j) k == 0)=true:=by simpa using hz
       have Hf : Hid (aT Lk k P.length=aT Lk k (j+1)):=by show _=_;rw [hfr.out,hfs]
       clear hz hfs hrow
       go_wp2_with fail
       go_roundw
       case rel =>
        refine ⟨j+1,by omega,by omega,Hf.out,Ih _ _ _ kx,by rw [IM];exact kf,hYx.setCell (by simp) _⟩
       case measure=>rw [Ih _ _ _ kx,kx];simp [intOf] <;> omega
      ·rw [GU hz] at hfs
       have hz' : (nth (ai Lk j) k == 0)=false:=by simpa using hz
       have Hf : Hid (aT Lk k P.length=j):=by show _=_;rw [hfr.out,hfs]
       have hjn' : ((j : Int) == n)=false:=by simp;omega
       have Hz:=Z5 hz
       clear hz
       have Hrow:=Z5 hrow
       clear hfs hrow
       have n0 : ¬ bI a R' w.heap.size:=hmv.not (by have:=HsW0.out;omega) (hO.new (GQ _))
       have n1 : ¬ bI a R' (w.heap.size+1):=hmv.not (by have:=HsW0.out;omega) (hO.new (by omega))
       have n2 : ¬ bI a R' (w.heap.size+1+1):=hmv.not (by have:=HsW0.out;omega) (hO.new (by omega))
       have nt : ¬ bI a R' V.heap.size:=hOr.new (GQ _)
       have nk : ¬ bI a R' (V.heap.size+1):=hOr.new (by omega)
       have hx0 : Mv w0 wr:=hb.trans (aB.below (hmw.trans (L4 hbx _)) (λb' hb'=>(hO.lt b' hb').1) hb.size)
       have HN:=Z5 (Hi n0 (Hi n1 (Hi n2 (Hi nt nk))))
       clear n0 n1 n2 nt nk
       go_upto_if 58 with fail
       go_cut [10] (λdv wx=>∃(d' : Int) (R1 : LA),dv = .int .i64 d'/\G.El d'/\aP wx w0.heap.size a n c R1 (if j=P.length then Lk else aX Lk P.length j)/\aB wr wx (bI a R') (bI a R1))
       case first =>
        by_cases hjt : j=P.length
        ·have hjt' : ((j : Int) != P.length)=false:=by simp [hjt]
         have Hm : Hid ((if j=P.length then Lk else aX Lk P.length j)=Lk):=GV hjt
         clear hjt
         go_wp2_with fail
         go_meet
         exact ⟨d,R',rfl,hde,by rw [Hm.out];exact hOx,Ma _ _⟩
        ·have hjt' : ((j : Int) != P.length)=true:=by simp;omega
         have Hm : Hid ((if j=P.length then Lk else aX Lk P.length j)=aX Lk P.length j):=GU hjt
         have hsw:=Cp w0.heap.size a n c R' Lk (V.heap.size+1) V.heap.size j P.length hOx kx xt hjn hPl hjt HN.out.2.2.2.2 HN.out.2.2.2.1
         have hea:=BM _ _ (w.heap.size+1) (w.heap.size+1+1) a n c (λw'=>∃R1,aP w' w0.heap.size a n c R1 (aX Lk P.length j)/\aB wr w' (bI a R') (bI a R1)) x1
          (hsw.mono λe w' he=>⟨he.1,by obtain ⟨_,R1,h1,h2⟩:=he;exact h2.cell x2 HN.out.2.2.1,he.2⟩)
         have Hea:=Z5 hea
         clear hjt hsw hea
         go_wp2_with fail
         refine Hea.out.mono ?_
         rintro e w5 ⟨rfl,R1,hO5,hM5⟩
         have z0:=hM5.cell x0 HN.out.1
         have hb5 : Mv w0 w5:=hx0.trans (hM5.below (λb' hb'=>(hOx.lt b' hb').1) hx0.size)
         go_wp2_with fail
         refine (EK d (h.af hb5) hde).mono ?_
         rintro e w6 ⟨m6,rfl,rfl⟩
         go_wp2_with fail
         go_meet
         exact ⟨_,R1,rfl,bX.tq h d,by rw [Hm.out];exact hO5.af (below_drewN (GS _ _) m6),hM5.trans (L4 (below_drewN (GS _ _) m6) _)⟩
       obtain ⟨d',R1,rfl,hde',hO1,hM1⟩:=hcut
       generalize wc=U at *
       obtain ⟨hrw1,hl1,hnz1⟩:=bG.flip (t:=P.length) hrw HLkn.out hPl hjn Hz.out
       have c0:=hM1.cell x0 HN.out.1
       have c1:=hM1.cell x1 HN.out.2.1
       have c2:=hM1.cell x2 HN.out.2.2.1
       have ct:=hM1.cell xt HN.out.2.2.2.1
       have m0 : ¬ bI a R1 w.heap.size:=hM1.not (G8 wr _ x0) HN.out.1
       have m1 : ¬ bI a R1 (w.heap.size+1):=hM1.not (G8 wr _ x1) HN.out.2.1
       have m2 : ¬ bI a R1 (w.heap.size+1+1):=hM1.not (G8 wr _ x2) HN.out.2.2.1
       have mt : ¬ bI a R1 V.heap.size:=hM1.not (G8 wr _ xt) HN.out.2.2.2.1
       have hc0 : Mv w0 U:=hx0.trans (hM1.below (λb' hb'=>(hOx.lt b' hb').1) hx0.size)
       have HM:=Z5 (Hi m0 (Hi m1 (Hi m2 mt)))
       have HL1 : Hid (eO G.ops Lk P.length j k=clearTo G.ops P.length k (bw G.ops (if j=P.length then Lk else aX Lk P.length j) P.length k) n):=by show _=_;rw [gS,HLkn.out]
       generalize (if j=P.length then Lk else aX Lk P.length j)=L1 at *
       have hrow1:=hrw1.row (i:=P.length) (by omega)
       have tr:=hO1.cell hPl
       have ti:=hO1.ints hPl
       rw [hrow1.1] at tr ti
       have tc:=ti.cell k (by omega)
       have tp:=ti.pl
       have hkl : (k : Int)<len:=by omega
       have hel : G.El (nth (ai L1 P.length) k):=hrow1.2 _ (aH (by rw [hrow1.1];omega))
       have hG1:=h.af hc0
       have HG1 : Hid (dz U.drew b G/\(∀n,dz (U.drewN n) b G)/\∀n,dz ((U.drewN n).alloc (.cells #[.int .i64 0] 3)) b G) :=
        ⟨hG1.af (GS _ _).drew,λn=>hG1.drewN n,λn=>(hG1.drewN n).af ((GS _ _).alloc (GQ _) _)⟩
       have Hnz:=Z5 hnz1
       have Hl1:=Z5 hl1
       have Hrow1:=Z5 hrow1
       clear hrow1 hl1 hnz1 m0 m1 m2 mt x0 x1 x2 xt kx kf ci ri ck hpr r0 r1 r2 yt yk yf q0 q1 q2
       go_upto_region 15 with fail
       go_cut [10] (λdv wx=>∃d2 : Int,dv = .int .i64 d2/\G.El d2/\aY U wx)
       case first =>
        go_region_held3 (λw'=>w'.cell? ⟨w.heap.size,0,none⟩=some (.pointer (some ⟨b,0,none⟩))/\w'.cell? ⟨w.heap.size+1,0,none⟩=some (.slice a n c)/\w'.cell? ⟨V.heap.size,0,none⟩=some (.int .i64 P.length) /\
          w'.cell? ⟨ablk a,aL a+P.length,none⟩=some (.slice (aJ R1 P.length).1 len (aJ R1 P.length).2)/\w'.cell? ⟨ablk (aJ R1 P.length).1,aL (aJ R1 P.length).1+k,none⟩=some (.int .i64 (nth (ai L1 P.length) k)))
         (exact ⟨c0,c1,ct,tr,tc⟩)
         (first
         | (go_at_call 57;((with_reducible refine (mG d' _ HG1.out.1 hde' hel).mono ?_);rintro e w4 ⟨m4,rfl,rfl⟩)))
        all_goals (
         go_step;go_step
         go_meet
         exact ⟨_,rfl,Mk h _ _,⟨_,rfl⟩⟩)
       obtain ⟨d2,rfl,hde2,m5,rfl⟩:=hcut
       have hS : ∀ W, Mv U W → W.cell? ⟨w.heap.size, 0, none⟩ = some (.pointer (some ⟨b, 0, none⟩)) ∧ W.cell? ⟨w.heap.size + 1, 0, none⟩ = some (.slice a n c) ∧ W.cell? ⟨V.heap.size, 0, none⟩ = some (.int .i64 P.length) ∧
             W.cell? ⟨ablk a,aL a+P.length,none⟩=some (.slice (aJ R1 P.length).1 len (aJ R1 P.length).2)/\W.cell? ⟨ablk (aJ R1 P.length).1,aL (aJ R1 P.length).1+k,none⟩=some (.int .i64 (nth (ai L1 P.length) k))/\Mv U W :=
        λW hW=>⟨ak hW c0,ak hW c1,ak hW ct,ak hW tr,ak hW tc,hW⟩
       have HS:=Z5 hS
       clear hS
       go_upto_region 16 with fail
       go_cut [16,17] (λiv ev wx=>∃gi,iv = .pointer (some ⟨gi,0,none⟩)/\U.heap.size<=gi/\ev = .int .i64 0/\wx.cell? ⟨gi,0,none⟩=some (.int .i64 (G.inv (nth (ai L1 P.length) k)))/\Mv U wx)
       case first =>
        have hBU : Mv U (U.drewN m5):=below_drewN (GS _ _) m5
        have hfc : ∀k,((U.drewN k).alloc (.cells #[.int .i64 0] 3)).cell? ⟨U.heap.size,0,none⟩=some (.int .i64 0):=λk=>bm (U.drewN k) _ _
        have hfc2 : ∀k k',(((U.drewN k).alloc (.cells #[.int .i64 0] 3)).drewN k').cell? ⟨U.heap.size,0,none⟩=some (.int .i64 0):=λk _=>bm (U.drewN k) _ _
        have hff2 : ∀k k',(((U.drewN k).alloc (.cells #[.int .i64 0] 3)).drewN k').frozen? ⟨U.heap.size,0,none⟩=false:=λk _=>pM (U.drewN k) _ _
        have hff : ∀k,((U.drewN k).alloc (.cells #[.int .i64 0] 3)).frozen? ⟨U.heap.size,0,none⟩=false:=λk=>pM (U.drewN k) _ _
        go_region_held3 (λW=>W.cell? ⟨w.heap.size,0,none⟩=some (.pointer (some ⟨b,0,none⟩))/\W.cell? ⟨w.heap.size+1,0,none⟩=some (.slice a n c)/\W.cell? ⟨V.heap.size,0,none⟩=some (.int .i64 P.length) /\
          W.cell? ⟨ablk a,aL a+P.length,none⟩=some (.slice (aJ R1 P.length).1 len (aJ R1 P.length).2)/\W.cell? ⟨ablk (aJ R1 P.length).1,aL (aJ R1 P.length).1+k,none⟩=some (.int .i64 (nth (ai L1 P.length) k))/\Mv U W)
         ((refine HS.out _ ?_;first | exact hBU.drew | exact below_drewN (GS _ _) _ | exact (below_drewN (GS _ _) _).alloc (GQ _) _ | exact ((below_drewN (GS _ _) _).alloc (GQ _) _).setCell (GQ _) _ | exact below_drewN ((below_drewN (GS _ _) _).alloc (GQ _) _) _ | exact (below_drewN ((below_drewN (GS _ _) _).alloc (GQ _) _) _).setCell (GQ _) _))
         (first
         | (go_at_call 201;((with_reducible refine (Ez _ (HG1.out.2.1 _) hel Hnz.out).mono ?_);rintro e w4 ⟨m4,rfl,rfl⟩))
         | (go_at_call 201;((with_reducible refine (Ez _ (HG1.out.2.2 _) hel Hnz.out).mono ?_);rintro e w4 ⟨m4,rfl,rfl⟩)))
        all_goals (
         go_step;go_step
         go_meet)
        ·exact ⟨U.heap.size,rfl,GQ _,rfl,Ih _ _ _ (hfc _),((below_drewN (GS _ _) _).alloc (GQ _) _).setCell (GQ _) _⟩
        ·exact ⟨U.heap.size,rfl,GQ _,rfl,Ih _ _ _ (hfc2 _ _),(below_drewN ((below_drewN (GS _ _) _).alloc (GQ _) _) _).setCell (GQ _) _⟩
       obtain ⟨gi,rfl,hgi,rfl,ig,hbi⟩:=hcut
       obtain ⟨i0,i1,it,ir,ic,_⟩:=HS.out wc hbi
       have i2:=ak hbi c2
       have hOi:=hO1.af hbi
       have hci : Mv w0 wc:=IT hc0 (hbi.mono hc0.size)
       have hrw2:=hrw1.norm (Mj h) (t:=P.length) (c:=k) (by rw [Hl1.out];exact hPl) (by omega) Hnz.out
       have hl2 : (bw G.ops L1 P.length k).length=n:=by rw [da];exact Hl1.out
       have Hl2:=Z5 hl2
       clear hl2
       go_upto_if 92 with fail
       go_cut [] (λwx=>∃R2,aP wx w0.heap.size a n c R2 (bw G.ops L1 P.length k)/\aB U wx (bI a R1) (bI a R2))
       case first =>
        have hv : G.ops.inv (nth (ai L1 P.length) k)=G.inv (nth (ai L1 P.length) k):=rfl
        have Hv:=Z5 hv
        clear hv
        by_cases hi1 : G.inv (nth (ai L1 P.length) k)=1
        ·have Hn : Hid (bw G.ops L1 P.length k=L1):=by show _=_;rw [bw,GV (by rw [Hv.out];exact hi1)]
         have hi1' : (G.inv (nth (ai L1 P.length) k) != 1)=false:=by simp [hi1]
         clear hi1
         go_wp2_with fail
         go_meet
         exact ⟨R1,by rw [Hn.out];exact hOi,L4 hbi _⟩
        ·have Hn : Hid (bw G.ops L1 P.length k=L1.set P.length ((ai L1 P.length).map (G.mul (G.inv (nth (ai L1 P.length) k))))):=by show _=_;rw [bw,GU (by rw [Hv.out];exact hi1)];rfl
         have hi1' : (G.inv (nth (ai L1 P.length) k) != 1)=true:=by simpa using hi1
         have hsc:=Bm w0 a n c R1 L1 w.heap.size gi V.heap.size (G.inv (nth (ai L1 P.length) k)) P.length hOi h hci i0 ig it hPl (bX.tI h _) (Hrow1.out.2) (by rw [Hrow1.out.1];exact hlen)
         have hea:=AQ _ _ _ (w.heap.size+1) (w.heap.size+1+1) a n c (λw'=>∃R2,aP w' w0.heap.size a n c R2 (bw G.ops L1 P.length k)/\aB U w' (bI a R1) (bI a R2)) i1
          (hsc.mono λe w' he=>⟨he.1,by obtain ⟨_,R2,h1,h2⟩:=he;exact h2.cell i2 HM.out.2.2.1,by obtain ⟨_,R2,h1,h2⟩:=he;exact ⟨R2,by rw [Hn.out];exact h1,(L4 hbi _).trans h2⟩⟩)
         have Hea:=Z5 hea
         clear hi1 hsc hea
         go_wp2_with fail
         refine Hea.out.mono ?_
         rintro e w5 ⟨rfl,R2,hO5,hM5⟩
         go_wp2_with fail
         go_meet
         exact ⟨R2,hO5,hM5⟩
       obtain ⟨R2,hO2,hM2⟩:=hcut
       generalize wc=T at *
       have t0:=hM2.cell c0 HM.out.1
       have t1:=hM2.cell c1 HM.out.2.1
       have t2:=hM2.cell c2 HM.out.2.2.1
       have tt:=hM2.cell ct HM.out.2.2.2
       have hc2 : Mv w0 T:=hc0.trans (hM2.below (λb' hb'=>(hO1.lt b' hb').1) hc0.size)
       have k0 : ¬ bI a R2 w.heap.size:=hM2.not (G8 U _ c0) HM.out.1
       have k1 : ¬ bI a R2 (w.heap.size+1):=hM2.not (G8 U _ c1) HM.out.2.1
       have k2 : ¬ bI a R2 (w.heap.size+1+1):=hM2.not (G8 U _ c2) HM.out.2.2.1
       have k3 : ¬ bI a R2 V.heap.size:=hM2.not (G8 U _ ct) HM.out.2.2.2
       have HK:=Z5 (Hi k0 (Hi k1 (Hi k2 k3)))
       have hmT : aB W0 T (bI a R) (bI a R2):=hmv.trans ((L4 hbx _).trans (hM1.trans hM2))
       have hop1:=bj hop hbx
       have hop2:=hM1.own hop1 hoi.out
       have ho2 : ap ≠ none->¬ bI a R1 (ablk ap):=λhn=>hM1.not (aS hop1 hn).2 (hoi.out hn)
       have hop3:=hM2.own hop2 ho2
       have ho3 : ap ≠ none->¬ bI a R2 (ablk ap):=λhn=>hM2.not (aS hop2 hn).2 (ho2 hn)
       have Ho3:=Z5 ho3
       clear k0 k1 k2 k3 c0 c1 c2 ct tr ti tc tp i0 i1 i2 it ir ic ig hop hop1 hop2 ho2 ho3 hel
       generalize bw G.ops L1 P.length k=L2 at *
       go_upto_region 19 with fail
       go_wp2_with fail
       go_loopw [98] (λiv wx=>∃i : Nat,i<=n/\iv = .int .i64 i/\aP wx w0.heap.size a n c R2 (clearTo G.ops P.length k L2 i)/\aB T wx (bI a R2) (bI a R2)) (λiv _=>n - (intOf iv).toNat)
       case atStart=>exact ⟨0,G0 _,rfl,hO2,Ma _ _⟩
       case round =>
        obtain ⟨i,hi,rfl,hOi,hMi⟩:=hrel
        generalize wr=X at *
        have x0:=hMi.cell t0 HK.out.1
        have x1:=hMi.cell t1 HK.out.2.1
        have x2:=hMi.cell t2 HK.out.2.2.1
        have xt:=hMi.cell tt HK.out.2.2.2
        have hcx : Mv w0 X:=hc2.trans (hMi.below (λb' hb'=>(hO2.lt b' hb').1) hc2.size)
        by_cases hin : i<n
        ·have hrwi:=Mf (Mj h) hrw2 (t:=P.length) (c:=k) (by rw [Hl2.out];exact hPl) (by omega) i (by rw [Hl2.out];exact hi)
         have hli : (clearTo G.ops P.length k L2 i).length=n:=by rw [cZ];exact Hl2.out
         have hstep : clearTo G.ops P.length k L2 (i+1)=if i=P.length then clearTo G.ops P.length k L2 i else (clearTo G.ops P.length k L2 i).set i (cH G.ops (ai (clearTo G.ops P.length k L2 i) P.length) k (ai (clearTo G.ops P.length k L2 i) i)):=rfl
         have Hstep:=Z5 hstep
         clear hstep
         generalize clearTo G.ops P.length k L2 i=Li at *
         have hri:=hrwi.row (i:=i) (by omega)
         have hrt:=hrwi.row (i:=P.length) (by omega)
         have ci:=hOi.cell hin
         have ii:=hOi.ints hin
         rw [hri.1] at ci ii
         have ck:=ii.cell k (by omega)
         have hpi:=ii.pl
         have hxel : G.El (nth (ai Li i) k):=hri.2 _ (aH (by rw [hri.1];omega))
         have Hri:=Z5 hri
         have Hrt:=Z5 hrt
         clear hri hrt hli
         have a1:=bp x1 (.cells #[.int .i64 i] 3)
         have a2:=bm X (.int .i64 i) 3
         have a3:=bp ci (.cells #[.int .i64 i] 3)
         have a4:=bp ck (.cells #[.int .i64 i] 3)
         have b1:=bp a1 (.cells #[.int .i64 (nth (ai Li i) k)] 3)
         have b2:=bp a2 (.cells #[.int .i64 (nth (ai Li i) k)] 3)
         have b3:=bp (bp xt (.cells #[.int .i64 i] 3)) (.cells #[.int .i64 (nth (ai Li i) k)] 3)
         have b4 : ((X.alloc (.cells #[.int .i64 i] 3)).alloc (.cells #[.int .i64 (nth (ai Li i) k)] 3)).cell? ⟨X.heap.size+1,0,none⟩=some (.int .i64 (nth (ai Li i) k)):=fS _ _ _ (by simp)
         by_cases hit : i=P.length
         ·have hit' : ((i : Int) != P.length)=false:=by simp [hit]
          have Hn : Hid (clearTo G.ops P.length k L2 (i+1)=Li):=by show _=_;rw [Hstep.out,GV hit]
          clear hit
          go_wp2_with fail
          go_roundw
          case rel=>exact ⟨i+1,by omega,by go_num,by rw [Hn.out];exact hOi.af (((GS _ _).alloc (GQ _) _).alloc (by simp) _),hMi.trans (L4 (((GS _ _).alloc (GQ _) _).alloc (by simp) _) _)⟩
          case measure=>simp [intOf] <;> omega
         ·have hit' : ((i : Int) != P.length)=true:=by simp;omega
          by_cases hx0 : nth (ai Li i) k=0
          ·have hx0' : (nth (ai Li i) k != 0)=false:=by simp [hx0]
           have Hn : Hid (clearTo G.ops P.length k L2 (i+1)=Li):=by show _=_;rw [Hstep.out,GU hit,cH,GV hx0,j6]
           clear hit hx0
           go_wp2_with fail
           go_roundw
           case rel=>exact ⟨i+1,by omega,by go_num,by rw [Hn.out];exact hOi.af (((GS _ _).alloc (GQ _) _).alloc (by simp) _),hMi.trans (L4 (((GS _ _).alloc (GQ _) _).alloc (by simp) _) _)⟩
           case measure=>simp [intOf] <;> omega
          ·have hx0' : (nth (ai Li i) k != 0)=true:=by simpa using hx0
           have Hn : Hid (clearTo G.ops P.length k L2 (i+1)=Li.set i (cB G.ops (ai Li i) (G.neg (nth (ai Li i) k)) (ai Li P.length))):=by show _=_;rw [Hstep.out,GU hit,cH,GU hx0];rfl
           have hbz : Mv X ((X.alloc (.cells #[.int .i64 i] 3)).alloc (.cells #[.int .i64 (nth (ai Li i) k)] 3)):=((GS _ _).alloc (GQ _) _).alloc (by simp) _
           have zi : ((X.alloc (.cells #[.int .i64 i] 3)).alloc (.cells #[.int .i64 (nth (ai Li i) k)] 3)).cell? ⟨X.heap.size,0,none⟩=some (.int .i64 i):=bp (bm _ _ _) _
           have zx : ((X.alloc (.cells #[.int .i64 i] 3)).alloc (.cells #[.int .i64 (nth (ai Li i) k)] 3)).cell? ⟨X.heap.size+1,0,none⟩=some (.int .i64 (nth (ai Li i) k)):=fS _ _ _ (by simp)
           have hsw:=A2 w0 a n c R2 Li w.heap.size X.heap.size (X.heap.size+1) V.heap.size len i (nth (ai Li i) k) P.length (hOi.af hbz) h (hcx.trans (hbz.mono hcx.size)) (ak hbz x0) zi zx (ak hbz xt) hin hPl hit hxel
            HK.out.1 (hOi.new (GQ _)) (hOi.new (by omega)) HK.out.2.2.2 Hri.out.2 Hrt.out.2 Hri.out.1 Hrt.out.1
           have hea:=BK _ _ _ _ (w.heap.size+1) (w.heap.size+1+1) a n c (λw'=>aP w' w0.heap.size a n c R2 (clearTo G.ops P.length k L2 (i+1))/\aB T w' (bI a R2) (bI a R2)) (ak hbz x1)
            (hsw.mono λe w' he=>⟨he.1,he.2.2.cell (ak hbz x2) HK.out.2.2.1,by rw [Hn.out];exact he.2.1,hMi.trans ((L4 hbz _).trans he.2.2)⟩)
           have Hea:=Z5 hea
           clear hit hx0 hsw hea zi zx hbz
           go_wp2_with fail
           refine Hea.out.mono ?_
           rintro e w5 ⟨rfl,hO5,hM5⟩
           go_wp2_with fail
           go_roundw
           case rel=>exact ⟨i+1,by omega,by go_num,hO5,hM5⟩
           case measure=>simp [intOf] <;> omega
        ·obtain rfl : i=n:=by omega
         have hopx:=hMi.own hop3 Ho3.out
         have hsz0 : w.heap.size+1+1+1<=X.heap.size:=by have e1:=HsW0.out;have e2:=(hmT.trans hMi).size;omega
         have hcn:=bm X (.int .i64 k) 3
         have hbX:=(GS X.heap.size X).alloc (GQ _) (.cells #[.int .i64 k] 3)
         have hpl8:=HPn.out
         go_wp2_with (at_builtin;refine aU rfl _ _ 22 3 rfl (.int .i64 0) 8 underlying22 bg rfl (w.heap.size+1+1+1) ap P.length cp _ rfl (hopx.alloc _) ⟨X.heap.size,0,none⟩ 1 (.int .i64 k) rfl hcn rfl (by omega) (by unfold maxLen;omega) (H7 hsz0 hbX.size) ?_;intro a3 c3 w3 hown3 hgr hap3)
         go_roundw
         case rel =>
          have hnx : aC G.ops L (k+1)=(clearTo G.ops P.length k L2 i,P ++ [(k : Int)]):=by rw [dD hst.out (by rw [HLkn.out];exact hPl),GU (by rw [Hf.out,HLkn.out];omega),Hf.out,HL1.out]
          have hne : ∀b',bI a R2 b'->eA ap b':=λb' hb'=>by
           by_cases hn : ap=none
           ·exact .inl hn
           ·exact .inr λe=>Ho3.out hn (by rw [e];exact hb')
          have hO3 : aP w3 w0.heap.size a i c R2 (clearTo G.ops P.length k L2 i) :=
           (hOi.af hbX).bq λb' hb'=>hgr.block b' ((hOi.af hbX).lt b' hb').2 λe=>(hne b' hb').own P.length cp e.symm
          have hb3 : Below (w.heap.size+1+1+1) X w3:=L3 (hbX.mono hsz0) (hopx.alloc _) hgr (GQ _) (H7 hsz0 hbX.size)
          have hm3 : aB W0 w3 (bI a R) (bI a R2):=by have h1:=hmT.trans hMi;refine ⟨hb3.os.trans h1.os,hb3.tape.trans h1.tape,hb3.output.trans h1.output,H7 h1.size hb3.size,λb' hb' hI=>(hb3.block b' (by rw [HsW0.out];exact hb')).trans (h1.block b' hb' hI),h1.grow⟩
          have hrw3:=Mf (Mj h) hrw2 (t:=P.length) (c:=k) (by rw [Hl2.out];exact hPl) (by omega) i (by rw [Hl2.out];exact hi)
          have ho4 : a3 ≠ none->¬ bI a R2 (ablk a3):=λhn hI=>by
           rcases hap3 _ ((hOi.af hbX).lt _ hI).2 (hne _ hI) with h1 | h1
           ·exact hn h1
           ·exact h1 rfl
          refine ⟨k+1,R2,a3,c3,d2,clearTo G.ops P.length k L2 i,P ++ [(k : Int)],by omega,by go_num,by simp,rfl,hnx.symm,hO3,?_,ho4,hm3,hrw3,hde2,by simp;omega⟩
          simpa using hown3
         case measure=>simp [intOf] <;> omega
     ·obtain rfl : j=n:=by omega
      have Hn : Hid ((Lk,P)=aC G.ops L (k+1)):=by show _=_;rw [dD hst.out (by rw [HLkn.out];exact hPl),GV (by rw [hfr.out,iO (by rw [HLkn.out];exact GQ _),HLkn.out])]
      go_wp2_with fail
      go_roundw
      case rel =>
       have hmx : aB W0 wr (bI a R) (bI a R'):=hmv.trans (L4 hbx _)
       exact ⟨k+1,R',ap,cp,d,Lk,P,by omega,by go_num,rfl,rfl,Hn.out,hOx,bj hop hbx,hoi.out,hmx,hrw,hde,HPn.out⟩
      case measure=>simp [intOf] <;> omega
   ·have hPe : P.length=n:=by omega
    have hfull : (Lk,P)=aC G.ops L m:=by rw [show m=k+(m - k) by omega,fC (by rw [<- hst.out,hPe,<- hO.ll]),<- hst.out]
    have Hfull:=Z5 hfull
    have hPe' : ((P.length : Int)<n)=False:=by simp;omega
    clear hfull hPe
    go_wp2_with fail
    go_ret2
    exact Hfin.out _ _ _ _ _ _ _ Hfull.out hOr (bd hop (by omega)) hmw
  ·obtain rfl : k=m:=by omega
   go_wp2_with fail
   go_ret2
   exact Hfin.out _ _ _ _ _ _ _ hst.out hOr (bd hop (by omega)) hmw
end
end Go.Proofs.YthglbncgemdcbaaGreat
