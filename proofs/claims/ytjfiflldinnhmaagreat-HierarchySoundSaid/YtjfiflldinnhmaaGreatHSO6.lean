import Derived.Test.YtjfiflldinnhmaaGreatHSO5
namespace Go.Proofs.YtjfiflldinnhmaaGreat
set_option linter.all false
set_option maxRecDepth 100000
set_option maxHeartbeats 4000000
open Go.RowKit Go.Proofs.Tryz
section
variable {w : World} {b : Nat} {G : cC}
theorem bx.flip {El : Int->Prop} {m n t j k : Nat} {L : LL} (h : bx El m L) (hl : L.length=n) (ht : t<n) (hj : j<n) (hz : nth (af L j) k ≠ 0) :
  bx El m (if j=t then L else bm L t j)/\(if j=t then L else bm L t j).length=n/\nth (af (if j=t then L else bm L t j) t) k ≠ 0:=by
 split
 ·rename_i e;subst e;exact ⟨h,hl,hz⟩
 ·rename_i e;refine ⟨h.swap (by omega) (by omega),by rw [dc];exact hl,?_⟩;rw [mB _ _ _ _ (by omega) (by omega),js,EG (by omega),EH rfl];exact hz
theorem jH (L : LL) (i : Nat) : L.set i (af L i)=L:=by
 apply HY;intro j;rw [FQ];by_cases h : i=j
 ·subst h;by_cases h1 : i<L.length
  ·simp [h1,af]
  ·simp [h1]
 ·simp [h]
theorem aJ {w : World} {p : Addr} {v : Value} (h : w.cell? p=some v) (o : Obj) : (w.alloc o).cell? p=some v:=aj ((EI _ _).alloc (EF _) o) h
theorem bk (w : World) (x : Value) (e : TypeId) : (w.alloc (.cells #[x] e)).cell? ⟨w.heap.size,0,none⟩=some x:=aC w #[x] e rfl 0
theorem oW (w : World) (x : Value) (e : TypeId) : (w.alloc (.cells #[x] e)).frozen? ⟨w.heap.size,0,none⟩=false:=by simp
theorem eC (w : World) (x : Value) (e : TypeId) {s : Nat} (hs : s=w.heap.size) : (w.alloc (.cells #[x] e)).cell? ⟨s,0,none⟩=some x:=by subst hs;exact bk w x e
structure Eh (w0 w W0 : World) (a : OA) (n c : Nat) (R : LA) (wr : World) (R' : LA) (Lk : LL) (len : Nat) (G : cC) : Prop where
 om : aN wr w0.heap.size a n c R' Lk
 mv : aw W0 wr (bH a R) (bH a R')
 rws : bx G.El len Lk
def ud (w0 : World) (a : OA) (n c : Nat) (R : LA) (L : LL) (m : Nat) (G : cC) (w : World) (e : Ending) (w' : World) : Prop :=
 ∃R' ap cp d,e = .returned (.tuple #[.slice ap (aB G.ops L m).2.length cp,.int .i64 d])/\aN w' w0.heap.size a n c R' (aB G.ops L m).1 /\
  w'.ownsRow w.heap.size 3 1 (.slice ap (aB G.ops L m).2.length cp) (aB G.ops L m).2.length ((aB G.ops L m).2.map (Value.int .i64))/\aw w w' (bH a R) (bH a R')/\JA w0 w'
theorem pU (w0 : World) (a : OA) (n c m len : Nat) (R : LA) (L : LL) (h : dY w0 b G) (hb : JA w0 w) (hO : aN w w0.heap.size a n c R L)
  (hR : bx G.El len L) (hml : m<=len) (hlen : len<=1000000) (hn : n<=1000000) :
  Calls prog 245 #[.pointer (some ⟨b,0,none⟩),.slice a n c,.int .i64 m,.slice none 0 0] w (ud w0 a n c R L m G w):=by
 have hfin : ∀w' R' ap cp d Lk P,(Lk,P)=aB G.ops L m->aN w' w0.heap.size a n c R' Lk->w'.ownsRow w.heap.size 3 1 (.slice ap P.length cp) P.length (P.map (Value.int .i64))->aw w w' (bH a R) (bH a R') ->
   ud w0 a n c R L m G w (.returned (.tuple #[.slice ap P.length cp,.int .i64 d])) w':=by
  intro w' R' ap cp d Lk P he h1 h2 h3;have e1 : (aB G.ops L m).1=Lk:=by rw [<- he]
  have e2 : (aB G.ops L m).2=P:=by rw [<- he]
  refine ⟨R',ap,cp,d,?_,?_,?_,h3,hb.trans (h3.below (λb' hb'=>(hO.lt b' hb').1) hb.size)⟩
  ·rw [e2]
  ·rw [e1];exact h1
  ·rw [e2];exact h2
 have Hfin:=Z5 hfin;clear hfin;have hpl:=hO.pl;have hGe : G.El 1:=⟨by omega,by have:=h.q2;omega⟩
 have hal:=((EI w.heap.size w).alloc (EF _) (.cells #[.pointer (some ⟨b,0,none⟩)] 90))
 go_enter func245,ntmps245;have hmf : ∀(fn : Fn) (first cap : Array Value) (w : World),(Instr.makeFunc fn first cap).run prog w = .ok (.func fn first cap) w:=λ_ _ _ _=>rfl;go_wp2_with fail;obtain ⟨W0,hW0⟩ : ∃W0 : World,W0=((w.alloc (.cells #[.pointer (some ⟨b,0,none⟩)] 90)).alloc (.cells #[.slice a n c] 25)).alloc (.cells #[.slice none 0 0] 25):=⟨_,rfl⟩
 rw [<- hW0];have hbW0 : JA w W0:=by rw [hW0];exact ((hal.alloc (by simp) _).alloc (by simp;omega) _)
 have hsW0 : w.heap.size+1+1+1=W0.heap.size:=by rw [hW0];simp
 have q0 : W0.cell? ⟨w.heap.size,0,none⟩=some (.pointer (some ⟨b,0,none⟩)):=by rw [hW0];exact aJ (aJ (bk _ _ _) _) _
 have q1 : W0.cell? ⟨w.heap.size+1,0,none⟩=some (.slice a n c):=by rw [hW0];exact aJ (eC _ _ _ (by simp)) _
 have q2 : W0.cell? ⟨w.heap.size+1+1,0,none⟩=some (.slice none 0 0):=by rw [hW0];exact eC _ _ _ (by simp)
 have HsW0:=Z5 hsW0;clear hsW0 hW0 hal;go_loopw [10,12,13] (λdv pv cv wr=>∃(k : Nat) (R' : LA) (ap : OA) (cp : Nat) (d : Int) (Lk : LL) (P : LI),k<=m/\cv = .int .i64 k/\pv = .slice ap P.length cp/\dv = .int .i64 d /\
   Hid ((Lk,P)=aB G.ops L k)/\aN wr w0.heap.size a n c R' Lk/\wr.ownsRow (w.heap.size+1+1+1) 3 1 (.slice ap P.length cp) P.length (P.map (Value.int .i64))/\Hid (ap ≠ none->¬ bH a R' (ah ap)) /\
   aw W0 wr (bH a R) (bH a R')/\bx G.El len Lk/\G.El d/\P.length<=n)
  (λ_ _ cv _=>m - (intOf cv).toNat)
 case atStart =>
  exact ⟨0,R,none,0,1,L,[],EL _,rfl,rfl,rfl,rfl,hO.aa hbW0,bG,λh=>absurd rfl h,Ji _ _,hR,hGe,EL _⟩
 case round =>
  obtain ⟨k,R',ap,cp,d,Lk,P,hkm,rfl,rfl,rfl,hst,hOr,hop,hoi,hmv,hrw,hde,hPn⟩:=hrel
  generalize wr=V at *
  have r0:=hmv.cell q0 (hO.new (EF _))
  have r1:=hmv.cell q1 (hO.new (by simp))
  have r2:=hmv.cell q2 (hO.new (by simp;omega))
  have hmw : aw w V (bH a R) (bH a R'):=(Jc hbW0 _).trans hmv
  have hLkn : Lk.length=n:=hOr.ll
  have HLkn:=Z5 hLkn
  clear hLkn
  by_cases hk : k<m
  ·by_cases hPl : P.length<n
   ·have hPl' : (P.length : Int)<n:=by omega
    have hk' : (k : Int)<m:=by omega
    go_wp2_with fail
    obtain ⟨Y,hY⟩ : ∃Y : World,Y=(V.alloc (.cells #[.int .i64 P.length] 3)).alloc (.cells #[.int .i64 P.length] 3):=⟨_,rfl⟩
    rw [<- hY]
    have hbY : JA V Y:=by rw [hY];exact ((EI _ _).alloc (EF _) _).alloc (by simp) _
    have hYs : Y.heap.size=V.heap.size+2:=by rw [hY];simp
    have yt : Y.cell? ⟨V.heap.size,0,none⟩=some (.int .i64 P.length):=by rw [hY];exact aJ (bk _ _ _) _
    have yk : Y.cell? ⟨V.heap.size+1,0,none⟩=some (.int .i64 P.length):=by rw [hY];exact eC _ _ _ (by simp)
    have yf : Y.frozen? ⟨V.heap.size+1,0,none⟩=false:=by rw [hY];simp
    have HYs:=Z5 hYs
    have HPn:=Z5 hPn
    clear hY hYs
    go_loopw [] (λwx=>∃j : Nat,P.length<=j/\j<=n/\Hid (aM Lk k P.length=aM Lk k j)/\wx.cell? ⟨V.heap.size+1,0,none⟩=some (.int .i64 j)/\wx.frozen? ⟨V.heap.size+1,0,none⟩=false/\Below (V.heap.size+1) Y wx)
     (λwx=>n - (intOf ((wx.cell? ⟨V.heap.size+1,0,none⟩).getD undef)).toNat)
    case atStart=>exact ⟨P.length,EF _,hPn,rfl,yk,yf,EI _ _⟩
    case round =>
     obtain ⟨j,hj1,hj2,hfr,kx,kf,hYx⟩:=hrel
     have hbx : JA V wr:=hbY.trans (hYx.mono (by omega))
     have hOx:=hOr.aa hbx
     have x0:=aj hbx r0
     have x1:=aj hbx r1
     have x2:=aj hbx r2
     have xt : wr.cell? ⟨V.heap.size,0,none⟩=some (.int .i64 P.length):=(hYx.cell (by simp)).trans yt
     by_cases hjn : j<n
     ·have hLj : j<Lk.length:=by rw [HLkn.out];exact hjn
      have hrow:=hrw.row hLj
      have ci:=hOx.cell hjn
      have ri:=hOx.ints hjn
      rw [hrow.1] at ci ri
      have ck:=ri.cell k (by omega)
      have hpr:=ri.pl
      have hkl : (k : Int)<len:=by omega
      have hfs:=gx (c:=k) hLj
      by_cases hz : nth (af Lk j) k=0
      ·rw [EH hz] at hfs
       have hz' : (nth (af Lk j) k == 0)=true:=by simpa using hz
       have Hf : Hid (aM Lk k P.length=aM Lk k (j+1)):=by show _=_;rw [hfr.out,hfs]
       clear hz hfs hrow
       go_wp2_with fail
       go_roundw
       case rel =>
        refine ⟨j+1,by omega,by omega,Hf.out,EX _ _ _ kx,by rw [Fp];exact kf,hYx.setCell (by simp) _⟩
       case measure=>rw [EX _ _ _ kx,kx];simp [intOf] <;> omega
      ·rw [EG hz] at hfs
       have hz' : (nth (af Lk j) k == 0)=false:=by simpa using hz
       have Hf : Hid (aM Lk k P.length=j):=by show _=_;rw [hfr.out,hfs]
       have hjn' : ((j : Int) == n)=false:=by simp;omega
       have Hz:=Z5 hz
       clear hz
       have Hrow:=Z5 hrow
       clear hfs hrow
       have n0 : ¬ bH a R' w.heap.size:=hmv.not (by have:=HsW0.out;omega) (hO.new (EF _))
       have n1 : ¬ bH a R' (w.heap.size+1):=hmv.not (by have:=HsW0.out;omega) (hO.new (by omega))
       have n2 : ¬ bH a R' (w.heap.size+1+1):=hmv.not (by have:=HsW0.out;omega) (hO.new (by omega))
       have nt : ¬ bH a R' V.heap.size:=hOr.new (EF _)
       have nk : ¬ bH a R' (V.heap.size+1):=hOr.new (by omega)
       have hx0 : JA w0 wr:=hb.trans (aw.below (hmw.trans (Jc hbx _)) (λb' hb'=>(hO.lt b' hb').1) hb.size)
       have HN:=Z5 (E6 n0 (E6 n1 (E6 n2 (E6 nt nk))))
       clear n0 n1 n2 nt nk
       go_upto_if 58 with fail
       go_cut [10] (λdv wx=>∃(d' : Int) (R1 : LA),dv = .int .i64 d'/\G.El d'/\aN wx w0.heap.size a n c R1 (if j=P.length then Lk else bm Lk P.length j)/\aw wr wx (bH a R') (bH a R1))
       case first =>
        by_cases hjt : j=P.length
        ·have hjt' : ((j : Int) != P.length)=false:=by simp [hjt]
         have Hm : Hid ((if j=P.length then Lk else bm Lk P.length j)=Lk):=EH hjt
         clear hjt
         go_wp2_with fail
         go_meet
         exact ⟨d,R',rfl,hde,by rw [Hm.out];exact hOx,Ji _ _⟩
        ·have hjt' : ((j : Int) != P.length)=true:=by simp;omega
         have Hm : Hid ((if j=P.length then Lk else bm Lk P.length j)=bm Lk P.length j):=EG hjt
         have hsw:=zN w0.heap.size a n c R' Lk (V.heap.size+1) V.heap.size j P.length hOx kx xt hjn hPl hjt HN.out.2.2.2.2 HN.out.2.2.2.1
         have hea:=yW _ _ (w.heap.size+1) (w.heap.size+1+1) a n c (λw'=>∃R1,aN w' w0.heap.size a n c R1 (bm Lk P.length j)/\aw wr w' (bH a R') (bH a R1)) x1
          (hsw.mono λe w' he=>⟨he.1,by obtain ⟨_,R1,h1,h2⟩:=he;exact h2.cell x2 HN.out.2.2.1,he.2⟩)
         have Hea:=Z5 hea
         clear hjt hsw hea
         go_wp2_with fail
         refine Hea.out.mono ?_
         rintro e w5 ⟨rfl,R1,hO5,hM5⟩
         have z0:=hM5.cell x0 HN.out.1
         have hb5 : JA w0 w5:=hx0.trans (hM5.below (λb' hb'=>(hOx.lt b' hb').1) hx0.size)
         go_wp2_with fail
         refine (C4 d (h.aa hb5) hde).mono ?_
         rintro e w6 ⟨m6,rfl,rfl⟩
         go_wp2_with fail
         go_meet
         exact ⟨_,R1,rfl,cC.vk h d,by rw [Hm.out];exact hO5.aa (below_drewN (EI _ _) m6),hM5.trans (Jc (below_drewN (EI _ _) m6) _)⟩
       obtain ⟨d',R1,rfl,hde',hO1,hM1⟩:=hcut
       generalize wc=U at *
       obtain ⟨hrw1,hl1,hnz1⟩:=bx.flip (t:=P.length) hrw HLkn.out hPl hjn Hz.out
       have c0:=hM1.cell x0 HN.out.1
       have c1:=hM1.cell x1 HN.out.2.1
       have c2:=hM1.cell x2 HN.out.2.2.1
       have ct:=hM1.cell xt HN.out.2.2.2.1
       have m0 : ¬ bH a R1 w.heap.size:=hM1.not (EP wr _ x0) HN.out.1
       have m1 : ¬ bH a R1 (w.heap.size+1):=hM1.not (EP wr _ x1) HN.out.2.1
       have m2 : ¬ bH a R1 (w.heap.size+1+1):=hM1.not (EP wr _ x2) HN.out.2.2.1
       have mt : ¬ bH a R1 V.heap.size:=hM1.not (EP wr _ xt) HN.out.2.2.2.1
       have hc0 : JA w0 U:=hx0.trans (hM1.below (λb' hb'=>(hOx.lt b' hb').1) hx0.size)
       have HM:=Z5 (E6 m0 (E6 m1 (E6 m2 mt)))
       have HL1 : Hid (et G.ops Lk P.length j k=aT G.ops P.length k (bw G.ops (if j=P.length then Lk else bm Lk P.length j) P.length k) n):=by show _=_;rw [gH,HLkn.out]
       generalize (if j=P.length then Lk else bm Lk P.length j)=L1 at *
       have hrow1:=hrw1.row (i:=P.length) (by omega)
       have tr:=hO1.cell hPl
       have ti:=hO1.ints hPl
       rw [hrow1.1] at tr ti
       have tc:=ti.cell k (by omega)
       have tp:=ti.pl
       have hkl : (k : Int)<len:=by omega
       have hel : G.El (nth (af L1 P.length) k):=hrow1.2 _ (aO (by rw [hrow1.1];omega))
       have hG1:=h.aa hc0
       have HG1 : Hid (dY U.drew b G/\(∀n,dY (U.drewN n) b G)/\∀n,dY ((U.drewN n).alloc (.cells #[.int .i64 0] 3)) b G) :=
        ⟨hG1.aa (EI _ _).drew,λn=>hG1.drewN n,λn=>(hG1.drewN n).aa ((EI _ _).alloc (EF _) _)⟩
       have Hnz:=Z5 hnz1
       have Hl1:=Z5 hl1
       have Hrow1:=Z5 hrow1
       clear hrow1 hl1 hnz1 m0 m1 m2 mt x0 x1 x2 xt kx kf ci ri ck hpr r0 r1 r2 yt yk yf q0 q1 q2
       go_upto_region 15 with fail
       go_cut [10] (λdv wx=>∃d2 : Int,dv = .int .i64 d2/\G.El d2/\bf U wx)
       case first =>
        go_region_held3 (λw'=>w'.cell? ⟨w.heap.size,0,none⟩=some (.pointer (some ⟨b,0,none⟩))/\w'.cell? ⟨w.heap.size+1,0,none⟩=some (.slice a n c)/\w'.cell? ⟨V.heap.size,0,none⟩=some (.int .i64 P.length) /\
          w'.cell? ⟨ah a,aG a+P.length,none⟩=some (.slice (aK R1 P.length).1 len (aK R1 P.length).2)/\w'.cell? ⟨ah (aK R1 P.length).1,aG (aK R1 P.length).1+k,none⟩=some (.int .i64 (nth (af L1 P.length) k)))
         (exact ⟨c0,c1,ct,tr,tc⟩)
         (first
         | (go_at_call 77;((with_reducible refine (o0 d' _ HG1.out.1 hde' hel).mono ?_);rintro e w4 ⟨m4,rfl,rfl⟩)))
        all_goals (
         go_step;go_step
         go_meet
         exact ⟨_,rfl,Jw h _ _,⟨_,rfl⟩⟩)
       obtain ⟨d2,rfl,hde2,m5,rfl⟩:=hcut
       have hS : ∀ W, JA U W → W.cell? ⟨w.heap.size, 0, none⟩ = some (.pointer (some ⟨b, 0, none⟩)) ∧ W.cell? ⟨w.heap.size + 1, 0, none⟩ = some (.slice a n c) ∧ W.cell? ⟨V.heap.size, 0, none⟩ = some (.int .i64 P.length) ∧
             W.cell? ⟨ah a,aG a+P.length,none⟩=some (.slice (aK R1 P.length).1 len (aK R1 P.length).2)/\W.cell? ⟨ah (aK R1 P.length).1,aG (aK R1 P.length).1+k,none⟩=some (.int .i64 (nth (af L1 P.length) k))/\JA U W :=
        λW hW=>⟨aj hW c0,aj hW c1,aj hW ct,aj hW tr,aj hW tc,hW⟩
       have HS:=Z5 hS
       clear hS
       go_upto_region 16 with fail
       go_cut [16,17] (λiv ev wx=>∃gi,iv = .pointer (some ⟨gi,0,none⟩)/\U.heap.size<=gi/\ev = .int .i64 0/\wx.cell? ⟨gi,0,none⟩=some (.int .i64 (G.inv (nth (af L1 P.length) k)))/\JA U wx)
       case first =>
        have hBU : JA U (U.drewN m5):=below_drewN (EI _ _) m5
        have hfc : ∀k,((U.drewN k).alloc (.cells #[.int .i64 0] 3)).cell? ⟨U.heap.size,0,none⟩=some (.int .i64 0):=λk=>bk (U.drewN k) _ _
        have hfc2 : ∀k k',(((U.drewN k).alloc (.cells #[.int .i64 0] 3)).drewN k').cell? ⟨U.heap.size,0,none⟩=some (.int .i64 0):=λk _=>bk (U.drewN k) _ _
        have hff2 : ∀k k',(((U.drewN k).alloc (.cells #[.int .i64 0] 3)).drewN k').frozen? ⟨U.heap.size,0,none⟩=false:=λk _=>oW (U.drewN k) _ _
        have hff : ∀k,((U.drewN k).alloc (.cells #[.int .i64 0] 3)).frozen? ⟨U.heap.size,0,none⟩=false:=λk=>oW (U.drewN k) _ _
        go_region_held3 (λW=>W.cell? ⟨w.heap.size,0,none⟩=some (.pointer (some ⟨b,0,none⟩))/\W.cell? ⟨w.heap.size+1,0,none⟩=some (.slice a n c)/\W.cell? ⟨V.heap.size,0,none⟩=some (.int .i64 P.length) /\
          W.cell? ⟨ah a,aG a+P.length,none⟩=some (.slice (aK R1 P.length).1 len (aK R1 P.length).2)/\W.cell? ⟨ah (aK R1 P.length).1,aG (aK R1 P.length).1+k,none⟩=some (.int .i64 (nth (af L1 P.length) k))/\JA U W)
         ((refine HS.out _ ?_;first | exact hBU.drew | exact below_drewN (EI _ _) _ | exact (below_drewN (EI _ _) _).alloc (EF _) _ | exact ((below_drewN (EI _ _) _).alloc (EF _) _).setCell (EF _) _ | exact below_drewN ((below_drewN (EI _ _) _).alloc (EF _) _) _ | exact (below_drewN ((below_drewN (EI _ _) _).alloc (EF _) _) _).setCell (EF _) _))
         (first
         | (go_at_call 189;((with_reducible refine (A6 _ (HG1.out.2.1 _) hel Hnz.out).mono ?_);rintro e w4 ⟨m4,rfl,rfl⟩))
         | (go_at_call 189;((with_reducible refine (A6 _ (HG1.out.2.2 _) hel Hnz.out).mono ?_);rintro e w4 ⟨m4,rfl,rfl⟩)))
        all_goals (
         go_step;go_step
         go_meet)
        ·exact ⟨U.heap.size,rfl,EF _,rfl,EX _ _ _ (hfc _),((below_drewN (EI _ _) _).alloc (EF _) _).setCell (EF _) _⟩
        ·exact ⟨U.heap.size,rfl,EF _,rfl,EX _ _ _ (hfc2 _ _),(below_drewN ((below_drewN (EI _ _) _).alloc (EF _) _) _).setCell (EF _) _⟩
       obtain ⟨gi,rfl,hgi,rfl,ig,hbi⟩:=hcut
       obtain ⟨i0,i1,it,ir,ic,_⟩:=HS.out wc hbi
       have i2:=aj hbi c2
       have hOi:=hO1.aa hbi
       have hci : JA w0 wc:=Ft hc0 (hbi.mono hc0.size)
       have hrw2:=hrw1.norm (Js h) (t:=P.length) (c:=k) (by rw [Hl1.out];exact hPl) (by omega) Hnz.out
       have hl2 : (bw G.ops L1 P.length k).length=n:=by rw [cP];exact Hl1.out
       have Hl2:=Z5 hl2
       clear hl2
       go_upto_if 92 with fail
       go_cut [] (λwx=>∃R2,aN wx w0.heap.size a n c R2 (bw G.ops L1 P.length k)/\aw U wx (bH a R1) (bH a R2))
       case first =>
        have hv : G.ops.inv (nth (af L1 P.length) k)=G.inv (nth (af L1 P.length) k):=rfl
        have Hv:=Z5 hv
        clear hv
        by_cases hi1 : G.inv (nth (af L1 P.length) k)=1
        ·have Hn : Hid (bw G.ops L1 P.length k=L1):=by show _=_;rw [bw,EH (by rw [Hv.out];exact hi1)]
         have hi1' : (G.inv (nth (af L1 P.length) k) != 1)=false:=by simp [hi1]
         clear hi1
         go_wp2_with fail
         go_meet
         exact ⟨R1,by rw [Hn.out];exact hOi,Jc hbi _⟩
        ·have Hn : Hid (bw G.ops L1 P.length k=L1.set P.length ((af L1 P.length).map (G.mul (G.inv (nth (af L1 P.length) k))))):=by show _=_;rw [bw,EG (by rw [Hv.out];exact hi1)];rfl
         have hi1' : (G.inv (nth (af L1 P.length) k) != 1)=true:=by simpa using hi1
         have hsc:=xZ w0 a n c R1 L1 w.heap.size gi V.heap.size (G.inv (nth (af L1 P.length) k)) P.length hOi h hci i0 ig it hPl (cC.sL h _) (Hrow1.out.2) (by rw [Hrow1.out.1];exact hlen)
         have hea:=yC _ _ _ (w.heap.size+1) (w.heap.size+1+1) a n c (λw'=>∃R2,aN w' w0.heap.size a n c R2 (bw G.ops L1 P.length k)/\aw U w' (bH a R1) (bH a R2)) i1
          (hsc.mono λe w' he=>⟨he.1,by obtain ⟨_,R2,h1,h2⟩:=he;exact h2.cell i2 HM.out.2.2.1,by obtain ⟨_,R2,h1,h2⟩:=he;exact ⟨R2,by rw [Hn.out];exact h1,(Jc hbi _).trans h2⟩⟩)
         have Hea:=Z5 hea
         clear hi1 hsc hea
         go_wp2_with fail
         refine Hea.out.mono ?_
         rintro e w5 ⟨rfl,R2,hO5,hM5⟩
         go_wp2_with fail
         go_meet
         exact ⟨R2,hO5,hM5⟩
       obtain ⟨R2,hO2,hM2⟩:=hcut
       generalize wc=T at *
       have t0:=hM2.cell c0 HM.out.1
       have t1:=hM2.cell c1 HM.out.2.1
       have t2:=hM2.cell c2 HM.out.2.2.1
       have tt:=hM2.cell ct HM.out.2.2.2
       have hc2 : JA w0 T:=hc0.trans (hM2.below (λb' hb'=>(hO1.lt b' hb').1) hc0.size)
       have k0 : ¬ bH a R2 w.heap.size:=hM2.not (EP U _ c0) HM.out.1
       have k1 : ¬ bH a R2 (w.heap.size+1):=hM2.not (EP U _ c1) HM.out.2.1
       have k2 : ¬ bH a R2 (w.heap.size+1+1):=hM2.not (EP U _ c2) HM.out.2.2.1
       have k3 : ¬ bH a R2 V.heap.size:=hM2.not (EP U _ ct) HM.out.2.2.2
       have HK:=Z5 (E6 k0 (E6 k1 (E6 k2 k3)))
       have hmT : aw W0 T (bH a R) (bH a R2):=hmv.trans ((Jc hbx _).trans (hM1.trans hM2))
       have hop1:=aY hop hbx
       have hop2:=hM1.own hop1 hoi.out
       have ho2 : ap ≠ none->¬ bH a R1 (ah ap):=λhn=>hM1.not (aU hop1 hn).2 (hoi.out hn)
       have hop3:=hM2.own hop2 ho2
       have ho3 : ap ≠ none->¬ bH a R2 (ah ap):=λhn=>hM2.not (aU hop2 hn).2 (ho2 hn)
       have Ho3:=Z5 ho3
       clear k0 k1 k2 k3 c0 c1 c2 ct tr ti tc tp i0 i1 i2 it ir ic ig hop hop1 hop2 ho2 ho3 hel
       generalize bw G.ops L1 P.length k=L2 at *
       go_upto_region 19 with fail
       go_wp2_with fail
       go_loopw [98] (λiv wx=>∃i : Nat,i<=n/\iv = .int .i64 i/\aN wx w0.heap.size a n c R2 (aT G.ops P.length k L2 i)/\aw T wx (bH a R2) (bH a R2)) (λiv _=>n - (intOf iv).toNat)
       case atStart=>exact ⟨0,EL _,rfl,hO2,Ji _ _⟩
       case round =>
        obtain ⟨i,hi,rfl,hOi,hMi⟩:=hrel
        generalize wr=X at *
        have x0:=hMi.cell t0 HK.out.1
        have x1:=hMi.cell t1 HK.out.2.1
        have x2:=hMi.cell t2 HK.out.2.2.1
        have xt:=hMi.cell tt HK.out.2.2.2
        have hcx : JA w0 X:=hc2.trans (hMi.below (λb' hb'=>(hO2.lt b' hb').1) hc2.size)
        by_cases hin : i<n
        ·have hrwi:=Jm (Js h) hrw2 (t:=P.length) (c:=k) (by rw [Hl2.out];exact hPl) (by omega) i (by rw [Hl2.out];exact hi)
         have hli : (aT G.ops P.length k L2 i).length=n:=by rw [cR];exact Hl2.out
         have hstep : aT G.ops P.length k L2 (i+1)=if i=P.length then aT G.ops P.length k L2 i else (aT G.ops P.length k L2 i).set i (bW G.ops (af (aT G.ops P.length k L2 i) P.length) k (af (aT G.ops P.length k L2 i) i)):=rfl
         have Hstep:=Z5 hstep
         clear hstep
         generalize aT G.ops P.length k L2 i=Li at *
         have hri:=hrwi.row (i:=i) (by omega)
         have hrt:=hrwi.row (i:=P.length) (by omega)
         have ci:=hOi.cell hin
         have ii:=hOi.ints hin
         rw [hri.1] at ci ii
         have ck:=ii.cell k (by omega)
         have hpi:=ii.pl
         have hxel : G.El (nth (af Li i) k):=hri.2 _ (aO (by rw [hri.1];omega))
         have Hri:=Z5 hri
         have Hrt:=Z5 hrt
         clear hri hrt hli
         have a1:=aJ x1 (.cells #[.int .i64 i] 3)
         have a2:=bk X (.int .i64 i) 3
         have a3:=aJ ci (.cells #[.int .i64 i] 3)
         have a4:=aJ ck (.cells #[.int .i64 i] 3)
         have b1:=aJ a1 (.cells #[.int .i64 (nth (af Li i) k)] 3)
         have b2:=aJ a2 (.cells #[.int .i64 (nth (af Li i) k)] 3)
         have b3:=aJ (aJ xt (.cells #[.int .i64 i] 3)) (.cells #[.int .i64 (nth (af Li i) k)] 3)
         have b4 : ((X.alloc (.cells #[.int .i64 i] 3)).alloc (.cells #[.int .i64 (nth (af Li i) k)] 3)).cell? ⟨X.heap.size+1,0,none⟩=some (.int .i64 (nth (af Li i) k)):=eC _ _ _ (by simp)
         by_cases hit : i=P.length
         ·have hit' : ((i : Int) != P.length)=false:=by simp [hit]
          have Hn : Hid (aT G.ops P.length k L2 (i+1)=Li):=by show _=_;rw [Hstep.out,EH hit]
          clear hit
          go_wp2_with fail
          go_roundw
          case rel=>exact ⟨i+1,by omega,by go_num,by rw [Hn.out];exact hOi.aa (((EI _ _).alloc (EF _) _).alloc (by simp) _),hMi.trans (Jc (((EI _ _).alloc (EF _) _).alloc (by simp) _) _)⟩
          case measure=>simp [intOf] <;> omega
         ·have hit' : ((i : Int) != P.length)=true:=by simp;omega
          by_cases hx0 : nth (af Li i) k=0
          ·have hx0' : (nth (af Li i) k != 0)=false:=by simp [hx0]
           have Hn : Hid (aT G.ops P.length k L2 (i+1)=Li):=by show _=_;rw [Hstep.out,EG hit,bW,EH hx0,jH]
           clear hit hx0
           go_wp2_with fail
           go_roundw
           case rel=>exact ⟨i+1,by omega,by go_num,by rw [Hn.out];exact hOi.aa (((EI _ _).alloc (EF _) _).alloc (by simp) _),hMi.trans (Jc (((EI _ _).alloc (EF _) _).alloc (by simp) _) _)⟩
           case measure=>simp [intOf] <;> omega
          ·have hx0' : (nth (af Li i) k != 0)=true:=by simpa using hx0
           have Hn : Hid (aT G.ops P.length k L2 (i+1)=Li.set i (cw G.ops (af Li i) (G.neg (nth (af Li i) k)) (af Li P.length))):=by show _=_;rw [Hstep.out,EG hit,bW,EG hx0];rfl
           have hbz : JA X ((X.alloc (.cells #[.int .i64 i] 3)).alloc (.cells #[.int .i64 (nth (af Li i) k)] 3)):=((EI _ _).alloc (EF _) _).alloc (by simp) _
           have zi : ((X.alloc (.cells #[.int .i64 i] 3)).alloc (.cells #[.int .i64 (nth (af Li i) k)] 3)).cell? ⟨X.heap.size,0,none⟩=some (.int .i64 i):=aJ (bk _ _ _) _
           have zx : ((X.alloc (.cells #[.int .i64 i] 3)).alloc (.cells #[.int .i64 (nth (af Li i) k)] 3)).cell? ⟨X.heap.size+1,0,none⟩=some (.int .i64 (nth (af Li i) k)):=eC _ _ _ (by simp)
           have hsw:=xW w0 a n c R2 Li w.heap.size X.heap.size (X.heap.size+1) V.heap.size len i (nth (af Li i) k) P.length (hOi.aa hbz) h (hcx.trans (hbz.mono hcx.size)) (aj hbz x0) zi zx (aj hbz xt) hin hPl hit hxel
            HK.out.1 (hOi.new (EF _)) (hOi.new (by omega)) HK.out.2.2.2 Hri.out.2 Hrt.out.2 Hri.out.1 Hrt.out.1
           have hea:=yQ _ _ _ _ (w.heap.size+1) (w.heap.size+1+1) a n c (λw'=>aN w' w0.heap.size a n c R2 (aT G.ops P.length k L2 (i+1))/\aw T w' (bH a R2) (bH a R2)) (aj hbz x1)
            (hsw.mono λe w' he=>⟨he.1,he.2.2.cell (aj hbz x2) HK.out.2.2.1,by rw [Hn.out];exact he.2.1,hMi.trans ((Jc hbz _).trans he.2.2)⟩)
           have Hea:=Z5 hea
           clear hit hx0 hsw hea zi zx hbz
           go_wp2_with fail
           refine Hea.out.mono ?_
           rintro e w5 ⟨rfl,hO5,hM5⟩
           go_wp2_with fail
           go_roundw
           case rel=>exact ⟨i+1,by omega,by go_num,hO5,hM5⟩
           case measure=>simp [intOf] <;> omega
        ·obtain rfl : i=n:=by omega
         have hopx:=hMi.own hop3 Ho3.out
         have hsz0 : w.heap.size+1+1+1<=X.heap.size:=by have e1:=HsW0.out;have e2:=(hmT.trans hMi).size;omega
         have hcn:=bk X (.int .i64 k) 3
         have hbX:=(EI X.heap.size X).alloc (EF _) (.cells #[.int .i64 k] 3)
         have hpl8:=HPn.out
         go_wp2_with (at_builtin;refine aX rfl _ _ 22 3 rfl (.int .i64 0) 8 underlying22 bh rfl (w.heap.size+1+1+1) ap P.length cp _ rfl (hopx.alloc _) ⟨X.heap.size,0,none⟩ 1 (.int .i64 k) rfl hcn rfl (by omega) (by unfold maxLen;omega) (ET hsz0 hbX.size) ?_;intro a3 c3 w3 hown3 hgr hap3)
         go_roundw
         case rel =>
          have hnx : aB G.ops L (k+1)=(aT G.ops P.length k L2 i,P ++ [(k : Int)]):=by rw [dn hst.out (by rw [HLkn.out];exact hPl),EG (by rw [Hf.out,HLkn.out];omega),Hf.out,HL1.out]
          have hne : ∀b',bH a R2 b'->db ap b':=λb' hb'=>by
           by_cases hn : ap=none
           ·exact .inl hn
           ·exact .inr λe=>Ho3.out hn (by rw [e];exact hb')
          have hO3 : aN w3 w0.heap.size a i c R2 (aT G.ops P.length k L2 i) :=
           (hOi.aa hbX).bt λb' hb'=>hgr.block b' ((hOi.aa hbX).lt b' hb').2 λe=>(hne b' hb').own P.length cp e.symm
          have hb3 : Below (w.heap.size+1+1+1) X w3:=Jb (hbX.mono hsz0) (hopx.alloc _) hgr (EF _) (ET hsz0 hbX.size)
          have hm3 : aw W0 w3 (bH a R) (bH a R2):=by have h1:=hmT.trans hMi;refine ⟨hb3.os.trans h1.os,hb3.tape.trans h1.tape,hb3.output.trans h1.output,ET h1.size hb3.size,λb' hb' hI=>(hb3.block b' (by rw [HsW0.out];exact hb')).trans (h1.block b' hb' hI),h1.grow⟩
          have hrw3:=Jm (Js h) hrw2 (t:=P.length) (c:=k) (by rw [Hl2.out];exact hPl) (by omega) i (by rw [Hl2.out];exact hi)
          have ho4 : a3 ≠ none->¬ bH a R2 (ah a3):=λhn hI=>by
           rcases hap3 _ ((hOi.aa hbX).lt _ hI).2 (hne _ hI) with h1 | h1
           ·exact hn h1
           ·exact h1 rfl
          refine ⟨k+1,R2,a3,c3,d2,aT G.ops P.length k L2 i,P ++ [(k : Int)],by omega,by go_num,by simp,rfl,hnx.symm,hO3,?_,ho4,hm3,hrw3,hde2,by simp;omega⟩
          simpa using hown3
         case measure=>simp [intOf] <;> omega
     ·obtain rfl : j=n:=by omega
      have Hn : Hid ((Lk,P)=aB G.ops L (k+1)):=by show _=_;rw [dn hst.out (by rw [HLkn.out];exact hPl),EH (by rw [hfr.out,jE (by rw [HLkn.out];exact EF _),HLkn.out])]
      go_wp2_with fail
      go_roundw
      case rel =>
       have hmx : aw W0 wr (bH a R) (bH a R'):=hmv.trans (Jc hbx _)
       exact ⟨k+1,R',ap,cp,d,Lk,P,by omega,by go_num,rfl,rfl,Hn.out,hOx,aY hop hbx,hoi.out,hmx,hrw,hde,HPn.out⟩
      case measure=>simp [intOf] <;> omega
   ·have hPe : P.length=n:=by omega
    have hfull : (Lk,P)=aB G.ops L m:=by rw [show m=k+(m - k) by omega,fh (by rw [<- hst.out,hPe,<- hO.ll]),<- hst.out]
    have Hfull:=Z5 hfull
    have hPe' : ((P.length : Int)<n)=False:=by simp;omega
    clear hfull hPe
    go_wp2_with fail
    go_ret2
    exact Hfin.out _ _ _ _ _ _ _ Hfull.out hOr (aW hop (by omega)) hmw
  ·obtain rfl : k=m:=by omega
   go_wp2_with fail
   go_ret2
   exact Hfin.out _ _ _ _ _ _ _ hst.out hOr (aW hop (by omega)) hmw
end
end Go.Proofs.YtjfiflldinnhmaaGreat
