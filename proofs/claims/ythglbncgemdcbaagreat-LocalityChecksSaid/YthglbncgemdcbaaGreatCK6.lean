import Derived.Test.YthglbncgemdcbaaGreatCK5
namespace Go.Proofs.YthglbncgemdcbaaGreat
set_option linter.all false
set_option maxRecDepth 100000
set_option maxHeartbeats 4000000
open Go.RowKit Go.Proofs.Tryz
section
variable {w : World} {b : Nat} {G : cX}
theorem bs.flip {El : Int->Prop} {m n t j k : Nat} {L : Ll} (h : bs El m L) (Y : L.length=n) (X : t<n) (V : j<n) (Z : nth (ai L j) k ≠ 0) :
  bs El m (if j=t then L else bt L t j)/\(if j=t then L else bt L t j).length=n/\nth (ai (if j=t then L else bt L t j) t) k ≠ 0:=by
 split
 ·rename_i e;subst e;exact ⟨h,Y,Z⟩
 ·rename_i e;refine ⟨h.swap (by omega) (by omega),by rw [bG];exact Y,?_⟩;rw [iH _ _ _ _ (by omega) (by omega),dM,JR (by omega),JT rfl];exact Z
theorem kW (L : Ll) (i : Nat) : L.set i (ai L i)=L:=by
 apply MH;intro j;rw [KT];by_cases h : i=j
 ·subst h;by_cases h1 : i<L.length
  ·simp [h1,ai]
  ·simp [h1]
 ·simp [h]
theorem br {w : World} {p : Addr} {v : Value} (h : w.cell? p=some v) (o : Obj) : (w.alloc o).cell? p=some v:=aB ((JP _ _).alloc (JO _) o) h
theorem bf (w : World) (x : Value) (e : TypeId) : (w.alloc (.cells #[x] e)).cell? ⟨w.heap.size,0,none⟩=some x:=aF w #[x] e rfl 0
theorem qR (w : World) (x : Value) (e : TypeId) : (w.alloc (.cells #[x] e)).frozen? ⟨w.heap.size,0,none⟩=false:=by simp
theorem ew (w : World) (x : Value) (e : TypeId) {s : Nat} (Z : s=w.heap.size) : (w.alloc (.cells #[x] e)).cell? ⟨s,0,none⟩=some x:=by subst Z;exact bf w x e
structure Jt (w0 w W0 : World) (a : OA) (n c : Nat) (R : LA) (wr : World) (R' : LA) (Lk : Ll) (len : Nat) (G : cX) : Prop where
 om : aT wr w0.heap.size a n c R' Lk
 mv : aD W0 wr (bX a R) (bX a R')
 rws : bs G.El len Lk
def wz (Z : World) (a : OA) (n c : Nat) (R : LA) (L : Ll) (m : Nat) (G : cX) (w : World) (e : Ending) (w' : World) : Prop :=
 ∃Y ap cp d,e = .returned (.tuple #[.slice ap (aC G.ops L m).2.length cp,.int .i64 d])/\aT w' Z.heap.size a n c Y (aC G.ops L m).1 /\
  w'.ownsRow w.heap.size 3 1 (.slice ap (aC G.ops L m).2.length cp) (aC G.ops L m).2.length ((aC G.ops L m).2.map (Value.int .i64))/\aD w w' (bX a R) (bX a Y)/\OC Z w'
theorem sj (D : World) (a : OA) (n c m len : Nat) (R : LA) (L : Ll) (h : ee D b G) (hb : OC D w) (hO : aT w D.heap.size a n c R L)
  (hR : bs G.El len L) (hml : m<=len) (hlen : len<=1000000) (hn : n<=1000000) :
  Calls prog 223 #[.pointer (some ⟨b,0,none⟩),.slice a n c,.int .i64 m,.slice none 0 0] w (wz D a n c R L m G w):=by
 have hfin : ∀w' A ap cp d Lk P,(Lk,P)=aC G.ops L m->aT w' D.heap.size a n c A Lk->w'.ownsRow w.heap.size 3 1 (.slice ap P.length cp) P.length (P.map (Value.int .i64))->aD w w' (bX a R) (bX a A) ->
   wz D a n c R L m G w (.returned (.tuple #[.slice ap P.length cp,.int .i64 d])) w':=by
  intro w' A ap cp d Lk P he h1 h2 h3;have e1 : (aC G.ops L m).1=Lk:=by rw [<- he]
  have e2 : (aC G.ops L m).2=P:=by rw [<- he]
  refine ⟨A,ap,cp,d,?_,?_,?_,h3,hb.trans (h3.below (λb' Z=>(hO.lt b' Z).1) hb.size)⟩
  ·rw [e2]
  ·rw [e1];exact h1
  ·rw [e2];exact h2
 have Hfin:=Z5 hfin;clear hfin;have hpl:=hO.pl;have hGe : G.El 1:=⟨by omega,by have:=h.q2;omega⟩
 have hal:=((JP w.heap.size w).alloc (JO _) (.cells #[.pointer (some ⟨b,0,none⟩)] 79))
 go_enter func223,ntmps223;have hmf : ∀(fn : Fn) (first cap : Array Value) (w : World),(Instr.makeFunc fn first cap).run prog w = .ok (.func fn first cap) w:=λ_ _ _ _=>rfl;go_wp2_with fail;obtain ⟨W0,hW0⟩ : ∃W0 : World,W0=((w.alloc (.cells #[.pointer (some ⟨b,0,none⟩)] 79)).alloc (.cells #[.slice a n c] 25)).alloc (.cells #[.slice none 0 0] 25):=⟨_,rfl⟩
 rw [<- hW0];have hbW0 : OC w W0:=by rw [hW0];exact ((hal.alloc (by simp) _).alloc (by simp;omega) _)
 have hsW0 : w.heap.size+1+1+1=W0.heap.size:=by rw [hW0];simp
 have q0 : W0.cell? ⟨w.heap.size,0,none⟩=some (.pointer (some ⟨b,0,none⟩)):=by rw [hW0];exact br (br (bf _ _ _) _) _
 have q1 : W0.cell? ⟨w.heap.size+1,0,none⟩=some (.slice a n c):=by rw [hW0];exact br (ew _ _ _ (by simp)) _
 have q2 : W0.cell? ⟨w.heap.size+1+1,0,none⟩=some (.slice none 0 0):=by rw [hW0];exact ew _ _ _ (by simp)
 have HsW0:=Z5 hsW0;clear hsW0 hW0 hal;go_loopw [10,12,13] (λdv pv cv wr=>∃(k : Nat) (A : LA) (ap : OA) (cp : Nat) (d : Int) (Lk : Ll) (P : LI),k<=m/\cv = .int .i64 k/\pv = .slice ap P.length cp/\dv = .int .i64 d /\
   Hid ((Lk,P)=aC G.ops L k)/\aT wr D.heap.size a n c A Lk/\wr.ownsRow (w.heap.size+1+1+1) 3 1 (.slice ap P.length cp) P.length (P.map (Value.int .i64))/\Hid (ap ≠ none->¬ bX a A (ablk ap)) /\
   aD W0 wr (bX a R) (bX a A)/\bs G.El len Lk/\G.El d/\P.length<=n)
  (λ_ _ cv _=>m - (intOf cv).toNat)
 case atStart =>
  exact ⟨0,R,none,0,1,L,[],JU _,rfl,rfl,rfl,rfl,hO.af hbW0,cF,λh=>absurd rfl h,N9 _ _,hR,hGe,JU _⟩
 case round =>
  obtain ⟨k,A,ap,cp,d,Lk,P,hkm,rfl,rfl,rfl,hst,hOr,hop,hoi,hmv,hrw,hde,hPn⟩:=hrel
  generalize wr=V at *
  have r0:=hmv.cell q0 (hO.new (JO _))
  have r1:=hmv.cell q1 (hO.new (by simp))
  have r2:=hmv.cell q2 (hO.new (by simp;omega))
  have hmw : aD w V (bX a R) (bX a A):=(N3 hbW0 _).trans hmv
  have hLkn : Lk.length=n:=hOr.ll
  have N:=Z5 hLkn
  clear hLkn
  by_cases hk : k<m
  ·by_cases C : P.length<n
   ·have hPl' : (P.length : Int)<n:=by omega
    have hk' : (k : Int)<m:=by omega
    go_wp2_with fail
    obtain ⟨Y,hY⟩ : ∃Y : World,Y=(V.alloc (.cells #[.int .i64 P.length] 3)).alloc (.cells #[.int .i64 P.length] 3):=⟨_,rfl⟩
    rw [<- hY]
    have hbY : OC V Y:=by rw [hY];exact ((JP _ _).alloc (JO _) _).alloc (by simp) _
    have hYs : Y.heap.size=V.heap.size+2:=by rw [hY];simp
    have yt : Y.cell? ⟨V.heap.size,0,none⟩=some (.int .i64 P.length):=by rw [hY];exact br (bf _ _ _) _
    have yk : Y.cell? ⟨V.heap.size+1,0,none⟩=some (.int .i64 P.length):=by rw [hY];exact ew _ _ _ (by simp)
    have yf : Y.frozen? ⟨V.heap.size+1,0,none⟩=false:=by rw [hY];simp
    have HYs:=Z5 hYs
    have HPn:=Z5 hPn
    clear hY hYs
    go_loopw [] (λwx=>∃j : Nat,P.length<=j/\j<=n/\Hid (aZ Lk k P.length=aZ Lk k j)/\wx.cell? ⟨V.heap.size+1,0,none⟩=some (.int .i64 j)/\wx.frozen? ⟨V.heap.size+1,0,none⟩=false/\Below (V.heap.size+1) Y wx)
     (λwx=>n - (intOf ((wx.cell? ⟨V.heap.size+1,0,none⟩).getD undef)).toNat)
    case atStart=>exact ⟨P.length,JO _,hPn,rfl,yk,yf,JP _ _⟩
    case round =>
     obtain ⟨j,hj1,hj2,hfr,kx,kf,hYx⟩:=hrel
     have r : OC V wr:=hbY.trans (hYx.mono (by omega))
     have hOx:=hOr.af r
     have x0:=aB r r0
     have x1:=aB r r1
     have x2:=aB r r2
     have xt : wr.cell? ⟨V.heap.size,0,none⟩=some (.int .i64 P.length):=(hYx.cell (by simp)).trans yt
     by_cases hjn : j<n
     ·have hLj : j<Lk.length:=by rw [N.out];exact hjn
      have hrow:=hrw.row hLj
      have ci:=hOx.cell hjn
      have ri:=hOx.ints hjn
      rw [hrow.1] at ci ri
      have ck:=ri.cell k (by omega)
      have hpr:=ri.pl
      have hkl : (k : Int)<len:=by omega
      have hfs:=gZ (c:=k) hLj
      by_cases hz : nth (ai Lk j) k=0
      ·rw [JT hz] at hfs
       have hz' : (nth (ai Lk j) k == 0)=true:=by simpa using hz
       have Hf : Hid (aZ Lk k P.length=aZ Lk k (j+1)):=by show _=_;rw [hfr.out,hfs]
       clear hz hfs hrow
       go_wp2_with fail
       go_roundw
       case rel =>
        refine ⟨j+1,by omega,by omega,Hf.out,Kf _ _ _ kx,by rw [KK];exact kf,hYx.setCell (by simp) _⟩
       case measure=>rw [Kf _ _ _ kx,kx];simp [intOf] <;> omega
      ·rw [JR hz] at hfs
       have hz' : (nth (ai Lk j) k == 0)=false:=by simpa using hz
       have Hf : Hid (aZ Lk k P.length=j):=by show _=_;rw [hfr.out,hfs]
       have hjn' : ((j : Int) == n)=false:=by simp;omega
       have Hz:=Z5 hz
       clear hz
       have Hrow:=Z5 hrow
       clear hfs hrow
       have n0 : ¬ bX a A w.heap.size:=hmv.not (by have:=HsW0.out;omega) (hO.new (JO _))
       have n1 : ¬ bX a A (w.heap.size+1):=hmv.not (by have:=HsW0.out;omega) (hO.new (by omega))
       have n2 : ¬ bX a A (w.heap.size+1+1):=hmv.not (by have:=HsW0.out;omega) (hO.new (by omega))
       have nt : ¬ bX a A V.heap.size:=hOr.new (JO _)
       have nk : ¬ bX a A (V.heap.size+1):=hOr.new (by omega)
       have F : OC D wr:=hb.trans (aD.below (hmw.trans (N3 r _)) (λb' Z=>(hO.lt b' Z).1) hb.size)
       have HN:=Z5 (JZ n0 (JZ n1 (JZ n2 (JZ nt nk))))
       clear n0 n1 n2 nt nk
       go_upto_if 58 with fail
       go_cut [10] (λdv wx=>∃(d' : Int) (S : LA),dv = .int .i64 d'/\G.El d'/\aT wx D.heap.size a n c S (if j=P.length then Lk else bt Lk P.length j)/\aD wr wx (bX a A) (bX a S))
       case first =>
        by_cases hjt : j=P.length
        ·have hjt' : ((j : Int) != P.length)=false:=by simp [hjt]
         have Hm : Hid ((if j=P.length then Lk else bt Lk P.length j)=Lk):=JT hjt
         clear hjt
         go_wp2_with fail
         go_meet
         exact ⟨d,A,rfl,hde,by rw [Hm.out];exact hOx,N9 _ _⟩
        ·have hjt' : ((j : Int) != P.length)=true:=by simp;omega
         have Hm : Hid ((if j=P.length then Lk else bt Lk P.length j)=bt Lk P.length j):=JR hjt
         have hsw:=Fm D.heap.size a n c A Lk (V.heap.size+1) V.heap.size j P.length hOx kx xt hjn C hjt HN.out.2.2.2.2 HN.out.2.2.2.1
         have hea:=Dc _ _ (w.heap.size+1) (w.heap.size+1+1) a n c (λw'=>∃S,aT w' D.heap.size a n c S (bt Lk P.length j)/\aD wr w' (bX a A) (bX a S)) x1
          (hsw.mono λe w' he=>⟨he.1,by obtain ⟨_,S,h1,h2⟩:=he;exact h2.cell x2 HN.out.2.2.1,he.2⟩)
         have Hea:=Z5 hea
         clear hjt hsw hea
         go_wp2_with fail
         refine Hea.out.mono ?_
         rintro e w5 ⟨rfl,S,hO5,hM5⟩
         have z0:=hM5.cell x0 HN.out.1
         have hb5 : OC D w5:=F.trans (hM5.below (λb' Z=>(hOx.lt b' Z).1) F.size)
         go_wp2_with fail
         refine (FT d (h.af hb5) hde).mono ?_
         rintro e w6 ⟨m6,rfl,rfl⟩
         go_wp2_with fail
         go_meet
         exact ⟨_,S,rfl,cX.uX h d,by rw [Hm.out];exact hO5.af (below_drewN (JP _ _) m6),hM5.trans (N3 (below_drewN (JP _ _) m6) _)⟩
       obtain ⟨d',S,rfl,hde',hO1,K⟩:=hcut
       generalize wc=U at *
       obtain ⟨hrw1,hl1,hnz1⟩:=bs.flip (t:=P.length) hrw N.out C hjn Hz.out
       have c0:=K.cell x0 HN.out.1
       have c1:=K.cell x1 HN.out.2.1
       have c2:=K.cell x2 HN.out.2.2.1
       have ct:=K.cell xt HN.out.2.2.2.1
       have m0 : ¬ bX a S w.heap.size:=K.not (J2 wr _ x0) HN.out.1
       have m1 : ¬ bX a S (w.heap.size+1):=K.not (J2 wr _ x1) HN.out.2.1
       have m2 : ¬ bX a S (w.heap.size+1+1):=K.not (J2 wr _ x2) HN.out.2.2.1
       have mt : ¬ bX a S V.heap.size:=K.not (J2 wr _ xt) HN.out.2.2.2.1
       have hc0 : OC D U:=F.trans (K.below (λb' Z=>(hOx.lt b' Z).1) F.size)
       have HM:=Z5 (JZ m0 (JZ m1 (JZ m2 mt)))
       have HL1 : Hid (en G.ops Lk P.length j k=clearTo G.ops P.length k (bw G.ops (if j=P.length then Lk else bt Lk P.length j) P.length k) n):=by show _=_;rw [iB,N.out]
       generalize (if j=P.length then Lk else bt Lk P.length j)=B at *
       have E:=hrw1.row (i:=P.length) (by omega)
       have tr:=hO1.cell C
       have ti:=hO1.ints C
       rw [E.1] at tr ti
       have tc:=ti.cell k (by omega)
       have tp:=ti.pl
       have hkl : (k : Int)<len:=by omega
       have hel : G.El (nth (ai B P.length) k):=E.2 _ (aI (by rw [E.1];omega))
       have hG1:=h.af hc0
       have HG1 : Hid (ee U.drew b G/\(∀n,ee (U.drewN n) b G)/\∀n,ee ((U.drewN n).alloc (.cells #[.int .i64 0] 3)) b G) :=
        ⟨hG1.af (JP _ _).drew,λn=>hG1.drewN n,λn=>(hG1.drewN n).af ((JP _ _).alloc (JO _) _)⟩
       have Hnz:=Z5 hnz1
       have Hl1:=Z5 hl1
       have Hrow1:=Z5 E
       clear E hl1 hnz1 m0 m1 m2 mt x0 x1 x2 xt kx kf ci ri ck hpr r0 r1 r2 yt yk yf q0 q1 q2
       go_upto_region 15 with fail
       go_cut [10] (λdv wx=>∃d2 : Int,dv = .int .i64 d2/\G.El d2/\bm U wx)
       case first =>
        go_region_held3 (λw'=>w'.cell? ⟨w.heap.size,0,none⟩=some (.pointer (some ⟨b,0,none⟩))/\w'.cell? ⟨w.heap.size+1,0,none⟩=some (.slice a n c)/\w'.cell? ⟨V.heap.size,0,none⟩=some (.int .i64 P.length) /\
          w'.cell? ⟨ablk a,aL a+P.length,none⟩=some (.slice (aR S P.length).1 len (aR S P.length).2)/\w'.cell? ⟨ablk (aR S P.length).1,aL (aR S P.length).1+k,none⟩=some (.int .i64 (nth (ai B P.length) k)))
         (exact ⟨c0,c1,ct,tr,tc⟩)
         (first
         | (go_at_call 57;((with_reducible refine (pL d' _ HG1.out.1 hde' hel).mono ?_);rintro e w4 ⟨m4,rfl,rfl⟩)))
        all_goals (
         go_step;go_step
         go_meet
         exact ⟨_,rfl,OB h _ _,⟨_,rfl⟩⟩)
       obtain ⟨d2,rfl,hde2,m5,rfl⟩:=hcut
       have hS : ∀ W, OC U W → W.cell? ⟨w.heap.size, 0, none⟩ = some (.pointer (some ⟨b, 0, none⟩)) ∧ W.cell? ⟨w.heap.size + 1, 0, none⟩ = some (.slice a n c) ∧ W.cell? ⟨V.heap.size, 0, none⟩ = some (.int .i64 P.length) ∧
             W.cell? ⟨ablk a,aL a+P.length,none⟩=some (.slice (aR S P.length).1 len (aR S P.length).2)/\W.cell? ⟨ablk (aR S P.length).1,aL (aR S P.length).1+k,none⟩=some (.int .i64 (nth (ai B P.length) k))/\OC U W :=
        λW hW=>⟨aB hW c0,aB hW c1,aB hW ct,aB hW tr,aB hW tc,hW⟩
       have HS:=Z5 hS
       clear hS
       go_upto_region 16 with fail
       go_cut [16,17] (λiv ev wx=>∃gi,iv = .pointer (some ⟨gi,0,none⟩)/\U.heap.size<=gi/\ev = .int .i64 0/\wx.cell? ⟨gi,0,none⟩=some (.int .i64 (G.inv (nth (ai B P.length) k)))/\OC U wx)
       case first =>
        have hBU : OC U (U.drewN m5):=below_drewN (JP _ _) m5
        have hfc : ∀k,((U.drewN k).alloc (.cells #[.int .i64 0] 3)).cell? ⟨U.heap.size,0,none⟩=some (.int .i64 0):=λk=>bf (U.drewN k) _ _
        have hfc2 : ∀k k',(((U.drewN k).alloc (.cells #[.int .i64 0] 3)).drewN k').cell? ⟨U.heap.size,0,none⟩=some (.int .i64 0):=λk _=>bf (U.drewN k) _ _
        have hff2 : ∀k k',(((U.drewN k).alloc (.cells #[.int .i64 0] 3)).drewN k').frozen? ⟨U.heap.size,0,none⟩=false:=λk _=>qR (U.drewN k) _ _
        have hff : ∀k,((U.drewN k).alloc (.cells #[.int .i64 0] 3)).frozen? ⟨U.heap.size,0,none⟩=false:=λk=>qR (U.drewN k) _ _
        go_region_held3 (λW=>W.cell? ⟨w.heap.size,0,none⟩=some (.pointer (some ⟨b,0,none⟩))/\W.cell? ⟨w.heap.size+1,0,none⟩=some (.slice a n c)/\W.cell? ⟨V.heap.size,0,none⟩=some (.int .i64 P.length) /\
          W.cell? ⟨ablk a,aL a+P.length,none⟩=some (.slice (aR S P.length).1 len (aR S P.length).2)/\W.cell? ⟨ablk (aR S P.length).1,aL (aR S P.length).1+k,none⟩=some (.int .i64 (nth (ai B P.length) k))/\OC U W)
         ((refine HS.out _ ?_;first | exact hBU.drew | exact below_drewN (JP _ _) _ | exact (below_drewN (JP _ _) _).alloc (JO _) _ | exact ((below_drewN (JP _ _) _).alloc (JO _) _).setCell (JO _) _ | exact below_drewN ((below_drewN (JP _ _) _).alloc (JO _) _) _ | exact (below_drewN ((below_drewN (JP _ _) _).alloc (JO _) _) _).setCell (JO _) _))
         (first
         | (go_at_call 201;((with_reducible refine (Iq _ (HG1.out.2.1 _) hel Hnz.out).mono ?_);rintro e w4 ⟨m4,rfl,rfl⟩))
         | (go_at_call 201;((with_reducible refine (Iq _ (HG1.out.2.2 _) hel Hnz.out).mono ?_);rintro e w4 ⟨m4,rfl,rfl⟩)))
        all_goals (
         go_step;go_step
         go_meet)
        ·exact ⟨U.heap.size,rfl,JO _,rfl,Kf _ _ _ (hfc _),((below_drewN (JP _ _) _).alloc (JO _) _).setCell (JO _) _⟩
        ·exact ⟨U.heap.size,rfl,JO _,rfl,Kf _ _ _ (hfc2 _ _),(below_drewN ((below_drewN (JP _ _) _).alloc (JO _) _) _).setCell (JO _) _⟩
       obtain ⟨gi,rfl,hgi,rfl,ig,hbi⟩:=hcut
       obtain ⟨i0,i1,it,ir,ic,_⟩:=HS.out wc hbi
       have i2:=aB hbi c2
       have O:=hO1.af hbi
       have hci : OC D wc:=KE hc0 (hbi.mono hc0.size)
       have hrw2:=hrw1.norm (Oq h) (t:=P.length) (c:=k) (by rw [Hl1.out];exact C) (by omega) Hnz.out
       have hl2 : (bw G.ops B P.length k).length=n:=by rw [dr];exact Hl1.out
       have Hl2:=Z5 hl2
       clear hl2
       go_upto_if 92 with fail
       go_cut [] (λwx=>∃Q,aT wx D.heap.size a n c Q (bw G.ops B P.length k)/\aD U wx (bX a S) (bX a Q))
       case first =>
        have hv : G.ops.inv (nth (ai B P.length) k)=G.inv (nth (ai B P.length) k):=rfl
        have Hv:=Z5 hv
        clear hv
        by_cases hi1 : G.inv (nth (ai B P.length) k)=1
        ·have Hn : Hid (bw G.ops B P.length k=B):=by show _=_;rw [bw,JT (by rw [Hv.out];exact hi1)]
         have hi1' : (G.inv (nth (ai B P.length) k) != 1)=false:=by simp [hi1]
         clear hi1
         go_wp2_with fail
         go_meet
         exact ⟨S,by rw [Hn.out];exact O,N3 hbi _⟩
        ·have Hn : Hid (bw G.ops B P.length k=B.set P.length ((ai B P.length).map (G.mul (G.inv (nth (ai B P.length) k))))):=by show _=_;rw [bw,JR (by rw [Hv.out];exact hi1)];rfl
         have hi1' : (G.inv (nth (ai B P.length) k) != 1)=true:=by simpa using hi1
         have hsc:=C7 D a n c S B w.heap.size gi V.heap.size (G.inv (nth (ai B P.length) k)) P.length O h hci i0 ig it C (cX.y9 h _) (Hrow1.out.2) (by rw [Hrow1.out.1];exact hlen)
         have hea:=CS _ _ _ (w.heap.size+1) (w.heap.size+1+1) a n c (λw'=>∃Q,aT w' D.heap.size a n c Q (bw G.ops B P.length k)/\aD U w' (bX a S) (bX a Q)) i1
          (hsc.mono λe w' he=>⟨he.1,by obtain ⟨_,Q,h1,h2⟩:=he;exact h2.cell i2 HM.out.2.2.1,by obtain ⟨_,Q,h1,h2⟩:=he;exact ⟨Q,by rw [Hn.out];exact h1,(N3 hbi _).trans h2⟩⟩)
         have Hea:=Z5 hea
         clear hi1 hsc hea
         go_wp2_with fail
         refine Hea.out.mono ?_
         rintro e w5 ⟨rfl,Q,hO5,hM5⟩
         go_wp2_with fail
         go_meet
         exact ⟨Q,hO5,hM5⟩
       obtain ⟨Q,hO2,I⟩:=hcut
       generalize wc=T at *
       have t0:=I.cell c0 HM.out.1
       have t1:=I.cell c1 HM.out.2.1
       have t2:=I.cell c2 HM.out.2.2.1
       have tt:=I.cell ct HM.out.2.2.2
       have hc2 : OC D T:=hc0.trans (I.below (λb' Z=>(hO1.lt b' Z).1) hc0.size)
       have k0 : ¬ bX a Q w.heap.size:=I.not (J2 U _ c0) HM.out.1
       have k1 : ¬ bX a Q (w.heap.size+1):=I.not (J2 U _ c1) HM.out.2.1
       have k2 : ¬ bX a Q (w.heap.size+1+1):=I.not (J2 U _ c2) HM.out.2.2.1
       have k3 : ¬ bX a Q V.heap.size:=I.not (J2 U _ ct) HM.out.2.2.2
       have HK:=Z5 (JZ k0 (JZ k1 (JZ k2 k3)))
       have hmT : aD W0 T (bX a R) (bX a Q):=hmv.trans ((N3 r _).trans (K.trans I))
       have hop1:=bp hop r
       have hop2:=K.own hop1 hoi.out
       have ho2 : ap ≠ none->¬ bX a S (ablk ap):=λhn=>K.not (ba hop1 hn).2 (hoi.out hn)
       have hop3:=I.own hop2 ho2
       have ho3 : ap ≠ none->¬ bX a Q (ablk ap):=λhn=>I.not (ba hop2 hn).2 (ho2 hn)
       have Ho3:=Z5 ho3
       clear k0 k1 k2 k3 c0 c1 c2 ct tr ti tc tp i0 i1 i2 it ir ic ig hop hop1 hop2 ho2 ho3 hel
       generalize bw G.ops B P.length k=L2 at *
       go_upto_region 19 with fail
       go_wp2_with fail
       go_loopw [98] (λiv wx=>∃i : Nat,i<=n/\iv = .int .i64 i/\aT wx D.heap.size a n c Q (clearTo G.ops P.length k L2 i)/\aD T wx (bX a Q) (bX a Q)) (λiv _=>n - (intOf iv).toNat)
       case atStart=>exact ⟨0,JU _,rfl,hO2,N9 _ _⟩
       case round =>
        obtain ⟨i,hi,rfl,O,H⟩:=hrel
        generalize wr=X at *
        have x0:=H.cell t0 HK.out.1
        have x1:=H.cell t1 HK.out.2.1
        have x2:=H.cell t2 HK.out.2.2.1
        have xt:=H.cell tt HK.out.2.2.2
        have hcx : OC D X:=hc2.trans (H.below (λb' Z=>(hO2.lt b' Z).1) hc2.size)
        by_cases hin : i<n
        ·have hrwi:=Og (Oq h) hrw2 (t:=P.length) (c:=k) (by rw [Hl2.out];exact C) (by omega) i (by rw [Hl2.out];exact hi)
         have hli : (clearTo G.ops P.length k L2 i).length=n:=by rw [dq];exact Hl2.out
         have hstep : clearTo G.ops P.length k L2 (i+1)=if i=P.length then clearTo G.ops P.length k L2 i else (clearTo G.ops P.length k L2 i).set i (cH G.ops (ai (clearTo G.ops P.length k L2 i) P.length) k (ai (clearTo G.ops P.length k L2 i) i)):=rfl
         have Hstep:=Z5 hstep
         clear hstep
         generalize clearTo G.ops P.length k L2 i=z at *
         have hri:=hrwi.row (i:=i) (by omega)
         have hrt:=hrwi.row (i:=P.length) (by omega)
         have ci:=O.cell hin
         have ii:=O.ints hin
         rw [hri.1] at ci ii
         have ck:=ii.cell k (by omega)
         have hpi:=ii.pl
         have hxel : G.El (nth (ai z i) k):=hri.2 _ (aI (by rw [hri.1];omega))
         have Hri:=Z5 hri
         have Hrt:=Z5 hrt
         clear hri hrt hli
         have a1:=br x1 (.cells #[.int .i64 i] 3)
         have a2:=bf X (.int .i64 i) 3
         have a3:=br ci (.cells #[.int .i64 i] 3)
         have a4:=br ck (.cells #[.int .i64 i] 3)
         have b1:=br a1 (.cells #[.int .i64 (nth (ai z i) k)] 3)
         have b2:=br a2 (.cells #[.int .i64 (nth (ai z i) k)] 3)
         have b3:=br (br xt (.cells #[.int .i64 i] 3)) (.cells #[.int .i64 (nth (ai z i) k)] 3)
         have b4 : ((X.alloc (.cells #[.int .i64 i] 3)).alloc (.cells #[.int .i64 (nth (ai z i) k)] 3)).cell? ⟨X.heap.size+1,0,none⟩=some (.int .i64 (nth (ai z i) k)):=ew _ _ _ (by simp)
         by_cases hit : i=P.length
         ·have hit' : ((i : Int) != P.length)=false:=by simp [hit]
          have Hn : Hid (clearTo G.ops P.length k L2 (i+1)=z):=by show _=_;rw [Hstep.out,JT hit]
          clear hit
          go_wp2_with fail
          go_roundw
          case rel=>exact ⟨i+1,by omega,by go_num,by rw [Hn.out];exact O.af (((JP _ _).alloc (JO _) _).alloc (by simp) _),H.trans (N3 (((JP _ _).alloc (JO _) _).alloc (by simp) _) _)⟩
          case measure=>simp [intOf] <;> omega
         ·have hit' : ((i : Int) != P.length)=true:=by simp;omega
          by_cases F : nth (ai z i) k=0
          ·have hx0' : (nth (ai z i) k != 0)=false:=by simp [F]
           have Hn : Hid (clearTo G.ops P.length k L2 (i+1)=z):=by show _=_;rw [Hstep.out,JR hit,cH,JT F,kW]
           clear hit F
           go_wp2_with fail
           go_roundw
           case rel=>exact ⟨i+1,by omega,by go_num,by rw [Hn.out];exact O.af (((JP _ _).alloc (JO _) _).alloc (by simp) _),H.trans (N3 (((JP _ _).alloc (JO _) _).alloc (by simp) _) _)⟩
           case measure=>simp [intOf] <;> omega
          ·have hx0' : (nth (ai z i) k != 0)=true:=by simpa using F
           have Hn : Hid (clearTo G.ops P.length k L2 (i+1)=z.set i (bN G.ops (ai z i) (G.neg (nth (ai z i) k)) (ai z P.length))):=by show _=_;rw [Hstep.out,JR hit,cH,JR F];rfl
           have hbz : OC X ((X.alloc (.cells #[.int .i64 i] 3)).alloc (.cells #[.int .i64 (nth (ai z i) k)] 3)):=((JP _ _).alloc (JO _) _).alloc (by simp) _
           have zi : ((X.alloc (.cells #[.int .i64 i] 3)).alloc (.cells #[.int .i64 (nth (ai z i) k)] 3)).cell? ⟨X.heap.size,0,none⟩=some (.int .i64 i):=br (bf _ _ _) _
           have zx : ((X.alloc (.cells #[.int .i64 i] 3)).alloc (.cells #[.int .i64 (nth (ai z i) k)] 3)).cell? ⟨X.heap.size+1,0,none⟩=some (.int .i64 (nth (ai z i) k)):=ew _ _ _ (by simp)
           have hsw:=CB D a n c Q z w.heap.size X.heap.size (X.heap.size+1) V.heap.size len i (nth (ai z i) k) P.length (O.af hbz) h (hcx.trans (hbz.mono hcx.size)) (aB hbz x0) zi zx (aB hbz xt) hin C hit hxel
            HK.out.1 (O.new (JO _)) (O.new (by omega)) HK.out.2.2.2 Hri.out.2 Hrt.out.2 Hri.out.1 Hrt.out.1
           have hea:=B3 _ _ _ _ (w.heap.size+1) (w.heap.size+1+1) a n c (λw'=>aT w' D.heap.size a n c Q (clearTo G.ops P.length k L2 (i+1))/\aD T w' (bX a Q) (bX a Q)) (aB hbz x1)
            (hsw.mono λe w' he=>⟨he.1,he.2.2.cell (aB hbz x2) HK.out.2.2.1,by rw [Hn.out];exact he.2.1,H.trans ((N3 hbz _).trans he.2.2)⟩)
           have Hea:=Z5 hea
           clear hit F hsw hea zi zx hbz
           go_wp2_with fail
           refine Hea.out.mono ?_
           rintro e w5 ⟨rfl,hO5,hM5⟩
           go_wp2_with fail
           go_roundw
           case rel=>exact ⟨i+1,by omega,by go_num,hO5,hM5⟩
           case measure=>simp [intOf] <;> omega
        ·obtain rfl : i=n:=by omega
         have hopx:=H.own hop3 Ho3.out
         have hsz0 : w.heap.size+1+1+1<=X.heap.size:=by have e1:=HsW0.out;have e2:=(hmT.trans H).size;omega
         have hcn:=bf X (.int .i64 k) 3
         have hbX:=(JP X.heap.size X).alloc (JO _) (.cells #[.int .i64 k] 3)
         have hpl8:=HPn.out
         go_wp2_with (at_builtin;refine aS rfl _ _ 22 3 rfl (.int .i64 0) 8 underlying22 aV rfl (w.heap.size+1+1+1) ap P.length cp _ rfl (hopx.alloc _) ⟨X.heap.size,0,none⟩ 1 (.int .i64 k) rfl hcn rfl (by omega) (by unfold maxLen;omega) (J4 hsz0 hbX.size) ?_;intro a3 c3 w3 hown3 hgr hap3)
         go_roundw
         case rel =>
          have hnx : aC G.ops L (k+1)=(clearTo G.ops P.length k L2 i,P ++ [(k : Int)]):=by rw [dR hst.out (by rw [N.out];exact C),JR (by rw [Hf.out,N.out];omega),Hf.out,HL1.out]
          have hne : ∀b',bX a Q b'->eX ap b':=λb' Z=>by
           by_cases hn : ap=none
           ·exact .inl hn
           ·exact .inr λe=>Ho3.out hn (by rw [e];exact Z)
          have hO3 : aT w3 D.heap.size a i c Q (clearTo G.ops P.length k L2 i) :=
           (O.af hbX).bj λb' Z=>hgr.block b' ((O.af hbX).lt b' Z).2 λe=>(hne b' Z).own P.length cp e.symm
          have hb3 : Below (w.heap.size+1+1+1) X w3:=N0 (hbX.mono hsz0) (hopx.alloc _) hgr (JO _) (J4 hsz0 hbX.size)
          have hm3 : aD W0 w3 (bX a R) (bX a Q):=by have h1:=hmT.trans H;refine ⟨hb3.os.trans h1.os,hb3.tape.trans h1.tape,hb3.output.trans h1.output,J4 h1.size hb3.size,λb' Z hI=>(hb3.block b' (by rw [HsW0.out];exact Z)).trans (h1.block b' Z hI),h1.grow⟩
          have hrw3:=Og (Oq h) hrw2 (t:=P.length) (c:=k) (by rw [Hl2.out];exact C) (by omega) i (by rw [Hl2.out];exact hi)
          have ho4 : a3 ≠ none->¬ bX a Q (ablk a3):=λhn hI=>by
           rcases hap3 _ ((O.af hbX).lt _ hI).2 (hne _ hI) with h1 | h1
           ·exact hn h1
           ·exact h1 rfl
          refine ⟨k+1,Q,a3,c3,d2,clearTo G.ops P.length k L2 i,P ++ [(k : Int)],by omega,by go_num,by simp,rfl,hnx.symm,hO3,?_,ho4,hm3,hrw3,hde2,by simp;omega⟩
          simpa using hown3
         case measure=>simp [intOf] <;> omega
     ·obtain rfl : j=n:=by omega
      have Hn : Hid ((Lk,P)=aC G.ops L (k+1)):=by show _=_;rw [dR hst.out (by rw [N.out];exact C),JT (by rw [hfr.out,kM (by rw [N.out];exact JO _),N.out])]
      go_wp2_with fail
      go_roundw
      case rel =>
       have hmx : aD W0 wr (bX a R) (bX a A):=hmv.trans (N3 r _)
       exact ⟨k+1,A,ap,cp,d,Lk,P,by omega,by go_num,rfl,rfl,Hn.out,hOx,bp hop r,hoi.out,hmx,hrw,hde,HPn.out⟩
      case measure=>simp [intOf] <;> omega
   ·have hPe : P.length=n:=by omega
    have hfull : (Lk,P)=aC G.ops L m:=by rw [show m=k+(m - k) by omega,fU (by rw [<- hst.out,hPe,<- hO.ll]),<- hst.out]
    have Hfull:=Z5 hfull
    have hPe' : ((P.length : Int)<n)=False:=by simp;omega
    clear hfull hPe
    go_wp2_with fail
    go_ret2
    exact Hfin.out _ _ _ _ _ _ _ Hfull.out hOr (bd hop (by omega)) hmw
  ·obtain rfl : k=m:=by omega
   go_wp2_with fail
   go_ret2
   exact Hfin.out _ _ _ _ _ _ _ hst.out hOr (bd hop (by omega)) hmw
end
end Go.Proofs.YthglbncgemdcbaaGreat
