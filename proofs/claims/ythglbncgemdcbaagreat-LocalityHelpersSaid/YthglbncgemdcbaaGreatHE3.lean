import Derived.Test.YthglbncgemdcbaaGreatHE1
import Derived.Deep.RegionHeld3
import Derived.BigQuiet
import Derived.Deep.QuietTactic
import Derived.StillTailTactics
import Derived.Deep.DeepCutAuto
namespace Go.Proofs.YthglbncgemdcbaaGreat
set_option linter.all false
set_option maxRecDepth 100000
set_option maxHeartbeats 800000
open Go.RowKit Go.Proofs.Tryz
theorem vl (l : LI) (i : Nat) (h : i<l.length) : l.drop i=nth l i :: l.drop (i+1):=by rw [aj h];exact IJ h
theorem wk (a : OA) (n c : Nat) (l : LI) (p : Int) (w : World) (h : Ints w a n l) (hn : n<=1000)
  (hb : ∀k,0<=valu p (l.drop k) * p/\valu p (l.drop k) * p<=1000000000/\0<=nth l k/\nth l k<=1000000000) :
  Calls prog 215 #[.slice a n c,.int .i64 p] w λe w'=>e = .returned (.int .i64 (valu p l))/\w=w':=by
 have hpl:=h.pl;have HB:=Z5 hb;clear hb;go_enter func215,ntmps215;go_wp2;go_loop [5,6] (λxv iv=>∃k : Nat,k<=n/\iv = .int .i64 ((k : Int) - 1)/\xv = .int .i64 (valu p (l.drop k))) (λ_ i=>(intOf i+1).toNat);case atStart=>exact ⟨n,GQ _,rfl,by rw [IQ (by rw [h.len];exact GQ _)];rfl⟩
 case round =>
  obtain ⟨k,hk,rfl,rfl⟩:=hrel
  by_cases hlt : 0<k
  ·obtain ⟨j,rfl⟩ : ∃j,k=j+1:=⟨k - 1,by omega⟩
   have hc:=h.cell j (by omega)
   have hjl : j<l.length:=by rw [h.len];omega
   obtain ⟨b1,b2,b3,b4⟩ : 0<=valu p (l.drop (j+1)) * p/\valu p (l.drop (j+1)) * p<=1000000000/\0<=nth l j/\nth l j<=1000000000:=⟨(HB.out (j+1)).1,(HB.out (j+1)).2.1,(HB.out j).2.2⟩
   have e1 : ((j+1 : Nat) : Int) - 1=(j : Int):=by omega
   rw [e1]
   clear e1 h hlt
   have hfin : valu p (l.drop (j+1)) * p+nth l j=valu p (l.drop j):=by rw [vl l j hjl];simp only [valu];rw [I3 p,Int.add_comm]
   generalize valu p (l.drop (j+1))=X at *
   generalize nth l j=Y at *
   have Hfin:=Z5 hfin
   clear hfin
   have e1 : (0 : Int)<=j:=by omega
   have e2 : (j : Int)<n:=by omega
   go_wp2
   go_round
   case rel=>refine ⟨j,by omega,by go_num,?_⟩;rw [<- Hfin.out]
   case measure=>simp [intOf] <;> omega
  ·obtain rfl : k=0:=by omega
   go_wp2
   go_ret
   exact ⟨by simp,rfl⟩
theorem j9 {a b : Int} (ha : 0<=a) (ha2 : a<=256) (hb : 0<=b) (hb2 : b<=256) : 0<=a * b/\a * b<=65536 :=
 ⟨JB ha hb,by have:=JF ha2 hb2 hb (show (0 : Int)<=256 by omega);omega⟩
theorem EE : (prog.info? 3).map (·.size)=some 1:=by kernel_rfl
structure oy (w : World) (P : Int) (M : Nat) (mn : Nat) (am : OA) (mod : LI) : Prop where
 p2 : 2<=P
 p256 : P<=256
 m1 : 1<=M
 m8 : M<=8
 pw : P ^ M<=256
 low : 1<M->mn=M
 ints : Ints w am mn mod
 dig : dg P mod
theorem mQ (P : Int) (m : Nat) (am : OA) (mn cm : Nat) (mod : LI) (x y : Int) (w : World) (hd : oy w P m mn am mod)
  (hx : 0<=x) (hx2 : x<=1000000) (hy : 0<=y) (hy2 : y<=1000000) :
  Calls prog 165 #[.agg #[.int .i64 P,.int .i64 m,.slice am mn cm],.int .i64 x,.int .i64 y] w λe w' =>
   e = .returned (.int .i64 (cI P m mod x y))/\Mv w w':=by
 obtain ⟨hp2,hp256,hm1,hm8,hpw,hlow,hmod,hdig⟩:=hd;have HPw:=Z5 hpw;clear hpw;go_enter func165,ntmps165;go_wp2_with fail;go_region_held3 (λw'=>w'.cell? ⟨w.heap.size,0,none⟩=some (.int .i64 P)/\w'.cell? ⟨w.heap.size,1,none⟩=some (.int .i64 m)/\w'.cell? ⟨w.heap.size,2,none⟩=some (.slice am mn cm)/\Mv w w')
  (first | exact ⟨by simp, by simp, by simp, ((GS _ _).alloc (GQ _) _).drew⟩
         | (go_split_ands;exact ⟨ak (by assumption) (by assumption),ak (by assumption) (by assumption),ak (by assumption) (by assumption),LY (by assumption) (by assumption)⟩))
  (first | (go_at_call 214; ((with_reducible refine (mw x P m _ (by assumption) (by omega) (by omega) (by omega)).mono ?_); rintro e w1 ⟨a1, c1, rfl, hi1, _, hb1⟩))
         | (go_at_call 214;((with_reducible refine (mw y P m _ (by assumption) (by omega) (by omega) (by omega)).mono ?_);rintro e w2 ⟨a2,c2,rfl,hi2,_,hb2⟩)))
 obtain ⟨q0,q1,q2,hbw⟩ : w2.cell? ⟨w.heap.size,0,none⟩=some (.int .i64 P)/\w2.cell? ⟨w.heap.size,1,none⟩=some (.int .i64 m)/\w2.cell? ⟨w.heap.size,2,none⟩=some (.slice am mn cm)/\Mv w w2:=by assumption
 have hi1:=hi1.af hb2;have hmod:=hmod.below hbw (λhn=>hmod.lt hn);clear hb1 hb2;go_wp2_with (at_make;refine bP rfl _ _ 22 3 rfl (.int .i64 0) 8 underlying22 bg rfl m rfl rfl (by omega) (by unfold maxLen;omega) ?_;intro a w3 hown hbel hge hlt;obtain ⟨g,rfl,hg,_⟩:=D5 hown (by omega);have q0':=ak hbel q0;have q1':=ak hbel q1);have hdA:=Mq (show 0<P by omega) m x;have hdB:=Mq (show 0<P by omega) m y;have Hfin : Hid (cI P m mod x y=valu P (dY P (kY m mod) (digs x P m) (digs y P m) m m)):=rfl;generalize digs x P m=A at *;generalize digs y P m=Bb at *;generalize hLow : kY m mod=low at *;have HLow:=Z5 hLow;clear hLow;go_loopw [10] (λiv wr=>∃k : Nat,k<=m/\iv = .int .i64 ((m : Int) - 1 - k) /\
   wr.heap[g]? = some (.cells ((dY P low A Bb m k).map (Value.int .i64)).toArray 3 (0,0))/\Mv w2 wr)
  (λi _=>(intOf i+1).toNat)
 case atStart=>exact ⟨0,G0 _,by simp,by simpa [dY] using ‹w3.heap[g]? = _›,hbel⟩
 case round =>
  obtain ⟨k,hk,rfl,hrow,hbr⟩:=hrel
  have q0r:=ak hbr q0
  have q1r:=ak hbr q1
  have q2r:=ak hbr q2
  have hi1r:=hi1.af hbr
  have hi2r:=hi2.af hbr
  have hlen:=gn P low A Bb m k
  have hdg:=dg.dY (show 0<P by omega) low A Bb m k
  by_cases hlt : k<m
  ·obtain ⟨i,hi⟩ : ∃i : Nat,(m : Int) - 1 - k=i:=⟨m - 1 - k,by omega⟩
   rw [hi]
   have him : (i : Int)<m:=by omega
   have hik : i=m - 1 - k:=by omega
   have Hik:=Z5 hik
   clear hi hik
   obtain ⟨c1,f1⟩:=mB hrow (m - 1) (by omega)
   obtain ⟨c0,f0⟩:=mB hrow 0 (by omega)
   have b1 : (1 : Int)<=m:=by omega
   have b2 : (0 : Int)<=(m : Int) - 1:=by omega
   have b3 : (m : Int) - 1<=m:=by omega
   have b5 : ((m : Int) - 1).toNat=m - 1:=by omega
   have b4 : IntKind.i64.wrap ((m : Int) - 1)=(m : Int) - 1:=Ha _ (by omega)
   go_upto_region 7 with fail
   go_cut [] (λwx=>Hid (wx.heap[g]? = some (.cells (splice ((dY P low A Bb m k).map (Value.int .i64)) 1 ((dY P low A Bb m k).dropLast.map (Value.int .i64))).toArray 3 (0,0)))/\Mv w2 wx)
   case first =>
    go_region_held3 (λw'=>w'.cell? ⟨w.heap.size,1,none⟩=some (.int .i64 m)) (first | go_keep | exact ak (by assumption) q1)
     ((refine step_copy_splice (by rfl) (.tmp 43) (.tmp 48) 22 22 (by rfl) 3 underlying22 EE _ _ _ _ _ _ (by rfl) (by rfl) g 1 ((dY P low A Bb m k).map (Value.int .i64)) 3 hrow ((dY P low A Bb m k).dropLast.map (Value.int .i64)) (by simp [hlen]) (by intro h0;have h1 : m ≠ 1:=(by simp [hlen] at h0;omega);have h2 : m ≠ 0:=(by omega);exact ⟨by simp [h1,Addr.add],⟨g,0,none⟩,by simp [h2,Addr.add],tN hrow⟩) (by simp [hlen];omega) (ints_oneCell _ _) w2.heap.size w2 hbr.drew hg ?_;intro w4 hrow4 hb4))
    all_goals (go_step;go_step;go_meet;exact ⟨hrow4,hb4⟩)
   obtain ⟨hrow4,hb4⟩:=hcut
   have row4 : wc.heap[g]? = some (.cells ((nth (dY P low A Bb m k) 0 :: (dY P low A Bb m k).dropLast).map (Value.int .i64)).toArray 3 (0,0)):=by have h:=hrow4.out;rw [yM _ (by omega)] at h;exact h
   clear hrow4 b4 b5
   have hl4 : (nth (dY P low A Bb m k) 0 :: (dY P low A Bb m k).dropLast).length=m:=by simp [hlen];omega
   obtain ⟨c4,f4⟩:=mB row4 0 (by omega)
   have row5:=lA row4 0 0
   have hb5:=hb4.setCell (p:=⟨g,0,none⟩) hg (.int .i64 0)
   rw [GX] at row5
   change (wc.setCell ⟨g,0,none⟩ (.int .i64 0)).heap[g]? = some (.cells ((shl (dY P low A Bb m k)).map (Value.int .i64)).toArray 3 (0,0)) at row5
   have hls:=yC (dY P low A Bb m k) (by omega)
   have hds:=dg.shl (show 0<P by omega) hdg
   go_wp2_with fail
   generalize wc.setCell ⟨g,0,none⟩ (.int .i64 0)=w5 at *
   have hnx : dY P low A Bb m (k+1)=lr P low A m (nth Bb i) (dY P low A Bb m k):=by rw [Hik.out];rfl
   have Hnx:=Z5 hnx
   clear hnx
   have hN:=gN P low A m (nth Bb i) (dY P low A Bb m k)
   have htop:=hdg (m - 1)
   generalize hO : dY P low A Bb m k=O at *
   generalize hS : shl O=S at *
   generalize hNN : lr P low A m (nth Bb i) O=N at *
   have HNN:=Z5 hNN
   have HS:=Z5 hS
   clear hNN hS hO
   have hi2i:=hi2r.cell i (by omega)
   have hpa1:=hi1.pl
   have hpa2:=hi2.pl
   have hpam:=hmod.pl
   go_loopw [54] (λjv wx=>∃j : Nat,j<=m/\jv = .int .i64 j/\wx.heap[g]? = some (.cells ((fD N S j).map (Value.int .i64)).toArray 3 (0,0))/\Mv w2 wx)
    (λjv _=>m - (intOf jv).toNat)
   case atStart=>exact ⟨0,G0 _,rfl,by rw [eJ];exact row5,hb5⟩
   case round =>
    obtain ⟨j,hj,rfl,hrowj,hbj⟩:=hrel
    by_cases hjm : j<m
    ·have q0j:=ak hbj q0
     have q1j:=ak hbj q1
     have q2j:=ak hbj q2
     have ha:=(hi1.af hbj).cell j hjm
     have hb:=(hi2.af hbj).cell i (by omega)
     obtain ⟨cj,fj⟩:=mB hrowj j (by rw [gL _ _ _ (by omega) (by omega)];omega)
     rw [dU _ _ _ _ (by omega) (by omega),GU (by omega)] at cj
     have d1:=hds j
     have d2:=hdA j
     have d3:=hdB i
     by_cases h1m : 1<m
     ·have hlo : nth mod j=nth low j:=by rw [<- HLow.out];simp [kY,h1m]
      have hmnm:=hlow h1m
      clear hlow
      subst hmnm
      have hcm:=(hmod.af hbj).cell j hjm
      have dl:=hdig j
      rw [hlo] at hcm dl
      clear hlo
      go_wp2_with fail
      have e1 : (0 : Int)<=(P - nth O (mn - 1)) * nth low j/\(P - nth O (mn - 1)) * nth low j<=65536:=j9 (by omega) (by omega) (by omega) (by omega)
      have e2 : (0 : Int)<=nth Bb i * nth A j/\nth Bb i * nth A j<=65536:=j9 (by omega) (by omega) (by omega) (by omega)
      have hP0 : P ≠ 0:=by omega
      have r1 : IntKind.i64.wrap (P - nth O (mn - 1))=P - nth O (mn - 1):=Ha _ (by omega)
      have r2 : IntKind.i64.wrap ((P - nth O (mn - 1)) * nth low j)=(P - nth O (mn - 1)) * nth low j:=Ha _ (by omega)
      have r3 : IntKind.i64.wrap (nth S j+(P - nth O (mn - 1)) * nth low j)=nth S j+(P - nth O (mn - 1)) * nth low j:=Ha _ (by omega)
      have r4 : IntKind.i64.wrap (nth Bb i * nth A j)=nth Bb i * nth A j:=Ha _ (by omega)
      have r5 : IntKind.i64.wrap (nth S j+(P - nth O (mn - 1)) * nth low j+nth Bb i * nth A j)=nth S j+(P - nth O (mn - 1)) * nth low j+nth Bb i * nth A j:=Ha _ (by omega)
      have r6 : (nth S j+(P - nth O (mn - 1)) * nth low j+nth Bb i * nth A j).tmod P=(nth S j+(P - nth O (mn - 1)) * nth low j+nth Bb i * nth A j) % P:=IP _ _ (by omega)
      have r7 : ((nth S j+(P - nth O (mn - 1)) * nth low j+nth Bb i * nth A j) % P)=nth N j:=by rw [<- HNN.out,kW _ _ _ _ _ _ _ hjm,HS.out];rfl
      have R7:=Z5 r7
      clear r7
      go_still_tail 27,(by kernel_rfl)
      change wpList _ _ _ _ _ wr.drew
      generalize hwd : wr.drew=wd
      have fd : wd.frozen? ⟨g,j,none⟩=false:=by rw [<- hwd];exact fj
      have cd : wd.cell? ⟨g,j,none⟩=some (.int .i64 (nth S j)):=by rw [<- hwd];exact cj
      have Hwd:=Z5 hwd
      clear hwd r1 r2 r3 r4 r5 r6
      go_wp2_with fail
      go_roundw
      case rel =>
       obtain rfl:=Hwd.out
       refine ⟨j+1,by omega,by go_num,?_,hbj.drew.setCell hg _⟩
       rw [R7.out]
       have h:=lA (w:=wr.drew) hrowj j (nth N j)
       rwa [eC _ _ _ (by omega) (by omega)] at h
      case measure=>simp [intOf] <;> omega
     ·have hlo : nth low j=0:=by rw [<- HLow.out,kY,GU h1m,show j=0 from by omega];rfl
      have Hlo:=Z5 hlo
      go_wp2_with fail
      have e2 : (0 : Int)<=nth Bb i * nth A j/\nth Bb i * nth A j<=65536:=j9 (by omega) (by omega) (by omega) (by omega)
      have hP0 : P ≠ 0:=by omega
      have r1 : IntKind.i64.wrap (P - nth O (m - 1))=P - nth O (m - 1):=Ha _ (by omega)
      have r4 : IntKind.i64.wrap (nth Bb i * nth A j)=nth Bb i * nth A j:=Ha _ (by omega)
      have r5 : IntKind.i64.wrap (nth S j+nth Bb i * nth A j)=nth S j+nth Bb i * nth A j:=Ha _ (by omega)
      have r6 : (nth S j+nth Bb i * nth A j).tmod P=(nth S j+nth Bb i * nth A j) % P:=IP _ _ (by omega)
      have r7 : ((nth S j+nth Bb i * nth A j) % P)=nth N j:=by rw [<- HNN.out,kW _ _ _ _ _ _ _ hjm,HS.out,zU,hlo,Lv,Int.add_zero]
      have R7:=Z5 r7
      clear r7 hlo
      go_still_tail 27,(by kernel_rfl)
      change wpList _ _ _ _ _ wr.drew
      generalize hwd : wr.drew=wd
      have fd : wd.frozen? ⟨g,j,none⟩=false:=by rw [<- hwd];exact fj
      have cd : wd.cell? ⟨g,j,none⟩=some (.int .i64 (nth S j)):=by rw [<- hwd];exact cj
      have Hwd:=Z5 hwd
      clear hwd r1 r4 r5 r6
      go_wp2_with fail
      go_roundw
      case rel =>
       obtain rfl:=Hwd.out
       refine ⟨j+1,by omega,by go_num,?_,hbj.drew.setCell hg _⟩
       rw [R7.out]
       have h:=lA (w:=wr.drew) hrowj j (nth N j)
       rwa [eC _ _ _ (by omega) (by omega)] at h
      case measure=>simp [intOf] <;> omega
    ·obtain rfl : j=m:=by omega
     rw [fG _ _ _ hN (by omega),<- Hnx.out] at hrowj
     go_wp2_with fail
     go_roundw
     case rel=>exact ⟨k+1,by omega,by have:=Hik.out;go_num,hrowj,hbj⟩
     case measure=>simp [intOf] <;> omega
  ·obtain rfl : k=m:=by omega
   have hrg : Ints wr (some ⟨g,0,none⟩) k (dY P low A Bb k k) :=
    (L0 (xF (B:=0) (G0 _) hrow (by simp [hlen]) (by unfold maxLen;omega))).1
   have hfin : valu P (dY P low A Bb k k)=cI P k mod x y:=Hfin.symm
   go_wp2_with fail
   refine (wk _ _ _ _ P _ hrg (by omega) (λj=>?_)).mono ?_
   ·have h1:=dg.zl (show 0<P by omega) hdg hlen HPw.out j
    have h2:=hdg j
    have h3:=JB h1.1 (show 0<=P by omega)
    have h4 : valu P ((dY P low A Bb k k).drop j) * P<=256 * 256:=JF (by omega) hp256 (by omega) (by omega)
    omega
   rintro e w5 ⟨rfl,rfl⟩
   rw [hfin]
   clear hfin
   go_wp2
   go_ret
   exact ⟨rfl,LY hbw hbr⟩
end Go.Proofs.YthglbncgemdcbaaGreat
