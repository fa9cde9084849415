import Derived.Test.YtjfiflldinnhmaaGreatHSO1
import Derived.Deep.RegionHeld3
import Derived.BigQuiet
import Derived.Deep.QuietTactic
import Derived.StillTailTactics
import Derived.Deep.DeepCutAuto
namespace Go.Proofs.YtjfiflldinnhmaaGreat
set_option linter.all false
set_option maxRecDepth 100000
set_option maxHeartbeats 800000
open Go.RowKit Go.Proofs.Tryz
theorem sW (l : LI) (i : Nat) (h : i<l.length) : l.drop i=nth l i :: l.drop (i+1):=by rw [ai h];exact FL h
theorem uI (a : OA) (n c : Nat) (l : LI) (p : Int) (w : World) (h : Ints w a n l) (hn : n<=1000)
  (hb : ∀k,0<=cO p (l.drop k) * p/\cO p (l.drop k) * p<=1000000000/\0<=nth l k/\nth l k<=1000000000) :
  Calls prog 250 #[.slice a n c,.int .i64 p] w λe w'=>e = .returned (.int .i64 (cO p l))/\w=w':=by
 have hpl:=h.pl;have HB:=Z5 hb;clear hb;go_enter func250,ntmps250;go_wp2;go_loop [5,6] (λxv iv=>∃k : Nat,k<=n/\iv = .int .i64 ((k : Int) - 1)/\xv = .int .i64 (cO p (l.drop k))) (λ_ i=>(intOf i+1).toNat);case atStart=>exact ⟨n,EF _,rfl,by rw [FY (by rw [h.len];exact EF _)];rfl⟩
 case round =>
  obtain ⟨k,hk,rfl,rfl⟩:=hrel
  by_cases hlt : 0<k
  ·obtain ⟨j,rfl⟩ : ∃j,k=j+1:=⟨k - 1,by omega⟩
   have hc:=h.cell j (by omega)
   have hjl : j<l.length:=by rw [h.len];omega
   obtain ⟨b1,b2,b3,b4⟩ : 0<=cO p (l.drop (j+1)) * p/\cO p (l.drop (j+1)) * p<=1000000000/\0<=nth l j/\nth l j<=1000000000:=⟨(HB.out (j+1)).1,(HB.out (j+1)).2.1,(HB.out j).2.2⟩
   have e1 : ((j+1 : Nat) : Int) - 1=(j : Int):=by omega
   rw [e1]
   clear e1 h hlt
   have hfin : cO p (l.drop (j+1)) * p+nth l j=cO p (l.drop j):=by rw [sW l j hjl];simp only [cO];rw [FG p,Int.add_comm]
   generalize cO p (l.drop (j+1))=X at *
   generalize nth l j=Y at *
   have Hfin:=Z5 hfin
   clear hfin
   have e1 : (0 : Int)<=j:=by omega
   have e2 : (j : Int)<n:=by omega
   go_wp2
   go_round
   case rel=>refine ⟨j,by omega,by go_num,?_⟩;rw [<- Hfin.out]
   case measure=>simp [intOf] <;> omega
  ·obtain rfl : k=0:=by omega
   go_wp2
   go_ret
   exact ⟨by simp,rfl⟩
theorem jO {a b : Int} (ha : 0<=a) (ha2 : a<=256) (hb : 0<=b) (hb2 : b<=256) : 0<=a * b/\a * b<=65536 :=
 ⟨F9 ha hb,by have:=GC ha2 hb2 hb (show (0 : Int)<=256 by omega);omega⟩
theorem Cx : (prog.info? 3).map (·.size)=some 1:=by kernel_rfl
structure nu (w : World) (P : Int) (M : Nat) (mn : Nat) (am : OA) (mod : LI) : Prop where
 p2 : 2<=P
 p256 : P<=256
 m1 : 1<=M
 m8 : M<=8
 pw : P ^ M<=256
 low : 1<M->mn=M
 ints : Ints w am mn mod
 dig : cU P mod
theorem lq (P : Int) (m : Nat) (am : OA) (mn cm : Nat) (mod : LI) (x y : Int) (w : World) (hd : nu w P m mn am mod)
  (hx : 0<=x) (hx2 : x<=1000000) (hy : 0<=y) (hy2 : y<=1000000) :
  Calls prog 201 #[.agg #[.int .i64 P,.int .i64 m,.slice am mn cm],.int .i64 x,.int .i64 y] w λe w' =>
   e = .returned (.int .i64 (cF P m mod x y))/\JA w w':=by
 obtain ⟨hp2,hp256,hm1,hm8,hpw,hlow,hmod,hdig⟩:=hd;have HPw:=Z5 hpw;clear hpw;go_enter func201,ntmps201;go_wp2_with fail;go_region_held3 (λw'=>w'.cell? ⟨w.heap.size,0,none⟩=some (.int .i64 P)/\w'.cell? ⟨w.heap.size,1,none⟩=some (.int .i64 m)/\w'.cell? ⟨w.heap.size,2,none⟩=some (.slice am mn cm)/\JA w w')
  (first | exact ⟨by simp, by simp, by simp, ((EI _ _).alloc (EF _) _).drew⟩
         | (go_split_ands;exact ⟨aj (by assumption) (by assumption),aj (by assumption) (by assumption),aj (by assumption) (by assumption),I8 (by assumption) (by assumption)⟩))
  (first | (go_at_call 249; ((with_reducible refine (k8 x P m _ (by assumption) (by omega) (by omega) (by omega)).mono ?_); rintro e w1 ⟨a1, c1, rfl, hi1, _, hb1⟩))
         | (go_at_call 249;((with_reducible refine (k8 y P m _ (by assumption) (by omega) (by omega) (by omega)).mono ?_);rintro e w2 ⟨a2,c2,rfl,hi2,_,hb2⟩)))
 obtain ⟨q0,q1,q2,hbw⟩ : w2.cell? ⟨w.heap.size,0,none⟩=some (.int .i64 P)/\w2.cell? ⟨w.heap.size,1,none⟩=some (.int .i64 m)/\w2.cell? ⟨w.heap.size,2,none⟩=some (.slice am mn cm)/\JA w w2:=by assumption
 have hi1:=hi1.aa hb2;have hmod:=hmod.below hbw (λhn=>hmod.lt hn);clear hb1 hb2;go_wp2_with (at_make;refine bZ rfl _ _ 22 3 rfl (.int .i64 0) 8 underlying22 bh rfl m rfl rfl (by omega) (by unfold maxLen;omega) ?_;intro a w3 hown hbel hge hlt;obtain ⟨g,rfl,hg,_⟩:=Cn hown (by omega);have q0':=aj hbel q0;have q1':=aj hbel q1);have hdA:=cU.bg (show 0<P by omega) m x;have hdB:=cU.bg (show 0<P by omega) m y;have Hfin : Hid (cF P m mod x y=cO P (dE P (kj m mod) (bg x P m) (bg y P m) m m)):=rfl;generalize bg x P m=A at *;generalize bg y P m=Bb at *;generalize hLow : kj m mod=low at *;have HLow:=Z5 hLow;clear hLow;go_loopw [10] (λiv wr=>∃k : Nat,k<=m/\iv = .int .i64 ((m : Int) - 1 - k) /\
   wr.heap[g]? = some (.cells ((dE P low A Bb m k).map (Value.int .i64)).toArray 3 (0,0))/\JA w2 wr)
  (λi _=>(intOf i+1).toNat)
 case atStart=>exact ⟨0,EL _,by simp,by simpa [dE] using ‹w3.heap[g]? = _›,hbel⟩
 case round =>
  obtain ⟨k,hk,rfl,hrow,hbr⟩:=hrel
  have q0r:=aj hbr q0
  have q1r:=aj hbr q1
  have q2r:=aj hbr q2
  have hi1r:=hi1.aa hbr
  have hi2r:=hi2.aa hbr
  have hlen:=fV P low A Bb m k
  have hdg:=cU.dE (show 0<P by omega) low A Bb m k
  by_cases hlt : k<m
  ·obtain ⟨i,hi⟩ : ∃i : Nat,(m : Int) - 1 - k=i:=⟨m - 1 - k,by omega⟩
   rw [hi]
   have him : (i : Int)<m:=by omega
   have hik : i=m - 1 - k:=by omega
   have Hik:=Z5 hik
   clear hi hik
   obtain ⟨c1,f1⟩:=kZ hrow (m - 1) (by omega)
   obtain ⟨c0,f0⟩:=kZ hrow 0 (by omega)
   have b1 : (1 : Int)<=m:=by omega
   have b2 : (0 : Int)<=(m : Int) - 1:=by omega
   have b3 : (m : Int) - 1<=m:=by omega
   have b5 : ((m : Int) - 1).toNat=m - 1:=by omega
   have b4 : IntKind.i64.wrap ((m : Int) - 1)=(m : Int) - 1:=EU _ (by omega)
   go_upto_region 7 with fail
   go_cut [] (λwx=>Hid (wx.heap[g]? = some (.cells (splice ((dE P low A Bb m k).map (Value.int .i64)) 1 ((dE P low A Bb m k).dropLast.map (Value.int .i64))).toArray 3 (0,0)))/\JA w2 wx)
   case first =>
    go_region_held3 (λw'=>w'.cell? ⟨w.heap.size,1,none⟩=some (.int .i64 m)) (first | go_keep | exact aj (by assumption) q1)
     ((refine step_copy_splice (by rfl) (.tmp 43) (.tmp 48) 22 22 (by rfl) 3 underlying22 Cx _ _ _ _ _ _ (by rfl) (by rfl) g 1 ((dE P low A Bb m k).map (Value.int .i64)) 3 hrow ((dE P low A Bb m k).dropLast.map (Value.int .i64)) (by simp [hlen]) (by intro h0;have h1 : m ≠ 1:=(by simp [hlen] at h0;omega);have h2 : m ≠ 0:=(by omega);exact ⟨by simp [h1,Addr.add],⟨g,0,none⟩,by simp [h2,Addr.add],rO hrow⟩) (by simp [hlen];omega) (ints_oneCell _ _) w2.heap.size w2 hbr.drew hg ?_;intro w4 hrow4 hb4))
    all_goals (go_step;go_step;go_meet;exact ⟨hrow4,hb4⟩)
   obtain ⟨hrow4,hb4⟩:=hcut
   have row4 : wc.heap[g]? = some (.cells ((nth (dE P low A Bb m k) 0 :: (dE P low A Bb m k).dropLast).map (Value.int .i64)).toArray 3 (0,0)):=by have h:=hrow4.out;rw [wI _ (by omega)] at h;exact h
   clear hrow4 b4 b5
   have hl4 : (nth (dE P low A Bb m k) 0 :: (dE P low A Bb m k).dropLast).length=m:=by simp [hlen];omega
   obtain ⟨c4,f4⟩:=kZ row4 0 (by omega)
   have row5:=kP row4 0 0
   have hb5:=hb4.setCell (p:=⟨g,0,none⟩) hg (.int .i64 0)
   rw [EN] at row5
   change (wc.setCell ⟨g,0,none⟩ (.int .i64 0)).heap[g]? = some (.cells ((shl (dE P low A Bb m k)).map (Value.int .i64)).toArray 3 (0,0)) at row5
   have hls:=vE (dE P low A Bb m k) (by omega)
   have hds:=cU.shl (show 0<P by omega) hdg
   go_wp2_with fail
   generalize wc.setCell ⟨g,0,none⟩ (.int .i64 0)=w5 at *
   have hnx : dE P low A Bb m (k+1)=ko P low A m (nth Bb i) (dE P low A Bb m k):=by rw [Hik.out];rfl
   have Hnx:=Z5 hnx
   clear hnx
   have hN:=gz P low A m (nth Bb i) (dE P low A Bb m k)
   have htop:=hdg (m - 1)
   generalize hO : dE P low A Bb m k=O at *
   generalize hS : shl O=S at *
   generalize hNN : ko P low A m (nth Bb i) O=N at *
   have HNN:=Z5 hNN
   have HS:=Z5 hS
   clear hNN hS hO
   have hi2i:=hi2r.cell i (by omega)
   have hpa1:=hi1.pl
   have hpa2:=hi2.pl
   have hpam:=hmod.pl
   go_loopw [54] (λjv wx=>∃j : Nat,j<=m/\jv = .int .i64 j/\wx.heap[g]? = some (.cells ((ei N S j).map (Value.int .i64)).toArray 3 (0,0))/\JA w2 wx)
    (λjv _=>m - (intOf jv).toNat)
   case atStart=>exact ⟨0,EL _,rfl,by rw [ew];exact row5,hb5⟩
   case round =>
    obtain ⟨j,hj,rfl,hrowj,hbj⟩:=hrel
    by_cases hjm : j<m
    ·have q0j:=aj hbj q0
     have q1j:=aj hbj q1
     have q2j:=aj hbj q2
     have ha:=(hi1.aa hbj).cell j hjm
     have hb:=(hi2.aa hbj).cell i (by omega)
     obtain ⟨cj,fj⟩:=kZ hrowj j (by rw [gD _ _ _ (by omega) (by omega)];omega)
     rw [dR _ _ _ _ (by omega) (by omega),EG (by omega)] at cj
     have d1:=hds j
     have d2:=hdA j
     have d3:=hdB i
     by_cases h1m : 1<m
     ·have hlo : nth mod j=nth low j:=by rw [<- HLow.out];simp [kj,h1m]
      have hmnm:=hlow h1m
      clear hlow
      subst hmnm
      have hcm:=(hmod.aa hbj).cell j hjm
      have dl:=hdig j
      rw [hlo] at hcm dl
      clear hlo
      go_wp2_with fail
      have e1 : (0 : Int)<=(P - nth O (mn - 1)) * nth low j/\(P - nth O (mn - 1)) * nth low j<=65536:=jO (by omega) (by omega) (by omega) (by omega)
      have e2 : (0 : Int)<=nth Bb i * nth A j/\nth Bb i * nth A j<=65536:=jO (by omega) (by omega) (by omega) (by omega)
      have hP0 : P ≠ 0:=by omega
      have r1 : IntKind.i64.wrap (P - nth O (mn - 1))=P - nth O (mn - 1):=EU _ (by omega)
      have r2 : IntKind.i64.wrap ((P - nth O (mn - 1)) * nth low j)=(P - nth O (mn - 1)) * nth low j:=EU _ (by omega)
      have r3 : IntKind.i64.wrap (nth S j+(P - nth O (mn - 1)) * nth low j)=nth S j+(P - nth O (mn - 1)) * nth low j:=EU _ (by omega)
      have r4 : IntKind.i64.wrap (nth Bb i * nth A j)=nth Bb i * nth A j:=EU _ (by omega)
      have r5 : IntKind.i64.wrap (nth S j+(P - nth O (mn - 1)) * nth low j+nth Bb i * nth A j)=nth S j+(P - nth O (mn - 1)) * nth low j+nth Bb i * nth A j:=EU _ (by omega)
      have r6 : (nth S j+(P - nth O (mn - 1)) * nth low j+nth Bb i * nth A j).tmod P=(nth S j+(P - nth O (mn - 1)) * nth low j+nth Bb i * nth A j) % P:=Fx _ _ (by omega)
      have r7 : ((nth S j+(P - nth O (mn - 1)) * nth low j+nth Bb i * nth A j) % P)=nth N j:=by rw [<- HNN.out,jT _ _ _ _ _ _ _ hjm,HS.out];rfl
      have R7:=Z5 r7
      clear r7
      go_still_tail 27,(by kernel_rfl)
      change wpList _ _ _ _ _ wr.drew
      generalize hwd : wr.drew=wd
      have fd : wd.frozen? ⟨g,j,none⟩=false:=by rw [<- hwd];exact fj
      have cd : wd.cell? ⟨g,j,none⟩=some (.int .i64 (nth S j)):=by rw [<- hwd];exact cj
      have Hwd:=Z5 hwd
      clear hwd r1 r2 r3 r4 r5 r6
      go_wp2_with fail
      go_roundw
      case rel =>
       obtain rfl:=Hwd.out
       refine ⟨j+1,by omega,by go_num,?_,hbj.drew.setCell hg _⟩
       rw [R7.out]
       have h:=kP (w:=wr.drew) hrowj j (nth N j)
       rwa [dW _ _ _ (by omega) (by omega)] at h
      case measure=>simp [intOf] <;> omega
     ·have hlo : nth low j=0:=by rw [<- HLow.out,kj,EG h1m,show j=0 from by omega];rfl
      have Hlo:=Z5 hlo
      go_wp2_with fail
      have e2 : (0 : Int)<=nth Bb i * nth A j/\nth Bb i * nth A j<=65536:=jO (by omega) (by omega) (by omega) (by omega)
      have hP0 : P ≠ 0:=by omega
      have r1 : IntKind.i64.wrap (P - nth O (m - 1))=P - nth O (m - 1):=EU _ (by omega)
      have r4 : IntKind.i64.wrap (nth Bb i * nth A j)=nth Bb i * nth A j:=EU _ (by omega)
      have r5 : IntKind.i64.wrap (nth S j+nth Bb i * nth A j)=nth S j+nth Bb i * nth A j:=EU _ (by omega)
      have r6 : (nth S j+nth Bb i * nth A j).tmod P=(nth S j+nth Bb i * nth A j) % P:=Fx _ _ (by omega)
      have r7 : ((nth S j+nth Bb i * nth A j) % P)=nth N j:=by rw [<- HNN.out,jT _ _ _ _ _ _ _ hjm,HS.out,xL,hlo,IC,Int.add_zero]
      have R7:=Z5 r7
      clear r7 hlo
      go_still_tail 27,(by kernel_rfl)
      change wpList _ _ _ _ _ wr.drew
      generalize hwd : wr.drew=wd
      have fd : wd.frozen? ⟨g,j,none⟩=false:=by rw [<- hwd];exact fj
      have cd : wd.cell? ⟨g,j,none⟩=some (.int .i64 (nth S j)):=by rw [<- hwd];exact cj
      have Hwd:=Z5 hwd
      clear hwd r1 r4 r5 r6
      go_wp2_with fail
      go_roundw
      case rel =>
       obtain rfl:=Hwd.out
       refine ⟨j+1,by omega,by go_num,?_,hbj.drew.setCell hg _⟩
       rw [R7.out]
       have h:=kP (w:=wr.drew) hrowj j (nth N j)
       rwa [dW _ _ _ (by omega) (by omega)] at h
      case measure=>simp [intOf] <;> omega
    ·obtain rfl : j=m:=by omega
     rw [fb _ _ _ hN (by omega),<- Hnx.out] at hrowj
     go_wp2_with fail
     go_roundw
     case rel=>exact ⟨k+1,by omega,by have:=Hik.out;go_num,hrowj,hbj⟩
     case measure=>simp [intOf] <;> omega
  ·obtain rfl : k=m:=by omega
   have hrg : Ints wr (some ⟨g,0,none⟩) k (dE P low A Bb k k) :=
    (I9 (we (B:=0) (EL _) hrow (by simp [hlen]) (by unfold maxLen;omega))).1
   have hfin : cO P (dE P low A Bb k k)=cF P k mod x y:=Hfin.symm
   go_wp2_with fail
   refine (uI _ _ _ _ P _ hrg (by omega) (λj=>?_)).mono ?_
   ·have h1:=cU.xm (show 0<P by omega) hdg hlen HPw.out j
    have h2:=hdg j
    have h3:=F9 h1.1 (show 0<=P by omega)
    have h4 : cO P ((dE P low A Bb k k).drop j) * P<=256 * 256:=GC (by omega) hp256 (by omega) (by omega)
    omega
   rintro e w5 ⟨rfl,rfl⟩
   rw [hfin]
   clear hfin
   go_wp2
   go_ret
   exact ⟨rfl,I8 hbw hbr⟩
end Go.Proofs.YtjfiflldinnhmaaGreat
