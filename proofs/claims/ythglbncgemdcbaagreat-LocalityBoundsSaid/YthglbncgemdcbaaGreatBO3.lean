import Derived.Test.YthglbncgemdcbaaGreatBO1
import Derived.Deep.RegionHeld3
import Derived.BigQuiet
import Derived.Deep.QuietTactic
import Derived.StillTailTactics
import Derived.Deep.DeepCutAuto
namespace Go.Proofs.YthglbncgemdcbaaGreat
set_option linter.all false
set_option maxRecDepth 100000
set_option maxHeartbeats 800000
open Go.RowKit Go.Proofs.Tryz
theorem AB (l:Lz) (i:Nat) (h:i<l.length):l.drop i=nth l i :: l.drop (i+1):=by rw [an h];exact NX h
theorem za (a:OA) (n c:Nat) (l:Lz) (p:Int) (w:ej) (h:Ints w a n l) (K:n<=1000)
  (hb:∀k,0<=valu p (l.drop k) * p/\valu p (l.drop k) * p<=1000000000/\0<=nth l k/\nth l k<=1000000000) :
  Calls prog 215 #[.slice a n c,cG p] w λe w'=>e = .returned (cG (valu p l))/\w=w':=by
 have O:=h.pl;have U:=Z5 hb;clear hb;go_enter func215,ntmps215;go_wp2;go_loop [5,6] (λN L=>∃k:Nat,k<=n/\L = cG ((k:Int) - 1)/\N = cG (valu p (l.drop k))) (λ_ i=>(intOf i+1).toNat);case atStart=>exact ⟨n,M4 _,rfl,by rw [Ob (by rw [h.len];exact M4 _)];rfl⟩
 case round =>
  obtain ⟨k,C,rfl,rfl⟩:=hrel
  by_cases Q:0<k
  ·obtain ⟨j,rfl⟩:∃j,k=j+1:=⟨k - 1,by omega⟩
   have D:=h.cell j (by omega)
   have S:j<l.length:=by rw [h.len];omega
   obtain ⟨F,G,E,I⟩:0<=valu p (l.drop (j+1)) * p/\valu p (l.drop (j+1)) * p<=1000000000/\0<=nth l j/\nth l j<=1000000000:=⟨(U (j+1)).1,(U (j+1)).2.1,(U j).2.2⟩
   have e1:((j+1:Nat):Int) - 1=(j:Int):=by omega
   rw [e1]
   clear e1 h Q
   have Z:valu p (l.drop (j+1)) * p+nth l j=valu p (l.drop j):=by rw [AB l j S];simp only [valu];rw [OE p,Int.add_comm]
   generalize valu p (l.drop (j+1))=X at *
   generalize nth l j=Y at *
   have V:=Z5 Z
   clear Z
   have e1:(0:Int)<=j:=by omega
   have H:(j:Int)<n:=by omega
   go_wp2
   go_round
   case rel=>refine ⟨j,by omega,by go_num,?_⟩;rw [<- V.out]
   case measure=>simp [intOf]<;>omega
  ·obtain rfl:k=0:=by omega
   go_wp2
   go_ret
   exact ⟨by simp,rfl⟩
theorem lW {a b:Int} (ha:0<=a) (Y:a<=256) (hb:0<=b) (Z:b<=256):0<=a * b/\a * b<=65536 :=
 ⟨OZ ha hb,by have:=Ow Y Z hb (show (0:Int)<=256 by omega);omega⟩
theorem KW:(prog.info? 3).map (·.size)=some 1:=by kernel_rfl
structure qY (w:ej) (P:Int) (M:Nat) (mn:Nat) (am:OA) (mod:Lz):Prop where
 p2:2<=P
 p256:P<=256
 m1:1<=M
 m8:M<=8
 pw:P ^ M<=256
 low:1<M->mn=M
 ints:Ints w am mn mod
 dig:dL P mod
theorem og (P:Int) (m:Nat) (am:OA) (K cm:Nat) (mod:Lz) (x y:Int) (w:ej) (hd:qY w P m K am mod)
  (hx:0<=x) (hx2:x<=1000000) (hy:0<=y) (hy2:y<=1000000) :
  Calls prog 165 #[.agg #[cG P,cG m,.slice am K cm],cG x,cG y] w λe w' =>
   e = .returned (cG (dp P m mod x y))/\SJ w w':=by
 obtain ⟨hp2,hp256,hm1,hm8,hpw,hlow,Q,hdig⟩:=hd;have HPw:=Z5 hpw;clear hpw;go_enter func165,ntmps165;go_wp2_with fail;go_region_held3 (λw'=>w'.cell? ⟨w.heap.size,0,none⟩=some (cG P)/\w'.cell? ⟨w.heap.size,1,none⟩=some (cG m)/\w'.cell? ⟨w.heap.size,2,none⟩=some (.slice am K cm)/\SJ w w')
  (first | exact ⟨by simp, by simp, by simp, ((M5 _ _).alloc (M4 _) _).drew⟩
         | (go_split_ands;exact ⟨aC (by assumption) (by assumption),aC (by assumption) (by assumption),aC (by assumption) (by assumption),RU (by assumption) (by assumption)⟩))
  (first | (go_at_call 214; ((with_reducible refine (pd x P m _ (by assumption) (by omega) (by omega) (by omega)).mono ?_); rintro e w1 ⟨a1, c1, rfl, F, _, hb1⟩))
         | (go_at_call 214;((with_reducible refine (pd y P m _ (by assumption) (by omega) (by omega) (by omega)).mono ?_);rintro e C ⟨a2,c2,rfl,hi2,_,hb2⟩)))
 obtain ⟨q0,q1,q2,hbw⟩:C.cell? ⟨w.heap.size,0,none⟩=some (cG P)/\C.cell? ⟨w.heap.size,1,none⟩=some (cG m)/\C.cell? ⟨w.heap.size,2,none⟩=some (.slice am K cm)/\SJ w C:=by assumption
 have F:=F.ai hb2;have Q:=Q.below hbw (λhn=>Q.lt hn);clear hb1 hb2;go_wp2_with (at_make;refine bR rfl _ _ 22 3 rfl (cG 0) 8 underlying22 br rfl m rfl rfl (by omega) (by unfold maxLen;omega) ?_;intro a w3 hown E hge hlt;obtain ⟨g,rfl,hg,_⟩:=JP hown (by omega);have q0':=aC E q0;have q1':=aC E q1);have hdA:=Sz (show 0<P by omega) m x;have hdB:=Sz (show 0<P by omega) m y;have Hfin:Hid (dp P m mod x y=valu P (eH P (mU m mod) (digs x P m) (digs y P m) m m)):=rfl;generalize digs x P m=A at *;generalize digs y P m=Z at *;generalize r:mU m mod=low at *;have HLow:=Z5 r;clear r;go_loopw [10] (λiv wr=>∃k:Nat,k<=m/\iv = cG ((m:Int) - 1 - k) /\
   wr.heap[g]? = some (.cells ((eH P low A Z m k).map (Value.int .i64)).toArray 3 (0,0))/\SJ C wr)
  (λi _=>(intOf i+1).toNat)
 case atStart=>exact ⟨0,Nb _,by simp,by simpa [eH] using ‹w3.heap[g]? = _›,E⟩
 case round =>
  obtain ⟨k,hk,rfl,L,I⟩:=hrel
  have q0r:=aC I q0
  have q1r:=aC I q1
  have q2r:=aC I q2
  have hi1r:=F.ai I
  have hi2r:=hi2.ai I
  have hlen:=iF P low A Z m k
  have z:=dL.eH (show 0<P by omega) low A Z m k
  by_cases hlt:k<m
  ·obtain ⟨i,hi⟩:∃i:Nat,(m:Int) - 1 - k=i:=⟨m - 1 - k,by omega⟩
   rw [hi]
   have him:(i:Int)<m:=by omega
   have hik:i=m - 1 - k:=by omega
   have Hik:=Z5 hik
   clear hi hik
   obtain ⟨c1,f1⟩:=oX L (m - 1) (by omega)
   obtain ⟨c0,f0⟩:=oX L 0 (by omega)
   have b1:(1:Int)<=m:=by omega
   have b2:(0:Int)<=(m:Int) - 1:=by omega
   have b3:(m:Int) - 1<=m:=by omega
   have b5:((m:Int) - 1).toNat=m - 1:=by omega
   have b4:IntKind.i64.wrap ((m:Int) - 1)=(m:Int) - 1:=Nn _ (by omega)
   go_upto_region 7 with fail
   go_cut [] (λwx=>Hid (wx.heap[g]? = some (.cells (splice ((eH P low A Z m k).map (Value.int .i64)) 1 ((eH P low A Z m k).dropLast.map (Value.int .i64))).toArray 3 (0,0)))/\SJ C wx)
   case first =>
    go_region_held3 (λw'=>w'.cell? ⟨w.heap.size,1,none⟩=some (cG m)) (first|go_keep|exact aC (by assumption) q1)
     ((refine step_copy_splice (by rfl) (.tmp 43) (.tmp 48) 22 22 (by rfl) 3 underlying22 KW _ _ _ _ _ _ (by rfl) (by rfl) g 1 ((eH P low A Z m k).map (Value.int .i64)) 3 L ((eH P low A Z m k).dropLast.map (Value.int .i64)) (by simp [hlen]) (by intro h0;have h1:m ≠ 1:=(by simp [hlen] at h0;omega);have h2:m ≠ 0:=(by omega);exact ⟨by simp [h1,Addr.add],⟨g,0,none⟩,by simp [h2,Addr.add],xo L⟩) (by simp [hlen];omega) (ints_oneCell _ _) C.heap.size C I.drew hg ?_;intro w4 V hb4))
    all_goals (go_step;go_step;go_meet;exact ⟨V,hb4⟩)
   obtain ⟨V,hb4⟩:=hcut
   have row4:wc.heap[g]? = some (.cells ((nth (eH P low A Z m k) 0 :: (eH P low A Z m k).dropLast).map (Value.int .i64)).toArray 3 (0,0)):=by have h:=V.out;rw [CC _ (by omega)] at h;exact h
   clear V b4 b5
   have hl4:(nth (eH P low A Z m k) 0 :: (eH P low A Z m k).dropLast).length=m:=by simp [hlen];omega
   obtain ⟨c4,f4⟩:=oX row4 0 (by omega)
   have G:=nB row4 0 0
   have hb5:=hb4.setCell (p:=⟨g,0,none⟩) hg (cG 0)
   rw [Nc] at G
   change (wc.setCell ⟨g,0,none⟩ (cG 0)).heap[g]? = some (.cells ((shl (eH P low A Z m k)).map (Value.int .i64)).toArray 3 (0,0)) at G
   have hls:=BQ (eH P low A Z m k) (by omega)
   have hds:=dL.shl (show 0<P by omega) z
   go_wp2_with fail
   generalize wc.setCell ⟨g,0,none⟩ (cG 0)=w5 at *
   have hnx:eH P low A Z m (k+1)=nh P low A m (nth Z i) (eH P low A Z m k):=by rw [Hik.out];rfl
   have Hnx:=Z5 hnx
   clear hnx
   have hN:=je P low A m (nth Z i) (eH P low A Z m k)
   have htop:=z (m - 1)
   generalize hO:eH P low A Z m k=O at *
   generalize hS:shl O=S at *
   generalize hNN:nh P low A m (nth Z i) O=N at *
   have HNN:=Z5 hNN
   have HS:=Z5 hS
   clear hNN hS hO
   have hi2i:=hi2r.cell i (by omega)
   have hpa1:=F.pl
   have hpa2:=hi2.pl
   have hpam:=Q.pl
   go_loopw [54] (λjv wx=>∃j:Nat,j<=m/\jv = cG j/\wx.heap[g]? = some (.cells ((eJ N S j).map (Value.int .i64)).toArray 3 (0,0))/\SJ C wx)
    (λjv _=>m - (intOf jv).toNat)
   case atStart=>exact ⟨0,Nb _,rfl,by rw [dX];exact G,hb5⟩
   case round =>
    obtain ⟨j,hj,rfl,Y,X⟩:=hrel
    by_cases D:j<m
    ·have q0j:=aC X q0
     have q1j:=aC X q1
     have q2j:=aC X q2
     have ha:=(F.ai X).cell j D
     have hb:=(hi2.ai X).cell i (by omega)
     obtain ⟨cj,fj⟩:=oX Y j (by rw [i7 _ _ _ (by omega) (by omega)];omega)
     rw [dS _ _ _ _ (by omega) (by omega),M8 (by omega)] at cj
     have d1:=hds j
     have d2:=hdA j
     have d3:=hdB i
     by_cases h1m:1<m
     ·have H:nth mod j=nth low j:=by rw [<- HLow.out];simp [mU,h1m]
      have hmnm:=hlow h1m
      clear hlow
      subst hmnm
      have hcm:=(Q.ai X).cell j D
      have dl:=hdig j
      rw [H] at hcm dl
      clear H
      go_wp2_with fail
      have e1:(0:Int)<=(P - nth O (K - 1)) * nth low j/\(P - nth O (K - 1)) * nth low j<=65536:=lW (by omega) (by omega) (by omega) (by omega)
      have e2:(0:Int)<=nth Z i * nth A j/\nth Z i * nth A j<=65536:=lW (by omega) (by omega) (by omega) (by omega)
      have hP0:P ≠ 0:=by omega
      have r1:IntKind.i64.wrap (P - nth O (K - 1))=P - nth O (K - 1):=Nn _ (by omega)
      have r2:IntKind.i64.wrap ((P - nth O (K - 1)) * nth low j)=(P - nth O (K - 1)) * nth low j:=Nn _ (by omega)
      have r3:IntKind.i64.wrap (nth S j+(P - nth O (K - 1)) * nth low j)=nth S j+(P - nth O (K - 1)) * nth low j:=Nn _ (by omega)
      have r4:IntKind.i64.wrap (nth Z i * nth A j)=nth Z i * nth A j:=Nn _ (by omega)
      have r5:IntKind.i64.wrap (nth S j+(P - nth O (K - 1)) * nth low j+nth Z i * nth A j)=nth S j+(P - nth O (K - 1)) * nth low j+nth Z i * nth A j:=Nn _ (by omega)
      have r6:(nth S j+(P - nth O (K - 1)) * nth low j+nth Z i * nth A j).tmod P=(nth S j+(P - nth O (K - 1)) * nth low j+nth Z i * nth A j) % P:=Od _ _ (by omega)
      have r7:((nth S j+(P - nth O (K - 1)) * nth low j+nth Z i * nth A j) % P)=nth N j:=by rw [<- HNN.out,mS _ _ _ _ _ _ _ D,HS.out];rfl
      have R7:=Z5 r7
      clear r7
      go_still_tail 27,(by kernel_rfl)
      change wpList _ _ _ _ _ wr.drew
      generalize U:wr.drew=wd
      have fd:wd.frozen? ⟨g,j,none⟩=false:=by rw [<- U];exact fj
      have cd:wd.cell? ⟨g,j,none⟩=some (cG (nth S j)):=by rw [<- U];exact cj
      have Hwd:=Z5 U
      clear U r1 r2 r3 r4 r5 r6
      go_wp2_with fail
      go_roundw
      case rel =>
       obtain rfl:=Hwd.out
       refine ⟨j+1,by omega,by go_num,?_,X.drew.setCell hg _⟩
       rw [R7.out]
       have h:=nB (w:=wr.drew) Y j (nth N j)
       rwa [dU _ _ _ (by omega) (by omega)] at h
      case measure=>simp [intOf]<;>omega
     ·have H:nth low j=0:=by rw [<- HLow.out,mU,M8 h1m,show j=0 from by omega];rfl
      have Hlo:=Z5 H
      go_wp2_with fail
      have e2:(0:Int)<=nth Z i * nth A j/\nth Z i * nth A j<=65536:=lW (by omega) (by omega) (by omega) (by omega)
      have hP0:P ≠ 0:=by omega
      have r1:IntKind.i64.wrap (P - nth O (m - 1))=P - nth O (m - 1):=Nn _ (by omega)
      have r4:IntKind.i64.wrap (nth Z i * nth A j)=nth Z i * nth A j:=Nn _ (by omega)
      have r5:IntKind.i64.wrap (nth S j+nth Z i * nth A j)=nth S j+nth Z i * nth A j:=Nn _ (by omega)
      have r6:(nth S j+nth Z i * nth A j).tmod P=(nth S j+nth Z i * nth A j) % P:=Od _ _ (by omega)
      have r7:((nth S j+nth Z i * nth A j) % P)=nth N j:=by rw [<- HNN.out,mS _ _ _ _ _ _ _ D,HS.out,C8,H,Rp,Int.add_zero]
      have R7:=Z5 r7
      clear r7 H
      go_still_tail 27,(by kernel_rfl)
      change wpList _ _ _ _ _ wr.drew
      generalize U:wr.drew=wd
      have fd:wd.frozen? ⟨g,j,none⟩=false:=by rw [<- U];exact fj
      have cd:wd.cell? ⟨g,j,none⟩=some (cG (nth S j)):=by rw [<- U];exact cj
      have Hwd:=Z5 U
      clear U r1 r4 r5 r6
      go_wp2_with fail
      go_roundw
      case rel =>
       obtain rfl:=Hwd.out
       refine ⟨j+1,by omega,by go_num,?_,X.drew.setCell hg _⟩
       rw [R7.out]
       have h:=nB (w:=wr.drew) Y j (nth N j)
       rwa [dU _ _ _ (by omega) (by omega)] at h
      case measure=>simp [intOf]<;>omega
    ·obtain rfl:j=m:=by omega
     rw [eD _ _ _ hN (by omega),<- Hnx.out] at Y
     go_wp2_with fail
     go_roundw
     case rel=>exact ⟨k+1,by omega,by have:=Hik.out;go_num,Y,X⟩
     case measure=>simp [intOf]<;>omega
  ·obtain rfl:k=m:=by omega
   have hrg:Ints wr (some ⟨g,0,none⟩) k (eH P low A Z k k) :=
    (RW (Cm (B:=0) (Nb _) L (by simp [hlen]) (by unfold maxLen;omega))).1
   have hfin:valu P (eH P low A Z k k)=dp P k mod x y:=Hfin.symm
   go_wp2_with fail
   refine (za _ _ _ _ P _ hrg (by omega) (λj=>?_)).mono ?_
   ·have h1:=dL.DU (show 0<P by omega) z hlen HPw.out j
    have h2:=z j
    have h3:=OZ h1.1 (show 0<=P by omega)
    have h4:valu P ((eH P low A Z k k).drop j) * P<=256 * 256:=Ow (by omega) hp256 (by omega) (by omega)
    omega
   rintro e w5 ⟨rfl,rfl⟩
   rw [hfin]
   clear hfin
   go_wp2
   go_ret
   exact ⟨rfl,RU hbw I⟩
end Go.Proofs.YthglbncgemdcbaaGreat
