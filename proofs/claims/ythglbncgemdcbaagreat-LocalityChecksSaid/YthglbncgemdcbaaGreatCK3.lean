import Derived.Test.YthglbncgemdcbaaGreatCK1
import Derived.Deep.RegionHeld3
import Derived.BigQuiet
import Derived.Deep.QuietTactic
import Derived.StillTailTactics
import Derived.Deep.DeepCutAuto
namespace Go.Proofs.YthglbncgemdcbaaGreat
set_option linter.all false
set_option maxRecDepth 100000
set_option maxHeartbeats 800000
open Go.RowKit Go.Proofs.Tryz
theorem x8 (l : LI) (i : Nat) (h : i<l.length) : l.drop i=nth l i :: l.drop (i+1):=by rw [aj h];exact KA h
theorem wO (a : OA) (n c : Nat) (l : LI) (p : Int) (w : World) (h : Ints w a n l) (D : n<=1000)
  (hb : ∀k,0<=valu p (l.drop k) * p/\valu p (l.drop k) * p<=1000000000/\0<=nth l k/\nth l k<=1000000000) :
  Calls prog 215 #[.slice a n c,.int .i64 p] w λe w'=>e = .returned (.int .i64 (valu p l))/\w=w':=by
 have L:=h.pl;have S:=Z5 hb;clear hb;go_enter func215,ntmps215;go_wp2;go_loop [5,6] (λO N=>∃k : Nat,k<=n/\N = .int .i64 ((k : Int) - 1)/\O = .int .i64 (valu p (l.drop k))) (λ_ i=>(intOf i+1).toNat);case atStart=>exact ⟨n,JO _,rfl,by rw [KD (by rw [h.len];exact JO _)];rfl⟩
 case round =>
  obtain ⟨k,H,rfl,rfl⟩:=hrel
  by_cases Q : 0<k
  ·obtain ⟨j,rfl⟩ : ∃j,k=j+1:=⟨k - 1,by omega⟩
   have I:=h.cell j (by omega)
   have U : j<l.length:=by rw [h.len];omega
   obtain ⟨K,G,C,E⟩ : 0<=valu p (l.drop (j+1)) * p/\valu p (l.drop (j+1)) * p<=1000000000/\0<=nth l j/\nth l j<=1000000000:=⟨(S.out (j+1)).1,(S.out (j+1)).2.1,(S.out j).2.2⟩
   have e1 : ((j+1 : Nat) : Int) - 1=(j : Int):=by omega
   rw [e1]
   clear e1 h Q
   have Z : valu p (l.drop (j+1)) * p+nth l j=valu p (l.drop j):=by rw [x8 l j U];simp only [valu];rw [K1 p,Int.add_comm]
   generalize valu p (l.drop (j+1))=X at *
   generalize nth l j=Y at *
   have V:=Z5 Z
   clear Z
   have e1 : (0 : Int)<=j:=by omega
   have F : (j : Int)<n:=by omega
   go_wp2
   go_round
   case rel=>refine ⟨j,by omega,by go_num,?_⟩;rw [<- V.out]
   case measure=>simp [intOf] <;> omega
  ·obtain rfl : k=0:=by omega
   go_wp2
   go_ret
   exact ⟨by simp,rfl⟩
theorem kJ {a b : Int} (ha : 0<=a) (Z : a<=256) (hb : 0<=b) (Y : b<=256) : 0<=a * b/\a * b<=65536 :=
 ⟨LG ha hb,by have:=L3 Z Y hb (show (0 : Int)<=256 by omega);omega⟩
theorem FK : (prog.info? 3).map (·.size)=some 1:=by kernel_rfl
structure pM (w : World) (P : Int) (M : Nat) (mn : Nat) (am : OA) (mod : LI) : Prop where
 p2 : 2<=P
 p256 : P<=256
 m1 : 1<=M
 m8 : M<=8
 pw : P ^ M<=256
 low : 1<M->mn=M
 ints : Ints w am mn mod
 dig : dz P mod
theorem nf (P : Int) (m : Nat) (am : OA) (K cm : Nat) (mod : LI) (x y : Int) (w : World) (hd : pM w P m K am mod)
  (hx : 0<=x) (hx2 : x<=1000000) (hy : 0<=y) (hy2 : y<=1000000) :
  Calls prog 165 #[.agg #[.int .i64 P,.int .i64 m,.slice am K cm],.int .i64 x,.int .i64 y] w λe w' =>
   e = .returned (.int .i64 (dh P m mod x y))/\OC w w':=by
 obtain ⟨hp2,hp256,hm1,hm8,hpw,hlow,L,hdig⟩:=hd;have HPw:=Z5 hpw;clear hpw;go_enter func165,ntmps165;go_wp2_with fail;go_region_held3 (λw'=>w'.cell? ⟨w.heap.size,0,none⟩=some (.int .i64 P)/\w'.cell? ⟨w.heap.size,1,none⟩=some (.int .i64 m)/\w'.cell? ⟨w.heap.size,2,none⟩=some (.slice am K cm)/\OC w w')
  (first | exact ⟨by simp, by simp, by simp, ((JP _ _).alloc (JO _) _).drew⟩
         | (go_split_ands;exact ⟨aB (by assumption) (by assumption),aB (by assumption) (by assumption),aB (by assumption) (by assumption),NX (by assumption) (by assumption)⟩))
  (first | (go_at_call 214; ((with_reducible refine (mE x P m _ (by assumption) (by omega) (by omega) (by omega)).mono ?_); rintro e w1 ⟨a1, c1, rfl, E, _, hb1⟩))
         | (go_at_call 214;((with_reducible refine (mE y P m _ (by assumption) (by omega) (by omega) (by omega)).mono ?_);rintro e C ⟨a2,c2,rfl,hi2,_,hb2⟩)))
 obtain ⟨q0,q1,q2,hbw⟩ : C.cell? ⟨w.heap.size,0,none⟩=some (.int .i64 P)/\C.cell? ⟨w.heap.size,1,none⟩=some (.int .i64 m)/\C.cell? ⟨w.heap.size,2,none⟩=some (.slice am K cm)/\OC w C:=by assumption
 have E:=E.af hb2;have L:=L.below hbw (λhn=>L.lt hn);clear hb1 hb2;go_wp2_with (at_make;refine ch rfl _ _ 22 3 rfl (.int .i64 0) 8 underlying22 aV rfl m rfl rfl (by omega) (by unfold maxLen;omega) ?_;intro a w3 hown G hge hlt;obtain ⟨g,rfl,hg,_⟩:=FM hown (by omega);have q0':=aB G q0;have q1':=aB G q1);have hdA:=Ou (show 0<P by omega) m x;have hdB:=Ou (show 0<P by omega) m y;have Hfin : Hid (dh P m mod x y=valu P (ey P (lJ m mod) (digs x P m) (digs y P m) m m)):=rfl;generalize digs x P m=A at *;generalize digs y P m=Z at *;generalize hLow : lJ m mod=low at *;have HLow:=Z5 hLow;clear hLow;go_loopw [10] (λiv wr=>∃k : Nat,k<=m/\iv = .int .i64 ((m : Int) - 1 - k) /\
   wr.heap[g]? = some (.cells ((ey P low A Z m k).map (Value.int .i64)).toArray 3 (0,0))/\OC C wr)
  (λi _=>(intOf i+1).toNat)
 case atStart=>exact ⟨0,JU _,by simp,by simpa [ey] using ‹w3.heap[g]? = _›,G⟩
 case round =>
  obtain ⟨k,hk,rfl,Q,I⟩:=hrel
  have q0r:=aB I q0
  have q1r:=aB I q1
  have q2r:=aB I q2
  have hi1r:=E.af I
  have hi2r:=hi2.af I
  have hlen:=gN P low A Z m k
  have D:=dz.ey (show 0<P by omega) low A Z m k
  by_cases hlt : k<m
  ·obtain ⟨i,hi⟩ : ∃i : Nat,(m : Int) - 1 - k=i:=⟨m - 1 - k,by omega⟩
   rw [hi]
   have him : (i : Int)<m:=by omega
   have hik : i=m - 1 - k:=by omega
   have Hik:=Z5 hik
   clear hi hik
   obtain ⟨c1,f1⟩:=nE Q (m - 1) (by omega)
   obtain ⟨c0,f0⟩:=nE Q 0 (by omega)
   have b1 : (1 : Int)<=m:=by omega
   have b2 : (0 : Int)<=(m : Int) - 1:=by omega
   have b3 : (m : Int) - 1<=m:=by omega
   have b5 : ((m : Int) - 1).toNat=m - 1:=by omega
   have b4 : IntKind.i64.wrap ((m : Int) - 1)=(m : Int) - 1:=J3 _ (by omega)
   go_upto_region 7 with fail
   go_cut [] (λwx=>Hid (wx.heap[g]? = some (.cells (splice ((ey P low A Z m k).map (Value.int .i64)) 1 ((ey P low A Z m k).dropLast.map (Value.int .i64))).toArray 3 (0,0)))/\OC C wx)
   case first =>
    go_region_held3 (λw'=>w'.cell? ⟨w.heap.size,1,none⟩=some (.int .i64 m)) (first | go_keep | exact aB (by assumption) q1)
     ((refine step_copy_splice (by rfl) (.tmp 43) (.tmp 48) 22 22 (by rfl) 3 underlying22 FK _ _ _ _ _ _ (by rfl) (by rfl) g 1 ((ey P low A Z m k).map (Value.int .i64)) 3 Q ((ey P low A Z m k).dropLast.map (Value.int .i64)) (by simp [hlen]) (by intro h0;have h1 : m ≠ 1:=(by simp [hlen] at h0;omega);have h2 : m ≠ 0:=(by omega);exact ⟨by simp [h1,Addr.add],⟨g,0,none⟩,by simp [h2,Addr.add],vg Q⟩) (by simp [hlen];omega) (ints_oneCell _ _) C.heap.size C I.drew hg ?_;intro w4 U hb4))
    all_goals (go_step;go_step;go_meet;exact ⟨U,hb4⟩)
   obtain ⟨U,hb4⟩:=hcut
   have r : wc.heap[g]? = some (.cells ((nth (ey P low A Z m k) 0 :: (ey P low A Z m k).dropLast).map (Value.int .i64)).toArray 3 (0,0)):=by have h:=U.out;rw [zN _ (by omega)] at h;exact h
   clear U b4 b5
   have hl4 : (nth (ey P low A Z m k) 0 :: (ey P low A Z m k).dropLast).length=m:=by simp [hlen];omega
   obtain ⟨c4,f4⟩:=nE r 0 (by omega)
   have F:=me r 0 0
   have hb5:=hb4.setCell (p:=⟨g,0,none⟩) hg (.int .i64 0)
   rw [JY] at F
   change (wc.setCell ⟨g,0,none⟩ (.int .i64 0)).heap[g]? = some (.cells ((shl (ey P low A Z m k)).map (Value.int .i64)).toArray 3 (0,0)) at F
   have hls:=yG (ey P low A Z m k) (by omega)
   have hds:=dz.shl (show 0<P by omega) D
   go_wp2_with fail
   generalize wc.setCell ⟨g,0,none⟩ (.int .i64 0)=w5 at *
   have hnx : ey P low A Z m (k+1)=lQ P low A m (nth Z i) (ey P low A Z m k):=by rw [Hik.out];rfl
   have Hnx:=Z5 hnx
   clear hnx
   have hN:=iq P low A m (nth Z i) (ey P low A Z m k)
   have htop:=D (m - 1)
   generalize hO : ey P low A Z m k=O at *
   generalize hS : shl O=S at *
   generalize hNN : lQ P low A m (nth Z i) O=N at *
   have HNN:=Z5 hNN
   have HS:=Z5 hS
   clear hNN hS hO
   have hi2i:=hi2r.cell i (by omega)
   have hpa1:=E.pl
   have hpa2:=hi2.pl
   have hpam:=L.pl
   go_loopw [54] (λjv wx=>∃j : Nat,j<=m/\jv = .int .i64 j/\wx.heap[g]? = some (.cells ((gj N S j).map (Value.int .i64)).toArray 3 (0,0))/\OC C wx)
    (λjv _=>m - (intOf jv).toNat)
   case atStart=>exact ⟨0,JU _,rfl,by rw [fQ];exact F,hb5⟩
   case round =>
    obtain ⟨j,hj,rfl,Y,V⟩:=hrel
    by_cases z : j<m
    ·have q0j:=aB V q0
     have q1j:=aB V q1
     have q2j:=aB V q2
     have ha:=(E.af V).cell j z
     have hb:=(hi2.af V).cell i (by omega)
     obtain ⟨cj,fj⟩:=nE Y j (by rw [gY _ _ _ (by omega) (by omega)];omega)
     rw [eQ _ _ _ _ (by omega) (by omega),JR (by omega)] at cj
     have d1:=hds j
     have d2:=hdA j
     have d3:=hdB i
     by_cases h1m : 1<m
     ·have H : nth mod j=nth low j:=by rw [<- HLow.out];simp [lJ,h1m]
      have hmnm:=hlow h1m
      clear hlow
      subst hmnm
      have hcm:=(L.af V).cell j z
      have dl:=hdig j
      rw [H] at hcm dl
      clear H
      go_wp2_with fail
      have e1 : (0 : Int)<=(P - nth O (K - 1)) * nth low j/\(P - nth O (K - 1)) * nth low j<=65536:=kJ (by omega) (by omega) (by omega) (by omega)
      have e2 : (0 : Int)<=nth Z i * nth A j/\nth Z i * nth A j<=65536:=kJ (by omega) (by omega) (by omega) (by omega)
      have hP0 : P ≠ 0:=by omega
      have r1 : IntKind.i64.wrap (P - nth O (K - 1))=P - nth O (K - 1):=J3 _ (by omega)
      have r2 : IntKind.i64.wrap ((P - nth O (K - 1)) * nth low j)=(P - nth O (K - 1)) * nth low j:=J3 _ (by omega)
      have r3 : IntKind.i64.wrap (nth S j+(P - nth O (K - 1)) * nth low j)=nth S j+(P - nth O (K - 1)) * nth low j:=J3 _ (by omega)
      have r4 : IntKind.i64.wrap (nth Z i * nth A j)=nth Z i * nth A j:=J3 _ (by omega)
      have r5 : IntKind.i64.wrap (nth S j+(P - nth O (K - 1)) * nth low j+nth Z i * nth A j)=nth S j+(P - nth O (K - 1)) * nth low j+nth Z i * nth A j:=J3 _ (by omega)
      have r6 : (nth S j+(P - nth O (K - 1)) * nth low j+nth Z i * nth A j).tmod P=(nth S j+(P - nth O (K - 1)) * nth low j+nth Z i * nth A j) % P:=KP _ _ (by omega)
      have r7 : ((nth S j+(P - nth O (K - 1)) * nth low j+nth Z i * nth A j) % P)=nth N j:=by rw [<- HNN.out,lr _ _ _ _ _ _ _ z,HS.out];rfl
      have R7:=Z5 r7
      clear r7
      go_still_tail 27,(by kernel_rfl)
      change wpList _ _ _ _ _ wr.drew
      generalize X : wr.drew=wd
      have fd : wd.frozen? ⟨g,j,none⟩=false:=by rw [<- X];exact fj
      have cd : wd.cell? ⟨g,j,none⟩=some (.int .i64 (nth S j)):=by rw [<- X];exact cj
      have Hwd:=Z5 X
      clear X r1 r2 r3 r4 r5 r6
      go_wp2_with fail
      go_roundw
      case rel =>
       obtain rfl:=Hwd.out
       refine ⟨j+1,by omega,by go_num,?_,V.drew.setCell hg _⟩
       rw [R7.out]
       have h:=me (w:=wr.drew) Y j (nth N j)
       rwa [fA _ _ _ (by omega) (by omega)] at h
      case measure=>simp [intOf] <;> omega
     ·have H : nth low j=0:=by rw [<- HLow.out,lJ,JR h1m,show j=0 from by omega];rfl
      have Hlo:=Z5 H
      go_wp2_with fail
      have e2 : (0 : Int)<=nth Z i * nth A j/\nth Z i * nth A j<=65536:=kJ (by omega) (by omega) (by omega) (by omega)
      have hP0 : P ≠ 0:=by omega
      have r1 : IntKind.i64.wrap (P - nth O (m - 1))=P - nth O (m - 1):=J3 _ (by omega)
      have r4 : IntKind.i64.wrap (nth Z i * nth A j)=nth Z i * nth A j:=J3 _ (by omega)
      have r5 : IntKind.i64.wrap (nth S j+nth Z i * nth A j)=nth S j+nth Z i * nth A j:=J3 _ (by omega)
      have r6 : (nth S j+nth Z i * nth A j).tmod P=(nth S j+nth Z i * nth A j) % P:=KP _ _ (by omega)
      have r7 : ((nth S j+nth Z i * nth A j) % P)=nth N j:=by rw [<- HNN.out,lr _ _ _ _ _ _ _ z,HS.out,AO,H,NF,Int.add_zero]
      have R7:=Z5 r7
      clear r7 H
      go_still_tail 27,(by kernel_rfl)
      change wpList _ _ _ _ _ wr.drew
      generalize X : wr.drew=wd
      have fd : wd.frozen? ⟨g,j,none⟩=false:=by rw [<- X];exact fj
      have cd : wd.cell? ⟨g,j,none⟩=some (.int .i64 (nth S j)):=by rw [<- X];exact cj
      have Hwd:=Z5 X
      clear X r1 r4 r5 r6
      go_wp2_with fail
      go_roundw
      case rel =>
       obtain rfl:=Hwd.out
       refine ⟨j+1,by omega,by go_num,?_,V.drew.setCell hg _⟩
       rw [R7.out]
       have h:=me (w:=wr.drew) Y j (nth N j)
       rwa [fA _ _ _ (by omega) (by omega)] at h
      case measure=>simp [intOf] <;> omega
    ·obtain rfl : j=m:=by omega
     rw [gx _ _ _ hN (by omega),<- Hnx.out] at Y
     go_wp2_with fail
     go_roundw
     case rel=>exact ⟨k+1,by omega,by have:=Hik.out;go_num,Y,V⟩
     case measure=>simp [intOf] <;> omega
  ·obtain rfl : k=m:=by omega
   have hrg : Ints wr (some ⟨g,0,none⟩) k (ey P low A Z k k) :=
    (NZ (zA (B:=0) (JU _) Q (by simp [hlen]) (by unfold maxLen;omega))).1
   have hfin : valu P (ey P low A Z k k)=dh P k mod x y:=Hfin.symm
   go_wp2_with fail
   refine (wO _ _ _ _ P _ hrg (by omega) (λj=>?_)).mono ?_
   ·have h1:=dz.AN (show 0<P by omega) D hlen HPw.out j
    have h2:=D j
    have h3:=LG h1.1 (show 0<=P by omega)
    have h4 : valu P ((ey P low A Z k k).drop j) * P<=256 * 256:=L3 (by omega) hp256 (by omega) (by omega)
    omega
   rintro e w5 ⟨rfl,rfl⟩
   rw [hfin]
   clear hfin
   go_wp2
   go_ret
   exact ⟨rfl,NX hbw I⟩
end Go.Proofs.YthglbncgemdcbaaGreat
