import Derived.Test.YthglbncgemdcbaaGreatCE1
import Derived.Deep.RegionHeld3
import Derived.BigQuiet
import Derived.Deep.QuietTactic
import Derived.StillTailTactics
import Derived.Deep.DeepCutAuto
namespace Go.Proofs.YthglbncgemdcbaaGreat
set_option linter.all false
set_option maxRecDepth 100000
set_option maxHeartbeats 800000
open Go.RowKit Go.Proofs.Tryz
theorem xF (l:LI) (i:Nat) (h:i<l.length):l.drop i=nth l i :: l.drop (i+1):=by rw [aj h];exact LH h
theorem ym (a:OA) (n c:Nat) (l:LI) (p:Int) (w:World) (h:Ints w a n l) (H:n<=1000)
  (hb:∀k,0<=valu p (l.drop k) * p/\valu p (l.drop k) * p<=1000000000/\0<=nth l k/\nth l k<=1000000000) :
  Calls prog 215 #[.slice a n c,cG p] w λe w'=>e = .returned (cG (valu p l))/\w=w':=by
 have L:=h.pl;have Q:=Z5 hb;clear hb;go_enter func215,ntmps215;go_wp2;go_loop [5,6] (λO N=>∃k:Nat,k<=n/\N = cG ((k:Int) - 1)/\O = cG (valu p (l.drop k))) (λ_ i=>(intOf i+1).toNat);case atStart=>exact ⟨n,KT _,rfl,by rw [L0 (by rw [h.len];exact KT _)];rfl⟩
 case round =>
  obtain ⟨k,D,rfl,rfl⟩:=hrel
  by_cases S:0<k
  ·obtain ⟨j,rfl⟩:∃j,k=j+1:=⟨k - 1,by omega⟩
   have K:=h.cell j (by omega)
   have U:j<l.length:=by rw [h.len];omega
   obtain ⟨F,B,C,G⟩:0<=valu p (l.drop (j+1)) * p/\valu p (l.drop (j+1)) * p<=1000000000/\0<=nth l j/\nth l j<=1000000000:=⟨(Q (j+1)).1,(Q (j+1)).2.1,(Q j).2.2⟩
   have e1:((j+1:Nat):Int) - 1=(j:Int):=by omega
   rw [e1]
   clear e1 h S
   have Z:valu p (l.drop (j+1)) * p+nth l j=valu p (l.drop j):=by rw [xF l j U];simp only [valu];rw [Mp p,Int.add_comm]
   generalize valu p (l.drop (j+1))=X at *
   generalize nth l j=Y at *
   have V:=Z5 Z
   clear Z
   have e1:(0:Int)<=j:=by omega
   have E:(j:Int)<n:=by omega
   go_wp2
   go_round
   case rel=>refine ⟨j,by omega,by go_num,?_⟩;rw [<- V.out]
   case measure=>simp [intOf] <;> omega
  ·obtain rfl:k=0:=by omega
   go_wp2
   go_ret
   exact ⟨by simp,rfl⟩
theorem lq {a b:Int} (ha:0<=a) (Y:a<=256) (hb:0<=b) (Z:b<=256):0<=a * b/\a * b<=65536 :=
 ⟨MY ha hb,by have:=M1 Y Z hb (show (0:Int)<=256 by omega);omega⟩
theorem I5:(prog.info? 3).map (·.size)=some 1:=by kernel_rfl
structure qw (w:World) (P:Int) (M:Nat) (mn:Nat) (am:OA) (mod:LI):Prop where
 p2:2<=P
 p256:P<=256
 m1:1<=M
 m8:M<=8
 pw:P ^ M<=256
 low:1<M->mn=M
 ints:Ints w am mn mod
 dig:dG P mod
theorem oF (P:Int) (m:Nat) (am:OA) (Q cm:Nat) (mod:LI) (x y:Int) (w:World) (hd:qw w P m Q am mod)
  (hx:0<=x) (hx2:x<=1000000) (hy:0<=y) (hy2:y<=1000000) :
  Calls prog 165 #[.agg #[cG P,cG m,.slice am Q cm],cG x,cG y] w λe w' =>
   e = .returned (cG (dq P m mod x y))/\PY w w':=by
 obtain ⟨hp2,hp256,hm1,hm8,hpw,hlow,K,hdig⟩:=hd;have HPw:=Z5 hpw;clear hpw;go_enter func165,ntmps165;go_wp2_with fail;go_region_held3 (λw'=>w'.cell? ⟨w.heap.size,0,none⟩=some (cG P)/\w'.cell? ⟨w.heap.size,1,none⟩=some (cG m)/\w'.cell? ⟨w.heap.size,2,none⟩=some (.slice am Q cm)/\PY w w')
  (first | exact ⟨by simp, by simp, by simp, ((KU _ _).alloc (KT _) _).drew⟩
         | (go_split_ands;exact ⟨aB (by assumption) (by assumption),aB (by assumption) (by assumption),aB (by assumption) (by assumption),Pm (by assumption) (by assumption)⟩))
  (first | (go_at_call 214; ((with_reducible refine (oc x P m _ (by assumption) (by omega) (by omega) (by omega)).mono ?_); rintro e w1 ⟨a1, c1, rfl, D, _, hb1⟩))
         | (go_at_call 214;((with_reducible refine (oc y P m _ (by assumption) (by omega) (by omega) (by omega)).mono ?_);rintro e z ⟨a2,c2,rfl,hi2,_,hb2⟩)))
 obtain ⟨q0,q1,q2,hbw⟩:z.cell? ⟨w.heap.size,0,none⟩=some (cG P)/\z.cell? ⟨w.heap.size,1,none⟩=some (cG m)/\z.cell? ⟨w.heap.size,2,none⟩=some (.slice am Q cm)/\PY w z:=by assumption
 have D:=D.af hb2;have K:=K.below hbw (λhn=>K.lt hn);clear hb1 hb2;go_wp2_with (at_make;refine bV rfl _ _ 22 3 rfl (cG 0) 8 underlying22 bh rfl m rfl rfl (by omega) (by unfold maxLen;omega) ?_;intro a w3 hown F hge hlt;obtain ⟨g,rfl,hg,_⟩:=IF hown (by omega);have q0':=aB F q0;have q1':=aB F q1);have hdA:=PU (show 0<P by omega) m x;have hdB:=PU (show 0<P by omega) m y;have Hfin:Hid (dq P m mod x y=valu P (eG P (mB m mod) (digs x P m) (digs y P m) m m)):=rfl;generalize digs x P m=A at *;generalize digs y P m=Z at *;generalize hLow:mB m mod=low at *;have HLow:=Z5 hLow;clear hLow;go_loopw [10] (λiv wr=>∃k:Nat,k<=m/\iv = cG ((m:Int) - 1 - k) /\
   wr.heap[g]? = some (.cells ((eG P low A Z m k).map (Value.int .i64)).toArray 3 (0,0))/\PY z wr)
  (λi _=>(intOf i+1).toNat)
 case atStart=>exact ⟨0,K0 _,by simp,by simpa [eG] using ‹w3.heap[g]? = _›,F⟩
 case round =>
  obtain ⟨k,hk,rfl,L,H⟩:=hrel
  have q0r:=aB H q0
  have q1r:=aB H q1
  have q2r:=aB H q2
  have hi1r:=D.af H
  have hi2r:=hi2.af H
  have hlen:=iw P low A Z m k
  have r:=dG.eG (show 0<P by omega) low A Z m k
  by_cases hlt:k<m
  ·obtain ⟨i,hi⟩:∃i:Nat,(m:Int) - 1 - k=i:=⟨m - 1 - k,by omega⟩
   rw [hi]
   have him:(i:Int)<m:=by omega
   have hik:i=m - 1 - k:=by omega
   have Hik:=Z5 hik
   clear hi hik
   obtain ⟨c1,f1⟩:=oN L (m - 1) (by omega)
   obtain ⟨c0,f0⟩:=oN L 0 (by omega)
   have b1:(1:Int)<=m:=by omega
   have b2:(0:Int)<=(m:Int) - 1:=by omega
   have b3:(m:Int) - 1<=m:=by omega
   have b5:((m:Int) - 1).toNat=m - 1:=by omega
   have b4:IntKind.i64.wrap ((m:Int) - 1)=(m:Int) - 1:=La _ (by omega)
   go_upto_region 7 with fail
   go_cut [] (λwx=>Hid (wx.heap[g]? = some (.cells (splice ((eG P low A Z m k).map (Value.int .i64)) 1 ((eG P low A Z m k).dropLast.map (Value.int .i64))).toArray 3 (0,0)))/\PY z wx)
   case first =>
    go_region_held3 (λw'=>w'.cell? ⟨w.heap.size,1,none⟩=some (cG m)) (first | go_keep | exact aB (by assumption) q1)
     ((refine step_copy_splice (by rfl) (.tmp 43) (.tmp 48) 22 22 (by rfl) 3 underlying22 I5 _ _ _ _ _ _ (by rfl) (by rfl) g 1 ((eG P low A Z m k).map (Value.int .i64)) 3 L ((eG P low A Z m k).dropLast.map (Value.int .i64)) (by simp [hlen]) (by intro h0;have h1:m ≠ 1:=(by simp [hlen] at h0;omega);have h2:m ≠ 0:=(by omega);exact ⟨by simp [h1,Addr.add],⟨g,0,none⟩,by simp [h2,Addr.add],wk L⟩) (by simp [hlen];omega) (ints_oneCell _ _) z.heap.size z H.drew hg ?_;intro w4 V hb4))
    all_goals (go_step;go_step;go_meet;exact ⟨V,hb4⟩)
   obtain ⟨V,hb4⟩:=hcut
   have row4:wc.heap[g]? = some (.cells ((nth (eG P low A Z m k) 0 :: (eG P low A Z m k).dropLast).map (Value.int .i64)).toArray 3 (0,0)):=by have h:=V.out;rw [AE _ (by omega)] at h;exact h
   clear V b4 b5
   have hl4:(nth (eG P low A Z m k) 0 :: (eG P low A Z m k).dropLast).length=m:=by simp [hlen];omega
   obtain ⟨c4,f4⟩:=oN row4 0 (by omega)
   have E:=mU row4 0 0
   have hb5:=hb4.setCell (p:=⟨g,0,none⟩) hg (cG 0)
   rw [K1] at E
   change (wc.setCell ⟨g,0,none⟩ (cG 0)).heap[g]? = some (.cells ((shl (eG P low A Z m k)).map (Value.int .i64)).toArray 3 (0,0)) at E
   have hls:=AR (eG P low A Z m k) (by omega)
   have hds:=dG.shl (show 0<P by omega) r
   go_wp2_with fail
   generalize wc.setCell ⟨g,0,none⟩ (cG 0)=w5 at *
   have hnx:eG P low A Z m (k+1)=mL P low A m (nth Z i) (eG P low A Z m k):=by rw [Hik.out];rfl
   have Hnx:=Z5 hnx
   clear hnx
   have hN:=iU P low A m (nth Z i) (eG P low A Z m k)
   have htop:=r (m - 1)
   generalize hO:eG P low A Z m k=O at *
   generalize hS:shl O=S at *
   generalize hNN:mL P low A m (nth Z i) O=N at *
   have HNN:=Z5 hNN
   have HS:=Z5 hS
   clear hNN hS hO
   have hi2i:=hi2r.cell i (by omega)
   have hpa1:=D.pl
   have hpa2:=hi2.pl
   have hpam:=K.pl
   go_loopw [54] (λjv wx=>∃j:Nat,j<=m/\jv = cG j/\wx.heap[g]? = some (.cells ((gv N S j).map (Value.int .i64)).toArray 3 (0,0))/\PY z wx)
    (λjv _=>m - (intOf jv).toNat)
   case atStart=>exact ⟨0,K0 _,rfl,by rw [fC];exact E,hb5⟩
   case round =>
    obtain ⟨j,hj,rfl,Y,X⟩:=hrel
    by_cases C:j<m
    ·have q0j:=aB X q0
     have q1j:=aB X q1
     have q2j:=aB X q2
     have ha:=(D.af X).cell j C
     have hb:=(hi2.af X).cell i (by omega)
     obtain ⟨cj,fj⟩:=oN Y j (by rw [iS _ _ _ (by omega) (by omega)];omega)
     rw [eA _ _ _ _ (by omega) (by omega),KY (by omega)] at cj
     have d1:=hds j
     have d2:=hdA j
     have d3:=hdB i
     by_cases h1m:1<m
     ·have G:nth mod j=nth low j:=by rw [<- HLow.out];simp [mB,h1m]
      have hmnm:=hlow h1m
      clear hlow
      subst hmnm
      have hcm:=(K.af X).cell j C
      have dl:=hdig j
      rw [G] at hcm dl
      clear G
      go_wp2_with fail
      have e1:(0:Int)<=(P - nth O (Q - 1)) * nth low j/\(P - nth O (Q - 1)) * nth low j<=65536:=lq (by omega) (by omega) (by omega) (by omega)
      have e2:(0:Int)<=nth Z i * nth A j/\nth Z i * nth A j<=65536:=lq (by omega) (by omega) (by omega) (by omega)
      have hP0:P ≠ 0:=by omega
      have r1:IntKind.i64.wrap (P - nth O (Q - 1))=P - nth O (Q - 1):=La _ (by omega)
      have r2:IntKind.i64.wrap ((P - nth O (Q - 1)) * nth low j)=(P - nth O (Q - 1)) * nth low j:=La _ (by omega)
      have r3:IntKind.i64.wrap (nth S j+(P - nth O (Q - 1)) * nth low j)=nth S j+(P - nth O (Q - 1)) * nth low j:=La _ (by omega)
      have r4:IntKind.i64.wrap (nth Z i * nth A j)=nth Z i * nth A j:=La _ (by omega)
      have r5:IntKind.i64.wrap (nth S j+(P - nth O (Q - 1)) * nth low j+nth Z i * nth A j)=nth S j+(P - nth O (Q - 1)) * nth low j+nth Z i * nth A j:=La _ (by omega)
      have r6:(nth S j+(P - nth O (Q - 1)) * nth low j+nth Z i * nth A j).tmod P=(nth S j+(P - nth O (Q - 1)) * nth low j+nth Z i * nth A j) % P:=L9 _ _ (by omega)
      have r7:((nth S j+(P - nth O (Q - 1)) * nth low j+nth Z i * nth A j) % P)=nth N j:=by rw [<- HNN.out,ml _ _ _ _ _ _ _ C,HS.out];rfl
      have R7:=Z5 r7
      clear r7
      go_still_tail 27,(by kernel_rfl)
      change wpList _ _ _ _ _ wr.drew
      generalize U:wr.drew=wd
      have fd:wd.frozen? ⟨g,j,none⟩=false:=by rw [<- U];exact fj
      have cd:wd.cell? ⟨g,j,none⟩=some (cG (nth S j)):=by rw [<- U];exact cj
      have Hwd:=Z5 U
      clear U r1 r2 r3 r4 r5 r6
      go_wp2_with fail
      go_roundw
      case rel =>
       obtain rfl:=Hwd.out
       refine ⟨j+1,by omega,by go_num,?_,X.drew.setCell hg _⟩
       rw [R7.out]
       have h:=mU (w:=wr.drew) Y j (nth N j)
       rwa [fh _ _ _ (by omega) (by omega)] at h
      case measure=>simp [intOf] <;> omega
     ·have G:nth low j=0:=by rw [<- HLow.out,mB,KY h1m,show j=0 from by omega];rfl
      have Hlo:=Z5 G
      go_wp2_with fail
      have e2:(0:Int)<=nth Z i * nth A j/\nth Z i * nth A j<=65536:=lq (by omega) (by omega) (by omega) (by omega)
      have hP0:P ≠ 0:=by omega
      have r1:IntKind.i64.wrap (P - nth O (m - 1))=P - nth O (m - 1):=La _ (by omega)
      have r4:IntKind.i64.wrap (nth Z i * nth A j)=nth Z i * nth A j:=La _ (by omega)
      have r5:IntKind.i64.wrap (nth S j+nth Z i * nth A j)=nth S j+nth Z i * nth A j:=La _ (by omega)
      have r6:(nth S j+nth Z i * nth A j).tmod P=(nth S j+nth Z i * nth A j) % P:=L9 _ _ (by omega)
      have r7:((nth S j+nth Z i * nth A j) % P)=nth N j:=by rw [<- HNN.out,ml _ _ _ _ _ _ _ C,HS.out,Cs,G,OY,Int.add_zero]
      have R7:=Z5 r7
      clear r7 G
      go_still_tail 27,(by kernel_rfl)
      change wpList _ _ _ _ _ wr.drew
      generalize U:wr.drew=wd
      have fd:wd.frozen? ⟨g,j,none⟩=false:=by rw [<- U];exact fj
      have cd:wd.cell? ⟨g,j,none⟩=some (cG (nth S j)):=by rw [<- U];exact cj
      have Hwd:=Z5 U
      clear U r1 r4 r5 r6
      go_wp2_with fail
      go_roundw
      case rel =>
       obtain rfl:=Hwd.out
       refine ⟨j+1,by omega,by go_num,?_,X.drew.setCell hg _⟩
       rw [R7.out]
       have h:=mU (w:=wr.drew) Y j (nth N j)
       rwa [fh _ _ _ (by omega) (by omega)] at h
      case measure=>simp [intOf] <;> omega
    ·obtain rfl:j=m:=by omega
     rw [gx _ _ _ hN (by omega),<- Hnx.out] at Y
     go_wp2_with fail
     go_roundw
     case rel=>exact ⟨k+1,by omega,by have:=Hik.out;go_num,Y,X⟩
     case measure=>simp [intOf] <;> omega
  ·obtain rfl:k=m:=by omega
   have hrg:Ints wr (some ⟨g,0,none⟩) k (eG P low A Z k k) :=
    (Pn (AV (B:=0) (K0 _) L (by simp [hlen]) (by unfold maxLen;omega))).1
   have hfin:valu P (eG P low A Z k k)=dq P k mod x y:=Hfin.symm
   go_wp2_with fail
   refine (ym _ _ _ _ P _ hrg (by omega) (λj=>?_)).mono ?_
   ·have h1:=dG.B1 (show 0<P by omega) r hlen HPw.out j
    have h2:=r j
    have h3:=MY h1.1 (show 0<=P by omega)
    have h4:valu P ((eG P low A Z k k).drop j) * P<=256 * 256:=M1 (by omega) hp256 (by omega) (by omega)
    omega
   rintro e w5 ⟨rfl,rfl⟩
   rw [hfin]
   clear hfin
   go_wp2
   go_ret
   exact ⟨rfl,Pm hbw H⟩
end Go.Proofs.YthglbncgemdcbaaGreat
