import Derived.Test.YthglbncgemdcbaaGreatS1
import Derived.Deep.RegionHeld3
import Derived.BigQuiet
import Derived.Deep.QuietTactic
import Derived.StillTailTactics
import Derived.Deep.DeepCutAuto
namespace Go.Proofs.YthglbncgemdcbaaGreat
set_option linter.all false
set_option maxRecDepth 100000
set_option maxHeartbeats 800000
open Go.RowKit Go.Proofs.Tryz
theorem CD (l : Lz) (i : Nat) (h : i<l.length) : l.drop i=nth l i :: l.drop (i+1):=by rw [aj h];exact NV h
theorem B5 (a : OA) (n c : Nat) (l : Lz) (p : Int) (w : World) (h : Ints w a n l) (hn : n<=1000)
  (hb : ∀k,0<=valu p (l.drop k) * p/\valu p (l.drop k) * p<=1000000000/\0<=nth l k/\nth l k<=1000000000) :
  Calls prog 215 #[.slice a n c,.int .i64 p] w λe w'=>e = .returned (.int .i64 (valu p l))/\w=w':=by
 have hpl:=h.pl;have HB:=Z5 hb;clear hb;go_enter func215,ntmps215;go_wp2;go_loop [5,6] (λxv iv=>∃k : Nat,k<=n/\iv = .int .i64 ((k : Int) - 1)/\xv = .int .i64 (valu p (l.drop k))) (λ_ i=>(intOf i+1).toNat);case atStart=>exact ⟨n,Na _,rfl,by rw [Ob (by rw [h.len];exact Na _)];rfl⟩
 case round =>
  obtain ⟨k,hk,rfl,rfl⟩:=hrel
  by_cases hlt : 0<k
  ·obtain ⟨j,rfl⟩ : ∃j,k=j+1:=⟨k - 1,by omega⟩
   have hc:=h.cell j (by omega)
   have hjl : j<l.length:=by rw [h.len];omega
   obtain ⟨b1,b2,b3,b4⟩ : 0<=valu p (l.drop (j+1)) * p/\valu p (l.drop (j+1)) * p<=1000000000/\0<=nth l j/\nth l j<=1000000000:=⟨(HB.out (j+1)).1,(HB.out (j+1)).2.1,(HB.out j).2.2⟩
   have e1 : ((j+1 : Nat) : Int) - 1=(j : Int):=by omega
   rw [e1]
   clear e1 h hlt
   have hfin : valu p (l.drop (j+1)) * p+nth l j=valu p (l.drop j):=by rw [CD l j hjl];simp only [valu];rw [OV p,Int.add_comm]
   generalize valu p (l.drop (j+1))=X at *
   generalize nth l j=Y at *
   have Hfin:=Z5 hfin
   clear hfin
   have e1 : (0 : Int)<=j:=by omega
   have e2 : (j : Int)<n:=by omega
   go_wp2
   go_round
   case rel=>refine ⟨j,by omega,by go_num,?_⟩;rw [<- Hfin.out]
   case measure=>simp [intOf] <;> omega
  ·obtain rfl : k=0:=by omega
   go_wp2
   go_ret
   exact ⟨by simp,rfl⟩
theorem pX {a b : Int} (ha : 0<=a) (ha2 : a<=256) (hb : 0<=b) (hb2 : b<=256) : 0<=a * b/\a * b<=65536 :=
 ⟨Py ha hb,by have:=OR ha2 hb2 hb (show (0 : Int)<=256 by omega);omega⟩
theorem Kr : (prog.info? 3).map (·.size)=some 1:=by kernel_rfl
structure uU (w : World) (P : Int) (M : Nat) (mn : Nat) (am : OA) (mod : Lz) : Prop where
 p2 : 2<=P
 p256 : P<=256
 m1 : 1<=M
 m8 : M<=8
 pw : P ^ M<=256
 low : 1<M->mn=M
 ints : Ints w am mn mod
 dig : eD P mod
theorem sl (P : Int) (m : Nat) (am : OA) (mn cm : Nat) (mod : Lz) (x y : Int) (w : World) (hd : uU w P m mn am mod)
  (hx : 0<=x) (hx2 : x<=1000000) (hy : 0<=y) (hy2 : y<=1000000) :
  Calls prog 165 #[.agg #[.int .i64 P,.int .i64 m,.slice am mn cm],.int .i64 x,.int .i64 y] w λe w' =>
   e = .returned (.int .i64 (dQ P m mod x y))/\SW w w':=by
 obtain ⟨hp2,hp256,hm1,hm8,hpw,hlow,hmod,hdig⟩:=hd;have HPw:=Z5 hpw;clear hpw;go_enter func165,ntmps165;go_wp2_with fail;go_region_held3 (λw'=>w'.cell? ⟨w.heap.size,0,none⟩=some (.int .i64 P)/\w'.cell? ⟨w.heap.size,1,none⟩=some (.int .i64 m)/\w'.cell? ⟨w.heap.size,2,none⟩=some (.slice am mn cm)/\SW w w')
  (first | exact ⟨by simp, by simp, by simp, ((Nc _ _).alloc (Na _) _).drew⟩
         | (go_split_ands;exact ⟨aB (by assumption) (by assumption),aB (by assumption) (by assumption),aB (by assumption) (by assumption),RZ (by assumption) (by assumption)⟩))
  (first | (go_at_call 214; ((with_reducible refine (rT x P m _ (by assumption) (by omega) (by omega) (by omega)).mono ?_); rintro e w1 ⟨a1, c1, rfl, hi1, _, hb1⟩))
         | (go_at_call 214;((with_reducible refine (rT y P m _ (by assumption) (by omega) (by omega) (by omega)).mono ?_);rintro e w2 ⟨a2,c2,rfl,hi2,_,hb2⟩)))
 obtain ⟨q0,q1,q2,hbw⟩ : w2.cell? ⟨w.heap.size,0,none⟩=some (.int .i64 P)/\w2.cell? ⟨w.heap.size,1,none⟩=some (.int .i64 m)/\w2.cell? ⟨w.heap.size,2,none⟩=some (.slice am mn cm)/\SW w w2:=by assumption
 have hi1:=hi1.ah hb2;have hmod:=hmod.below hbw (λhn=>hmod.lt hn);clear hb1 hb2;go_wp2_with (at_make;refine bS rfl _ _ 22 3 rfl (.int .i64 0) 8 underlying22 aU rfl m rfl rfl (by omega) (by unfold maxLen;omega) ?_;intro a w3 hown hbel hge hlt;obtain ⟨g,rfl,hg,_⟩:=KJ hown (by omega);have q0':=aB hbel q0;have q1':=aB hbel q1);have hdA:=SM (show 0<P by omega) m x;have hdB:=SM (show 0<P by omega) m y;have Hfin : Hid (dQ P m mod x y=valu P (gF P (qJ m mod) (digs x P m) (digs y P m) m m)):=rfl;generalize digs x P m=A at *;generalize digs y P m=Bb at *;generalize hLow : qJ m mod=low at *;have HLow:=Z5 hLow;clear hLow;go_loopw [10] (λiv wr=>∃k : Nat,k<=m/\iv = .int .i64 ((m : Int) - 1 - k) /\
   wr.heap[g]? = some (.cells ((gF P low A Bb m k).map (Value.int .i64)).toArray 3 (0,0))/\SW w2 wr)
  (λi _=>(intOf i+1).toNat)
 case atStart=>exact ⟨0,Ni _,by simp,by simpa [gF] using ‹w3.heap[g]? = _›,hbel⟩
 case round =>
  obtain ⟨k,hk,rfl,hrow,hbr⟩:=hrel
  have q0r:=aB hbr q0
  have q1r:=aB hbr q1
  have q2r:=aB hbr q2
  have hi1r:=hi1.ah hbr
  have hi2r:=hi2.ah hbr
  have hlen:=kq P low A Bb m k
  have hdg:=eD.gF (show 0<P by omega) low A Bb m k
  by_cases hlt : k<m
  ·obtain ⟨i,hi⟩ : ∃i : Nat,(m : Int) - 1 - k=i:=⟨m - 1 - k,by omega⟩
   rw [hi]
   have him : (i : Int)<m:=by omega
   have hik : i=m - 1 - k:=by omega
   have Hik:=Z5 hik
   clear hi hik
   obtain ⟨c1,f1⟩:=sK hrow (m - 1) (by omega)
   obtain ⟨c0,f0⟩:=sK hrow 0 (by omega)
   have b1 : (1 : Int)<=m:=by omega
   have b2 : (0 : Int)<=(m : Int) - 1:=by omega
   have b3 : (m : Int) - 1<=m:=by omega
   have b5 : ((m : Int) - 1).toNat=m - 1:=by omega
   have b4 : IntKind.i64.wrap ((m : Int) - 1)=(m : Int) - 1:=Ns _ (by omega)
   go_upto_region 7 with fail
   go_cut [] (λwx=>Hid (wx.heap[g]? = some (.cells (splice ((gF P low A Bb m k).map (Value.int .i64)) 1 ((gF P low A Bb m k).dropLast.map (Value.int .i64))).toArray 3 (0,0)))/\SW w2 wx)
   case first =>
    go_region_held3 (λw'=>w'.cell? ⟨w.heap.size,1,none⟩=some (.int .i64 m)) (first | go_keep | exact aB (by assumption) q1)
     ((refine step_copy_splice (by rfl) (.tmp 43) (.tmp 48) 22 22 (by rfl) 3 underlying22 Kr _ _ _ _ _ _ (by rfl) (by rfl) g 1 ((gF P low A Bb m k).map (Value.int .i64)) 3 hrow ((gF P low A Bb m k).dropLast.map (Value.int .i64)) (by simp [hlen]) (by intro h0;have h1 : m ≠ 1:=(by simp [hlen] at h0;omega);have h2 : m ≠ 0:=(by omega);exact ⟨by simp [h1,Addr.add],⟨g,0,none⟩,by simp [h2,Addr.add],zA hrow⟩) (by simp [hlen];omega) (ints_oneCell _ _) w2.heap.size w2 hbr.drew hg ?_;intro w4 hrow4 hb4))
    all_goals (go_step;go_step;go_meet;exact ⟨hrow4,hb4⟩)
   obtain ⟨hrow4,hb4⟩:=hcut
   have row4 : wc.heap[g]? = some (.cells ((nth (gF P low A Bb m k) 0 :: (gF P low A Bb m k).dropLast).map (Value.int .i64)).toArray 3 (0,0)):=by have h:=hrow4.out;rw [C1 _ (by omega)] at h;exact h
   clear hrow4 b4 b5
   have hl4 : (nth (gF P low A Bb m k) 0 :: (gF P low A Bb m k).dropLast).length=m:=by simp [hlen];omega
   obtain ⟨c4,f4⟩:=sK row4 0 (by omega)
   have row5:=rp row4 0 0
   have hb5:=hb4.setCell (p:=⟨g,0,none⟩) hg (.int .i64 0)
   rw [Nk] at row5
   change (wc.setCell ⟨g,0,none⟩ (.int .i64 0)).heap[g]? = some (.cells ((shl (gF P low A Bb m k)).map (Value.int .i64)).toArray 3 (0,0)) at row5
   have hls:=En (gF P low A Bb m k) (by omega)
   have hds:=eD.shl (show 0<P by omega) hdg
   go_wp2_with fail
   generalize wc.setCell ⟨g,0,none⟩ (.int .i64 0)=w5 at *
   have hnx : gF P low A Bb m (k+1)=qP P low A m (nth Bb i) (gF P low A Bb m k):=by rw [Hik.out];rfl
   have Hnx:=Z5 hnx
   clear hnx
   have hN:=kU P low A m (nth Bb i) (gF P low A Bb m k)
   have htop:=hdg (m - 1)
   generalize hO : gF P low A Bb m k=O at *
   generalize hS : shl O=S at *
   generalize hNN : qP P low A m (nth Bb i) O=N at *
   have HNN:=Z5 hNN
   have HS:=Z5 hS
   clear hNN hS hO
   have hi2i:=hi2r.cell i (by omega)
   have hpa1:=hi1.pl
   have hpa2:=hi2.pl
   have hpam:=hmod.pl
   go_loopw [54] (λjv wx=>∃j : Nat,j<=m/\jv = .int .i64 j/\wx.heap[g]? = some (.cells ((jk N S j).map (Value.int .i64)).toArray 3 (0,0))/\SW w2 wx)
    (λjv _=>m - (intOf jv).toNat)
   case atStart=>exact ⟨0,Ni _,rfl,by rw [gR];exact row5,hb5⟩
   case round =>
    obtain ⟨j,hj,rfl,hrowj,hbj⟩:=hrel
    by_cases hjm : j<m
    ·have q0j:=aB hbj q0
     have q1j:=aB hbj q1
     have q2j:=aB hbj q2
     have ha:=(hi1.ah hbj).cell j hjm
     have hb:=(hi2.ah hbj).cell i (by omega)
     obtain ⟨cj,fj⟩:=sK hrowj j (by rw [kX _ _ _ (by omega) (by omega)];omega)
     rw [fI _ _ _ _ (by omega) (by omega),Nf (by omega)] at cj
     have d1:=hds j
     have d2:=hdA j
     have d3:=hdB i
     by_cases h1m : 1<m
     ·have hlo : nth mod j=nth low j:=by rw [<- HLow.out];simp [qJ,h1m]
      have hmnm:=hlow h1m
      clear hlow
      subst hmnm
      have hcm:=(hmod.ah hbj).cell j hjm
      have dl:=hdig j
      rw [hlo] at hcm dl
      clear hlo
      go_wp2_with fail
      have e1 : (0 : Int)<=(P - nth O (mn - 1)) * nth low j/\(P - nth O (mn - 1)) * nth low j<=65536:=pX (by omega) (by omega) (by omega) (by omega)
      have e2 : (0 : Int)<=nth Bb i * nth A j/\nth Bb i * nth A j<=65536:=pX (by omega) (by omega) (by omega) (by omega)
      have hP0 : P ≠ 0:=by omega
      have r1 : IntKind.i64.wrap (P - nth O (mn - 1))=P - nth O (mn - 1):=Ns _ (by omega)
      have r2 : IntKind.i64.wrap ((P - nth O (mn - 1)) * nth low j)=(P - nth O (mn - 1)) * nth low j:=Ns _ (by omega)
      have r3 : IntKind.i64.wrap (nth S j+(P - nth O (mn - 1)) * nth low j)=nth S j+(P - nth O (mn - 1)) * nth low j:=Ns _ (by omega)
      have r4 : IntKind.i64.wrap (nth Bb i * nth A j)=nth Bb i * nth A j:=Ns _ (by omega)
      have r5 : IntKind.i64.wrap (nth S j+(P - nth O (mn - 1)) * nth low j+nth Bb i * nth A j)=nth S j+(P - nth O (mn - 1)) * nth low j+nth Bb i * nth A j:=Ns _ (by omega)
      have r6 : (nth S j+(P - nth O (mn - 1)) * nth low j+nth Bb i * nth A j).tmod P=(nth S j+(P - nth O (mn - 1)) * nth low j+nth Bb i * nth A j) % P:=Ox _ _ (by omega)
      have r7 : ((nth S j+(P - nth O (mn - 1)) * nth low j+nth Bb i * nth A j) % P)=nth N j:=by rw [<- HNN.out,qy _ _ _ _ _ _ _ hjm,HS.out];rfl
      have R7:=Z5 r7
      clear r7
      go_still_tail 27,(by kernel_rfl)
      change wpList _ _ _ _ _ wr.drew
      generalize hwd : wr.drew=wd
      have fd : wd.frozen? ⟨g,j,none⟩=false:=by rw [<- hwd];exact fj
      have cd : wd.cell? ⟨g,j,none⟩=some (.int .i64 (nth S j)):=by rw [<- hwd];exact cj
      have Hwd:=Z5 hwd
      clear hwd r1 r2 r3 r4 r5 r6
      go_wp2_with fail
      go_roundw
      case rel =>
       obtain rfl:=Hwd.out
       refine ⟨j+1,by omega,by go_num,?_,hbj.drew.setCell hg _⟩
       rw [R7.out]
       have h:=rp (w:=wr.drew) hrowj j (nth N j)
       rwa [gD _ _ _ (by omega) (by omega)] at h
      case measure=>simp [intOf] <;> omega
     ·have hlo : nth low j=0:=by rw [<- HLow.out,qJ,Nf h1m,show j=0 from by omega];rfl
      have Hlo:=Z5 hlo
      go_wp2_with fail
      have e2 : (0 : Int)<=nth Bb i * nth A j/\nth Bb i * nth A j<=65536:=pX (by omega) (by omega) (by omega) (by omega)
      have hP0 : P ≠ 0:=by omega
      have r1 : IntKind.i64.wrap (P - nth O (m - 1))=P - nth O (m - 1):=Ns _ (by omega)
      have r4 : IntKind.i64.wrap (nth Bb i * nth A j)=nth Bb i * nth A j:=Ns _ (by omega)
      have r5 : IntKind.i64.wrap (nth S j+nth Bb i * nth A j)=nth S j+nth Bb i * nth A j:=Ns _ (by omega)
      have r6 : (nth S j+nth Bb i * nth A j).tmod P=(nth S j+nth Bb i * nth A j) % P:=Ox _ _ (by omega)
      have r7 : ((nth S j+nth Bb i * nth A j) % P)=nth N j:=by rw [<- HNN.out,qy _ _ _ _ _ _ _ hjm,HS.out,EI,hlo,Rz,Int.add_zero]
      have R7:=Z5 r7
      clear r7 hlo
      go_still_tail 27,(by kernel_rfl)
      change wpList _ _ _ _ _ wr.drew
      generalize hwd : wr.drew=wd
      have fd : wd.frozen? ⟨g,j,none⟩=false:=by rw [<- hwd];exact fj
      have cd : wd.cell? ⟨g,j,none⟩=some (.int .i64 (nth S j)):=by rw [<- hwd];exact cj
      have Hwd:=Z5 hwd
      clear hwd r1 r4 r5 r6
      go_wp2_with fail
      go_roundw
      case rel =>
       obtain rfl:=Hwd.out
       refine ⟨j+1,by omega,by go_num,?_,hbj.drew.setCell hg _⟩
       rw [R7.out]
       have h:=rp (w:=wr.drew) hrowj j (nth N j)
       rwa [gD _ _ _ (by omega) (by omega)] at h
      case measure=>simp [intOf] <;> omega
    ·obtain rfl : j=m:=by omega
     rw [iW _ _ _ hN (by omega),<- Hnx.out] at hrowj
     go_wp2_with fail
     go_roundw
     case rel=>exact ⟨k+1,by omega,by have:=Hik.out;go_num,hrowj,hbj⟩
     case measure=>simp [intOf] <;> omega
  ·obtain rfl : k=m:=by omega
   have hrg : Ints wr (some ⟨g,0,none⟩) k (gF P low A Bb k k) :=
    (R6 (ED (B:=0) (Ni _) hrow (by simp [hlen]) (by unfold maxLen;omega))).1
   have hfin : valu P (gF P low A Bb k k)=dQ P k mod x y:=Hfin.symm
   go_wp2_with fail
   refine (B5 _ _ _ _ P _ hrg (by omega) (λj=>?_)).mono ?_
   ·have h1:=eD.EN (show 0<P by omega) hdg hlen HPw.out j
    have h2:=hdg j
    have h3:=Py h1.1 (show 0<=P by omega)
    have h4 : valu P ((gF P low A Bb k k).drop j) * P<=256 * 256:=OR (by omega) hp256 (by omega) (by omega)
    omega
   rintro e w5 ⟨rfl,rfl⟩
   rw [hfin]
   clear hfin
   go_wp2
   go_ret
   exact ⟨rfl,RZ hbw hbr⟩
end Go.Proofs.YthglbncgemdcbaaGreat
