import Derived.Test.YthglbncgemdcbaaGreatS7
import Derived.Test.YthglbncgemdcbaaGreatS8
namespace Go.Proofs.YthglbncgemdcbaaGreat
set_option linter.all false
set_option maxRecDepth 100000
set_option maxHeartbeats 8000000
open Go.RowKit Go.Proofs.Tryz
theorem aT.B4 (w : World) (B : Nat) : aT w B none 0 0 [] [] :=
 ⟨rfl,rfl,bV,λi hi=>by omega,λi hi=>by omega,λi j hi=>by omega⟩
theorem j7 (P : Int) (m : Nat) (am : OA) (mn cm : Nat) (mod : Lz) (av : OA) (n cv : Nat) (v : Lz) (s : Int) (au : OA) (cu : Nat) (u : Lz) (w : World) (hf : uM w P m am mn mod) (hs : gq P m s)
  (hi : Ints w av n v) (hu : Ints w au n u) (hve : ∀x ∈ v,gq P m x) (hue : ∀x ∈ u,gq P m x) (hn : n<=1000000) :
  Calls prog 227 #[.agg #[.int .i64 P,.int .i64 m,.slice am mn cm],.slice av n cv,.int .i64 s,.slice au n cu] w (b8 w (bR (kM P m mod) v s u)):=by
 have hrf:=hf.rf;have Hs:=Z5 (hrf.jR hs);have Hvl:=Z5 hi.len;have Hul:=Z5 hu.len;have hplv:=hi.pl;have hplu:=hu.pl;have Hev : Hid (∀k,k<n->jR (aJ P m) (nth v k)=true):=λk hk=>hrf.jR (hve _ (aH (by rw [hi.len];exact hk)));have Heu : Hid (∀k,k<n->jR (aJ P m) (nth u k)=true):=λk hk=>hrf.jR (hue _ (aH (by rw [hu.len];exact hk)));have HNl : Hid ((bR (kM P m mod) v s u).length=n):=by show _=_;rw [bY _ _ _ _ (by rw [hi.len,hu.len]),hi.len]
 have HNn : Hid (∀k,k<n->nth (bR (kM P m mod) v s u) k=if nth u k=0 then nth v k else fsum P m (nth v k) (mulR P m mod s (nth u k))):=λk hk=>gP (kM P m mod) v s u k (by rw [hi.len,hu.len]) (by rw [hi.len];exact hk);obtain ⟨NN,hNN⟩ : ∃NN,bR (kM P m mod) v s u=NN:=⟨_,rfl⟩
 rw [hNN] at HNl HNn;rw [hNN];clear hve hue hNN;go_enter func227,ntmps227;go_wp2_with (at_make;refine bS rfl _ _ 22 3 rfl (.int .i64 0) 8 underlying22 aU rfl n rfl rfl (by omega) (by unfold maxLen;omega) ?_;intro a1 w1 hown hbel hge hlt);obtain ⟨W,hW⟩ : ∃W : World,W=w.alloc (.cells #[.int .i64 P,.int .i64 m,.slice am mn cm] 24):=⟨_,rfl⟩
 rw [<- hW] at hown hbel hge;have hbW : SW w W:=by rw [hW];exact an _ _
 have x0 : aN W w.heap.size [.int .i64 P,.int .i64 m,.slice am mn cm]:=by rw [hW];exact R9 _ _ _ rfl
 have hfW:=hf.ah hbW;have hiW:=hi.ah hbW;have huW:=hu.ah hbW;have hS : ∀k,k<n->∀V,SW W V->V.cell? ⟨w.heap.size,0,none⟩=some (.int .i64 P)/\V.cell? ⟨w.heap.size,1,none⟩=some (.int .i64 m)/\V.cell? ⟨w.heap.size,2,none⟩=some (.slice am mn cm) /\
   V.cell? ⟨ablk av,aK av+k,none⟩=some (.int .i64 (nth v k))/\V.cell? ⟨ablk au,aK au+k,none⟩=some (.int .i64 (nth u k))/\SW W V:=by intro k hk V hV;have x1:=x0.ah hV;exact ⟨x1.cell 0 rfl,x1.cell 1 rfl,x1.cell 2 rfl,(hiW.ah hV).cell k hk,(huW.ah hV).cell k hk,hV⟩
 have HS:=Z5 hS;clear hW x0 hS;go_loopw [10] (λiv wr=>∃k : Nat,k<=n/\iv = .int .i64 k /\
   wr.ownsRow W.heap.size 3 1 (.slice a1 n n) n ((dC (NN.take k) k n).map (Value.int .i64))/\SW W wr)
  (λi _=>n - (intOf i).toNat)
 case atStart=>exact ⟨0,Ni _,rfl,by simpa [dC] using hown,hbel⟩
 case round =>
  obtain ⟨k,hk,rfl,hown,hbel⟩:=hrel
  obtain ⟨hints,hmine⟩:=R6 hown
  have hpl1:=hints.pl
  by_cases hlt : k<n
  ·have hB:=(hmine (by omega)).1
   have cc:=hints.cell k hlt
   have cf:=(hmine (by omega)).2 k hlt
   obtain ⟨d0,d1,d2,d3,d4,_⟩:=HS.out k hlt wr hbel
   have hset : ∀(V : World) (z : Int),z=nth NN k->V.ownsRow W.heap.size 3 1 (.slice a1 n n) n ((dC (NN.take k) k n).map (Value.int .i64))->(V.setCell ⟨ablk a1,aK a1+k,none⟩ (.int .i64 z)).ownsRow W.heap.size 3 1 (.slice a1 n n) n ((dC (NN.take (k+1)) (k+1) n).map (Value.int .i64)):=by rintro V z rfl hV;have h:=bK hV k hlt (.int .i64 (nth NN k));rw [<- NF,fW _ _ _ _ (by simp [HNl.out];omega) hlt] at h;rw [Nj (by rw [HNl.out];omega)];rw [aj (by rw [HNl.out];omega)] at h ⊢;exact h
   have Hset:=Z5 hset
   have HB:=Z5 hB
   have hNk:=HNn.out k hlt
   have hown':=bK hown k hlt (.int .i64 (nth v k))
   by_cases hz : nth u k=0
   ·rw [Nd hz] at hNk
    have hz' : (nth u k != 0)=false:=by simpa using hz
    have HNk:=Z5 hNk
    have dd : (wr.setCell ⟨ablk a1,aK a1+k,none⟩ (.int .i64 (nth v k))).cell? ⟨ablk au,aK au+k,none⟩=some (.int .i64 (nth u k)):=(HS.out k hlt _ (hbel.setCell hB _)).2.2.2.2.1
    clear hset hz hNk hown'
    go_wp2_with fail
    go_roundw
    case rel=>exact ⟨k+1,by omega,by go_num,Hset.out _ _ HNk.out.symm hown,hbel.setCell HB.out _⟩
    case measure=>simp [intOf] <;> omega
   ·rw [Nf hz] at hNk
    have hz' : (nth u k != 0)=true:=by simpa using hz
    have HNk:=Z5 hNk
    obtain ⟨U,hU⟩ : ∃U : World,U=wr.setCell ⟨ablk a1,aK a1+k,none⟩ (.int .i64 (nth v k)):=⟨_,rfl⟩
    have hbU : SW W U:=by rw [hU];exact hbel.setCell hB _
    have dd : (wr.setCell ⟨ablk a1,aK a1+k,none⟩ (.int .i64 (nth v k))).cell? ⟨ablk au,aK au+k,none⟩=some (.int .i64 (nth u k)):=(HS.out k hlt _ (hbel.setCell hB _)).2.2.2.2.1
    rw [<- hU] at hown'
    have hmdU:=(hfW.ah hbU).mods
    have Hmd : Hid (∀V,SW U V->B7 V P m am mn mod):=λV hV=>hmdU.ah hV
    have HK : Hid (∀V,SW U V->(∃y,V.cell? ⟨ablk a1,aK a1+k,none⟩=some y)/\V.frozen? ⟨ablk a1,aK a1+k,none⟩=false/\V.ownsRow W.heap.size 3 1 (.slice a1 n n) n (((dC (NN.take k) k n).map (Value.int .i64)).set k (.int .i64 (nth v k)))):=λV hV=>by have ho:=bd hown' hV;have h5:=cJ ho k hlt;exact ⟨⟨_,by rw [h5.1,NQ (by rw [h5.2.2.2.1];exact hlt)]⟩,h5.2.1,ho⟩
    have HbU:=Z5 hbU
    have HelM : Hid (jR (aJ P m) (mulR P m mod s (nth u k))=true):=hrf.jR (AX hrf mod _ _)
    have HSk : Hid (∀V,SW W V->V.cell? ⟨w.heap.size,0,none⟩=some (.int .i64 P)/\V.cell? ⟨w.heap.size,1,none⟩=some (.int .i64 m)/\V.cell? ⟨w.heap.size,2,none⟩=some (.slice am mn cm) /\
     V.cell? ⟨ablk av,aK av+k,none⟩=some (.int .i64 (nth v k))/\V.cell? ⟨ablk au,aK au+k,none⟩=some (.int .i64 (nth u k))/\SW W V):=HS.out k hlt
    have hset2 : ∀V : World,V.ownsRow W.heap.size 3 1 (.slice a1 n n) n (((dC (NN.take k) k n).map (Value.int .i64)).set k (.int .i64 (nth v k))) ->
      (V.setCell ⟨ablk a1,aK a1+k,none⟩ (.int .i64 (fsum P m (nth v k) (mulR P m mod s (nth u k))))).ownsRow W.heap.size 3 1 (.slice a1 n n) n ((dC (NN.take (k+1)) (k+1) n).map (Value.int .i64)):=by intro V hV;rw [<- HNk.out];have h:=bK hV k hlt (.int .i64 (nth NN k));rw [List.set_set,<- NF,fW _ _ _ _ (by simp [HNl.out];omega) hlt] at h;rw [Nj (by rw [HNl.out];omega)];rw [aj (by rw [HNl.out];omega)] at h ⊢;exact h
    have Hset2:=Z5 hset2
    clear hset hz hNk hown' hmdU hbU hset2
    go_wp2_with fail
    rw [<- hU]
    clear hU d0 d1 d2 d3 d4 cc cf dd hbel hints hmine hown hB
    go_region_held3 (λV=>V.cell? ⟨w.heap.size,0,none⟩=some (.int .i64 P)/\V.cell? ⟨w.heap.size,1,none⟩=some (.int .i64 m)/\V.cell? ⟨w.heap.size,2,none⟩=some (.slice am mn cm) /\
      V.cell? ⟨ablk av,aK av+k,none⟩=some (.int .i64 (nth v k))/\V.cell? ⟨ablk au,aK au+k,none⟩=some (.int .i64 (nth u k))/\SW W V)
     ((refine HSk.out _ ?_;first | exact HbU.out.drew | exact RZ HbU.out hb7 | exact RZ HbU.out hb9 | exact (RZ HbU.out hb9).setCell HB.out _))
     (first
      | (go_at_call 114;((with_reducible refine (vJ P m am mn cm mod s (nth u k) _ hrf (Hmd.out _ (Nc _ _).drew) Hs.out (Heu.out k hlt)).mono ?_);rintro e w4 ⟨rfl,hb4⟩;have hb7 : SW U w4:=RZ (Nc _ _).drew hb4))
      | (go_at_call 113;((with_reducible refine (J2 P m am mn cm (nth v k) (mulR P m mod s (nth u k)) _ hrf (Hev.out k hlt) HelM.out).mono ?_);rintro e w5 ⟨rfl,hb5⟩;have hb9 : SW U w5:=RZ hb7 hb5;obtain ⟨⟨v9,k9⟩,f9,o9⟩:=HK.out w5 hb9)))
    clear k9 f9
    go_wp2_with fail
    go_roundw
    case rel=>exact ⟨k+1,by omega,by go_num,Hset2.out _ o9,(RZ HbU.out hb9).setCell HB.out _⟩
    case measure=>simp [intOf] <;> omega
  ·obtain rfl : k=n:=by omega
   have hfin : dC (NN.take k) k k=NN:=by rw [gS,No (by rw [HNl.out];exact Na _)]
   rw [hfin] at hown
   clear hfin
   go_wp2_with fail
   go_ret
   exact ⟨a1,k,by rw [HNl.out];rfl,by rw [HNl.out];exact aX hown hbW.size,RZ hbW hbel⟩
theorem F3 (a : OA) (n c : Nat) (L : ZZ) (w : World) (hi : br w a n L) (hn : n<=1000000) (hL : ∀l ∈ L,l.length<=1000000) :
  Calls prog 224 #[.slice a n c] w (JM w L):=by
 have hpl:=hi.pl;have Hlen:=Z5 hi.len;have HL:=Z5 hL;clear hL;go_enter func224,ntmps224;go_wp2_with fail;go_loopw [3,4] (λsv iv wr=>∃(k : Nat) (a1 : OA) (c1 : Nat),k<=n/\iv = .int .i64 k/\sv = .slice a1 k c1/\(∃R,aT wr w.heap.size a1 k c1 R (L.take k))/\SW w wr) (λ_ iv _=>n - (intOf iv).toNat);case atStart=>exact ⟨0,none,0,Ni _,rfl,rfl,⟨[],by simpa using aT.B4 w w.heap.size⟩,Nc _ _⟩
 case round =>
  obtain ⟨k,a1,c1,hk,rfl,rfl,⟨R,hO⟩,hbr⟩:=hrel
  by_cases hlt : k<n
  ·obtain ⟨ra,rn,rc,hcell,hrow⟩:=(hi.ah hbr).cell k hlt
   have hkL : k<L.length:=by rw [Hlen.out];exact hlt
   have hrl : rn<=1000000:=by rw [<- hrow.len,aC hkL];exact HL.out _ (NO hkL)
   have hO1:=fA wr 3
   have hbe:=an wr (.cells #[] 3)
   obtain ⟨l,hl⟩ : ∃l,ai L k=l:=⟨_,rfl⟩
   rw [hl] at hrow
   have Htk : Hid (L.take (k+1)=L.take k ++ [l]):=by show _=_;rw [Nj hkL,<- hl,aC hkL]
   have hrowe:=hrow.ah hbe
   have hcell2:=bu hcell (.cells #[] 3)
   have hpr:=hrow.pl
   have Hrl:=Z5 hrow.len
   have hsz:=hbr.size
   clear hl
   go_wp2_with (at_builtin;first
    | (refine dH (by rfl) (.tmp 12) (.tmp 16) 22 3 (by rfl) (.int .i64 0) 8 underlying22 aU (by rfl) wr.heap.size _ 0 0 [] (by rfl) hO1 ra rn rc (l.map (Value.int .i64)) (by rfl) hpr (by simp [Hrl.out]) (Si hrowe) (ints_oneCell _ _) (by omega) (by unfold maxLen;omega) (Om hbe) ?_;intro a3 c3 w3 hown3 hgr3 hap3;have hb3 : SW wr w3:=Sa (B:=wr.heap.size) (e:=3) (xs:=[]) hbe hO1 hgr3 (Na _) (Om hbe);rw [OI] at hown3 ⊢;rw [N5] at hown3)
    | (refine aO rfl _ _ 25 22 rfl (.slice none 0 0) 24 underlying25 df rfl w.heap.size a1 k c1 _ rfl ((hO.ah (RZ hb3 (an _ _))).own) ⟨w3.heap.size,0,none⟩ 1 (.slice a3 rn c3) rfl (ba w3 _ _) rfl (by omega) (by unfold maxLen;omega) (by have h1:=Om hb3;simp;omega) ?_;intro a5 c5 w5 hown5 hgr5 hap5)
    | fail)
   go_roundw
   case rel =>
    have hb4 : SW wr (w3.alloc (.cells #[.slice a3 rn c3] 22)):=RZ hb3 (an _ _)
    have hO4:=hO.ah hb4
    have hown4 : (w3.alloc (.cells #[.slice a3 rn c3] 22)).ownsRow w.heap.size 3 1 (.slice a3 l.length c3) l.length (l.map (Value.int .i64)):=by rw [Hrl.out];exact aX (bd hown3 (an _ _)) hsz
    have hra : a3 ≠ none->¬ cU a1 R (ablk a3):=λh0 hI=>by have h1:=(aY hown3 h0).1;have h2:=(hO.lt _ hI).2;omega
    have hP:=Sk hO4 hown4 hra (by rw [Hrl.out];exact hown5) hgr5 hap5
    have hb5 : SW w w5:=Sa (RZ hbr hb4) hO4.own hgr5 (Na _) (Nr hsz hb4.size)
    exact ⟨k+1,a5,c5,by omega,by go_num,rfl,⟨_,by rw [Htk.out];exact hP⟩,hb5⟩
   case measure=>simp [intOf] <;> omega
  ·obtain rfl : k=n:=by omega
   rw [No (by rw [Hlen.out];exact Na _)] at hO
   go_wp2_with fail
   go_ret
   exact ⟨a1,c1,R,by rw [Hlen.out];rfl,by rw [Hlen.out];exact hO,hbr⟩
section
namespace bF
variable {O : aL} {El : Int->Prop} (F : bF O El)
include F
theorem tI {x : Int} (hx : El x) : O.add 0 x=x:=by rw [F.add_comm _ _ F.zero hx,F.add_zero x hx]
theorem lB {x : Int} (hx : El x) : O.add (O.neg x) x=0:=by rw [F.add_comm _ _ (F.cl.neg x hx) hx,F.add_neg x hx]
theorem Mv {x y : Int} (hx : El x) (hy : El y) : O.add (O.neg x) (O.add x y)=y:=by rw [<- F.add_assoc _ _ _ (F.cl.neg x hx) hx hy,F.lB hx,F.tI hy]
theorem cancel {x y z : Int} (hx : El x) (hy : El y) (hz : El z) (h : O.add x y=O.add x z) : y=z:=by rw [<- F.Mv hx hy,h,F.Mv hx hz]
theorem cQ {x : Int} (hx : El x) : O.mul x 0=0:=by have h0:=F.cl.mul x 0 hx F.zero;refine F.cancel h0 h0 F.zero ?_;rw [<- F.mul_add x 0 0 hx F.zero F.zero,F.add_zero 0 F.zero,F.add_zero _ h0]
theorem iS {x : Int} (hx : El x) : O.mul 0 x=0:=by rw [F.mul_comm _ _ F.zero hx,F.cQ hx]
theorem ie {x : Int} (hx : El x) : O.mul x 1=x:=by rw [F.mul_comm _ _ hx F.one,F.one_mul x hx]
theorem iH {x y : Int} (hx : El x) (hy : El y) (h : O.add x y=0) : y=O.neg x :=
 F.cancel hx hy (F.cl.neg x hx) (by rw [h,F.add_neg x hx])
theorem dR : O.neg 0=0:=(F.iH F.zero F.zero (F.add_zero 0 F.zero)).symm
theorem mul_neg {x y : Int} (hx : El x) (hy : El y) : O.mul x (O.neg y)=O.neg (O.mul x y):=by have hn:=F.cl.neg y hy;refine F.iH (F.cl.mul x y hx hy) (F.cl.mul x _ hx hn) ?_;rw [<- F.mul_add x y _ hx hy hn,F.add_neg y hy,F.cQ hx]
theorem neg_mul {x y : Int} (hx : El x) (hy : El y) : O.mul (O.neg x) y=O.neg (O.mul x y):=by rw [F.mul_comm _ _ (F.cl.neg x hx) hy,F.mul_neg hy hx,F.mul_comm _ _ hy hx]
theorem zT {a b c d : Int} (ha : El a) (hb : El b) (hc : El c) (hd : El d) : O.add (O.add a b) (O.add c d)=O.add (O.add a c) (O.add b d):=by rw [F.add_assoc a b _ ha hb (F.cl.add c d hc hd),F.add_assoc a c _ ha hc (F.cl.add b d hb hd),<- F.add_assoc b c d hb hc hd,F.add_comm b c hb hc,F.add_assoc c b d hc hb hd]
theorem neg_add {x y : Int} (hx : El x) (hy : El y) : O.neg (O.add x y)=O.add (O.neg x) (O.neg y):=by have hnx:=F.cl.neg x hx;have hny:=F.cl.neg y hy;refine (F.iH (F.cl.add x y hx hy) (F.cl.add _ _ hnx hny) ?_).symm;rw [F.zT hx hy hnx hny,F.add_neg x hx,F.add_neg y hy,F.add_zero 0 F.zero]
theorem neg_neg {x : Int} (hx : El x) : O.neg (O.neg x)=x:=(F.iH (F.cl.neg x hx) hx (F.lB hx)).symm
theorem Al {x y : Int} (hx : El x) (hy : El y) (h0 : x ≠ 0) (h : O.mul x y=0) : y=0:=by have hi:=F.cl.inv x hx h0;rw [<- F.one_mul y hy,<- F.mul_inv x hx h0,F.mul_comm x _ hx hi,F.mul_assoc _ x y hi hx hy,h,F.cQ hi]
theorem comb {A B x A' B' R : Int} (hA : El A) (hB : El B) (hx : El x) (hA' : El A') (hB' : El B') (hR : El R) :
  O.add (O.add A (O.neg (O.mul x B))) (O.neg (O.mul (O.add A' (O.neg (O.mul x B'))) R))=O.add (O.add A (O.neg (O.mul A' R))) (O.neg (O.mul x (O.add B (O.neg (O.mul B' R))))):=by
 have m:=F.cl.mul;have n:=F.cl.neg;have h1:=m x B hx hB;have h2:=m A' R hA' hR;have hxB:=m x B' hx hB';have h3:=m _ R hxB hR;have hBR:=m B' R hB' hR;have e1 : O.mul (O.add A' (O.neg (O.mul x B'))) R=O.add (O.mul A' R) (O.neg (O.mul (O.mul x B') R)):=by rw [F.mul_comm _ R (F.cl.add _ _ hA' (n _ hxB)) hR,F.mul_add R _ _ hR hA' (n _ hxB),F.mul_comm R A' hR hA',F.mul_comm R _ hR (n _ hxB),F.neg_mul hxB hR]
 have e2 : O.mul x (O.add B (O.neg (O.mul B' R)))=O.add (O.mul x B) (O.neg (O.mul (O.mul x B') R)):=by rw [F.mul_add x _ _ hx hB (n _ hBR),F.mul_neg hx hBR,F.mul_assoc x B' R hx hB' hR]
 rw [e1,e2,F.neg_add h2 (n _ h3),F.neg_add h1 (n _ h3),F.neg_neg h3,F.zT hA (n _ h1) (n _ h2) h3,F.zT hA (n _ h2) (n _ h1) h3]
end bF
def Vc (El : Int->Prop) (n : Nat) (v : Lz) : Prop:=v.length=n/\∀y ∈ v,El y
theorem Vc.at {El : Int->Prop} {n : Nat} {v : Lz} (h : Vc El n v) {i : Nat} (hi : i<n) : El (nth v i):=h.2 _ (aH (by rw [h.1];exact hi))
theorem Vc.sub {O : aL} {El : Int->Prop} (F : bF O El) {n : Nat} {v r : Lz} {x : Int} (hv : Vc El n v) (hr : Vc El n r) (hx : El x) : Vc El n (ez O v x r) :=
 ⟨by rw [fZ _ _ _ _ (by rw [hr.1,hv.1])];exact hv.1,yZ F.cl hv.2 hr.2 hx⟩
theorem Vc.Im {O : aL} {El : Int->Prop} (F : bF O El) {n : Nat} {r : Lz} {x : Int} (hr : Vc El n r) (hx : El x) : Vc El n (r.map (O.mul x)) :=
 ⟨by rw [Nq];exact hr.1,λy hy=>by obtain ⟨z,hz,rfl⟩:=List.mem_map.1 hy;exact F.cl.mul _ _ hx (hr.2 z hz)⟩
structure nZ (O : aL) (El : Int->Prop) (n : Nat) (φ : Lz->Int) : Prop where
 el : ∀v,Vc El n v->El (φ v)
 sub : ∀v r x,Vc El n v->Vc El n r->El x->φ (ez O v x r)=O.add (φ v) (O.neg (O.mul x (φ r)))
 Im : ∀r x,Vc El n r->El x->φ (r.map (O.mul x))=O.mul x (φ r)
variable {O : aL} {El : Int->Prop} {n : Nat}
theorem ml (O : aL) (r : Lz) (x : Int) {i : Nat} (hi : i<r.length) : nth (r.map (O.mul x)) i=O.mul x (nth r i):=by rw [aj (by simpa using hi),aj hi];simp
theorem nZ.FI (F : bF O El) {i : Nat} (hi : i<n) : nZ O El n (λv=>nth v i) :=
 ⟨λv hv=>hv.at hi,λv r x hv hr hx=>ga O v x r i (by rw [hr.1,hv.1]) (by rw [hv.1];exact hi),λr x hr hx=>ml O r x (by rw [hr.1];exact hi)⟩
theorem nZ.congr (F : bF O El) {φ ψ : Lz->Int} (h : nZ O El n φ) (e : ∀v,Vc El n v->ψ v=φ v) : nZ O El n ψ :=
 ⟨λv hv=>by rw [e v hv];exact h.el v hv,λv r x hv hr hx=>by rw [e _ (hv.sub F hr hx),e v hv,e r hr];exact h.sub v r x hv hr hx,
  λr x hr hx=>by rw [e _ (hr.Im F hx),e r hr];exact h.Im r x hr hx⟩
theorem nZ.comb (F : bF O El) {φ ψ : Lz->Int} (h : nZ O El n φ) (g : nZ O El n ψ) {s : Int} (hs : El s) : nZ O El n (λv=>O.add (φ v) (O.neg (O.mul (ψ v) s))) :=
 ⟨λv hv=>F.cl.add _ _ (h.el v hv) (F.cl.neg _ (F.cl.mul _ _ (g.el v hv) hs)),
  λv r x hv hr hx=>by show O.add (φ (ez O v x r)) (O.neg (O.mul (ψ (ez O v x r)) s))=_;rw [h.sub v r x hv hr hx,g.sub v r x hv hr hx];exact F.comb (h.el v hv) (h.el r hr) hx (g.el v hv) (g.el r hr) hs,
  λr x hr hx=>by show O.add (φ (r.map (O.mul x))) (O.neg (O.mul (ψ (r.map (O.mul x))) s))=_;rw [h.Im r x hr hx,g.Im r x hr hx,F.mul_assoc x _ s hx (g.el r hr) hs,<- F.mul_neg hx (F.cl.mul _ _ (g.el r hr) hs),<- F.mul_add x _ _ hx (h.el r hr) (F.cl.neg _ (F.cl.mul _ _ (g.el r hr) hs))]⟩
def jE (O : aL) (El : Int->Prop) (n : Nat) (c : Nat->Lz) (l : Z6) (x : Nat) : Prop:=∀φ,nZ O El n φ->(∀y ∈ l,φ (c y)=0)->φ (c x)=0
theorem As (F : bF O El) {c : Nat->Lz} (hc : ∀i,Vc El n (c i)) : ER (jE O El n c) where
 mem l x hx φ _ h:=h x hx
 mono l l' h y hy φ hφ h0:=hy φ hφ λx hx=>h x hx φ hφ h0
 exch l x y h hn:=by
  intro b hb h0;apply NH;intro hbx;apply hn;intro a ha ha0;apply NH;intro hay;have hax : a (c x) ≠ 0:=λe=>hay (h a ha λz hz=>by
   rcases List.mem_cons.1 hz with rfl | hz
   ·exact e
   ·exact ha0 z hz)
  have h1:=ha.el _ (hc x);have h2:=hb.el _ (hc x);have hbi:=F.cl.inv _ h2 hbx;have hs:=F.cl.mul _ _ hbi h1;have:=h _ (ha.comb F hb hs) λz hz=>by
   rcases List.mem_cons.1 hz with rfl | hz
   ·show O.add (a (c z)) (O.neg (O.mul (b (c z)) (O.mul (O.inv (b (c z))) (a (c z)))))=0;rw [<- F.mul_assoc _ _ _ h2 hbi h1,F.mul_inv _ h2 hbx,F.one_mul _ h1,F.add_neg _ h1]
   ·show O.add (a (c z)) (O.neg (O.mul (b (c z)) _))=0;rw [ha0 z hz,h0 z (List.mem_cons.2 (.inr hz)),F.iS hs,F.dR,F.add_zero 0 F.zero]
  have h3 : O.add (a (c y)) (O.neg (O.mul (b (c y)) (O.mul (O.inv (b (c x))) (a (c x)))))=0:=this;rw [h0 y (by simp),F.iS hs,F.dR,F.add_zero _ (ha.el _ (hc y))] at h3;exact hay h3
structure BS.Inv (El : Int->Prop) (n : Nat) (s : BS) : Prop where
 ok : s.Ok El n
 one : ∀i,i<s.rows.length->nth (ai s.rows i) (nth s.place i).toNat=1
 zero : ∀j i,j<i->i<s.rows.length->nth (ai s.rows i) (nth s.place j).toNat=0
theorem BS.Ok.row {s : BS} (h : s.Ok El n) {i : Nat} (hi : i<s.rows.length) : Vc El n (ai s.rows i):=h.rws.row hi
theorem BS.Ok.pl {s : BS} (h : s.Ok El n) {i : Nat} (hi : i<s.rows.length) : (nth s.place i).toNat<n:=by have:=h.plc i hi;omega
theorem Vc.eK (F : bF O El) {u r : Lz} {p : Int} (hu : Vc El n u) (hr : Vc El n r) (hp : p.toNat<n) : Vc El n (eK O u p r):=by
 unfold Go.Proofs.YthglbncgemdcbaaGreat.eK;split
 ·exact hu
 ·exact hu.sub F hr (hu.at hp)
theorem Vc.redTo (F : bF O El) {s : BS} (h : s.Ok El n) {v : Lz} (hv : Vc El n v) : ∀k,k<=s.rows.length->Vc El n (redTo O s.rows s.place v k)
 | 0,_=>hv
 | k+1,hk=>(Vc.redTo F h hv k (by omega)).eK F (h.row (by omega)) (h.pl (by omega))
theorem fP (F : bF O El) {u r : Lz} {p : Int} (hu : Vc El n u) (hr : Vc El n r) (hp : p.toNat<n) {i : Nat} (hi : i<n) :
  nth (eK O u p r) i=O.add (nth u i) (O.neg (O.mul (nth u p.toNat) (nth r i))):=by
 unfold eK;split
 ·rename_i h0;rw [h0,F.iS (hr.at hi),F.dR,F.add_zero _ (hu.at hi)]
 ·exact ga O u _ r i (by rw [hr.1,hu.1]) (by rw [hu.1];exact hi)
namespace BS.Inv
variable {s : BS}
theorem place (F : bF O El) (h : s.Inv El n) {v : Lz} (hv : Vc El n v) : ∀k,k<=s.rows.length->∀j,j<k->nth (redTo O s.rows s.place v k) (nth s.place j).toNat=0
 | 0,_,j,hj=>by omega
 | k+1,hk,j,hj=>by
  have hu:=Vc.redTo F h.ok hv k (by omega);have hpk:=h.ok.pl (i:=k) (by omega);have hpj:=h.ok.pl (i:=j) (by omega);rw [redTo,fP F hu (h.ok.row (by omega)) hpk hpj];by_cases e : j=k
  ·subst e;rw [h.one j (by omega),F.ie (hu.at hpk),F.add_neg _ (hu.at hpk)]
  ·rw [place F h hv k (by omega) j (by omega),h.zero j k (by omega) (by omega),F.cQ (hu.at hpk),F.dR,F.add_zero 0 F.zero]
theorem stay (h : s.Inv El n) {i : Nat} (hi : i<s.rows.length) : ∀k,k<=i->redTo O s.rows s.place (ai s.rows i) k=ai s.rows i
 | 0,_=>rfl
 | k+1,hk=>by rw [redTo,stay h hi k (by omega),eK,Nd (h.zero k i (by omega) hi)]
theorem gone (F : bF O El) (h : s.Inv El n) {i : Nat} (hi : i<s.rows.length) : ∀k,i<k->k<=s.rows.length->∀t,t<n->nth (redTo O s.rows s.place (ai s.rows i) k) t=0
 | 0,hk,_,_,_=>by omega
 | k+1,hk,hkl,t,ht=>by
  have hu:=Vc.redTo F h.ok (h.ok.row hi) k (by omega);have hr:=h.ok.row (i:=k) (by omega);have hpk:=h.ok.pl (i:=k) (by omega);rw [redTo,fP F hu hr hpk ht];by_cases e : k=i
  ·subst e;rw [h.stay hi k (Na _),h.one k hi,F.one_mul _ (hr.at ht),F.add_neg _ (hr.at ht)]
  ·rw [gone F h hi k (by omega) (by omega) t ht,gone F h hi k (by omega) (by omega) _ hpk,F.iS (hr.at ht),F.dR,F.add_zero 0 F.zero]
theorem MY (F : bF O El) (h : s.Inv El n) : ∀k,k<=s.rows.length->∀i,i<n->nZ O El n (λv=>nth (redTo O s.rows s.place v k) i)
 | 0,_,i,hi=>nZ.FI F hi
 | k+1,hk,i,hi=>by have hpk:=h.ok.pl (i:=k) (by omega);have hr:=h.ok.row (i:=k) (by omega);refine nZ.congr F ((MY F h k (by omega) i hi).comb F (MY F h k (by omega) _ hpk) (hr.at hi)) λv hv=>?_;show nth (redTo O s.rows s.place v (k+1)) i=_;rw [redTo,fP F (Vc.redTo F h.ok hv k (by omega)) hr hpk hi]
theorem form (F : bF O El) (h : s.Inv El n) {φ : Lz->Int} (hφ : nZ O El n φ) (h0 : ∀i,i<s.rows.length->φ (ai s.rows i)=0) {v : Lz} (hv : Vc El n v) : ∀k,k<=s.rows.length->φ (redTo O s.rows s.place v k)=φ v
 | 0,_=>rfl
 | k+1,hk=>by
  have hu:=Vc.redTo F h.ok hv k (by omega);have hr:=h.ok.row (i:=k) (by omega);have hpk:=h.ok.pl (i:=k) (by omega);rw [redTo,eK];split
  ·exact form F h hφ h0 hv k (by omega)
  ·rw [hφ.sub _ _ _ hu hr (hu.at hpk),h0 k (by omega),F.cQ (hu.at hpk),F.dR,form F h hφ h0 hv k (by omega),F.add_zero _ (hφ.el v hv)]
end BS.Inv
theorem nZ.zero (F : bF O El) {φ : Lz->Int} (h : nZ O El n φ) {v : Lz} (hv : Vc El n v) (h0 : ∀i,i<n->nth v i=0) : φ v=0:=by
 have e : v=v.map (O.mul 0):=jn (by simp) λi hi=>by rw [ml O v 0 hi,F.iS (hv.at (by rw [<- hv.1];exact hi)),h0 i (by rw [<- hv.1];exact hi)]
 rw [e,h.Im v 0 hv F.zero,F.iS (h.el v hv)]
theorem ma (F : bF O El) {s : BS} (h : s.Inv El n) {v : Lz} (hv : Vc El n v) :
  s.eF O v=false ↔ ∀φ,nZ O El n φ->(∀i,i<s.rows.length->φ (ai s.rows i)=0)->φ v=0:=by
 have hu : Vc El n (s.red O v):=Vc.redTo F h.ok hv _ (Na _);constructor
 ·intro ht φ hφ h0;rw [<- h.form F hφ h0 hv _ (Na _)];refine hφ.zero F hu λi hi=>B3 (s.red O v) i ?_;have h1 : ¬ fnz (s.red O v)<(s.red O v).length:=by simpa [BS.eF] using ht
  have h2:=Ju (s.red O v);have:=hu.1;omega
 ·intro h0;apply NH;intro ht;have h1 : fnz (s.red O v)<(s.red O v).length:=by simpa [BS.eF] using ht
  have:=hu.1;exact pz _ h1 (h0 _ (h.MY F _ (Na _) _ (by omega)) λi hi=>h.gone F hi _ hi (Na _) _ (by omega))
theorem nB (L : ZZ) (r : Lz) (i : Nat) : ai (L ++ [r]) i=if i<L.length then ai L i else if i=L.length then r else ai [] 0:=by
 unfold ai;simp only [Ng];split
 ·rename_i h;rw [Ny h]
 ·rename_i h;split
  ·rename_i e;subst e;simp
  ·rename_i e;rw [Oo (by simp;omega)];simp
theorem kB (l : Lz) (r : Int) (i : Nat) : nth (l ++ [r]) i=if i<l.length then nth l i else if i=l.length then r else 0:=by
 unfold nth;simp only [Ng];split
 ·rename_i h;rw [Ny h]
 ·rename_i h;split
  ·rename_i e;subst e;simp
  ·rename_i e;rw [Oo (by simp;omega)];simp
theorem BS.Inv.next (F : bF O El) {s : BS} (h : s.Inv El n) {v : Lz} (hv : Vc El n v) : (s.next O v).Inv El n:=by
 refine ⟨h.ok.next F.cl hv,?_,?_⟩
 ·unfold BS.next;split
  ·rename_i ht;have hu : Vc El n (s.red O v):=Vc.redTo F h.ok hv _ (Na _);have hf : fnz (s.red O v)<(s.red O v).length:=by simpa [BS.eF] using ht
   have hne:=pz _ hf;have hl:=hu.1;have hel:=hu.at (i:=fnz (s.red O v)) (by omega);intro i hi;simp only [Nl,ND] at hi;simp only [nB,kB,h.ok.len];by_cases e : i<s.rows.length
   ·rw [Nd e,Nd e];exact h.one i e
   ·rw [Nf e,Nf e,Nd (by omega),Nd (by omega),Nb,ml O _ _ hf,F.mul_comm _ _ (F.cl.inv _ hel hne) hel,F.mul_inv _ hel hne]
  ·exact h.one
 ·unfold BS.next;split
  ·rename_i ht;have hu : Vc El n (s.red O v):=Vc.redTo F h.ok hv _ (Na _);have hf : fnz (s.red O v)<(s.red O v).length:=by simpa [BS.eF] using ht
   have hne:=pz _ hf;have hl:=hu.1;have hel:=hu.at (i:=fnz (s.red O v)) (by omega);intro j i hji hi;simp only [Nl,ND] at hi;simp only [nB,kB,h.ok.len];rw [Nd (show j<s.rows.length by omega)];by_cases e : i<s.rows.length
   ·rw [Nd e];exact h.zero j i hji e
   ·have hpj:=h.ok.pl (i:=j) (by omega);rw [Nf e,Nd (by omega),ml O _ _ (by omega),BS.red,h.place F hv _ (Na _) j (by omega)];exact F.cQ (F.cl.inv _ hel hne)
  ·exact h.zero
def Ki (O : aL) (El : Int->Prop) (n : Nat) (c : Nat->Lz) (l : Z6) (s : BS) : Prop :=
 ∀φ,nZ O El n φ->((∀y ∈ l,φ (c y)=0) ↔ ∀i,i<s.rows.length->φ (ai s.rows i)=0)
theorem Ki.next (F : bF O El) {c : Nat->Lz} (hc : ∀i,Vc El n (c i)) {l : Z6} {s : BS} (h : s.Inv El n) (hs : Ki O El n c l s) (x : Nat) : Ki O El n c (x :: l) (s.next O (c x)):=by
 intro φ hφ;have key : (∀i,i<s.rows.length->φ (ai s.rows i)=0)->((φ (c x)=0) ↔ ∀i,i<(s.next O (c x)).rows.length->φ (ai (s.next O (c x)).rows i)=0):=by
  intro h0;have hu : Vc El n (s.red O (c x)):=Vc.redTo F h.ok (hc x) _ (Na _);have hform:=h.form F hφ h0 (hc x) _ (Na _);unfold BS.next;split
  ·rename_i ht;have hf : fnz (s.red O (c x))<(s.red O (c x)).length:=by simpa [BS.eF] using ht
   have hne:=pz _ hf;have hl:=hu.1;have hel:=hu.at (i:=fnz (s.red O (c x))) (by omega);have hi:=F.cl.inv _ hel hne;have hscl:=hφ.Im _ _ hu hi;have hine : O.inv (nth (s.red O (c x)) (fnz (s.red O (c x)))) ≠ 0:=by intro e;have:=F.mul_inv _ hel hne;rw [e,F.cQ hel] at this;exact absurd this (by decide)
   constructor
   ·intro hx i hi2;simp only [Nl,ND] at hi2;simp only [nB];by_cases e : i<s.rows.length
    ·rw [Nd e];exact h0 i e
    ·rw [Nf e,Nd (by omega),hscl];show O.mul _ (φ (redTo O s.rows s.place (c x) s.rows.length))=0;rw [hform,hx,F.cQ hi]
   ·intro hall;have:=hall s.rows.length (by simp);simp only [nB] at this;rw [Nf (QI _),Nd trivial,hscl] at this;rw [<- hform];exact F.Al hi (hφ.el _ hu) hine this
  ·rename_i ht;exact ⟨λ_=>h0,λ_=>(ma F h (hc x)).1 (by simpa using ht) φ hφ h0⟩
 constructor
 ·intro hall;have h1 : ∀i,i<s.rows.length->φ (ai s.rows i)=0:=(hs φ hφ).1 λy hy=>hall y (List.mem_cons.2 (.inr hy));exact (key h1).1 (hall x (by simp))
 ·intro hall;have h1 : ∀i,i<s.rows.length->φ (ai s.rows i)=0:=by
   intro i hi;have hlen : s.rows.length<=(s.next O (c x)).rows.length:=by unfold BS.next;split <;> simp
   have:=hall i (by omega);unfold BS.next at this;split at this
   ·simp only [nB] at this;rw [Nd hi] at this;exact this
   ·exact this
  intro y hy;rcases List.mem_cons.1 hy with rfl | hy
  ·exact (key h1).2 hall
  ·exact (hs φ hφ).2 h1 y hy
def kz (Q : Lz) : Nat->Z6
 | 0=>[]
 | k+1=>(nth Q k).toNat :: kz Q k
theorem ey (Q : Lz) (x : Nat) : ∀k,x ∈ kz Q k ↔ ∃j,j<k/\(nth Q j).toNat=x
 | 0=>by simp [kz]
 | k+1=>by
  rw [kz,List.mem_cons,ey Q x k];constructor
  ·rintro (h | ⟨j,hj,h⟩)
   ·exact ⟨k,by omega,h.symm⟩
   ·exact ⟨j,by omega,h⟩
  ·rintro ⟨j,hj,h⟩;by_cases e : j=k
   ·subst e;exact .inl h.symm
   ·exact .inr ⟨j,by omega,h⟩
theorem cH {m : Nat} {L : ZZ} (h : bp El m L) (h0 : El 0) (i : Nat) : Vc El L.length (aR L i):=by
 refine ⟨db _ _,λy hy=>?_⟩;unfold aR at hy;obtain ⟨r,hr,rfl⟩:=List.mem_map.1 hy;by_cases hi : i<m
 ·exact (h r hr).2 _ (aH (by rw [(h r hr).1];exact hi))
 ·have : nth r i=0:=by unfold nth;rw [Ng,Oo (by rw [(h r hr).1];omega)];rfl
  rw [this];exact h0
theorem zP (F : bF O El) {m : Nat} {L : ZZ} (hL : bp El m L) (Q : Lz) : ∀k,(grTo O L Q k).1.Inv El L.length/\Ki O El L.length (aR L) (kz Q k) (grTo O L Q k).1 /\
  Rk (jE O El L.length (aR L)) (kz Q k) (grTo O L Q k).2.length
 | 0=>⟨⟨⟨λr hr=>by simp [grTo] at hr,rfl,λi hi=>by simp [grTo] at hi⟩,λi hi=>by simp [grTo] at hi,λj i _ hi=>by simp [grTo] at hi⟩,λφ _=>⟨λ_ i hi=>by simp [grTo] at hi,λ_ y hy=>by simp [kz] at hy⟩,.nil⟩
 | k+1=>by
  obtain ⟨h1,h2,h3⟩:=zP F hL Q k;have hc:=cH hL F.zero;refine ⟨h1.next F (hc _),h2.next F hc h1 _,?_⟩;have htk:=ma F h1 (hc (nth Q k).toNat);have hcl : jE O El L.length (aR L) (kz Q k) (nth Q k).toNat ↔ (grTo O L Q k).1.eF O (aR L (nth Q k).toNat)=false:=by rw [htk];exact ⟨λh φ hφ h0=>h φ hφ ((h2 φ hφ).2 h0),λh φ hφ h0=>h φ hφ ((h2 φ hφ).1 h0)⟩
  rw [kz,grTo];by_cases ht : (grTo O L Q k).1.eF O (aR L (nth Q k).toNat)=true
  ·rw [Nd ht];simp only [Nl,ND];exact .ind _ (λh=>by rw [hcl.1 h] at ht;simp at ht) h3
  ·rw [Nf ht];exact .dep _ (hcl.2 (by simpa using ht)) h3
theorem oK (F : bF O El) {m : Nat} {L : ZZ} (hL : bp El m L) (Q : Lz) : Rk (jE O El L.length (aR L)) (kz Q Q.length) (kC O L Q).length:=(zP F hL Q Q.length).2.2
theorem fM (F : bF O El) {m : Nat} {L : ZZ} (hL : bp El m L) : ER (jE O El L.length (aR L)):=As F (cH hL F.zero)
end
theorem A1 (L : ZZ) (t : Nat) : bt L t t=L:=by rw [bt,pa,pa]
theorem aT.newRow {V V5 : World} {B : Nat} {a : OA} {n c : Nat} {R : Z4} {L : ZZ} (h : aT V B a n c R L) {i : Nat} (hi : i<n) (hb : SW V V5) (hB : B<=V.heap.size) {a5 : OA} {c5 : Nat} {l : Lz}
  (hown : V5.ownsRow V.heap.size 3 1 (.slice a5 l.length c5) l.length (l.map (Value.int .i64))) :
  ∃R',aT (V5.setCell ⟨ablk a,aK a+i,none⟩ (.slice a5 l.length c5)) B a n c R' (L.set i l)/\aE V (V5.setCell ⟨ablk a,aK a+i,none⟩ (.slice a5 l.length c5)) (cU a R) (cU a R'):=by
 have hO4:=h.ah hb;have hnew : ∀b,b<V.heap.size->gE a5 b:=λb hb=>mq hown hb;have h1:=hO4.setRow hi (aX hown hB) (hnew _ (h.lt _ (.inl ⟨h.ne (by omega),rfl⟩)).2) (λj hj _=>by
  by_cases hn : (aV R j).1=none
  ·exact .inl hn
  ·exact .inr (hnew _ (h.lt _ (aT.mS (by rw [h.rl];exact hj) hn)).2))
 have h2:=h.mH hb hi (r:=a5) (rc:=c5) (.slice a5 l.length c5) (λha=>.inr (aY hown ha).1);exact ⟨_,h1,h2⟩
def nc (O : aL) (L : ZZ) (cols : Nat) (w : World) (e : Ending) (w' : World) : Prop :=
 ∃a c R ap cp,e = .returned (.tuple #[.slice a L.length c,.slice ap (aD O L cols).2.length cp])/\aT w' w.heap.size a L.length c R (aD O L cols).1 /\
  w'.ownsRow w.heap.size 3 1 (.slice ap (aD O L cols).2.length cp) (aD O L cols).2.length ((aD O L cols).2.map (Value.int .i64))/\SW w w'
theorem qt (P : Int) (m : Nat) (am : OA) (mn cm : Nat) (mod : Lz) (a : OA) (n c cols len : Nat) (L : ZZ) (w : World) (hf : uM w P m am mn mod) (hi : br w a n L)
  (hR : bp (gq P m) len L) (hcl : cols<=len) (hlen : len<=1000000) (hn : n<=1000000) (hinv : ∀p,gq P m p->p ≠ 0->(jS P m mod p=1 ↔ p=1)) :
  Calls prog 179 #[.agg #[.int .i64 P,.int .i64 m,.slice am mn cm],.slice a n c,.int .i64 cols] w (nc (kM P m mod) L cols w):=by
 obtain ⟨O,hO⟩ : ∃O,kM P m mod=O:=⟨_,rfl⟩
 rw [hO];have HO:=Z5 hO;have Hcl : Hid (uT O (gq P m)):=by show uT O _;rw [<- hO];exact M8 hf.rf mod
 have Hinv:=Z5 hinv;have Hlen:=Z5 hi.len;have HR:=Z5 hR;have hLl : ∀l ∈ L,l.length<=1000000:=λl hl=>by rw [(hR l hl).1];exact hlen
 have HLl:=Z5 hLl;clear hinv hR hLl hO;have hfin : ∀w' a' c' R' ap cp Lk Pv,(Lk,Pv)=aD O L cols->aT w' w.heap.size a' n c' R' Lk->w'.ownsRow w.heap.size 3 1 (.slice ap Pv.length cp) Pv.length (Pv.map (Value.int .i64))->SW w w' ->
   nc O L cols w (.returned (.tuple #[.slice a' n c',.slice ap Pv.length cp])) w':=by
  intro w' a' c' R' ap cp Lk Pv he h1 h2 h3;have e1 : (aD O L cols).1=Lk:=by rw [<- he]
  have e2 : (aD O L cols).2=Pv:=by rw [<- he]
  refine ⟨a',c',R',ap,cp,?_,?_,?_,h3⟩
  ·rw [e2,Hlen.out]
  ·rw [e1,Hlen.out];exact h1
  ·rw [e2];exact h2
 have Hfin:=Z5 hfin;clear hfin;go_enter func179,ntmps179;go_wp2_with fail;obtain ⟨W,hW⟩ : ∃W : World,W=w.alloc (.cells #[.int .i64 P,.int .i64 m,.slice am mn cm] 24):=⟨_,rfl⟩
 rw [<- hW];have hbW : SW w W:=by rw [hW];exact an _ _
 have x0 : aN W w.heap.size [.int .i64 P,.int .i64 m,.slice am mn cm]:=by rw [hW];exact R9 _ _ _ rfl
 have HX:=Z5 x0;have hfW:=hf.ah hbW;clear hW x0;refine (F3 a n c L W (hi.ah hbW) hn HLl.out).mono ?_;rintro e w1 ⟨a1,c1,R1,rfl,hO1,hb1⟩;rw [Hlen.out] at hO1 ⊢;have hS : ∀V,SW W V->V.cell? ⟨w.heap.size,0,none⟩=some (.int .i64 P)/\V.cell? ⟨w.heap.size,1,none⟩=some (.int .i64 m)/\V.cell? ⟨w.heap.size,2,none⟩=some (.slice am mn cm)/\uM V P m am mn mod:=by intro V hV;have x1:=HX.out.ah hV;exact ⟨x1.cell 0 rfl,x1.cell 1 rfl,x1.cell 2 rfl,hfW.ah hV⟩
 have HS:=Z5 hS;have hpl1:=hO1.pl;clear hS;go_wp2_with fail;go_loopw [9,10,11] (λpv av cv wr=>∃(k : Nat) (R' : Z4) (ap : OA) (cp : Nat) (Lk : ZZ) (Pv : Lz),k<=cols/\cv = .int .i64 k/\av = .int .i64 Pv.length/\pv = .slice ap Pv.length cp /\
   Hid ((Lk,Pv)=aD O L k)/\aT wr W.heap.size a1 n c1 R' Lk/\wr.ownsRow W.heap.size 3 1 (.slice ap Pv.length cp) Pv.length (Pv.map (Value.int .i64))/\Hid (ap ≠ none->¬ cU a1 R' (ablk ap)) /\
   SW W wr/\bp (gq P m) len Lk/\Pv.length<=n) (λ_ _ cv _=>cols - (intOf cv).toNat)
 case atStart=>exact ⟨0,R1,none,0,L,[],Ni _,rfl,rfl,rfl,rfl,hO1,bV,λh=>absurd rfl h,hb1,HR.out,Ni _⟩
 case round =>
  obtain ⟨k,R',ap,cp,Lk,Pv,hkc,rfl,rfl,rfl,hst,hOr,hop,hoi,hbr,hrw,hPn⟩:=hrel
  generalize wr=V at *
  have HLkn:=Z5 hOr.ll
  by_cases hk : k<cols
  ·have hk' : decide ((k : Int)<cols)=true:=by simp;omega
   by_cases hPl : Pv.length<n
   ·have hPl' : decide ((Pv.length : Int)<n)=true:=by simp;omega
    obtain ⟨t,ht⟩ : ∃t,Pv.length=t:=⟨_,rfl⟩
    have Ht:=Z5 ht
    rw [ht] at hPl hPn hop hPl'
    rw [ht]
    clear ht
    go_wp2_with fail
    go_loop [12] (λkv=>∃j : Nat,t<=j/\j<=n/\kv = .int .i64 j/\Hid (bh Lk k t=bh Lk k j)) (λkv=>n - (intOf kv).toNat)
    case atStart=>exact ⟨t,Na _,hPn,rfl,rfl⟩
    case round =>
     obtain ⟨j,hj1,hj2,rfl,hfr⟩:=hrel
     by_cases hjn : j<n
     ·have hLj : j<Lk.length:=by rw [HLkn.out];exact hjn
      have hrow:=hrw.row hLj
      have ci:=hOr.cell hjn
      have ri:=hOr.ints hjn
      rw [hrow.1] at ci ri
      have ck:=ri.cell k (by omega)
      have hpr:=ri.pl
      have hkl : (k : Int)<len:=by omega
      have hjn' : decide ((j : Int)<n)=true:=by simp;omega
      have hfs:=jI (c:=k) hLj
      by_cases hz : nth (ai Lk j) k=0
      ·rw [Nd hz] at hfs
       have hz' : (nth (ai Lk j) k == 0)=true:=by simpa using hz
       have Hf : Hid (bh Lk k t=bh Lk k (j+1)):=by show _=_;rw [hfr.out,hfs]
       clear hz hfs hrow
       go_wp2_with fail
       go_round
       case rel=>exact ⟨j+1,by omega,by omega,by go_num,Hf.out⟩
       case measure=>simp [intOf] <;> omega
      ·rw [Nf hz] at hfs
       have hz' : (nth (ai Lk j) k == 0)=false:=by simpa using hz
       have Hf : Hid (bh Lk k t=j):=by show _=_;rw [hfr.out,hfs]
       have hjne : ((j : Int) == n)=false:=by simp;omega
       have Hz:=Z5 hz
       have Hrow:=Z5 hrow
       clear hz hfs hrow
       have ct:=hOr.cell hPl
       have fk:=hOr.frozen hjn
       have ft:=hOr.frozen hPl
       have k3 : (V.setCell ⟨ablk a1,aK a1+t,none⟩ (.slice (aV R' j).1 len (aV R' j).2)).cell? ⟨ablk a1,aK a1+j,none⟩=some (.slice (aV R' j).1 len (aV R' j).2):=by
        by_cases e : j=t
        ·subst e;exact NJ _ _ _ ct
        ·rw [NC _ _ _ _ (by simp <;> omega)];exact ci
       have htl : t<Lk.length:=by rw [HLkn.out];exact hPl
       have hrt:=hrw.row htl
       rw [hrt.1] at ct
       have Hrt:=Z5 hrt
       clear hrt
       go_upto_region 11 with fail
       go_cut [] (λwx=>∃R2,aT wx W.heap.size a1 n c1 R2 (bt Lk t j)/\aE V wx (cU a1 R') (cU a1 R2))
       case first =>
        have hO2:=(hOr.swap hPl hjn).drew
        have hM2:=(hOr.oq hPl hjn (.slice (aV R' j).1 (ai Lk j).length (aV R' j).2) (.slice (aV R' t).1 (ai Lk t).length (aV R' t).2)).drew
        rw [Hrow.out.1,Hrt.out.1] at hO2 hM2
        have HO2:=Z5 (Np hO2 hM2)
        clear hO2 hM2
        go_region
        all_goals (
         go_wp2_with fail
         go_meet
         exact ⟨_,HO2.out.1,HO2.out.2⟩)
       obtain ⟨R2,hO2,hM2⟩:=hcut
       generalize wc=U at *
       have hbU : SW W U:=hbr.trans (hM2.below (λb' hb'=>(hOr.lt b' hb').1) hbr.size)
       have hrw1:=hrw.swap htl hLj
       have hl1 : (bt Lk t j).length=n:=by rw [bM];exact HLkn.out
       have hnz1 : nth (ai (bt Lk t j) t) k ≠ 0:=by
        rw [jc _ _ _ _ htl hLj];have e : du t j t=j:=by unfold du;split <;> simp_all
        rw [e];exact Hz.out
       have HL1 : Hid (fo O Lk t j k=clearTo O t k (bH O (bt Lk t j) t k) n):=by
        show _=_;rw [lf,HLkn.out];by_cases e : j=t
        ·rw [Nd e,e,A1]
        ·rw [Nf e]
       obtain ⟨L1,hL1⟩ : ∃L1,bt Lk t j=L1:=⟨_,rfl⟩
       rw [hL1] at hO2 hrw1 hl1 hnz1 HL1
       have hrow1:=hrw1.row (i:=t) (by omega)
       have tr:=hO2.cell hPl
       have ti:=hO2.ints hPl
       rw [hrow1.1] at tr ti
       have tc:=ti.cell k (by omega)
       have tp:=ti.pl
       have hel : gq P m (nth (ai L1 t) k):=hrow1.2 _ (aH (by rw [hrow1.1];omega))
       have hiff:=Hinv.out _ hel hnz1
       have hOinv : O.inv (nth (ai L1 t) k)=jS P m mod (nth (ai L1 t) k):=by rw [<- HO.out];rfl
       have HOinv:=Z5 hOinv
       have Hiff:=Z5 hiff
       have Hrow1:=Z5 hrow1
       have Hl1:=Z5 hl1
       have Hnz1:=Z5 hnz1
       have hopU:=hM2.own hop hoi.out
       have hoiU : ap ≠ none->¬ cU a1 R2 (ablk ap):=λhn=>hM2.not (aY hop hn).2 (hoi.out hn)
       have HoiU:=Z5 hoiU
       obtain ⟨d0,d1,d2,hfU⟩:=HS.out U hbU
       have hBU:=hbU.size
       clear hL1 hrow1 hl1 hnz1 hiff hOinv hoiU ci ri ck hpr ct fk ft k3 hjn' hz' hop hM2 hOr
       go_upto_if 69 with fail
       go_cut [] (λwx=>∃R3,aT wx W.heap.size a1 n c1 R3 (bH O L1 t k)/\aE U wx (cU a1 R2) (cU a1 R3))
       case first =>
        by_cases hp1 : nth (ai L1 t) k=1
        ·have hp1' : (nth (ai L1 t) k != 1)=false:=by simp [hp1]
         have Hn : Hid (bH O L1 t k=L1):=by show _=_;rw [bH,Nd (by rw [HOinv.out];exact Hiff.out.2 hp1)]
         clear hp1
         go_wp2_with fail
         go_meet
         exact ⟨R2,by rw [Hn.out];exact hO2,Sp _ _⟩
        ·have hp1' : (nth (ai L1 t) k != 1)=true:=by simpa using hp1
         obtain ⟨N,hN⟩ : ∃N,(ai L1 t).map (mulR P m mod (jS P m mod (nth (ai L1 t) k)))=N:=⟨_,rfl⟩
         have Hn : Hid (bH O L1 t k=L1.set t N):=by show _=_;rw [bH,Nf (by rw [HOinv.out];exact λh=>hp1 (Hiff.out.1 h)),HOinv.out,<- hN,<- HO.out];rfl
         have hQ : ∀V,SW U V->V.cell? ⟨w.heap.size,0,none⟩=some (.int .i64 P)/\V.cell? ⟨w.heap.size,1,none⟩=some (.int .i64 m)/\V.cell? ⟨w.heap.size,2,none⟩=some (.slice am mn cm) /\
           V.cell? ⟨ablk a1,aK a1+t,none⟩=some (.slice (aV R2 t).1 len (aV R2 t).2)/\V.cell? ⟨ablk (aV R2 t).1,aK (aV R2 t).1+k,none⟩=some (.int .i64 (nth (ai L1 t) k))/\V.frozen? ⟨ablk a1,aK a1+t,none⟩=false/\SW U V :=
          λV hV=>⟨aB hV d0,aB hV d1,aB hV d2,aB hV tr,aB hV tc,(hO2.ah hV).frozen hPl,hV⟩
         have HQ:=Z5 hQ
         have Hin : Hid (∀V,SW U V->Calls prog 226 #[.agg #[.int .i64 P,.int .i64 m,.slice am mn cm],.int .i64 (nth (ai L1 t) k)] V λe w'=>e = .returned (.int .i64 (jS P m mod (nth (ai L1 t) k)))/\SW V w') :=
          λV hV=>JQ P m am mn cm mod _ V (hfU.ah hV) hel
         have Hsc : Hid (∀V,SW U V->Calls prog 225 #[.agg #[.int .i64 P,.int .i64 m,.slice am mn cm],.int .i64 (jS P m mod (nth (ai L1 t) k)),.slice (aV R2 t).1 len (aV R2 t).2] V (b8 V N)) :=
          λV hV=>by rw [<- hN];exact DW P m am mn cm mod _ _ len _ _ V (hfU.ah hV) (EJ hf.rf mod _) (ti.ah hV) Hrow1.out.2 hlen
         have HF : Hid (∀V5 a5 c5,V5.ownsRow U.heap.size 3 1 (.slice a5 N.length c5) N.length (N.map (Value.int .i64))->SW U V5 ->
           ∃R3,aT (V5.setCell ⟨ablk a1,aK a1+t,none⟩ (.slice a5 N.length c5)) W.heap.size a1 n c1 R3 (bH O L1 t k)/\aE U (V5.setCell ⟨ablk a1,aK a1+t,none⟩ (.slice a5 N.length c5)) (cU a1 R2) (cU a1 R3)) :=
          λV5 a5 c5 h1 h2=>by rw [Hn.out];exact hO2.newRow hPl h2 hBU h1
         clear hp1 hQ hN
         go_wp2_with fail
         obtain ⟨p,hp⟩ : ∃p,nth (ai L1 t) k=p:=⟨_,rfl⟩
         rw [hp] at HQ Hin Hsc
         obtain ⟨iv,hiv⟩ : ∃iv,jS P m mod p=iv:=⟨_,rfl⟩
         rw [hiv] at Hin Hsc
         rw [hp] at tc
         clear hp hiv
         have hap : ∀(V : World) (v : Value),(V.setCell ⟨ablk a1,aK a1+t,none⟩ v).cell? ⟨ablk (aV R2 t).1,aK (aV R2 t).1+k,none⟩=V.cell? ⟨ablk (aV R2 t).1,aK (aV R2 t).1+k,none⟩:=λV v=>by
          refine NC _ _ _ _ λe=>?_;have h0 : (aV R2 t).1 ≠ none:=λh=>by have:=tp (by omega);rw [h] at this;cases this
          rcases hO2.sL t hPl with h1 | h1
          ·exact h0 h1
          ·have h2:=congrArg Addr.block e;simp at h2;first | exact h1 h2 | exact h1 h2.symm
         have Hap:=Z5 hap
         have hBa : U.heap.size<=U.heap.size:=Na _
         have hBlk : W.heap.size<=ablk a1:=(hO2.lt _ (.inl ⟨hO2.ne (by omega),rfl⟩)).1
         have HbU:=Z5 hbU
         have HX2 : Hid (∀V,SW W V->V.cell? ⟨w.heap.size,0,none⟩=some (.int .i64 P)/\V.cell? ⟨w.heap.size,1,none⟩=some (.int .i64 m)/\V.cell? ⟨w.heap.size,2,none⟩=some (.slice am mn cm)):=λV hV=>⟨(HS.out V hV).1,(HS.out V hV).2.1,(HS.out V hV).2.2.1⟩
         clear hap
         refine uw (λV=>V.cell? ⟨w.heap.size,0,none⟩=some (.int .i64 P)/\V.cell? ⟨w.heap.size,1,none⟩=some (.int .i64 m)/\V.cell? ⟨w.heap.size,2,none⟩=some (.slice am mn cm)/\V.cell? ⟨ablk a1,aK a1+t,none⟩=some (.slice (aV R2 t).1 len (aV R2 t).2)/\V.cell? ⟨ablk (aV R2 t).1,aK (aV R2 t).1+k,none⟩=some (.int .i64 p)) 18 (by kernel_rfl) (by exact ⟨d0,d1,d2,tr,tc⟩) λhI=>?_
         refine bg (i:=0) (v:=?_) rfl (by decide +kernel) (by decide +kernel) (by decide +kernel) (λ_ _ _ h=>h) (Od ⟨by rfl,?_⟩) hI ?_
         rotate_left
         ·intro V hSV;(try dsimp only at hSV);obtain ⟨e0,e1,e2,e3,e4⟩:=hSV;go_simp;(try with_reducible rfl)
         clear hI;intro hI;(try simp only [Act.put,Nh,Nk,Nn] at hI ⊢)
         refine bg (i:=1) (v:=?_) rfl (by decide +kernel) (by decide +kernel) (by decide +kernel) (λ_ _ _ h=>h) (Od ⟨by rfl,?_⟩) hI ?_
         rotate_left
         ·intro V hSV;(try dsimp only at hSV);obtain ⟨e0,e1,e2,e3,e4⟩:=hSV;go_simp;(try with_reducible rfl)
         clear hI;intro hI;(try simp only [Act.put,Nh,Nk,Nn] at hI ⊢)
         refine bg (i:=2) (v:=?_) rfl (by decide +kernel) (by decide +kernel) (by decide +kernel) (λ_ _ _ h=>h) (Od ⟨by rfl,?_⟩) hI ?_
         rotate_left
         ·intro V hSV;(try dsimp only at hSV);obtain ⟨e0,e1,e2,e3,e4⟩:=hSV;go_simp;(try with_reducible rfl)
         clear hI;intro hI;(try simp only [Act.put,Nh,Nk,Nn] at hI ⊢)
         refine bg (i:=3) (v:=?_) rfl (by decide +kernel) (by decide +kernel) (by decide +kernel) (λ_ _ _ h=>h) (Od ⟨by rfl,?_⟩) hI ?_
         rotate_left
         ·intro V hSV;(try dsimp only at hSV);obtain ⟨e0,e1,e2,e3,e4⟩:=hSV;go_simp;(try with_reducible rfl)
         clear hI;intro hI;(try simp only [Act.put,Nh,Nk,Nn] at hI ⊢)
         refine bg (i:=4) (v:=?_) rfl (by decide +kernel) (by decide +kernel) (by decide +kernel) (λ_ _ _ h=>h) (Od ⟨by rfl,?_⟩) hI ?_
         rotate_left
         ·intro V hSV;(try dsimp only at hSV);obtain ⟨e0,e1,e2,e3,e4⟩:=hSV;go_simp;(try with_reducible rfl)
         clear hI;intro hI;(try simp only [Act.put,Nh,Nk,Nn] at hI ⊢)
         refine bg (i:=5) (v:=?_) rfl (by decide +kernel) (by decide +kernel) (by decide +kernel) (λ_ _ _ h=>h) (Od ⟨by rfl,?_⟩) hI ?_
         rotate_left
         ·intro V hSV;(try dsimp only at hSV);obtain ⟨e0,e1,e2,e3,e4⟩:=hSV;go_simp;(try with_reducible rfl)
         clear hI;intro hI;(try simp only [Act.put,Nh,Nk,Nn] at hI ⊢)
         refine bg (i:=6) (v:=?_) rfl (by decide +kernel) (by decide +kernel) (by decide +kernel) (λ_ _ _ h=>h) (Od ⟨by rfl,?_⟩) hI ?_
         rotate_left
         ·intro V hSV;(try dsimp only at hSV);obtain ⟨e0,e1,e2,e3,e4⟩:=hSV;go_simp;(try with_reducible rfl)
         clear hI;intro hI;(try simp only [Act.put,Nh,Nk,Nn] at hI ⊢)
         refine bg (i:=7) (v:=?_) rfl (by decide +kernel) (by decide +kernel) (by decide +kernel) (λ_ _ _ h=>h) (Od ⟨by rfl,?_⟩) hI ?_
         rotate_left
         ·intro V hSV;(try dsimp only at hSV);obtain ⟨e0,e1,e2,e3,e4⟩:=hSV;go_simp;(try with_reducible rfl)
         clear hI;intro hI;(try simp only [Act.put,Nh,Nk,Nn] at hI ⊢)
         refine bg (i:=8) (v:=?_) rfl (by decide +kernel) (by decide +kernel) (by decide +kernel) (λ_ _ _ h=>h) (Od ⟨by rfl,?_⟩) hI ?_
         rotate_left
         ·intro V hSV;(try dsimp only at hSV);obtain ⟨e0,e1,e2,e3,e4⟩:=hSV;go_simp;(try with_reducible rfl)
         clear hI;intro hI;(try simp only [Act.put,Nh,Nk,Nn] at hI ⊢)
         refine bg (i:=9) (v:=?_) rfl (by decide +kernel) (by decide +kernel) (by decide +kernel) (λ_ _ _ h=>h) (Od ⟨by rfl,?_⟩) hI ?_
         rotate_left
         ·intro V hSV;(try dsimp only at hSV);obtain ⟨e0,e1,e2,e3,e4⟩:=hSV;go_simp;(try with_reducible rfl)
         clear hI;intro hI;(try simp only [Act.put,Nh,Nk,Nn] at hI ⊢)
         refine bg (i:=10) (v:=?_) rfl (by decide +kernel) (by decide +kernel) (by decide +kernel) (λ_ _ _ h=>h) (Od ⟨by rfl,?_⟩) hI ?_
         rotate_left
         ·intro V hSV;(try dsimp only at hSV);obtain ⟨e0,e1,e2,e3,e4⟩:=hSV;go_simp;(try with_reducible rfl)
         clear hI;intro hI;(try simp only [Act.put,Nh,Nk,Nn] at hI ⊢)
         refine bg (i:=12) (v:=?_) rfl (by decide +kernel) (by decide +kernel) (by decide +kernel) (λ_ _ _ h=>h) (Od ⟨by rfl,?_⟩) hI ?_
         rotate_left
         ·intro V hSV;(try dsimp only at hSV);obtain ⟨e0,e1,e2,e3,e4⟩:=hSV;go_simp;(try with_reducible rfl)
         clear hI;intro hI;(try simp only [Act.put,Nh,Nk,Nn] at hI ⊢)
         refine bg (i:=13) (v:=?_) rfl (by decide +kernel) (by decide +kernel) (by decide +kernel) (λ_ _ _ h=>h) (Od ⟨by rfl,?_⟩) hI ?_
         rotate_left
         ·intro V hSV;(try dsimp only at hSV);obtain ⟨e0,e1,e2,e3,e4⟩:=hSV;go_simp;(try with_reducible rfl)
         clear hI;intro hI;(try simp only [Act.put,Nh,Nk,Nn] at hI ⊢)
         refine bg (i:=14) (v:=?_) rfl (by decide +kernel) (by decide +kernel) (by decide +kernel) (λ_ _ _ h=>h) (Od ⟨by rfl,?_⟩) hI ?_
         rotate_left
         ·intro V hSV;(try dsimp only at hSV);obtain ⟨e0,e1,e2,e3,e4⟩:=hSV;go_simp;(try with_reducible rfl)
         clear hI;intro hI;(try simp only [Act.put,Nh,Nk,Nn] at hI ⊢)
         refine bg (i:=15) (v:=?_) rfl (by decide +kernel) (by decide +kernel) (by decide +kernel) (λ_ _ _ h=>h) (Od ⟨by rfl,?_⟩) hI ?_
         rotate_left
         ·intro V hSV;(try dsimp only at hSV);obtain ⟨e0,e1,e2,e3,e4⟩:=hSV;go_simp;(try with_reducible rfl)
         clear hI;intro hI;(try simp only [Act.put,Nh,Nk,Nn] at hI ⊢)
         refine qD (i:=11) (by decide +kernel) (by omega) hI.1 rfl (λK hK=>?_)
         go_simp
         go_at_call 226;((with_reducible refine (Hin.out _ (Nc _ _).drew).mono ?_);rintro e w4 ⟨rfl,hb4⟩;obtain ⟨q0,q1,q2,q3,q4,q5,q6⟩:=HQ.out w4 (RZ (Nc _ _).drew hb4))
         refine hK.out _ _ (by exact ⟨q0,q1,q2,q3,q4⟩) (λhI=>?_)
         clear hK K
         refine qD (i:=16) (by decide +kernel) (by omega) hI.1 rfl (λK hK=>?_)
         go_simp
         go_at_call 225;((with_reducible refine (Hsc.out _ q6).mono ?_);rintro e w5 ⟨a5,c5,rfl,hown5,hb5⟩;obtain ⟨s0,s1,s2,s3,s4,s5,s6⟩:=HQ.out w5 (RZ q6 hb5))
         refine hK.out _ _ (by exact ⟨s0,s1,s2,s3,s4⟩) (λhI=>?_)
         clear hK K
         refine bg (i:=17) (v:=?_) rfl (by decide +kernel) (by decide +kernel) (by decide +kernel) (λ_ _ _ h=>h) (Od ⟨by rfl,?_⟩) hI ?_
         rotate_left
         ·intro V hSV;(try dsimp only at hSV);obtain ⟨e0,e1,e2,e3,e4⟩:=hSV;go_simp;(try with_reducible rfl)
         clear hI;intro hI;(try simp only [Act.put,Nh,Nk,Nn] at hI ⊢)
         refine vu (i:=18) (by decide +kernel) (by omega) (by decide +kernel) rfl (λK hK=>?_)
         go_simp
         refine hK.out _ _ ?_
         clear hK K
         have Ho5:=Z5 (aX hown5 q6.size)
         clear hown5
         go_wp2_with fail
         go_meet
         exact HF.out _ _ _ Ho5.out s6
       obtain ⟨R3,hO3,hM3⟩:=hcut
       generalize wc=T at *
       have hbT : SW W T:=hbU.trans (hM3.below (λb' hb'=>(hO2.lt b' hb').1) hbU.size)
       have hrw2:=hrw1.norm Hcl.out (t:=t) (c:=k) (by rw [Hl1.out];exact hPl) (by omega) Hnz1.out
       have hl2 : (bH O L1 t k).length=n:=by rw [ek];exact Hl1.out
       have Hl2:=Z5 hl2
       have hopT:=hM3.own hopU HoiU.out
       have hoiT : ap ≠ none->¬ cU a1 R3 (ablk ap):=λhn=>hM3.not (aY hopU hn).2 (HoiU.out hn)
       have HoiT:=Z5 hoiT
       clear hl2 hoiT tr ti tc tp hel d0 d1 d2 hfU hopU hM3
       obtain ⟨L2,hL2⟩ : ∃L2,bH O L1 t k=L2:=⟨_,rfl⟩
       rw [hL2] at hO3 hrw2 Hl2 HL1
       clear hL2
       go_wp2_with fail
       go_loopw [13] (λiv wx=>∃(i : Nat) (R4 : Z4),i<=n/\iv = .int .i64 i/\aT wx W.heap.size a1 n c1 R4 (clearTo O t k L2 i)/\aE T wx (cU a1 R3) (cU a1 R4)) (λiv _=>n - (intOf iv).toNat)
       case atStart=>exact ⟨0,R3,Ni _,rfl,hO3,Sp _ _⟩
       case round =>
        obtain ⟨i,R4,hi,rfl,hOi,hMi⟩:=hrel
        generalize wr=X at *
        have hbX : SW W X:=hbT.trans (hMi.below (λb' hb'=>(hO3.lt b' hb').1) hbT.size)
        obtain ⟨d0,d1,d2,hfX⟩:=HS.out X hbX
        by_cases hin : i<n
        ·have hrwi:=Sy Hcl.out hrw2 (t:=t) (c:=k) (by rw [Hl2.out];exact hPl) (by omega) i (by rw [Hl2.out];exact hi)
         have hli : (clearTo O t k L2 i).length=n:=by rw [en];exact Hl2.out
         have hstep : clearTo O t k L2 (i+1)=if i=t then clearTo O t k L2 i else (clearTo O t k L2 i).set i (di O (ai (clearTo O t k L2 i) t) k (ai (clearTo O t k L2 i) i)):=rfl
         have Hstep:=Z5 hstep
         obtain ⟨Li,hLi⟩ : ∃Li,clearTo O t k L2 i=Li:=⟨_,rfl⟩
         rw [hLi] at hrwi hli Hstep hOi
         have hri:=hrwi.row (i:=i) (by omega)
         have hrt:=hrwi.row (i:=t) (by omega)
         have ci:=hOi.cell hin
         have ct:=hOi.cell hPl
         have ii:=hOi.ints hin
         have it:=hOi.ints hPl
         rw [hri.1] at ci ii
         rw [hrt.1] at ct it
         have ck:=ii.cell k (by omega)
         have hpi:=ii.pl
         have hxel : gq P m (nth (ai Li i) k):=hri.2 _ (aH (by rw [hri.1];omega))
         have Hri:=Z5 hri
         have Hrt:=Z5 hrt
         clear hri hrt hli hstep hLi
         by_cases hit : i=t
         ·have hit' : ((i : Int) != t)=false:=by simp [hit]
          have Hn : Hid (clearTo O t k L2 (i+1)=Li):=by show _=_;rw [Hstep.out,Nd hit]
          clear hit
          go_wp2_with fail
          go_roundw
          case rel=>exact ⟨i+1,R4,by omega,by go_num,by rw [Hn.out];exact hOi,hMi⟩
          case measure=>simp [intOf] <;> omega
         ·have hit' : ((i : Int) != t)=true:=by simp;omega
          by_cases hx0 : nth (ai Li i) k=0
          ·have hx0' : (nth (ai Li i) k != 0)=false:=by simp [hx0]
           have Hn : Hid (clearTo O t k L2 (i+1)=Li):=by show _=_;rw [Hstep.out,Nf hit,di,Nd hx0,pa]
           clear hit hx0
           go_wp2_with fail
           go_roundw
           case rel=>exact ⟨i+1,R4,by omega,by go_num,by rw [Hn.out];exact hOi,hMi⟩
           case measure=>simp [intOf] <;> omega
          ·have hx0' : (nth (ai Li i) k != 0)=true:=by simpa using hx0
           obtain ⟨N,hN⟩ : ∃N,bR O (ai Li i) (fneg P m (nth (ai Li i) k)) (ai Li t)=N:=⟨_,rfl⟩
           have Hn : Hid (clearTo O t k L2 (i+1)=Li.set i N):=by show _=_;rw [Hstep.out,Nf hit,di,Nf hx0,<- hN,<- HO.out];rfl
           have hQ : ∀V,SW X V->V.cell? ⟨w.heap.size,0,none⟩=some (.int .i64 P)/\V.cell? ⟨w.heap.size,1,none⟩=some (.int .i64 m)/\V.cell? ⟨w.heap.size,2,none⟩=some (.slice am mn cm) /\
             V.cell? ⟨ablk a1,aK a1+i,none⟩=some (.slice (aV R4 i).1 len (aV R4 i).2)/\V.cell? ⟨ablk a1,aK a1+t,none⟩=some (.slice (aV R4 t).1 len (aV R4 t).2)/\V.cell? ⟨ablk (aV R4 i).1,aK (aV R4 i).1+k,none⟩=some (.int .i64 (nth (ai Li i) k))/\V.frozen? ⟨ablk a1,aK a1+i,none⟩=false/\SW X V :=
            λV hV=>⟨aB hV d0,aB hV d1,aB hV d2,aB hV ci,aB hV ct,aB hV ck,(hOi.ah hV).frozen hin,hV⟩
           have HQ:=Z5 hQ
           have Hng : Hid (∀V,SW X V->Calls prog 107 #[.agg #[.int .i64 P,.int .i64 m,.slice am mn cm],.int .i64 (nth (ai Li i) k)] V λe w'=>e = .returned (.int .i64 (fneg P m (nth (ai Li i) k)))/\SW V w') :=
            λV hV=>qf P m am mn cm _ V hf.rf (hf.rf.jR hxel)
           have Had : Hid (∀V,SW X V->Calls prog 227 #[.agg #[.int .i64 P,.int .i64 m,.slice am mn cm],.slice (aV R4 i).1 len (aV R4 i).2,.int .i64 (fneg P m (nth (ai Li i) k)),.slice (aV R4 t).1 len (aV R4 t).2] V (b8 V N)) :=
            λV hV=>by rw [<- hN,<- HO.out];exact j7 P m am mn cm mod _ len _ _ _ _ _ _ V (hfX.ah hV) (Ai hf.rf.res _) (ii.ah hV) (it.ah hV) Hri.out.2 Hrt.out.2 hlen
           have HF : Hid (∀V5 a5 c5,V5.ownsRow X.heap.size 3 1 (.slice a5 N.length c5) N.length (N.map (Value.int .i64))->SW X V5 ->
             ∃R5,aT (V5.setCell ⟨ablk a1,aK a1+i,none⟩ (.slice a5 N.length c5)) W.heap.size a1 n c1 R5 (clearTo O t k L2 (i+1))/\aE X (V5.setCell ⟨ablk a1,aK a1+i,none⟩ (.slice a5 N.length c5)) (cU a1 R4) (cU a1 R5)) :=
            λV5 a5 c5 h1 h2=>by rw [Hn.out];exact hOi.newRow hin h2 hbX.size h1
           have Hit:=Z5 hit
           clear hit hx0 hQ hN Hn
           obtain ⟨p,hp⟩ : ∃p,nth (ai Li i) k=p:=⟨_,rfl⟩
           rw [hp] at HQ Hng Had ck hx0'
           obtain ⟨iv,hiv⟩ : ∃iv,fneg P m p=iv:=⟨_,rfl⟩
           rw [hiv] at Hng Had
           clear hp hiv
           have hap : ∀(V : World) (v : Value),(V.setCell ⟨ablk a1,aK a1+i,none⟩ v).cell? ⟨ablk (aV R4 i).1,aK (aV R4 i).1+k,none⟩=V.cell? ⟨ablk (aV R4 i).1,aK (aV R4 i).1+k,none⟩ /\
             (V.setCell ⟨ablk a1,aK a1+i,none⟩ v).cell? ⟨ablk a1,aK a1+t,none⟩=V.cell? ⟨ablk a1,aK a1+t,none⟩:=λV v=>by
            refine ⟨NC _ _ _ _ λe=>?_,NC _ _ _ _ (by have:=Hit.out;simp <;> omega)⟩;have h0 : (aV R4 i).1 ≠ none:=λh=>by have:=hpi (by omega);rw [h] at this;cases this
            rcases hOi.sL i hin with h1 | h1
            ·exact h0 h1
            ·have h2:=congrArg Addr.block e;simp at h2;first | exact h1 h2 | exact h1 h2.symm
           have Hap:=Z5 hap
           have hBlk : W.heap.size<=ablk a1:=(hOi.lt _ (.inl ⟨hOi.ne (by omega),rfl⟩)).1
           have HbX:=Z5 hbX
           have HX2 : Hid (∀V,SW W V->V.cell? ⟨w.heap.size,0,none⟩=some (.int .i64 P)/\V.cell? ⟨w.heap.size,1,none⟩=some (.int .i64 m)/\V.cell? ⟨w.heap.size,2,none⟩=some (.slice am mn cm)):=λV hV=>⟨(HS.out V hV).1,(HS.out V hV).2.1,(HS.out V hV).2.2.1⟩
           clear hap
           go_wp2_with fail
           refine uw (λV=>V.cell? ⟨w.heap.size,0,none⟩=some (.int .i64 P)/\V.cell? ⟨w.heap.size,1,none⟩=some (.int .i64 m)/\V.cell? ⟨w.heap.size,2,none⟩=some (.slice am mn cm)/\V.cell? ⟨ablk a1,aK a1+i,none⟩=some (.slice (aV R4 i).1 len (aV R4 i).2)/\V.cell? ⟨ablk a1,aK a1+t,none⟩=some (.slice (aV R4 t).1 len (aV R4 t).2)/\V.cell? ⟨ablk (aV R4 i).1,aK (aV R4 i).1+k,none⟩=some (.int .i64 p)) 22 (by kernel_rfl) (by exact ⟨d0,d1,d2,ci,ct,ck⟩) λhI=>?_
           refine bg (i:=0) (v:=?_) rfl (by decide +kernel) (by decide +kernel) (by decide +kernel) (λ_ _ _ h=>h) (Od ⟨by rfl,?_⟩) hI ?_
           rotate_left
           ·intro V hSV;(try dsimp only at hSV);obtain ⟨e0,e1,e2,e3,e4,e5⟩:=hSV;go_simp;(try with_reducible rfl)
           clear hI;intro hI;(try simp only [Act.put,Nh,Nk,Nn] at hI ⊢)
           refine bg (i:=1) (v:=?_) rfl (by decide +kernel) (by decide +kernel) (by decide +kernel) (λ_ _ _ h=>h) (Od ⟨by rfl,?_⟩) hI ?_
           rotate_left
           ·intro V hSV;(try dsimp only at hSV);obtain ⟨e0,e1,e2,e3,e4,e5⟩:=hSV;go_simp;(try with_reducible rfl)
           clear hI;intro hI;(try simp only [Act.put,Nh,Nk,Nn] at hI ⊢)
           refine bg (i:=2) (v:=?_) rfl (by decide +kernel) (by decide +kernel) (by decide +kernel) (λ_ _ _ h=>h) (Od ⟨by rfl,?_⟩) hI ?_
           rotate_left
           ·intro V hSV;(try dsimp only at hSV);obtain ⟨e0,e1,e2,e3,e4,e5⟩:=hSV;go_simp;(try with_reducible rfl)
           clear hI;intro hI;(try simp only [Act.put,Nh,Nk,Nn] at hI ⊢)
           refine bg (i:=3) (v:=?_) rfl (by decide +kernel) (by decide +kernel) (by decide +kernel) (λ_ _ _ h=>h) (Od ⟨by rfl,?_⟩) hI ?_
           rotate_left
           ·intro V hSV;(try dsimp only at hSV);obtain ⟨e0,e1,e2,e3,e4,e5⟩:=hSV;go_simp;(try with_reducible rfl)
           clear hI;intro hI;(try simp only [Act.put,Nh,Nk,Nn] at hI ⊢)
           refine bg (i:=4) (v:=?_) rfl (by decide +kernel) (by decide +kernel) (by decide +kernel) (λ_ _ _ h=>h) (Od ⟨by rfl,?_⟩) hI ?_
           rotate_left
           ·intro V hSV;(try dsimp only at hSV);obtain ⟨e0,e1,e2,e3,e4,e5⟩:=hSV;go_simp;(try with_reducible rfl)
           clear hI;intro hI;(try simp only [Act.put,Nh,Nk,Nn] at hI ⊢)
           refine bg (i:=5) (v:=?_) rfl (by decide +kernel) (by decide +kernel) (by decide +kernel) (λ_ _ _ h=>h) (Od ⟨by rfl,?_⟩) hI ?_
           rotate_left
           ·intro V hSV;(try dsimp only at hSV);obtain ⟨e0,e1,e2,e3,e4,e5⟩:=hSV;go_simp;(try with_reducible rfl)
           clear hI;intro hI;(try simp only [Act.put,Nh,Nk,Nn] at hI ⊢)
           refine bg (i:=6) (v:=?_) rfl (by decide +kernel) (by decide +kernel) (by decide +kernel) (λ_ _ _ h=>h) (Od ⟨by rfl,?_⟩) hI ?_
           rotate_left
           ·intro V hSV;(try dsimp only at hSV);obtain ⟨e0,e1,e2,e3,e4,e5⟩:=hSV;go_simp;(try with_reducible rfl)
           clear hI;intro hI;(try simp only [Act.put,Nh,Nk,Nn] at hI ⊢)
           refine bg (i:=7) (v:=?_) rfl (by decide +kernel) (by decide +kernel) (by decide +kernel) (λ_ _ _ h=>h) (Od ⟨by rfl,?_⟩) hI ?_
           rotate_left
           ·intro V hSV;(try dsimp only at hSV);obtain ⟨e0,e1,e2,e3,e4,e5⟩:=hSV;go_simp;(try with_reducible rfl)
           clear hI;intro hI;(try simp only [Act.put,Nh,Nk,Nn] at hI ⊢)
           refine bg (i:=8) (v:=?_) rfl (by decide +kernel) (by decide +kernel) (by decide +kernel) (λ_ _ _ h=>h) (Od ⟨by rfl,?_⟩) hI ?_
           rotate_left
           ·intro V hSV;(try dsimp only at hSV);obtain ⟨e0,e1,e2,e3,e4,e5⟩:=hSV;go_simp;(try with_reducible rfl)
           clear hI;intro hI;(try simp only [Act.put,Nh,Nk,Nn] at hI ⊢)
           refine bg (i:=9) (v:=?_) rfl (by decide +kernel) (by decide +kernel) (by decide +kernel) (λ_ _ _ h=>h) (Od ⟨by rfl,?_⟩) hI ?_
           rotate_left
           ·intro V hSV;(try dsimp only at hSV);obtain ⟨e0,e1,e2,e3,e4,e5⟩:=hSV;go_simp;(try with_reducible rfl)
           clear hI;intro hI;(try simp only [Act.put,Nh,Nk,Nn] at hI ⊢)
           refine bg (i:=10) (v:=?_) rfl (by decide +kernel) (by decide +kernel) (by decide +kernel) (λ_ _ _ h=>h) (Od ⟨by rfl,?_⟩) hI ?_
           rotate_left
           ·intro V hSV;(try dsimp only at hSV);obtain ⟨e0,e1,e2,e3,e4,e5⟩:=hSV;go_simp;(try with_reducible rfl)
           clear hI;intro hI;(try simp only [Act.put,Nh,Nk,Nn] at hI ⊢)
           refine bg (i:=11) (v:=?_) rfl (by decide +kernel) (by decide +kernel) (by decide +kernel) (λ_ _ _ h=>h) (Od ⟨by rfl,?_⟩) hI ?_
           rotate_left
           ·intro V hSV;(try dsimp only at hSV);obtain ⟨e0,e1,e2,e3,e4,e5⟩:=hSV;go_simp;(try with_reducible rfl)
           clear hI;intro hI;(try simp only [Act.put,Nh,Nk,Nn] at hI ⊢)
           refine bg (i:=12) (v:=?_) rfl (by decide +kernel) (by decide +kernel) (by decide +kernel) (λ_ _ _ h=>h) (Od ⟨by rfl,?_⟩) hI ?_
           rotate_left
           ·intro V hSV;(try dsimp only at hSV);obtain ⟨e0,e1,e2,e3,e4,e5⟩:=hSV;go_simp;(try with_reducible rfl)
           clear hI;intro hI;(try simp only [Act.put,Nh,Nk,Nn] at hI ⊢)
           refine bg (i:=13) (v:=?_) rfl (by decide +kernel) (by decide +kernel) (by decide +kernel) (λ_ _ _ h=>h) (Od ⟨by rfl,?_⟩) hI ?_
           rotate_left
           ·intro V hSV;(try dsimp only at hSV);obtain ⟨e0,e1,e2,e3,e4,e5⟩:=hSV;go_simp;(try with_reducible rfl)
           clear hI;intro hI;(try simp only [Act.put,Nh,Nk,Nn] at hI ⊢)
           refine bg (i:=14) (v:=?_) rfl (by decide +kernel) (by decide +kernel) (by decide +kernel) (λ_ _ _ h=>h) (Od ⟨by rfl,?_⟩) hI ?_
           rotate_left
           ·intro V hSV;(try dsimp only at hSV);obtain ⟨e0,e1,e2,e3,e4,e5⟩:=hSV;go_simp;(try with_reducible rfl)
           clear hI;intro hI;(try simp only [Act.put,Nh,Nk,Nn] at hI ⊢)
           refine bg (i:=16) (v:=?_) rfl (by decide +kernel) (by decide +kernel) (by decide +kernel) (λ_ _ _ h=>h) (Od ⟨by rfl,?_⟩) hI ?_
           rotate_left
           ·intro V hSV;(try dsimp only at hSV);obtain ⟨e0,e1,e2,e3,e4,e5⟩:=hSV;go_simp;(try with_reducible rfl)
           clear hI;intro hI;(try simp only [Act.put,Nh,Nk,Nn] at hI ⊢)
           refine bg (i:=17) (v:=?_) rfl (by decide +kernel) (by decide +kernel) (by decide +kernel) (λ_ _ _ h=>h) (Od ⟨by rfl,?_⟩) hI ?_
           rotate_left
           ·intro V hSV;(try dsimp only at hSV);obtain ⟨e0,e1,e2,e3,e4,e5⟩:=hSV;go_simp;(try with_reducible rfl)
           clear hI;intro hI;(try simp only [Act.put,Nh,Nk,Nn] at hI ⊢)
           refine bg (i:=18) (v:=?_) rfl (by decide +kernel) (by decide +kernel) (by decide +kernel) (λ_ _ _ h=>h) (Od ⟨by rfl,?_⟩) hI ?_
           rotate_left
           ·intro V hSV;(try dsimp only at hSV);obtain ⟨e0,e1,e2,e3,e4,e5⟩:=hSV;go_simp;(try with_reducible rfl)
           clear hI;intro hI;(try simp only [Act.put,Nh,Nk,Nn] at hI ⊢)
           refine bg (i:=19) (v:=?_) rfl (by decide +kernel) (by decide +kernel) (by decide +kernel) (λ_ _ _ h=>h) (Od ⟨by rfl,?_⟩) hI ?_
           rotate_left
           ·intro V hSV;(try dsimp only at hSV);obtain ⟨e0,e1,e2,e3,e4,e5⟩:=hSV;go_simp;(try with_reducible rfl)
           clear hI;intro hI;(try simp only [Act.put,Nh,Nk,Nn] at hI ⊢)
           refine qD (i:=15) (by decide +kernel) (by omega) hI.1 rfl (λK hK=>?_)
           go_simp
           go_at_call 107;((with_reducible refine (Hng.out _ (Nc _ _).drew).mono ?_);rintro e w4 ⟨rfl,hb4⟩;obtain ⟨q0,q1,q2,q3,q4,q5,q7,q6⟩:=HQ.out w4 (RZ (Nc _ _).drew hb4))
           refine hK.out _ _ (by exact ⟨q0,q1,q2,q3,q4,q5⟩) (λhI=>?_)
           clear hK K
           refine qD (i:=20) (by decide +kernel) (by omega) hI.1 rfl (λK hK=>?_)
           go_simp
           go_at_call 227;((with_reducible refine (Had.out _ q6).mono ?_);rintro e w5 ⟨a5,c5,rfl,hown5,hb5⟩;obtain ⟨s0,s1,s2,s3,s4,s5,s7,s6⟩:=HQ.out w5 (RZ q6 hb5))
           refine hK.out _ _ (by exact ⟨s0,s1,s2,s3,s4,s5⟩) (λhI=>?_)
           clear hK K
           refine bg (i:=21) (v:=?_) rfl (by decide +kernel) (by decide +kernel) (by decide +kernel) (λ_ _ _ h=>h) (Od ⟨by rfl,?_⟩) hI ?_
           rotate_left
           ·intro V hSV;(try dsimp only at hSV);obtain ⟨e0,e1,e2,e3,e4,e5⟩:=hSV;go_simp;(try with_reducible rfl)
           clear hI;intro hI;(try simp only [Act.put,Nh,Nk,Nn] at hI ⊢)
           refine vu (i:=22) (by decide +kernel) (by omega) (by decide +kernel) rfl (λK hK=>?_)
           go_simp
           refine hK.out _ _ ?_
           clear hK K
           have Ho5:=Z5 (aX hown5 q6.size)
           have Hs6:=Z5 s6
           clear hown5 HQ Hng Had q0 q1 q2 q3 q4 q5 q6 q7 s0 s1 s2 s3 s4 s5 s6 s7
           go_wp2_with fail
           go_roundw
           case rel =>
            obtain ⟨R5,hO5,hM5⟩:=HF.out _ _ _ Ho5.out Hs6.out
            exact ⟨i+1,R5,by omega,by go_num,hO5,hMi.trans hM5⟩
           case measure=>simp [intOf] <;> omega
        ·obtain rfl : i=n:=by omega
         have hopX:=hMi.own hopT HoiT.out
         have hoiX : ap ≠ none->¬ cU a1 R4 (ablk ap):=λhn=>hMi.not (aY hopT hn).2 (HoiT.out hn)
         have HoiX:=Z5 hoiX
         have hcn:=ba X (.int .i64 k) 3
         have hbn:=an X (.cells #[.int .i64 k] 3)
         have hsz:=hbX.size
         clear hoiX
         go_wp2_with (at_builtin;refine aO rfl _ _ 22 3 rfl (.int .i64 0) 8 underlying22 aU rfl W.heap.size ap t cp _ rfl (hopX.alloc _) ⟨X.heap.size,0,none⟩ 1 (.int .i64 k) rfl hcn rfl (by omega) (by unfold maxLen;omega) (by simp;omega) ?_;intro a3 c3 w3 hown3 hgr hap3)
         go_roundw
         case rel =>
          have hnx : aD O L (k+1)=(clearTo O t k L2 i,Pv ++ [(k : Int)]):=by rw [fR hst.out (by rw [HLkn.out,Ht.out];exact hPl),Ht.out,Nf (by rw [Hf.out,HLkn.out];omega),Hf.out,HL1.out]
          have hne : ∀b',cU a1 R4 b'->gE ap b':=λb' hb'=>by
           by_cases hn : ap=none
           ·exact .inl hn
           ·exact .inr λe=>HoiX.out hn (by rw [e];exact hb')
          have hOn:=hOi.ah hbn
          have hO6 : aT w3 W.heap.size a1 i c1 R4 (clearTo O t k L2 i):=hOn.bq λb' hb'=>hgr.block b' (hOn.lt b' hb').2 λe=>(hne b' hb').own t cp e.symm
          have hb3 : SW W w3:=Sa (N2 hbX (hbn.mono hsz)) (hopX.alloc _) hgr (Na _) (Nr hsz hbn.size)
          have hrw3:=Sy Hcl.out hrw2 (t:=t) (c:=k) (by rw [Hl2.out];exact hPl) (by omega) i (by rw [Hl2.out];exact hi)
          have ho4 : a3 ≠ none->¬ cU a1 R4 (ablk a3):=λhn hI=>by
           rcases hap3 _ (hOn.lt _ hI).2 (hne _ hI) with h1 | h1
           ·exact hn h1
           ·exact h1 rfl
          have hPl2 : (Pv ++ [(k : Int)]).length=t+1:=by rw [Nl,Ht.out];rfl
          refine ⟨k+1,R4,a3,c3,clearTo O t k L2 i,Pv ++ [(k : Int)],by omega,by go_num,by rw [hPl2];go_num,by rw [hPl2],hnx.symm,hO6,?_,ho4,hb3,hrw3,by rw [hPl2];omega⟩
          rw [hPl2];simpa using hown3
         case measure=>simp [intOf] <;> omega
     ·obtain rfl : j=n:=by omega
      have Hn : Hid ((Lk,Pv)=aD O L (k+1)):=by show _=_;rw [fR hst.out (by rw [HLkn.out,Ht.out];exact hPl),Ht.out,Nd (by rw [hfr.out,mh (by rw [HLkn.out];exact Na _),HLkn.out])]
      have hjj : decide ((j : Int)<j)=false:=by simp
      go_wp2_with fail
      go_roundw
      case rel=>exact ⟨k+1,R',ap,cp,Lk,Pv,by omega,by go_num,by rw [Ht.out],by rw [Ht.out],Hn.out,hOr,by rw [Ht.out];exact hop,hoi.out,hbr,hrw,by rw [Ht.out];exact hPn⟩
      case measure=>simp [intOf] <;> omega
   ·have hPe : Pv.length=n:=by omega
    have hfull : (Lk,Pv)=aD O L cols:=by rw [show cols=k+(cols - k) by omega,jw (by rw [<- hst.out,hPe,<- Hlen.out]),<- hst.out]
    have Hfull:=Z5 hfull
    have hPe' : decide ((Pv.length : Int)<n)=false:=by simp;omega
    clear hfull hPe
    go_wp2_with fail
    go_ret2
    exact Hfin.out _ _ _ _ _ _ _ _ Hfull.out (hOr.mono hbW.size) (aX hop hbW.size) (RZ hbW hbr)
  ·obtain rfl : k=cols:=by omega
   have hk' : decide ((k : Int)<k)=false:=by simp
   go_wp2_with fail
   go_ret2
   exact Hfin.out _ _ _ _ _ _ _ _ hst.out (hOr.mono hbW.size) (aX hop hbW.size) (RZ hbW hbr)
def Sc:=@Vc.at
def Sr:=@Vc.redTo
end Go.Proofs.YthglbncgemdcbaaGreat
