import Derived.Test.YtcfmiocdlcapoaaGreatK9
import Derived.Test.YtcfmiocdlcapoaaGreatMRO1
import Derived.Test.YtcfmiocdlcapoaaGreatK12
import Derived.Test.YtcfmiocdlcapoaaGreatK1
import Derived.Test.YtcfmiocdlcapoaaGreatK7
namespace Go.Proofs.YtcfmiocdlcapoaaGreat
set_option linter.unusedVariables false
set_option linter.unusedSimpArgs false
set_option linter.unusedSectionVars false
set_option maxRecDepth 100000
set_option maxHeartbeats 8000000
open Go.RowKit
theorem aU.GG (w : World) (B : Nat) : aU w B none 0 0 [] [] :=
 ⟨rfl,rfl,bY,λi hi=>by omega,λi hi=>by omega,λi j hi=>by omega⟩
theorem jJ (P : Int) (m : Nat) (am : OA) (mn cm : Nat) (mod : Lz) (av : OA) (n cv : Nat) (v : Lz) (s : Int) (au : OA) (cu : Nat) (u : Lz) (w : World) (hf : l5 w P m am mn mod) (hs : ee P m s)
  (hi : Ints w av n v) (hu : Ints w au n u) (hve : ∀x ∈ v,ee P m x) (hue : ∀x ∈ u,ee P m x) (hn : n<=1000000) :
  Calls Tryz.prog 115 #[.agg #[.int .i64 P,.int .i64 m,.slice am mn cm],.slice av n cv,.int .i64 s,.slice au n cu] w (cC w (bJ (fw P m mod) v s u)):=by
 have hrf:=hf.rf
 have Hs:=Z5 (hrf.fG hs)
 have Hvl:=Z5 hi.len
 have Hul:=Z5 hu.len
 have hplv:=hi.pl
 have hplu:=hu.pl
 have Hev : Hid (∀k,k<n->fG (aK P m) (nth v k)=true):=λk hk=>hrf.fG (hve _ (aN (by rw [hi.len];exact hk)))
 have Heu : Hid (∀k,k<n->fG (aK P m) (nth u k)=true):=λk hk=>hrf.fG (hue _ (aN (by rw [hu.len];exact hk)))
 have HNl : Hid ((bJ (fw P m mod) v s u).length=n):=by show _=_;rw [cH _ _ _ _ (by rw [hi.len,hu.len]),hi.len]
 have HNn : Hid (∀k,k<n->nth (bJ (fw P m mod) v s u) k=if nth u k=0 then nth v k else fsum P m (nth v k) (mulR P m mod s (nth u k))):=λk hk=>gL (fw P m mod) v s u k (by rw [hi.len,hu.len]) (by rw [hi.len];exact hk)
 obtain ⟨NN,hNN⟩ : ∃NN,bJ (fw P m mod) v s u=NN:=⟨_,rfl⟩
 rw [hNN] at HNl HNn
 rw [hNN]
 clear hve hue hNN
 go_enter Tryz.func115,Tryz.ntmps115
 go_wp2_with (at_make;refine bV rfl _ _ 22 3 rfl (.int .i64 0) 8 Tryz.underlying22 aX rfl n rfl rfl (by omega) (by unfold maxLen;omega) ?_;intro a1 w1 hown hbel hge hlt)
 obtain ⟨W,hW⟩ : ∃W : World,W=w.alloc (.cells #[.int .i64 P,.int .i64 m,.slice am mn cm] 24):=⟨_,rfl⟩
 rw [<- hW] at hown hbel hge
 have hbW : Below w.heap.size w W:=by rw [hW];exact an _ _
 have x0 : aV W w.heap.size [.int .i64 P,.int .i64 m,.slice am mn cm]:=by rw [hW];exact aV.new _ _ _ rfl
 have hfW:=hf.ah hbW
 have hiW:=hi.ah hbW
 have huW:=hu.ah hbW
 have hS : ∀k,k<n->∀V,Below W.heap.size W V->V.cell? ⟨w.heap.size,0,none⟩=some (.int .i64 P)/\V.cell? ⟨w.heap.size,1,none⟩=some (.int .i64 m)/\V.cell? ⟨w.heap.size,2,none⟩=some (.slice am mn cm) /\
   V.cell? ⟨ablk av,aJ av+k,none⟩=some (.int .i64 (nth v k))/\V.cell? ⟨ablk au,aJ au+k,none⟩=some (.int .i64 (nth u k))/\Below W.heap.size W V:=by
  intro k hk V hV
  have x1:=x0.ah hV
  exact ⟨x1.cell 0 rfl,x1.cell 1 rfl,x1.cell 2 rfl,(hiW.ah hV).cell k hk,(huW.ah hV).cell k hk,hV⟩
 have HS:=Z5 hS
 clear hW x0 hS
 go_loopw [10] (λiv wr=>∃k : Nat,k<=n/\iv = .int .i64 k /\
   wr.ownsRow W.heap.size 3 1 (.slice a1 n n) n ((bT (NN.take k) k n).map (Value.int .i64))/\Below W.heap.size W wr)
  (λi _=>n - (intOf i).toNat)
 case atStart=>exact ⟨0,Nat.zero_le _,rfl,by simpa [bT] using hown,hbel⟩
 case round =>
  obtain ⟨k,hk,rfl,hown,hbel⟩:=hrel
  obtain ⟨hints,hmine⟩:=Ints.own hown
  have hpl1:=hints.pl
  by_cases hlt : k<n
  ·have hB:=(hmine (by omega)).1
   have cc:=hints.cell k hlt
   have cf:=(hmine (by omega)).2 k hlt
   obtain ⟨d0,d1,d2,d3,d4,_⟩:=HS.out k hlt wr hbel
   have hset : ∀(V : World) (z : Int),z=nth NN k->V.ownsRow W.heap.size 3 1 (.slice a1 n n) n ((bT (NN.take k) k n).map (Value.int .i64))->(V.setCell ⟨ablk a1,aJ a1+k,none⟩ (.int .i64 z)).ownsRow W.heap.size 3 1 (.slice a1 n n) n ((bT (NN.take (k+1)) (k+1) n).map (Value.int .i64)):=by
    rintro V z rfl hV
    have h:=bC hV k hlt (.int .i64 (nth NN k))
    rw [<- List.map_set,dC _ _ _ _ (by simp [HNl.out];omega) hlt] at h
    rw [List.take_succ_eq_append_getElem (by rw [HNl.out];omega)]
    rw [ai (by rw [HNl.out];omega)] at h ⊢
    exact h
   have Hset:=Z5 hset
   have HB:=Z5 hB
   have hNk:=HNn.out k hlt
   have hown':=bC hown k hlt (.int .i64 (nth v k))
   by_cases hz : nth u k=0
   ·rw [if_pos hz] at hNk
    have hz' : (nth u k != 0)=false:=by simpa using hz
    have HNk:=Z5 hNk
    have dd : (wr.setCell ⟨ablk a1,aJ a1+k,none⟩ (.int .i64 (nth v k))).cell? ⟨ablk au,aJ au+k,none⟩=some (.int .i64 (nth u k)):=(HS.out k hlt _ (hbel.setCell hB _)).2.2.2.2.1
    clear hset hz hNk hown'
    go_wp2_with fail
    go_roundw
    case rel=>exact ⟨k+1,by omega,by go_num,Hset.out _ _ HNk.out.symm hown,hbel.setCell HB.out _⟩
    case measure=>simp [intOf] <;> omega
   ·rw [if_neg hz] at hNk
    have hz' : (nth u k != 0)=true:=by simpa using hz
    have HNk:=Z5 hNk
    obtain ⟨U,hU⟩ : ∃U : World,U=wr.setCell ⟨ablk a1,aJ a1+k,none⟩ (.int .i64 (nth v k)):=⟨_,rfl⟩
    have hbU : Below W.heap.size W U:=by rw [hU];exact hbel.setCell hB _
    have dd : (wr.setCell ⟨ablk a1,aJ a1+k,none⟩ (.int .i64 (nth v k))).cell? ⟨ablk au,aJ au+k,none⟩=some (.int .i64 (nth u k)):=(HS.out k hlt _ (hbel.setCell hB _)).2.2.2.2.1
    rw [<- hU] at hown'
    have hmdU:=(hfW.ah hbU).mods
    have Hmd : Hid (∀V,Below U.heap.size U V->p9 V P m am mn mod):=λV hV=>hmdU.ah hV
    have HK : Hid (∀V,Below U.heap.size U V->(∃y,V.cell? ⟨ablk a1,aJ a1+k,none⟩=some y)/\V.frozen? ⟨ablk a1,aJ a1+k,none⟩=false/\V.ownsRow W.heap.size 3 1 (.slice a1 n n) n (((bT (NN.take k) k n).map (Value.int .i64)).set k (.int .i64 (nth v k)))):=λV hV=>by
     have ho:=aW hown' hV
     have h5:=b9 ho k hlt
     exact ⟨⟨_,by rw [h5.1,List.getElem?_eq_getElem (by rw [h5.2.2.2.1];exact hlt)]⟩,h5.2.1,ho⟩
    have HbU:=Z5 hbU
    have HelM : Hid (fG (aK P m) (mulR P m mod s (nth u k))=true):=hrf.fG (pA hrf mod _ _)
    have HSk : Hid (∀V,Below W.heap.size W V->V.cell? ⟨w.heap.size,0,none⟩=some (.int .i64 P)/\V.cell? ⟨w.heap.size,1,none⟩=some (.int .i64 m)/\V.cell? ⟨w.heap.size,2,none⟩=some (.slice am mn cm) /\
     V.cell? ⟨ablk av,aJ av+k,none⟩=some (.int .i64 (nth v k))/\V.cell? ⟨ablk au,aJ au+k,none⟩=some (.int .i64 (nth u k))/\Below W.heap.size W V):=HS.out k hlt
    have hset2 : ∀V : World,V.ownsRow W.heap.size 3 1 (.slice a1 n n) n (((bT (NN.take k) k n).map (Value.int .i64)).set k (.int .i64 (nth v k))) ->
      (V.setCell ⟨ablk a1,aJ a1+k,none⟩ (.int .i64 (fsum P m (nth v k) (mulR P m mod s (nth u k))))).ownsRow W.heap.size 3 1 (.slice a1 n n) n ((bT (NN.take (k+1)) (k+1) n).map (Value.int .i64)):=by
     intro V hV
     rw [<- HNk.out]
     have h:=bC hV k hlt (.int .i64 (nth NN k))
     rw [List.set_set,<- List.map_set,dC _ _ _ _ (by simp [HNl.out];omega) hlt] at h
     rw [List.take_succ_eq_append_getElem (by rw [HNl.out];omega)]
     rw [ai (by rw [HNl.out];omega)] at h ⊢
     exact h
    have Hset2:=Z5 hset2
    clear hset hz hNk hown' hmdU hbU hset2
    go_wp2_with fail
    rw [<- hU]
    clear hU d0 d1 d2 d3 d4 cc cf dd hbel hints hmine hown hB
    go_region_held3 (λV=>V.cell? ⟨w.heap.size,0,none⟩=some (.int .i64 P)/\V.cell? ⟨w.heap.size,1,none⟩=some (.int .i64 m)/\V.cell? ⟨w.heap.size,2,none⟩=some (.slice am mn cm) /\
      V.cell? ⟨ablk av,aJ av+k,none⟩=some (.int .i64 (nth v k))/\V.cell? ⟨ablk au,aJ au+k,none⟩=some (.int .i64 (nth u k))/\Below W.heap.size W V)
     ((refine HSk.out _ ?_;first | exact HbU.out.drew | exact Below.next HbU.out hb7 | exact Below.next HbU.out hb9 | exact (Below.next HbU.out hb9).setCell HB.out _))
     (first
      | (go_at_call 180;((with_reducible refine (jY P m am mn cm mod s (nth u k) _ hrf (Hmd.out _ (Below.refl _ _).drew) Hs.out (Heu.out k hlt)).mono ?_);rintro e w4 ⟨rfl,hb4⟩;have hb7 : Below U.heap.size U w4:=Below.next (Below.refl _ _).drew hb4))
      | (go_at_call 179;((with_reducible refine (tF P m am mn cm (nth v k) (mulR P m mod s (nth u k)) _ hrf (Hev.out k hlt) HelM.out).mono ?_);rintro e w5 ⟨rfl,hb5⟩;have hb9 : Below U.heap.size U w5:=Below.next hb7 hb5;obtain ⟨⟨v9,k9⟩,f9,o9⟩:=HK.out w5 hb9)))
    clear k9 f9
    go_wp2_with fail
    go_roundw
    case rel=>exact ⟨k+1,by omega,by go_num,Hset2.out _ o9,(Below.next HbU.out hb9).setCell HB.out _⟩
    case measure=>simp [intOf] <;> omega
  ·obtain rfl : k=n:=by omega
   have hfin : bT (NN.take k) k k=NN:=by rw [eh,List.take_of_length_le (by rw [HNl.out];exact Nat.le_refl _)]
   rw [hfin] at hown
   clear hfin
   go_wp2_with fail
   go_ret
   exact ⟨a1,k,by rw [HNl.out];rfl,by rw [HNl.out];exact aP hown hbW.size,Below.next hbW hbel⟩
theorem qM (a : OA) (n c : Nat) (L : Ll) (w : World) (hi : bZ w a n L) (hn : n<=1000000) (hL : ∀l ∈ L,l.length<=1000000) :
  Calls Tryz.prog 231 #[.slice a n c] w (wT w L):=by
 have hpl:=hi.pl
 have Hlen:=Z5 hi.len
 have HL:=Z5 hL
 clear hL
 go_enter Tryz.func231,Tryz.ntmps231
 go_wp2_with fail
 go_loopw [3,4] (λsv iv wr=>∃(k : Nat) (a1 : OA) (c1 : Nat),k<=n/\iv = .int .i64 k/\sv = .slice a1 k c1/\(∃R,aU wr w.heap.size a1 k c1 R (L.take k))/\Below w.heap.size w wr) (λ_ iv _=>n - (intOf iv).toNat)
 case atStart=>exact ⟨0,none,0,Nat.zero_le _,rfl,rfl,⟨[],by simpa using aU.GG w w.heap.size⟩,Below.refl _ _⟩
 case round =>
  obtain ⟨k,a1,c1,hk,rfl,rfl,⟨R,hO⟩,hbr⟩:=hrel
  by_cases hlt : k<n
  ·obtain ⟨ra,rn,rc,hcell,hrow⟩:=(hi.ah hbr).cell k hlt
   have hkL : k<L.length:=by rw [Hlen.out];exact hlt
   have hrl : rn<=1000000:=by rw [<- hrow.len,aE hkL];exact HL.out _ (List.getElem_mem hkL)
   have hO1:=fK wr 3
   have hbe:=an wr (.cells #[] 3)
   obtain ⟨l,hl⟩ : ∃l,aj L k=l:=⟨_,rfl⟩
   rw [hl] at hrow
   have Htk : Hid (L.take (k+1)=L.take k ++ [l]):=by show _=_;rw [List.take_succ_eq_append_getElem hkL,<- hl,aE hkL]
   have hrowe:=hrow.ah hbe
   have hcell2:=aS hcell (.cells #[] 3)
   have hpr:=hrow.pl
   have Hrl:=Z5 hrow.len
   have hsz:=hbr.size
   clear hl
   go_wp2_with (at_builtin;first
    | (refine eZ (by rfl) (.tmp 12) (.tmp 16) 22 3 (by rfl) (.int .i64 0) 8 Tryz.underlying22 aX (by rfl) wr.heap.size _ 0 0 [] (by rfl) hO1 ra rn rc (l.map (Value.int .i64)) (by rfl) hpr (by simp [Hrl.out]) (Ints.news hrowe) (ints_oneCell _ _) (by omega) (by unfold maxLen;omega) (Below.size hbe) ?_;intro a3 c3 w3 hown3 hgr3 hap3;have hb3 : Below wr.heap.size wr w3:=Below.app (B:=wr.heap.size) (e:=3) (xs:=[]) hbe hO1 hgr3 (Nat.le_refl _) (Below.size hbe);rw [Nat.zero_add] at hown3 ⊢;rw [List.nil_append] at hown3)
    | (refine bk rfl _ _ 25 22 rfl (.slice none 0 0) 24 Tryz.underlying25 ch rfl w.heap.size a1 k c1 _ rfl ((hO.ah (Below.next hb3 (an _ _))).own) ⟨w3.heap.size,0,none⟩ 1 (.slice a3 rn c3) rfl (br w3 _ _) rfl (by omega) (by unfold maxLen;omega) (by have h1:=Below.size hb3;simp;omega) ?_;intro a5 c5 w5 hown5 hgr5 hap5)
    | fail)
   go_roundw
   case rel =>
    have hb4 : Below wr.heap.size wr (w3.alloc (.cells #[.slice a3 rn c3] 22)):=Below.next hb3 (an _ _)
    have hO4:=hO.ah hb4
    have hown4 : (w3.alloc (.cells #[.slice a3 rn c3] 22)).ownsRow w.heap.size 3 1 (.slice a3 l.length c3) l.length (l.map (Value.int .i64)):=by
     rw [Hrl.out];exact aP (aW hown3 (an _ _)) hsz
    have hra : a3 ≠ none->¬ bL a1 R (ablk a3):=λh0 hI=>by
     have h1:=(aR hown3 h0).1
     have h2:=(hO.lt _ hI).2
     omega
    have hP:=aU.push hO4 hown4 hra (by rw [Hrl.out];exact hown5) hgr5 hap5
    have hb5 : Below w.heap.size w w5:=Below.app (Below.next hbr hb4) hO4.own hgr5 (Nat.le_refl _) (Nat.le_trans hsz hb4.size)
    exact ⟨k+1,a5,c5,by omega,by go_num,rfl,⟨_,by rw [Htk.out];exact hP⟩,hb5⟩
   case measure=>simp [intOf] <;> omega
  ·obtain rfl : k=n:=by omega
   rw [List.take_of_length_le (by rw [Hlen.out];exact Nat.le_refl _)] at hO
   go_wp2_with fail
   go_ret
   exact ⟨a1,c1,R,by rw [Hlen.out];rfl,by rw [Hlen.out];exact hO,hbr⟩
theorem mh (L : Ll) (t : Nat) : bm L t t=L:=by rw [bm,gU,gU]
theorem aU.newRow {V V5 : World} {B : Nat} {a : OA} {n c : Nat} {R : La} {L : Ll} (h : aU V B a n c R L) {i : Nat} (hi : i<n) (hb : Below V.heap.size V V5) (hB : B<=V.heap.size) {a5 : OA} {c5 : Nat} {l : Lz}
  (hown : V5.ownsRow V.heap.size 3 1 (.slice a5 l.length c5) l.length (l.map (Value.int .i64))) :
  ∃R',aU (V5.setCell ⟨ablk a,aJ a+i,none⟩ (.slice a5 l.length c5)) B a n c R' (L.set i l)/\aB V (V5.setCell ⟨ablk a,aJ a+i,none⟩ (.slice a5 l.length c5)) (bL a R) (bL a R'):=by
 have hO4:=h.ah hb
 have hnew : ∀b,b<V.heap.size->db a5 b:=λb hb=>ml hown hb
 have h1:=hO4.setRow hi (aP hown hB) (hnew _ (h.lt _ (.inl ⟨h.ne (by omega),rfl⟩)).2) (λj hj _=>by
  by_cases hn : (aM R j).1=none
  ·exact .inl hn
  ·exact .inr (hnew _ (h.lt _ (aU.mw (by rw [h.rl];exact hj) hn)).2))
 have h2:=h.kN hb hi (r:=a5) (rc:=c5) (.slice a5 l.length c5) (λha=>.inr (aR hown ha).1)
 exact ⟨_,h1,h2⟩
def iG (O : aQ) (L : Ll) (cols : Nat) (w : World) (e : Ending) (w' : World) : Prop :=
 ∃a c R ap cp,e = .returned (.tuple #[.slice a L.length c,.slice ap (aA O L cols).2.length cp])/\aU w' w.heap.size a L.length c R (aA O L cols).1 /\
  w'.ownsRow w.heap.size 3 1 (.slice ap (aA O L cols).2.length cp) (aA O L cols).2.length ((aA O L cols).2.map (Value.int .i64))/\Below w.heap.size w w'
theorem nB (P : Int) (m : Nat) (am : OA) (mn cm : Nat) (mod : Lz) (a : OA) (n c cols len : Nat) (L : Ll) (w : World) (hf : l5 w P m am mn mod) (hi : bZ w a n L)
  (hR : bH (ee P m) len L) (hcl : cols<=len) (hlen : len<=1000000) (hn : n<=1000000) (hinv : ∀p,ee P m p->p ≠ 0->(ei P m mod p=1 ↔ p=1)) :
  Calls Tryz.prog 183 #[.agg #[.int .i64 P,.int .i64 m,.slice am mn cm],.slice a n c,.int .i64 cols] w (iG (fw P m mod) L cols w):=by
 obtain ⟨O,hO⟩ : ∃O,fw P m mod=O:=⟨_,rfl⟩
 rw [hO]
 have HO:=Z5 hO
 have Hcl : Hid (sr O (ee P m)):=by show sr O _;rw [<- hO];exact Km hf.rf mod
 have Hinv:=Z5 hinv
 have Hlen:=Z5 hi.len
 have HR:=Z5 hR
 have hLl : ∀l ∈ L,l.length<=1000000:=λl hl=>by rw [(hR l hl).1];exact hlen
 have HLl:=Z5 hLl
 clear hinv hR hLl hO
 have hfin : ∀w' a' c' R' ap cp Lk Pv,(Lk,Pv)=aA O L cols->aU w' w.heap.size a' n c' R' Lk->w'.ownsRow w.heap.size 3 1 (.slice ap Pv.length cp) Pv.length (Pv.map (Value.int .i64))->Below w.heap.size w w' ->
   iG O L cols w (.returned (.tuple #[.slice a' n c',.slice ap Pv.length cp])) w':=by
  intro w' a' c' R' ap cp Lk Pv he h1 h2 h3
  have e1 : (aA O L cols).1=Lk:=by rw [<- he]
  have e2 : (aA O L cols).2=Pv:=by rw [<- he]
  refine ⟨a',c',R',ap,cp,?_,?_,?_,h3⟩
  ·rw [e2,Hlen.out]
  ·rw [e1,Hlen.out];exact h1
  ·rw [e2];exact h2
 have Hfin:=Z5 hfin
 clear hfin
 go_enter Tryz.func183,Tryz.ntmps183
 go_wp2_with fail
 obtain ⟨W,hW⟩ : ∃W : World,W=w.alloc (.cells #[.int .i64 P,.int .i64 m,.slice am mn cm] 24):=⟨_,rfl⟩
 rw [<- hW]
 have hbW : Below w.heap.size w W:=by rw [hW];exact an _ _
 have x0 : aV W w.heap.size [.int .i64 P,.int .i64 m,.slice am mn cm]:=by rw [hW];exact aV.new _ _ _ rfl
 have HX:=Z5 x0
 have hfW:=hf.ah hbW
 clear hW x0
 refine (qM a n c L W (hi.ah hbW) hn HLl.out).mono ?_
 rintro e w1 ⟨a1,c1,R1,rfl,hO1,hb1⟩
 rw [Hlen.out] at hO1 ⊢
 have hS : ∀V,Below W.heap.size W V->V.cell? ⟨w.heap.size,0,none⟩=some (.int .i64 P)/\V.cell? ⟨w.heap.size,1,none⟩=some (.int .i64 m)/\V.cell? ⟨w.heap.size,2,none⟩=some (.slice am mn cm)/\l5 V P m am mn mod:=by
  intro V hV
  have x1:=HX.out.ah hV
  exact ⟨x1.cell 0 rfl,x1.cell 1 rfl,x1.cell 2 rfl,hfW.ah hV⟩
 have HS:=Z5 hS
 have hpl1:=hO1.pl
 clear hS
 go_wp2_with fail
 go_loopw [9,10,11] (λpv av cv wr=>∃(k : Nat) (R' : La) (ap : OA) (cp : Nat) (Lk : Ll) (Pv : Lz),k<=cols/\cv = .int .i64 k/\av = .int .i64 Pv.length/\pv = .slice ap Pv.length cp /\
   Hid ((Lk,Pv)=aA O L k)/\aU wr W.heap.size a1 n c1 R' Lk/\wr.ownsRow W.heap.size 3 1 (.slice ap Pv.length cp) Pv.length (Pv.map (Value.int .i64))/\Hid (ap ≠ none->¬ bL a1 R' (ablk ap)) /\
   Below W.heap.size W wr/\bH (ee P m) len Lk/\Pv.length<=n) (λ_ _ cv _=>cols - (intOf cv).toNat)
 case atStart=>exact ⟨0,R1,none,0,L,[],Nat.zero_le _,rfl,rfl,rfl,rfl,hO1,bY,λh=>absurd rfl h,hb1,HR.out,Nat.zero_le _⟩
 case round =>
  obtain ⟨k,R',ap,cp,Lk,Pv,hkc,rfl,rfl,rfl,hst,hOr,hop,hoi,hbr,hrw,hPn⟩:=hrel
  generalize wr=V at *
  have HLkn:=Z5 hOr.ll
  by_cases hk : k<cols
  ·have hk' : decide ((k : Int)<cols)=true:=by simp;omega
   by_cases hPl : Pv.length<n
   ·have hPl' : decide ((Pv.length : Int)<n)=true:=by simp;omega
    obtain ⟨t,ht⟩ : ∃t,Pv.length=t:=⟨_,rfl⟩
    have Ht:=Z5 ht
    rw [ht] at hPl hPn hop hPl'
    rw [ht]
    clear ht
    go_wp2_with fail
    go_loop [12] (λkv=>∃j : Nat,t<=j/\j<=n/\kv = .int .i64 j/\Hid (bu Lk k t=bu Lk k j)) (λkv=>n - (intOf kv).toNat)
    case atStart=>exact ⟨t,Nat.le_refl _,hPn,rfl,rfl⟩
    case round =>
     obtain ⟨j,hj1,hj2,rfl,hfr⟩:=hrel
     by_cases hjn : j<n
     ·have hLj : j<Lk.length:=by rw [HLkn.out];exact hjn
      have hrow:=hrw.row hLj
      have ci:=hOr.cell hjn
      have ri:=hOr.ints hjn
      rw [hrow.1] at ci ri
      have ck:=ri.cell k (by omega)
      have hpr:=ri.pl
      have hkl : (k : Int)<len:=by omega
      have hjn' : decide ((j : Int)<n)=true:=by simp;omega
      have hfs:=gr (c:=k) hLj
      by_cases hz : nth (aj Lk j) k=0
      ·rw [if_pos hz] at hfs
       have hz' : (nth (aj Lk j) k == 0)=true:=by simpa using hz
       have Hf : Hid (bu Lk k t=bu Lk k (j+1)):=by show _=_;rw [hfr.out,hfs]
       clear hz hfs hrow
       go_wp2_with fail
       go_round
       case rel=>exact ⟨j+1,by omega,by omega,by go_num,Hf.out⟩
       case measure=>simp [intOf] <;> omega
      ·rw [if_neg hz] at hfs
       have hz' : (nth (aj Lk j) k == 0)=false:=by simpa using hz
       have Hf : Hid (bu Lk k t=j):=by show _=_;rw [hfr.out,hfs]
       have hjne : ((j : Int) == n)=false:=by simp;omega
       have Hz:=Z5 hz
       have Hrow:=Z5 hrow
       clear hz hfs hrow
       have ct:=hOr.cell hPl
       have fk:=hOr.frozen hjn
       have ft:=hOr.frozen hPl
       have k3 : (V.setCell ⟨ablk a1,aJ a1+t,none⟩ (.slice (aM R' j).1 len (aM R' j).2)).cell? ⟨ablk a1,aJ a1+j,none⟩=some (.slice (aM R' j).1 len (aM R' j).2):=by
        by_cases e : j=t
        ·subst e;exact World.cell?_setCell_same _ _ _ ct
        ·rw [World.cell?_setCell_other _ _ _ _ (by simp <;> omega)];exact ci
       have htl : t<Lk.length:=by rw [HLkn.out];exact hPl
       have hrt:=hrw.row htl
       rw [hrt.1] at ct
       have Hrt:=Z5 hrt
       clear hrt
       go_upto_region 11 with fail
       go_cut [] (λwx=>∃R2,aU wx W.heap.size a1 n c1 R2 (bm Lk t j)/\aB V wx (bL a1 R') (bL a1 R2))
       case first =>
        have hO2:=(hOr.swap hPl hjn).drew
        have hM2:=(hOr.ox hPl hjn (.slice (aM R' j).1 (aj Lk j).length (aM R' j).2) (.slice (aM R' t).1 (aj Lk t).length (aM R' t).2)).drew
        rw [Hrow.out.1,Hrt.out.1] at hO2 hM2
        have HO2:=Z5 (And.intro hO2 hM2)
        clear hO2 hM2
        go_region
        all_goals (
         go_wp2_with fail
         go_meet
         exact ⟨_,HO2.out.1,HO2.out.2⟩)
       obtain ⟨R2,hO2,hM2⟩:=hcut
       generalize wc=U at *
       have hbU : Below W.heap.size W U:=hbr.trans (hM2.below (λb' hb'=>(hOr.lt b' hb').1) hbr.size)
       have hrw1:=hrw.swap htl hLj
       have hl1 : (bm Lk t j).length=n:=by rw [dK];exact HLkn.out
       have hnz1 : nth (aj (bm Lk t j) t) k ≠ 0:=by
        rw [nQ _ _ _ _ htl hLj]
        have e : ko t j t=j:=by unfold ko;split <;> simp_all
        rw [e];exact Hz.out
       have HL1 : Hid (eB O Lk t j k=clearTo O t k (bp O (bm Lk t j) t k) n):=by
        show _=_;rw [gQ,HLkn.out]
        by_cases e : j=t
        ·rw [if_pos e,e,mh]
        ·rw [if_neg e]
       obtain ⟨L1,hL1⟩ : ∃L1,bm Lk t j=L1:=⟨_,rfl⟩
       rw [hL1] at hO2 hrw1 hl1 hnz1 HL1
       have hrow1:=hrw1.row (i:=t) (by omega)
       have tr:=hO2.cell hPl
       have ti:=hO2.ints hPl
       rw [hrow1.1] at tr ti
       have tc:=ti.cell k (by omega)
       have tp:=ti.pl
       have hel : ee P m (nth (aj L1 t) k):=hrow1.2 _ (aN (by rw [hrow1.1];omega))
       have hiff:=Hinv.out _ hel hnz1
       have hOinv : O.inv (nth (aj L1 t) k)=ei P m mod (nth (aj L1 t) k):=by rw [<- HO.out];rfl
       have HOinv:=Z5 hOinv
       have Hiff:=Z5 hiff
       have Hrow1:=Z5 hrow1
       have Hl1:=Z5 hl1
       have Hnz1:=Z5 hnz1
       have hopU:=hM2.own hop hoi.out
       have hoiU : ap ≠ none->¬ bL a1 R2 (ablk ap):=λhn=>hM2.not (aR hop hn).2 (hoi.out hn)
       have HoiU:=Z5 hoiU
       obtain ⟨d0,d1,d2,hfU⟩:=HS.out U hbU
       have hBU:=hbU.size
       clear hL1 hrow1 hl1 hnz1 hiff hOinv hoiU ci ri ck hpr ct fk ft k3 hjn' hz' hop hM2 hOr
       go_upto_if 69 with fail
       go_cut [] (λwx=>∃R3,aU wx W.heap.size a1 n c1 R3 (bp O L1 t k)/\aB U wx (bL a1 R2) (bL a1 R3))
       case first =>
        by_cases hp1 : nth (aj L1 t) k=1
        ·have hp1' : (nth (aj L1 t) k != 1)=false:=by simp [hp1]
         have Hn : Hid (bp O L1 t k=L1):=by show _=_;rw [bp,if_pos (by rw [HOinv.out];exact Hiff.out.2 hp1)]
         clear hp1
         go_wp2_with fail
         go_meet
         exact ⟨R2,by rw [Hn.out];exact hO2,aB.refl _ _⟩
        ·have hp1' : (nth (aj L1 t) k != 1)=true:=by simpa using hp1
         obtain ⟨N,hN⟩ : ∃N,(aj L1 t).map (mulR P m mod (ei P m mod (nth (aj L1 t) k)))=N:=⟨_,rfl⟩
         have Hn : Hid (bp O L1 t k=L1.set t N):=by
          show _=_;rw [bp,if_neg (by rw [HOinv.out];exact λh=>hp1 (Hiff.out.1 h)),HOinv.out,<- hN,<- HO.out];rfl
         have hQ : ∀V,Below U.heap.size U V->V.cell? ⟨w.heap.size,0,none⟩=some (.int .i64 P)/\V.cell? ⟨w.heap.size,1,none⟩=some (.int .i64 m)/\V.cell? ⟨w.heap.size,2,none⟩=some (.slice am mn cm) /\
           V.cell? ⟨ablk a1,aJ a1+t,none⟩=some (.slice (aM R2 t).1 len (aM R2 t).2)/\V.cell? ⟨ablk (aM R2 t).1,aJ (aM R2 t).1+k,none⟩=some (.int .i64 (nth (aj L1 t) k))/\V.frozen? ⟨ablk a1,aJ a1+t,none⟩=false/\Below U.heap.size U V :=
          λV hV=>⟨aw hV d0,aw hV d1,aw hV d2,aw hV tr,aw hV tc,(hO2.ah hV).frozen hPl,hV⟩
         have HQ:=Z5 hQ
         have Hin : Hid (∀V,Below U.heap.size U V->Calls Tryz.prog 116 #[.agg #[.int .i64 P,.int .i64 m,.slice am mn cm],.int .i64 (nth (aj L1 t) k)] V λe w'=>e = .returned (.int .i64 (ei P m mod (nth (aj L1 t) k)))/\Below V.heap.size V w') :=
          λV hV=>qi P m am mn cm mod _ V (hfU.ah hV) hel
         have Hsc : Hid (∀V,Below U.heap.size U V->Calls Tryz.prog 232 #[.agg #[.int .i64 P,.int .i64 m,.slice am mn cm],.int .i64 (ei P m mod (nth (aj L1 t) k)),.slice (aM R2 t).1 len (aM R2 t).2] V (cC V N)) :=
          λV hV=>by rw [<- hN];exact oG P m am mn cm mod _ _ len _ _ V (hfU.ah hV) (py hf.rf mod _) (ti.ah hV) Hrow1.out.2 hlen
         have HF : Hid (∀V5 a5 c5,V5.ownsRow U.heap.size 3 1 (.slice a5 N.length c5) N.length (N.map (Value.int .i64))->Below U.heap.size U V5 ->
           ∃R3,aU (V5.setCell ⟨ablk a1,aJ a1+t,none⟩ (.slice a5 N.length c5)) W.heap.size a1 n c1 R3 (bp O L1 t k)/\aB U (V5.setCell ⟨ablk a1,aJ a1+t,none⟩ (.slice a5 N.length c5)) (bL a1 R2) (bL a1 R3)) :=
          λV5 a5 c5 h1 h2=>by rw [Hn.out];exact hO2.newRow hPl h2 hBU h1
         clear hp1 hQ hN
         go_wp2_with fail
         obtain ⟨p,hp⟩ : ∃p,nth (aj L1 t) k=p:=⟨_,rfl⟩
         rw [hp] at HQ Hin Hsc
         obtain ⟨iv,hiv⟩ : ∃iv,ei P m mod p=iv:=⟨_,rfl⟩
         rw [hiv] at Hin Hsc
         rw [hp] at tc
         clear hp hiv
         have hap : ∀(V : World) (v : Value),(V.setCell ⟨ablk a1,aJ a1+t,none⟩ v).cell? ⟨ablk (aM R2 t).1,aJ (aM R2 t).1+k,none⟩=V.cell? ⟨ablk (aM R2 t).1,aJ (aM R2 t).1+k,none⟩:=λV v=>by
          refine World.cell?_setCell_other _ _ _ _ λe=>?_
          have h0 : (aM R2 t).1 ≠ none:=λh=>by have:=tp (by omega);rw [h] at this;cases this
          rcases hO2.sD t hPl with h1 | h1
          ·exact h0 h1
          ·have h2:=congrArg Addr.block e
           simp at h2
           first | exact h1 h2 | exact h1 h2.symm
         have Hap:=Z5 hap
         have hBa : U.heap.size<=U.heap.size:=Nat.le_refl _
         have hBlk : W.heap.size<=ablk a1:=(hO2.lt _ (.inl ⟨hO2.ne (by omega),rfl⟩)).1
         have HbU:=Z5 hbU
         have HX2 : Hid (∀V,Below W.heap.size W V->V.cell? ⟨w.heap.size,0,none⟩=some (.int .i64 P)/\V.cell? ⟨w.heap.size,1,none⟩=some (.int .i64 m)/\V.cell? ⟨w.heap.size,2,none⟩=some (.slice am mn cm)):=λV hV=>⟨(HS.out V hV).1,(HS.out V hV).2.1,(HS.out V hV).2.2.1⟩
         clear hap
         refine iX (λV=>V.cell? ⟨w.heap.size,0,none⟩=some (.int .i64 P)/\V.cell? ⟨w.heap.size,1,none⟩=some (.int .i64 m)/\V.cell? ⟨w.heap.size,2,none⟩=some (.slice am mn cm)/\V.cell? ⟨ablk a1,aJ a1+t,none⟩=some (.slice (aM R2 t).1 len (aM R2 t).2)/\V.cell? ⟨ablk (aM R2 t).1,aJ (aM R2 t).1+k,none⟩=some (.int .i64 p)) 18 (by kernel_rfl) (by exact ⟨d0,d1,d2,tr,tc⟩) λhI=>?_
         refine aD (i:=0) (v:=?_) rfl (by decide +kernel) (by decide +kernel) (by decide +kernel) (λ_ _ _ h=>h) (Or.inl ⟨by rfl,?_⟩) hI ?_
         rotate_left
         ·intro V hSV;(try dsimp only at hSV);obtain ⟨e0,e1,e2,e3,e4⟩:=hSV;go_simp;(try with_reducible rfl)
         clear hI;intro hI;(try simp only [Act.put,List.setIfInBounds_toArray,List.set_cons_zero,List.set_cons_succ] at hI ⊢)
         refine aD (i:=1) (v:=?_) rfl (by decide +kernel) (by decide +kernel) (by decide +kernel) (λ_ _ _ h=>h) (Or.inl ⟨by rfl,?_⟩) hI ?_
         rotate_left
         ·intro V hSV;(try dsimp only at hSV);obtain ⟨e0,e1,e2,e3,e4⟩:=hSV;go_simp;(try with_reducible rfl)
         clear hI;intro hI;(try simp only [Act.put,List.setIfInBounds_toArray,List.set_cons_zero,List.set_cons_succ] at hI ⊢)
         refine aD (i:=2) (v:=?_) rfl (by decide +kernel) (by decide +kernel) (by decide +kernel) (λ_ _ _ h=>h) (Or.inl ⟨by rfl,?_⟩) hI ?_
         rotate_left
         ·intro V hSV;(try dsimp only at hSV);obtain ⟨e0,e1,e2,e3,e4⟩:=hSV;go_simp;(try with_reducible rfl)
         clear hI;intro hI;(try simp only [Act.put,List.setIfInBounds_toArray,List.set_cons_zero,List.set_cons_succ] at hI ⊢)
         refine aD (i:=3) (v:=?_) rfl (by decide +kernel) (by decide +kernel) (by decide +kernel) (λ_ _ _ h=>h) (Or.inl ⟨by rfl,?_⟩) hI ?_
         rotate_left
         ·intro V hSV;(try dsimp only at hSV);obtain ⟨e0,e1,e2,e3,e4⟩:=hSV;go_simp;(try with_reducible rfl)
         clear hI;intro hI;(try simp only [Act.put,List.setIfInBounds_toArray,List.set_cons_zero,List.set_cons_succ] at hI ⊢)
         refine aD (i:=4) (v:=?_) rfl (by decide +kernel) (by decide +kernel) (by decide +kernel) (λ_ _ _ h=>h) (Or.inl ⟨by rfl,?_⟩) hI ?_
         rotate_left
         ·intro V hSV;(try dsimp only at hSV);obtain ⟨e0,e1,e2,e3,e4⟩:=hSV;go_simp;(try with_reducible rfl)
         clear hI;intro hI;(try simp only [Act.put,List.setIfInBounds_toArray,List.set_cons_zero,List.set_cons_succ] at hI ⊢)
         refine aD (i:=5) (v:=?_) rfl (by decide +kernel) (by decide +kernel) (by decide +kernel) (λ_ _ _ h=>h) (Or.inl ⟨by rfl,?_⟩) hI ?_
         rotate_left
         ·intro V hSV;(try dsimp only at hSV);obtain ⟨e0,e1,e2,e3,e4⟩:=hSV;go_simp;(try with_reducible rfl)
         clear hI;intro hI;(try simp only [Act.put,List.setIfInBounds_toArray,List.set_cons_zero,List.set_cons_succ] at hI ⊢)
         refine aD (i:=6) (v:=?_) rfl (by decide +kernel) (by decide +kernel) (by decide +kernel) (λ_ _ _ h=>h) (Or.inl ⟨by rfl,?_⟩) hI ?_
         rotate_left
         ·intro V hSV;(try dsimp only at hSV);obtain ⟨e0,e1,e2,e3,e4⟩:=hSV;go_simp;(try with_reducible rfl)
         clear hI;intro hI;(try simp only [Act.put,List.setIfInBounds_toArray,List.set_cons_zero,List.set_cons_succ] at hI ⊢)
         refine aD (i:=7) (v:=?_) rfl (by decide +kernel) (by decide +kernel) (by decide +kernel) (λ_ _ _ h=>h) (Or.inl ⟨by rfl,?_⟩) hI ?_
         rotate_left
         ·intro V hSV;(try dsimp only at hSV);obtain ⟨e0,e1,e2,e3,e4⟩:=hSV;go_simp;(try with_reducible rfl)
         clear hI;intro hI;(try simp only [Act.put,List.setIfInBounds_toArray,List.set_cons_zero,List.set_cons_succ] at hI ⊢)
         refine aD (i:=8) (v:=?_) rfl (by decide +kernel) (by decide +kernel) (by decide +kernel) (λ_ _ _ h=>h) (Or.inl ⟨by rfl,?_⟩) hI ?_
         rotate_left
         ·intro V hSV;(try dsimp only at hSV);obtain ⟨e0,e1,e2,e3,e4⟩:=hSV;go_simp;(try with_reducible rfl)
         clear hI;intro hI;(try simp only [Act.put,List.setIfInBounds_toArray,List.set_cons_zero,List.set_cons_succ] at hI ⊢)
         refine aD (i:=9) (v:=?_) rfl (by decide +kernel) (by decide +kernel) (by decide +kernel) (λ_ _ _ h=>h) (Or.inl ⟨by rfl,?_⟩) hI ?_
         rotate_left
         ·intro V hSV;(try dsimp only at hSV);obtain ⟨e0,e1,e2,e3,e4⟩:=hSV;go_simp;(try with_reducible rfl)
         clear hI;intro hI;(try simp only [Act.put,List.setIfInBounds_toArray,List.set_cons_zero,List.set_cons_succ] at hI ⊢)
         refine aD (i:=10) (v:=?_) rfl (by decide +kernel) (by decide +kernel) (by decide +kernel) (λ_ _ _ h=>h) (Or.inl ⟨by rfl,?_⟩) hI ?_
         rotate_left
         ·intro V hSV;(try dsimp only at hSV);obtain ⟨e0,e1,e2,e3,e4⟩:=hSV;go_simp;(try with_reducible rfl)
         clear hI;intro hI;(try simp only [Act.put,List.setIfInBounds_toArray,List.set_cons_zero,List.set_cons_succ] at hI ⊢)
         refine aD (i:=12) (v:=?_) rfl (by decide +kernel) (by decide +kernel) (by decide +kernel) (λ_ _ _ h=>h) (Or.inl ⟨by rfl,?_⟩) hI ?_
         rotate_left
         ·intro V hSV;(try dsimp only at hSV);obtain ⟨e0,e1,e2,e3,e4⟩:=hSV;go_simp;(try with_reducible rfl)
         clear hI;intro hI;(try simp only [Act.put,List.setIfInBounds_toArray,List.set_cons_zero,List.set_cons_succ] at hI ⊢)
         refine aD (i:=13) (v:=?_) rfl (by decide +kernel) (by decide +kernel) (by decide +kernel) (λ_ _ _ h=>h) (Or.inl ⟨by rfl,?_⟩) hI ?_
         rotate_left
         ·intro V hSV;(try dsimp only at hSV);obtain ⟨e0,e1,e2,e3,e4⟩:=hSV;go_simp;(try with_reducible rfl)
         clear hI;intro hI;(try simp only [Act.put,List.setIfInBounds_toArray,List.set_cons_zero,List.set_cons_succ] at hI ⊢)
         refine aD (i:=14) (v:=?_) rfl (by decide +kernel) (by decide +kernel) (by decide +kernel) (λ_ _ _ h=>h) (Or.inl ⟨by rfl,?_⟩) hI ?_
         rotate_left
         ·intro V hSV;(try dsimp only at hSV);obtain ⟨e0,e1,e2,e3,e4⟩:=hSV;go_simp;(try with_reducible rfl)
         clear hI;intro hI;(try simp only [Act.put,List.setIfInBounds_toArray,List.set_cons_zero,List.set_cons_succ] at hI ⊢)
         refine aD (i:=15) (v:=?_) rfl (by decide +kernel) (by decide +kernel) (by decide +kernel) (λ_ _ _ h=>h) (Or.inl ⟨by rfl,?_⟩) hI ?_
         rotate_left
         ·intro V hSV;(try dsimp only at hSV);obtain ⟨e0,e1,e2,e3,e4⟩:=hSV;go_simp;(try with_reducible rfl)
         clear hI;intro hI;(try simp only [Act.put,List.setIfInBounds_toArray,List.set_cons_zero,List.set_cons_succ] at hI ⊢)
         refine gn (i:=11) (by decide +kernel) (by omega) hI.1 rfl (λK hK=>?_)
         go_simp
         go_at_call 116;((with_reducible refine (Hin.out _ (Below.refl _ _).drew).mono ?_);rintro e w4 ⟨rfl,hb4⟩;obtain ⟨q0,q1,q2,q3,q4,q5,q6⟩:=HQ.out w4 (Below.next (Below.refl _ _).drew hb4))
         refine hK.out _ _ (by exact ⟨q0,q1,q2,q3,q4⟩) (λhI=>?_)
         clear hK K
         refine gn (i:=16) (by decide +kernel) (by omega) hI.1 rfl (λK hK=>?_)
         go_simp
         go_at_call 232;((with_reducible refine (Hsc.out _ q6).mono ?_);rintro e w5 ⟨a5,c5,rfl,hown5,hb5⟩;obtain ⟨s0,s1,s2,s3,s4,s5,s6⟩:=HQ.out w5 (Below.next q6 hb5))
         refine hK.out _ _ (by exact ⟨s0,s1,s2,s3,s4⟩) (λhI=>?_)
         clear hK K
         refine aD (i:=17) (v:=?_) rfl (by decide +kernel) (by decide +kernel) (by decide +kernel) (λ_ _ _ h=>h) (Or.inl ⟨by rfl,?_⟩) hI ?_
         rotate_left
         ·intro V hSV;(try dsimp only at hSV);obtain ⟨e0,e1,e2,e3,e4⟩:=hSV;go_simp;(try with_reducible rfl)
         clear hI;intro hI;(try simp only [Act.put,List.setIfInBounds_toArray,List.set_cons_zero,List.set_cons_succ] at hI ⊢)
         refine jS (i:=18) (by decide +kernel) (by omega) (by decide +kernel) rfl (λK hK=>?_)
         go_simp
         refine hK.out _ _ ?_
         clear hK K
         have Ho5:=Z5 (aP hown5 q6.size)
         clear hown5
         go_wp2_with fail
         go_meet
         exact HF.out _ _ _ Ho5.out s6
       obtain ⟨R3,hO3,hM3⟩:=hcut
       generalize wc=T at *
       have hbT : Below W.heap.size W T:=hbU.trans (hM3.below (λb' hb'=>(hO2.lt b' hb').1) hbU.size)
       have hrw2:=hrw1.norm Hcl.out (t:=t) (c:=k) (by rw [Hl1.out];exact hPl) (by omega) Hnz1.out
       have hl2 : (bp O L1 t k).length=n:=by rw [dg];exact Hl1.out
       have Hl2:=Z5 hl2
       have hopT:=hM3.own hopU HoiU.out
       have hoiT : ap ≠ none->¬ bL a1 R3 (ablk ap):=λhn=>hM3.not (aR hopU hn).2 (HoiU.out hn)
       have HoiT:=Z5 hoiT
       clear hl2 hoiT tr ti tc tp hel d0 d1 d2 hfU hopU hM3
       obtain ⟨L2,hL2⟩ : ∃L2,bp O L1 t k=L2:=⟨_,rfl⟩
       rw [hL2] at hO3 hrw2 Hl2 HL1
       clear hL2
       go_wp2_with fail
       go_loopw [13] (λiv wx=>∃(i : Nat) (R4 : La),i<=n/\iv = .int .i64 i/\aU wx W.heap.size a1 n c1 R4 (clearTo O t k L2 i)/\aB T wx (bL a1 R3) (bL a1 R4)) (λiv _=>n - (intOf iv).toNat)
       case atStart=>exact ⟨0,R3,Nat.zero_le _,rfl,hO3,aB.refl _ _⟩
       case round =>
        obtain ⟨i,R4,hi,rfl,hOi,hMi⟩:=hrel
        generalize wr=X at *
        have hbX : Below W.heap.size W X:=hbT.trans (hMi.below (λb' hb'=>(hO3.lt b' hb').1) hbT.size)
        obtain ⟨d0,d1,d2,hfX⟩:=HS.out X hbX
        by_cases hin : i<n
        ·have hrwi:=bH.clear Hcl.out hrw2 (t:=t) (c:=k) (by rw [Hl2.out];exact hPl) (by omega) i (by rw [Hl2.out];exact hi)
         have hli : (clearTo O t k L2 i).length=n:=by rw [df];exact Hl2.out
         have hstep : clearTo O t k L2 (i+1)=if i=t then clearTo O t k L2 i else (clearTo O t k L2 i).set i (bW O (aj (clearTo O t k L2 i) t) k (aj (clearTo O t k L2 i) i)):=rfl
         have Hstep:=Z5 hstep
         obtain ⟨Li,hLi⟩ : ∃Li,clearTo O t k L2 i=Li:=⟨_,rfl⟩
         rw [hLi] at hrwi hli Hstep hOi
         have hri:=hrwi.row (i:=i) (by omega)
         have hrt:=hrwi.row (i:=t) (by omega)
         have ci:=hOi.cell hin
         have ct:=hOi.cell hPl
         have ii:=hOi.ints hin
         have it:=hOi.ints hPl
         rw [hri.1] at ci ii
         rw [hrt.1] at ct it
         have ck:=ii.cell k (by omega)
         have hpi:=ii.pl
         have hxel : ee P m (nth (aj Li i) k):=hri.2 _ (aN (by rw [hri.1];omega))
         have Hri:=Z5 hri
         have Hrt:=Z5 hrt
         clear hri hrt hli hstep hLi
         by_cases hit : i=t
         ·have hit' : ((i : Int) != t)=false:=by simp [hit]
          have Hn : Hid (clearTo O t k L2 (i+1)=Li):=by show _=_;rw [Hstep.out,if_pos hit]
          clear hit
          go_wp2_with fail
          go_roundw
          case rel=>exact ⟨i+1,R4,by omega,by go_num,by rw [Hn.out];exact hOi,hMi⟩
          case measure=>simp [intOf] <;> omega
         ·have hit' : ((i : Int) != t)=true:=by simp;omega
          by_cases hx0 : nth (aj Li i) k=0
          ·have hx0' : (nth (aj Li i) k != 0)=false:=by simp [hx0]
           have Hn : Hid (clearTo O t k L2 (i+1)=Li):=by show _=_;rw [Hstep.out,if_neg hit,bW,if_pos hx0,gU]
           clear hit hx0
           go_wp2_with fail
           go_roundw
           case rel=>exact ⟨i+1,R4,by omega,by go_num,by rw [Hn.out];exact hOi,hMi⟩
           case measure=>simp [intOf] <;> omega
          ·have hx0' : (nth (aj Li i) k != 0)=true:=by simpa using hx0
           obtain ⟨N,hN⟩ : ∃N,bJ O (aj Li i) (fneg P m (nth (aj Li i) k)) (aj Li t)=N:=⟨_,rfl⟩
           have Hn : Hid (clearTo O t k L2 (i+1)=Li.set i N):=by show _=_;rw [Hstep.out,if_neg hit,bW,if_neg hx0,<- hN,<- HO.out];rfl
           have hQ : ∀V,Below X.heap.size X V->V.cell? ⟨w.heap.size,0,none⟩=some (.int .i64 P)/\V.cell? ⟨w.heap.size,1,none⟩=some (.int .i64 m)/\V.cell? ⟨w.heap.size,2,none⟩=some (.slice am mn cm) /\
             V.cell? ⟨ablk a1,aJ a1+i,none⟩=some (.slice (aM R4 i).1 len (aM R4 i).2)/\V.cell? ⟨ablk a1,aJ a1+t,none⟩=some (.slice (aM R4 t).1 len (aM R4 t).2)/\V.cell? ⟨ablk (aM R4 i).1,aJ (aM R4 i).1+k,none⟩=some (.int .i64 (nth (aj Li i) k))/\V.frozen? ⟨ablk a1,aJ a1+i,none⟩=false/\Below X.heap.size X V :=
            λV hV=>⟨aw hV d0,aw hV d1,aw hV d2,aw hV ci,aw hV ct,aw hV ck,(hOi.ah hV).frozen hin,hV⟩
           have HQ:=Z5 hQ
           have Hng : Hid (∀V,Below X.heap.size X V->Calls Tryz.prog 233 #[.agg #[.int .i64 P,.int .i64 m,.slice am mn cm],.int .i64 (nth (aj Li i) k)] V λe w'=>e = .returned (.int .i64 (fneg P m (nth (aj Li i) k)))/\Below V.heap.size V w') :=
            λV hV=>tM P m am mn cm _ V hf.rf (hf.rf.fG hxel)
           have Had : Hid (∀V,Below X.heap.size X V->Calls Tryz.prog 115 #[.agg #[.int .i64 P,.int .i64 m,.slice am mn cm],.slice (aM R4 i).1 len (aM R4 i).2,.int .i64 (fneg P m (nth (aj Li i) k)),.slice (aM R4 t).1 len (aM R4 t).2] V (cC V N)) :=
            λV hV=>by rw [<- hN,<- HO.out];exact jJ P m am mn cm mod _ len _ _ _ _ _ _ V (hfX.ah hV) (qg hf.rf.res _) (ii.ah hV) (it.ah hV) Hri.out.2 Hrt.out.2 hlen
           have HF : Hid (∀V5 a5 c5,V5.ownsRow X.heap.size 3 1 (.slice a5 N.length c5) N.length (N.map (Value.int .i64))->Below X.heap.size X V5 ->
             ∃R5,aU (V5.setCell ⟨ablk a1,aJ a1+i,none⟩ (.slice a5 N.length c5)) W.heap.size a1 n c1 R5 (clearTo O t k L2 (i+1))/\aB X (V5.setCell ⟨ablk a1,aJ a1+i,none⟩ (.slice a5 N.length c5)) (bL a1 R4) (bL a1 R5)) :=
            λV5 a5 c5 h1 h2=>by rw [Hn.out];exact hOi.newRow hin h2 hbX.size h1
           have Hit:=Z5 hit
           clear hit hx0 hQ hN Hn
           obtain ⟨p,hp⟩ : ∃p,nth (aj Li i) k=p:=⟨_,rfl⟩
           rw [hp] at HQ Hng Had ck hx0'
           obtain ⟨iv,hiv⟩ : ∃iv,fneg P m p=iv:=⟨_,rfl⟩
           rw [hiv] at Hng Had
           clear hp hiv
           have hap : ∀(V : World) (v : Value),(V.setCell ⟨ablk a1,aJ a1+i,none⟩ v).cell? ⟨ablk (aM R4 i).1,aJ (aM R4 i).1+k,none⟩=V.cell? ⟨ablk (aM R4 i).1,aJ (aM R4 i).1+k,none⟩ /\
             (V.setCell ⟨ablk a1,aJ a1+i,none⟩ v).cell? ⟨ablk a1,aJ a1+t,none⟩=V.cell? ⟨ablk a1,aJ a1+t,none⟩:=λV v=>by
            refine ⟨World.cell?_setCell_other _ _ _ _ λe=>?_,World.cell?_setCell_other _ _ _ _ (by have:=Hit.out;simp <;> omega)⟩
            have h0 : (aM R4 i).1 ≠ none:=λh=>by have:=hpi (by omega);rw [h] at this;cases this
            rcases hOi.sD i hin with h1 | h1
            ·exact h0 h1
            ·have h2:=congrArg Addr.block e
             simp at h2
             first | exact h1 h2 | exact h1 h2.symm
           have Hap:=Z5 hap
           have hBlk : W.heap.size<=ablk a1:=(hOi.lt _ (.inl ⟨hOi.ne (by omega),rfl⟩)).1
           have HbX:=Z5 hbX
           have HX2 : Hid (∀V,Below W.heap.size W V->V.cell? ⟨w.heap.size,0,none⟩=some (.int .i64 P)/\V.cell? ⟨w.heap.size,1,none⟩=some (.int .i64 m)/\V.cell? ⟨w.heap.size,2,none⟩=some (.slice am mn cm)):=λV hV=>⟨(HS.out V hV).1,(HS.out V hV).2.1,(HS.out V hV).2.2.1⟩
           clear hap
           go_wp2_with fail
           refine iX (λV=>V.cell? ⟨w.heap.size,0,none⟩=some (.int .i64 P)/\V.cell? ⟨w.heap.size,1,none⟩=some (.int .i64 m)/\V.cell? ⟨w.heap.size,2,none⟩=some (.slice am mn cm)/\V.cell? ⟨ablk a1,aJ a1+i,none⟩=some (.slice (aM R4 i).1 len (aM R4 i).2)/\V.cell? ⟨ablk a1,aJ a1+t,none⟩=some (.slice (aM R4 t).1 len (aM R4 t).2)/\V.cell? ⟨ablk (aM R4 i).1,aJ (aM R4 i).1+k,none⟩=some (.int .i64 p)) 22 (by kernel_rfl) (by exact ⟨d0,d1,d2,ci,ct,ck⟩) λhI=>?_
           refine aD (i:=0) (v:=?_) rfl (by decide +kernel) (by decide +kernel) (by decide +kernel) (λ_ _ _ h=>h) (Or.inl ⟨by rfl,?_⟩) hI ?_
           rotate_left
           ·intro V hSV;(try dsimp only at hSV);obtain ⟨e0,e1,e2,e3,e4,e5⟩:=hSV;go_simp;(try with_reducible rfl)
           clear hI;intro hI;(try simp only [Act.put,List.setIfInBounds_toArray,List.set_cons_zero,List.set_cons_succ] at hI ⊢)
           refine aD (i:=1) (v:=?_) rfl (by decide +kernel) (by decide +kernel) (by decide +kernel) (λ_ _ _ h=>h) (Or.inl ⟨by rfl,?_⟩) hI ?_
           rotate_left
           ·intro V hSV;(try dsimp only at hSV);obtain ⟨e0,e1,e2,e3,e4,e5⟩:=hSV;go_simp;(try with_reducible rfl)
           clear hI;intro hI;(try simp only [Act.put,List.setIfInBounds_toArray,List.set_cons_zero,List.set_cons_succ] at hI ⊢)
           refine aD (i:=2) (v:=?_) rfl (by decide +kernel) (by decide +kernel) (by decide +kernel) (λ_ _ _ h=>h) (Or.inl ⟨by rfl,?_⟩) hI ?_
           rotate_left
           ·intro V hSV;(try dsimp only at hSV);obtain ⟨e0,e1,e2,e3,e4,e5⟩:=hSV;go_simp;(try with_reducible rfl)
           clear hI;intro hI;(try simp only [Act.put,List.setIfInBounds_toArray,List.set_cons_zero,List.set_cons_succ] at hI ⊢)
           refine aD (i:=3) (v:=?_) rfl (by decide +kernel) (by decide +kernel) (by decide +kernel) (λ_ _ _ h=>h) (Or.inl ⟨by rfl,?_⟩) hI ?_
           rotate_left
           ·intro V hSV;(try dsimp only at hSV);obtain ⟨e0,e1,e2,e3,e4,e5⟩:=hSV;go_simp;(try with_reducible rfl)
           clear hI;intro hI;(try simp only [Act.put,List.setIfInBounds_toArray,List.set_cons_zero,List.set_cons_succ] at hI ⊢)
           refine aD (i:=4) (v:=?_) rfl (by decide +kernel) (by decide +kernel) (by decide +kernel) (λ_ _ _ h=>h) (Or.inl ⟨by rfl,?_⟩) hI ?_
           rotate_left
           ·intro V hSV;(try dsimp only at hSV);obtain ⟨e0,e1,e2,e3,e4,e5⟩:=hSV;go_simp;(try with_reducible rfl)
           clear hI;intro hI;(try simp only [Act.put,List.setIfInBounds_toArray,List.set_cons_zero,List.set_cons_succ] at hI ⊢)
           refine aD (i:=5) (v:=?_) rfl (by decide +kernel) (by decide +kernel) (by decide +kernel) (λ_ _ _ h=>h) (Or.inl ⟨by rfl,?_⟩) hI ?_
           rotate_left
           ·intro V hSV;(try dsimp only at hSV);obtain ⟨e0,e1,e2,e3,e4,e5⟩:=hSV;go_simp;(try with_reducible rfl)
           clear hI;intro hI;(try simp only [Act.put,List.setIfInBounds_toArray,List.set_cons_zero,List.set_cons_succ] at hI ⊢)
           refine aD (i:=6) (v:=?_) rfl (by decide +kernel) (by decide +kernel) (by decide +kernel) (λ_ _ _ h=>h) (Or.inl ⟨by rfl,?_⟩) hI ?_
           rotate_left
           ·intro V hSV;(try dsimp only at hSV);obtain ⟨e0,e1,e2,e3,e4,e5⟩:=hSV;go_simp;(try with_reducible rfl)
           clear hI;intro hI;(try simp only [Act.put,List.setIfInBounds_toArray,List.set_cons_zero,List.set_cons_succ] at hI ⊢)
           refine aD (i:=7) (v:=?_) rfl (by decide +kernel) (by decide +kernel) (by decide +kernel) (λ_ _ _ h=>h) (Or.inl ⟨by rfl,?_⟩) hI ?_
           rotate_left
           ·intro V hSV;(try dsimp only at hSV);obtain ⟨e0,e1,e2,e3,e4,e5⟩:=hSV;go_simp;(try with_reducible rfl)
           clear hI;intro hI;(try simp only [Act.put,List.setIfInBounds_toArray,List.set_cons_zero,List.set_cons_succ] at hI ⊢)
           refine aD (i:=8) (v:=?_) rfl (by decide +kernel) (by decide +kernel) (by decide +kernel) (λ_ _ _ h=>h) (Or.inl ⟨by rfl,?_⟩) hI ?_
           rotate_left
           ·intro V hSV;(try dsimp only at hSV);obtain ⟨e0,e1,e2,e3,e4,e5⟩:=hSV;go_simp;(try with_reducible rfl)
           clear hI;intro hI;(try simp only [Act.put,List.setIfInBounds_toArray,List.set_cons_zero,List.set_cons_succ] at hI ⊢)
           refine aD (i:=9) (v:=?_) rfl (by decide +kernel) (by decide +kernel) (by decide +kernel) (λ_ _ _ h=>h) (Or.inl ⟨by rfl,?_⟩) hI ?_
           rotate_left
           ·intro V hSV;(try dsimp only at hSV);obtain ⟨e0,e1,e2,e3,e4,e5⟩:=hSV;go_simp;(try with_reducible rfl)
           clear hI;intro hI;(try simp only [Act.put,List.setIfInBounds_toArray,List.set_cons_zero,List.set_cons_succ] at hI ⊢)
           refine aD (i:=10) (v:=?_) rfl (by decide +kernel) (by decide +kernel) (by decide +kernel) (λ_ _ _ h=>h) (Or.inl ⟨by rfl,?_⟩) hI ?_
           rotate_left
           ·intro V hSV;(try dsimp only at hSV);obtain ⟨e0,e1,e2,e3,e4,e5⟩:=hSV;go_simp;(try with_reducible rfl)
           clear hI;intro hI;(try simp only [Act.put,List.setIfInBounds_toArray,List.set_cons_zero,List.set_cons_succ] at hI ⊢)
           refine aD (i:=11) (v:=?_) rfl (by decide +kernel) (by decide +kernel) (by decide +kernel) (λ_ _ _ h=>h) (Or.inl ⟨by rfl,?_⟩) hI ?_
           rotate_left
           ·intro V hSV;(try dsimp only at hSV);obtain ⟨e0,e1,e2,e3,e4,e5⟩:=hSV;go_simp;(try with_reducible rfl)
           clear hI;intro hI;(try simp only [Act.put,List.setIfInBounds_toArray,List.set_cons_zero,List.set_cons_succ] at hI ⊢)
           refine aD (i:=12) (v:=?_) rfl (by decide +kernel) (by decide +kernel) (by decide +kernel) (λ_ _ _ h=>h) (Or.inl ⟨by rfl,?_⟩) hI ?_
           rotate_left
           ·intro V hSV;(try dsimp only at hSV);obtain ⟨e0,e1,e2,e3,e4,e5⟩:=hSV;go_simp;(try with_reducible rfl)
           clear hI;intro hI;(try simp only [Act.put,List.setIfInBounds_toArray,List.set_cons_zero,List.set_cons_succ] at hI ⊢)
           refine aD (i:=13) (v:=?_) rfl (by decide +kernel) (by decide +kernel) (by decide +kernel) (λ_ _ _ h=>h) (Or.inl ⟨by rfl,?_⟩) hI ?_
           rotate_left
           ·intro V hSV;(try dsimp only at hSV);obtain ⟨e0,e1,e2,e3,e4,e5⟩:=hSV;go_simp;(try with_reducible rfl)
           clear hI;intro hI;(try simp only [Act.put,List.setIfInBounds_toArray,List.set_cons_zero,List.set_cons_succ] at hI ⊢)
           refine aD (i:=14) (v:=?_) rfl (by decide +kernel) (by decide +kernel) (by decide +kernel) (λ_ _ _ h=>h) (Or.inl ⟨by rfl,?_⟩) hI ?_
           rotate_left
           ·intro V hSV;(try dsimp only at hSV);obtain ⟨e0,e1,e2,e3,e4,e5⟩:=hSV;go_simp;(try with_reducible rfl)
           clear hI;intro hI;(try simp only [Act.put,List.setIfInBounds_toArray,List.set_cons_zero,List.set_cons_succ] at hI ⊢)
           refine aD (i:=16) (v:=?_) rfl (by decide +kernel) (by decide +kernel) (by decide +kernel) (λ_ _ _ h=>h) (Or.inl ⟨by rfl,?_⟩) hI ?_
           rotate_left
           ·intro V hSV;(try dsimp only at hSV);obtain ⟨e0,e1,e2,e3,e4,e5⟩:=hSV;go_simp;(try with_reducible rfl)
           clear hI;intro hI;(try simp only [Act.put,List.setIfInBounds_toArray,List.set_cons_zero,List.set_cons_succ] at hI ⊢)
           refine aD (i:=17) (v:=?_) rfl (by decide +kernel) (by decide +kernel) (by decide +kernel) (λ_ _ _ h=>h) (Or.inl ⟨by rfl,?_⟩) hI ?_
           rotate_left
           ·intro V hSV;(try dsimp only at hSV);obtain ⟨e0,e1,e2,e3,e4,e5⟩:=hSV;go_simp;(try with_reducible rfl)
           clear hI;intro hI;(try simp only [Act.put,List.setIfInBounds_toArray,List.set_cons_zero,List.set_cons_succ] at hI ⊢)
           refine aD (i:=18) (v:=?_) rfl (by decide +kernel) (by decide +kernel) (by decide +kernel) (λ_ _ _ h=>h) (Or.inl ⟨by rfl,?_⟩) hI ?_
           rotate_left
           ·intro V hSV;(try dsimp only at hSV);obtain ⟨e0,e1,e2,e3,e4,e5⟩:=hSV;go_simp;(try with_reducible rfl)
           clear hI;intro hI;(try simp only [Act.put,List.setIfInBounds_toArray,List.set_cons_zero,List.set_cons_succ] at hI ⊢)
           refine aD (i:=19) (v:=?_) rfl (by decide +kernel) (by decide +kernel) (by decide +kernel) (λ_ _ _ h=>h) (Or.inl ⟨by rfl,?_⟩) hI ?_
           rotate_left
           ·intro V hSV;(try dsimp only at hSV);obtain ⟨e0,e1,e2,e3,e4,e5⟩:=hSV;go_simp;(try with_reducible rfl)
           clear hI;intro hI;(try simp only [Act.put,List.setIfInBounds_toArray,List.set_cons_zero,List.set_cons_succ] at hI ⊢)
           refine gn (i:=15) (by decide +kernel) (by omega) hI.1 rfl (λK hK=>?_)
           go_simp
           go_at_call 233;((with_reducible refine (Hng.out _ (Below.refl _ _).drew).mono ?_);rintro e w4 ⟨rfl,hb4⟩;obtain ⟨q0,q1,q2,q3,q4,q5,q7,q6⟩:=HQ.out w4 (Below.next (Below.refl _ _).drew hb4))
           refine hK.out _ _ (by exact ⟨q0,q1,q2,q3,q4,q5⟩) (λhI=>?_)
           clear hK K
           refine gn (i:=20) (by decide +kernel) (by omega) hI.1 rfl (λK hK=>?_)
           go_simp
           go_at_call 115;((with_reducible refine (Had.out _ q6).mono ?_);rintro e w5 ⟨a5,c5,rfl,hown5,hb5⟩;obtain ⟨s0,s1,s2,s3,s4,s5,s7,s6⟩:=HQ.out w5 (Below.next q6 hb5))
           refine hK.out _ _ (by exact ⟨s0,s1,s2,s3,s4,s5⟩) (λhI=>?_)
           clear hK K
           refine aD (i:=21) (v:=?_) rfl (by decide +kernel) (by decide +kernel) (by decide +kernel) (λ_ _ _ h=>h) (Or.inl ⟨by rfl,?_⟩) hI ?_
           rotate_left
           ·intro V hSV;(try dsimp only at hSV);obtain ⟨e0,e1,e2,e3,e4,e5⟩:=hSV;go_simp;(try with_reducible rfl)
           clear hI;intro hI;(try simp only [Act.put,List.setIfInBounds_toArray,List.set_cons_zero,List.set_cons_succ] at hI ⊢)
           refine jS (i:=22) (by decide +kernel) (by omega) (by decide +kernel) rfl (λK hK=>?_)
           go_simp
           refine hK.out _ _ ?_
           clear hK K
           have Ho5:=Z5 (aP hown5 q6.size)
           have Hs6:=Z5 s6
           clear hown5 HQ Hng Had q0 q1 q2 q3 q4 q5 q6 q7 s0 s1 s2 s3 s4 s5 s6 s7
           go_wp2_with fail
           go_roundw
           case rel =>
            obtain ⟨R5,hO5,hM5⟩:=HF.out _ _ _ Ho5.out Hs6.out
            exact ⟨i+1,R5,by omega,by go_num,hO5,hMi.trans hM5⟩
           case measure=>simp [intOf] <;> omega
        ·obtain rfl : i=n:=by omega
         have hopX:=hMi.own hopT HoiT.out
         have hoiX : ap ≠ none->¬ bL a1 R4 (ablk ap):=λhn=>hMi.not (aR hopT hn).2 (HoiT.out hn)
         have HoiX:=Z5 hoiX
         have hcn:=br X (.int .i64 k) 3
         have hbn:=an X (.cells #[.int .i64 k] 3)
         have hsz:=hbX.size
         clear hoiX
         go_wp2_with (at_builtin;refine bk rfl _ _ 22 3 rfl (.int .i64 0) 8 Tryz.underlying22 aX rfl W.heap.size ap t cp _ rfl (hopX.alloc _) ⟨X.heap.size,0,none⟩ 1 (.int .i64 k) rfl hcn rfl (by omega) (by unfold maxLen;omega) (by simp;omega) ?_;intro a3 c3 w3 hown3 hgr hap3)
         go_roundw
         case rel =>
          have hnx : aA O L (k+1)=(clearTo O t k L2 i,Pv ++ [(k : Int)]):=by
           rw [dp hst.out (by rw [HLkn.out,Ht.out];exact hPl),Ht.out,if_neg (by rw [Hf.out,HLkn.out];omega),Hf.out,HL1.out]
          have hne : ∀b',bL a1 R4 b'->db ap b':=λb' hb'=>by
           by_cases hn : ap=none
           ·exact .inl hn
           ·exact .inr λe=>HoiX.out hn (by rw [e];exact hb')
          have hOn:=hOi.ah hbn
          have hO6 : aU w3 W.heap.size a1 i c1 R4 (clearTo O t k L2 i):=hOn.bz λb' hb'=>hgr.block b' (hOn.lt b' hb').2 λe=>(hne b' hb').own t cp e.symm
          have hb3 : Below W.heap.size W w3:=Below.app (Below.trans hbX (hbn.mono hsz)) (hopX.alloc _) hgr (Nat.le_refl _) (Nat.le_trans hsz hbn.size)
          have hrw3:=bH.clear Hcl.out hrw2 (t:=t) (c:=k) (by rw [Hl2.out];exact hPl) (by omega) i (by rw [Hl2.out];exact hi)
          have ho4 : a3 ≠ none->¬ bL a1 R4 (ablk a3):=λhn hI=>by
           rcases hap3 _ (hOn.lt _ hI).2 (hne _ hI) with h1 | h1
           ·exact hn h1
           ·exact h1 rfl
          have hPl2 : (Pv ++ [(k : Int)]).length=t+1:=by rw [List.length_append,Ht.out];rfl
          refine ⟨k+1,R4,a3,c3,clearTo O t k L2 i,Pv ++ [(k : Int)],by omega,by go_num,by rw [hPl2];go_num,by rw [hPl2],hnx.symm,hO6,?_,ho4,hb3,hrw3,by rw [hPl2];omega⟩
          rw [hPl2];simpa using hown3
         case measure=>simp [intOf] <;> omega
     ·obtain rfl : j=n:=by omega
      have Hn : Hid ((Lk,Pv)=aA O L (k+1)):=by
       show _=_;rw [dp hst.out (by rw [HLkn.out,Ht.out];exact hPl),Ht.out,if_pos (by rw [hfr.out,i9 (by rw [HLkn.out];exact Nat.le_refl _),HLkn.out])]
      have hjj : decide ((j : Int)<j)=false:=by simp
      go_wp2_with fail
      go_roundw
      case rel=>exact ⟨k+1,R',ap,cp,Lk,Pv,by omega,by go_num,by rw [Ht.out],by rw [Ht.out],Hn.out,hOr,by rw [Ht.out];exact hop,hoi.out,hbr,hrw,by rw [Ht.out];exact hPn⟩
      case measure=>simp [intOf] <;> omega
   ·have hPe : Pv.length=n:=by omega
    have hfull : (Lk,Pv)=aA O L cols:=by
     rw [show cols=k+(cols - k) by omega,fC (by rw [<- hst.out,hPe,<- Hlen.out]),<- hst.out]
    have Hfull:=Z5 hfull
    have hPe' : decide ((Pv.length : Int)<n)=false:=by simp;omega
    clear hfull hPe
    go_wp2_with fail
    go_ret2
    exact Hfin.out _ _ _ _ _ _ _ _ Hfull.out (hOr.mono hbW.size) (aP hop hbW.size) (Below.next hbW hbr)
  ·obtain rfl : k=cols:=by omega
   have hk' : decide ((k : Int)<k)=false:=by simp
   go_wp2_with fail
   go_ret2
   exact Hfin.out _ _ _ _ _ _ _ _ hst.out (hOr.mono hbW.size) (aP hop hbW.size) (Below.next hbW hbr)
theorem qf (q : Int) (n : Nat) (w : World) (h2 : 2<=q) (h256 : q<=256) (hn : n<=1000000) :
  Calls Tryz.prog 108 #[.int .i64 q,.int .i64 n,.int .i64 65536] w λe w'=>e = .returned (.tuple #[.int .i64 (lZ q n),.int .i64 (lA q n)])/\w=w':=by
 go_enter Tryz.func108,Tryz.ntmps108
 go_wp2_with fail
 go_loop [8,9] (λqv nv=>∃k : Nat,k<=n/\nv = .int .i64 k/\qv = .int .i64 (q ^ k)/\q ^ k<=65536/\1<=q ^ k) (λ_ i=>n - (intOf i).toNat)
 case atStart=>exact ⟨0,Nat.zero_le _,rfl,by simp,by simp,by simp⟩
 case round =>
  obtain ⟨k,hk,rfl,rfl,hb,hb1⟩:=hrel
  have hP0 : q ≠ 0:=by omega
  by_cases hlt : k<n
  ·have e1 : q ^ (k+1)=q ^ k * q:=Int.pow_succ _ _
   have hd0 : (0 : Int)<=65536 / q:=Int.ediv_nonneg (by omega) (by omega)
   have hd1 : 65536 / q<=65536:=Int.ediv_le_self _ (by omega)
   by_cases h5 : 65536 / q<q ^ k
   ·have hbig : ¬ q ^ n<=65536:=by
     intro h
     have h6:=cW (show 1<=q by omega) (show k+1<=n by omega)
     have h7 : 65536<q ^ k * q:=Int.lt_mul_of_ediv_lt (by omega) h5
     omega
    have Hb:=Z5 (tS hbig)
    clear e1 hbig
    generalize q ^ k=z at *
    go_wp2_with fail
    go_ret2
    exact ⟨cO Hb.out.1.symm Hb.out.2.symm,rfl⟩
   ·have h6 : q ^ k * q<=65536:=by
     have:=Int.mul_le_of_le_ediv (show (0 : Int)<q by omega) (show q ^ k<=65536 / q by omega)
     exact this
    have h7 : 1 * 1<=q ^ k * q:=Int.mul_le_mul hb1 (by omega) (by omega) (by omega)
    have E1:=Z5 e1
    clear e1
    generalize hz : q ^ k=z at *
    have Hz:=Z5 hz
    clear hz
    go_wp2_with fail
    go_round
    case rel=>exact ⟨k+1,by omega,by go_num,by rw [E1.out],by rw [E1.out];exact h6,by rw [E1.out];omega⟩
    case measure=>simp [intOf] <;> omega
  ·obtain rfl : k=n:=by omega
   have Hb:=Z5 (oQ hb)
   generalize q ^ k=z at *
   go_wp2_with fail
   go_ret2
   exact ⟨cO Hb.out.1.symm Hb.out.2.symm,rfl⟩
end Go.Proofs.YtcfmiocdlcapoaaGreat
