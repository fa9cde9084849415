import Derived.Test.YtcfmiocdlcapoaaGreatHBS12
import Derived.Test.YtcfmiocdlcapoaaGreatHBS10
import Derived.Laws.Bits64
import Derived.Laws.Bits64b
namespace Go.Proofs.YtcfmiocdlcapoaaGreat
set_option linter.all false
set_option maxRecDepth 100000
set_option maxHeartbeats 8000000
open Go.RowKit Tryz
theorem ye (L : ZZ) (t : Nat) : bk L t t=L:=by rw [bk,kC,kC]
theorem aY.newRow {V V5 : World} {B : Nat} {a : OA} {n c : Nat} {R : Z4} {L : ZZ} (h : aY V B a n c R L) {i : Nat} (hi : i<n) (hb : Rs V V5) (hB : B<=V.heap.size) {a5 : OA} {c5 : Nat} {l : Lz}
  (hown : V5.ownsRow V.heap.size 3 1 (.slice a5 l.length c5) l.length (l.map (Value.int .i64))) :
  ∃R',aY (V5.setCell ⟨an a,aP a+i,none⟩ (.slice a5 l.length c5)) B a n c R' (L.set i l)/\aw V (V5.setCell ⟨an a,aP a+i,none⟩ (.slice a5 l.length c5)) (bS a R) (bS a R'):=by
 have hO4:=h.ah hb;have hnew : ∀b,b<V.heap.size->cF a5 b:=λb hb=>mI hown hb;have h1:=hO4.setRow hi (bg hown hB) (hnew _ (h.lt _ (.inl ⟨h.ne (by omega),rfl⟩)).2) (λj hj _=>by
  by_cases hn : (aV R j).1=none
  ·exact .inl hn
  ·exact .inr (hnew _ (h.lt _ (aY.l6 (by rw [h.rl];exact hj) hn)).2))
 have h2:=h.mY hb hi (r:=a5) (rc:=c5) (.slice a5 l.length c5) (λha=>.inr (aZ hown ha).1);exact ⟨_,h1,h2⟩
def p9 (O : aJ) (L : ZZ) (cols : Nat) (w : World) (e : Ending) (w' : World) : Prop :=
 ∃a c R ap cp,e = .returned (.tuple #[.slice a L.length c,.slice ap (aC O L cols).2.length cp])/\aY w' w.heap.size a L.length c R (aC O L cols).1 /\
  w'.ownsRow w.heap.size 3 1 (.slice ap (aC O L cols).2.length cp) (aC O L cols).2.length ((aC O L cols).2.map (Value.int .i64))/\Rs w w'
theorem EH (P : Int) (m : Nat) (am : OA) (mn cm : Nat) (mod : Lz) (a : OA) (n c cols len : Nat) (L : ZZ) (w : World) (hf : vW w P m am mn mod) (hi : cU w a n L)
  (hR : bx (fC P m) len L) (hcl : cols<=len) (hlen : len<=1000000) (hn : n<=1000000) (hinv : ∀p,fC P m p->p ≠ 0->(ia P m mod p=1 ↔ p=1)) :
  Calls prog 183 #[.agg #[.int .i64 P,.int .i64 m,.slice am mn cm],.slice a n c,.int .i64 cols] w (p9 (mQ P m mod) L cols w):=by
 obtain ⟨O,hO⟩ : ∃O,mQ P m mod=O:=⟨_,rfl⟩
 rw [hO];have HO:=Z5 hO;have Hcl : Hid (sV O (fC P m)):=by show sV O _;rw [<- hO];exact L8 hf.rf mod
 have Hinv:=Z5 hinv;have Hlen:=Z5 hi.len;have HR:=Z5 hR;have hLl : ∀l ∈ L,l.length<=1000000:=λl hl=>by rw [(hR l hl).1];exact hlen
 have HLl:=Z5 hLl;clear hinv hR hLl hO;have hfin : ∀w' a' c' R' ap cp Lk Pv,(Lk,Pv)=aC O L cols->aY w' w.heap.size a' n c' R' Lk->w'.ownsRow w.heap.size 3 1 (.slice ap Pv.length cp) Pv.length (Pv.map (Value.int .i64))->Rs w w' ->
   p9 O L cols w (.returned (.tuple #[.slice a' n c',.slice ap Pv.length cp])) w':=by
  intro w' a' c' R' ap cp Lk Pv he h1 h2 h3;have e1 : (aC O L cols).1=Lk:=by rw [<- he]
  have e2 : (aC O L cols).2=Pv:=by rw [<- he]
  refine ⟨a',c',R',ap,cp,?_,?_,?_,h3⟩
  ·rw [e2,Hlen.out]
  ·rw [e1,Hlen.out];exact h1
  ·rw [e2];exact h2
 have Hfin:=Z5 hfin;clear hfin;go_enter func183,ntmps183;go_wp2_with fail;obtain ⟨W,hW⟩ : ∃W : World,W=w.alloc (.cells #[.int .i64 P,.int .i64 m,.slice am mn cm] 24):=⟨_,rfl⟩
 rw [<- hW];have hbW : Rs w W:=by rw [hW];exact aB _ _
 have x0 : bf W w.heap.size [.int .i64 P,.int .i64 m,.slice am mn cm]:=by rw [hW];exact QS _ _ _ rfl
 have HX:=Z5 x0;have hfW:=hf.ah hbW;clear hW x0;refine (D9 a n c L W (hi.ah hbW) hn HLl.out).mono ?_;rintro e w1 ⟨a1,c1,R1,rfl,hO1,hb1⟩;rw [Hlen.out] at hO1 ⊢;have hS : ∀V,Rs W V->V.cell? ⟨w.heap.size,0,none⟩=some (.int .i64 P)/\V.cell? ⟨w.heap.size,1,none⟩=some (.int .i64 m)/\V.cell? ⟨w.heap.size,2,none⟩=some (.slice am mn cm)/\vW V P m am mn mod:=by intro V hV;have x1:=HX.out.ah hV;exact ⟨x1.cell 0 rfl,x1.cell 1 rfl,x1.cell 2 rfl,hfW.ah hV⟩
 have HS:=Z5 hS;have hpl1:=hO1.pl;clear hS;go_wp2_with fail;go_loopw [9,10,11] (λpv av cv wr=>∃(k : Nat) (R' : Z4) (ap : OA) (cp : Nat) (Lk : ZZ) (Pv : Lz),k<=cols/\cv = .int .i64 k/\av = .int .i64 Pv.length/\pv = .slice ap Pv.length cp /\
   Hid ((Lk,Pv)=aC O L k)/\aY wr W.heap.size a1 n c1 R' Lk/\wr.ownsRow W.heap.size 3 1 (.slice ap Pv.length cp) Pv.length (Pv.map (Value.int .i64))/\Hid (ap ≠ none->¬ bS a1 R' (an ap)) /\
   Rs W wr/\bx (fC P m) len Lk/\Pv.length<=n) (λ_ _ cv _=>cols - (intOf cv).toNat)
 case atStart=>exact ⟨0,R1,none,0,L,[],Mj _,rfl,rfl,rfl,rfl,hO1,bP,λh=>absurd rfl h,hb1,HR.out,Mj _⟩
 case round =>
  obtain ⟨k,R',ap,cp,Lk,Pv,hkc,rfl,rfl,rfl,hst,hOr,hop,hoi,hbr,hrw,hPn⟩:=hrel
  generalize wr=V at *
  have HLkn:=Z5 hOr.ll
  by_cases hk : k<cols
  ·have hk' : decide ((k : Int)<cols)=true:=by simp;omega
   by_cases hPl : Pv.length<n
   ·have hPl' : decide ((Pv.length : Int)<n)=true:=by simp;omega
    obtain ⟨t,ht⟩ : ∃t,Pv.length=t:=⟨_,rfl⟩
    have Ht:=Z5 ht
    rw [ht] at hPl hPn hop hPl'
    rw [ht]
    clear ht
    go_wp2_with fail
    go_loop [12] (λkv=>∃j : Nat,t<=j/\j<=n/\kv = .int .i64 j/\Hid (aW Lk k t=aW Lk k j)) (λkv=>n - (intOf kv).toNat)
    case atStart=>exact ⟨t,Mf _,hPn,rfl,rfl⟩
    case round =>
     obtain ⟨j,hj1,hj2,rfl,hfr⟩:=hrel
     by_cases hjn : j<n
     ·have hLj : j<Lk.length:=by rw [HLkn.out];exact hjn
      have hrow:=hrw.row hLj
      have ci:=hOr.cell hjn
      have ri:=hOr.ints hjn
      rw [hrow.1] at ci ri
      have ck:=ri.cell k (by omega)
      have hpr:=ri.pl
      have hkl : (k : Int)<len:=by omega
      have hjn' : decide ((j : Int)<n)=true:=by simp;omega
      have hfs:=gP (c:=k) hLj
      by_cases hz : nth (ai Lk j) k=0
      ·rw [Mg hz] at hfs
       have hz' : (nth (ai Lk j) k == 0)=true:=by simpa using hz
       have Hf : Hid (aW Lk k t=aW Lk k (j+1)):=by show _=_;rw [hfr.out,hfs]
       clear hz hfs hrow
       go_wp2_with fail
       go_round
       case rel=>exact ⟨j+1,by omega,by omega,by go_num,Hf.out⟩
       case measure=>simp [intOf] <;> omega
      ·rw [Mh hz] at hfs
       have hz' : (nth (ai Lk j) k == 0)=false:=by simpa using hz
       have Hf : Hid (aW Lk k t=j):=by show _=_;rw [hfr.out,hfs]
       have hjne : ((j : Int) == n)=false:=by simp;omega
       have Hz:=Z5 hz
       have Hrow:=Z5 hrow
       clear hz hfs hrow
       have ct:=hOr.cell hPl
       have fk:=hOr.frozen hjn
       have ft:=hOr.frozen hPl
       have k3 : (V.setCell ⟨an a1,aP a1+t,none⟩ (.slice (aV R' j).1 len (aV R' j).2)).cell? ⟨an a1,aP a1+j,none⟩=some (.slice (aV R' j).1 len (aV R' j).2):=by
        by_cases e : j=t
        ·subst e;exact Mw _ _ _ ct
        ·rw [MA _ _ _ _ (by simp <;> omega)];exact ci
       have htl : t<Lk.length:=by rw [HLkn.out];exact hPl
       have hrt:=hrw.row htl
       rw [hrt.1] at ct
       have Hrt:=Z5 hrt
       clear hrt
       go_upto_region 11 with fail
       go_cut [] (λwx=>∃R2,aY wx W.heap.size a1 n c1 R2 (bk Lk t j)/\aw V wx (bS a1 R') (bS a1 R2))
       case first =>
        have hO2:=(hOr.swap hPl hjn).drew
        have hM2:=(hOr.sK hPl hjn (.slice (aV R' j).1 (ai Lk j).length (aV R' j).2) (.slice (aV R' t).1 (ai Lk t).length (aV R' t).2)).drew
        rw [Hrow.out.1,Hrt.out.1] at hO2 hM2
        have HO2:=Z5 (My hO2 hM2)
        clear hO2 hM2
        go_region
        all_goals (
         go_wp2_with fail
         go_meet
         exact ⟨_,HO2.out.1,HO2.out.2⟩)
       obtain ⟨R2,hO2,hM2⟩:=hcut
       generalize wc=U at *
       have hbU : Rs W U:=hbr.trans (hM2.below (λb' hb'=>(hOr.lt b' hb').1) hbr.size)
       have hrw1:=hrw.swap htl hLj
       have hl1 : (bk Lk t j).length=n:=by rw [dQ];exact HLkn.out
       have hnz1 : nth (ai (bk Lk t j) t) k ≠ 0:=by
        rw [pd _ _ _ _ htl hLj];have e : lI t j t=j:=by unfold lI;split <;> simp_all
        rw [e];exact Hz.out
       have HL1 : Hid (eB O Lk t j k=aR O t k (bq O (bk Lk t j) t k) n):=by
        show _=_;rw [iB,HLkn.out];by_cases e : j=t
        ·rw [Mg e,e,ye]
        ·rw [Mh e]
       obtain ⟨L1,hL1⟩ : ∃L1,bk Lk t j=L1:=⟨_,rfl⟩
       rw [hL1] at hO2 hrw1 hl1 hnz1 HL1
       have hrow1:=hrw1.row (i:=t) (by omega)
       have tr:=hO2.cell hPl
       have ti:=hO2.ints hPl
       rw [hrow1.1] at tr ti
       have tc:=ti.cell k (by omega)
       have tp:=ti.pl
       have hel : fC P m (nth (ai L1 t) k):=hrow1.2 _ (aN (by rw [hrow1.1];omega))
       have hiff:=Hinv.out _ hel hnz1
       have hOinv : O.inv (nth (ai L1 t) k)=ia P m mod (nth (ai L1 t) k):=by rw [<- HO.out];rfl
       have HOinv:=Z5 hOinv
       have Hiff:=Z5 hiff
       have Hrow1:=Z5 hrow1
       have Hl1:=Z5 hl1
       have Hnz1:=Z5 hnz1
       have hopU:=hM2.own hop hoi.out
       have hoiU : ap ≠ none->¬ bS a1 R2 (an ap):=λhn=>hM2.not (aZ hop hn).2 (hoi.out hn)
       have HoiU:=Z5 hoiU
       obtain ⟨d0,d1,d2,hfU⟩:=HS.out U hbU
       have hBU:=hbU.size
       clear hL1 hrow1 hl1 hnz1 hiff hOinv hoiU ci ri ck hpr ct fk ft k3 hjn' hz' hop hM2 hOr
       go_upto_if 69 with fail
       go_cut [] (λwx=>∃R3,aY wx W.heap.size a1 n c1 R3 (bq O L1 t k)/\aw U wx (bS a1 R2) (bS a1 R3))
       case first =>
        by_cases hp1 : nth (ai L1 t) k=1
        ·have hp1' : (nth (ai L1 t) k != 1)=false:=by simp [hp1]
         have Hn : Hid (bq O L1 t k=L1):=by show _=_;rw [bq,Mg (by rw [HOinv.out];exact Hiff.out.2 hp1)]
         clear hp1
         go_wp2_with fail
         go_meet
         exact ⟨R2,by rw [Hn.out];exact hO2,QY _ _⟩
        ·have hp1' : (nth (ai L1 t) k != 1)=true:=by simpa using hp1
         obtain ⟨N,hN⟩ : ∃N,(ai L1 t).map (mulR P m mod (ia P m mod (nth (ai L1 t) k)))=N:=⟨_,rfl⟩
         have Hn : Hid (bq O L1 t k=L1.set t N):=by show _=_;rw [bq,Mh (by rw [HOinv.out];exact λh=>hp1 (Hiff.out.1 h)),HOinv.out,<- hN,<- HO.out];rfl
         have hQ : ∀V,Rs U V->V.cell? ⟨w.heap.size,0,none⟩=some (.int .i64 P)/\V.cell? ⟨w.heap.size,1,none⟩=some (.int .i64 m)/\V.cell? ⟨w.heap.size,2,none⟩=some (.slice am mn cm) /\
           V.cell? ⟨an a1,aP a1+t,none⟩=some (.slice (aV R2 t).1 len (aV R2 t).2)/\V.cell? ⟨an (aV R2 t).1,aP (aV R2 t).1+k,none⟩=some (.int .i64 (nth (ai L1 t) k))/\V.frozen? ⟨an a1,aP a1+t,none⟩=false/\Rs U V :=
          λV hV=>⟨aA hV d0,aA hV d1,aA hV d2,aA hV tr,aA hV tc,(hO2.ah hV).frozen hPl,hV⟩
         have HQ:=Z5 hQ
         have Hin : Hid (∀V,Rs U V->Calls prog 116 #[.agg #[.int .i64 P,.int .i64 m,.slice am mn cm],.int .i64 (nth (ai L1 t) k)] V λe w'=>e = .returned (.int .i64 (ia P m mod (nth (ai L1 t) k)))/\Rs V w') :=
          λV hV=>H7 P m am mn cm mod _ V (hfU.ah hV) hel
         have Hsc : Hid (∀V,Rs U V->Calls prog 232 #[.agg #[.int .i64 P,.int .i64 m,.slice am mn cm],.int .i64 (ia P m mod (nth (ai L1 t) k)),.slice (aV R2 t).1 len (aV R2 t).2] V (cX V N)) :=
          λV hV=>by rw [<- hN];exact BI P m am mn cm mod _ _ len _ _ V (hfU.ah hV) (CB hf.rf mod _) (ti.ah hV) Hrow1.out.2 hlen
         have HF : Hid (∀V5 a5 c5,V5.ownsRow U.heap.size 3 1 (.slice a5 N.length c5) N.length (N.map (Value.int .i64))->Rs U V5 ->
           ∃R3,aY (V5.setCell ⟨an a1,aP a1+t,none⟩ (.slice a5 N.length c5)) W.heap.size a1 n c1 R3 (bq O L1 t k)/\aw U (V5.setCell ⟨an a1,aP a1+t,none⟩ (.slice a5 N.length c5)) (bS a1 R2) (bS a1 R3)) :=
          λV5 a5 c5 h1 h2=>by rw [Hn.out];exact hO2.newRow hPl h2 hBU h1
         clear hp1 hQ hN
         go_wp2_with fail
         obtain ⟨p,hp⟩ : ∃p,nth (ai L1 t) k=p:=⟨_,rfl⟩
         rw [hp] at HQ Hin Hsc
         obtain ⟨iv,hiv⟩ : ∃iv,ia P m mod p=iv:=⟨_,rfl⟩
         rw [hiv] at Hin Hsc
         rw [hp] at tc
         clear hp hiv
         have hap : ∀(V : World) (v : Value),(V.setCell ⟨an a1,aP a1+t,none⟩ v).cell? ⟨an (aV R2 t).1,aP (aV R2 t).1+k,none⟩=V.cell? ⟨an (aV R2 t).1,aP (aV R2 t).1+k,none⟩:=λV v=>by
          refine MA _ _ _ _ λe=>?_;have h0 : (aV R2 t).1 ≠ none:=λh=>by have:=tp (by omega);rw [h] at this;cases this
          rcases hO2.uq t hPl with h1 | h1
          ·exact h0 h1
          ·have h2:=congrArg Addr.block e;simp at h2;first | exact h1 h2 | exact h1 h2.symm
         have Hap:=Z5 hap
         have hBa : U.heap.size<=U.heap.size:=Mf _
         have hBlk : W.heap.size<=an a1:=(hO2.lt _ (.inl ⟨hO2.ne (by omega),rfl⟩)).1
         have HbU:=Z5 hbU
         have HX2 : Hid (∀V,Rs W V->V.cell? ⟨w.heap.size,0,none⟩=some (.int .i64 P)/\V.cell? ⟨w.heap.size,1,none⟩=some (.int .i64 m)/\V.cell? ⟨w.heap.size,2,none⟩=some (.slice am mn cm)):=λV hV=>⟨(HS.out V hV).1,(HS.out V hV).2.1,(HS.out V hV).2.2.1⟩
         clear hap
         refine qf (λV=>V.cell? ⟨w.heap.size,0,none⟩=some (.int .i64 P)/\V.cell? ⟨w.heap.size,1,none⟩=some (.int .i64 m)/\V.cell? ⟨w.heap.size,2,none⟩=some (.slice am mn cm)/\V.cell? ⟨an a1,aP a1+t,none⟩=some (.slice (aV R2 t).1 len (aV R2 t).2)/\V.cell? ⟨an (aV R2 t).1,aP (aV R2 t).1+k,none⟩=some (.int .i64 p)) 18 (by kernel_rfl) (by exact ⟨d0,d1,d2,tr,tc⟩) λhI=>?_
         refine aX (i:=0) (v:=?_) rfl (by decide +kernel) (by decide +kernel) (by decide +kernel) (λ_ _ _ h=>h) (Nk ⟨by rfl,?_⟩) hI ?_
         rotate_left
         ·intro V hSV;(try dsimp only at hSV);obtain ⟨e0,e1,e2,e3,e4⟩:=hSV;go_simp;(try with_reducible rfl)
         clear hI;intro hI;(try simp only [Act.put,Ml,Mo,Mr] at hI ⊢)
         refine aX (i:=1) (v:=?_) rfl (by decide +kernel) (by decide +kernel) (by decide +kernel) (λ_ _ _ h=>h) (Nk ⟨by rfl,?_⟩) hI ?_
         rotate_left
         ·intro V hSV;(try dsimp only at hSV);obtain ⟨e0,e1,e2,e3,e4⟩:=hSV;go_simp;(try with_reducible rfl)
         clear hI;intro hI;(try simp only [Act.put,Ml,Mo,Mr] at hI ⊢)
         refine aX (i:=2) (v:=?_) rfl (by decide +kernel) (by decide +kernel) (by decide +kernel) (λ_ _ _ h=>h) (Nk ⟨by rfl,?_⟩) hI ?_
         rotate_left
         ·intro V hSV;(try dsimp only at hSV);obtain ⟨e0,e1,e2,e3,e4⟩:=hSV;go_simp;(try with_reducible rfl)
         clear hI;intro hI;(try simp only [Act.put,Ml,Mo,Mr] at hI ⊢)
         refine aX (i:=3) (v:=?_) rfl (by decide +kernel) (by decide +kernel) (by decide +kernel) (λ_ _ _ h=>h) (Nk ⟨by rfl,?_⟩) hI ?_
         rotate_left
         ·intro V hSV;(try dsimp only at hSV);obtain ⟨e0,e1,e2,e3,e4⟩:=hSV;go_simp;(try with_reducible rfl)
         clear hI;intro hI;(try simp only [Act.put,Ml,Mo,Mr] at hI ⊢)
         refine aX (i:=4) (v:=?_) rfl (by decide +kernel) (by decide +kernel) (by decide +kernel) (λ_ _ _ h=>h) (Nk ⟨by rfl,?_⟩) hI ?_
         rotate_left
         ·intro V hSV;(try dsimp only at hSV);obtain ⟨e0,e1,e2,e3,e4⟩:=hSV;go_simp;(try with_reducible rfl)
         clear hI;intro hI;(try simp only [Act.put,Ml,Mo,Mr] at hI ⊢)
         refine aX (i:=5) (v:=?_) rfl (by decide +kernel) (by decide +kernel) (by decide +kernel) (λ_ _ _ h=>h) (Nk ⟨by rfl,?_⟩) hI ?_
         rotate_left
         ·intro V hSV;(try dsimp only at hSV);obtain ⟨e0,e1,e2,e3,e4⟩:=hSV;go_simp;(try with_reducible rfl)
         clear hI;intro hI;(try simp only [Act.put,Ml,Mo,Mr] at hI ⊢)
         refine aX (i:=6) (v:=?_) rfl (by decide +kernel) (by decide +kernel) (by decide +kernel) (λ_ _ _ h=>h) (Nk ⟨by rfl,?_⟩) hI ?_
         rotate_left
         ·intro V hSV;(try dsimp only at hSV);obtain ⟨e0,e1,e2,e3,e4⟩:=hSV;go_simp;(try with_reducible rfl)
         clear hI;intro hI;(try simp only [Act.put,Ml,Mo,Mr] at hI ⊢)
         refine aX (i:=7) (v:=?_) rfl (by decide +kernel) (by decide +kernel) (by decide +kernel) (λ_ _ _ h=>h) (Nk ⟨by rfl,?_⟩) hI ?_
         rotate_left
         ·intro V hSV;(try dsimp only at hSV);obtain ⟨e0,e1,e2,e3,e4⟩:=hSV;go_simp;(try with_reducible rfl)
         clear hI;intro hI;(try simp only [Act.put,Ml,Mo,Mr] at hI ⊢)
         refine aX (i:=8) (v:=?_) rfl (by decide +kernel) (by decide +kernel) (by decide +kernel) (λ_ _ _ h=>h) (Nk ⟨by rfl,?_⟩) hI ?_
         rotate_left
         ·intro V hSV;(try dsimp only at hSV);obtain ⟨e0,e1,e2,e3,e4⟩:=hSV;go_simp;(try with_reducible rfl)
         clear hI;intro hI;(try simp only [Act.put,Ml,Mo,Mr] at hI ⊢)
         refine aX (i:=9) (v:=?_) rfl (by decide +kernel) (by decide +kernel) (by decide +kernel) (λ_ _ _ h=>h) (Nk ⟨by rfl,?_⟩) hI ?_
         rotate_left
         ·intro V hSV;(try dsimp only at hSV);obtain ⟨e0,e1,e2,e3,e4⟩:=hSV;go_simp;(try with_reducible rfl)
         clear hI;intro hI;(try simp only [Act.put,Ml,Mo,Mr] at hI ⊢)
         refine aX (i:=10) (v:=?_) rfl (by decide +kernel) (by decide +kernel) (by decide +kernel) (λ_ _ _ h=>h) (Nk ⟨by rfl,?_⟩) hI ?_
         rotate_left
         ·intro V hSV;(try dsimp only at hSV);obtain ⟨e0,e1,e2,e3,e4⟩:=hSV;go_simp;(try with_reducible rfl)
         clear hI;intro hI;(try simp only [Act.put,Ml,Mo,Mr] at hI ⊢)
         refine aX (i:=12) (v:=?_) rfl (by decide +kernel) (by decide +kernel) (by decide +kernel) (λ_ _ _ h=>h) (Nk ⟨by rfl,?_⟩) hI ?_
         rotate_left
         ·intro V hSV;(try dsimp only at hSV);obtain ⟨e0,e1,e2,e3,e4⟩:=hSV;go_simp;(try with_reducible rfl)
         clear hI;intro hI;(try simp only [Act.put,Ml,Mo,Mr] at hI ⊢)
         refine aX (i:=13) (v:=?_) rfl (by decide +kernel) (by decide +kernel) (by decide +kernel) (λ_ _ _ h=>h) (Nk ⟨by rfl,?_⟩) hI ?_
         rotate_left
         ·intro V hSV;(try dsimp only at hSV);obtain ⟨e0,e1,e2,e3,e4⟩:=hSV;go_simp;(try with_reducible rfl)
         clear hI;intro hI;(try simp only [Act.put,Ml,Mo,Mr] at hI ⊢)
         refine aX (i:=14) (v:=?_) rfl (by decide +kernel) (by decide +kernel) (by decide +kernel) (λ_ _ _ h=>h) (Nk ⟨by rfl,?_⟩) hI ?_
         rotate_left
         ·intro V hSV;(try dsimp only at hSV);obtain ⟨e0,e1,e2,e3,e4⟩:=hSV;go_simp;(try with_reducible rfl)
         clear hI;intro hI;(try simp only [Act.put,Ml,Mo,Mr] at hI ⊢)
         refine aX (i:=15) (v:=?_) rfl (by decide +kernel) (by decide +kernel) (by decide +kernel) (λ_ _ _ h=>h) (Nk ⟨by rfl,?_⟩) hI ?_
         rotate_left
         ·intro V hSV;(try dsimp only at hSV);obtain ⟨e0,e1,e2,e3,e4⟩:=hSV;go_simp;(try with_reducible rfl)
         clear hI;intro hI;(try simp only [Act.put,Ml,Mo,Mr] at hI ⊢)
         refine mi (i:=11) (by decide +kernel) (by omega) hI.1 rfl (λK hK=>?_)
         go_simp
         go_at_call 116;((with_reducible refine (Hin.out _ (Mi _ _).drew).mono ?_);rintro e w4 ⟨rfl,hb4⟩;obtain ⟨q0,q1,q2,q3,q4,q5,q6⟩:=HQ.out w4 (QQ (Mi _ _).drew hb4))
         refine hK.out _ _ (by exact ⟨q0,q1,q2,q3,q4⟩) (λhI=>?_)
         clear hK K
         refine mi (i:=16) (by decide +kernel) (by omega) hI.1 rfl (λK hK=>?_)
         go_simp
         go_at_call 232;((with_reducible refine (Hsc.out _ q6).mono ?_);rintro e w5 ⟨a5,c5,rfl,hown5,hb5⟩;obtain ⟨s0,s1,s2,s3,s4,s5,s6⟩:=HQ.out w5 (QQ q6 hb5))
         refine hK.out _ _ (by exact ⟨s0,s1,s2,s3,s4⟩) (λhI=>?_)
         clear hK K
         refine aX (i:=17) (v:=?_) rfl (by decide +kernel) (by decide +kernel) (by decide +kernel) (λ_ _ _ h=>h) (Nk ⟨by rfl,?_⟩) hI ?_
         rotate_left
         ·intro V hSV;(try dsimp only at hSV);obtain ⟨e0,e1,e2,e3,e4⟩:=hSV;go_simp;(try with_reducible rfl)
         clear hI;intro hI;(try simp only [Act.put,Ml,Mo,Mr] at hI ⊢)
         refine se (i:=18) (by decide +kernel) (by omega) (by decide +kernel) rfl (λK hK=>?_)
         go_simp
         refine hK.out _ _ ?_
         clear hK K
         have Ho5:=Z5 (bg hown5 q6.size)
         clear hown5
         go_wp2_with fail
         go_meet
         exact HF.out _ _ _ Ho5.out s6
       obtain ⟨R3,hO3,hM3⟩:=hcut
       generalize wc=T at *
       have hbT : Rs W T:=hbU.trans (hM3.below (λb' hb'=>(hO2.lt b' hb').1) hbU.size)
       have hrw2:=hrw1.norm Hcl.out (t:=t) (c:=k) (by rw [Hl1.out];exact hPl) (by omega) Hnz1.out
       have hl2 : (bq O L1 t k).length=n:=by rw [cZ];exact Hl1.out
       have Hl2:=Z5 hl2
       have hopT:=hM3.own hopU HoiU.out
       have hoiT : ap ≠ none->¬ bS a1 R3 (an ap):=λhn=>hM3.not (aZ hopU hn).2 (HoiU.out hn)
       have HoiT:=Z5 hoiT
       clear hl2 hoiT tr ti tc tp hel d0 d1 d2 hfU hopU hM3
       obtain ⟨L2,hL2⟩ : ∃L2,bq O L1 t k=L2:=⟨_,rfl⟩
       rw [hL2] at hO3 hrw2 Hl2 HL1
       clear hL2
       go_wp2_with fail
       go_loopw [13] (λiv wx=>∃(i : Nat) (R4 : Z4),i<=n/\iv = .int .i64 i/\aY wx W.heap.size a1 n c1 R4 (aR O t k L2 i)/\aw T wx (bS a1 R3) (bS a1 R4)) (λiv _=>n - (intOf iv).toNat)
       case atStart=>exact ⟨0,R3,Mj _,rfl,hO3,QY _ _⟩
       case round =>
        obtain ⟨i,R4,hi,rfl,hOi,hMi⟩:=hrel
        generalize wr=X at *
        have hbX : Rs W X:=hbT.trans (hMi.below (λb' hb'=>(hO3.lt b' hb').1) hbT.size)
        obtain ⟨d0,d1,d2,hfX⟩:=HS.out X hbX
        by_cases hin : i<n
        ·have hrwi:=Q4 Hcl.out hrw2 (t:=t) (c:=k) (by rw [Hl2.out];exact hPl) (by omega) i (by rw [Hl2.out];exact hi)
         have hli : (aR O t k L2 i).length=n:=by rw [dc];exact Hl2.out
         have hstep : aR O t k L2 (i+1)=if i=t then aR O t k L2 i else (aR O t k L2 i).set i (bT O (ai (aR O t k L2 i) t) k (ai (aR O t k L2 i) i)):=rfl
         have Hstep:=Z5 hstep
         obtain ⟨Li,hLi⟩ : ∃Li,aR O t k L2 i=Li:=⟨_,rfl⟩
         rw [hLi] at hrwi hli Hstep hOi
         have hri:=hrwi.row (i:=i) (by omega)
         have hrt:=hrwi.row (i:=t) (by omega)
         have ci:=hOi.cell hin
         have ct:=hOi.cell hPl
         have ii:=hOi.ints hin
         have it:=hOi.ints hPl
         rw [hri.1] at ci ii
         rw [hrt.1] at ct it
         have ck:=ii.cell k (by omega)
         have hpi:=ii.pl
         have hxel : fC P m (nth (ai Li i) k):=hri.2 _ (aN (by rw [hri.1];omega))
         have Hri:=Z5 hri
         have Hrt:=Z5 hrt
         clear hri hrt hli hstep hLi
         by_cases hit : i=t
         ·have hit' : ((i : Int) != t)=false:=by simp [hit]
          have Hn : Hid (aR O t k L2 (i+1)=Li):=by show _=_;rw [Hstep.out,Mg hit]
          clear hit
          go_wp2_with fail
          go_roundw
          case rel=>exact ⟨i+1,R4,by omega,by go_num,by rw [Hn.out];exact hOi,hMi⟩
          case measure=>simp [intOf] <;> omega
         ·have hit' : ((i : Int) != t)=true:=by simp;omega
          by_cases hx0 : nth (ai Li i) k=0
          ·have hx0' : (nth (ai Li i) k != 0)=false:=by simp [hx0]
           have Hn : Hid (aR O t k L2 (i+1)=Li):=by show _=_;rw [Hstep.out,Mh hit,bT,Mg hx0,kC]
           clear hit hx0
           go_wp2_with fail
           go_roundw
           case rel=>exact ⟨i+1,R4,by omega,by go_num,by rw [Hn.out];exact hOi,hMi⟩
           case measure=>simp [intOf] <;> omega
          ·have hx0' : (nth (ai Li i) k != 0)=true:=by simpa using hx0
           obtain ⟨N,hN⟩ : ∃N,bW O (ai Li i) (gu P m (nth (ai Li i) k)) (ai Li t)=N:=⟨_,rfl⟩
           have Hn : Hid (aR O t k L2 (i+1)=Li.set i N):=by show _=_;rw [Hstep.out,Mh hit,bT,Mh hx0,<- hN,<- HO.out];rfl
           have hQ : ∀V,Rs X V->V.cell? ⟨w.heap.size,0,none⟩=some (.int .i64 P)/\V.cell? ⟨w.heap.size,1,none⟩=some (.int .i64 m)/\V.cell? ⟨w.heap.size,2,none⟩=some (.slice am mn cm) /\
             V.cell? ⟨an a1,aP a1+i,none⟩=some (.slice (aV R4 i).1 len (aV R4 i).2)/\V.cell? ⟨an a1,aP a1+t,none⟩=some (.slice (aV R4 t).1 len (aV R4 t).2)/\V.cell? ⟨an (aV R4 i).1,aP (aV R4 i).1+k,none⟩=some (.int .i64 (nth (ai Li i) k))/\V.frozen? ⟨an a1,aP a1+i,none⟩=false/\Rs X V :=
            λV hV=>⟨aA hV d0,aA hV d1,aA hV d2,aA hV ci,aA hV ct,aA hV ck,(hOi.ah hV).frozen hin,hV⟩
           have HQ:=Z5 hQ
           have Hng : Hid (∀V,Rs X V->Calls prog 233 #[.agg #[.int .i64 P,.int .i64 m,.slice am mn cm],.int .i64 (nth (ai Li i) k)] V λe w'=>e = .returned (.int .i64 (gu P m (nth (ai Li i) k)))/\Rs V w') :=
            λV hV=>GW P m am mn cm _ V hf.rf (hf.rf.jO hxel)
           have Had : Hid (∀V,Rs X V->Calls prog 115 #[.agg #[.int .i64 P,.int .i64 m,.slice am mn cm],.slice (aV R4 i).1 len (aV R4 i).2,.int .i64 (gu P m (nth (ai Li i) k)),.slice (aV R4 t).1 len (aV R4 t).2] V (cX V N)) :=
            λV hV=>by rw [<- hN,<- HO.out];exact BN P m am mn cm mod _ len _ _ _ _ _ _ V (hfX.ah hV) (wk hf.rf.res _) (ii.ah hV) (it.ah hV) Hri.out.2 Hrt.out.2 hlen
           have HF : Hid (∀V5 a5 c5,V5.ownsRow X.heap.size 3 1 (.slice a5 N.length c5) N.length (N.map (Value.int .i64))->Rs X V5 ->
             ∃R5,aY (V5.setCell ⟨an a1,aP a1+i,none⟩ (.slice a5 N.length c5)) W.heap.size a1 n c1 R5 (aR O t k L2 (i+1))/\aw X (V5.setCell ⟨an a1,aP a1+i,none⟩ (.slice a5 N.length c5)) (bS a1 R4) (bS a1 R5)) :=
            λV5 a5 c5 h1 h2=>by rw [Hn.out];exact hOi.newRow hin h2 hbX.size h1
           have Hit:=Z5 hit
           clear hit hx0 hQ hN Hn
           obtain ⟨p,hp⟩ : ∃p,nth (ai Li i) k=p:=⟨_,rfl⟩
           rw [hp] at HQ Hng Had ck hx0'
           obtain ⟨iv,hiv⟩ : ∃iv,gu P m p=iv:=⟨_,rfl⟩
           rw [hiv] at Hng Had
           clear hp hiv
           have hap : ∀(V : World) (v : Value),(V.setCell ⟨an a1,aP a1+i,none⟩ v).cell? ⟨an (aV R4 i).1,aP (aV R4 i).1+k,none⟩=V.cell? ⟨an (aV R4 i).1,aP (aV R4 i).1+k,none⟩ /\
             (V.setCell ⟨an a1,aP a1+i,none⟩ v).cell? ⟨an a1,aP a1+t,none⟩=V.cell? ⟨an a1,aP a1+t,none⟩:=λV v=>by
            refine ⟨MA _ _ _ _ λe=>?_,MA _ _ _ _ (by have:=Hit.out;simp <;> omega)⟩;have h0 : (aV R4 i).1 ≠ none:=λh=>by have:=hpi (by omega);rw [h] at this;cases this
            rcases hOi.uq i hin with h1 | h1
            ·exact h0 h1
            ·have h2:=congrArg Addr.block e;simp at h2;first | exact h1 h2 | exact h1 h2.symm
           have Hap:=Z5 hap
           have hBlk : W.heap.size<=an a1:=(hOi.lt _ (.inl ⟨hOi.ne (by omega),rfl⟩)).1
           have HbX:=Z5 hbX
           have HX2 : Hid (∀V,Rs W V->V.cell? ⟨w.heap.size,0,none⟩=some (.int .i64 P)/\V.cell? ⟨w.heap.size,1,none⟩=some (.int .i64 m)/\V.cell? ⟨w.heap.size,2,none⟩=some (.slice am mn cm)):=λV hV=>⟨(HS.out V hV).1,(HS.out V hV).2.1,(HS.out V hV).2.2.1⟩
           clear hap
           go_wp2_with fail
           refine qf (λV=>V.cell? ⟨w.heap.size,0,none⟩=some (.int .i64 P)/\V.cell? ⟨w.heap.size,1,none⟩=some (.int .i64 m)/\V.cell? ⟨w.heap.size,2,none⟩=some (.slice am mn cm)/\V.cell? ⟨an a1,aP a1+i,none⟩=some (.slice (aV R4 i).1 len (aV R4 i).2)/\V.cell? ⟨an a1,aP a1+t,none⟩=some (.slice (aV R4 t).1 len (aV R4 t).2)/\V.cell? ⟨an (aV R4 i).1,aP (aV R4 i).1+k,none⟩=some (.int .i64 p)) 22 (by kernel_rfl) (by exact ⟨d0,d1,d2,ci,ct,ck⟩) λhI=>?_
           refine aX (i:=0) (v:=?_) rfl (by decide +kernel) (by decide +kernel) (by decide +kernel) (λ_ _ _ h=>h) (Nk ⟨by rfl,?_⟩) hI ?_
           rotate_left
           ·intro V hSV;(try dsimp only at hSV);obtain ⟨e0,e1,e2,e3,e4,e5⟩:=hSV;go_simp;(try with_reducible rfl)
           clear hI;intro hI;(try simp only [Act.put,Ml,Mo,Mr] at hI ⊢)
           refine aX (i:=1) (v:=?_) rfl (by decide +kernel) (by decide +kernel) (by decide +kernel) (λ_ _ _ h=>h) (Nk ⟨by rfl,?_⟩) hI ?_
           rotate_left
           ·intro V hSV;(try dsimp only at hSV);obtain ⟨e0,e1,e2,e3,e4,e5⟩:=hSV;go_simp;(try with_reducible rfl)
           clear hI;intro hI;(try simp only [Act.put,Ml,Mo,Mr] at hI ⊢)
           refine aX (i:=2) (v:=?_) rfl (by decide +kernel) (by decide +kernel) (by decide +kernel) (λ_ _ _ h=>h) (Nk ⟨by rfl,?_⟩) hI ?_
           rotate_left
           ·intro V hSV;(try dsimp only at hSV);obtain ⟨e0,e1,e2,e3,e4,e5⟩:=hSV;go_simp;(try with_reducible rfl)
           clear hI;intro hI;(try simp only [Act.put,Ml,Mo,Mr] at hI ⊢)
           refine aX (i:=3) (v:=?_) rfl (by decide +kernel) (by decide +kernel) (by decide +kernel) (λ_ _ _ h=>h) (Nk ⟨by rfl,?_⟩) hI ?_
           rotate_left
           ·intro V hSV;(try dsimp only at hSV);obtain ⟨e0,e1,e2,e3,e4,e5⟩:=hSV;go_simp;(try with_reducible rfl)
           clear hI;intro hI;(try simp only [Act.put,Ml,Mo,Mr] at hI ⊢)
           refine aX (i:=4) (v:=?_) rfl (by decide +kernel) (by decide +kernel) (by decide +kernel) (λ_ _ _ h=>h) (Nk ⟨by rfl,?_⟩) hI ?_
           rotate_left
           ·intro V hSV;(try dsimp only at hSV);obtain ⟨e0,e1,e2,e3,e4,e5⟩:=hSV;go_simp;(try with_reducible rfl)
           clear hI;intro hI;(try simp only [Act.put,Ml,Mo,Mr] at hI ⊢)
           refine aX (i:=5) (v:=?_) rfl (by decide +kernel) (by decide +kernel) (by decide +kernel) (λ_ _ _ h=>h) (Nk ⟨by rfl,?_⟩) hI ?_
           rotate_left
           ·intro V hSV;(try dsimp only at hSV);obtain ⟨e0,e1,e2,e3,e4,e5⟩:=hSV;go_simp;(try with_reducible rfl)
           clear hI;intro hI;(try simp only [Act.put,Ml,Mo,Mr] at hI ⊢)
           refine aX (i:=6) (v:=?_) rfl (by decide +kernel) (by decide +kernel) (by decide +kernel) (λ_ _ _ h=>h) (Nk ⟨by rfl,?_⟩) hI ?_
           rotate_left
           ·intro V hSV;(try dsimp only at hSV);obtain ⟨e0,e1,e2,e3,e4,e5⟩:=hSV;go_simp;(try with_reducible rfl)
           clear hI;intro hI;(try simp only [Act.put,Ml,Mo,Mr] at hI ⊢)
           refine aX (i:=7) (v:=?_) rfl (by decide +kernel) (by decide +kernel) (by decide +kernel) (λ_ _ _ h=>h) (Nk ⟨by rfl,?_⟩) hI ?_
           rotate_left
           ·intro V hSV;(try dsimp only at hSV);obtain ⟨e0,e1,e2,e3,e4,e5⟩:=hSV;go_simp;(try with_reducible rfl)
           clear hI;intro hI;(try simp only [Act.put,Ml,Mo,Mr] at hI ⊢)
           refine aX (i:=8) (v:=?_) rfl (by decide +kernel) (by decide +kernel) (by decide +kernel) (λ_ _ _ h=>h) (Nk ⟨by rfl,?_⟩) hI ?_
           rotate_left
           ·intro V hSV;(try dsimp only at hSV);obtain ⟨e0,e1,e2,e3,e4,e5⟩:=hSV;go_simp;(try with_reducible rfl)
           clear hI;intro hI;(try simp only [Act.put,Ml,Mo,Mr] at hI ⊢)
           refine aX (i:=9) (v:=?_) rfl (by decide +kernel) (by decide +kernel) (by decide +kernel) (λ_ _ _ h=>h) (Nk ⟨by rfl,?_⟩) hI ?_
           rotate_left
           ·intro V hSV;(try dsimp only at hSV);obtain ⟨e0,e1,e2,e3,e4,e5⟩:=hSV;go_simp;(try with_reducible rfl)
           clear hI;intro hI;(try simp only [Act.put,Ml,Mo,Mr] at hI ⊢)
           refine aX (i:=10) (v:=?_) rfl (by decide +kernel) (by decide +kernel) (by decide +kernel) (λ_ _ _ h=>h) (Nk ⟨by rfl,?_⟩) hI ?_
           rotate_left
           ·intro V hSV;(try dsimp only at hSV);obtain ⟨e0,e1,e2,e3,e4,e5⟩:=hSV;go_simp;(try with_reducible rfl)
           clear hI;intro hI;(try simp only [Act.put,Ml,Mo,Mr] at hI ⊢)
           refine aX (i:=11) (v:=?_) rfl (by decide +kernel) (by decide +kernel) (by decide +kernel) (λ_ _ _ h=>h) (Nk ⟨by rfl,?_⟩) hI ?_
           rotate_left
           ·intro V hSV;(try dsimp only at hSV);obtain ⟨e0,e1,e2,e3,e4,e5⟩:=hSV;go_simp;(try with_reducible rfl)
           clear hI;intro hI;(try simp only [Act.put,Ml,Mo,Mr] at hI ⊢)
           refine aX (i:=12) (v:=?_) rfl (by decide +kernel) (by decide +kernel) (by decide +kernel) (λ_ _ _ h=>h) (Nk ⟨by rfl,?_⟩) hI ?_
           rotate_left
           ·intro V hSV;(try dsimp only at hSV);obtain ⟨e0,e1,e2,e3,e4,e5⟩:=hSV;go_simp;(try with_reducible rfl)
           clear hI;intro hI;(try simp only [Act.put,Ml,Mo,Mr] at hI ⊢)
           refine aX (i:=13) (v:=?_) rfl (by decide +kernel) (by decide +kernel) (by decide +kernel) (λ_ _ _ h=>h) (Nk ⟨by rfl,?_⟩) hI ?_
           rotate_left
           ·intro V hSV;(try dsimp only at hSV);obtain ⟨e0,e1,e2,e3,e4,e5⟩:=hSV;go_simp;(try with_reducible rfl)
           clear hI;intro hI;(try simp only [Act.put,Ml,Mo,Mr] at hI ⊢)
           refine aX (i:=14) (v:=?_) rfl (by decide +kernel) (by decide +kernel) (by decide +kernel) (λ_ _ _ h=>h) (Nk ⟨by rfl,?_⟩) hI ?_
           rotate_left
           ·intro V hSV;(try dsimp only at hSV);obtain ⟨e0,e1,e2,e3,e4,e5⟩:=hSV;go_simp;(try with_reducible rfl)
           clear hI;intro hI;(try simp only [Act.put,Ml,Mo,Mr] at hI ⊢)
           refine aX (i:=16) (v:=?_) rfl (by decide +kernel) (by decide +kernel) (by decide +kernel) (λ_ _ _ h=>h) (Nk ⟨by rfl,?_⟩) hI ?_
           rotate_left
           ·intro V hSV;(try dsimp only at hSV);obtain ⟨e0,e1,e2,e3,e4,e5⟩:=hSV;go_simp;(try with_reducible rfl)
           clear hI;intro hI;(try simp only [Act.put,Ml,Mo,Mr] at hI ⊢)
           refine aX (i:=17) (v:=?_) rfl (by decide +kernel) (by decide +kernel) (by decide +kernel) (λ_ _ _ h=>h) (Nk ⟨by rfl,?_⟩) hI ?_
           rotate_left
           ·intro V hSV;(try dsimp only at hSV);obtain ⟨e0,e1,e2,e3,e4,e5⟩:=hSV;go_simp;(try with_reducible rfl)
           clear hI;intro hI;(try simp only [Act.put,Ml,Mo,Mr] at hI ⊢)
           refine aX (i:=18) (v:=?_) rfl (by decide +kernel) (by decide +kernel) (by decide +kernel) (λ_ _ _ h=>h) (Nk ⟨by rfl,?_⟩) hI ?_
           rotate_left
           ·intro V hSV;(try dsimp only at hSV);obtain ⟨e0,e1,e2,e3,e4,e5⟩:=hSV;go_simp;(try with_reducible rfl)
           clear hI;intro hI;(try simp only [Act.put,Ml,Mo,Mr] at hI ⊢)
           refine aX (i:=19) (v:=?_) rfl (by decide +kernel) (by decide +kernel) (by decide +kernel) (λ_ _ _ h=>h) (Nk ⟨by rfl,?_⟩) hI ?_
           rotate_left
           ·intro V hSV;(try dsimp only at hSV);obtain ⟨e0,e1,e2,e3,e4,e5⟩:=hSV;go_simp;(try with_reducible rfl)
           clear hI;intro hI;(try simp only [Act.put,Ml,Mo,Mr] at hI ⊢)
           refine mi (i:=15) (by decide +kernel) (by omega) hI.1 rfl (λK hK=>?_)
           go_simp
           go_at_call 233;((with_reducible refine (Hng.out _ (Mi _ _).drew).mono ?_);rintro e w4 ⟨rfl,hb4⟩;obtain ⟨q0,q1,q2,q3,q4,q5,q7,q6⟩:=HQ.out w4 (QQ (Mi _ _).drew hb4))
           refine hK.out _ _ (by exact ⟨q0,q1,q2,q3,q4,q5⟩) (λhI=>?_)
           clear hK K
           refine mi (i:=20) (by decide +kernel) (by omega) hI.1 rfl (λK hK=>?_)
           go_simp
           go_at_call 115;((with_reducible refine (Had.out _ q6).mono ?_);rintro e w5 ⟨a5,c5,rfl,hown5,hb5⟩;obtain ⟨s0,s1,s2,s3,s4,s5,s7,s6⟩:=HQ.out w5 (QQ q6 hb5))
           refine hK.out _ _ (by exact ⟨s0,s1,s2,s3,s4,s5⟩) (λhI=>?_)
           clear hK K
           refine aX (i:=21) (v:=?_) rfl (by decide +kernel) (by decide +kernel) (by decide +kernel) (λ_ _ _ h=>h) (Nk ⟨by rfl,?_⟩) hI ?_
           rotate_left
           ·intro V hSV;(try dsimp only at hSV);obtain ⟨e0,e1,e2,e3,e4,e5⟩:=hSV;go_simp;(try with_reducible rfl)
           clear hI;intro hI;(try simp only [Act.put,Ml,Mo,Mr] at hI ⊢)
           refine se (i:=22) (by decide +kernel) (by omega) (by decide +kernel) rfl (λK hK=>?_)
           go_simp
           refine hK.out _ _ ?_
           clear hK K
           have Ho5:=Z5 (bg hown5 q6.size)
           have Hs6:=Z5 s6
           clear hown5 HQ Hng Had q0 q1 q2 q3 q4 q5 q6 q7 s0 s1 s2 s3 s4 s5 s6 s7
           go_wp2_with fail
           go_roundw
           case rel =>
            obtain ⟨R5,hO5,hM5⟩:=HF.out _ _ _ Ho5.out Hs6.out
            exact ⟨i+1,R5,by omega,by go_num,hO5,hMi.trans hM5⟩
           case measure=>simp [intOf] <;> omega
        ·obtain rfl : i=n:=by omega
         have hopX:=hMi.own hopT HoiT.out
         have hoiX : ap ≠ none->¬ bS a1 R4 (an ap):=λhn=>hMi.not (aZ hopT hn).2 (HoiT.out hn)
         have HoiX:=Z5 hoiX
         have hcn:=bm X (.int .i64 k) 3
         have hbn:=aB X (.cells #[.int .i64 k] 3)
         have hsz:=hbX.size
         clear hoiX
         go_wp2_with (at_builtin;refine bj rfl _ _ 22 3 rfl (.int .i64 0) 8 underlying22 bt rfl W.heap.size ap t cp _ rfl (hopX.alloc _) ⟨X.heap.size,0,none⟩ 1 (.int .i64 k) rfl hcn rfl (by omega) (by unfold maxLen;omega) (by simp;omega) ?_;intro a3 c3 w3 hown3 hgr hap3)
         go_roundw
         case rel =>
          have hnx : aC O L (k+1)=(aR O t k L2 i,Pv ++ [(k : Int)]):=by rw [dA hst.out (by rw [HLkn.out,Ht.out];exact hPl),Ht.out,Mh (by rw [Hf.out,HLkn.out];omega),Hf.out,HL1.out]
          have hne : ∀b',bS a1 R4 b'->cF ap b':=λb' hb'=>by
           by_cases hn : ap=none
           ·exact .inl hn
           ·exact .inr λe=>HoiX.out hn (by rw [e];exact hb')
          have hOn:=hOi.ah hbn
          have hO6 : aY w3 W.heap.size a1 i c1 R4 (aR O t k L2 i):=hOn.bu λb' hb'=>hgr.block b' (hOn.lt b' hb').2 λe=>(hne b' hb').own t cp e.symm
          have hb3 : Rs W w3:=QT (MS hbX (hbn.mono hsz)) (hopX.alloc _) hgr (Mf _) (Mt hsz hbn.size)
          have hrw3:=Q4 Hcl.out hrw2 (t:=t) (c:=k) (by rw [Hl2.out];exact hPl) (by omega) i (by rw [Hl2.out];exact hi)
          have ho4 : a3 ≠ none->¬ bS a1 R4 (an a3):=λhn hI=>by
           rcases hap3 _ (hOn.lt _ hI).2 (hne _ hI) with h1 | h1
           ·exact hn h1
           ·exact h1 rfl
          have hPl2 : (Pv ++ [(k : Int)]).length=t+1:=by rw [Mp,Ht.out];rfl
          refine ⟨k+1,R4,a3,c3,aR O t k L2 i,Pv ++ [(k : Int)],by omega,by go_num,by rw [hPl2];go_num,by rw [hPl2],hnx.symm,hO6,?_,ho4,hb3,hrw3,by rw [hPl2];omega⟩
          rw [hPl2];simpa using hown3
         case measure=>simp [intOf] <;> omega
     ·obtain rfl : j=n:=by omega
      have Hn : Hid ((Lk,Pv)=aC O L (k+1)):=by show _=_;rw [dA hst.out (by rw [HLkn.out,Ht.out];exact hPl),Ht.out,Mg (by rw [hfr.out,ka (by rw [HLkn.out];exact Mf _),HLkn.out])]
      have hjj : decide ((j : Int)<j)=false:=by simp
      go_wp2_with fail
      go_roundw
      case rel=>exact ⟨k+1,R',ap,cp,Lk,Pv,by omega,by go_num,by rw [Ht.out],by rw [Ht.out],Hn.out,hOr,by rw [Ht.out];exact hop,hoi.out,hbr,hrw,by rw [Ht.out];exact hPn⟩
      case measure=>simp [intOf] <;> omega
   ·have hPe : Pv.length=n:=by omega
    have hfull : (Lk,Pv)=aC O L cols:=by rw [show cols=k+(cols - k) by omega,fE (by rw [<- hst.out,hPe,<- Hlen.out]),<- hst.out]
    have Hfull:=Z5 hfull
    have hPe' : decide ((Pv.length : Int)<n)=false:=by simp;omega
    clear hfull hPe
    go_wp2_with fail
    go_ret2
    exact Hfin.out _ _ _ _ _ _ _ _ Hfull.out (hOr.mono hbW.size) (bg hop hbW.size) (QQ hbW hbr)
  ·obtain rfl : k=cols:=by omega
   have hk' : decide ((k : Int)<k)=false:=by simp
   go_wp2_with fail
   go_ret2
   exact Hfin.out _ _ _ _ _ _ _ _ hst.out (hOr.mono hbW.size) (bg hop hbW.size) (QQ hbW hbr)
theorem fq (a : OA) (n c : Nat) (l : Lz) (a' : OA) (n' c' : Nat) (l' : Lz) {w : World} (h : Ints w a n l) (h' : Ints w a' n' l') :
  Calls prog 19 #[.slice a n c,.slice a' n' c'] w (mw w (decide (l=l'))):=by
 have Hl:=Z5 h.len;have Hl':=Z5 h'.len;have hpl:=h.pl;have hpl':=h'.pl;have hmax:=h.max;unfold maxLen at hmax;by_cases hn : n=n'
 ·subst hn;have hnn : ((n : Int) != n)=false:=by simp
  go_enter func19,ntmps19;go_wp2_with fail;go_loopw [5] (λiv wr=>∃k : Nat,k<=n/\iv = .int .i64 k/\Hid (l.take k=l'.take k)/\bs w wr) (λi _=>n - (intOf i).toNat);case atStart=>exact ⟨0,Mj _,rfl,rfl,QW _⟩
  case round =>
   obtain ⟨k,hk,rfl,htk,hd⟩:=hrel
   by_cases hlt : k<n
   ·have c1:=(h.drawn hd).cell k hlt
    have c2:=(h'.drawn hd).cell k hlt
    by_cases he : nth l k=nth l' k
    ·have he' : (nth l k != nth l' k)=false:=by simpa using he
     have Hs : Hid (l.take (k+1)=l'.take (k+1)):=qg htk.out (by rw [Hl.out];exact hlt) (by rw [Hl'.out];exact hlt) he
     clear he
     go_wp2_with fail
     go_quiet (fail)
     go_wp2
     go_roundw
     case rel=>exact ⟨k+1,by omega,by go_num,Hs.out,hd.drewN _⟩
     case measure=>simp [intOf] <;> omega
    ·have he' : (nth l k != nth l' k)=true:=by simpa using he
     have Hs : Hid (decide (l=l')=false):=by show _=_;simp;intro e;exact he (by rw [e])
     clear he
     go_wp2_with fail
     go_quiet (fail)
     go_wp2
     go_ret
     exact ⟨bz Hs.out.symm,hd.drewN _⟩
   ·obtain rfl : k=n:=by omega
    have Hs : Hid (decide (l=l')=true):=by show _=_;have:=htk.out;rw [Ms (by rw [Hl.out];exact Mf _),Ms (by rw [Hl'.out];exact Mf _)] at this;simpa using this
    go_wp2_with fail
    go_ret
    exact ⟨bz Hs.out.symm,hd⟩
 ·have hnn : ((n : Int) != n')=true:=by simp;omega
  have Hs : Hid (decide (l=l')=false):=by show _=_;simp;intro e;have e1:=Hl.out;have e2:=Hl'.out;rw [e] at e1;omega
  clear hn;go_enter func19,ntmps19;go_wp2_with fail;go_ret;exact ⟨bz Hs.out.symm,QW _⟩
theorem iG (a : OA) (n c : Nat) (l : ZZ) (a' : OA) (n' c' : Nat) (l' : ZZ) {w : World} (h : cU w a n l) (h' : cU w a' n' l') :
  Calls prog 46 #[.slice a n c,.slice a' n' c'] w (mw w (decide (l=l'))):=by
 have Hl:=Z5 h.len;have Hl':=Z5 h'.len;have hpl:=h.pl;have hpl':=h'.pl;have hmax:=h.max;unfold maxLen at hmax;by_cases hn : n=n'
 ·subst hn;have hnn : ((n : Int) != n)=false:=by simp
  go_enter func46,ntmps46;go_wp2_with fail;go_loopw [5] (λiv wr=>∃k : Nat,k<=n/\iv = .int .i64 k/\Hid (l.take k=l'.take k)/\bs w wr) (λi _=>n - (intOf i).toNat);case atStart=>exact ⟨0,Mj _,rfl,rfl,QW _⟩
  case round =>
   obtain ⟨k,hk,rfl,htk,hd⟩:=hrel
   by_cases hlt : k<n
   ·obtain ⟨b1,n1,d1,c1,i1⟩:=(h.drawn hd).cell k hlt
    obtain ⟨b2,n2,d2,c2,i2⟩:=(h'.drawn hd).cell k hlt
    have Hc:=Z5 (fq b1 n1 d1 _ b2 n2 d2 _ (i1.drawn (QW wr).drew) (i2.drawn (QW wr).drew))
    by_cases he : ai l k=ai l' k
    ·have he' : decide (ai l k=ai l' k)=true:=by simpa using he
     have Hs : Hid (l.take (k+1)=l'.take (k+1)):=nT htk.out (by rw [Hl.out];exact hlt) (by rw [Hl'.out];exact hlt) he
     rw [he'] at Hc
     clear he he'
     go_wp2_with fail
     go_region_held3 (λV=>V.cell? ⟨an a,aP a+k,none⟩=some (.slice b1 n1 d1)/\V.cell? ⟨an a',aP a'+k,none⟩=some (.slice b2 n2 d2)) (exact ⟨c1,c2⟩)
      (first | (go_at_call 19;((with_reducible refine Hc.out.mono ?_);rintro e w4 ⟨rfl,m4,rfl⟩)))
     go_wp2_with fail
     go_roundw
     case rel=>exact ⟨k+1,by omega,by go_num,Hs.out,hd.drewN (1+m4)⟩
     case measure=>simp [intOf] <;> omega
    ·have he' : decide (ai l k=ai l' k)=false:=by simpa using he
     have Hs : Hid (decide (l=l')=false):=by show _=_;simp;intro e;exact he (by rw [e])
     rw [he'] at Hc
     clear he he'
     go_wp2_with fail
     go_region_held3 (λV=>V.cell? ⟨an a,aP a+k,none⟩=some (.slice b1 n1 d1)/\V.cell? ⟨an a',aP a'+k,none⟩=some (.slice b2 n2 d2)) (exact ⟨c1,c2⟩)
      (first | (go_at_call 19;((with_reducible refine Hc.out.mono ?_);rintro e w4 ⟨rfl,m4,rfl⟩)))
     go_wp2_with fail
     go_ret
     exact ⟨bz Hs.out.symm,hd.drewN (1+m4)⟩
   ·obtain rfl : k=n:=by omega
    have Hs : Hid (decide (l=l')=true):=by show _=_;have:=htk.out;rw [Ms (by rw [Hl.out];exact Mf _),Ms (by rw [Hl'.out];exact Mf _)] at this;simpa using this
    go_wp2_with fail
    go_ret
    exact ⟨bz Hs.out.symm,hd⟩
 ·have hnn : ((n : Int) != n')=true:=by simp;omega
  have Hs : Hid (decide (l=l')=false):=by show _=_;simp;intro e;have e1:=Hl.out;have e2:=Hl'.out;rw [e] at e1;omega
  clear hn;go_enter func46,ntmps46;go_wp2_with fail;go_ret;exact ⟨bz Hs.out.symm,QW _⟩
theorem xS (P M : Int) (am : OA) (mn cm : Nat) (a : OA) (n c : Nat) (l : Lz) (w : World) (hi : Ints w a n l) :
  Calls prog 76 #[.agg #[.int .i64 P,.int .i64 M,.slice am mn cm],.slice a n c] w λe w'=>e = .returned (.int .i64 (mP (aU P M) l))/\Rs w w':=by
 have Hlen:=Z5 hi.len;have hpl:=hi.pl;have hmax:=hi.max;unfold maxLen at hmax;go_enter func76,ntmps76;go_wp2_with fail;obtain ⟨W,hW⟩ : ∃W : World,W=w.alloc (.cells #[.int .i64 P,.int .i64 M,.slice am mn cm] 24):=⟨_,rfl⟩
 rw [<- hW];have hbW : Rs w W:=by rw [hW];exact aB _ _
 have x0 : bf W w.heap.size [.int .i64 P,.int .i64 M,.slice am mn cm]:=by rw [hW];exact QS _ _ _ rfl
 have hiW:=hi.ah hbW;have hS : ∀k,k<n->∀V,Rs W V->V.cell? ⟨w.heap.size,0,none⟩=some (.int .i64 P)/\V.cell? ⟨w.heap.size,1,none⟩=some (.int .i64 M)/\V.cell? ⟨w.heap.size,2,none⟩=some (.slice am mn cm)/\V.cell? ⟨an a,aP a+k,none⟩=some (.int .i64 (nth l k))/\Rs W V:=by intro k hk V hV;have x1:=x0.ah hV;exact ⟨x1.cell 0 rfl,x1.cell 1 rfl,x1.cell 2 rfl,(hiW.ah hV).cell k hk,hV⟩
 have HS:=Z5 hS;clear hW x0 hS;go_loopw [5] (λiv wr=>∃k : Nat,k<=n/\iv = .int .i64 k/\Hid ((l.take k).all (jO (aU P M))=true)/\Rs W wr) (λiv _=>n - (intOf iv).toNat);case atStart=>exact ⟨0,Mj _,rfl,by show _=_;simp,Mi _ _⟩
 case round =>
  obtain ⟨k,hk,rfl,hall,hbr⟩:=hrel
  by_cases hlt : k<n
  ·have HSk : Hid (∀V,Rs W V->V.cell? ⟨w.heap.size,0,none⟩=some (.int .i64 P)/\V.cell? ⟨w.heap.size,1,none⟩=some (.int .i64 M)/\V.cell? ⟨w.heap.size,2,none⟩=some (.slice am mn cm)/\V.cell? ⟨an a,aP a+k,none⟩=some (.int .i64 (nth l k))/\Rs W V):=HS.out k hlt
   have hkl : k<l.length:=by rw [Hlen.out];exact hlt
   have Hbr:=Z5 hbr
   have Hq:=Z5 (C7 P M am mn cm (nth l k))
   clear hbr
   by_cases hq : jO (aU P M) (nth l k)=true
   ·have Hs : Hid ((l.take (k+1)).all (jO (aU P M))=true):=dx hkl hall.out (by rw [<- aj hkl];exact hq)
    rw [hq] at Hq
    clear hq
    go_wp2_with fail
    go_region_held3 (λV=>V.cell? ⟨w.heap.size,0,none⟩=some (.int .i64 P)/\V.cell? ⟨w.heap.size,1,none⟩=some (.int .i64 M)/\V.cell? ⟨w.heap.size,2,none⟩=some (.slice am mn cm)/\V.cell? ⟨an a,aP a+k,none⟩=some (.int .i64 (nth l k))/\Rs W V)
     ((refine HSk.out _ ?_;first | exact Hbr.out.drew | exact QQ Hbr.out.drew hb4))
     (first | (go_at_call 145;((with_reducible refine (Hq.out _).mono ?_);rintro e w4 ⟨rfl,hb4⟩)))
    go_wp2_with fail
    go_roundw
    case rel=>exact ⟨k+1,by omega,by go_num,Hs.out,QQ Hbr.out.drew hb4⟩
    case measure=>simp [intOf] <;> omega
   ·have hq' : jO (aU P M) (nth l k)=false:=by simpa using hq
    have Hs : Hid (mP (aU P M) l=2):=by show _=_;rw [mP,kD,dw hkl (by rw [<- aj hkl];exact hq')];rfl
    rw [hq'] at Hq
    clear hq hq'
    go_wp2_with fail
    go_region_held3 (λV=>V.cell? ⟨w.heap.size,0,none⟩=some (.int .i64 P)/\V.cell? ⟨w.heap.size,1,none⟩=some (.int .i64 M)/\V.cell? ⟨w.heap.size,2,none⟩=some (.slice am mn cm)/\V.cell? ⟨an a,aP a+k,none⟩=some (.int .i64 (nth l k))/\Rs W V)
     ((refine HSk.out _ ?_;first | exact Hbr.out.drew | exact QQ Hbr.out.drew hb4))
     (first | (go_at_call 145;((with_reducible refine (Hq.out _).mono ?_);rintro e w4 ⟨rfl,hb4⟩)))
    go_wp2_with fail
    go_ret
    exact ⟨aI Hs.out.symm,QQ hbW (QQ Hbr.out.drew hb4)⟩
  ·obtain rfl : k=n:=by omega
   have Hs : Hid (mP (aU P M) l=0):=by have:=hall.out;rw [Ms (by rw [Hlen.out];exact Mf _)] at this;show _=_;rw [mP,kD,this];rfl
   go_wp2_with fail
   go_ret
   exact ⟨aI Hs.out.symm,QQ hbW hbr⟩
section
variable {O : aJ} {El : Int->Prop} {m n : Nat}
def df (O : aJ) (a b : Nat->Int) : Nat->Int
 | 0=>0
 | t+1=>O.add (df O a b t) (O.mul (a t) (b t))
theorem ml (F : bR O El) {a b : Nat->Int} : ∀t,(∀p,p<t->El (a p))->(∀p,p<t->El (b p))->El (df O a b t)
 | 0,_,_=>F.zero
 | t+1,ha,hb=>F.cl.add _ _ (ml F t (λp hp=>ha p (by omega)) λp hp=>hb p (by omega)) (F.cl.mul _ _ (ha t (by omega)) (hb t (by omega)))
theorem gI (F : bR O El) {a b : Nat->Int} : ∀t,(∀p,p<t->El (a p))->(∀p,p<t->El (b p))->df O a b t=df O b a t
 | 0,_,_=>rfl
 | t+1,ha,hb=>by rw [df,df,gI F t (λp hp=>ha p (by omega)) λp hp=>hb p (by omega),F.mul_comm _ _ (ha t (by omega)) (hb t (by omega))]
theorem cT {a b a' b' : Nat->Int} : ∀t,(∀p,p<t->a p=a' p/\b p=b' p)->df O a b t=df O a' b' t
 | 0,_=>rfl
 | t+1,h=>by rw [df,df,cT t λp hp=>h p (by omega),(h t (by omega)).1,(h t (by omega)).2]
theorem o6 (F : bR O El) {a b : Nat->Int} : ∀t,(∀p,p<t->O.mul (a p) (b p)=0)->df O a b t=0
 | 0,_=>rfl
 | t+1,h=>by rw [df,o6 F t λp hp=>h p (by omega),h t (by omega),F.add_zero 0 F.zero]
theorem jB (F : bR O El) {a b : Nat->Int} {x : Nat} (hx : El (O.mul (a x) (b x))) : ∀t,(∀p,p<t->p ≠ x->O.mul (a p) (b p)=0)->df O a b t=if x<t then O.mul (a x) (b x) else 0
 | 0,_=>rfl
 | t+1,h=>by
  rw [df,jB F hx t λp hp=>h p (by omega)];by_cases e : t=x
  ·subst e;rw [Mh (by omega),Mg (by omega),F.zI hx]
  ·rw [h t (by omega) e];by_cases e2 : x<t
   ·rw [Mg e2,Mg (by omega),F.add_zero _ hx]
   ·rw [Mh e2,Mh (by omega),F.add_zero 0 F.zero]
theorem zf (F : bR O El) {a b : Nat->Int} {x y : Nat} (hxy : x ≠ y) (hx : El (O.mul (a x) (b x))) (hy : El (O.mul (a y) (b y))) : ∀t,(∀p,p<t->p ≠ x->p ≠ y->O.mul (a p) (b p)=0) ->
  df O a b t=O.add (if x<t then O.mul (a x) (b x) else 0) (if y<t then O.mul (a y) (b y) else 0)
 | 0,_=>by rw [Mh (by omega),Mh (by omega)];exact (F.add_zero 0 F.zero).symm
 | t+1,h=>by
  rw [df,zf F hxy hx hy t λp hp=>h p (by omega)];by_cases e : t=x
  ·subst e;rw [Mh (Oj t),Mg (Nat.lt_succ_self t)];by_cases e2 : y<t
   ·rw [Mg e2,Mg (show y<t+1 by omega),F.zI hy,F.add_comm _ _ hy hx]
   ·rw [Mh e2,Mh (show ¬ y<t+1 by omega),F.zI F.zero,F.zI hx,F.add_zero _ hx]
  ·by_cases e1 : t=y
   ·subst e1;by_cases e2 : x<t
    ·rw [Mg e2,Mh (by omega),Mg (by omega),Mg (by omega),F.add_zero _ hx]
    ·rw [Mh e2,Mh (by omega),Mh (by omega),Mg (by omega),F.add_zero 0 F.zero]
   ·rw [h t (by omega) e e1];by_cases e2 : x<t
    ·by_cases e3 : y<t
     ·rw [Mg e2,Mg e3,Mg (by omega),Mg (by omega),F.add_zero _ (F.cl.add _ _ hx hy)]
     ·rw [Mg e2,Mh e3,Mg (by omega),Mh (by omega),F.add_zero _ (F.cl.add _ _ hx F.zero)]
    ·by_cases e3 : y<t
     ·rw [Mh e2,Mg e3,Mh (by omega),Mg (by omega),F.add_zero _ (F.cl.add _ _ F.zero hy)]
     ·rw [Mh e2,Mh e3,Mh (by omega),Mh (by omega),F.add_zero _ (F.cl.add _ _ F.zero F.zero)]
def xB (O : aJ) (r : Nat->Int) (K : ZZ) : Nat->Lz
 | 0=>List.replicate K.length 0
 | t+1=>dZ O (xB O r K t) (O.neg (r t)) (aK K t)
theorem oa (F : bR O El) {r : Nat->Int} {K : ZZ} (hK : bx El m K) : ∀t,(∀p,p<t->El (r p))->Vc El K.length (xB O r K t)
 | 0,_=>⟨by simp [xB],λy hy=>by have:=NC hy;rw [this];exact F.zero⟩
 | t+1,hr=>(oa F hK t λp hp=>hr p (by omega)).sub F (ch hK F.zero t) (F.cl.neg _ (hr t (by omega)))
theorem yg (F : bR O El) {r : Nat->Int} {K : ZZ} (hK : bx El m K) {j : Nat} (hj : j<K.length) : ∀t,t<=m->(∀p,p<t->El (r p))->nth (xB O r K t) j=df O r (λp=>nth (ai K j) p) t
 | 0,_,_=>by simp [xB,df,nth,Mk,MN,hj]
 | t+1,ht,hr=>by have hv:=oa F hK t λp hp=>hr p (by omega);have hc:=ch hK F.zero t;have hrt:=hr t (by omega);have hx : El (nth (ai K j) t):=QV (hK.row hj) (by omega);rw [xB,eX O _ _ _ j (by rw [hc.1,hv.1]) (by rw [hv.1];exact hj),yg F hK hj t (by omega) λp hp=>hr p (by omega),bM K t j hj,F.neg_mul hrt hx,F.neg_neg (F.cl.mul _ _ hrt hx)];rfl
theorem oZ (F : bR O El) {r : Nat->Int} {K : ZZ} (hK : bx El m K) {φ : Lz->Int} (hφ : ja O El K.length φ) : ∀t,(∀p,p<t->El (r p))->φ (xB O r K t)=df O r (λp=>φ (aK K p)) t
 | 0,_=>hφ.zero F (oa F hK 0 λp hp=>by omega) λi hi=>by simp [xB,nth,Mk,MN,hi]
 | t+1,hr=>by have hv:=oa F hK t λp hp=>hr p (by omega);have hc:=ch hK F.zero t;have hrt:=hr t (by omega);have hx:=hφ.el _ hc;rw [xB,hφ.sub _ _ _ hv hc (F.cl.neg _ hrt),oZ F hK hφ t λp hp=>hr p (by omega),F.neg_mul hrt hx,F.neg_neg (F.cl.mul _ _ hrt hx)];rfl
theorem lN (F : bR O El) {r : Nat->Int} {K : ZZ} (hK : bx El m K) {φ : Lz->Int} (hφ : ja O El K.length φ) (hr : ∀p,p<m->El (r p)) (h : ∀j,j<K.length->df O r (λp=>nth (ai K j) p) m=0) :
  df O r (λp=>φ (aK K p)) m=0:=by rw [<- oZ F hK hφ m hr];exact hφ.zero F (oa F hK m hr) λi hi=>by rw [yg F hK hi m (Mf _) hr];exact h i hi
def nG (O : aJ) (m : Nat) (G K : ZZ) : Prop:=∀i j,i<G.length->j<K.length->df O (λp=>nth (ai G i) p) (λp=>nth (ai K j) p) m=0
variable {G K : ZZ}
theorem nG.symm (F : bR O El) (hG : bx El m G) (hK : bx El m K) (h : nG O m G K) : nG O m K G:=λi j hi hj=>by rw [gI F m (λp hp=>QV (hK.row hi) hp) λp hp=>QV (hG.row hj) hp];exact h j i hj hi
theorem nG.Lv (F : bR O El) (hG : bx El m G) (hK : bx El m K) (h : nG O m G K) {φ ψ : Lz->Int} (hφ : ja O El K.length φ) (hψ : ja O El G.length ψ) :
  df O (λp=>φ (aK K p)) (λp=>ψ (aK G p)) m=0:=by have hcφ : ∀p,p<m->El (φ (aK K p)):=λp _=>hφ.el _ (ch hK F.zero p);refine lN F hG hψ hcφ λi hi=>?_;rw [gI F m hcφ λp hp=>QV (hG.row hi) hp];exact lN F hK hφ (λp hp=>QV (hG.row hi) hp) λj hj=>h i j hi hj
theorem nG.cl (F : bR O El) (hG : bx El m G) (hK : bx El m K) (h : nG O m G K) {A B : Z6} {x : Nat} (hx : x<m) (hAB : ∀p,p<m->p ≠ x->p ∈ A\/p ∈ B) (hn : ¬ ie O El G.length (aK G) A x) :
  ie O El K.length (aK K) B x:=by
 intro φ hφ h0;apply Mv;intro hne;apply hn;intro ψ hψ hA;have hd:=h.Lv F hG hK hφ hψ;have e1:=hφ.el _ (ch hK F.zero x);have e2:=hψ.el _ (ch hG F.zero x);rw [jB F (x:=x) (F.cl.mul _ _ e1 e2) m λp hp hpx=>?_,Mg hx] at hd
 ·exact F.rP e1 e2 hne hd
 ·rcases hAB p hp hpx with h1 | h1
  ·show O.mul (φ (aK K p)) (ψ (aK G p))=0;rw [hA p h1,F.dt (hφ.el _ (ch hK F.zero p))]
  ·show O.mul (φ (aK K p)) (ψ (aK G p))=0;rw [h0 p h1,F.kj (hψ.el _ (ch hG F.zero p))]
theorem IA {cl : Z6->Nat->Prop} {l : Z6} {x n n' : Nat} (h : Rk cl l n) (h' : Rk cl (x :: l) n') : n'<=n+1/\(cl l x->n'=n):=by
 cases h' with
 | dep _ hx h2=>exact ⟨by rw [h.uniq h2];omega,λ_=>(h.uniq h2).symm⟩
 | ind _ hx h2=>exact ⟨by rw [h.uniq h2];omega,λhc=>absurd hc hx⟩
theorem lB {cl cl' : Z6->Nat->Prop} {m : Nat} (h : ∀A B x,x<m->(∀p,p<m->p ≠ x->p ∈ A\/p ∈ B)->¬ cl A x->cl' B x) :
  ∀(l acc : Z6) {a b c : Nat},(∀x ∈ l,x<m)->(∀p,p<m->p ∈ l\/p ∈ acc)->Rk cl l a->Rk cl' acc b->Rk cl' (l.reverse ++ acc) c->a+c<=l.length+b
 | [],acc,a,b,c,_,_,ha,hb,hc=>by
  cases ha
  have e : c=b:=Rk.uniq hc hb;simp;omega
 | x :: l,acc,a,b,c,hl,hp,ha,hb,hc=>by
  have hx:=hl x (by simp);obtain ⟨b',hb'⟩:=Rq cl' (x :: acc);have hst:=IA hb hb';have hc' : Rk cl' (l.reverse ++ (x :: acc)) c:=by simpa using hc
  have hp' : ∀p,p<m->p ∈ l\/p ∈ x :: acc:=λp hpm=>by
   rcases hp p hpm with h1 | h1
   ·rcases List.mem_cons.1 h1 with rfl | h1
    ·exact .inr (by simp)
    ·exact .inl h1
   ·exact .inr (List.mem_cons.2 (.inr h1))
  cases ha with
  | dep _ hcl ha' =>
   have ih:=lB h l (x :: acc) (λy hy=>hl y (List.mem_cons.2 (.inr hy))) hp' ha' hb' hc'
   simp only [MT];omega
  | ind _ hcl ha' =>
   have ih:=lB h l (x :: acc) (λy hy=>hl y (List.mem_cons.2 (.inr hy))) hp' ha' hb' hc'
   have:=hst.2 (h l acc x hx (λp hpm hpx=>by
    rcases hp p hpm with h1 | h1
    ·rcases List.mem_cons.1 h1 with h2 | h1
     ·exact absurd h2 hpx
     ·exact .inl h1
    ·exact .inr h1) hcl)
   simp only [MT];omega
theorem wM (F : bR O El) (hG : bx El m G) (hK : bx El m K) (h : nG O m G K) (hkm : G.length+K.length=m)
  (hg : Rk (ie O El G.length (aK G)) (List.range m) G.length) (hk : Rk (ie O El K.length (aK K)) (List.range m) K.length)
  {S C : Z6} (hS : ∀x ∈ S,x<m) (hC : ∀x ∈ C,x<m) (hSC : ∀p,p<m->p ∈ S\/p ∈ C) (hlen : S.length+C.length=m) {a b : Nat} (ha : Rk (ie O El G.length (aK G)) C a) (hb : Rk (ie O El K.length (aK K)) S b) :
  (b : Int)=S.length - G.length+a:=by
 have cG:=da F hG;have cK:=da F hK;have all : ∀ {cl : Z6->Nat->Prop} (hc : yA cl) {r : Nat} (_ : Rk cl (List.range m) r) (l acc : Z6),(∀x ∈ l,x<m)->(∀x ∈ acc,x<m)->(∀p,p<m->p ∈ l\/p ∈ acc)->Rk cl (l.reverse ++ acc) r:=λhc r hr l acc h1 h2 h3=>by
  obtain ⟨r',hr'⟩:=Rq _ (l.reverse ++ acc);have e:=Q9 hc hr hr' λx=>by rw [M8,M0,O2];exact ⟨λhx=>h3 x hx,λhx=>by rcases hx with hx | hx;exact h1 x hx;exact h2 x hx⟩
  rw [e];exact hr'
 have i1:=lB (m:=m) (λA B x hx hAB hn=>h.cl F hG hK hx hAB hn) C S hC (λp hp=>(hSC p hp).symm) ha hb (all cK hk C S hC hS λp hp=>(hSC p hp).symm);have i2:=lB (m:=m) (λA B x hx hAB hn=>(h.symm F hG hK).cl F hK hG hx hAB hn) S C hS hSC hb ha (all cG hg S C hS hC hSC);omega
end
def gj (P M : Int) (mod : Lz) (cols : Int) (L : ZZ) : Int:=if bF P M mod=true then eZ (aU P M) cols L else 1
theorem uF (P M : Int) (am : OA) (mn cm : Nat) (mod : Lz) (cols : Int) (a : OA) (n c : Nat) (L : ZZ) (w : World) (hmod : Ints w am mn mod) (hi : cU w a n L) :
  Calls prog 119 #[.agg #[.int .i64 P,.int .i64 M,.slice am mn cm],.agg #[.int .i64 cols,.slice a n c]] w λe w'=>e = .returned (.int .i64 (gj P M mod cols L))/\Rs w w':=by
 have Hlen:=Z5 hi.len;have hpl:=hi.pl;have hmax:=hi.max;unfold maxLen at hmax;go_enter func119,ntmps119;go_wp2_with fail;obtain ⟨W,hW⟩ : ∃W : World,W=(w.alloc (.cells #[.int .i64 P,.int .i64 M,.slice am mn cm] 24)).alloc (.cells #[.int .i64 cols,.slice a n c] 82):=⟨_,rfl⟩
 rw [<- hW];have hbW : Rs w W:=by rw [hW];exact iD _ _ _
 have x0 : bf W w.heap.size [.int .i64 P,.int .i64 M,.slice am mn cm]:=by rw [hW];exact (QS _ _ _ rfl).alloc _
 have y0 : bf W (w.heap.size+1) [.int .i64 cols,.slice a n c]:=by rw [hW];exact QS _ _ _ (by simp)
 have hS : ∀V,Rs W V->V.cell? ⟨w.heap.size,0,none⟩=some (.int .i64 P)/\V.cell? ⟨w.heap.size,1,none⟩=some (.int .i64 M)/\V.cell? ⟨w.heap.size,2,none⟩=some (.slice am mn cm) /\
   V.cell? ⟨w.heap.size+1,0,none⟩=some (.int .i64 cols)/\V.cell? ⟨w.heap.size+1,1,none⟩=some (.slice a n c)/\Rs W V:=by intro V hV;have x1:=x0.ah hV;have y1:=y0.ah hV;exact ⟨x1.cell 0 rfl,x1.cell 1 rfl,x1.cell 2 rfl,y1.cell 0 rfl,y1.cell 1 rfl,hV⟩
 have HS:=Z5 hS;have hiW:=hi.ah hbW;clear hW x0 y0 hS;refine (lH P M am mn cm mod W (hmod.ah hbW)).mono ?_;rintro e w1 ⟨rfl,hb1⟩;have hbw1:=QQ hbW hb1;by_cases hB : bF P M mod=true
 ·have HB : Hid (gj P M mod cols L=eZ (aU P M) cols L):=by show _=_;rw [gj,Mg hB]
  have hE : cH (bF P M mod)=0:=by rw [hB];rfl
  rw [hE];obtain ⟨q,hq⟩ : ∃q,aU P M=q:=⟨_,rfl⟩
  have Hq:=Z5 hq;rw [hq] at HB;obtain ⟨d0,d1,d2,d3,d4,_⟩:=HS.out w1 hb1;clear hB hE hq;by_cases b1 : cols<0
  ·have Hf : Hid (gj P M mod cols L=3):=by show _=_;rw [HB.out,eZ,Mg (.inl b1)]
   have t1 : decide (cols<0)=true:=by simpa using b1
   go_wp2_with fail;go_ret;exact ⟨aI Hf.out.symm,hbw1⟩
  have t1 : decide (cols<0)=false:=by simpa using b1
  by_cases b2 : 256<cols
  ·have Hf : Hid (gj P M mod cols L=3):=by show _=_;rw [HB.out,eZ,Mg (.inr (.inl b2))]
   have t2 : decide (256<cols)=true:=by simpa using b2
   go_wp2_with fail;go_ret;exact ⟨aI Hf.out.symm,hbw1⟩
  have t2 : decide (256<cols)=false:=by simpa using b2
  by_cases b3 : 256<n
  ·have Hf : Hid (gj P M mod cols L=3):=by show _=_;rw [HB.out,eZ,Mg (.inr (.inr (by rw [Hlen.out];exact b3)))]
   have t3 : decide (256<(n : Int))=true:=by simp;omega
   go_wp2_with fail;go_ret;exact ⟨aI Hf.out.symm,hbw1⟩
  have t3 : decide (256<(n : Int))=false:=by simp;omega
  have Hm : Hid (gj P M mod cols L=if iy cols L=false then 3 else if L.all (kD q) then 0 else 2):=by show _=_;rw [HB.out,eZ,Mh (by rw [Hlen.out];omega)]
  have hi1:=hiW.ah hb1;clear b1 b2;go_wp2_with fail;go_loopw [6] (λiv wr=>∃k : Nat,k<=n/\iv = .int .i64 k/\Hid ((L.take k).all (λr=>decide ((r.length : Int)=cols))=true)/\bs w1 wr) (λiv _=>n - (intOf iv).toNat);case atStart=>exact ⟨0,Mj _,rfl,by show _=_;simp,QW _⟩
  case round =>
   obtain ⟨k,hk,rfl,hall,hd⟩:=hrel
   have hir:=hi1.drawn hd
   have e3:=hd.cell d3
   have e4:=hd.cell d4
   by_cases hlt : k<n
   ·obtain ⟨ra,rn,rc,hcell,hrow⟩:=hir.cell k hlt
    have hkL : k<L.length:=by rw [Hlen.out];exact hlt
    have hrl:=hrow.len
    rw [aF hkL] at hrl
    have Hrl:=Z5 hrl
    clear hrl
    by_cases he : (rn : Int)=cols
    ·have he' : ((rn : Int) != cols)=false:=by simpa using he
     have Hs : Hid ((L.take (k+1)).all (λr=>decide ((r.length : Int)=cols))=true):=dx hkL hall.out (by rw [Hrl.out];simpa using he)
     clear he
     go_wp2_with fail
     go_quiet (fail)
     go_wp2
     go_roundw
     case rel=>exact ⟨k+1,by omega,by go_num,Hs.out,hd.drewN _⟩
     case measure=>simp [intOf] <;> omega
    ·have he' : ((rn : Int) != cols)=true:=by simpa using he
     have Hs : Hid (gj P M mod cols L=3):=by show _=_;rw [Hm.out,Mg];exact dw hkL (by simp only [Hrl.out];simpa using he)
     clear he
     go_wp2_with fail
     go_quiet (fail)
     go_wp2
     go_ret
     exact ⟨aI Hs.out.symm,QQ hbw1 (hd.drewN _).below⟩
   ·obtain rfl : k=n:=by omega
    have Hm2 : Hid (gj P M mod cols L=if L.all (kD q) then 0 else 2):=by have:=hall.out;rw [Ms (by rw [Hlen.out];exact Mf _)] at this;show _=_;rw [Hm.out,Mh (by rw [iy,this];simp)]
    have hbr : Rs W wr:=QQ hb1 hd.below
    have hir2:=hir
    clear d0 d1 d2 d3 d4 hall
    go_wp2_with fail
    clear e3 e4
    go_loopw [7] (λiv wx=>∃j : Nat,j<=k/\iv = .int .i64 j/\Hid ((L.take j).all (kD q)=true)/\Rs W wx) (λiv _=>k - (intOf iv).toNat)
    case atStart=>exact ⟨0,Mj _,rfl,by show _=_;simp,hbr⟩
    case round =>
     obtain ⟨j,hj,rfl,hall2,hbx⟩:=hrel
     obtain ⟨d0,d1,d2,d3,d4,_⟩:=HS.out _ hbx
     by_cases hlt : j<k
     ·have hiX:=hiW.ah hbx
      obtain ⟨ra,rn,rc,hcell,hrow⟩:=hiX.cell j hlt
      have hjL : j<L.length:=by rw [Hlen.out];exact hlt
      have HC:=Z5 (xS P M am mn cm ra rn rc (ai L j) _ (hrow.ah (Mi _ _).drew))
      have hSj : ∀V,Rs wr V->V.cell? ⟨w.heap.size,0,none⟩=some (.int .i64 P)/\V.cell? ⟨w.heap.size,1,none⟩=some (.int .i64 M)/\V.cell? ⟨w.heap.size,2,none⟩=some (.slice am mn cm) /\
        V.cell? ⟨w.heap.size+1,1,none⟩=some (.slice a k c)/\V.cell? ⟨an a,aP a+j,none⟩=some (.slice ra rn rc):=λV hV=>by obtain ⟨f0,f1,f2,f3,f4,_⟩:=HS.out V (QQ hbx hV);exact ⟨f0,f1,f2,f4,aA hV hcell⟩
      have HSj:=Z5 hSj
      have Hbx:=Z5 hbx
      rw [Hq.out] at HC
      clear hSj hbx
      by_cases he : kD q (ai L j)=true
      ·have he2 : mP q (ai L j)=0:=by rw [mP,he];rfl
       rw [he2] at HC
       rw [aF hjL] at he
       have Hs : Hid ((L.take (j+1)).all (kD q)=true):=dx hjL hall2.out he
       clear he he2
       go_wp2_with fail
       go_region_held3 (λV=>V.cell? ⟨w.heap.size,0,none⟩=some (.int .i64 P)/\V.cell? ⟨w.heap.size,1,none⟩=some (.int .i64 M)/\V.cell? ⟨w.heap.size,2,none⟩=some (.slice am mn cm) /\
         V.cell? ⟨w.heap.size+1,1,none⟩=some (.slice a k c)/\V.cell? ⟨an a,aP a+j,none⟩=some (.slice ra rn rc))
        ((refine HSj.out _ ?_;first | exact (Mi _ _).drew | exact QQ (Mi _ _).drew hb4))
        (first | (go_at_call 76;((with_reducible refine HC.out.mono ?_);rintro e w4 ⟨rfl,hb4⟩)))
       go_wp2_with fail
       go_roundw
       case rel=>exact ⟨j+1,by omega,by go_num,Hs.out,QQ Hbx.out (QQ (Mi _ _).drew hb4)⟩
       case measure=>simp [intOf] <;> omega
      ·have he2 : mP q (ai L j)=2:=by rw [mP,Mh he]
       rw [he2] at HC
       rw [aF hjL] at he
       have Hs : Hid (gj P M mod cols L=2):=by show _=_;rw [Hm2.out,dw hjL (by simpa using he)];rfl
       clear he he2
       go_wp2_with fail
       go_region_held3 (λV=>V.cell? ⟨w.heap.size,0,none⟩=some (.int .i64 P)/\V.cell? ⟨w.heap.size,1,none⟩=some (.int .i64 M)/\V.cell? ⟨w.heap.size,2,none⟩=some (.slice am mn cm) /\
         V.cell? ⟨w.heap.size+1,1,none⟩=some (.slice a k c)/\V.cell? ⟨an a,aP a+j,none⟩=some (.slice ra rn rc))
        ((refine HSj.out _ ?_;first | exact (Mi _ _).drew | exact QQ (Mi _ _).drew hb4))
        (first | (go_at_call 76;((with_reducible refine HC.out.mono ?_);rintro e w4 ⟨rfl,hb4⟩)))
       go_wp2_with fail
       go_ret
       exact ⟨aI Hs.out.symm,QQ hbW (QQ Hbx.out (QQ (Mi _ _).drew hb4))⟩
     ·obtain rfl : j=k:=by omega
      have Hs : Hid (gj P M mod cols L=0):=by have:=hall2.out;rw [Ms (by rw [Hlen.out];exact Mf _)] at this;show _=_;rw [Hm2.out,this];rfl
      go_wp2_with fail
      go_ret
      exact ⟨aI Hs.out.symm,QQ hbW hbx⟩
 ·have hB' : bF P M mod=false:=by simpa using hB
  have Hf : Hid (gj P M mod cols L=1):=by show _=_;rw [gj,Mh hB]
  have hE : cH (bF P M mod)=1:=by rw [hB'];rfl
  rw [hE];clear hB hB' hE;go_wp2_with fail;go_ret;exact ⟨aI Hf.out.symm,hbw1⟩
theorem zN {N : Int} {l : Lz} (h : bG N l=true) : ∀k,k<l.length->(k : Int)<=nth l k
 | 0,hk=>(gr h hk).1
 | k+1,hk=>by have ih:=zN h k (by omega);have:=(gr h hk).2.2 (by omega);rw [Nu] at this;omega
theorem mq {N : Int} {l : Lz} (h : bG N l=true) (hN : 0<=N) : (l.length : Int)<=N:=by
 by_cases h0 : l.length=0
 ·omega
 ·have h1:=zN h (l.length - 1) (by omega);have h2:=(gr h (k:=l.length - 1) (by omega)).2.1;omega
theorem mH (N : Int) (l : Lz) : lF N [l]=if bG N l=true then 0 else 6:=by simp [lF]
def eT (P M : Int) (mod : Lz) (N : Int) (L : ZZ) (Q : Lz) : Int:=if aH P M mod N L=0 then lF N [Q] else aH P M mod N L
def zZ (P M : Int) (mod : Lz) (N : Int) (L : ZZ) (Q : Lz) (w : World) (e : Ending) (w' : World) : Prop :=
 Rs w w'/\((eT P M mod N L Q ≠ 0/\e = .returned (.tuple #[.int .i64 0,.int .i64 (eT P M mod N L Q)])) \/
  (eT P M mod N L Q=0/\e = .returned (.tuple #[.int .i64 (jP (aa P M.toNat mod).ops L Q).length,.int .i64 0])))
theorem eJ {P M : Int} {mod : Lz} {N : Int} {L : ZZ} (h : aH P M mod N L=0) : ∃m : Nat,N=m/\1<=m/\m<=64/\L.length<=256/\bx (aa P M.toNat mod).El m L:=by obtain ⟨h1,h2,h3,h4⟩:=bL h;obtain ⟨h5,h6⟩:=dK h4;obtain ⟨h7,h8⟩:=fF h5;obtain ⟨m,rfl,hm,hl,hR⟩:=jr h8;exact ⟨m,rfl,by omega,by omega,hl,hR⟩
theorem zl (P M : Int) (am : OA) (mn cm : Nat) (mod : Lz) (N : Int) (a : OA) (n c : Nat) (L : ZZ) (ao : OA) (no co : Nat) (Q : Lz) (w : World)
  (hmod : Ints w am mn mod) (hi : cU w a n L) (hq : Ints w ao no Q) :
  Calls prog 166 #[.agg #[.int .i64 P,.int .i64 M,.slice am mn cm,.int .i64 N,.slice a n c],.slice ao no co] w (zZ P M mod N L Q w):=by
 have Hql:=Z5 hq.len;have Hil:=Z5 hi.len;go_enter func166,ntmps166;go_wp2_with fail;obtain ⟨W,hW⟩ : ∃W : World,W=w.alloc (.cells #[.int .i64 P,.int .i64 M,.slice am mn cm,.int .i64 N,.slice a n c] 27):=⟨_,rfl⟩
 rw [<- hW];have hbW : Rs w W:=by rw [hW];exact aB _ _
 have x0 : bf W w.heap.size [.int .i64 P,.int .i64 M,.slice am mn cm,.int .i64 N,.slice a n c]:=by rw [hW];exact QS _ _ _ rfl
 have HX:=Z5 x0;clear hW x0;refine (qx P M am mn cm mod N a n c L W (hmod.ah hbW) (hi.ah hbW)).mono ?_;rintro e w1 ⟨hb1,⟨hE,rfl⟩ | ⟨hE,b,rfl,hG⟩⟩
 ·have hbw1:=QQ hbW hb1;have HE : Hid (eT P M mod N L Q=aH P M mod N L):=by show _=_;rw [eT,Mh hE]
  have He:=Z5 hE;have hE1 : (aH P M mod N L == 0)=false:=by simpa using hE
  have hE2 : (aH P M mod N L != 0)=true:=by simpa using hE
  clear hE;go_wp2_with fail;go_ret2;exact ⟨hbw1,.inl ⟨by rw [HE.out];exact He.out,by rw [HE.out];rfl⟩⟩
 ·have hbw1:=QQ hbW hb1;have HE : Hid (eT P M mod N L Q=lF N [Q]):=by show _=_;rw [eT,Mg hE]
  have Hrw:=Z5 (eJ hE);have xU:=HX.out.ah hb1;have b0:=xU.cell 0 rfl;have b1:=xU.cell 1 rfl;have b2:=xU.cell 2 rfl;have b3:=xU.cell 3 rfl;have b4:=xU.cell 4 rfl;have hq1:=(hq.ah hbW).ah hb1;have hbl:=aB w1 (.cells #[.slice ao no co] 22);have hMs : cU (w1.alloc (.cells #[.slice ao no co] 22)) (some ⟨w1.heap.size,0,none⟩) 1 [Q]:=⟨rfl,λ_=>rfl,by unfold maxLen;omega,λi hi=>by
   obtain rfl : i=0:=by omega
   exact ⟨ao,no,co,dq _ _ _ rfl,hq1.ah hbl⟩⟩
  clear xU hE;go_wp2_with fail;refine (FW P M am mn cm N a n c _ 1 1 [Q] _ hMs).mono ?_;rintro e w2 ⟨rfl,hb2⟩;have hb3 : Rs w1 w2:=QQ hbl hb2;have hbw2:=QQ hbw1 hb3;rw [mH] at HE ⊢;by_cases hok : bG N Q=true
  ·have HE2 : Hid (eT P M mod N L Q=0):=by show _=_;rw [HE.out,Mg hok]
   rw [Mg hok];obtain ⟨m,hm,hm1,hm2,hLl,hRw⟩:=Hrw.out;subst hm;have hlen:=mq hok (by omega);have hQk : ∀k,k<no->0<=nth Q k/\nth Q k<m:=λk hk=>by have:=gr hok (k:=k) (by rw [Hql.out];exact hk);exact ⟨this.1,this.2.1⟩
   have hno : no<=1000000:=by rw [<- Hql.out];omega
   have hn : n<=1000000:=by rw [<- Hil.out];omega
   have HQk:=Z5 hQk;have HRw:=Z5 hRw;have xU:=(HX.out.ah hb1).ah hb3;have b0:=xU.cell 0 rfl;have b1:=xU.cell 1 rfl;have b2:=xU.cell 2 rfl;have b3:=xU.cell 3 rfl;have b4:=xU.cell 4 rfl;have hq2:=hq1.ah hb3;have hi2:=((hi.ah hbW).ah hb1).ah hb3;have hG2:=hG.ah hb3;clear hok hlen hQk hRw xU;go_wp2_with fail;refine (sg P M am mn cm m a n c L m ao no co Q hG2 hi2 HRw.out hq2 HQk.out hn hno).mono ?_;rintro e w4 ⟨a4,c4,rfl,hown4,hb4⟩;have hF : zZ P M mod m L Q w (.returned (.tuple #[.int .i64 (jP (aa P M.toNat mod).ops L Q).length,.int .i64 0])) w4:=⟨QQ hbw2 hb4,.inr ⟨HE2.out,rfl⟩⟩
   have HF:=Z5 hF;clear hF hown4;generalize jP (aa P M.toNat mod).ops L Q=out at *;go_wp2_with fail;go_ret2;exact HF.out
  ·have HE2 : Hid (eT P M mod N L Q=6):=by show _=_;rw [HE.out,Mh hok]
   rw [Mh hok];clear hok b0 b1 b2 b3 b4;go_wp2_with fail;go_ret2;exact ⟨hbw2,.inl ⟨by rw [HE2.out];omega,by rw [HE2.out];rfl⟩⟩
def aQ (x : Nat) : Nat->Lz
 | 0=>[]
 | k+1=>if x.testBit k=true then aQ x k ++ [(k : Int)] else aQ x k
theorem lk (x : Nat) : ∀k,(aQ x k).length<=k
 | 0=>Mf _
 | k+1=>by have:=lk x k;unfold aQ;split <;> simp <;> omega
theorem qz (x i : Nat) : x.testBit i=decide (x / 2 ^ i % 2=1):=by rw [Nat.testBit,Nat.shiftRight_eq_div_pow,Nat.one_and_eq_mod_two];rcases Nt (x / 2 ^ i) with h | h <;> simp [h]
theorem lU (x : Nat) : ∀k j,j<(aQ x k).length->0<=nth (aQ x k) j/\nth (aQ x k) j<k
 | 0,j,h=>by simp [aQ] at h
 | k+1,j,h=>by
  unfold aQ at h ⊢;split
  ·rename_i ht;rw [Mg ht] at h;simp only [Mp,Mz] at h;by_cases hj : j<(aQ x k).length
   ·have:=lU x k j hj;have e : nth (aQ x k ++ [(k : Int)]) j=nth (aQ x k) j:=by simp only [nth,Mk];rw [ML hj]
    rw [e];omega
   ·obtain rfl : j=(aQ x k).length:=by omega
    have e : nth (aQ x k ++ [(k : Int)]) (aQ x k).length=k:=by simp [nth]
    rw [e];omega
  ·rename_i ht;rw [Mh ht] at h;have:=lU x k j h;omega
end Go.Proofs.YtcfmiocdlcapoaaGreat
