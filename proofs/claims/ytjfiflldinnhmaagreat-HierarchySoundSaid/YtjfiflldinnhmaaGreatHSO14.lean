import Derived.Test.YtjfiflldinnhmaaGreatHSO11
import Derived.Test.YtjfiflldinnhmaaGreatHSO12
import Derived.Test.YtjfiflldinnhmaaGreatHSO13
import Derived.Laws.Bits64
import Derived.Laws.Bits64b
namespace Go.Proofs.YtjfiflldinnhmaaGreat
set_option linter.all false
set_option maxRecDepth 100000
set_option maxHeartbeats 8000000
open Go.RowKit Go.Proofs.Tryz
theorem rq (L : LL) (t : Nat) : bm L t t=L:=by rw [bm,jH,jH]
theorem aN.newRow {V V5 : World} {B : Nat} {a : OA} {n c : Nat} {R : LA} {L : LL} (h : aN V B a n c R L) {i : Nat} (hi : i<n) (hb : JA V V5) (hB : B<=V.heap.size) {a5 : OA} {c5 : Nat} {l : LI}
  (hown : V5.ownsRow V.heap.size 3 1 (.slice a5 l.length c5) l.length (l.map (Value.int .i64))) :
  ∃R',aN (V5.setCell ⟨ah a,aG a+i,none⟩ (.slice a5 l.length c5)) B a n c R' (L.set i l)/\aw V (V5.setCell ⟨ah a,aG a+i,none⟩ (.slice a5 l.length c5)) (bH a R) (bH a R'):=by
 have hO4:=h.aa hb;have hnew : ∀b,b<V.heap.size->db a5 b:=λb hb=>la hown hb;have h1:=hO4.setRow hi (aW hown hB) (hnew _ (h.lt _ (.inl ⟨h.ne (by omega),rfl⟩)).2) (λj hj _=>by
  by_cases hn : (aK R j).1=none
  ·exact .inl hn
  ·exact .inr (hnew _ (h.lt _ (aN.ku (by rw [h.rl];exact hj) hn)).2))
 have h2:=h.kr hb hi (r:=a5) (rc:=c5) (.slice a5 l.length c5) (λha=>.inr (aU hown ha).1);exact ⟨_,h1,h2⟩
def mj (O : aL) (L : LL) (cols : Nat) (w : World) (e : Ending) (w' : World) : Prop :=
 ∃a c R ap cp,e = .returned (.tuple #[.slice a L.length c,.slice ap (aB O L cols).2.length cp])/\aN w' w.heap.size a L.length c R (aB O L cols).1 /\
  w'.ownsRow w.heap.size 3 1 (.slice ap (aB O L cols).2.length cp) (aB O L cols).2.length ((aB O L cols).2.map (Value.int .i64))/\JA w w'
theorem zl (P : Int) (m : Nat) (am : OA) (mn cm : Nat) (mod : LI) (a : OA) (n c cols len : Nat) (L : LL) (w : World) (hf : rT w P m am mn mod) (hi : bY w a n L)
  (hR : bx (ef P m) len L) (hcl : cols<=len) (hlen : len<=1000000) (hn : n<=1000000) (hinv : ∀p,ef P m p->p ≠ 0->(fE P m mod p=1 ↔ p=1)) :
  Calls prog 184 #[.agg #[.int .i64 P,.int .i64 m,.slice am mn cm],.slice a n c,.int .i64 cols] w (mj (kn P m mod) L cols w):=by
 obtain ⟨O,hO⟩ : ∃O,kn P m mod=O:=⟨_,rfl⟩
 rw [hO];have HO:=Z5 hO;have Hcl : Hid (pz O (ef P m)):=by show pz O _;rw [<- hO];exact EB hf.rf mod
 have Hinv:=Z5 hinv;have Hlen:=Z5 hi.len;have HR:=Z5 hR;have hLl : ∀l ∈ L,l.length<=1000000:=λl hl=>by rw [(hR l hl).1];exact hlen
 have HLl:=Z5 hLl;clear hinv hR hLl hO;have hfin : ∀w' a' c' R' ap cp Lk Pv,(Lk,Pv)=aB O L cols->aN w' w.heap.size a' n c' R' Lk->w'.ownsRow w.heap.size 3 1 (.slice ap Pv.length cp) Pv.length (Pv.map (Value.int .i64))->JA w w' ->
   mj O L cols w (.returned (.tuple #[.slice a' n c',.slice ap Pv.length cp])) w':=by
  intro w' a' c' R' ap cp Lk Pv he h1 h2 h3;have e1 : (aB O L cols).1=Lk:=by rw [<- he]
  have e2 : (aB O L cols).2=Pv:=by rw [<- he]
  refine ⟨a',c',R',ap,cp,?_,?_,?_,h3⟩
  ·rw [e2,Hlen.out]
  ·rw [e1,Hlen.out];exact h1
  ·rw [e2];exact h2
 have Hfin:=Z5 hfin;clear hfin;go_enter func184,ntmps184;go_wp2_with fail;obtain ⟨W,hW⟩ : ∃W : World,W=w.alloc (.cells #[.int .i64 P,.int .i64 m,.slice am mn cm] 24):=⟨_,rfl⟩
 rw [<- hW];have hbW : JA w W:=by rw [hW];exact aA _ _
 have x0 : ba W w.heap.size [.int .i64 P,.int .i64 m,.slice am mn cm]:=by rw [hW];exact Ja _ _ _ rfl
 have HX:=Z5 x0;have hfW:=hf.aa hbW;clear hW x0;refine (zt a n c L W (hi.aa hbW) hn HLl.out).mono ?_;rintro e w1 ⟨a1,c1,R1,rfl,hO1,hb1⟩;rw [Hlen.out] at hO1 ⊢;have hS : ∀V,JA W V->V.cell? ⟨w.heap.size,0,none⟩=some (.int .i64 P)/\V.cell? ⟨w.heap.size,1,none⟩=some (.int .i64 m)/\V.cell? ⟨w.heap.size,2,none⟩=some (.slice am mn cm)/\rT V P m am mn mod:=by intro V hV;have x1:=HX.out.aa hV;exact ⟨x1.cell 0 rfl,x1.cell 1 rfl,x1.cell 2 rfl,hfW.aa hV⟩
 have HS:=Z5 hS;have hpl1:=hO1.pl;clear hS;go_wp2_with fail;go_loopw [9,10,11] (λpv av cv wr=>∃(k : Nat) (R' : LA) (ap : OA) (cp : Nat) (Lk : LL) (Pv : LI),k<=cols/\cv = .int .i64 k/\av = .int .i64 Pv.length/\pv = .slice ap Pv.length cp /\
   Hid ((Lk,Pv)=aB O L k)/\aN wr W.heap.size a1 n c1 R' Lk/\wr.ownsRow W.heap.size 3 1 (.slice ap Pv.length cp) Pv.length (Pv.map (Value.int .i64))/\Hid (ap ≠ none->¬ bH a1 R' (ah ap)) /\
   JA W wr/\bx (ef P m) len Lk/\Pv.length<=n) (λ_ _ cv _=>cols - (intOf cv).toNat)
 case atStart=>exact ⟨0,R1,none,0,L,[],EL _,rfl,rfl,rfl,rfl,hO1,bG,λh=>absurd rfl h,hb1,HR.out,EL _⟩
 case round =>
  obtain ⟨k,R',ap,cp,Lk,Pv,hkc,rfl,rfl,rfl,hst,hOr,hop,hoi,hbr,hrw,hPn⟩:=hrel
  generalize wr=V at *
  have HLkn:=Z5 hOr.ll
  by_cases hk : k<cols
  ·have hk' : decide ((k : Int)<cols)=true:=by simp;omega
   by_cases hPl : Pv.length<n
   ·have hPl' : decide ((Pv.length : Int)<n)=true:=by simp;omega
    obtain ⟨t,ht⟩ : ∃t,Pv.length=t:=⟨_,rfl⟩
    have Ht:=Z5 ht
    rw [ht] at hPl hPn hop hPl'
    rw [ht]
    clear ht
    go_wp2_with fail
    go_loop [12] (λkv=>∃j : Nat,t<=j/\j<=n/\kv = .int .i64 j/\Hid (aM Lk k t=aM Lk k j)) (λkv=>n - (intOf kv).toNat)
    case atStart=>exact ⟨t,EF _,hPn,rfl,rfl⟩
    case round =>
     obtain ⟨j,hj1,hj2,rfl,hfr⟩:=hrel
     by_cases hjn : j<n
     ·have hLj : j<Lk.length:=by rw [HLkn.out];exact hjn
      have hrow:=hrw.row hLj
      have ci:=hOr.cell hjn
      have ri:=hOr.ints hjn
      rw [hrow.1] at ci ri
      have ck:=ri.cell k (by omega)
      have hpr:=ri.pl
      have hkl : (k : Int)<len:=by omega
      have hjn' : decide ((j : Int)<n)=true:=by simp;omega
      have hfs:=gx (c:=k) hLj
      by_cases hz : nth (af Lk j) k=0
      ·rw [EH hz] at hfs
       have hz' : (nth (af Lk j) k == 0)=true:=by simpa using hz
       have Hf : Hid (aM Lk k t=aM Lk k (j+1)):=by show _=_;rw [hfr.out,hfs]
       clear hz hfs hrow
       go_wp2_with fail
       go_round
       case rel=>exact ⟨j+1,by omega,by omega,by go_num,Hf.out⟩
       case measure=>simp [intOf] <;> omega
      ·rw [EG hz] at hfs
       have hz' : (nth (af Lk j) k == 0)=false:=by simpa using hz
       have Hf : Hid (aM Lk k t=j):=by show _=_;rw [hfr.out,hfs]
       have hjne : ((j : Int) == n)=false:=by simp;omega
       have Hz:=Z5 hz
       have Hrow:=Z5 hrow
       clear hz hfs hrow
       have ct:=hOr.cell hPl
       have fk:=hOr.frozen hjn
       have ft:=hOr.frozen hPl
       have k3 : (V.setCell ⟨ah a1,aG a1+t,none⟩ (.slice (aK R' j).1 len (aK R' j).2)).cell? ⟨ah a1,aG a1+j,none⟩=some (.slice (aK R' j).1 len (aK R' j).2):=by
        by_cases e : j=t
        ·subst e;exact EX _ _ _ ct
        ·rw [EY _ _ _ _ (by simp <;> omega)];exact ci
       have htl : t<Lk.length:=by rw [HLkn.out];exact hPl
       have hrt:=hrw.row htl
       rw [hrt.1] at ct
       have Hrt:=Z5 hrt
       clear hrt
       go_upto_region 11 with fail
       go_cut [] (λwx=>∃R2,aN wx W.heap.size a1 n c1 R2 (bm Lk t j)/\aw V wx (bH a1 R') (bH a1 R2))
       case first =>
        have hO2:=(hOr.swap hPl hjn).drew
        have hM2:=(hOr.oJ hPl hjn (.slice (aK R' j).1 (af Lk j).length (aK R' j).2) (.slice (aK R' t).1 (af Lk t).length (aK R' t).2)).drew
        rw [Hrow.out.1,Hrt.out.1] at hO2 hM2
        have HO2:=Z5 (E6 hO2 hM2)
        clear hO2 hM2
        go_region
        all_goals (
         go_wp2_with fail
         go_meet
         exact ⟨_,HO2.out.1,HO2.out.2⟩)
       obtain ⟨R2,hO2,hM2⟩:=hcut
       generalize wc=U at *
       have hbU : JA W U:=hbr.trans (hM2.below (λb' hb'=>(hOr.lt b' hb').1) hbr.size)
       have hrw1:=hrw.swap htl hLj
       have hl1 : (bm Lk t j).length=n:=by rw [dc];exact HLkn.out
       have hnz1 : nth (af (bm Lk t j) t) k ≠ 0:=by
        rw [mB _ _ _ _ htl hLj];have e : js t j t=j:=by unfold js;split <;> simp_all
        rw [e];exact Hz.out
       have HL1 : Hid (et O Lk t j k=aT O t k (bw O (bm Lk t j) t k) n):=by
        show _=_;rw [gH,HLkn.out];by_cases e : j=t
        ·rw [EH e,e,rq]
        ·rw [EG e]
       obtain ⟨L1,hL1⟩ : ∃L1,bm Lk t j=L1:=⟨_,rfl⟩
       rw [hL1] at hO2 hrw1 hl1 hnz1 HL1
       have hrow1:=hrw1.row (i:=t) (by omega)
       have tr:=hO2.cell hPl
       have ti:=hO2.ints hPl
       rw [hrow1.1] at tr ti
       have tc:=ti.cell k (by omega)
       have tp:=ti.pl
       have hel : ef P m (nth (af L1 t) k):=hrow1.2 _ (aO (by rw [hrow1.1];omega))
       have hiff:=Hinv.out _ hel hnz1
       have hOinv : O.inv (nth (af L1 t) k)=fE P m mod (nth (af L1 t) k):=by rw [<- HO.out];rfl
       have HOinv:=Z5 hOinv
       have Hiff:=Z5 hiff
       have Hrow1:=Z5 hrow1
       have Hl1:=Z5 hl1
       have Hnz1:=Z5 hnz1
       have hopU:=hM2.own hop hoi.out
       have hoiU : ap ≠ none->¬ bH a1 R2 (ah ap):=λhn=>hM2.not (aU hop hn).2 (hoi.out hn)
       have HoiU:=Z5 hoiU
       obtain ⟨d0,d1,d2,hfU⟩:=HS.out U hbU
       have hBU:=hbU.size
       clear hL1 hrow1 hl1 hnz1 hiff hOinv hoiU ci ri ck hpr ct fk ft k3 hjn' hz' hop hM2 hOr
       go_upto_if 69 with fail
       go_cut [] (λwx=>∃R3,aN wx W.heap.size a1 n c1 R3 (bw O L1 t k)/\aw U wx (bH a1 R2) (bH a1 R3))
       case first =>
        by_cases hp1 : nth (af L1 t) k=1
        ·have hp1' : (nth (af L1 t) k != 1)=false:=by simp [hp1]
         have Hn : Hid (bw O L1 t k=L1):=by show _=_;rw [bw,EH (by rw [HOinv.out];exact Hiff.out.2 hp1)]
         clear hp1
         go_wp2_with fail
         go_meet
         exact ⟨R2,by rw [Hn.out];exact hO2,Ji _ _⟩
        ·have hp1' : (nth (af L1 t) k != 1)=true:=by simpa using hp1
         obtain ⟨N,hN⟩ : ∃N,(af L1 t).map (mulR P m mod (fE P m mod (nth (af L1 t) k)))=N:=⟨_,rfl⟩
         have Hn : Hid (bw O L1 t k=L1.set t N):=by show _=_;rw [bw,EG (by rw [HOinv.out];exact λh=>hp1 (Hiff.out.1 h)),HOinv.out,<- hN,<- HO.out];rfl
         have hQ : ∀V,JA U V->V.cell? ⟨w.heap.size,0,none⟩=some (.int .i64 P)/\V.cell? ⟨w.heap.size,1,none⟩=some (.int .i64 m)/\V.cell? ⟨w.heap.size,2,none⟩=some (.slice am mn cm) /\
           V.cell? ⟨ah a1,aG a1+t,none⟩=some (.slice (aK R2 t).1 len (aK R2 t).2)/\V.cell? ⟨ah (aK R2 t).1,aG (aK R2 t).1+k,none⟩=some (.int .i64 (nth (af L1 t) k))/\V.frozen? ⟨ah a1,aG a1+t,none⟩=false/\JA U V :=
          λV hV=>⟨aj hV d0,aj hV d1,aj hV d2,aj hV tr,aj hV tc,(hO2.aa hV).frozen hPl,hV⟩
         have HQ:=Z5 hQ
         have Hin : Hid (∀V,JA U V->Calls prog 240 #[.agg #[.int .i64 P,.int .i64 m,.slice am mn cm],.int .i64 (nth (af L1 t) k)] V λe w'=>e = .returned (.int .i64 (fE P m mod (nth (af L1 t) k)))/\JA V w') :=
          λV hV=>zS P m am mn cm mod _ V (hfU.aa hV) hel
         have Hsc : Hid (∀V,JA U V->Calls prog 239 #[.agg #[.int .i64 P,.int .i64 m,.slice am mn cm],.int .i64 (fE P m mod (nth (af L1 t) k)),.slice (aK R2 t).1 len (aK R2 t).2] V (cB V N)) :=
          λV hV=>by rw [<- hN];exact vR P m am mn cm mod _ _ len _ _ V (hfU.aa hV) (xq hf.rf mod _) (ti.aa hV) Hrow1.out.2 hlen
         have HF : Hid (∀V5 a5 c5,V5.ownsRow U.heap.size 3 1 (.slice a5 N.length c5) N.length (N.map (Value.int .i64))->JA U V5 ->
           ∃R3,aN (V5.setCell ⟨ah a1,aG a1+t,none⟩ (.slice a5 N.length c5)) W.heap.size a1 n c1 R3 (bw O L1 t k)/\aw U (V5.setCell ⟨ah a1,aG a1+t,none⟩ (.slice a5 N.length c5)) (bH a1 R2) (bH a1 R3)) :=
          λV5 a5 c5 h1 h2=>by rw [Hn.out];exact hO2.newRow hPl h2 hBU h1
         clear hp1 hQ hN
         go_wp2_with fail
         obtain ⟨p,hp⟩ : ∃p,nth (af L1 t) k=p:=⟨_,rfl⟩
         rw [hp] at HQ Hin Hsc
         obtain ⟨iv,hiv⟩ : ∃iv,fE P m mod p=iv:=⟨_,rfl⟩
         rw [hiv] at Hin Hsc
         rw [hp] at tc
         clear hp hiv
         have hap : ∀(V : World) (v : Value),(V.setCell ⟨ah a1,aG a1+t,none⟩ v).cell? ⟨ah (aK R2 t).1,aG (aK R2 t).1+k,none⟩=V.cell? ⟨ah (aK R2 t).1,aG (aK R2 t).1+k,none⟩:=λV v=>by
          refine EY _ _ _ _ λe=>?_;have h0 : (aK R2 t).1 ≠ none:=λh=>by have:=tp (by omega);rw [h] at this;cases this
          rcases hO2.mM t hPl with h1 | h1
          ·exact h0 h1
          ·have h2:=congrArg Addr.block e;simp at h2;first | exact h1 h2 | exact h1 h2.symm
         have Hap:=Z5 hap
         have hBa : U.heap.size<=U.heap.size:=EF _
         have hBlk : W.heap.size<=ah a1:=(hO2.lt _ (.inl ⟨hO2.ne (by omega),rfl⟩)).1
         have HbU:=Z5 hbU
         have HX2 : Hid (∀V,JA W V->V.cell? ⟨w.heap.size,0,none⟩=some (.int .i64 P)/\V.cell? ⟨w.heap.size,1,none⟩=some (.int .i64 m)/\V.cell? ⟨w.heap.size,2,none⟩=some (.slice am mn cm)):=λV hV=>⟨(HS.out V hV).1,(HS.out V hV).2.1,(HS.out V hV).2.2.1⟩
         clear hap
         refine mD (λV=>V.cell? ⟨w.heap.size,0,none⟩=some (.int .i64 P)/\V.cell? ⟨w.heap.size,1,none⟩=some (.int .i64 m)/\V.cell? ⟨w.heap.size,2,none⟩=some (.slice am mn cm)/\V.cell? ⟨ah a1,aG a1+t,none⟩=some (.slice (aK R2 t).1 len (aK R2 t).2)/\V.cell? ⟨ah (aK R2 t).1,aG (aK R2 t).1+k,none⟩=some (.int .i64 p)) 18 (by kernel_rfl) (by exact ⟨d0,d1,d2,tr,tc⟩) λhI=>?_
         refine aI (i:=0) (v:=?_) rfl (by decide +kernel) (by decide +kernel) (by decide +kernel) (λ_ _ _ h=>h) (Fy ⟨by rfl,?_⟩) hI ?_
         rotate_left
         ·intro V hSV;(try dsimp only at hSV);obtain ⟨e0,e1,e2,e3,e4⟩:=hSV;go_simp;(try with_reducible rfl)
         clear hI;intro hI;(try simp only [Act.put,EK,EN,EO] at hI ⊢)
         refine aI (i:=1) (v:=?_) rfl (by decide +kernel) (by decide +kernel) (by decide +kernel) (λ_ _ _ h=>h) (Fy ⟨by rfl,?_⟩) hI ?_
         rotate_left
         ·intro V hSV;(try dsimp only at hSV);obtain ⟨e0,e1,e2,e3,e4⟩:=hSV;go_simp;(try with_reducible rfl)
         clear hI;intro hI;(try simp only [Act.put,EK,EN,EO] at hI ⊢)
         refine aI (i:=2) (v:=?_) rfl (by decide +kernel) (by decide +kernel) (by decide +kernel) (λ_ _ _ h=>h) (Fy ⟨by rfl,?_⟩) hI ?_
         rotate_left
         ·intro V hSV;(try dsimp only at hSV);obtain ⟨e0,e1,e2,e3,e4⟩:=hSV;go_simp;(try with_reducible rfl)
         clear hI;intro hI;(try simp only [Act.put,EK,EN,EO] at hI ⊢)
         refine aI (i:=3) (v:=?_) rfl (by decide +kernel) (by decide +kernel) (by decide +kernel) (λ_ _ _ h=>h) (Fy ⟨by rfl,?_⟩) hI ?_
         rotate_left
         ·intro V hSV;(try dsimp only at hSV);obtain ⟨e0,e1,e2,e3,e4⟩:=hSV;go_simp;(try with_reducible rfl)
         clear hI;intro hI;(try simp only [Act.put,EK,EN,EO] at hI ⊢)
         refine aI (i:=4) (v:=?_) rfl (by decide +kernel) (by decide +kernel) (by decide +kernel) (λ_ _ _ h=>h) (Fy ⟨by rfl,?_⟩) hI ?_
         rotate_left
         ·intro V hSV;(try dsimp only at hSV);obtain ⟨e0,e1,e2,e3,e4⟩:=hSV;go_simp;(try with_reducible rfl)
         clear hI;intro hI;(try simp only [Act.put,EK,EN,EO] at hI ⊢)
         refine aI (i:=5) (v:=?_) rfl (by decide +kernel) (by decide +kernel) (by decide +kernel) (λ_ _ _ h=>h) (Fy ⟨by rfl,?_⟩) hI ?_
         rotate_left
         ·intro V hSV;(try dsimp only at hSV);obtain ⟨e0,e1,e2,e3,e4⟩:=hSV;go_simp;(try with_reducible rfl)
         clear hI;intro hI;(try simp only [Act.put,EK,EN,EO] at hI ⊢)
         refine aI (i:=6) (v:=?_) rfl (by decide +kernel) (by decide +kernel) (by decide +kernel) (λ_ _ _ h=>h) (Fy ⟨by rfl,?_⟩) hI ?_
         rotate_left
         ·intro V hSV;(try dsimp only at hSV);obtain ⟨e0,e1,e2,e3,e4⟩:=hSV;go_simp;(try with_reducible rfl)
         clear hI;intro hI;(try simp only [Act.put,EK,EN,EO] at hI ⊢)
         refine aI (i:=7) (v:=?_) rfl (by decide +kernel) (by decide +kernel) (by decide +kernel) (λ_ _ _ h=>h) (Fy ⟨by rfl,?_⟩) hI ?_
         rotate_left
         ·intro V hSV;(try dsimp only at hSV);obtain ⟨e0,e1,e2,e3,e4⟩:=hSV;go_simp;(try with_reducible rfl)
         clear hI;intro hI;(try simp only [Act.put,EK,EN,EO] at hI ⊢)
         refine aI (i:=8) (v:=?_) rfl (by decide +kernel) (by decide +kernel) (by decide +kernel) (λ_ _ _ h=>h) (Fy ⟨by rfl,?_⟩) hI ?_
         rotate_left
         ·intro V hSV;(try dsimp only at hSV);obtain ⟨e0,e1,e2,e3,e4⟩:=hSV;go_simp;(try with_reducible rfl)
         clear hI;intro hI;(try simp only [Act.put,EK,EN,EO] at hI ⊢)
         refine aI (i:=9) (v:=?_) rfl (by decide +kernel) (by decide +kernel) (by decide +kernel) (λ_ _ _ h=>h) (Fy ⟨by rfl,?_⟩) hI ?_
         rotate_left
         ·intro V hSV;(try dsimp only at hSV);obtain ⟨e0,e1,e2,e3,e4⟩:=hSV;go_simp;(try with_reducible rfl)
         clear hI;intro hI;(try simp only [Act.put,EK,EN,EO] at hI ⊢)
         refine aI (i:=10) (v:=?_) rfl (by decide +kernel) (by decide +kernel) (by decide +kernel) (λ_ _ _ h=>h) (Fy ⟨by rfl,?_⟩) hI ?_
         rotate_left
         ·intro V hSV;(try dsimp only at hSV);obtain ⟨e0,e1,e2,e3,e4⟩:=hSV;go_simp;(try with_reducible rfl)
         clear hI;intro hI;(try simp only [Act.put,EK,EN,EO] at hI ⊢)
         refine aI (i:=12) (v:=?_) rfl (by decide +kernel) (by decide +kernel) (by decide +kernel) (λ_ _ _ h=>h) (Fy ⟨by rfl,?_⟩) hI ?_
         rotate_left
         ·intro V hSV;(try dsimp only at hSV);obtain ⟨e0,e1,e2,e3,e4⟩:=hSV;go_simp;(try with_reducible rfl)
         clear hI;intro hI;(try simp only [Act.put,EK,EN,EO] at hI ⊢)
         refine aI (i:=13) (v:=?_) rfl (by decide +kernel) (by decide +kernel) (by decide +kernel) (λ_ _ _ h=>h) (Fy ⟨by rfl,?_⟩) hI ?_
         rotate_left
         ·intro V hSV;(try dsimp only at hSV);obtain ⟨e0,e1,e2,e3,e4⟩:=hSV;go_simp;(try with_reducible rfl)
         clear hI;intro hI;(try simp only [Act.put,EK,EN,EO] at hI ⊢)
         refine aI (i:=14) (v:=?_) rfl (by decide +kernel) (by decide +kernel) (by decide +kernel) (λ_ _ _ h=>h) (Fy ⟨by rfl,?_⟩) hI ?_
         rotate_left
         ·intro V hSV;(try dsimp only at hSV);obtain ⟨e0,e1,e2,e3,e4⟩:=hSV;go_simp;(try with_reducible rfl)
         clear hI;intro hI;(try simp only [Act.put,EK,EN,EO] at hI ⊢)
         refine aI (i:=15) (v:=?_) rfl (by decide +kernel) (by decide +kernel) (by decide +kernel) (λ_ _ _ h=>h) (Fy ⟨by rfl,?_⟩) hI ?_
         rotate_left
         ·intro V hSV;(try dsimp only at hSV);obtain ⟨e0,e1,e2,e3,e4⟩:=hSV;go_simp;(try with_reducible rfl)
         clear hI;intro hI;(try simp only [Act.put,EK,EN,EO] at hI ⊢)
         refine ka (i:=11) (by decide +kernel) (by omega) hI.1 rfl (λK hK=>?_)
         go_simp
         go_at_call 240;((with_reducible refine (Hin.out _ (EI _ _).drew).mono ?_);rintro e w4 ⟨rfl,hb4⟩;obtain ⟨q0,q1,q2,q3,q4,q5,q6⟩:=HQ.out w4 (I8 (EI _ _).drew hb4))
         refine hK.out _ _ (by exact ⟨q0,q1,q2,q3,q4⟩) (λhI=>?_)
         clear hK K
         refine ka (i:=16) (by decide +kernel) (by omega) hI.1 rfl (λK hK=>?_)
         go_simp
         go_at_call 239;((with_reducible refine (Hsc.out _ q6).mono ?_);rintro e w5 ⟨a5,c5,rfl,hown5,hb5⟩;obtain ⟨s0,s1,s2,s3,s4,s5,s6⟩:=HQ.out w5 (I8 q6 hb5))
         refine hK.out _ _ (by exact ⟨s0,s1,s2,s3,s4⟩) (λhI=>?_)
         clear hK K
         refine aI (i:=17) (v:=?_) rfl (by decide +kernel) (by decide +kernel) (by decide +kernel) (λ_ _ _ h=>h) (Fy ⟨by rfl,?_⟩) hI ?_
         rotate_left
         ·intro V hSV;(try dsimp only at hSV);obtain ⟨e0,e1,e2,e3,e4⟩:=hSV;go_simp;(try with_reducible rfl)
         clear hI;intro hI;(try simp only [Act.put,EK,EN,EO] at hI ⊢)
         refine oD (i:=18) (by decide +kernel) (by omega) (by decide +kernel) rfl (λK hK=>?_)
         go_simp
         refine hK.out _ _ ?_
         clear hK K
         have Ho5:=Z5 (aW hown5 q6.size)
         clear hown5
         go_wp2_with fail
         go_meet
         exact HF.out _ _ _ Ho5.out s6
       obtain ⟨R3,hO3,hM3⟩:=hcut
       generalize wc=T at *
       have hbT : JA W T:=hbU.trans (hM3.below (λb' hb'=>(hO2.lt b' hb').1) hbU.size)
       have hrw2:=hrw1.norm Hcl.out (t:=t) (c:=k) (by rw [Hl1.out];exact hPl) (by omega) Hnz1.out
       have hl2 : (bw O L1 t k).length=n:=by rw [cP];exact Hl1.out
       have Hl2:=Z5 hl2
       have hopT:=hM3.own hopU HoiU.out
       have hoiT : ap ≠ none->¬ bH a1 R3 (ah ap):=λhn=>hM3.not (aU hopU hn).2 (HoiU.out hn)
       have HoiT:=Z5 hoiT
       clear hl2 hoiT tr ti tc tp hel d0 d1 d2 hfU hopU hM3
       obtain ⟨L2,hL2⟩ : ∃L2,bw O L1 t k=L2:=⟨_,rfl⟩
       rw [hL2] at hO3 hrw2 Hl2 HL1
       clear hL2
       go_wp2_with fail
       go_loopw [13] (λiv wx=>∃(i : Nat) (R4 : LA),i<=n/\iv = .int .i64 i/\aN wx W.heap.size a1 n c1 R4 (aT O t k L2 i)/\aw T wx (bH a1 R3) (bH a1 R4)) (λiv _=>n - (intOf iv).toNat)
       case atStart=>exact ⟨0,R3,EL _,rfl,hO3,Ji _ _⟩
       case round =>
        obtain ⟨i,R4,hi,rfl,hOi,hMi⟩:=hrel
        generalize wr=X at *
        have hbX : JA W X:=hbT.trans (hMi.below (λb' hb'=>(hO3.lt b' hb').1) hbT.size)
        obtain ⟨d0,d1,d2,hfX⟩:=HS.out X hbX
        by_cases hin : i<n
        ·have hrwi:=Jm Hcl.out hrw2 (t:=t) (c:=k) (by rw [Hl2.out];exact hPl) (by omega) i (by rw [Hl2.out];exact hi)
         have hli : (aT O t k L2 i).length=n:=by rw [cR];exact Hl2.out
         have hstep : aT O t k L2 (i+1)=if i=t then aT O t k L2 i else (aT O t k L2 i).set i (bW O (af (aT O t k L2 i) t) k (af (aT O t k L2 i) i)):=rfl
         have Hstep:=Z5 hstep
         obtain ⟨Li,hLi⟩ : ∃Li,aT O t k L2 i=Li:=⟨_,rfl⟩
         rw [hLi] at hrwi hli Hstep hOi
         have hri:=hrwi.row (i:=i) (by omega)
         have hrt:=hrwi.row (i:=t) (by omega)
         have ci:=hOi.cell hin
         have ct:=hOi.cell hPl
         have ii:=hOi.ints hin
         have it:=hOi.ints hPl
         rw [hri.1] at ci ii
         rw [hrt.1] at ct it
         have ck:=ii.cell k (by omega)
         have hpi:=ii.pl
         have hxel : ef P m (nth (af Li i) k):=hri.2 _ (aO (by rw [hri.1];omega))
         have Hri:=Z5 hri
         have Hrt:=Z5 hrt
         clear hri hrt hli hstep hLi
         by_cases hit : i=t
         ·have hit' : ((i : Int) != t)=false:=by simp [hit]
          have Hn : Hid (aT O t k L2 (i+1)=Li):=by show _=_;rw [Hstep.out,EH hit]
          clear hit
          go_wp2_with fail
          go_roundw
          case rel=>exact ⟨i+1,R4,by omega,by go_num,by rw [Hn.out];exact hOi,hMi⟩
          case measure=>simp [intOf] <;> omega
         ·have hit' : ((i : Int) != t)=true:=by simp;omega
          by_cases hx0 : nth (af Li i) k=0
          ·have hx0' : (nth (af Li i) k != 0)=false:=by simp [hx0]
           have Hn : Hid (aT O t k L2 (i+1)=Li):=by show _=_;rw [Hstep.out,EG hit,bW,EH hx0,jH]
           clear hit hx0
           go_wp2_with fail
           go_roundw
           case rel=>exact ⟨i+1,R4,by omega,by go_num,by rw [Hn.out];exact hOi,hMi⟩
           case measure=>simp [intOf] <;> omega
          ·have hx0' : (nth (af Li i) k != 0)=true:=by simpa using hx0
           obtain ⟨N,hN⟩ : ∃N,cw O (af Li i) (eQ P m (nth (af Li i) k)) (af Li t)=N:=⟨_,rfl⟩
           have Hn : Hid (aT O t k L2 (i+1)=Li.set i N):=by show _=_;rw [Hstep.out,EG hit,bW,EG hx0,<- hN,<- HO.out];rfl
           have hQ : ∀V,JA X V->V.cell? ⟨w.heap.size,0,none⟩=some (.int .i64 P)/\V.cell? ⟨w.heap.size,1,none⟩=some (.int .i64 m)/\V.cell? ⟨w.heap.size,2,none⟩=some (.slice am mn cm) /\
             V.cell? ⟨ah a1,aG a1+i,none⟩=some (.slice (aK R4 i).1 len (aK R4 i).2)/\V.cell? ⟨ah a1,aG a1+t,none⟩=some (.slice (aK R4 t).1 len (aK R4 t).2)/\V.cell? ⟨ah (aK R4 i).1,aG (aK R4 i).1+k,none⟩=some (.int .i64 (nth (af Li i) k))/\V.frozen? ⟨ah a1,aG a1+i,none⟩=false/\JA X V :=
            λV hV=>⟨aj hV d0,aj hV d1,aj hV d2,aj hV ci,aj hV ct,aj hV ck,(hOi.aa hV).frozen hin,hV⟩
           have HQ:=Z5 hQ
           have Hng : Hid (∀V,JA X V->Calls prog 143 #[.agg #[.int .i64 P,.int .i64 m,.slice am mn cm],.int .i64 (nth (af Li i) k)] V λe w'=>e = .returned (.int .i64 (eQ P m (nth (af Li i) k)))/\JA V w') :=
            λV hV=>AR P m am mn cm _ V hf.rf (hf.rf.gZ hxel)
           have Had : Hid (∀V,JA X V->Calls prog 241 #[.agg #[.int .i64 P,.int .i64 m,.slice am mn cm],.slice (aK R4 i).1 len (aK R4 i).2,.int .i64 (eQ P m (nth (af Li i) k)),.slice (aK R4 t).1 len (aK R4 t).2] V (cB V N)) :=
            λV hV=>by rw [<- hN,<- HO.out];exact wD P m am mn cm mod _ len _ _ _ _ _ _ V (hfX.aa hV) (su hf.rf.res _) (ii.aa hV) (it.aa hV) Hri.out.2 Hrt.out.2 hlen
           have HF : Hid (∀V5 a5 c5,V5.ownsRow X.heap.size 3 1 (.slice a5 N.length c5) N.length (N.map (Value.int .i64))->JA X V5 ->
             ∃R5,aN (V5.setCell ⟨ah a1,aG a1+i,none⟩ (.slice a5 N.length c5)) W.heap.size a1 n c1 R5 (aT O t k L2 (i+1))/\aw X (V5.setCell ⟨ah a1,aG a1+i,none⟩ (.slice a5 N.length c5)) (bH a1 R4) (bH a1 R5)) :=
            λV5 a5 c5 h1 h2=>by rw [Hn.out];exact hOi.newRow hin h2 hbX.size h1
           have Hit:=Z5 hit
           clear hit hx0 hQ hN Hn
           obtain ⟨p,hp⟩ : ∃p,nth (af Li i) k=p:=⟨_,rfl⟩
           rw [hp] at HQ Hng Had ck hx0'
           obtain ⟨iv,hiv⟩ : ∃iv,eQ P m p=iv:=⟨_,rfl⟩
           rw [hiv] at Hng Had
           clear hp hiv
           have hap : ∀(V : World) (v : Value),(V.setCell ⟨ah a1,aG a1+i,none⟩ v).cell? ⟨ah (aK R4 i).1,aG (aK R4 i).1+k,none⟩=V.cell? ⟨ah (aK R4 i).1,aG (aK R4 i).1+k,none⟩ /\
             (V.setCell ⟨ah a1,aG a1+i,none⟩ v).cell? ⟨ah a1,aG a1+t,none⟩=V.cell? ⟨ah a1,aG a1+t,none⟩:=λV v=>by
            refine ⟨EY _ _ _ _ λe=>?_,EY _ _ _ _ (by have:=Hit.out;simp <;> omega)⟩;have h0 : (aK R4 i).1 ≠ none:=λh=>by have:=hpi (by omega);rw [h] at this;cases this
            rcases hOi.mM i hin with h1 | h1
            ·exact h0 h1
            ·have h2:=congrArg Addr.block e;simp at h2;first | exact h1 h2 | exact h1 h2.symm
           have Hap:=Z5 hap
           have hBlk : W.heap.size<=ah a1:=(hOi.lt _ (.inl ⟨hOi.ne (by omega),rfl⟩)).1
           have HbX:=Z5 hbX
           have HX2 : Hid (∀V,JA W V->V.cell? ⟨w.heap.size,0,none⟩=some (.int .i64 P)/\V.cell? ⟨w.heap.size,1,none⟩=some (.int .i64 m)/\V.cell? ⟨w.heap.size,2,none⟩=some (.slice am mn cm)):=λV hV=>⟨(HS.out V hV).1,(HS.out V hV).2.1,(HS.out V hV).2.2.1⟩
           clear hap
           go_wp2_with fail
           refine mD (λV=>V.cell? ⟨w.heap.size,0,none⟩=some (.int .i64 P)/\V.cell? ⟨w.heap.size,1,none⟩=some (.int .i64 m)/\V.cell? ⟨w.heap.size,2,none⟩=some (.slice am mn cm)/\V.cell? ⟨ah a1,aG a1+i,none⟩=some (.slice (aK R4 i).1 len (aK R4 i).2)/\V.cell? ⟨ah a1,aG a1+t,none⟩=some (.slice (aK R4 t).1 len (aK R4 t).2)/\V.cell? ⟨ah (aK R4 i).1,aG (aK R4 i).1+k,none⟩=some (.int .i64 p)) 22 (by kernel_rfl) (by exact ⟨d0,d1,d2,ci,ct,ck⟩) λhI=>?_
           refine aI (i:=0) (v:=?_) rfl (by decide +kernel) (by decide +kernel) (by decide +kernel) (λ_ _ _ h=>h) (Fy ⟨by rfl,?_⟩) hI ?_
           rotate_left
           ·intro V hSV;(try dsimp only at hSV);obtain ⟨e0,e1,e2,e3,e4,e5⟩:=hSV;go_simp;(try with_reducible rfl)
           clear hI;intro hI;(try simp only [Act.put,EK,EN,EO] at hI ⊢)
           refine aI (i:=1) (v:=?_) rfl (by decide +kernel) (by decide +kernel) (by decide +kernel) (λ_ _ _ h=>h) (Fy ⟨by rfl,?_⟩) hI ?_
           rotate_left
           ·intro V hSV;(try dsimp only at hSV);obtain ⟨e0,e1,e2,e3,e4,e5⟩:=hSV;go_simp;(try with_reducible rfl)
           clear hI;intro hI;(try simp only [Act.put,EK,EN,EO] at hI ⊢)
           refine aI (i:=2) (v:=?_) rfl (by decide +kernel) (by decide +kernel) (by decide +kernel) (λ_ _ _ h=>h) (Fy ⟨by rfl,?_⟩) hI ?_
           rotate_left
           ·intro V hSV;(try dsimp only at hSV);obtain ⟨e0,e1,e2,e3,e4,e5⟩:=hSV;go_simp;(try with_reducible rfl)
           clear hI;intro hI;(try simp only [Act.put,EK,EN,EO] at hI ⊢)
           refine aI (i:=3) (v:=?_) rfl (by decide +kernel) (by decide +kernel) (by decide +kernel) (λ_ _ _ h=>h) (Fy ⟨by rfl,?_⟩) hI ?_
           rotate_left
           ·intro V hSV;(try dsimp only at hSV);obtain ⟨e0,e1,e2,e3,e4,e5⟩:=hSV;go_simp;(try with_reducible rfl)
           clear hI;intro hI;(try simp only [Act.put,EK,EN,EO] at hI ⊢)
           refine aI (i:=4) (v:=?_) rfl (by decide +kernel) (by decide +kernel) (by decide +kernel) (λ_ _ _ h=>h) (Fy ⟨by rfl,?_⟩) hI ?_
           rotate_left
           ·intro V hSV;(try dsimp only at hSV);obtain ⟨e0,e1,e2,e3,e4,e5⟩:=hSV;go_simp;(try with_reducible rfl)
           clear hI;intro hI;(try simp only [Act.put,EK,EN,EO] at hI ⊢)
           refine aI (i:=5) (v:=?_) rfl (by decide +kernel) (by decide +kernel) (by decide +kernel) (λ_ _ _ h=>h) (Fy ⟨by rfl,?_⟩) hI ?_
           rotate_left
           ·intro V hSV;(try dsimp only at hSV);obtain ⟨e0,e1,e2,e3,e4,e5⟩:=hSV;go_simp;(try with_reducible rfl)
           clear hI;intro hI;(try simp only [Act.put,EK,EN,EO] at hI ⊢)
           refine aI (i:=6) (v:=?_) rfl (by decide +kernel) (by decide +kernel) (by decide +kernel) (λ_ _ _ h=>h) (Fy ⟨by rfl,?_⟩) hI ?_
           rotate_left
           ·intro V hSV;(try dsimp only at hSV);obtain ⟨e0,e1,e2,e3,e4,e5⟩:=hSV;go_simp;(try with_reducible rfl)
           clear hI;intro hI;(try simp only [Act.put,EK,EN,EO] at hI ⊢)
           refine aI (i:=7) (v:=?_) rfl (by decide +kernel) (by decide +kernel) (by decide +kernel) (λ_ _ _ h=>h) (Fy ⟨by rfl,?_⟩) hI ?_
           rotate_left
           ·intro V hSV;(try dsimp only at hSV);obtain ⟨e0,e1,e2,e3,e4,e5⟩:=hSV;go_simp;(try with_reducible rfl)
           clear hI;intro hI;(try simp only [Act.put,EK,EN,EO] at hI ⊢)
           refine aI (i:=8) (v:=?_) rfl (by decide +kernel) (by decide +kernel) (by decide +kernel) (λ_ _ _ h=>h) (Fy ⟨by rfl,?_⟩) hI ?_
           rotate_left
           ·intro V hSV;(try dsimp only at hSV);obtain ⟨e0,e1,e2,e3,e4,e5⟩:=hSV;go_simp;(try with_reducible rfl)
           clear hI;intro hI;(try simp only [Act.put,EK,EN,EO] at hI ⊢)
           refine aI (i:=9) (v:=?_) rfl (by decide +kernel) (by decide +kernel) (by decide +kernel) (λ_ _ _ h=>h) (Fy ⟨by rfl,?_⟩) hI ?_
           rotate_left
           ·intro V hSV;(try dsimp only at hSV);obtain ⟨e0,e1,e2,e3,e4,e5⟩:=hSV;go_simp;(try with_reducible rfl)
           clear hI;intro hI;(try simp only [Act.put,EK,EN,EO] at hI ⊢)
           refine aI (i:=10) (v:=?_) rfl (by decide +kernel) (by decide +kernel) (by decide +kernel) (λ_ _ _ h=>h) (Fy ⟨by rfl,?_⟩) hI ?_
           rotate_left
           ·intro V hSV;(try dsimp only at hSV);obtain ⟨e0,e1,e2,e3,e4,e5⟩:=hSV;go_simp;(try with_reducible rfl)
           clear hI;intro hI;(try simp only [Act.put,EK,EN,EO] at hI ⊢)
           refine aI (i:=11) (v:=?_) rfl (by decide +kernel) (by decide +kernel) (by decide +kernel) (λ_ _ _ h=>h) (Fy ⟨by rfl,?_⟩) hI ?_
           rotate_left
           ·intro V hSV;(try dsimp only at hSV);obtain ⟨e0,e1,e2,e3,e4,e5⟩:=hSV;go_simp;(try with_reducible rfl)
           clear hI;intro hI;(try simp only [Act.put,EK,EN,EO] at hI ⊢)
           refine aI (i:=12) (v:=?_) rfl (by decide +kernel) (by decide +kernel) (by decide +kernel) (λ_ _ _ h=>h) (Fy ⟨by rfl,?_⟩) hI ?_
           rotate_left
           ·intro V hSV;(try dsimp only at hSV);obtain ⟨e0,e1,e2,e3,e4,e5⟩:=hSV;go_simp;(try with_reducible rfl)
           clear hI;intro hI;(try simp only [Act.put,EK,EN,EO] at hI ⊢)
           refine aI (i:=13) (v:=?_) rfl (by decide +kernel) (by decide +kernel) (by decide +kernel) (λ_ _ _ h=>h) (Fy ⟨by rfl,?_⟩) hI ?_
           rotate_left
           ·intro V hSV;(try dsimp only at hSV);obtain ⟨e0,e1,e2,e3,e4,e5⟩:=hSV;go_simp;(try with_reducible rfl)
           clear hI;intro hI;(try simp only [Act.put,EK,EN,EO] at hI ⊢)
           refine aI (i:=14) (v:=?_) rfl (by decide +kernel) (by decide +kernel) (by decide +kernel) (λ_ _ _ h=>h) (Fy ⟨by rfl,?_⟩) hI ?_
           rotate_left
           ·intro V hSV;(try dsimp only at hSV);obtain ⟨e0,e1,e2,e3,e4,e5⟩:=hSV;go_simp;(try with_reducible rfl)
           clear hI;intro hI;(try simp only [Act.put,EK,EN,EO] at hI ⊢)
           refine aI (i:=16) (v:=?_) rfl (by decide +kernel) (by decide +kernel) (by decide +kernel) (λ_ _ _ h=>h) (Fy ⟨by rfl,?_⟩) hI ?_
           rotate_left
           ·intro V hSV;(try dsimp only at hSV);obtain ⟨e0,e1,e2,e3,e4,e5⟩:=hSV;go_simp;(try with_reducible rfl)
           clear hI;intro hI;(try simp only [Act.put,EK,EN,EO] at hI ⊢)
           refine aI (i:=17) (v:=?_) rfl (by decide +kernel) (by decide +kernel) (by decide +kernel) (λ_ _ _ h=>h) (Fy ⟨by rfl,?_⟩) hI ?_
           rotate_left
           ·intro V hSV;(try dsimp only at hSV);obtain ⟨e0,e1,e2,e3,e4,e5⟩:=hSV;go_simp;(try with_reducible rfl)
           clear hI;intro hI;(try simp only [Act.put,EK,EN,EO] at hI ⊢)
           refine aI (i:=18) (v:=?_) rfl (by decide +kernel) (by decide +kernel) (by decide +kernel) (λ_ _ _ h=>h) (Fy ⟨by rfl,?_⟩) hI ?_
           rotate_left
           ·intro V hSV;(try dsimp only at hSV);obtain ⟨e0,e1,e2,e3,e4,e5⟩:=hSV;go_simp;(try with_reducible rfl)
           clear hI;intro hI;(try simp only [Act.put,EK,EN,EO] at hI ⊢)
           refine aI (i:=19) (v:=?_) rfl (by decide +kernel) (by decide +kernel) (by decide +kernel) (λ_ _ _ h=>h) (Fy ⟨by rfl,?_⟩) hI ?_
           rotate_left
           ·intro V hSV;(try dsimp only at hSV);obtain ⟨e0,e1,e2,e3,e4,e5⟩:=hSV;go_simp;(try with_reducible rfl)
           clear hI;intro hI;(try simp only [Act.put,EK,EN,EO] at hI ⊢)
           refine ka (i:=15) (by decide +kernel) (by omega) hI.1 rfl (λK hK=>?_)
           go_simp
           go_at_call 143;((with_reducible refine (Hng.out _ (EI _ _).drew).mono ?_);rintro e w4 ⟨rfl,hb4⟩;obtain ⟨q0,q1,q2,q3,q4,q5,q7,q6⟩:=HQ.out w4 (I8 (EI _ _).drew hb4))
           refine hK.out _ _ (by exact ⟨q0,q1,q2,q3,q4,q5⟩) (λhI=>?_)
           clear hK K
           refine ka (i:=20) (by decide +kernel) (by omega) hI.1 rfl (λK hK=>?_)
           go_simp
           go_at_call 241;((with_reducible refine (Had.out _ q6).mono ?_);rintro e w5 ⟨a5,c5,rfl,hown5,hb5⟩;obtain ⟨s0,s1,s2,s3,s4,s5,s7,s6⟩:=HQ.out w5 (I8 q6 hb5))
           refine hK.out _ _ (by exact ⟨s0,s1,s2,s3,s4,s5⟩) (λhI=>?_)
           clear hK K
           refine aI (i:=21) (v:=?_) rfl (by decide +kernel) (by decide +kernel) (by decide +kernel) (λ_ _ _ h=>h) (Fy ⟨by rfl,?_⟩) hI ?_
           rotate_left
           ·intro V hSV;(try dsimp only at hSV);obtain ⟨e0,e1,e2,e3,e4,e5⟩:=hSV;go_simp;(try with_reducible rfl)
           clear hI;intro hI;(try simp only [Act.put,EK,EN,EO] at hI ⊢)
           refine oD (i:=22) (by decide +kernel) (by omega) (by decide +kernel) rfl (λK hK=>?_)
           go_simp
           refine hK.out _ _ ?_
           clear hK K
           have Ho5:=Z5 (aW hown5 q6.size)
           have Hs6:=Z5 s6
           clear hown5 HQ Hng Had q0 q1 q2 q3 q4 q5 q6 q7 s0 s1 s2 s3 s4 s5 s6 s7
           go_wp2_with fail
           go_roundw
           case rel =>
            obtain ⟨R5,hO5,hM5⟩:=HF.out _ _ _ Ho5.out Hs6.out
            exact ⟨i+1,R5,by omega,by go_num,hO5,hMi.trans hM5⟩
           case measure=>simp [intOf] <;> omega
        ·obtain rfl : i=n:=by omega
         have hopX:=hMi.own hopT HoiT.out
         have hoiX : ap ≠ none->¬ bH a1 R4 (ah ap):=λhn=>hMi.not (aU hopT hn).2 (HoiT.out hn)
         have HoiX:=Z5 hoiX
         have hcn:=bk X (.int .i64 k) 3
         have hbn:=aA X (.cells #[.int .i64 k] 3)
         have hsz:=hbX.size
         clear hoiX
         go_wp2_with (at_builtin;refine aX rfl _ _ 22 3 rfl (.int .i64 0) 8 underlying22 bh rfl W.heap.size ap t cp _ rfl (hopX.alloc _) ⟨X.heap.size,0,none⟩ 1 (.int .i64 k) rfl hcn rfl (by omega) (by unfold maxLen;omega) (by simp;omega) ?_;intro a3 c3 w3 hown3 hgr hap3)
         go_roundw
         case rel =>
          have hnx : aB O L (k+1)=(aT O t k L2 i,Pv ++ [(k : Int)]):=by rw [dn hst.out (by rw [HLkn.out,Ht.out];exact hPl),Ht.out,EG (by rw [Hf.out,HLkn.out];omega),Hf.out,HL1.out]
          have hne : ∀b',bH a1 R4 b'->db ap b':=λb' hb'=>by
           by_cases hn : ap=none
           ·exact .inl hn
           ·exact .inr λe=>HoiX.out hn (by rw [e];exact hb')
          have hOn:=hOi.aa hbn
          have hO6 : aN w3 W.heap.size a1 i c1 R4 (aT O t k L2 i):=hOn.bt λb' hb'=>hgr.block b' (hOn.lt b' hb').2 λe=>(hne b' hb').own t cp e.symm
          have hb3 : JA W w3:=Jb (Ft hbX (hbn.mono hsz)) (hopX.alloc _) hgr (EF _) (ET hsz hbn.size)
          have hrw3:=Jm Hcl.out hrw2 (t:=t) (c:=k) (by rw [Hl2.out];exact hPl) (by omega) i (by rw [Hl2.out];exact hi)
          have ho4 : a3 ≠ none->¬ bH a1 R4 (ah a3):=λhn hI=>by
           rcases hap3 _ (hOn.lt _ hI).2 (hne _ hI) with h1 | h1
           ·exact hn h1
           ·exact h1 rfl
          have hPl2 : (Pv ++ [(k : Int)]).length=t+1:=by rw [ER,Ht.out];rfl
          refine ⟨k+1,R4,a3,c3,aT O t k L2 i,Pv ++ [(k : Int)],by omega,by go_num,by rw [hPl2];go_num,by rw [hPl2],hnx.symm,hO6,?_,ho4,hb3,hrw3,by rw [hPl2];omega⟩
          rw [hPl2];simpa using hown3
         case measure=>simp [intOf] <;> omega
     ·obtain rfl : j=n:=by omega
      have Hn : Hid ((Lk,Pv)=aB O L (k+1)):=by show _=_;rw [dn hst.out (by rw [HLkn.out,Ht.out];exact hPl),Ht.out,EH (by rw [hfr.out,jE (by rw [HLkn.out];exact EF _),HLkn.out])]
      have hjj : decide ((j : Int)<j)=false:=by simp
      go_wp2_with fail
      go_roundw
      case rel=>exact ⟨k+1,R',ap,cp,Lk,Pv,by omega,by go_num,by rw [Ht.out],by rw [Ht.out],Hn.out,hOr,by rw [Ht.out];exact hop,hoi.out,hbr,hrw,by rw [Ht.out];exact hPn⟩
      case measure=>simp [intOf] <;> omega
   ·have hPe : Pv.length=n:=by omega
    have hfull : (Lk,Pv)=aB O L cols:=by rw [show cols=k+(cols - k) by omega,fh (by rw [<- hst.out,hPe,<- Hlen.out]),<- hst.out]
    have Hfull:=Z5 hfull
    have hPe' : decide ((Pv.length : Int)<n)=false:=by simp;omega
    clear hfull hPe
    go_wp2_with fail
    go_ret2
    exact Hfin.out _ _ _ _ _ _ _ _ Hfull.out (hOr.mono hbW.size) (aW hop hbW.size) (I8 hbW hbr)
  ·obtain rfl : k=cols:=by omega
   have hk' : decide ((k : Int)<k)=false:=by simp
   go_wp2_with fail
   go_ret2
   exact Hfin.out _ _ _ _ _ _ _ _ hst.out (hOr.mono hbW.size) (aW hop hbW.size) (I8 hbW hbr)
theorem dQ (a : OA) (n c : Nat) (l : LI) (a' : OA) (n' c' : Nat) (l' : LI) {w : World} (h : Ints w a n l) (h' : Ints w a' n' l') :
  Calls prog 27 #[.slice a n c,.slice a' n' c'] w (jW w (decide (l=l'))):=by
 have Hl:=Z5 h.len;have Hl':=Z5 h'.len;have hpl:=h.pl;have hpl':=h'.pl;have hmax:=h.max;unfold maxLen at hmax;by_cases hn : n=n'
 ·subst hn;have hnn : ((n : Int) != n)=false:=by simp
  go_enter func27,ntmps27;go_wp2_with fail;go_loopw [5] (λiv wr=>∃k : Nat,k<=n/\iv = .int .i64 k/\Hid (l.take k=l'.take k)/\bf w wr) (λi _=>n - (intOf i).toNat);case atStart=>exact ⟨0,EL _,rfl,rfl,Je _⟩
  case round =>
   obtain ⟨k,hk,rfl,htk,hd⟩:=hrel
   by_cases hlt : k<n
   ·have c1:=(h.drawn hd).cell k hlt
    have c2:=(h'.drawn hd).cell k hlt
    by_cases he : nth l k=nth l' k
    ·have he' : (nth l k != nth l' k)=false:=by simpa using he
     have Hs : Hid (l.take (k+1)=l'.take (k+1)):=mF htk.out (by rw [Hl.out];exact hlt) (by rw [Hl'.out];exact hlt) he
     clear he
     go_wp2_with fail
     go_quiet (fail)
     go_wp2
     go_roundw
     case rel=>exact ⟨k+1,by omega,by go_num,Hs.out,hd.drewN _⟩
     case measure=>simp [intOf] <;> omega
    ·have he' : (nth l k != nth l' k)=true:=by simpa using he
     have Hs : Hid (decide (l=l')=false):=by show _=_;simp;intro e;exact he (by rw [e])
     clear he
     go_wp2_with fail
     go_quiet (fail)
     go_wp2
     go_ret
     exact ⟨bj Hs.out.symm,hd.drewN _⟩
   ·obtain rfl : k=n:=by omega
    have Hs : Hid (decide (l=l')=true):=by show _=_;have:=htk.out;rw [ES (by rw [Hl.out];exact EF _),ES (by rw [Hl'.out];exact EF _)] at this;simpa using this
    go_wp2_with fail
    go_ret
    exact ⟨bj Hs.out.symm,hd⟩
 ·have hnn : ((n : Int) != n')=true:=by simp;omega
  have Hs : Hid (decide (l=l')=false):=by show _=_;simp;intro e;have e1:=Hl.out;have e2:=Hl'.out;rw [e] at e1;omega
  clear hn;go_enter func27,ntmps27;go_wp2_with fail;go_ret;exact ⟨bj Hs.out.symm,Je _⟩
theorem fO (a : OA) (n c : Nat) (l : LL) (a' : OA) (n' c' : Nat) (l' : LL) {w : World} (h : bY w a n l) (h' : bY w a' n' l') :
  Calls prog 54 #[.slice a n c,.slice a' n' c'] w (jW w (decide (l=l'))):=by
 have Hl:=Z5 h.len;have Hl':=Z5 h'.len;have hpl:=h.pl;have hpl':=h'.pl;have hmax:=h.max;unfold maxLen at hmax;by_cases hn : n=n'
 ·subst hn;have hnn : ((n : Int) != n)=false:=by simp
  go_enter func54,ntmps54;go_wp2_with fail;go_loopw [5] (λiv wr=>∃k : Nat,k<=n/\iv = .int .i64 k/\Hid (l.take k=l'.take k)/\bf w wr) (λi _=>n - (intOf i).toNat);case atStart=>exact ⟨0,EL _,rfl,rfl,Je _⟩
  case round =>
   obtain ⟨k,hk,rfl,htk,hd⟩:=hrel
   by_cases hlt : k<n
   ·obtain ⟨b1,n1,d1,c1,i1⟩:=(h.drawn hd).cell k hlt
    obtain ⟨b2,n2,d2,c2,i2⟩:=(h'.drawn hd).cell k hlt
    have Hc:=Z5 (dQ b1 n1 d1 _ b2 n2 d2 _ (i1.drawn (Je wr).drew) (i2.drawn (Je wr).drew))
    by_cases he : af l k=af l' k
    ·have he' : decide (af l k=af l' k)=true:=by simpa using he
     have Hs : Hid (l.take (k+1)=l'.take (k+1)):=kV htk.out (by rw [Hl.out];exact hlt) (by rw [Hl'.out];exact hlt) he
     rw [he'] at Hc
     clear he he'
     go_wp2_with fail
     go_region_held3 (λV=>V.cell? ⟨ah a,aG a+k,none⟩=some (.slice b1 n1 d1)/\V.cell? ⟨ah a',aG a'+k,none⟩=some (.slice b2 n2 d2)) (exact ⟨c1,c2⟩)
      (first | (go_at_call 27;((with_reducible refine Hc.out.mono ?_);rintro e w4 ⟨rfl,m4,rfl⟩)))
     go_wp2_with fail
     go_roundw
     case rel=>exact ⟨k+1,by omega,by go_num,Hs.out,hd.drewN (1+m4)⟩
     case measure=>simp [intOf] <;> omega
    ·have he' : decide (af l k=af l' k)=false:=by simpa using he
     have Hs : Hid (decide (l=l')=false):=by show _=_;simp;intro e;exact he (by rw [e])
     rw [he'] at Hc
     clear he he'
     go_wp2_with fail
     go_region_held3 (λV=>V.cell? ⟨ah a,aG a+k,none⟩=some (.slice b1 n1 d1)/\V.cell? ⟨ah a',aG a'+k,none⟩=some (.slice b2 n2 d2)) (exact ⟨c1,c2⟩)
      (first | (go_at_call 27;((with_reducible refine Hc.out.mono ?_);rintro e w4 ⟨rfl,m4,rfl⟩)))
     go_wp2_with fail
     go_ret
     exact ⟨bj Hs.out.symm,hd.drewN (1+m4)⟩
   ·obtain rfl : k=n:=by omega
    have Hs : Hid (decide (l=l')=true):=by show _=_;have:=htk.out;rw [ES (by rw [Hl.out];exact EF _),ES (by rw [Hl'.out];exact EF _)] at this;simpa using this
    go_wp2_with fail
    go_ret
    exact ⟨bj Hs.out.symm,hd⟩
 ·have hnn : ((n : Int) != n')=true:=by simp;omega
  have Hs : Hid (decide (l=l')=false):=by show _=_;simp;intro e;have e1:=Hl.out;have e2:=Hl'.out;rw [e] at e1;omega
  clear hn;go_enter func54,ntmps54;go_wp2_with fail;go_ret;exact ⟨bj Hs.out.symm,Je _⟩
theorem sA (P M : Int) (am : OA) (mn cm : Nat) (a : OA) (n c : Nat) (l : LI) (w : World) (hi : Ints w a n l) :
  Calls prog 104 #[.agg #[.int .i64 P,.int .i64 M,.slice am mn cm],.slice a n c] w λe w'=>e = .returned (.int .i64 (ki (aH P M) l))/\JA w w':=by
 have Hlen:=Z5 hi.len;have hpl:=hi.pl;have hmax:=hi.max;unfold maxLen at hmax;go_enter func104,ntmps104;go_wp2_with fail;obtain ⟨W,hW⟩ : ∃W : World,W=w.alloc (.cells #[.int .i64 P,.int .i64 M,.slice am mn cm] 24):=⟨_,rfl⟩
 rw [<- hW];have hbW : JA w W:=by rw [hW];exact aA _ _
 have x0 : ba W w.heap.size [.int .i64 P,.int .i64 M,.slice am mn cm]:=by rw [hW];exact Ja _ _ _ rfl
 have hiW:=hi.aa hbW;have hS : ∀k,k<n->∀V,JA W V->V.cell? ⟨w.heap.size,0,none⟩=some (.int .i64 P)/\V.cell? ⟨w.heap.size,1,none⟩=some (.int .i64 M)/\V.cell? ⟨w.heap.size,2,none⟩=some (.slice am mn cm)/\V.cell? ⟨ah a,aG a+k,none⟩=some (.int .i64 (nth l k))/\JA W V:=by intro k hk V hV;have x1:=x0.aa hV;exact ⟨x1.cell 0 rfl,x1.cell 1 rfl,x1.cell 2 rfl,(hiW.aa hV).cell k hk,hV⟩
 have HS:=Z5 hS;clear hW x0 hS;go_loopw [5] (λiv wr=>∃k : Nat,k<=n/\iv = .int .i64 k/\Hid ((l.take k).all (gZ (aH P M))=true)/\JA W wr) (λiv _=>n - (intOf iv).toNat);case atStart=>exact ⟨0,EL _,rfl,by show _=_;simp,EI _ _⟩
 case round =>
  obtain ⟨k,hk,rfl,hall,hbr⟩:=hrel
  by_cases hlt : k<n
  ·have HSk : Hid (∀V,JA W V->V.cell? ⟨w.heap.size,0,none⟩=some (.int .i64 P)/\V.cell? ⟨w.heap.size,1,none⟩=some (.int .i64 M)/\V.cell? ⟨w.heap.size,2,none⟩=some (.slice am mn cm)/\V.cell? ⟨ah a,aG a+k,none⟩=some (.int .i64 (nth l k))/\JA W V):=HS.out k hlt
   have hkl : k<l.length:=by rw [Hlen.out];exact hlt
   have Hbr:=Z5 hbr
   have Hq:=Z5 (xc P M am mn cm (nth l k))
   clear hbr
   by_cases hq : gZ (aH P M) (nth l k)=true
   ·have Hs : Hid ((l.take (k+1)).all (gZ (aH P M))=true):=cK hkl hall.out (by rw [<- ai hkl];exact hq)
    rw [hq] at Hq
    clear hq
    go_wp2_with fail
    go_region_held3 (λV=>V.cell? ⟨w.heap.size,0,none⟩=some (.int .i64 P)/\V.cell? ⟨w.heap.size,1,none⟩=some (.int .i64 M)/\V.cell? ⟨w.heap.size,2,none⟩=some (.slice am mn cm)/\V.cell? ⟨ah a,aG a+k,none⟩=some (.int .i64 (nth l k))/\JA W V)
     ((refine HSk.out _ ?_;first | exact Hbr.out.drew | exact I8 Hbr.out.drew hb4))
     (first | (go_at_call 169;((with_reducible refine (Hq.out _).mono ?_);rintro e w4 ⟨rfl,hb4⟩)))
    go_wp2_with fail
    go_roundw
    case rel=>exact ⟨k+1,by omega,by go_num,Hs.out,I8 Hbr.out.drew hb4⟩
    case measure=>simp [intOf] <;> omega
   ·have hq' : gZ (aH P M) (nth l k)=false:=by simpa using hq
    have Hs : Hid (ki (aH P M) l=2):=by show _=_;rw [ki,jj,cJ hkl (by rw [<- ai hkl];exact hq')];rfl
    rw [hq'] at Hq
    clear hq hq'
    go_wp2_with fail
    go_region_held3 (λV=>V.cell? ⟨w.heap.size,0,none⟩=some (.int .i64 P)/\V.cell? ⟨w.heap.size,1,none⟩=some (.int .i64 M)/\V.cell? ⟨w.heap.size,2,none⟩=some (.slice am mn cm)/\V.cell? ⟨ah a,aG a+k,none⟩=some (.int .i64 (nth l k))/\JA W V)
     ((refine HSk.out _ ?_;first | exact Hbr.out.drew | exact I8 Hbr.out.drew hb4))
     (first | (go_at_call 169;((with_reducible refine (Hq.out _).mono ?_);rintro e w4 ⟨rfl,hb4⟩)))
    go_wp2_with fail
    go_ret
    exact ⟨aF Hs.out.symm,I8 hbW (I8 Hbr.out.drew hb4)⟩
  ·obtain rfl : k=n:=by omega
   have Hs : Hid (ki (aH P M) l=0):=by have:=hall.out;rw [ES (by rw [Hlen.out];exact EF _)] at this;show _=_;rw [ki,jj,this];rfl
   go_wp2_with fail
   go_ret
   exact ⟨aF Hs.out.symm,I8 hbW hbr⟩
def eG (P M : Int) (mod : LI) (cols : Int) (L : LL) : Int:=if bq P M mod=true then ed (aH P M) cols L else 1
theorem pW (P M : Int) (am : OA) (mn cm : Nat) (mod : LI) (cols : Int) (a : OA) (n c : Nat) (L : LL) (w : World) (hmod : Ints w am mn mod) (hi : bY w a n L) :
  Calls prog 118 #[.agg #[.int .i64 P,.int .i64 M,.slice am mn cm],.agg #[.int .i64 cols,.slice a n c]] w λe w'=>e = .returned (.int .i64 (eG P M mod cols L))/\JA w w':=by
 have Hlen:=Z5 hi.len;have hpl:=hi.pl;have hmax:=hi.max;unfold maxLen at hmax;go_enter func118,ntmps118;go_wp2_with fail;obtain ⟨W,hW⟩ : ∃W : World,W=(w.alloc (.cells #[.int .i64 P,.int .i64 M,.slice am mn cm] 24)).alloc (.cells #[.int .i64 cols,.slice a n c] 87):=⟨_,rfl⟩
 rw [<- hW];have hbW : JA w W:=by rw [hW];exact fI _ _ _
 have x0 : ba W w.heap.size [.int .i64 P,.int .i64 M,.slice am mn cm]:=by rw [hW];exact (Ja _ _ _ rfl).alloc _
 have y0 : ba W (w.heap.size+1) [.int .i64 cols,.slice a n c]:=by rw [hW];exact Ja _ _ _ (by simp)
 have hS : ∀V,JA W V->V.cell? ⟨w.heap.size,0,none⟩=some (.int .i64 P)/\V.cell? ⟨w.heap.size,1,none⟩=some (.int .i64 M)/\V.cell? ⟨w.heap.size,2,none⟩=some (.slice am mn cm) /\
   V.cell? ⟨w.heap.size+1,0,none⟩=some (.int .i64 cols)/\V.cell? ⟨w.heap.size+1,1,none⟩=some (.slice a n c)/\JA W V:=by intro V hV;have x1:=x0.aa hV;have y1:=y0.aa hV;exact ⟨x1.cell 0 rfl,x1.cell 1 rfl,x1.cell 2 rfl,y1.cell 0 rfl,y1.cell 1 rfl,hV⟩
 have HS:=Z5 hS;have hiW:=hi.aa hbW;clear hW x0 y0 hS;refine (jo P M am mn cm mod W (hmod.aa hbW)).mono ?_;rintro e w1 ⟨rfl,hb1⟩;have hbw1:=I8 hbW hb1;by_cases hB : bq P M mod=true
 ·have HB : Hid (eG P M mod cols L=ed (aH P M) cols L):=by show _=_;rw [eG,EH hB]
  have hE : bP (bq P M mod)=0:=by rw [hB];rfl
  rw [hE];obtain ⟨q,hq⟩ : ∃q,aH P M=q:=⟨_,rfl⟩
  have Hq:=Z5 hq;rw [hq] at HB;obtain ⟨d0,d1,d2,d3,d4,_⟩:=HS.out w1 hb1;clear hB hE hq;by_cases b1 : cols<0
  ·have Hf : Hid (eG P M mod cols L=3):=by show _=_;rw [HB.out,ed,EH (.inl b1)]
   have t1 : decide (cols<0)=true:=by simpa using b1
   go_wp2_with fail;go_ret;exact ⟨aF Hf.out.symm,hbw1⟩
  have t1 : decide (cols<0)=false:=by simpa using b1
  by_cases b2 : 256<cols
  ·have Hf : Hid (eG P M mod cols L=3):=by show _=_;rw [HB.out,ed,EH (.inr (.inl b2))]
   have t2 : decide (256<cols)=true:=by simpa using b2
   go_wp2_with fail;go_ret;exact ⟨aF Hf.out.symm,hbw1⟩
  have t2 : decide (256<cols)=false:=by simpa using b2
  by_cases b3 : 256<n
  ·have Hf : Hid (eG P M mod cols L=3):=by show _=_;rw [HB.out,ed,EH (.inr (.inr (by rw [Hlen.out];exact b3)))]
   have t3 : decide (256<(n : Int))=true:=by simp;omega
   go_wp2_with fail;go_ret;exact ⟨aF Hf.out.symm,hbw1⟩
  have t3 : decide (256<(n : Int))=false:=by simp;omega
  have Hm : Hid (eG P M mod cols L=if gR cols L=false then 3 else if L.all (jj q) then 0 else 2):=by show _=_;rw [HB.out,ed,EG (by rw [Hlen.out];omega)]
  have hi1:=hiW.aa hb1;clear b1 b2;go_wp2_with fail;go_loopw [6] (λiv wr=>∃k : Nat,k<=n/\iv = .int .i64 k/\Hid ((L.take k).all (λr=>decide ((r.length : Int)=cols))=true)/\bf w1 wr) (λiv _=>n - (intOf iv).toNat);case atStart=>exact ⟨0,EL _,rfl,by show _=_;simp,Je _⟩
  case round =>
   obtain ⟨k,hk,rfl,hall,hd⟩:=hrel
   have hir:=hi1.drawn hd
   have e3:=hd.cell d3
   have e4:=hd.cell d4
   by_cases hlt : k<n
   ·obtain ⟨ra,rn,rc,hcell,hrow⟩:=hir.cell k hlt
    have hkL : k<L.length:=by rw [Hlen.out];exact hlt
    have hrl:=hrow.len
    rw [aE hkL] at hrl
    have Hrl:=Z5 hrl
    clear hrl
    by_cases he : (rn : Int)=cols
    ·have he' : ((rn : Int) != cols)=false:=by simpa using he
     have Hs : Hid ((L.take (k+1)).all (λr=>decide ((r.length : Int)=cols))=true):=cK hkL hall.out (by rw [Hrl.out];simpa using he)
     clear he
     go_wp2_with fail
     go_quiet (fail)
     go_wp2
     go_roundw
     case rel=>exact ⟨k+1,by omega,by go_num,Hs.out,hd.drewN _⟩
     case measure=>simp [intOf] <;> omega
    ·have he' : ((rn : Int) != cols)=true:=by simpa using he
     have Hs : Hid (eG P M mod cols L=3):=by show _=_;rw [Hm.out,EH];exact cJ hkL (by simp only [Hrl.out];simpa using he)
     clear he
     go_wp2_with fail
     go_quiet (fail)
     go_wp2
     go_ret
     exact ⟨aF Hs.out.symm,I8 hbw1 (hd.drewN _).below⟩
   ·obtain rfl : k=n:=by omega
    have Hm2 : Hid (eG P M mod cols L=if L.all (jj q) then 0 else 2):=by have:=hall.out;rw [ES (by rw [Hlen.out];exact EF _)] at this;show _=_;rw [Hm.out,EG (by rw [gR,this];simp)]
    have hbr : JA W wr:=I8 hb1 hd.below
    have hir2:=hir
    clear d0 d1 d2 d3 d4 hall
    go_wp2_with fail
    clear e3 e4
    go_loopw [7] (λiv wx=>∃j : Nat,j<=k/\iv = .int .i64 j/\Hid ((L.take j).all (jj q)=true)/\JA W wx) (λiv _=>k - (intOf iv).toNat)
    case atStart=>exact ⟨0,EL _,rfl,by show _=_;simp,hbr⟩
    case round =>
     obtain ⟨j,hj,rfl,hall2,hbx⟩:=hrel
     obtain ⟨d0,d1,d2,d3,d4,_⟩:=HS.out _ hbx
     by_cases hlt : j<k
     ·have hiX:=hiW.aa hbx
      obtain ⟨ra,rn,rc,hcell,hrow⟩:=hiX.cell j hlt
      have hjL : j<L.length:=by rw [Hlen.out];exact hlt
      have HC:=Z5 (sA P M am mn cm ra rn rc (af L j) _ (hrow.aa (EI _ _).drew))
      have hSj : ∀V,JA wr V->V.cell? ⟨w.heap.size,0,none⟩=some (.int .i64 P)/\V.cell? ⟨w.heap.size,1,none⟩=some (.int .i64 M)/\V.cell? ⟨w.heap.size,2,none⟩=some (.slice am mn cm) /\
        V.cell? ⟨w.heap.size+1,1,none⟩=some (.slice a k c)/\V.cell? ⟨ah a,aG a+j,none⟩=some (.slice ra rn rc):=λV hV=>by obtain ⟨f0,f1,f2,f3,f4,_⟩:=HS.out V (I8 hbx hV);exact ⟨f0,f1,f2,f4,aj hV hcell⟩
      have HSj:=Z5 hSj
      have Hbx:=Z5 hbx
      rw [Hq.out] at HC
      clear hSj hbx
      by_cases he : jj q (af L j)=true
      ·have he2 : ki q (af L j)=0:=by rw [ki,he];rfl
       rw [he2] at HC
       rw [aE hjL] at he
       have Hs : Hid ((L.take (j+1)).all (jj q)=true):=cK hjL hall2.out he
       clear he he2
       go_wp2_with fail
       go_region_held3 (λV=>V.cell? ⟨w.heap.size,0,none⟩=some (.int .i64 P)/\V.cell? ⟨w.heap.size,1,none⟩=some (.int .i64 M)/\V.cell? ⟨w.heap.size,2,none⟩=some (.slice am mn cm) /\
         V.cell? ⟨w.heap.size+1,1,none⟩=some (.slice a k c)/\V.cell? ⟨ah a,aG a+j,none⟩=some (.slice ra rn rc))
        ((refine HSj.out _ ?_;first | exact (EI _ _).drew | exact I8 (EI _ _).drew hb4))
        (first | (go_at_call 104;((with_reducible refine HC.out.mono ?_);rintro e w4 ⟨rfl,hb4⟩)))
       go_wp2_with fail
       go_roundw
       case rel=>exact ⟨j+1,by omega,by go_num,Hs.out,I8 Hbx.out (I8 (EI _ _).drew hb4)⟩
       case measure=>simp [intOf] <;> omega
      ·have he2 : ki q (af L j)=2:=by rw [ki,EG he]
       rw [he2] at HC
       rw [aE hjL] at he
       have Hs : Hid (eG P M mod cols L=2):=by show _=_;rw [Hm2.out,cJ hjL (by simpa using he)];rfl
       clear he he2
       go_wp2_with fail
       go_region_held3 (λV=>V.cell? ⟨w.heap.size,0,none⟩=some (.int .i64 P)/\V.cell? ⟨w.heap.size,1,none⟩=some (.int .i64 M)/\V.cell? ⟨w.heap.size,2,none⟩=some (.slice am mn cm) /\
         V.cell? ⟨w.heap.size+1,1,none⟩=some (.slice a k c)/\V.cell? ⟨ah a,aG a+j,none⟩=some (.slice ra rn rc))
        ((refine HSj.out _ ?_;first | exact (EI _ _).drew | exact I8 (EI _ _).drew hb4))
        (first | (go_at_call 104;((with_reducible refine HC.out.mono ?_);rintro e w4 ⟨rfl,hb4⟩)))
       go_wp2_with fail
       go_ret
       exact ⟨aF Hs.out.symm,I8 hbW (I8 Hbx.out (I8 (EI _ _).drew hb4))⟩
     ·obtain rfl : j=k:=by omega
      have Hs : Hid (eG P M mod cols L=0):=by have:=hall2.out;rw [ES (by rw [Hlen.out];exact EF _)] at this;show _=_;rw [Hm2.out,this];rfl
      go_wp2_with fail
      go_ret
      exact ⟨aF Hs.out.symm,I8 hbW hbx⟩
 ·have hB' : bq P M mod=false:=by simpa using hB
  have Hf : Hid (eG P M mod cols L=1):=by show _=_;rw [eG,EG hB]
  have hE : bP (bq P M mod)=1:=by rw [hB'];rfl
  rw [hE];clear hB hB' hE;go_wp2_with fail;go_ret;exact ⟨aF Hf.out.symm,hbw1⟩
theorem Ae : b9 5 2 25 rV 0 25=true:=by decide +kernel
theorem C5 : dZ 5 2 25 rV:=aD (bM 5 2 25 rV) Ae
theorem Bq : b9 5 3 125 jX 0 32=true:=by decide +kernel
theorem yw : b9 5 3 125 jX 32 32=true:=by decide +kernel
theorem yF : b9 5 3 125 jX 64 32=true:=by decide +kernel
theorem zm : b9 5 3 125 jX 96 29=true:=by decide +kernel
theorem CP : dZ 5 3 125 jX:=aD (aD (aD (aD (bM 5 3 125 jX) Bq) yw) yF) zm
theorem Ao : b9 7 2 49 rB 0 49=true:=by decide +kernel
theorem Dd : dZ 7 2 49 rB:=aD (bM 7 2 49 rB) Ao
theorem y6 : b9 11 2 121 i5 0 32=true:=by decide +kernel
theorem wt : b9 11 2 121 i5 32 32=true:=by decide +kernel
theorem vb : b9 11 2 121 i5 64 32=true:=by decide +kernel
theorem wO : b9 11 2 121 i5 96 25=true:=by decide +kernel
theorem BI : dZ 11 2 121 i5:=aD (aD (aD (aD (bM 11 2 121 i5) y6) wt) vb) wO
theorem yy : b9 13 2 169 fX 0 32=true:=by decide +kernel
theorem vn : b9 13 2 169 fX 32 32=true:=by decide +kernel
theorem wF : b9 13 2 169 fX 64 32=true:=by decide +kernel
theorem wH : b9 13 2 169 fX 96 32=true:=by decide +kernel
theorem uW : b9 13 2 169 fX 128 32=true:=by decide +kernel
theorem tJ : b9 13 2 169 fX 160 9=true:=by decide +kernel
theorem BF : dZ 13 2 169 fX:=aD (aD (aD (aD (aD (aD (bM 13 2 169 fX) yy) vn) wF) wH) uW) tJ
def DW (c : Nat × Nat) : Bool:=tE (cF c.1 1 []) c.1 c.2 && decide (0<c.2) && decide (c.2<c.1)
theorem Ef : roots.all DW=true:=by decide +kernel
theorem AU : ((List.range 257).all λp=>p<2 || !eU p || roots.any λc=>c.1 == p)=true:=by decide +kernel
section
variable {O : aL} {El : Int->Prop} {m n : Nat}
def ch (O : aL) (a b : Nat->Int) : Nat->Int
 | 0=>0
 | t+1=>O.add (ch O a b t) (O.mul (a t) (b t))
theorem jV (F : bU O El) {a b : Nat->Int} : ∀t,(∀p,p<t->El (a p))->(∀p,p<t->El (b p))->El (ch O a b t)
 | 0,_,_=>F.zero
 | t+1,ha,hb=>F.cl.add _ _ (jV F t (λp hp=>ha p (by omega)) λp hp=>hb p (by omega)) (F.cl.mul _ _ (ha t (by omega)) (hb t (by omega)))
theorem fg (F : bU O El) {a b : Nat->Int} : ∀t,(∀p,p<t->El (a p))->(∀p,p<t->El (b p))->ch O a b t=ch O b a t
 | 0,_,_=>rfl
 | t+1,ha,hb=>by rw [ch,ch,fg F t (λp hp=>ha p (by omega)) λp hp=>hb p (by omega),F.mul_comm _ _ (ha t (by omega)) (hb t (by omega))]
theorem cT {a b a' b' : Nat->Int} : ∀t,(∀p,p<t->a p=a' p/\b p=b' p)->ch O a b t=ch O a' b' t
 | 0,_=>rfl
 | t+1,h=>by rw [ch,ch,cT t λp hp=>h p (by omega),(h t (by omega)).1,(h t (by omega)).2]
theorem qC (F : bU O El) {a b : Nat->Int} : ∀t,(∀p,p<t->O.mul (a p) (b p)=0)->ch O a b t=0
 | 0,_=>rfl
 | t+1,h=>by rw [ch,qC F t λp hp=>h p (by omega),h t (by omega),F.add_zero 0 F.zero]
theorem lK (F : bU O El) {a b : Nat->Int} {x : Nat} (hx : El (O.mul (a x) (b x))) : ∀t,(∀p,p<t->p ≠ x->O.mul (a p) (b p)=0)->ch O a b t=if x<t then O.mul (a x) (b x) else 0
 | 0,_=>rfl
 | t+1,h=>by
  rw [ch,lK F hx t λp hp=>h p (by omega)];by_cases e : t=x
  ·subst e;rw [EG (by omega),EH (by omega),F.tD hx]
  ·rw [h t (by omega) e];by_cases e2 : x<t
   ·rw [EH e2,EH (by omega),F.add_zero _ hx]
   ·rw [EG e2,EG (by omega),F.add_zero 0 F.zero]
theorem uG (F : bU O El) {a b : Nat->Int} {x y : Nat} (hxy : x ≠ y) (hx : El (O.mul (a x) (b x))) (hy : El (O.mul (a y) (b y))) : ∀t,(∀p,p<t->p ≠ x->p ≠ y->O.mul (a p) (b p)=0) ->
  ch O a b t=O.add (if x<t then O.mul (a x) (b x) else 0) (if y<t then O.mul (a y) (b y) else 0)
 | 0,_=>by rw [EG (by omega),EG (by omega)];exact (F.add_zero 0 F.zero).symm
 | t+1,h=>by
  rw [ch,uG F hxy hx hy t λp hp=>h p (by omega)];by_cases e : t=x
  ·subst e;rw [EG (Gr t),EH (Nat.lt_succ_self t)];by_cases e2 : y<t
   ·rw [EH e2,EH (show y<t+1 by omega),F.tD hy,F.add_comm _ _ hy hx]
   ·rw [EG e2,EG (show ¬ y<t+1 by omega),F.tD F.zero,F.tD hx,F.add_zero _ hx]
  ·by_cases e1 : t=y
   ·subst e1;by_cases e2 : x<t
    ·rw [EH e2,EG (by omega),EH (by omega),EH (by omega),F.add_zero _ hx]
    ·rw [EG e2,EG (by omega),EG (by omega),EH (by omega),F.add_zero 0 F.zero]
   ·rw [h t (by omega) e e1];by_cases e2 : x<t
    ·by_cases e3 : y<t
     ·rw [EH e2,EH e3,EH (by omega),EH (by omega),F.add_zero _ (F.cl.add _ _ hx hy)]
     ·rw [EH e2,EG e3,EH (by omega),EG (by omega),F.add_zero _ (F.cl.add _ _ hx F.zero)]
    ·by_cases e3 : y<t
     ·rw [EG e2,EH e3,EG (by omega),EH (by omega),F.add_zero _ (F.cl.add _ _ F.zero hy)]
     ·rw [EG e2,EG e3,EG (by omega),EG (by omega),F.add_zero _ (F.cl.add _ _ F.zero F.zero)]
def rY (O : aL) (r : Nat->Int) (K : LL) : Nat->LI
 | 0=>List.replicate K.length 0
 | t+1=>dj O (rY O r K t) (O.neg (r t)) (aQ K t)
theorem k6 (F : bU O El) {r : Nat->Int} {K : LL} (hK : bx El m K) : ∀t,(∀p,p<t->El (r p))->Vc El K.length (rY O r K t)
 | 0,_=>⟨by simp [rY],λy hy=>by have:=FM hy;rw [this];exact F.zero⟩
 | t+1,hr=>(k6 F hK t λp hp=>hr p (by omega)).sub F (cA hK F.zero t) (F.cl.neg _ (hr t (by omega)))
theorem sT (F : bU O El) {r : Nat->Int} {K : LL} (hK : bx El m K) {j : Nat} (hj : j<K.length) : ∀t,t<=m->(∀p,p<t->El (r p))->nth (rY O r K t) j=ch O r (λp=>nth (af K j) p) t
 | 0,_,_=>by simp [rY,ch,nth,EJ,E9,hj]
 | t+1,ht,hr=>by have hv:=k6 F hK t λp hp=>hr p (by omega);have hc:=cA hK F.zero t;have hrt:=hr t (by omega);have hx : El (nth (af K j) t):=Jd (hK.row hj) (by omega);rw [rY,dH O _ _ _ j (by rw [hc.1,hv.1]) (by rw [hv.1];exact hj),sT F hK hj t (by omega) λp hp=>hr p (by omega),bR K t j hj,F.neg_mul hrt hx,F.neg_neg (F.cl.mul _ _ hrt hx)];rfl
theorem my (F : bU O El) {r : Nat->Int} {K : LL} (hK : bx El m K) {φ : LI->Int} (hφ : gV O El K.length φ) : ∀t,(∀p,p<t->El (r p))->φ (rY O r K t)=ch O r (λp=>φ (aQ K p)) t
 | 0,_=>hφ.zero F (k6 F hK 0 λp hp=>by omega) λi hi=>by simp [rY,nth,EJ,E9,hi]
 | t+1,hr=>by have hv:=k6 F hK t λp hp=>hr p (by omega);have hc:=cA hK F.zero t;have hrt:=hr t (by omega);have hx:=hφ.el _ hc;rw [rY,hφ.sub _ _ _ hv hc (F.cl.neg _ hrt),my F hK hφ t λp hp=>hr p (by omega),F.neg_mul hrt hx,F.neg_neg (F.cl.mul _ _ hrt hx)];rfl
theorem lO (F : bU O El) {r : Nat->Int} {K : LL} (hK : bx El m K) {φ : LI->Int} (hφ : gV O El K.length φ) (hr : ∀p,p<m->El (r p)) (h : ∀j,j<K.length->ch O r (λp=>nth (af K j) p) m=0) :
  ch O r (λp=>φ (aQ K p)) m=0:=by rw [<- my F hK hφ m hr];exact hφ.zero F (k6 F hK m hr) λi hi=>by rw [sT F hK hi m (EF _) hr];exact h i hi
def nj (O : aL) (m : Nat) (G K : LL) : Prop:=∀i j,i<G.length->j<K.length->ch O (λp=>nth (af G i) p) (λp=>nth (af K j) p) m=0
variable {G K : LL}
theorem nj.symm (F : bU O El) (hG : bx El m G) (hK : bx El m K) (h : nj O m G K) : nj O m K G:=λi j hi hj=>by rw [fg F m (λp hp=>Jd (hK.row hi) hp) λp hp=>Jd (hG.row hj) hp];exact h j i hj hi
theorem nj.DL (F : bU O El) (hG : bx El m G) (hK : bx El m K) (h : nj O m G K) {φ ψ : LI->Int} (hφ : gV O El K.length φ) (hψ : gV O El G.length ψ) :
  ch O (λp=>φ (aQ K p)) (λp=>ψ (aQ G p)) m=0:=by have hcφ : ∀p,p<m->El (φ (aQ K p)):=λp _=>hφ.el _ (cA hK F.zero p);refine lO F hG hψ hcφ λi hi=>?_;rw [fg F m hcφ λp hp=>Jd (hG.row hi) hp];exact lO F hK hφ (λp hp=>Jd (hG.row hi) hp) λj hj=>h i j hi hj
theorem nj.cl (F : bU O El) (hG : bx El m G) (hK : bx El m K) (h : nj O m G K) {A B : LN} {x : Nat} (hx : x<m) (hAB : ∀p,p<m->p ≠ x->p ∈ A\/p ∈ B) (hn : ¬ lQ O El G.length (aQ G) A x) :
  lQ O El K.length (aQ K) B x:=by
 intro φ hφ h0;apply Fe;intro hne;apply hn;intro ψ hψ hA;have hd:=h.DL F hG hK hφ hψ;have e1:=hφ.el _ (cA hK F.zero x);have e2:=hψ.el _ (cA hG F.zero x);rw [lK F (x:=x) (F.cl.mul _ _ e1 e2) m λp hp hpx=>?_,EH hx] at hd
 ·exact F.A1 e1 e2 hne hd
 ·rcases hAB p hp hpx with h1 | h1
  ·show O.mul (φ (aQ K p)) (ψ (aQ G p))=0;rw [hA p h1,F.dh (hφ.el _ (cA hK F.zero p))]
  ·show O.mul (φ (aQ K p)) (ψ (aQ G p))=0;rw [h0 p h1,F.jh (hψ.el _ (cA hG F.zero p))]
end
theorem uU {N : Int} {l : LI} (h : bI N l=true) : ∀k,k<l.length->(k : Int)<=nth l k
 | 0,hk=>(fY h hk).1
 | k+1,hk=>by have ih:=uU h k (by omega);have:=(fY h hk).2.2 (by omega);rw [GZ] at this;omega
theorem l7 {N : Int} {l : LI} (h : bI N l=true) (hN : 0<=N) : (l.length : Int)<=N:=by
 by_cases h0 : l.length=0
 ·omega
 ·have h1:=uU h (l.length - 1) (by omega);have h2:=(fY h (k:=l.length - 1) (by omega)).2.1;omega
theorem lT (N : Int) (l : LI) : jt N [l]=if bI N l=true then 0 else 6:=by simp [jt]
def iW (P M : Int) (mod : LI) (N : Int) (L : LL) (Q : LI) : Int:=if aZ P M mod N L=0 then jt N [Q] else aZ P M mod N L
def tl (P M : Int) (mod : LI) (N : Int) (L : LL) (Q : LI) (w : World) (e : Ending) (w' : World) : Prop :=
 JA w w'/\((iW P M mod N L Q ≠ 0/\e = .returned (.tuple #[.int .i64 0,.int .i64 (iW P M mod N L Q)])) \/
  (iW P M mod N L Q=0/\e = .returned (.tuple #[.int .i64 (mz (an P M.toNat mod).ops L Q).length,.int .i64 0])))
theorem eE {P M : Int} {mod : LI} {N : Int} {L : LL} (h : aZ P M mod N L=0) : ∃m : Nat,N=m/\1<=m/\m<=64/\L.length<=256/\bx (an P M.toNat mod).El m L:=by obtain ⟨h1,h2,h3,h4⟩:=dq h;obtain ⟨h5,h6⟩:=iE h4;obtain ⟨h7,h8⟩:=e8 h5;obtain ⟨m,rfl,hm,hl,hR⟩:=gG h8;exact ⟨m,rfl,by omega,by omega,hl,hR⟩
theorem th (P M : Int) (am : OA) (mn cm : Nat) (mod : LI) (N : Int) (a : OA) (n c : Nat) (L : LL) (ao : OA) (no co : Nat) (Q : LI) (w : World)
  (hmod : Ints w am mn mod) (hi : bY w a n L) (hq : Ints w ao no Q) :
  Calls prog 19 #[.agg #[.int .i64 P,.int .i64 M,.slice am mn cm,.int .i64 N,.slice a n c],.slice ao no co] w (tl P M mod N L Q w):=by
 have Hql:=Z5 hq.len;have Hil:=Z5 hi.len;go_enter func19,ntmps19;go_wp2_with fail;obtain ⟨W,hW⟩ : ∃W : World,W=w.alloc (.cells #[.int .i64 P,.int .i64 M,.slice am mn cm,.int .i64 N,.slice a n c] 27):=⟨_,rfl⟩
 rw [<- hW];have hbW : JA w W:=by rw [hW];exact aA _ _
 have x0 : ba W w.heap.size [.int .i64 P,.int .i64 M,.slice am mn cm,.int .i64 N,.slice a n c]:=by rw [hW];exact Ja _ _ _ rfl
 have HX:=Z5 x0;clear hW x0;refine (ug P M am mn cm mod N a n c L W (hmod.aa hbW) (hi.aa hbW)).mono ?_;rintro e w1 ⟨hb1,⟨hE,rfl⟩ | ⟨hE,b,rfl,hG⟩⟩
 ·have hbw1:=I8 hbW hb1;have HE : Hid (iW P M mod N L Q=aZ P M mod N L):=by show _=_;rw [iW,EG hE]
  have He:=Z5 hE;have hE1 : (aZ P M mod N L == 0)=false:=by simpa using hE
  have hE2 : (aZ P M mod N L != 0)=true:=by simpa using hE
  clear hE;go_wp2_with fail;go_ret2;exact ⟨hbw1,.inl ⟨by rw [HE.out];exact He.out,by rw [HE.out];rfl⟩⟩
 ·have hbw1:=I8 hbW hb1;have HE : Hid (iW P M mod N L Q=jt N [Q]):=by show _=_;rw [iW,EH hE]
  have Hrw:=Z5 (eE hE);have xU:=HX.out.aa hb1;have b0:=xU.cell 0 rfl;have b1:=xU.cell 1 rfl;have b2:=xU.cell 2 rfl;have b3:=xU.cell 3 rfl;have b4:=xU.cell 4 rfl;have hq1:=(hq.aa hbW).aa hb1;have hbl:=aA w1 (.cells #[.slice ao no co] 22);have hMs : bY (w1.alloc (.cells #[.slice ao no co] 22)) (some ⟨w1.heap.size,0,none⟩) 1 [Q]:=⟨rfl,λ_=>rfl,by unfold maxLen;omega,λi hi=>by
   obtain rfl : i=0:=by omega
   exact ⟨ao,no,co,eC _ _ _ rfl,hq1.aa hbl⟩⟩
  clear xU hE;go_wp2_with fail;refine (Br P M am mn cm N a n c _ 1 1 [Q] _ hMs).mono ?_;rintro e w2 ⟨rfl,hb2⟩;have hb3 : JA w1 w2:=I8 hbl hb2;have hbw2:=I8 hbw1 hb3;rw [lT] at HE ⊢;by_cases hok : bI N Q=true
  ·have HE2 : Hid (iW P M mod N L Q=0):=by show _=_;rw [HE.out,EH hok]
   rw [EH hok];obtain ⟨m,hm,hm1,hm2,hLl,hRw⟩:=Hrw.out;subst hm;have hlen:=l7 hok (by omega);have hQk : ∀k,k<no->0<=nth Q k/\nth Q k<m:=λk hk=>by have:=fY hok (k:=k) (by rw [Hql.out];exact hk);exact ⟨this.1,this.2.1⟩
   have hno : no<=1000000:=by rw [<- Hql.out];omega
   have hn : n<=1000000:=by rw [<- Hil.out];omega
   have HQk:=Z5 hQk;have HRw:=Z5 hRw;have xU:=(HX.out.aa hb1).aa hb3;have b0:=xU.cell 0 rfl;have b1:=xU.cell 1 rfl;have b2:=xU.cell 2 rfl;have b3:=xU.cell 3 rfl;have b4:=xU.cell 4 rfl;have hq2:=hq1.aa hb3;have hi2:=((hi.aa hbW).aa hb1).aa hb3;have hG2:=hG.aa hb3;clear hok hlen hQk hRw xU;go_wp2_with fail;refine (wJ P M am mn cm m a n c L m ao no co Q hG2 hi2 HRw.out hq2 HQk.out hn hno).mono ?_;rintro e w4 ⟨a4,c4,rfl,hown4,hb4⟩;have hF : tl P M mod m L Q w (.returned (.tuple #[.int .i64 (mz (an P M.toNat mod).ops L Q).length,.int .i64 0])) w4:=⟨I8 hbw2 hb4,.inr ⟨HE2.out,rfl⟩⟩
   have HF:=Z5 hF;clear hF hown4;generalize mz (an P M.toNat mod).ops L Q=out at *;go_wp2_with fail;go_ret2;exact HF.out
  ·have HE2 : Hid (iW P M mod N L Q=6):=by show _=_;rw [HE.out,EG hok]
   rw [EG hok];clear hok b0 b1 b2 b3 b4;go_wp2_with fail;go_ret2;exact ⟨hbw2,.inl ⟨by rw [HE2.out];omega,by rw [HE2.out];rfl⟩⟩
def aR (x : Nat) : Nat->LI
 | 0=>[]
 | k+1=>if x.testBit k=true then aR x k ++ [(k : Int)] else aR x k
theorem kB (x : Nat) : ∀k,(aR x k).length<=k
 | 0=>EF _
 | k+1=>by have:=kB x k;unfold aR;split <;> simp <;> omega
theorem mJ (x i : Nat) : x.testBit i=decide (x / 2 ^ i % 2=1):=by rw [Nat.testBit,Nat.shiftRight_eq_div_pow,Nat.one_and_eq_mod_two];rcases FA (x / 2 ^ i) with h | h <;> simp [h]
theorem jP (x : Nat) : ∀k j,j<(aR x k).length->0<=nth (aR x k) j/\nth (aR x k) j<k
 | 0,j,h=>by simp [aR] at h
 | k+1,j,h=>by
  unfold aR at h ⊢;split
  ·rename_i ht;rw [EH ht] at h;simp only [ER,E0] at h;by_cases hj : j<(aR x k).length
   ·have:=jP x k j hj;have e : nth (aR x k ++ [(k : Int)]) j=nth (aR x k) j:=by simp only [nth,EJ];rw [E2 hj]
    rw [e];omega
   ·obtain rfl : j=(aR x k).length:=by omega
    have e : nth (aR x k ++ [(k : Int)]) (aR x k).length=k:=by simp [nth]
    rw [e];omega
  ·rename_i ht;rw [EG ht] at h;have:=jP x k j h;omega
def Ek (x : Nat) : Nat:=18446744073709551615 ^^^ x
def D6 (O : aL) (L : LL) (N x : Nat) : Int:=(mz O L (aR x N)).length+(mz O L (aR (Ek x) N)).length - L.length
def lW (Q : LI) : Nat->Nat
 | 0=>0
 | k+1=>lW Q k ||| 2 ^ (nth Q k).toNat
def qd (Q : LI) : Nat:=lW Q Q.length
theorem qy {Q : LI} : ∀k,(∀j,j<k->0<=nth Q j/\nth Q j<64)->lW Q k<18446744073709551616
 | 0,_=>by show (0 : Nat)<18446744073709551616;omega
 | k+1,h=>by have ih:=qy k λj hj=>h j (by omega);have hk:=h k (by omega);have : 2 ^ (nth Q k).toNat<2 ^ 64:=GM (by omega) (by omega);exact IG (n:=64) ih this
def xl (P M : Int) (mod : LI) (N : Int) (L : LL) (Q : LI) (w : World) (e : Ending) (w' : World) : Prop :=
 JA w w'/\(
  (aZ P M mod N L ≠ 0/\e = .returned (.tuple #[.int .i64 0,.int .i64 (aZ P M mod N L)])) \/
  (aZ P M mod N L=0/\bI N Q=false/\e = .returned (.tuple #[.int .i64 0,.int .i64 5])) \/
  (aZ P M mod N L=0/\bI N Q=true/\e = .returned (.tuple #[.int .i64 (D6 (an P M.toNat mod).ops L N.toNat (qd Q)),.int .i64 0])))
section
open Go.RowKit
end
section
open Go.RowKit
end
section
open Go.RowKit
end
end Go.Proofs.YtjfiflldinnhmaaGreat
