import Derived.Test.YthglbncgemdcbaaGreatBO7
import Derived.Test.YthglbncgemdcbaaGreatBO10
import Derived.Test.YthglbncgemdcbaaGreatBO11
import Derived.Laws.Bits64
namespace Go.Proofs.YthglbncgemdcbaaGreat
set_option linter.all false
set_option maxRecDepth 100000
set_option maxHeartbeats 8000000
open Go.RowKit Go.Proofs.Tryz
theorem wq (L:ZZ) (t:Nat):aY L t t=L:=by rw [aY,kc,kc]
theorem aS.newRow {V U:ej} {B:Nat} {a:OA} {n c:Nat} {R:Z4} {L:ZZ} (h:aS V B a n c R L) {i:Nat} (hi:i<n) (hb:SJ V U) (I:B<=V.heap.size) {a5:OA} {X:Nat} {l:Lz}
  (Z:U.ownsRow V.heap.size 3 1 (.slice a5 l.length X) l.length (l.map (Value.int .i64))) :
  ∃N,aS (U.setCell ⟨ablk a,aN a+i,none⟩ (.slice a5 l.length X)) B a n c N (L.set i l)/\aB V (U.setCell ⟨ablk a,aN a+i,none⟩ (.slice a5 l.length X)) (bN a R) (bN a N):=by
 have S:=h.ai hb;have Y:∀b,b<V.heap.size->dq a5 b:=λb hb=>jb Z hb;have h1:=S.setRow hi (bq Z I) (Y _ (h.lt _ (.inl ⟨h.ne (by omega),rfl⟩)).2) (λj H _=>by
  by_cases Q:(aM R j).1=none
  ·exact .inl Q
  ·exact .inr (Y _ (h.lt _ (aS.jS (by rw [h.rl];exact H) Q)).2))
 have h2:=h.jW hb hi (r:=a5) (rc:=X) (.slice a5 l.length X) (λha=>.inr (aP Z ha).1);exact ⟨_,h1,h2⟩
def j8 (O:aL) (L:ZZ) (Z:Nat) (w:ej) (e:Ending) (w':ej):Prop :=
 ∃a c R ap cp,e = ec #[.slice a L.length c,.slice ap (aE O L Z).2.length cp]/\aS w' w.heap.size a L.length c R (aE O L Z).1 /\
  w'.ownsRow w.heap.size 3 1 (.slice ap (aE O L Z).2.length cp) (aE O L Z).2.length ((aE O L Z).2.map (Value.int .i64))/\SJ w w'
theorem vA (P:Int) (m:Nat) (am:OA) (mn cm:Nat) (mod:Lz) (a:OA) (n c Y len:Nat) (L:ZZ) (w:ej) (hf:yD w P m am mn mod) (hi:bP w a n L)
  (hR:bz (fo P m) len L) (hcl:Y<=len) (hlen:len<=1000000) (hn:n<=1000000) (hinv:∀p,fo P m p->p ≠ 0->(gP P m mod p=1 ↔ p=1)) :
  Calls prog 179 #[.agg #[cG P,cG m,.slice am mn cm],.slice a n c,cG Y] w (j8 (mV P m mod) L Y w):=by
 obtain ⟨O,hO⟩:∃O,mV P m mod=O:=⟨_,rfl⟩
 rw [hO];have HO:=Z5 hO;have Hcl:Hid (qV O (fo P m)):=by show qV O _;rw [<- hO];exact M3 hf.rf mod
 have Hinv:=Z5 hinv;have Hlen:=Z5 hi.len;have HR:=Z5 hR;have hLl:∀l ∈ L,l.length<=1000000:=λl hl=>by rw [(hR l hl).1];exact hlen
 have HLl:=Z5 hLl;clear hinv hR hLl hO;have hfin:∀w' a' c' R' ap cp Lk r,(Lk,r)=aE O L Y->aS w' w.heap.size a' n c' R' Lk->w'.ownsRow w.heap.size 3 1 (.slice ap r.length cp) r.length (r.map (Value.int .i64))->SJ w w' ->
   j8 O L Y w (ec #[.slice a' n c',.slice ap r.length cp]) w':=by
  intro w' a' c' R' ap cp Lk r he h1 h2 h3;have e1:(aE O L Y).1=Lk:=by rw [<- he]
  have S:(aE O L Y).2=r:=by rw [<- he]
  refine ⟨a',c',R',ap,cp,?_,?_,?_,h3⟩
  ·rw [S,Hlen.out]
  ·rw [e1,Hlen.out];exact h1
  ·rw [S];exact h2
 have Hfin:=Z5 hfin;clear hfin;go_enter func179,ntmps179;go_wp2_with fail;obtain ⟨W,hW⟩:∃W:ej,W=w.alloc (.cells #[cG P,cG m,.slice am mn cm] 24):=⟨_,rfl⟩
 rw [<- hW];have hbW:SJ w W:=by rw [hW];exact aD _ _
 have x0:aQ W w.heap.size [cG P,cG m,.slice am mn cm]:=by rw [hW];exact RV _ _ _ rfl
 have HX:=Z5 x0;have hfW:=hf.ai hbW;clear hW x0;refine (F8 a n c L W (hi.ai hbW) hn HLl.out).mono ?_;rintro e w1 ⟨a1,c1,R1,rfl,hO1,hb1⟩;rw [Hlen.out] at hO1 ⊢;have hS:∀V,SJ W V->V.cell? ⟨w.heap.size,0,none⟩=some (cG P)/\V.cell? ⟨w.heap.size,1,none⟩=some (cG m)/\V.cell? ⟨w.heap.size,2,none⟩=some (.slice am mn cm)/\yD V P m am mn mod:=by intro V Q;have x1:=HX.ai Q;exact ⟨x1.cell 0 rfl,x1.cell 1 rfl,x1.cell 2 rfl,hfW.ai Q⟩
 have HS:=Z5 hS;have hpl1:=hO1.pl;clear hS;go_wp2_with fail;go_loopw [9,10,11] (λpv av cv wr=>∃(k:Nat) (R':Z4) (ap:OA) (cp:Nat) (Lk:ZZ) (r:Lz),k<=Y/\cv = cG k/\av = cG r.length/\pv = .slice ap r.length cp /\
   Hid ((Lk,r)=aE O L k)/\aS wr W.heap.size a1 n c1 R' Lk/\wr.ownsRow W.heap.size 3 1 (.slice ap r.length cp) r.length (r.map (Value.int .i64))/\Hid (ap ≠ none->¬ bN a1 R' (ablk ap)) /\
   SJ W wr/\bz (fo P m) len Lk/\r.length<=n) (λ_ _ cv _=>Y - (intOf cv).toNat)
 case atStart=>exact ⟨0,R1,none,0,L,[],Nb _,rfl,rfl,rfl,rfl,hO1,cJ,λh=>absurd rfl h,hb1,HR,Nb _⟩
 case round =>
  obtain ⟨k,R',ap,cp,Lk,r,hkc,rfl,rfl,rfl,hst,hOr,hop,hoi,hbr,hrw,hPn⟩:=hrel
  generalize wr=V at *
  have B:=Z5 hOr.ll
  by_cases hk:k<Y
  ·have hk':decide ((k:Int)<Y)=true:=by simp;omega
   by_cases I:r.length<n
   ·have hPl':decide ((r.length:Int)<n)=true:=by simp;omega
    obtain ⟨t,ht⟩:∃t,r.length=t:=⟨_,rfl⟩
    have Ht:=Z5 ht
    rw [ht] at I hPn hop hPl'
    rw [ht]
    clear ht
    go_wp2_with fail
    go_loop [12] (λkv=>∃j:Nat,t<=j/\j<=n/\kv = cG j/\Hid (aZ Lk k t=aZ Lk k j)) (λkv=>n - (intOf kv).toNat)
    case atStart=>exact ⟨t,M4 _,hPn,rfl,rfl⟩
    case round =>
     obtain ⟨j,hj1,hj2,rfl,hfr⟩:=hrel
     by_cases hjn:j<n
     ·have hLj:j<Lk.length:=by rw [B.out];exact hjn
      have hrow:=hrw.row hLj
      have ci:=hOr.cell hjn
      have ri:=hOr.ints hjn
      rw [hrow.1] at ci ri
      have ck:=ri.cell k (by omega)
      have hpr:=ri.pl
      have hkl:(k:Int)<len:=by omega
      have hjn':decide ((j:Int)<n)=true:=by simp;omega
      have hfs:=fP (c:=k) hLj
      by_cases hz:nth (aj Lk j) k=0
      ·rw [M7 hz] at hfs
       have hz':(nth (aj Lk j) k == 0)=true:=by simpa using hz
       have Hf:Hid (aZ Lk k t=aZ Lk k (j+1)):=by show _=_;rw [hfr.out,hfs]
       clear hz hfs hrow
       go_wp2_with fail
       go_round
       case rel=>exact ⟨j+1,by omega,by omega,by go_num,Hf⟩
       case measure=>simp [intOf]<;>omega
      ·rw [M8 hz] at hfs
       have hz':(nth (aj Lk j) k == 0)=false:=by simpa using hz
       have Hf:Hid (aZ Lk k t=j):=by show _=_;rw [hfr.out,hfs]
       have hjne:((j:Int) == n)=false:=by simp;omega
       have Hz:=Z5 hz
       have Hrow:=Z5 hrow
       clear hz hfs hrow
       have ct:=hOr.cell I
       have fk:=hOr.frozen hjn
       have ft:=hOr.frozen I
       have k3:(V.setCell ⟨ablk a1,aN a1+t,none⟩ (.slice (aM R' j).1 len (aM R' j).2)).cell? ⟨ablk a1,aN a1+j,none⟩=some (.slice (aM R' j).1 len (aM R' j).2):=by
        by_cases e:j=t
        ·subst e;exact Ns _ _ _ ct
        ·rw [Nr _ _ _ _ (by simp<;>omega)];exact ci
       have htl:t<Lk.length:=by rw [B.out];exact I
       have hrt:=hrw.row htl
       rw [hrt.1] at ct
       have Hrt:=Z5 hrt
       clear hrt
       go_upto_region 11 with fail
       go_cut [] (λwx=>∃R2,aS wx W.heap.size a1 n c1 R2 (aY Lk t j)/\aB V wx (bN a1 R') (bN a1 R2))
       case first =>
        have A:=(hOr.swap I hjn).drew
        have hM2:=(hOr.lq I hjn (.slice (aM R' j).1 (aj Lk j).length (aM R' j).2) (.slice (aM R' t).1 (aj Lk t).length (aM R' t).2)).drew
        rw [Hrow.1,Hrt.1] at A hM2
        have HO2:=Z5 (Ng A hM2)
        clear A hM2
        go_region
        all_goals (
         go_wp2_with fail
         go_meet
         exact ⟨_,HO2.1,HO2.2⟩)
       obtain ⟨R2,A,hM2⟩:=hcut
       generalize wc=U at *
       have hbU:SJ W U:=hbr.trans (hM2.below (λb' hb'=>(hOr.lt b' hb').1) hbr.size)
       have hrw1:=hrw.swap htl hLj
       have hl1:(aY Lk t j).length=n:=by rw [bU];exact B
       have hnz1:nth (aj (aY Lk t j) t) k ≠ 0:=by
        rw [kB _ _ _ _ htl hLj];have e:jQ t j t=j:=by unfold jQ;split<;>simp_all
        rw [e];exact Hz
       have HL1:Hid (eo O Lk t j k=clearTo O t k (bs O (aY Lk t j) t k) n):=by
        show _=_;rw [gV,B.out];by_cases e:j=t
        ·rw [M7 e,e,wq]
        ·rw [M8 e]
       obtain ⟨L1,hL1⟩:∃L1,aY Lk t j=L1:=⟨_,rfl⟩
       rw [hL1] at A hrw1 hl1 hnz1 HL1
       have hrow1:=hrw1.row (i:=t) (by omega)
       have tr:=A.cell I
       have ti:=A.ints I
       rw [hrow1.1] at tr ti
       have tc:=ti.cell k (by omega)
       have tp:=ti.pl
       have hel:fo P m (nth (aj L1 t) k):=hrow1.2 _ (aG (by rw [hrow1.1];omega))
       have hiff:=Hinv _ hel hnz1
       have hOinv:O.inv (nth (aj L1 t) k)=gP P m mod (nth (aj L1 t) k):=by rw [<- HO.out];rfl
       have HOinv:=Z5 hOinv
       have Hiff:=Z5 hiff
       have Hrow1:=Z5 hrow1
       have Hl1:=Z5 hl1
       have Hnz1:=Z5 hnz1
       have hopU:=hM2.own hop hoi.out
       have hoiU:ap ≠ none->¬ bN a1 R2 (ablk ap):=λhn=>hM2.not (aP hop hn).2 (hoi hn)
       have HoiU:=Z5 hoiU
       obtain ⟨d0,d1,d2,hfU⟩:=HS U hbU
       have hBU:=hbU.size
       clear hL1 hrow1 hl1 hnz1 hiff hOinv hoiU ci ri ck hpr ct fk ft k3 hjn' hz' hop hM2 hOr
       go_upto_if 69 with fail
       go_cut [] (λwx=>∃R3,aS wx W.heap.size a1 n c1 R3 (bs O L1 t k)/\aB U wx (bN a1 R2) (bN a1 R3))
       case first =>
        by_cases hp1:nth (aj L1 t) k=1
        ·have hp1':(nth (aj L1 t) k != 1)=false:=by simp [hp1]
         have Hn:Hid (bs O L1 t k=L1):=by show _=_;rw [bs,M7 (by rw [HOinv.out];exact Hiff.2 hp1)]
         clear hp1
         go_wp2_with fail
         go_meet
         exact ⟨R2,by rw [Hn.out];exact A,Sb _ _⟩
        ·have hp1':(nth (aj L1 t) k != 1)=true:=by simpa using hp1
         obtain ⟨N,hN⟩:∃N,(aj L1 t).map (mulR P m mod (gP P m mod (nth (aj L1 t) k)))=N:=⟨_,rfl⟩
         have Hn:Hid (bs O L1 t k=L1.set t N):=by show _=_;rw [bs,M8 (by rw [HOinv.out];exact λh=>hp1 (Hiff.1 h)),HOinv.out,<- hN,<- HO.out];rfl
         have hQ:∀V,SJ U V->V.cell? ⟨w.heap.size,0,none⟩=some (cG P)/\V.cell? ⟨w.heap.size,1,none⟩=some (cG m)/\V.cell? ⟨w.heap.size,2,none⟩=some (.slice am mn cm) /\
           V.cell? ⟨ablk a1,aN a1+t,none⟩=some (.slice (aM R2 t).1 len (aM R2 t).2)/\V.cell? ⟨ablk (aM R2 t).1,aN (aM R2 t).1+k,none⟩=some (cG (nth (aj L1 t) k))/\V.frozen? ⟨ablk a1,aN a1+t,none⟩=false/\SJ U V :=
          λV Q=>⟨aC Q d0,aC Q d1,aC Q d2,aC Q tr,aC Q tc,(A.ai Q).frozen I,Q⟩
         have HQ:=Z5 hQ
         have Hin:Hid (∀V,SJ U V->Calls prog 226 #[.agg #[cG P,cG m,.slice am mn cm],cG (nth (aj L1 t) k)] V λe w'=>e = .returned (cG (gP P m mod (nth (aj L1 t) k)))/\SJ V w') :=
          λV Q=>I8 P m am mn cm mod _ V (hfU.ai Q) hel
         have Hsc:Hid (∀V,SJ U V->Calls prog 225 #[.agg #[cG P,cG m,.slice am mn cm],cG (gP P m mod (nth (aj L1 t) k)),.slice (aM R2 t).1 len (aM R2 t).2] V (cR V N)) :=
          λV Q=>by rw [<- hN];exact C3 P m am mn cm mod _ _ len _ _ V (hfU.ai Q) (Dp hf.rf mod _) (ti.ai Q) Hrow1.2 hlen
         have HF:Hid (∀V5 a5 c5,V5.ownsRow U.heap.size 3 1 (.slice a5 N.length c5) N.length (N.map (Value.int .i64))->SJ U V5 ->
           ∃R3,aS (V5.setCell ⟨ablk a1,aN a1+t,none⟩ (.slice a5 N.length c5)) W.heap.size a1 n c1 R3 (bs O L1 t k)/\aB U (V5.setCell ⟨ablk a1,aN a1+t,none⟩ (.slice a5 N.length c5)) (bN a1 R2) (bN a1 R3)) :=
          λV5 a5 c5 h1 h2=>by rw [Hn.out];exact A.newRow I h2 hBU h1
         clear hp1 hQ hN
         go_wp2_with fail
         obtain ⟨p,hp⟩:∃p,nth (aj L1 t) k=p:=⟨_,rfl⟩
         rw [hp] at HQ Hin Hsc
         obtain ⟨iv,hiv⟩:∃iv,gP P m mod p=iv:=⟨_,rfl⟩
         rw [hiv] at Hin Hsc
         rw [hp] at tc
         clear hp hiv
         have hap:∀(V:ej) (v:Value),(V.setCell ⟨ablk a1,aN a1+t,none⟩ v).cell? ⟨ablk (aM R2 t).1,aN (aM R2 t).1+k,none⟩=V.cell? ⟨ablk (aM R2 t).1,aN (aM R2 t).1+k,none⟩:=λV v=>by
          refine Nr _ _ _ _ λe=>?_;have h0:(aM R2 t).1 ≠ none:=λh=>by have:=tp (by omega);rw [h] at this;cases this
          rcases A.ue t I with h1 | h1
          ·exact h0 h1
          ·have h2:=congrArg Addr.block e;simp at h2;first|exact h1 h2|exact h1 h2.symm
         have Hap:=Z5 hap
         have hBa:U.heap.size<=U.heap.size:=M4 _
         have hBlk:W.heap.size<=ablk a1:=(A.lt _ (.inl ⟨A.ne (by omega),rfl⟩)).1
         have HbU:=Z5 hbU
         have HX2:Hid (∀V,SJ W V->V.cell? ⟨w.heap.size,0,none⟩=some (cG P)/\V.cell? ⟨w.heap.size,1,none⟩=some (cG m)/\V.cell? ⟨w.heap.size,2,none⟩=some (.slice am mn cm)):=λV Q=>⟨(HS V Q).1,(HS V Q).2.1,(HS V Q).2.2.1⟩
         clear hap
         refine qR (λV=>V.cell? ⟨w.heap.size,0,none⟩=some (cG P)/\V.cell? ⟨w.heap.size,1,none⟩=some (cG m)/\V.cell? ⟨w.heap.size,2,none⟩=some (.slice am mn cm)/\V.cell? ⟨ablk a1,aN a1+t,none⟩=some (.slice (aM R2 t).1 len (aM R2 t).2)/\V.cell? ⟨ablk (aM R2 t).1,aN (aM R2 t).1+k,none⟩=some (cG p)) 18 (by kernel_rfl) (by exact ⟨d0,d1,d2,tr,tc⟩) λhI=>?_
         refine aV (i:=0) (v:=?_) rfl (by decide +kernel) (by decide +kernel) (by decide +kernel) (λ_ _ _ h=>h) (N0 ⟨by rfl,?_⟩) hI ?_
         rotate_left
         ·intro V Z;(try dsimp only at Z);obtain ⟨E,e1,S,D,H⟩:=Z;go_simp;(try with_reducible rfl)
         clear hI;intro hI;(try simp only [Act.put,M6,Nc,Nd] at hI ⊢)
         refine aV (i:=1) (v:=?_) rfl (by decide +kernel) (by decide +kernel) (by decide +kernel) (λ_ _ _ h=>h) (N0 ⟨by rfl,?_⟩) hI ?_
         rotate_left
         ·intro V Z;(try dsimp only at Z);obtain ⟨E,e1,S,D,H⟩:=Z;go_simp;(try with_reducible rfl)
         clear hI;intro hI;(try simp only [Act.put,M6,Nc,Nd] at hI ⊢)
         refine aV (i:=2) (v:=?_) rfl (by decide +kernel) (by decide +kernel) (by decide +kernel) (λ_ _ _ h=>h) (N0 ⟨by rfl,?_⟩) hI ?_
         rotate_left
         ·intro V Z;(try dsimp only at Z);obtain ⟨E,e1,S,D,H⟩:=Z;go_simp;(try with_reducible rfl)
         clear hI;intro hI;(try simp only [Act.put,M6,Nc,Nd] at hI ⊢)
         refine aV (i:=3) (v:=?_) rfl (by decide +kernel) (by decide +kernel) (by decide +kernel) (λ_ _ _ h=>h) (N0 ⟨by rfl,?_⟩) hI ?_
         rotate_left
         ·intro V Z;(try dsimp only at Z);obtain ⟨E,e1,S,D,H⟩:=Z;go_simp;(try with_reducible rfl)
         clear hI;intro hI;(try simp only [Act.put,M6,Nc,Nd] at hI ⊢)
         refine aV (i:=4) (v:=?_) rfl (by decide +kernel) (by decide +kernel) (by decide +kernel) (λ_ _ _ h=>h) (N0 ⟨by rfl,?_⟩) hI ?_
         rotate_left
         ·intro V Z;(try dsimp only at Z);obtain ⟨E,e1,S,D,H⟩:=Z;go_simp;(try with_reducible rfl)
         clear hI;intro hI;(try simp only [Act.put,M6,Nc,Nd] at hI ⊢)
         refine aV (i:=5) (v:=?_) rfl (by decide +kernel) (by decide +kernel) (by decide +kernel) (λ_ _ _ h=>h) (N0 ⟨by rfl,?_⟩) hI ?_
         rotate_left
         ·intro V Z;(try dsimp only at Z);obtain ⟨E,e1,S,D,H⟩:=Z;go_simp;(try with_reducible rfl)
         clear hI;intro hI;(try simp only [Act.put,M6,Nc,Nd] at hI ⊢)
         refine aV (i:=6) (v:=?_) rfl (by decide +kernel) (by decide +kernel) (by decide +kernel) (λ_ _ _ h=>h) (N0 ⟨by rfl,?_⟩) hI ?_
         rotate_left
         ·intro V Z;(try dsimp only at Z);obtain ⟨E,e1,S,D,H⟩:=Z;go_simp;(try with_reducible rfl)
         clear hI;intro hI;(try simp only [Act.put,M6,Nc,Nd] at hI ⊢)
         refine aV (i:=7) (v:=?_) rfl (by decide +kernel) (by decide +kernel) (by decide +kernel) (λ_ _ _ h=>h) (N0 ⟨by rfl,?_⟩) hI ?_
         rotate_left
         ·intro V Z;(try dsimp only at Z);obtain ⟨E,e1,S,D,H⟩:=Z;go_simp;(try with_reducible rfl)
         clear hI;intro hI;(try simp only [Act.put,M6,Nc,Nd] at hI ⊢)
         refine aV (i:=8) (v:=?_) rfl (by decide +kernel) (by decide +kernel) (by decide +kernel) (λ_ _ _ h=>h) (N0 ⟨by rfl,?_⟩) hI ?_
         rotate_left
         ·intro V Z;(try dsimp only at Z);obtain ⟨E,e1,S,D,H⟩:=Z;go_simp;(try with_reducible rfl)
         clear hI;intro hI;(try simp only [Act.put,M6,Nc,Nd] at hI ⊢)
         refine aV (i:=9) (v:=?_) rfl (by decide +kernel) (by decide +kernel) (by decide +kernel) (λ_ _ _ h=>h) (N0 ⟨by rfl,?_⟩) hI ?_
         rotate_left
         ·intro V Z;(try dsimp only at Z);obtain ⟨E,e1,S,D,H⟩:=Z;go_simp;(try with_reducible rfl)
         clear hI;intro hI;(try simp only [Act.put,M6,Nc,Nd] at hI ⊢)
         refine aV (i:=10) (v:=?_) rfl (by decide +kernel) (by decide +kernel) (by decide +kernel) (λ_ _ _ h=>h) (N0 ⟨by rfl,?_⟩) hI ?_
         rotate_left
         ·intro V Z;(try dsimp only at Z);obtain ⟨E,e1,S,D,H⟩:=Z;go_simp;(try with_reducible rfl)
         clear hI;intro hI;(try simp only [Act.put,M6,Nc,Nd] at hI ⊢)
         refine aV (i:=12) (v:=?_) rfl (by decide +kernel) (by decide +kernel) (by decide +kernel) (λ_ _ _ h=>h) (N0 ⟨by rfl,?_⟩) hI ?_
         rotate_left
         ·intro V Z;(try dsimp only at Z);obtain ⟨E,e1,S,D,H⟩:=Z;go_simp;(try with_reducible rfl)
         clear hI;intro hI;(try simp only [Act.put,M6,Nc,Nd] at hI ⊢)
         refine aV (i:=13) (v:=?_) rfl (by decide +kernel) (by decide +kernel) (by decide +kernel) (λ_ _ _ h=>h) (N0 ⟨by rfl,?_⟩) hI ?_
         rotate_left
         ·intro V Z;(try dsimp only at Z);obtain ⟨E,e1,S,D,H⟩:=Z;go_simp;(try with_reducible rfl)
         clear hI;intro hI;(try simp only [Act.put,M6,Nc,Nd] at hI ⊢)
         refine aV (i:=14) (v:=?_) rfl (by decide +kernel) (by decide +kernel) (by decide +kernel) (λ_ _ _ h=>h) (N0 ⟨by rfl,?_⟩) hI ?_
         rotate_left
         ·intro V Z;(try dsimp only at Z);obtain ⟨E,e1,S,D,H⟩:=Z;go_simp;(try with_reducible rfl)
         clear hI;intro hI;(try simp only [Act.put,M6,Nc,Nd] at hI ⊢)
         refine aV (i:=15) (v:=?_) rfl (by decide +kernel) (by decide +kernel) (by decide +kernel) (λ_ _ _ h=>h) (N0 ⟨by rfl,?_⟩) hI ?_
         rotate_left
         ·intro V Z;(try dsimp only at Z);obtain ⟨E,e1,S,D,H⟩:=Z;go_simp;(try with_reducible rfl)
         clear hI;intro hI;(try simp only [Act.put,M6,Nc,Nd] at hI ⊢)
         refine mE (i:=11) (by decide +kernel) (by omega) hI.1 rfl (λK hK=>?_)
         go_simp
         go_at_call 226;((with_reducible refine (Hin.out _ (M5 _ _).drew).mono ?_);rintro e w4 ⟨rfl,hb4⟩;obtain ⟨q0,q1,q2,q3,q4,q5,q6⟩:=HQ.out w4 (RU (M5 _ _).drew hb4))
         refine hK _ _ (by exact ⟨q0,q1,q2,q3,q4⟩) (λhI=>?_)
         clear hK K
         refine mE (i:=16) (by decide +kernel) (by omega) hI.1 rfl (λK hK=>?_)
         go_simp
         go_at_call 225;((with_reducible refine (Hsc.out _ q6).mono ?_);rintro e w5 ⟨a5,c5,rfl,hown5,hb5⟩;obtain ⟨s0,s1,s2,s3,s4,s5,s6⟩:=HQ.out w5 (RU q6 hb5))
         refine hK _ _ (by exact ⟨s0,s1,s2,s3,s4⟩) (λhI=>?_)
         clear hK K
         refine aV (i:=17) (v:=?_) rfl (by decide +kernel) (by decide +kernel) (by decide +kernel) (λ_ _ _ h=>h) (N0 ⟨by rfl,?_⟩) hI ?_
         rotate_left
         ·intro V Z;(try dsimp only at Z);obtain ⟨E,e1,S,D,H⟩:=Z;go_simp;(try with_reducible rfl)
         clear hI;intro hI;(try simp only [Act.put,M6,Nc,Nd] at hI ⊢)
         refine sT (i:=18) (by decide +kernel) (by omega) (by decide +kernel) rfl (λK hK=>?_)
         go_simp
         refine hK _ _ ?_
         clear hK K
         have Ho5:=Z5 (bq hown5 q6.size)
         clear hown5
         go_wp2_with fail
         go_meet
         exact HF _ _ _ Ho5.out s6
       obtain ⟨R3,hO3,hM3⟩:=hcut
       generalize wc=T at *
       have hbT:SJ W T:=hbU.trans (hM3.below (λb' hb'=>(A.lt b' hb').1) hbU.size)
       have hrw2:=hrw1.norm Hcl.out (t:=t) (c:=k) (by rw [Hl1.out];exact I) (by omega) Hnz1.out
       have hl2:(bs O L1 t k).length=n:=by rw [di];exact Hl1
       have Hl2:=Z5 hl2
       have hopT:=hM3.own hopU HoiU.out
       have hoiT:ap ≠ none->¬ bN a1 R3 (ablk ap):=λhn=>hM3.not (aP hopU hn).2 (HoiU hn)
       have HoiT:=Z5 hoiT
       clear hl2 hoiT tr ti tc tp hel d0 d1 d2 hfU hopU hM3
       obtain ⟨L2,hL2⟩:∃L2,bs O L1 t k=L2:=⟨_,rfl⟩
       rw [hL2] at hO3 hrw2 Hl2 HL1
       clear hL2
       go_wp2_with fail
       go_loopw [13] (λiv wx=>∃(i:Nat) (C:Z4),i<=n/\iv = cG i/\aS wx W.heap.size a1 n c1 C (clearTo O t k L2 i)/\aB T wx (bN a1 R3) (bN a1 C)) (λiv _=>n - (intOf iv).toNat)
       case atStart=>exact ⟨0,R3,Nb _,rfl,hO3,Sb _ _⟩
       case round =>
        obtain ⟨i,C,hi,rfl,z,hMi⟩:=hrel
        generalize wr=X at *
        have hbX:SJ W X:=hbT.trans (hMi.below (λb' hb'=>(hO3.lt b' hb').1) hbT.size)
        obtain ⟨d0,d1,d2,hfX⟩:=HS X hbX
        by_cases hin:i<n
        ·have hrwi:=Si Hcl.out hrw2 (t:=t) (c:=k) (by rw [Hl2.out];exact I) (by omega) i (by rw [Hl2.out];exact hi)
         have hli:(clearTo O t k L2 i).length=n:=by rw [dj];exact Hl2
         have hstep:clearTo O t k L2 (i+1)=if i=t then clearTo O t k L2 i else (clearTo O t k L2 i).set i (bT O (aj (clearTo O t k L2 i) t) k (aj (clearTo O t k L2 i) i)):=rfl
         have Hstep:=Z5 hstep
         obtain ⟨Li,hLi⟩:∃Li,clearTo O t k L2 i=Li:=⟨_,rfl⟩
         rw [hLi] at hrwi hli Hstep z
         have hri:=hrwi.row (i:=i) (by omega)
         have hrt:=hrwi.row (i:=t) (by omega)
         have ci:=z.cell hin
         have ct:=z.cell I
         have ii:=z.ints hin
         have it:=z.ints I
         rw [hri.1] at ci ii
         rw [hrt.1] at ct it
         have ck:=ii.cell k (by omega)
         have hpi:=ii.pl
         have hxel:fo P m (nth (aj Li i) k):=hri.2 _ (aG (by rw [hri.1];omega))
         have Hri:=Z5 hri
         have Hrt:=Z5 hrt
         clear hri hrt hli hstep hLi
         by_cases hit:i=t
         ·have hit':((i:Int) != t)=false:=by simp [hit]
          have Hn:Hid (clearTo O t k L2 (i+1)=Li):=by show _=_;rw [Hstep.out,M7 hit]
          clear hit
          go_wp2_with fail
          go_roundw
          case rel=>exact ⟨i+1,C,by omega,by go_num,by rw [Hn.out];exact z,hMi⟩
          case measure=>simp [intOf]<;>omega
         ·have hit':((i:Int) != t)=true:=by simp;omega
          by_cases hx0:nth (aj Li i) k=0
          ·have hx0':(nth (aj Li i) k != 0)=false:=by simp [hx0]
           have Hn:Hid (clearTo O t k L2 (i+1)=Li):=by show _=_;rw [Hstep.out,M8 hit,bT,M7 hx0,kc]
           clear hit hx0
           go_wp2_with fail
           go_roundw
           case rel=>exact ⟨i+1,C,by omega,by go_num,by rw [Hn.out];exact z,hMi⟩
           case measure=>simp [intOf]<;>omega
          ·have hx0':(nth (aj Li i) k != 0)=true:=by simpa using hx0
           obtain ⟨N,hN⟩:∃N,bZ O (aj Li i) (fneg P m (nth (aj Li i) k)) (aj Li t)=N:=⟨_,rfl⟩
           have Hn:Hid (clearTo O t k L2 (i+1)=Li.set i N):=by show _=_;rw [Hstep.out,M8 hit,bT,M8 hx0,<- hN,<- HO.out];rfl
           have hQ:∀V,SJ X V->V.cell? ⟨w.heap.size,0,none⟩=some (cG P)/\V.cell? ⟨w.heap.size,1,none⟩=some (cG m)/\V.cell? ⟨w.heap.size,2,none⟩=some (.slice am mn cm) /\
             V.cell? ⟨ablk a1,aN a1+i,none⟩=some (.slice (aM C i).1 len (aM C i).2)/\V.cell? ⟨ablk a1,aN a1+t,none⟩=some (.slice (aM C t).1 len (aM C t).2)/\V.cell? ⟨ablk (aM C i).1,aN (aM C i).1+k,none⟩=some (cG (nth (aj Li i) k))/\V.frozen? ⟨ablk a1,aN a1+i,none⟩=false/\SJ X V :=
            λV Q=>⟨aC Q d0,aC Q d1,aC Q d2,aC Q ci,aC Q ct,aC Q ck,(z.ai Q).frozen hin,Q⟩
           have HQ:=Z5 hQ
           have Hng:Hid (∀V,SJ X V->Calls prog 107 #[.agg #[cG P,cG m,.slice am mn cm],cG (nth (aj Li i) k)] V λe w'=>e = .returned (cG (fneg P m (nth (aj Li i) k)))/\SJ V w') :=
            λV Q=>zl P m am mn cm _ V hf.rf (hf.rf.jx hxel)
           have Had:Hid (∀V,SJ X V->Calls prog 227 #[.agg #[cG P,cG m,.slice am mn cm],.slice (aM C i).1 len (aM C i).2,cG (fneg P m (nth (aj Li i) k)),.slice (aM C t).1 len (aM C t).2] V (cR V N)) :=
            λV Q=>by rw [<- hN,<- HO.out];exact Bq P m am mn cm mod _ len _ _ _ _ _ _ V (hfX.ai Q) (xH hf.rf.res _) (ii.ai Q) (it.ai Q) Hri.2 Hrt.2 hlen
           have HF:Hid (∀V5 a5 c5,V5.ownsRow X.heap.size 3 1 (.slice a5 N.length c5) N.length (N.map (Value.int .i64))->SJ X V5 ->
             ∃R5,aS (V5.setCell ⟨ablk a1,aN a1+i,none⟩ (.slice a5 N.length c5)) W.heap.size a1 n c1 R5 (clearTo O t k L2 (i+1))/\aB X (V5.setCell ⟨ablk a1,aN a1+i,none⟩ (.slice a5 N.length c5)) (bN a1 C) (bN a1 R5)) :=
            λV5 a5 c5 h1 h2=>by rw [Hn.out];exact z.newRow hin h2 hbX.size h1
           have Hit:=Z5 hit
           clear hit hx0 hQ hN Hn
           obtain ⟨p,hp⟩:∃p,nth (aj Li i) k=p:=⟨_,rfl⟩
           rw [hp] at HQ Hng Had ck hx0'
           obtain ⟨iv,hiv⟩:∃iv,fneg P m p=iv:=⟨_,rfl⟩
           rw [hiv] at Hng Had
           clear hp hiv
           have hap:∀(V:ej) (v:Value),(V.setCell ⟨ablk a1,aN a1+i,none⟩ v).cell? ⟨ablk (aM C i).1,aN (aM C i).1+k,none⟩=V.cell? ⟨ablk (aM C i).1,aN (aM C i).1+k,none⟩ /\
             (V.setCell ⟨ablk a1,aN a1+i,none⟩ v).cell? ⟨ablk a1,aN a1+t,none⟩=V.cell? ⟨ablk a1,aN a1+t,none⟩:=λV v=>by
            refine ⟨Nr _ _ _ _ λe=>?_,Nr _ _ _ _ (by have:=Hit.out;simp<;>omega)⟩;have h0:(aM C i).1 ≠ none:=λh=>by have:=hpi (by omega);rw [h] at this;cases this
            rcases z.ue i hin with h1 | h1
            ·exact h0 h1
            ·have h2:=congrArg Addr.block e;simp at h2;first|exact h1 h2|exact h1 h2.symm
           have Hap:=Z5 hap
           have hBlk:W.heap.size<=ablk a1:=(z.lt _ (.inl ⟨z.ne (by omega),rfl⟩)).1
           have HbX:=Z5 hbX
           have HX2:Hid (∀V,SJ W V->V.cell? ⟨w.heap.size,0,none⟩=some (cG P)/\V.cell? ⟨w.heap.size,1,none⟩=some (cG m)/\V.cell? ⟨w.heap.size,2,none⟩=some (.slice am mn cm)):=λV Q=>⟨(HS V Q).1,(HS V Q).2.1,(HS V Q).2.2.1⟩
           clear hap
           go_wp2_with fail
           refine qR (λV=>V.cell? ⟨w.heap.size,0,none⟩=some (cG P)/\V.cell? ⟨w.heap.size,1,none⟩=some (cG m)/\V.cell? ⟨w.heap.size,2,none⟩=some (.slice am mn cm)/\V.cell? ⟨ablk a1,aN a1+i,none⟩=some (.slice (aM C i).1 len (aM C i).2)/\V.cell? ⟨ablk a1,aN a1+t,none⟩=some (.slice (aM C t).1 len (aM C t).2)/\V.cell? ⟨ablk (aM C i).1,aN (aM C i).1+k,none⟩=some (cG p)) 22 (by kernel_rfl) (by exact ⟨d0,d1,d2,ci,ct,ck⟩) λhI=>?_
           refine aV (i:=0) (v:=?_) rfl (by decide +kernel) (by decide +kernel) (by decide +kernel) (λ_ _ _ h=>h) (N0 ⟨by rfl,?_⟩) hI ?_
           rotate_left
           ·intro V Z;(try dsimp only at Z);obtain ⟨E,e1,S,D,H,e5⟩:=Z;go_simp;(try with_reducible rfl)
           clear hI;intro hI;(try simp only [Act.put,M6,Nc,Nd] at hI ⊢)
           refine aV (i:=1) (v:=?_) rfl (by decide +kernel) (by decide +kernel) (by decide +kernel) (λ_ _ _ h=>h) (N0 ⟨by rfl,?_⟩) hI ?_
           rotate_left
           ·intro V Z;(try dsimp only at Z);obtain ⟨E,e1,S,D,H,e5⟩:=Z;go_simp;(try with_reducible rfl)
           clear hI;intro hI;(try simp only [Act.put,M6,Nc,Nd] at hI ⊢)
           refine aV (i:=2) (v:=?_) rfl (by decide +kernel) (by decide +kernel) (by decide +kernel) (λ_ _ _ h=>h) (N0 ⟨by rfl,?_⟩) hI ?_
           rotate_left
           ·intro V Z;(try dsimp only at Z);obtain ⟨E,e1,S,D,H,e5⟩:=Z;go_simp;(try with_reducible rfl)
           clear hI;intro hI;(try simp only [Act.put,M6,Nc,Nd] at hI ⊢)
           refine aV (i:=3) (v:=?_) rfl (by decide +kernel) (by decide +kernel) (by decide +kernel) (λ_ _ _ h=>h) (N0 ⟨by rfl,?_⟩) hI ?_
           rotate_left
           ·intro V Z;(try dsimp only at Z);obtain ⟨E,e1,S,D,H,e5⟩:=Z;go_simp;(try with_reducible rfl)
           clear hI;intro hI;(try simp only [Act.put,M6,Nc,Nd] at hI ⊢)
           refine aV (i:=4) (v:=?_) rfl (by decide +kernel) (by decide +kernel) (by decide +kernel) (λ_ _ _ h=>h) (N0 ⟨by rfl,?_⟩) hI ?_
           rotate_left
           ·intro V Z;(try dsimp only at Z);obtain ⟨E,e1,S,D,H,e5⟩:=Z;go_simp;(try with_reducible rfl)
           clear hI;intro hI;(try simp only [Act.put,M6,Nc,Nd] at hI ⊢)
           refine aV (i:=5) (v:=?_) rfl (by decide +kernel) (by decide +kernel) (by decide +kernel) (λ_ _ _ h=>h) (N0 ⟨by rfl,?_⟩) hI ?_
           rotate_left
           ·intro V Z;(try dsimp only at Z);obtain ⟨E,e1,S,D,H,e5⟩:=Z;go_simp;(try with_reducible rfl)
           clear hI;intro hI;(try simp only [Act.put,M6,Nc,Nd] at hI ⊢)
           refine aV (i:=6) (v:=?_) rfl (by decide +kernel) (by decide +kernel) (by decide +kernel) (λ_ _ _ h=>h) (N0 ⟨by rfl,?_⟩) hI ?_
           rotate_left
           ·intro V Z;(try dsimp only at Z);obtain ⟨E,e1,S,D,H,e5⟩:=Z;go_simp;(try with_reducible rfl)
           clear hI;intro hI;(try simp only [Act.put,M6,Nc,Nd] at hI ⊢)
           refine aV (i:=7) (v:=?_) rfl (by decide +kernel) (by decide +kernel) (by decide +kernel) (λ_ _ _ h=>h) (N0 ⟨by rfl,?_⟩) hI ?_
           rotate_left
           ·intro V Z;(try dsimp only at Z);obtain ⟨E,e1,S,D,H,e5⟩:=Z;go_simp;(try with_reducible rfl)
           clear hI;intro hI;(try simp only [Act.put,M6,Nc,Nd] at hI ⊢)
           refine aV (i:=8) (v:=?_) rfl (by decide +kernel) (by decide +kernel) (by decide +kernel) (λ_ _ _ h=>h) (N0 ⟨by rfl,?_⟩) hI ?_
           rotate_left
           ·intro V Z;(try dsimp only at Z);obtain ⟨E,e1,S,D,H,e5⟩:=Z;go_simp;(try with_reducible rfl)
           clear hI;intro hI;(try simp only [Act.put,M6,Nc,Nd] at hI ⊢)
           refine aV (i:=9) (v:=?_) rfl (by decide +kernel) (by decide +kernel) (by decide +kernel) (λ_ _ _ h=>h) (N0 ⟨by rfl,?_⟩) hI ?_
           rotate_left
           ·intro V Z;(try dsimp only at Z);obtain ⟨E,e1,S,D,H,e5⟩:=Z;go_simp;(try with_reducible rfl)
           clear hI;intro hI;(try simp only [Act.put,M6,Nc,Nd] at hI ⊢)
           refine aV (i:=10) (v:=?_) rfl (by decide +kernel) (by decide +kernel) (by decide +kernel) (λ_ _ _ h=>h) (N0 ⟨by rfl,?_⟩) hI ?_
           rotate_left
           ·intro V Z;(try dsimp only at Z);obtain ⟨E,e1,S,D,H,e5⟩:=Z;go_simp;(try with_reducible rfl)
           clear hI;intro hI;(try simp only [Act.put,M6,Nc,Nd] at hI ⊢)
           refine aV (i:=11) (v:=?_) rfl (by decide +kernel) (by decide +kernel) (by decide +kernel) (λ_ _ _ h=>h) (N0 ⟨by rfl,?_⟩) hI ?_
           rotate_left
           ·intro V Z;(try dsimp only at Z);obtain ⟨E,e1,S,D,H,e5⟩:=Z;go_simp;(try with_reducible rfl)
           clear hI;intro hI;(try simp only [Act.put,M6,Nc,Nd] at hI ⊢)
           refine aV (i:=12) (v:=?_) rfl (by decide +kernel) (by decide +kernel) (by decide +kernel) (λ_ _ _ h=>h) (N0 ⟨by rfl,?_⟩) hI ?_
           rotate_left
           ·intro V Z;(try dsimp only at Z);obtain ⟨E,e1,S,D,H,e5⟩:=Z;go_simp;(try with_reducible rfl)
           clear hI;intro hI;(try simp only [Act.put,M6,Nc,Nd] at hI ⊢)
           refine aV (i:=13) (v:=?_) rfl (by decide +kernel) (by decide +kernel) (by decide +kernel) (λ_ _ _ h=>h) (N0 ⟨by rfl,?_⟩) hI ?_
           rotate_left
           ·intro V Z;(try dsimp only at Z);obtain ⟨E,e1,S,D,H,e5⟩:=Z;go_simp;(try with_reducible rfl)
           clear hI;intro hI;(try simp only [Act.put,M6,Nc,Nd] at hI ⊢)
           refine aV (i:=14) (v:=?_) rfl (by decide +kernel) (by decide +kernel) (by decide +kernel) (λ_ _ _ h=>h) (N0 ⟨by rfl,?_⟩) hI ?_
           rotate_left
           ·intro V Z;(try dsimp only at Z);obtain ⟨E,e1,S,D,H,e5⟩:=Z;go_simp;(try with_reducible rfl)
           clear hI;intro hI;(try simp only [Act.put,M6,Nc,Nd] at hI ⊢)
           refine aV (i:=16) (v:=?_) rfl (by decide +kernel) (by decide +kernel) (by decide +kernel) (λ_ _ _ h=>h) (N0 ⟨by rfl,?_⟩) hI ?_
           rotate_left
           ·intro V Z;(try dsimp only at Z);obtain ⟨E,e1,S,D,H,e5⟩:=Z;go_simp;(try with_reducible rfl)
           clear hI;intro hI;(try simp only [Act.put,M6,Nc,Nd] at hI ⊢)
           refine aV (i:=17) (v:=?_) rfl (by decide +kernel) (by decide +kernel) (by decide +kernel) (λ_ _ _ h=>h) (N0 ⟨by rfl,?_⟩) hI ?_
           rotate_left
           ·intro V Z;(try dsimp only at Z);obtain ⟨E,e1,S,D,H,e5⟩:=Z;go_simp;(try with_reducible rfl)
           clear hI;intro hI;(try simp only [Act.put,M6,Nc,Nd] at hI ⊢)
           refine aV (i:=18) (v:=?_) rfl (by decide +kernel) (by decide +kernel) (by decide +kernel) (λ_ _ _ h=>h) (N0 ⟨by rfl,?_⟩) hI ?_
           rotate_left
           ·intro V Z;(try dsimp only at Z);obtain ⟨E,e1,S,D,H,e5⟩:=Z;go_simp;(try with_reducible rfl)
           clear hI;intro hI;(try simp only [Act.put,M6,Nc,Nd] at hI ⊢)
           refine aV (i:=19) (v:=?_) rfl (by decide +kernel) (by decide +kernel) (by decide +kernel) (λ_ _ _ h=>h) (N0 ⟨by rfl,?_⟩) hI ?_
           rotate_left
           ·intro V Z;(try dsimp only at Z);obtain ⟨E,e1,S,D,H,e5⟩:=Z;go_simp;(try with_reducible rfl)
           clear hI;intro hI;(try simp only [Act.put,M6,Nc,Nd] at hI ⊢)
           refine mE (i:=15) (by decide +kernel) (by omega) hI.1 rfl (λK hK=>?_)
           go_simp
           go_at_call 107;((with_reducible refine (Hng.out _ (M5 _ _).drew).mono ?_);rintro e w4 ⟨rfl,hb4⟩;obtain ⟨q0,q1,q2,q3,q4,q5,q7,q6⟩:=HQ.out w4 (RU (M5 _ _).drew hb4))
           refine hK _ _ (by exact ⟨q0,q1,q2,q3,q4,q5⟩) (λhI=>?_)
           clear hK K
           refine mE (i:=20) (by decide +kernel) (by omega) hI.1 rfl (λK hK=>?_)
           go_simp
           go_at_call 227;((with_reducible refine (Had.out _ q6).mono ?_);rintro e w5 ⟨a5,c5,rfl,hown5,hb5⟩;obtain ⟨s0,s1,s2,s3,s4,s5,s7,s6⟩:=HQ.out w5 (RU q6 hb5))
           refine hK _ _ (by exact ⟨s0,s1,s2,s3,s4,s5⟩) (λhI=>?_)
           clear hK K
           refine aV (i:=21) (v:=?_) rfl (by decide +kernel) (by decide +kernel) (by decide +kernel) (λ_ _ _ h=>h) (N0 ⟨by rfl,?_⟩) hI ?_
           rotate_left
           ·intro V Z;(try dsimp only at Z);obtain ⟨E,e1,S,D,H,e5⟩:=Z;go_simp;(try with_reducible rfl)
           clear hI;intro hI;(try simp only [Act.put,M6,Nc,Nd] at hI ⊢)
           refine sT (i:=22) (by decide +kernel) (by omega) (by decide +kernel) rfl (λK hK=>?_)
           go_simp
           refine hK _ _ ?_
           clear hK K
           have Ho5:=Z5 (bq hown5 q6.size)
           have Hs6:=Z5 s6
           clear hown5 HQ Hng Had q0 q1 q2 q3 q4 q5 q6 q7 s0 s1 s2 s3 s4 s5 s6 s7
           go_wp2_with fail
           go_roundw
           case rel =>
            obtain ⟨R5,hO5,hM5⟩:=HF _ _ _ Ho5.out Hs6.out
            exact ⟨i+1,R5,by omega,by go_num,hO5,hMi.trans hM5⟩
           case measure=>simp [intOf]<;>omega
        ·obtain rfl:i=n:=by omega
         have hopX:=hMi.own hopT HoiT.out
         have hoiX:ap ≠ none->¬ bN a1 C (ablk ap):=λhn=>hMi.not (aP hopT hn).2 (HoiT hn)
         have HoiX:=Z5 hoiX
         have hcn:=bh X (cG k) 3
         have hbn:=aD X (.cells #[cG k] 3)
         have hsz:=hbX.size
         clear hoiX
         go_wp2_with (at_builtin;refine bd rfl _ _ 22 3 rfl (cG 0) 8 underlying22 br rfl W.heap.size ap t cp _ rfl (hopX.alloc _) ⟨X.heap.size,0,none⟩ 1 (cG k) rfl hcn rfl (by omega) (by unfold maxLen;omega) (by simp;omega) ?_;intro a3 c3 w3 hown3 hgr hap3)
         go_roundw
         case rel =>
          have hnx:aE O L (k+1)=(clearTo O t k L2 i,r ++ [(k:Int)]):=by rw [dG hst.out (by rw [B.out,Ht.out];exact I),Ht.out,M8 (by rw [Hf.out,B.out];omega),Hf.out,HL1.out]
          have hne:∀b',bN a1 C b'->dq ap b':=λb' hb'=>by
           by_cases hn:ap=none
           ·exact .inl hn
           ·exact .inr λe=>HoiX hn (by rw [e];exact hb')
          have hOn:=z.ai hbn
          have hO6:aS w3 W.heap.size a1 i c1 C (clearTo O t k L2 i):=hOn.bf λb' hb'=>hgr.block b' (hOn.lt b' hb').2 λe=>(hne b' hb').own t cp e.symm
          have hb3:SJ W w3:=RY (NK hbX (hbn.mono hsz)) (hopX.alloc _) hgr (M4 _) (Np hsz hbn.size)
          have hrw3:=Si Hcl.out hrw2 (t:=t) (c:=k) (by rw [Hl2.out];exact I) (by omega) i (by rw [Hl2.out];exact hi)
          have ho4:a3 ≠ none->¬ bN a1 C (ablk a3):=λhn hI=>by
           rcases hap3 _ (hOn.lt _ hI).2 (hne _ hI) with h1 | h1
           ·exact hn h1
           ·exact h1 rfl
          have hPl2:(r ++ [(k:Int)]).length=t+1:=by rw [Ni,Ht.out];rfl
          refine ⟨k+1,C,a3,c3,clearTo O t k L2 i,r ++ [(k:Int)],by omega,by go_num,by rw [hPl2];go_num,by rw [hPl2],hnx.symm,hO6,?_,ho4,hb3,hrw3,by rw [hPl2];omega⟩
          rw [hPl2];simpa using hown3
         case measure=>simp [intOf]<;>omega
     ·obtain rfl:j=n:=by omega
      have Hn:Hid ((Lk,r)=aE O L (k+1)):=by show _=_;rw [dG hst.out (by rw [B.out,Ht.out];exact I),Ht.out,M7 (by rw [hfr.out,iK (by rw [B.out];exact M4 _),B.out])]
      have hjj:decide ((j:Int)<j)=false:=by simp
      go_wp2_with fail
      go_roundw
      case rel=>exact ⟨k+1,R',ap,cp,Lk,r,by omega,by go_num,by rw [Ht.out],by rw [Ht.out],Hn,hOr,by rw [Ht.out];exact hop,hoi,hbr,hrw,by rw [Ht.out];exact hPn⟩
      case measure=>simp [intOf]<;>omega
   ·have hPe:r.length=n:=by omega
    have hfull:(Lk,r)=aE O L Y:=by rw [show Y=k+(Y - k) by omega,fG (by rw [<- hst.out,hPe,<- Hlen.out]),<- hst.out]
    have Hfull:=Z5 hfull
    have hPe':decide ((r.length:Int)<n)=false:=by simp;omega
    clear hfull hPe
    go_wp2_with fail
    go_ret2
    exact Hfin _ _ _ _ _ _ _ _ Hfull.out (hOr.mono hbW.size) (bq hop hbW.size) (RU hbW hbr)
  ·obtain rfl:k=Y:=by omega
   have hk':decide ((k:Int)<k)=false:=by simp
   go_wp2_with fail
   go_ret2
   exact Hfin _ _ _ _ _ _ _ _ hst.out (hOr.mono hbW.size) (bq hop hbW.size) (RU hbW hbr)
section
variable {O:aL} {El:Int->Prop} {m n:Nat}
theorem j7.smul (F:bQ O El) {X:Lz->Int} (h:j7 O El n X) {s:Int} (Y:El s):j7 O El n (λv=>O.mul s (X v)) :=
 ⟨λv U=>F.cl.mul _ _ Y (h.el v U),
  λv r x U V Z=>by show O.mul s (X (dH O v x r))=O.add (O.mul s (X v)) (O.neg (O.mul x (O.mul s (X r))));have h1:=h.el v U;have h2:=h.el r V;rw [h.sub v r x U V Z,F.mul_add s _ _ Y h1 (F.cl.neg _ (F.cl.mul _ _ Z h2)),F.mul_neg Y (F.cl.mul _ _ Z h2),<- F.mul_assoc s x _ Y Z h2,F.mul_comm s x Y Z,F.mul_assoc x s _ Z Y h2],
  λr x V Z=>by show O.mul s (X (r.map (O.mul x)))=O.mul x (O.mul s (X r));have h2:=h.el r V;rw [h.Da r x V Z,<- F.mul_assoc s x _ Y Z h2,F.mul_comm s x Y Z,F.mul_assoc x s _ Z Y h2]⟩
theorem dN (g:Nat->Int) (k i:Nat) (hi:i<k):nth ((List.range k).map g) i=g i:=by rw [an (by simpa using hi)];simp
theorem j7.vec {k:Nat} {e:Lz->Int} (he:j7 O El k e) (g:Nat->Lz->Int) (S:∀i,i<k->j7 O El n (g i)):j7 O El n (λv=>e ((List.range k).map λi=>g i v)):=by
 have Y:∀v,Vc El n v->Vc El k ((List.range k).map λi=>g i v):=λv X=>⟨by simp,λy hy=>by obtain ⟨i,hi,rfl⟩:=List.mem_map.1 hy;exact (S i (List.mem_range.1 hi)).el v X⟩
 refine ⟨λv X=>he.el _ (Y v X),λv r x X U V=>?_,λr x U V=>?_⟩
 ·show e _=_;rw [<- he.sub _ _ x (Y v X) (Y r U) V];congr 1;refine fy (by rw [ez _ _ _ _ (by simp)];simp) λi hi=>?_;have Z:i<k:=by simpa using hi
  rw [ey O _ x _ i (by simp) (by simpa using Z),dN _ _ _ Z,dN _ _ _ Z,dN _ _ _ Z];exact (S i Z).sub v r x X U V
 ·show e _=_;rw [<- he.Da _ x (Y r U) V];congr 1;refine fy (by simp) λi hi=>?_;have Z:i<k:=by simpa using hi
  rw [ij O _ x (by simpa using Z),dN _ _ _ Z,dN _ _ _ Z];exact (S i Z).Da r x U V
def RS (O:aL) (El:Int->Prop) (m:Nat) (L:ZZ) (f:Nat->Int):Prop:=∃e,j7 O El L.length e/\∀x,x<m->f x=e (bp L x)
theorem RS.row (F:bQ O El) {L:ZZ} {i:Nat} (hi:i<L.length):RS O El m L (λx=>nth (aj L i) x) :=
 ⟨λv=>nth v i,j7.zq F hi,λx _=>(dx L x i hi).symm⟩
theorem RS.comb (F:bQ O El) {L:ZZ} {f g:Nat->Int} (V:RS O El m L f) (U:RS O El m L g) {s:Int} (S:El s):RS O El m L (λx=>O.add (f x) (O.neg (O.mul (g x) s))):=by obtain ⟨a,ha,Y⟩:=V;obtain ⟨b,hb,Z⟩:=U;exact ⟨_,ha.comb F hb S,λx X=>by show O.add (f x) _=_;rw [Y x X,Z x X]⟩
theorem RS.smul (F:bQ O El) {L:ZZ} {f:Nat->Int} (Y:RS O El m L f) {s:Int} (V:El s):RS O El m L (λx=>O.mul s (f x)):=by obtain ⟨a,ha,Z⟩:=Y;exact ⟨_,ha.smul F V,λx X=>by show O.mul s (f x)=_;rw [Z x X]⟩
theorem RS.congr {L:ZZ} {f g:Nat->Int} (X:RS O El m L f) (h:∀x,x<m->g x=f x):RS O El m L g:=by obtain ⟨a,ha,Z⟩:=X;exact ⟨a,ha,λx Y=>by rw [h x Y,Z x Y]⟩
def eY (O:aL) (El:Int->Prop) (m:Nat) (A B:ZZ):Prop:=∀i,i<A.length->RS O El m B (λx=>nth (aj A i) x)
theorem eY.refl (F:bQ O El) (L:ZZ):eY O El m L L:=λ_ hi=>.row F hi
theorem eY.rs {A B:ZZ} (h:eY O El m A B) {f:Nat->Int} (V:RS O El m A f):RS O El m B f:=by
 obtain ⟨e,he,Z⟩:=V;obtain ⟨g,X⟩:∃g:Nat->Lz->Int,∀i,i<A.length->j7 O El B.length (g i)/\∀x,x<m->nth (aj A i) x=g i (bp B x):=by
  have h2:∀i,∃g:Lz->Int,i<A.length->j7 O El B.length g/\∀x,x<m->nth (aj A i) x=g (bp B x):=λi=>by
   by_cases hi:i<A.length
   ·obtain ⟨g,h1,h2⟩:=h i hi;exact ⟨g,λ_=>⟨h1,h2⟩⟩
   ·exact ⟨λ_=>0,λh=>absurd h hi⟩
  exact ⟨λi=>Classical.choose (h2 i),λi hi=>Classical.choose_spec (h2 i) hi⟩
 refine ⟨_,he.vec g λi hi=>(X i hi).1,λx Y=>?_⟩;rw [Z x Y];congr 1;refine fy (by simp [db]) λi hi=>?_;rw [db] at hi;rw [dN _ _ _ hi,dx A x i hi];exact (X i hi).2 x Y
theorem eY.trans {A B C:ZZ} (h:eY O El m A B) (h2:eY O El m B C):eY O El m A C:=λi hi=>h2.rs (h i hi)
theorem eY.cl {A B:ZZ} (h:eY O El m A B) {l:Z6} {x:Nat} (U:∀y ∈ l,y<m) (V:x<m) (hc:lu O El B.length (bp B) l x):lu O El A.length (bp A) l x:=by intro X Y h0;obtain ⟨e,he,Z⟩:=h.rs (f:=λx=>X (bp A x)) ⟨X,Y,λ_ _=>rfl⟩;have e1:X (bp A x)=e (bp B x):=Z x V;rw [e1];refine hc e he λy hy=>?_;rw [<- Z y (U y hy)];exact h0 y hy
structure lK (L:ZZ) (P:Lz) (c:Nat):Prop where
 le:P.length<=L.length
 lt:∀j,j<P.length->0<=nth P j/\nth P j<c
 one:∀j i,j<P.length->i<L.length->nth (aj L i) (nth P j).toNat=if i=j then 1 else 0
 zero:∀i x,P.length<=i->i<L.length->x<c->nth (aj L i) x=0
def sw (t k i:Nat):Nat:=if i=t then k else if i=k then t else i
theorem Mp {t k n i:Nat} (ht:t<n) (hk:k<n) (hi:i<n):sw t k i<n:=by unfold sw;split;exact hk;split;exact ht;exact hi
theorem Ky {L:ZZ} {t k:Nat} (ht:t<L.length) (hk:k<L.length) (i:Nat):aj (if k=t then L else aY L t k) i=aj L (sw t k i):=by
 unfold sw aY;split
 ·rename_i e;subst e;split
  ·rename_i e;rw [e]
  ·rfl
 ·rename_i hne;rw [fI _ _ _ _ (by simpa using hk),fI _ _ _ _ ht];by_cases h1:i=t
  ·rw [M8 (by omega),M7 h1,M7 h1]
  ·rw [M8 h1,M8 h1];by_cases h2:i=k
   ·rw [M7 h2,M7 h2]
   ·rw [M8 h2,M8 h2]
theorem Gg (F:bQ O El) {L:ZZ} (hL:bz El m L) {t c:Nat} (ht:t<L.length) {i x:Nat} (Y:x<m) :
  nth (aj (bs O L t c) i) x=if i=t then O.mul (O.inv (nth (aj L t) c)) (nth (aj L t) x) else nth (aj L i) x:=by
 have Z:=hL.row ht;have he:El (nth (aj L t) x):=Z.2 _ (aG (by rw [Z.1];exact Y));unfold bs;split
 ·rename_i h1;split
  ·rename_i e;rw [e,h1,F.one_mul _ he]
  ·rfl
 ·rw [fI _ _ _ _ ht];split
  ·exact ij O _ _ (by rw [Z.1];exact Y)
  ·rfl
theorem tQ (O:aL) (t c:Nat) (L:ZZ):∀i,i<=L.length->∀j,aj (clearTo O t c L i) j=if j<i/\j ≠ t then bT O (aj L t) c (aj L j) else aj L j
 | 0,_,j=>by rw [M8 (by omega)];rfl
 | i+1,hi,j=>by
  have Z:=tQ O t c L i (by omega);unfold clearTo;split
  ·rename_i e;rw [Z j];by_cases h:j<i/\j ≠ t
   ·rw [M7 h,M7 ⟨by omega,h.2⟩]
   ·rw [M8 h,M8 (by omega)]
  ·rename_i e;have e1:aj (clearTo O t c L i) t=aj L t:=by rw [Z t,M8 (by omega)]
   have Y:aj (clearTo O t c L i) i=aj L i:=by rw [Z i,M8 (by omega)]
   rw [fI _ _ _ _ (by rw [dj];omega),e1,Y];by_cases h:j=i
   ·subst h;rw [M7 rfl,M7 ⟨by omega,e⟩]
   ·rw [M8 h,Z j];by_cases h2:j<i/\j ≠ t
    ·rw [M7 h2,M7 ⟨by omega,h2.2⟩]
    ·rw [M8 h2,M8 (by omega)]
theorem xQ (F:bQ O El) {Y r:Lz} {c x:Nat} (V:Vc El m Y) (Z:Vc El m r) (hc:c<m) (X:x<m) :
  nth (bT O Y c r) x=O.add (nth r x) (O.neg (O.mul (nth Y x) (nth r c))):=by
 have h1:=V.at X;have h2:=Z.at X;have h3:=Z.at hc;unfold bT;split
 ·rename_i h0;rw [h0,F.df h1,F.gw,F.add_zero _ h2]
 ·rw [gY O r _ Y x (by rw [V.1,Z.1]) (by rw [Z.1];exact X)];split
  ·rename_i h0;rw [h0,F.lI h3,F.gw,F.add_zero _ h2]
  ·rw [F.neg_mul h3 h1,F.mul_comm _ _ h3 h1]
section
variable {L:ZZ} {t k c:Nat}
theorem eS (F:bQ O El) (hL:bz El m L) (ht:t<L.length) (hk:k<L.length) (hc:c<m) (h0:nth (aj L k) c ≠ 0) {i x:Nat} (hi:i<L.length) (U:x<m) :
  nth (aj (eo O L t k c) i) x=if i=t then O.mul (O.inv (nth (aj L k) c)) (nth (aj L k) x) else
   O.add (nth (aj L (sw t k i)) x) (O.neg (O.mul (O.mul (O.inv (nth (aj L k) c)) (nth (aj L k) x)) (nth (aj L (sw t k i)) c))):=by
 rw [gV];obtain ⟨Z,V⟩:∃Z,(if k=t then L else aY L t k)=Z:=⟨_,rfl⟩
 have X:∀i,aj Z i=aj L (sw t k i):=λi=>by rw [<- V];exact Ky ht hk i
 have H:Z.length=L.length:=by rw [<- V];split<;>simp [bU]
 have S:bz El m Z:=by
  rw [<- V];split
  ·exact hL
  ·exact hL.swap ht hk
 have Y:sw t k t=k:=by simp [sw]
 have I:nth (aj Z t) c ≠ 0:=by rw [X,Y];exact h0
 rw [V];have Q:bz El m (bs O Z t c):=S.norm F.cl (by omega) hc I;have N:∀ {i x:Nat},x<m->nth (aj (bs O Z t c) i) x=if i=t then O.mul (O.inv (nth (aj Z t) c)) (nth (aj Z t) x) else nth (aj Z i) x:=λU=>Gg F S (by omega) U
 rw [tQ O t c _ L.length (by rw [di];omega)];by_cases e:i=t
 ·rw [M8 (by omega),M7 e,N U,M7 e,X,Y]
 ·rw [M7 ⟨hi,e⟩,M8 e,xQ F (Q.row (by rw [di];omega)) (Q.row (by rw [di];omega)) hc U,N U,N U,N hc,M8 e,M8 e,M7 rfl,X,X,Y]
variable (F:bQ O El) (hL:bz El m L) (ht:t<L.length) (hk:k<L.length) (hc:c<m) (h0:nth (aj L k) c ≠ 0)
include F hL ht hk hc h0
theorem CL:eY O El m (eo O L t k c) L:=by
 intro i hi;rw [et] at hi;have V:El (nth (aj L k) c):=R0 (hL.row hk) hc;have Z:=F.cl.inv _ V h0;by_cases e:i=t
 ·exact ((RS.row F hk).smul F Z).congr λx Y=>by rw [eS F hL ht hk hc h0 hi Y,M7 e]
 ·have X:=Mp ht hk hi;exact ((RS.row F X).comb F ((RS.row F hk).smul F Z) (s:=nth (aj L (sw t k i)) c) (R0 (hL.row X) hc)).congr λx Y=>by rw [eS F hL ht hk hc h0 hi Y,M8 e]
theorem BK:eY O El m L (eo O L t k c):=by
 intro i hi;have N:El (nth (aj L k) c):=R0 (hL.row hk) hc;have U:=F.cl.inv _ N h0;have V:t<(eo O L t k c).length:=by rw [et];exact ht
 by_cases e:i=k
 ·refine ((RS.row F V).smul F N).congr λx Y=>?_;have Z:El (nth (aj L k) x):=R0 (hL.row hk) Y;rw [eS F hL ht hk hc h0 ht Y,M7 rfl,<- F.mul_assoc _ _ _ N U Z,F.mul_inv _ N h0,F.one_mul _ Z,e]
 ·have S:∃j,j<L.length/\j ≠ t/\sw t k j=i:=by
   by_cases I:i=t
   ·exact ⟨k,hk,by omega,by unfold sw;rw [M8 (by omega),M7 rfl,I]⟩
   ·exact ⟨i,hi,I,by unfold sw;rw [M8 I,M8 e]⟩
  obtain ⟨j,S,H,hsw⟩:=S;have E:El (nth (aj L i) c):=R0 (hL.row hi) hc;refine ((RS.row F (i:=j) (by rw [et];exact S)).comb F (RS.row F V) (s:=O.neg (nth (aj L i) c)) (F.cl.neg _ E)).congr λx Y=>?_;have Z:El (nth (aj L k) x):=R0 (hL.row hk) Y;have X:El (nth (aj L i) x):=R0 (hL.row hi) Y;have hy:=F.cl.mul _ _ U Z;have Q:=F.cl.mul _ _ hy E;rw [eS F hL ht hk hc h0 ht Y,M7 rfl,eS F hL ht hk hc h0 S Y,M8 H,hsw,F.mul_neg hy E,F.neg_neg Q,F.add_assoc _ _ _ X (F.cl.neg _ Q) Q,F.po Q,F.add_zero _ X]
end
theorem lK.next (F:bQ O El) {L:ZZ} {P:Lz} {c k:Nat} (h:lK L P c) (hL:bz El m L) (hc:c<m) (ht:P.length<L.length) (hk:k<L.length) (N:P.length<=k) (h0:nth (aj L k) c ≠ 0) :
  lK (eo O L P.length k c) (P ++ [(c:Int)]) (c+1):=by
 have V:El (nth (aj L k) c):=R0 (hL.row hk) hc;have Y:=F.cl.inv _ V h0;have hsw:∀i,P.length<=i->i<L.length->P.length<=sw P.length k i/\sw P.length k i<L.length:=λi h1 h2=>by unfold sw;split;omega;split<;>omega
 have Q:∀i,i<P.length->sw P.length k i=i:=λi h1=>by unfold sw;rw [M8 (by omega),M8 (by omega)]
 refine ⟨by rw [et,Ni];simp;omega,λj E=>?_,λj i E hi=>?_,λi x h1 h2 D=>?_⟩
 ·rw [iS];rw [Ni,ND] at E;by_cases e:j<P.length
  ·rw [M7 e];have:=h.lt j e;omega
  ·rw [M8 e,M7 (by omega)];omega
 ·rw [Ni,ND] at E;rw [et] at hi;rw [iS];by_cases e:j<P.length
  ·rw [M7 e];have hb:=h.lt j e;have D:(nth P j).toNat<m:=by omega
   have S:=h.one j k e hk;rw [M8 (by omega)] at S;rw [eS F hL ht hk hc h0 hi D,S,F.df Y];by_cases X:i=P.length
   ·rw [M7 X,M8 (by omega)]
   ·rw [M8 X];have Z:sw P.length k i<L.length:=by unfold sw;split;omega;split<;>omega
    rw [F.lI (R0 (hL.row Z) hc),F.gw,F.add_zero _ (R0 (hL.row Z) D),h.one j _ e Z];by_cases B:i<P.length
    ·rw [Q i B]
    ·have:=(hsw i (by omega) hi).1;rw [M8 (by omega),M8 (by omega)]
  ·have C:j=P.length:=by omega
   rw [M8 e,M7 C,M9,eS F hL ht hk hc h0 hi hc,C];by_cases X:i=P.length
   ·rw [M7 X,M7 X,F.mul_comm _ _ Y V,F.mul_inv _ V h0]
   ·rw [M8 X,M8 X];have Z:sw P.length k i<L.length:=by unfold sw;split;omega;split<;>omega
    have U:El (nth (aj L (sw P.length k i)) c):=R0 (hL.row Z) hc;rw [F.mul_comm _ _ Y V,F.mul_inv _ V h0,F.one_mul _ U,F.add_neg _ U]
 ·rw [Ni,ND] at h1;rw [et] at h2;have H:x<m:=by omega
  have I:=hsw i (by omega) h2;have U:El (nth (aj L (sw P.length k i)) c):=R0 (hL.row I.2) hc;rw [eS F hL ht hk hc h0 h2 H,M8 (by omega)];by_cases e:x=c
  ·subst e;rw [F.mul_comm _ _ Y V,F.mul_inv _ V h0,F.one_mul _ U,F.add_neg _ U]
  ·rw [h.zero _ x I.1 I.2 (by omega),h.zero k x N hk (by omega),F.df Y,F.lI U,F.gw,F.add_zero 0 F.zero]
theorem jo (F:bQ O El) {L:ZZ} (hL:bz El m L) (k:Nat) (hk:k<=m):bz El m (aE O L k).1 :=
 (lk (O':=O) ⟨λ_ _ _ _=>rfl,λ_ _ _ _=>rfl,λ_ _=>rfl,λ_ _ _=>rfl⟩ F.cl hL k hk).2
theorem iI (F:bQ O El) {L:ZZ} (hL:bz El m L):∀k,k<=m->lK (aE O L k).1 (aE O L k).2 k/\eY O El m (aE O L k).1 L/\eY O El m L (aE O L k).1
 | 0,_=>⟨⟨Nb _,λj Y=>by simp [aE] at Y,λj i Y=>by simp [aE] at Y,λi x _ _ I=>by omega⟩,.refl F L,.refl F L⟩
 | k+1,hk=>by
  obtain ⟨h1,h2,h3⟩:=iI F hL k (by omega);have Q:=jo F hL k (by omega);have hb:=kN (L:=(aE O L k).1) (c:=k) (k:=(aE O L k).2.length) h1.le;by_cases Z:(aE O L k).2.length<(aE O L k).1.length
  ·rw [dG (Lk:=(aE O L k).1) (P:=(aE O L k).2) rfl Z];split
   ·rename_i N;refine ⟨⟨h1.le,λj Y=>⟨(h1.lt j Y).1,Int.lt_trans (h1.lt j Y).2 (by omega)⟩,h1.one,λi x V S I=>?_⟩,h2,h3⟩;by_cases e:x=k
    ·subst e;exact qu _ x ((aE O L x).1.length - (aE O L x).2.length) _ i V (by show i<aZ _ x _;rw [N];exact S)
    ·exact h1.zero i x V S (by omega)
   ·rename_i N;have U:aZ (aE O L k).1 k (aE O L k).2.length<(aE O L k).1.length:=by omega
    have hne:nth (aj (aE O L k).1 (aZ (aE O L k).1 k (aE O L k).2.length)) k ≠ 0:=iE _ k _ _ (by show aZ _ k _<_;omega);exact ⟨h1.next F Q (by omega) Z U hb.1 hne,(CL F Q Z U (by omega) hne).trans h2,h3.trans (BK F Q Z U (by omega) hne)⟩
  ·have X:(aE O L k).2.length=L.length:=by have:=bW O L k;have:=h1.le;omega
   rw [fG X 1];have H:=bW O L k;exact ⟨⟨h1.le,λj Y=>by have:=h1.lt j Y;omega,h1.one,λi x V S I=>by omega⟩,h2,h3⟩
theorem lK.ind (F:bQ O El) {L:ZZ} {P:Lz} {c:Nat} (h:lK L P c):∀k,k<=P.length->Rk (lu O El L.length (bp L)) (lE P k) k
 | 0,_=>.nil
 | k+1,hk=>by
  rw [lE];refine .ind _ (λhc=>?_) (h.ind F k (by omega));have Z:=h.le;have h1:=hc (λv=>nth v k) (j7.zq F (by omega)) λy hy=>by obtain ⟨j,Y,rfl⟩:=(gJ P y k).1 hy;show nth (bp L _) k=0;rw [dx L _ k (by omega),h.one j k (by omega) (by omega),M8 (by omega)]
  have h2:nth (bp L (nth P k).toNat) k=0:=h1;rw [dx L _ k (by omega),h.one k k (by omega) (by omega),M7 rfl] at h2;exact absurd h2 (by decide)
def iW (O:aL) (L:ZZ) (P:Lz) (v:Lz):Nat->Lz
 | 0=>v
 | k+1=>dH O (iW O L P v k) (nth (iW O L P v k) k) (bp L (nth P k).toNat)
theorem lK.less (F:bQ O El) {L:ZZ} {P:Lz} {c:Nat} (h:lK L P c) (hL:bz El m L) {v:Lz} (U:Vc El L.length v) {V:Lz->Int} (Y:j7 O El L.length V)
  (h0:∀j,j<P.length->V (bp L (nth P j).toNat)=0):∀k,k<=P.length->Vc El L.length (iW O L P v k)/\V (iW O L P v k)=V v/\∀i,i<L.length->nth (iW O L P v k) i=if i<k then 0 else nth v i
 | 0,_=>⟨U,rfl,λi _=>by rw [M8 (by omega)];rfl⟩
 | k+1,hk=>by
  obtain ⟨h1,h2,h3⟩:=h.less F hL U Y h0 k (by omega);have hle:=h.le;have Z:=dw hL F.zero (nth P k).toNat;have X:=h1.at (i:=k) (by omega);refine ⟨h1.sub F Z X,?_,λi hi=>?_⟩
  ·rw [iW,Y.sub _ _ _ h1 Z X,h0 k (by omega),F.df X,F.gw,F.add_zero _ (Y.el _ h1),h2]
  ·rw [iW,ey O _ _ _ i (by rw [Z.1,h1.1]) (by rw [h1.1];exact hi),dx L _ i hi,h.one k i (by omega) hi];by_cases e:i=k
   ·subst e;rw [M7 rfl,F.iH X,F.add_neg _ X,M7 (by omega)]
   ·rw [M8 e,F.df X,F.gw,F.add_zero _ (h1.at hi),h3 i hi];by_cases S:i<k
    ·rw [M7 S,M7 (by omega)]
    ·rw [M8 S,M8 (by omega)]
theorem lK.all (F:bQ O El) {L:ZZ} {P:Lz} (h:lK L P m) (hL:bz El m L) {x:Nat} (X:x<m):lu O El L.length (bp L) (lE P P.length) x:=by
 intro V Z h0;obtain ⟨h1,h2,h3⟩:=h.less F hL (dw hL F.zero x) Z (λj Y=>h0 _ ((gJ P _ _).2 ⟨j,Y,rfl⟩)) _ (M4 _);rw [<- h2];refine Z.zero F h1 λi hi=>?_;rw [h3 i hi];split
 ·rfl
 ·rw [dx L x i hi];exact h.zero i x (by omega) hi X
theorem Rk.map {cl cl':Z6->Nat->Prop} (D:Nat->Prop) (f:Nat->Nat) (hc:∀l x,(∀y ∈ l,D y)->D x->(cl l x ↔ cl' (l.map f) (f x))) {l:Z6} {r:Nat} (h:Rk cl l r):(∀y ∈ l,D y)->Rk cl' (l.map f) r:=by
 induction h with
 | nil=>intro _;exact .nil
 | dep x Y _ X =>
  intro Z
  exact .dep _ ((hc _ _ (λy hy=>Z y (List.mem_cons.2 (.inr hy))) (Z x (by simp))).1 Y) (X λy hy=>Z y (List.mem_cons.2 (.inr hy)))
 | ind x Y _ X =>
  intro Z
  exact .ind _ (λh=>Y ((hc _ _ (λy hy=>Z y (List.mem_cons.2 (.inr hy))) (Z x (by simp))).2 h)) (X λy hy=>Z y (List.mem_cons.2 (.inr hy)))
theorem Ja (F:bQ O El) {L:ZZ} (hL:bz El m L):Rk (lu O El L.length (bp L)) (List.range m) (aE O L m).2.length:=by
 obtain ⟨h1,h2,h3⟩:=iI F hL m (M4 _);have V:=jo F hL m (M4 _);have N:=gd F V;have S:=(h1.ind F _ (M4 _)).Bi N (List.range m) λx Z=>h1.all F V (List.mem_range.1 Z);have Q:=Rk.map (cl':=lu O El L.length (bp L)) (λy=>y<m) id (λl x X Z=>by rw [Q5];exact ⟨h3.cl X Z,h2.cl X Z⟩) S λy hy=>by
  rcases List.mem_append.1 hy with hy | hy
  ·exact List.mem_range.1 hy
  ·obtain ⟨j,Y,rfl⟩:=(gJ _ _ _).1 hy;have:=h1.lt j Y;omega
 obtain ⟨r,U⟩:=SI (lu O El L.length (bp L)) (List.range m);have e:=Sv (gd F hL) Q U λx=>by
  rw [Q5,NW];constructor
  ·rintro (h | h)
   ·exact h
   ·obtain ⟨j,Y,rfl⟩:=(gJ _ _ _).1 h;have:=h1.lt j Y;exact List.mem_range.2 (by omega)
  ·exact .inl
 rw [e];exact U
def bg (Q:Lz) (r:Lz):Lz:=Q.map λq=>nth r q.toNat
theorem fM (Q r:Lz) {i:Nat} (hi:i<Q.length):nth (bg Q r) i=nth r (nth Q i).toNat:=by rw [an (show i<(bg Q r).length by simpa [bg] using hi),an hi];simp [bg]
theorem ot {L:ZZ} (hL:bz El n L) {Q:Lz} (X:∀j,j<Q.length->0<=nth Q j/\nth Q j<n):bz El Q.length (L.map (bg Q)):=by intro r S;obtain ⟨Z,h0,rfl⟩:=List.mem_map.1 S;refine ⟨by simp [bg],λx U=>?_⟩;obtain ⟨q,V,rfl⟩:=List.mem_map.1 U;obtain ⟨j,Y,rfl⟩:=List.mem_iff_getElem.1 V;have:=X j Y;rw [an Y] at this;exact (hL Z h0).2 _ (aG (by rw [(hL Z h0).1];omega))
theorem JX (F:bQ O El) {L:ZZ} (hL:bz El n L) {Q:Lz} (I:∀j,j<Q.length->0<=nth Q j/\nth Q j<n) :
  Rk (lu O El L.length (bp L)) ((List.range Q.length).map λj=>(nth Q j).toNat) (aE O (L.map (bg Q)) Q.length).2.length:=by
 have N:=ot hL I;have Z:∀j,j<Q.length->bp (L.map (bg Q)) j=bp L (nth Q j).toNat:=λj X=>by unfold bp;rw [PE];exact N6 λr _=>fM Q r X
 refine Rk.map (λj=>j<Q.length) _ (λl x U S=>?_) (Ja F N) λy hy=>List.mem_range.1 hy;unfold lu;rw [No];constructor
 ·intro h V Y h0;rw [<- Z x S];refine h V Y λy hy=>?_;rw [Z y (U y hy)];exact h0 _ (List.mem_map.2 ⟨y,hy,rfl⟩)
 ·intro h V Y h0;rw [Z x S];refine h V Y λy hy=>?_;obtain ⟨j,X,rfl⟩:=List.mem_map.1 hy;rw [<- Z j (U j X)];exact h0 j X
end
section
variable {O:aL} {El:Int->Prop} {m n:Nat}
def dotN (O:aL) (a b:Nat->Int):Nat->Int
 | 0=>0
 | t+1=>O.add (dotN O a b t) (O.mul (a t) (b t))
theorem mR (F:bQ O El) {a b:Nat->Int}:∀t,(∀p,p<t->El (a p))->(∀p,p<t->El (b p))->El (dotN O a b t)
 | 0,_,_=>F.zero
 | t+1,ha,hb=>F.cl.add _ _ (mR F t (λp Z=>ha p (by omega)) λp Z=>hb p (by omega)) (F.cl.mul _ _ (ha t (by omega)) (hb t (by omega)))
theorem gW (F:bQ O El) {a b:Nat->Int}:∀t,(∀p,p<t->El (a p))->(∀p,p<t->El (b p))->dotN O a b t=dotN O b a t
 | 0,_,_=>rfl
 | t+1,ha,hb=>by rw [dotN,dotN,gW F t (λp Z=>ha p (by omega)) λp Z=>hb p (by omega),F.mul_comm _ _ (ha t (by omega)) (hb t (by omega))]
theorem gu {a b a' b':Nat->Int}:∀t,(∀p,p<t->a p=a' p/\b p=b' p)->dotN O a b t=dotN O a' b' t
 | 0,_=>rfl
 | t+1,h=>by rw [dotN,dotN,gu t λp Z=>h p (by omega),(h t (by omega)).1,(h t (by omega)).2]
theorem ki (F:bQ O El) {a b:Nat->Int} {x:Nat} (Z:El (O.mul (a x) (b x))):∀t,(∀p,p<t->p ≠ x->O.mul (a p) (b p)=0)->dotN O a b t=if x<t then O.mul (a x) (b x) else 0
 | 0,_=>rfl
 | t+1,h=>by
  rw [dotN,ki F Z t λp X=>h p (by omega)];by_cases e:t=x
  ·subst e;rw [M8 (by omega),M7 (by omega),F.ui Z]
  ·rw [h t (by omega) e];by_cases Y:x<t
   ·rw [M7 Y,M7 (by omega),F.add_zero _ Z]
   ·rw [M8 Y,M8 (by omega),F.add_zero 0 F.zero]
theorem zo (F:bQ O El) {a b:Nat->Int} {x y:Nat} (V:x ≠ y) (Y:El (O.mul (a x) (b x))) (hy:El (O.mul (a y) (b y))):∀t,(∀p,p<t->p ≠ x->p ≠ y->O.mul (a p) (b p)=0) ->
  dotN O a b t=O.add (if x<t then O.mul (a x) (b x) else 0) (if y<t then O.mul (a y) (b y) else 0)
 | 0,_=>by rw [M8 (by omega),M8 (by omega)];exact (F.add_zero 0 F.zero).symm
 | t+1,h=>by
  rw [dotN,zo F V Y hy t λp U=>h p (by omega)];by_cases e:t=x
  ·subst e;rw [M8 (Pr t),M7 (Nat.lt_succ_self t)];by_cases Z:y<t
   ·rw [M7 Z,M7 (show y<t+1 by omega),F.ui hy,F.add_comm _ _ hy Y]
   ·rw [M8 Z,M8 (show ¬ y<t+1 by omega),F.ui F.zero,F.ui Y,F.add_zero _ Y]
  ·by_cases e1:t=y
   ·subst e1;by_cases Z:x<t
    ·rw [M7 Z,M8 (by omega),M7 (by omega),M7 (by omega),F.add_zero _ Y]
    ·rw [M8 Z,M8 (by omega),M8 (by omega),M7 (by omega),F.add_zero 0 F.zero]
   ·rw [h t (by omega) e e1];by_cases Z:x<t
    ·by_cases X:y<t
     ·rw [M7 Z,M7 X,M7 (by omega),M7 (by omega),F.add_zero _ (F.cl.add _ _ Y hy)]
     ·rw [M7 Z,M8 X,M7 (by omega),M8 (by omega),F.add_zero _ (F.cl.add _ _ Y F.zero)]
    ·by_cases X:y<t
     ·rw [M8 Z,M7 X,M8 (by omega),M7 (by omega),F.add_zero _ (F.cl.add _ _ F.zero hy)]
     ·rw [M8 Z,M8 X,M8 (by omega),M8 (by omega),F.add_zero _ (F.cl.add _ _ F.zero F.zero)]
def wM (O:aL) (r:Nat->Int) (K:ZZ):Nat->Lz
 | 0=>List.replicate K.length 0
 | t+1=>dH O (wM O r K t) (O.neg (r t)) (bp K t)
theorem oq (F:bQ O El) {r:Nat->Int} {K:ZZ} (Y:bz El m K):∀t,(∀p,p<t->El (r p))->Vc El K.length (wM O r K t)
 | 0,_=>⟨by simp [wM],λy hy=>by have:=N3 hy;rw [this];exact F.zero⟩
 | t+1,Z=>(oq F Y t λp X=>Z p (by omega)).sub F (dw Y F.zero t) (F.cl.neg _ (Z t (by omega)))
theorem D6 (F:bQ O El) {r:Nat->Int} {K:ZZ} (X:bz El m K) {j:Nat} (Y:j<K.length):∀t,t<=m->(∀p,p<t->El (r p))->nth (wM O r K t) j=dotN O r (λp=>nth (aj K j) p) t
 | 0,_,_=>by simp [wM,dotN,nth,Na,NP,Y]
 | t+1,ht,V=>by have U:=oq F X t λp Q=>V p (by omega);have hc:=dw X F.zero t;have Z:=V t (by omega);have S:El (nth (aj K j) t):=R0 (X.row Y) (by omega);rw [wM,ey O _ _ _ j (by rw [hc.1,U.1]) (by rw [U.1];exact Y),D6 F X Y t (by omega) λp Q=>V p (by omega),dx K t j Y,F.neg_mul Z S,F.neg_neg (F.cl.mul _ _ Z S)];rfl
theorem vZ (F:bQ O El) {r:Nat->Int} {K:ZZ} (X:bz El m K) {U:Lz->Int} (Z:j7 O El K.length U):∀t,(∀p,p<t->El (r p))->U (wM O r K t)=dotN O r (λp=>U (bp K p)) t
 | 0,_=>Z.zero F (oq F X 0 λp S=>by omega) λi hi=>by simp [wM,nth,Na,NP,hi]
 | t+1,V=>by have N:=oq F X t λp S=>V p (by omega);have hc:=dw X F.zero t;have Y:=V t (by omega);have Q:=Z.el _ hc;rw [wM,Z.sub _ _ _ N hc (F.cl.neg _ Y),vZ F X Z t λp S=>V p (by omega),F.neg_mul Y Q,F.neg_neg (F.cl.mul _ _ Y Q)];rfl
theorem lQ (F:bQ O El) {r:Nat->Int} {K:ZZ} (X:bz El m K) {V:Lz->Int} (Z:j7 O El K.length V) (Y:∀p,p<m->El (r p)) (h:∀j,j<K.length->dotN O r (λp=>nth (aj K j) p) m=0) :
  dotN O r (λp=>V (bp K p)) m=0:=by rw [<- vZ F X Z m Y];exact Z.zero F (oq F X m Y) λi hi=>by rw [D6 F X hi m (M4 _) Y];exact h i hi
def oY (O:aL) (m:Nat) (G K:ZZ):Prop:=∀i j,i<G.length->j<K.length->dotN O (λp=>nth (aj G i) p) (λp=>nth (aj K j) p) m=0
variable {G K:ZZ}
theorem oY.symm (F:bQ O El) (V:bz El m G) (X:bz El m K) (h:oY O m G K):oY O m K G:=λi j hi Y=>by rw [gW F m (λp Z=>R0 (X.row hi) Z) λp Z=>R0 (V.row Y) Z];exact h j i Y hi
theorem oY.Mf (F:bQ O El) (S:bz El m G) (N:bz El m K) (h:oY O m G K) {V Q:Lz->Int} (Y:j7 O El K.length V) (X:j7 O El G.length Q) :
  dotN O (λp=>V (bp K p)) (λp=>Q (bp G p)) m=0:=by have Z:∀p,p<m->El (V (bp K p)):=λp _=>Y.el _ (dw N F.zero p);refine lQ F S X Z λi hi=>?_;rw [gW F m Z λp U=>R0 (S.row hi) U];exact lQ F N Y (λp U=>R0 (S.row hi) U) λj I=>h i j hi I
theorem oY.cl (F:bQ O El) (X:bz El m G) (U:bz El m K) (h:oY O m G K) {A B:Z6} {x:Nat} (C:x<m) (V:∀p,p<m->p ≠ x->p ∈ A\/p ∈ B) (E:¬ lu O El G.length (bp G) A x) :
  lu O El K.length (bp K) B x:=by
 intro N Y h0;apply NB;intro hne;apply E;intro Q Z H;have hd:=h.Mf F X U Y Z;have e1:=Y.el _ (dw U F.zero x);have I:=Z.el _ (dw X F.zero x);rw [ki F (x:=x) (F.cl.mul _ _ e1 I) m λp D S=>?_,M7 C] at hd
 ·exact F.nE e1 I hne hd
 ·rcases V p D S with h1 | h1
  ·show O.mul (N (bp K p)) (Q (bp G p))=0;rw [H p h1,F.df (Y.el _ (dw U F.zero p))]
  ·show O.mul (N (bp K p)) (Q (bp G p))=0;rw [h0 p h1,F.lI (Z.el _ (dw X F.zero p))]
theorem JD {cl:Z6->Nat->Prop} {l:Z6} {x n Z:Nat} (h:Rk cl l n) (X:Rk cl (x :: l) Z):Z<=n+1/\(cl l x->Z=n):=by
 cases X with
 | dep _ Y h2=>exact ⟨by rw [h.uniq h2];omega,λ_=>(h.uniq h2).symm⟩
 | ind _ Y h2=>exact ⟨by rw [h.uniq h2];omega,λhc=>absurd hc Y⟩
theorem lh {cl cl':Z6->Nat->Prop} {m:Nat} (h:∀A B x,x<m->(∀p,p<m->p ≠ x->p ∈ A\/p ∈ B)->¬ cl A x->cl' B x) :
  ∀(l acc:Z6) {a b c:Nat},(∀x ∈ l,x<m)->(∀p,p<m->p ∈ l\/p ∈ acc)->Rk cl l a->Rk cl' acc b->Rk cl' (l.reverse ++ acc) c->a+c<=l.length+b
 | [],acc,a,b,c,_,_,ha,hb,hc=>by
  cases ha
  have e:c=b:=Rk.uniq hc hb;simp;omega
 | x :: l,acc,a,b,c,Q,I,ha,hb,hc=>by
  have H:=Q x (by simp);obtain ⟨b',Y⟩:=SI cl' (x :: acc);have S:=JD hb Y;have V:Rk cl' (l.reverse ++ (x :: acc)) c:=by simpa using hc
  have hp':∀p,p<m->p ∈ l\/p ∈ x :: acc:=λp Z=>by
   rcases I p Z with h1 | h1
   ·rcases List.mem_cons.1 h1 with rfl | h1
    ·exact .inr (by simp)
    ·exact .inl h1
   ·exact .inr (List.mem_cons.2 (.inr h1))
  cases ha with
  | dep _ U X =>
   have E:=lh h l (x :: acc) (λy hy=>Q y (List.mem_cons.2 (.inr hy))) hp' X Y V
   simp only [NO];omega
  | ind _ U X =>
   have E:=lh h l (x :: acc) (λy hy=>Q y (List.mem_cons.2 (.inr hy))) hp' X Y V
   have:=S.2 (h l acc x H (λp Z N=>by
    rcases I p Z with h1 | h1
    ·rcases List.mem_cons.1 h1 with h2 | h1
     ·exact absurd h2 N
     ·exact .inl h1
    ·exact .inr h1) U)
   simp only [NO];omega
theorem DN (F:bQ O El) (U:bz El m G) (Q:bz El m K) (h:oY O m G K) (z:G.length+K.length=m)
  (E:Rk (lu O El G.length (bp G)) (List.range m) G.length) (hk:Rk (lu O El K.length (bp K)) (List.range m) K.length)
  {S C:Z6} (hS:∀x ∈ S,x<m) (H:∀x ∈ C,x<m) (Y:∀p,p<m->p ∈ S\/p ∈ C) (hlen:S.length+C.length=m) {a b:Nat} (ha:Rk (lu O El G.length (bp G)) C a) (hb:Rk (lu O El K.length (bp K)) S b) :
  (b:Int)=S.length - G.length+a:=by
 have D:=gd F U;have cK:=gd F Q;have all:∀ {cl:Z6->Nat->Prop} (hc:vd cl) {r:Nat} (_:Rk cl (List.range m) r) (l acc:Z6),(∀x ∈ l,x<m)->(∀x ∈ acc,x<m)->(∀p,p<m->p ∈ l\/p ∈ acc)->Rk cl (l.reverse ++ acc) r:=λhc r j l acc h1 h2 h3=>by
  obtain ⟨r',V⟩:=SI _ (l.reverse ++ acc);have e:=Sv hc j V λx=>by rw [OG,NW,P8];exact ⟨λZ=>h3 x Z,λZ=>by rcases Z with Z | Z;exact h1 x Z;exact h2 x Z⟩
  rw [e];exact V
 have i1:=lh (m:=m) (λA B x Z X N=>h.cl F U Q Z X N) C S H (λp I=>(Y p I).symm) ha hb (all cK hk C S H hS λp I=>(Y p I).symm);have i2:=lh (m:=m) (λA B x Z X N=>(h.symm F U Q).cl F Q U Z X N) S C hS Y hb ha (all D E S C hS H Y);omega
end
def fR (P M:Int) (mod:Lz) (Z:Int) (L:ZZ):Int:=if bC P M mod=true then e9 (aO P M) Z L else 1
theorem uJ (P M:Int) (am:OA) (B cm:Nat) (mod:Lz) (Z:Int) (a:OA) (n c:Nat) (L:ZZ) (w:ej) (hmod:Ints w am B mod) (hi:bP w a n L) :
  Calls prog 140 #[.agg #[cG P,cG M,.slice am B cm],.agg #[cG Z,.slice a n c]] w λe w'=>e = .returned (cG (fR P M mod Z L))/\SJ w w':=by
 have Y:=Z5 hi.len;have hpl:=hi.pl;have hmax:=hi.max;unfold maxLen at hmax;go_enter func140,ntmps140;go_wp2_with fail;obtain ⟨W,hW⟩:∃W:ej,W=(w.alloc (.cells #[cG P,cG M,.slice am B cm] 24)).alloc (.cells #[cG Z,.slice a n c] 94):=⟨_,rfl⟩
 rw [<- hW];have Q:SJ w W:=by rw [hW];exact dP _ _ _
 have x0:aQ W w.heap.size [cG P,cG M,.slice am B cm]:=by rw [hW];exact (RV _ _ _ rfl).alloc _
 have y0:aQ W (w.heap.size+1) [cG Z,.slice a n c]:=by rw [hW];exact RV _ _ _ (by simp)
 have hS:∀V,SJ W V->V.cell? ⟨w.heap.size,0,none⟩=some (cG P)/\V.cell? ⟨w.heap.size,1,none⟩=some (cG M)/\V.cell? ⟨w.heap.size,2,none⟩=some (.slice am B cm) /\
   V.cell? ⟨w.heap.size+1,0,none⟩=some (cG Z)/\V.cell? ⟨w.heap.size+1,1,none⟩=some (.slice a n c)/\SJ W V:=by intro V hV;have x1:=x0.ai hV;have y1:=y0.ai hV;exact ⟨x1.cell 0 rfl,x1.cell 1 rfl,x1.cell 2 rfl,y1.cell 0 rfl,y1.cell 1 rfl,hV⟩
 have HS:=Z5 hS;have hiW:=hi.ai Q;clear hW x0 y0 hS;refine (lz P M am B cm mod W (hmod.ai Q)).mono ?_;rintro e w1 ⟨rfl,hb1⟩;have X:=RU Q hb1;by_cases hB:bC P M mod=true
 ·have HB:Hid (fR P M mod Z L=e9 (aO P M) Z L):=by show _=_;rw [fR,M7 hB]
  have hE:cX (bC P M mod)=0:=by rw [hB];rfl
  rw [hE];obtain ⟨q,hq⟩:∃q,aO P M=q:=⟨_,rfl⟩
  have Hq:=Z5 hq;rw [hq] at HB;obtain ⟨d0,d1,d2,d3,d4,_⟩:=HS w1 hb1;clear hB hE hq;by_cases b1:Z<0
  ·have Hf:Hid (fR P M mod Z L=3):=by show _=_;rw [HB.out,e9,M7 (.inl b1)]
   have t1:decide (Z<0)=true:=by simpa using b1
   go_wp2_with fail;go_ret;exact ⟨aK Hf.symm,X⟩
  have t1:decide (Z<0)=false:=by simpa using b1
  by_cases b2:256<Z
  ·have Hf:Hid (fR P M mod Z L=3):=by show _=_;rw [HB.out,e9,M7 (.inr (.inl b2))]
   have t2:decide (256<Z)=true:=by simpa using b2
   go_wp2_with fail;go_ret;exact ⟨aK Hf.symm,X⟩
  have t2:decide (256<Z)=false:=by simpa using b2
  by_cases b3:256<n
  ·have Hf:Hid (fR P M mod Z L=3):=by show _=_;rw [HB.out,e9,M7 (.inr (.inr (by rw [Y.out];exact b3)))]
   have t3:decide (256<(n:Int))=true:=by simp;omega
   go_wp2_with fail;go_ret;exact ⟨aK Hf.symm,X⟩
  have t3:decide (256<(n:Int))=false:=by simp;omega
  have Hm:Hid (fR P M mod Z L=if jr Z L=false then 3 else if L.all (fC q) then 0 else 2):=by show _=_;rw [HB.out,e9,M8 (by rw [Y.out];omega)]
  have hi1:=hiW.ai hb1;clear b1 b2;go_wp2_with fail;go_loopw [6] (λiv wr=>∃k:Nat,k<=n/\iv = cG k/\Hid ((L.take k).all (λr=>decide ((r.length:Int)=Z))=true)/\bm w1 wr) (λiv _=>n - (intOf iv).toNat);case atStart=>exact ⟨0,Nb _,rfl,by show _=_;simp,Sa _⟩
  case round =>
   obtain ⟨k,hk,rfl,D,hd⟩:=hrel
   have hir:=hi1.drawn hd
   have e3:=hd.cell d3
   have e4:=hd.cell d4
   by_cases N:k<n
   ·obtain ⟨ra,rn,rc,E,I⟩:=hir.cell k N
    have hkL:k<L.length:=by rw [Y.out];exact N
    have hrl:=I.len
    rw [aH hkL] at hrl
    have Hrl:=Z5 hrl
    clear hrl
    by_cases he:(rn:Int)=Z
    ·have he':((rn:Int) != Z)=false:=by simpa using he
     have A:Hid ((L.take (k+1)).all (λr=>decide ((r.length:Int)=Z))=true):=dE hkL D.out (by rw [Hrl.out];simpa using he)
     clear he
     go_wp2_with fail
     go_quiet (fail)
     go_wp2
     go_roundw
     case rel=>exact ⟨k+1,by omega,by go_num,A,hd.drewN _⟩
     case measure=>simp [intOf]<;>omega
    ·have he':((rn:Int) != Z)=true:=by simpa using he
     have A:Hid (fR P M mod Z L=3):=by show _=_;rw [Hm.out,M7];exact dD hkL (by simp only [Hrl.out];simpa using he)
     clear he
     go_wp2_with fail
     go_quiet (fail)
     go_wp2
     go_ret
     exact ⟨aK A.symm,RU X (hd.drewN _).below⟩
   ·obtain rfl:k=n:=by omega
    have Hm2:Hid (fR P M mod Z L=if L.all (fC q) then 0 else 2):=by have:=D.out;rw [Nj (by rw [Y.out];exact M4 _)] at this;show _=_;rw [Hm.out,M8 (by rw [jr,this];simp)]
    have hbr:SJ W wr:=RU hb1 hd.below
    have hir2:=hir
    clear d0 d1 d2 d3 d4 D
    go_wp2_with fail
    clear e3 e4
    go_loopw [7] (λiv wx=>∃j:Nat,j<=k/\iv = cG j/\Hid ((L.take j).all (fC q)=true)/\SJ W wx) (λiv _=>k - (intOf iv).toNat)
    case atStart=>exact ⟨0,Nb _,rfl,by show _=_;simp,hbr⟩
    case round =>
     obtain ⟨j,hj,rfl,C,U⟩:=hrel
     obtain ⟨d0,d1,d2,d3,d4,_⟩:=HS _ U
     by_cases N:j<k
     ·have hiX:=hiW.ai U
      obtain ⟨ra,rn,rc,E,I⟩:=hiX.cell j N
      have z:j<L.length:=by rw [Y.out];exact N
      have HC:=Z5 (yd P M am B cm ra rn rc (aj L j) _ (I.ai (M5 _ _).drew))
      have hSj:∀V,SJ wr V->V.cell? ⟨w.heap.size,0,none⟩=some (cG P)/\V.cell? ⟨w.heap.size,1,none⟩=some (cG M)/\V.cell? ⟨w.heap.size,2,none⟩=some (.slice am B cm) /\
        V.cell? ⟨w.heap.size+1,1,none⟩=some (.slice a k c)/\V.cell? ⟨ablk a,aN a+j,none⟩=some (.slice ra rn rc):=λV hV=>by obtain ⟨f0,f1,f2,f3,f4,_⟩:=HS V (RU U hV);exact ⟨f0,f1,f2,f4,aC hV E⟩
      have HSj:=Z5 hSj
      have Hbx:=Z5 U
      rw [Hq.out] at HC
      clear hSj U
      by_cases he:fC q (aj L j)=true
      ·have H:lJ q (aj L j)=0:=by rw [lJ,he];rfl
       rw [H] at HC
       rw [aH z] at he
       have A:Hid ((L.take (j+1)).all (fC q)=true):=dE z C.out he
       clear he H
       go_wp2_with fail
       go_region_held3 (λV=>V.cell? ⟨w.heap.size,0,none⟩=some (cG P)/\V.cell? ⟨w.heap.size,1,none⟩=some (cG M)/\V.cell? ⟨w.heap.size,2,none⟩=some (.slice am B cm) /\
         V.cell? ⟨w.heap.size+1,1,none⟩=some (.slice a k c)/\V.cell? ⟨ablk a,aN a+j,none⟩=some (.slice ra rn rc))
        ((refine HSj _ ?_;first|exact (M5 _ _).drew|exact RU (M5 _ _).drew S))
        (first|(go_at_call 87;((with_reducible refine HC.out.mono ?_);rintro e w4 ⟨rfl,S⟩)))
       go_wp2_with fail
       go_roundw
       case rel=>exact ⟨j+1,by omega,by go_num,A,RU Hbx.out (RU (M5 _ _).drew S)⟩
       case measure=>simp [intOf]<;>omega
      ·have H:lJ q (aj L j)=2:=by rw [lJ,M8 he]
       rw [H] at HC
       rw [aH z] at he
       have A:Hid (fR P M mod Z L=2):=by show _=_;rw [Hm2.out,dD z (by simpa using he)];rfl
       clear he H
       go_wp2_with fail
       go_region_held3 (λV=>V.cell? ⟨w.heap.size,0,none⟩=some (cG P)/\V.cell? ⟨w.heap.size,1,none⟩=some (cG M)/\V.cell? ⟨w.heap.size,2,none⟩=some (.slice am B cm) /\
         V.cell? ⟨w.heap.size+1,1,none⟩=some (.slice a k c)/\V.cell? ⟨ablk a,aN a+j,none⟩=some (.slice ra rn rc))
        ((refine HSj _ ?_;first|exact (M5 _ _).drew|exact RU (M5 _ _).drew S))
        (first|(go_at_call 87;((with_reducible refine HC.out.mono ?_);rintro e w4 ⟨rfl,S⟩)))
       go_wp2_with fail
       go_ret
       exact ⟨aK A.symm,RU Q (RU Hbx.out (RU (M5 _ _).drew S))⟩
     ·obtain rfl:j=k:=by omega
      have A:Hid (fR P M mod Z L=0):=by have:=C.out;rw [Nj (by rw [Y.out];exact M4 _)] at this;show _=_;rw [Hm2.out,this];rfl
      go_wp2_with fail
      go_ret
      exact ⟨aK A.symm,RU Q U⟩
 ·have hB':bC P M mod=false:=by simpa using hB
  have Hf:Hid (fR P M mod Z L=1):=by show _=_;rw [fR,M8 hB]
  have hE:cX (bC P M mod)=1:=by rw [hB'];rfl
  rw [hE];clear hB hB' hE;go_wp2_with fail;go_ret;exact ⟨aK Hf.symm,X⟩
theorem Ir:dt 5 2 25 wO 0 25=true:=by decide +kernel
theorem LO:fp 5 2 25 wO:=aJ (cO 5 2 25 wO) Ir
theorem IJ:dt 5 3 125 mD 0 32=true:=by decide +kernel
theorem Fl:dt 5 3 125 mD 32 32=true:=by decide +kernel
theorem FQ:dt 5 3 125 mD 64 32=true:=by decide +kernel
theorem EH:dt 5 3 125 mD 96 29=true:=by decide +kernel
theorem LQ:fp 5 3 125 mD:=aJ (aJ (aJ (aJ (cO 5 3 125 mD) IJ) Fl) FQ) EH
theorem Gi:dt 7 2 49 xB 0 49=true:=by decide +kernel
theorem LF:fp 7 2 49 xB:=aJ (cO 7 2 49 xB) Gi
theorem EZ:dt 11 2 121 kj 0 32=true:=by decide +kernel
theorem CV:dt 11 2 121 kj 32 32=true:=by decide +kernel
theorem BX:dt 11 2 121 kj 64 32=true:=by decide +kernel
theorem Cf:dt 11 2 121 kj 96 25=true:=by decide +kernel
theorem KT:fp 11 2 121 kj:=aJ (aJ (aJ (aJ (cO 11 2 121 kj) EZ) CV) BX) Cf
theorem FD:dt 13 2 169 iz 0 32=true:=by decide +kernel
theorem CO:dt 13 2 169 iz 32 32=true:=by decide +kernel
theorem BV:dt 13 2 169 iz 64 32=true:=by decide +kernel
theorem Cu:dt 13 2 169 iz 96 32=true:=by decide +kernel
theorem zC:dt 13 2 169 iz 128 32=true:=by decide +kernel
theorem zH:dt 13 2 169 iz 160 9=true:=by decide +kernel
theorem KN:fp 13 2 169 iz:=aJ (aJ (aJ (aJ (aJ (aJ (cO 13 2 169 iz) FD) CO) BV) Cu) zC) zH
def Mi (c:Nat × Nat):Bool:=yN (dp c.1 1 []) c.1 c.2 && decide (0<c.2) && decide (c.2<c.1)
theorem MK:roots.all Mi=true:=by decide +kernel
theorem Ib:((List.range 257).all λp=>p<2 || !gq p || roots.any λc=>c.1 == p)=true:=by decide +kernel
section
variable {O:aL} {El:Int->Prop} {m n:Nat}
structure pz (L:ZZ) (P:Lz):Prop where
 lead:∀i x,i<P.length->x<(nth P i).toNat->nth (aj L i) x=0
 asc:∀i j,i<j->j<P.length->nth P i<nth P j
theorem qi (F:bQ O El) {L:ZZ} (hL:bz El m L):∀k,k<=m->pz (aE O L k).1 (aE O L k).2
 | 0,_=>⟨λi x hi=>by simp [aE] at hi,λi j _ I=>by simp [aE] at I⟩
 | k+1,hk=>by
  have N:=qi F hL k (by omega);obtain ⟨h1,_,_⟩:=iI F hL k (by omega);have Q:=jo F hL k (by omega);have hb:=kN (L:=(aE O L k).1) (c:=k) (k:=(aE O L k).2.length) h1.le;by_cases U:(aE O L k).2.length<(aE O L k).1.length
  ·rw [dG (Lk:=(aE O L k).1) (P:=(aE O L k).2) rfl U];split
   ·exact N
   ·rename_i D;have Z:aZ (aE O L k).1 k (aE O L k).2.length<(aE O L k).1.length:=by omega
    have hne:nth (aj (aE O L k).1 (aZ (aE O L k).1 k (aE O L k).2.length)) k ≠ 0:=iE _ k _ _ (by show aZ _ k _<_;omega);generalize aZ (aE O L k).1 k (aE O L k).2.length=r at *;generalize (aE O L k).1=A at *;generalize (aE O L k).2=P at *;have E:El (nth (aj A r) k):=R0 (Q.row Z) (by omega);have V:=F.cl.inv _ E hne;refine ⟨λi x hi X=>?_,λi j H I=>?_⟩
    ·rw [Ni,ND] at hi;have S:x<m:=by
      rw [iS] at X;by_cases e:i<P.length
      ·rw [M7 e] at X;have:=h1.lt i e;omega
      ·rw [M8 e,M7 (by omega)] at X;omega
     rw [eS F Q U Z (by omega) hne (i:=i) (by omega) S];rw [iS] at X;by_cases e:i<P.length
     ·rw [M7 e] at X;have h2:=h1.lt i e;rw [M8 (by omega),show sw P.length r i=i by unfold sw;rw [M8 (by omega),M8 (by omega)],h1.zero r x hb.1 Z (by omega),F.df V,F.lI (R0 (Q.row (by omega)) (by omega)),F.gw,F.add_zero _ (R0 (Q.row (by omega)) S)];exact N.lead i x e X
     ·rw [M8 e,M7 (by omega)] at X;rw [M7 (by omega),h1.zero r x hb.1 Z (by omega),F.df V]
    ·rw [Ni,ND] at I;rw [iS,iS,M7 (by omega)];by_cases e:j<P.length
     ·rw [M7 e];exact N.asc i j H e
     ·rw [M8 e,M7 (by omega)];have:=h1.lt i (by omega);omega
  ·have Y:(aE O L k).2.length=L.length:=by have:=bW O L k;have:=h1.le;omega
   rw [fG Y 1];exact N
theorem inv_one (F:bQ O El):O.inv 1=1:=by have h:=F.mul_inv 1 F.one (by decide);rwa [F.one_mul _ (F.cl.inv 1 F.one (by decide))] at h
theorem sX (O:aL) {R:ZZ} {t c:Nat} (h:∀i,i<R.length->i ≠ t->nth (aj R i) c=0):∀i,i<=R.length->clearTo O t c R i=R
 | 0,_=>rfl
 | i+1,hi=>by
  unfold clearTo;rw [sX O h i (by omega)];split
  ·rfl
  ·rename_i e;unfold bT;rw [M7 (h i (by omega) e),kc]
theorem zO (F:bQ O El) {R:ZZ} {P:Lz} (N:lK R P m) (S:pz R P) (hlen:R.length=P.length):∀k,k<=m ->
  ∃t,t<=P.length/\aE O R k=(R,P.take t)/\(∀j,j<t->nth P j<k)/\(∀j,t<=j->j<P.length->(k:Int)<=nth P j)
 | 0,_=>⟨0,Nb _,by simp [aE],λj V=>by omega,λj _ V=>(N.lt j V).1⟩
 | k+1,hk=>by
  obtain ⟨t,ht,he,h1,h2⟩:=zO F N S hlen k (by omega);have Q:(P.take t).length=t:=by rw [NH];omega
  by_cases B:t=P.length
  ·refine ⟨t,ht,?_,λj V=>by have:=h1 j V;omega,λj h3 h4=>by omega⟩;have Y:(aE O R k).2.length=R.length:=by rw [he];show (P.take t).length=_;omega
   rw [fG Y 1,he]
  ·have X:t<R.length:=by omega
   rw [dG (Lk:=R) (P:=P.take t) he.symm (by rw [Q];exact X),Q];by_cases Z:nth P t=k
   ·have U:=N.one t t (by omega) X;rw [Z,M7 rfl,M9] at U;have I:aZ R k t=t:=by rw [fP X,M8 (by rw [U];decide)]
    rw [I,M8 (by omega)];have H:eo O R t t k=R:=by
     rw [gV,M7 rfl];have D:bs O R t k=R:=by unfold bs;rw [U,M7 (inv_one F)]
     rw [D];refine sX O (λi hi E=>?_) _ (M4 _);have:=N.one t i (by omega) hi;rw [Z,M8 E,M9] at this;exact this
    rw [H];refine ⟨t+1,by omega,?_,λj V=>?_,λj h3 h4=>?_⟩
    ·rw [Nh (by omega),<- an,Z]
    ·by_cases e:j=t
     ·subst e;omega
     ·have:=h1 j (by omega);omega
    ·have:=S.asc t j (by omega) h4;omega
   ·have A:(k:Int)<nth P t:=by have:=h2 t (M4 _) (by omega);omega
    have C:∀i,t<=i->i<R.length->nth (aj R i) k=0:=λi h3 h4=>by
     refine S.lead i k (by omega) ?_;by_cases e:i=t
     ·subst e;omega
     ·have:=S.asc t i (by omega) (by omega);omega
    have I:∀d i,d=R.length - i->t<=i->i<=R.length->aZ R k i=R.length:=by
     intro d;induction d with
     | zero=>intro i h3 _ h5;rw [iK (by omega)];omega
     | succ d z =>
      intro i h3 h4 h5
      rw [fP (by omega),M7 (C i h4 (by omega))]
      exact z (i+1) (by omega) (by omega) (by omega)
    rw [I _ t rfl (M4 _) (by omega),M7 rfl];refine ⟨t,ht,rfl,λj V=>by have:=h1 j V;omega,λj h3 h4=>?_⟩;by_cases e:j=t
    ·subst e;omega
    ·have:=S.asc t j (by omega) h4;omega
theorem sg (F:bQ O El) {R:ZZ} {P:Lz} (Z:lK R P m) (Y:pz R P) (hlen:R.length=P.length):aE O R m=(R,P):=by
 obtain ⟨t,ht,he,h1,h2⟩:=zO F Z Y hlen m (M4 _);have:t=P.length:=by apply NB;intro h;have h3:=h2 t (M4 _) (by omega);have h4:=Z.lt t (by omega);omega
 rw [he,this,Qz]
def bI (O:aL) (m:Nat) (L:ZZ):ZZ:=(aE O L m).1.take (aE O L m).2.length
theorem kO {L:ZZ} {t i:Nat} (h:i<t):aj (L.take t) i=aj L i:=by unfold aj;simp only [Na,Ol];rw [M7 h]
theorem cU (F:bQ O El) {L:ZZ} (hL:bz El m L):(bI O m L).length=(aE O L m).2.length:=by have h1:=(iI F hL m (M4 _)).1.le;unfold bI;rw [NH];omega
theorem dk (F:bQ O El) {L:ZZ} (hL:bz El m L):bz El m (bI O m L):=λr Z=>jo F hL m (M4 _) r (N9 Z)
theorem dc (F:bQ O El) {L:ZZ} (hL:bz El m L):lK (bI O m L) (aE O L m).2 m/\pz (bI O m L) (aE O L m).2:=by
 have h1:=(iI F hL m (M4 _)).1;have h2:=qi F hL m (M4 _);have U:=cU F hL;refine ⟨⟨by omega,h1.lt,λj i Z hi=>?_,λi x X V _=>by omega⟩,⟨λi x hi Y=>?_,h2.asc⟩⟩
 ·unfold bI;rw [kO (by omega)];exact h1.one j i Z (by have:=h1.le;omega)
 ·unfold bI;rw [kO hi];exact h2.lead i x hi Y
theorem qb (F:bQ O El) {L:ZZ} (hL:bz El m L):bI O m (bI O m L)=bI O m L:=by
 obtain ⟨h1,h2⟩:=dc F hL;have Z:=cU F hL;have h3:=sg F h1 h2 Z;have e:bI O m (bI O m L)=(bI O m L).take (aE O L m).2.length:=by show (aE O (bI O m L) m).1.take (aE O (bI O m L) m).2.length=_;rw [h3]
 rw [e,Nj (by omega)]
theorem RS.K8 (F:bQ O El) {L:ZZ} {f:Nat->Int} (h:∀x,x<m->f x=0):RS O El m L f:=by refine ⟨λ_=>0,⟨λ_ _=>F.zero,λv r x X Y Z=>?_,λr x Y Z=>(F.df Z).symm⟩,λx Z=>h x Z⟩;show (0:Int)=O.add 0 (O.neg (O.mul x 0));rw [F.df Z,F.gw,F.add_zero 0 F.zero]
theorem dC (F:bQ O El) {L:ZZ} (hL:bz El m L):eY O El m (bI O m L) L/\eY O El m L (bI O m L):=by
 obtain ⟨h1,h2,h3⟩:=iI F hL m (M4 _);have X:=cU F hL;refine ⟨λi hi=>?_,h3.trans λi hi=>?_⟩
 ·have e:aj (bI O m L) i=aj (aE O L m).1 i:=by unfold bI;exact kO (by omega)
  rw [e];exact h2 i (by have:=h1.le;omega)
 ·by_cases e:i<(aE O L m).2.length
  ·have Y:aj (aE O L m).1 i=aj (bI O m L) i:=by unfold bI;exact (kO e).symm
   rw [Y];exact RS.row F (by omega)
  ·exact RS.K8 F λx Z=>h1.zero i x (by omega) hi Z
theorem rJ (F:bQ O El) {L:ZZ} (hL:bz El m L):Rk (lu O El (bI O m L).length (bp (bI O m L))) (List.range m) (bI O m L).length:=by have h:=Ja F (dk F hL);obtain ⟨h1,h2⟩:=dc F hL;rw [sg F h1 h2 (cU F hL)] at h;rw [cU F hL];rw [cU F hL] at h;exact h
def kerTo (O:aL) (m:Nat) (R:ZZ) (P:Lz) (c:Nat):Nat->Lz
 | 0=>(List.replicate m 0).set c 1
 | i+1=>(kerTo O m R P c i).set (nth P i).toNat (O.neg (nth (aj R i) c))
def dn (O:aL) (m:Nat) (R:ZZ) (P:Lz):Nat->ZZ
 | 0=>[]
 | k+1=>if (k:Int) ∈ P then dn O m R P k else dn O m R P k ++ [kerTo O m R P k P.length]
def eW (P:Lz):Nat->Z6
 | 0=>[]
 | k+1=>if (k:Int) ∈ P then eW P k else eW P k ++ [k]
theorem gz (O:aL) (m:Nat) (R:ZZ) (P:Lz) (c:Nat):∀i,(kerTo O m R P c i).length=m
 | 0=>by simp [kerTo]
 | i+1=>by rw [kerTo,N8,gz O m R P c i]
theorem gI (O:aL) (m:Nat) (R:ZZ) (P:Lz):∀k,(dn O m R P k).length=(eW P k).length
 | 0=>rfl
 | k+1=>by
  rw [dn,eW];split
  ·exact gI O m R P k
  ·rw [Ni,Ni,gI O m R P k];rfl
theorem jN {P:Lz} {x:Nat}:∀k,x ∈ eW P k ↔ x<k/\¬ (x:Int) ∈ P
 | 0=>by simp [eW]
 | k+1=>by
  rw [eW];split
  ·rename_i h;rw [jN k];constructor
   ·rintro ⟨h1,h2⟩;exact ⟨by omega,h2⟩
   ·rintro ⟨h1,h2⟩;by_cases e:x=k
    ·subst e;exact absurd h h2
    ·exact ⟨by omega,h2⟩
  ·rename_i h;rw [NW,jN k,NR];constructor
   ·rintro (⟨h1,h2⟩ | rfl)
    ·exact ⟨by omega,h2⟩
    ·exact ⟨by omega,h⟩
   ·rintro ⟨h1,h2⟩;by_cases e:x=k
    ·exact .inr e
    ·exact .inl ⟨by omega,h2⟩
theorem jP (O:aL) (m:Nat) (R:ZZ) (P:Lz) {j:Nat}:∀k,j<(eW P k).length->aj (dn O m R P k) j=kerTo O m R P ((eW P k).getD j 0) P.length
 | 0,h=>by simp [eW] at h
 | k+1,h=>by
  rw [dn,eW] at *;split
  ·rename_i hc;rw [M7 hc] at h;exact jP O m R P k h
  ·rename_i hc;rw [M8 hc,Ni,ND] at h;have X:=gI O m R P k;by_cases e:j<(eW P k).length
   ·have e1:aj (dn O m R P k ++ [kerTo O m R P k P.length]) j=aj (dn O m R P k) j:=by unfold aj;simp only [Na];rw [NA (by omega)]
    have Z:(eW P k ++ [k]).getD j 0=(eW P k).getD j 0:=by simp only [Na];rw [NA e]
    rw [e1,Z];exact jP O m R P k e
   ·have Y:j=(eW P k).length:=by omega
    have e1:aj (dn O m R P k ++ [kerTo O m R P k P.length]) j=kerTo O m R P k P.length:=by unfold aj;simp only [Na];rw [N4 (by omega)];simp [Y,X]
    have Z:(eW P k ++ [k]).getD j 0=k:=by simp only [Na];rw [N4 (by omega)];simp [Y]
    rw [e1,Z]
variable {R:ZZ} {P:Lz}
theorem jM (Y:lK R P m) {c x:Nat} (X:x<m) (Z:x ≠ c):∀i,i<=P.length->(∀j,j<i->(nth P j).toNat ≠ x)->nth (kerTo O m R P c i) x=0
 | 0,_,_=>by
  by_cases hc:c<m
  ·rw [kerTo,eT _ _ _ _ (by simpa using hc),M8 Z];simp [nth,Na,NP];split<;>rfl
  ·rw [kerTo,OL (by simp;omega)];simp [nth,Na,NP];split<;>rfl
 | i+1,hi,h=>by have hb:=Y.lt i (by omega);rw [kerTo,eT _ _ _ _ (by rw [gz];omega),M8 (λe=>h i (by omega) e.symm)];exact jM Y X Z i (by omega) λj V=>h j (by omega)
theorem ju (Y:lK R P m) {c:Nat} (hc:c<m) (Z:¬ (c:Int) ∈ P):∀i,i<=P.length->nth (kerTo O m R P c i) c=1
 | 0,_=>by rw [kerTo,eT _ _ _ _ (by simpa using hc),M7 rfl]
 | i+1,hi=>by have hb:=Y.lt i (by omega);have hne:c ≠ (nth P i).toNat:=λe=>Z (by have:nth P i ∈ P:=aG (by omega);rwa [show nth P i=(c:Int) by omega] at this);rw [kerTo,eT _ _ _ _ (by rw [gz];omega),M8 hne];exact ju Y hc Z i (by omega)
theorem vS (Z:lK R P m) (Y:pz R P) {c j:Nat}:∀i,i<=P.length->j<i->nth (kerTo O m R P c i) (nth P j).toNat=O.neg (nth (aj R j) c)
 | 0,_,h=>by omega
 | i+1,hi,h=>by
  have hb:=Z.lt i (by omega);have X:=Z.lt j (by omega);rw [kerTo,eT _ _ _ _ (by rw [gz];omega)];by_cases e:j=i
  ·subst e;rw [M7 rfl]
  ·have:=Y.asc j i (by omega) (by omega);rw [M8 (by omega)];exact vS Z Y i (by omega) (by omega)
theorem kI (F:bQ O El) (Z:bz El m R) (Y:lK R P m) (hlen:R.length=P.length) {c:Nat} (hc:c<m):∀i,i<=P.length->Vc El m (kerTo O m R P c i)
 | 0,_=>⟨gz O m R P c 0,λy hy=>by
  rw [kerTo] at hy;rcases Oe hy with h | rfl
  ·rw [N3 h];exact F.zero
  ·exact F.one⟩
 | i+1,hi=>⟨gz O m R P c (i+1),λy hy=>by
  rw [kerTo] at hy;rcases Oe hy with h | rfl
  ·exact (kI F Z Y hlen hc i (by omega)).2 y h
  ·exact F.cl.neg _ (R0 (Z.row (by omega)) hc)⟩
theorem lM {P:Lz} {k j:Nat} (h:j<(eW P k).length):(eW P k).getD j 0<k/\¬ (((eW P k).getD j 0:Nat):Int) ∈ P:=by
 have e:(eW P k).getD j 0=(eW P k)[j]:=by simp [Na,h]
 rw [e];exact (jN k).1 (NL h)
theorem jA (F:bQ O El) (U:bz El m R) (X:lK R P m) (hlen:R.length=P.length):bz El m (dn O m R P m):=λr V=>by
 obtain ⟨j,Y,rfl⟩:=List.mem_iff_getElem.1 V;have Z:j<(eW P m).length:=by rw [<- gI O m R P m];exact Y
 rw [<- aH Y,jP O m R P m Z];exact kI F U X hlen (lM Z).1 P.length (M4 _)
theorem ow (F:bQ O El) (E:bz El m R) (Z:lK R P m) (A:pz R P) (hlen:R.length=P.length):oY O m R (dn O m R P m):=λi j hi Q=>by
 rw [gI] at Q;rw [jP O m R P m Q];obtain ⟨hc,C⟩:=lM Q;generalize (eW P m).getD j 0=c at *;have hb:=Z.lt i (by omega);have hne:c ≠ (nth P i).toNat:=λe=>C (by have:nth P i ∈ P:=aG (by omega);rwa [show nth P i=(c:Int) by omega] at this);have Y:El (nth (aj R i) c):=R0 (E.row hi) hc;have e1:nth (kerTo O m R P c P.length) c=1:=ju Z hc C _ (M4 _);have B:nth (kerTo O m R P c P.length) (nth P i).toNat=O.neg (nth (aj R i) c):=vS Z A _ (M4 _) (by omega);have D:nth (aj R i) (nth P i).toNat=1:=by rw [Z.one i i (by omega) hi,M7 rfl]
 rw [zo F hne (by rw [e1,F.iH Y];exact Y) (by rw [B,D,F.one_mul _ (F.cl.neg _ Y)];exact F.cl.neg _ Y) m λp U S V=>?_,M7 hc,M7 (by omega),e1,B,D,F.iH Y,F.one_mul _ (F.cl.neg _ Y),F.add_neg _ Y];show O.mul (nth (aj R i) p) (nth (kerTo O m R P c P.length) p)=0;have H:El (nth (aj R i) p):=R0 (E.row hi) U;by_cases X:∃q,q<P.length/\(nth P q).toNat=p
 ·obtain ⟨q,N,rfl⟩:=X;have I:i ≠ q:=λe=>V (by rw [e]);rw [Z.one q i N hi,M8 I,F.lI ((kI F E Z hlen hc _ (M4 _)).at U)]
 ·rw [jM Z U S _ (M4 _) λq N e=>X ⟨q,N,e⟩,F.df H]
theorem Dr (F:bQ O El) (S:lK R P m):∀k,k<=(eW P m).length->Rk (lu O El (dn O m R P m).length (bp (dn O m R P m))) (((eW P m).take k).reverse) k
 | 0,_=>.nil
 | k+1,hk=>by
  have Q:=Dr F S k (by omega);have Z:k<(eW P m).length:=by omega
  have H:∀K,(eW P K).Nodup:=λK=>by
   induction K with
   | zero=>exact Qq
   | succ K Q =>
    rw [eW]
    split
    ·exact Q
    ·rw [Oj]
     refine ⟨Q,by simp,λa ha b hb=>?_⟩
     rw [NR] at hb
     rw [hb]
     have:=(jN K).1 ha
     omega
  have N:((eW P m).take (k+1)).reverse=(eW P m)[k] :: ((eW P m).take k).reverse:=by rw [Nh Z,List.reverse_append];rfl
  rw [N];refine .ind _ (λhc=>?_) Q;have Y:k<(dn O m R P m).length:=by rw [gI];exact Z
  have X:=lM (P:=P) (k:=m) Z;have I:(eW P m).getD k 0=(eW P m)[k]:=by simp [Na,Z]
  rw [I] at X;have h1:=hc (λv=>nth v k) (j7.zq F Y) λy hy=>by
   rw [P8] at hy;show nth (bp _ y) k=0;rw [dx _ y k Y,jP O m R P m Z,I];have V:=(jN m).1 (N9 hy);have E:y ≠ (eW P m)[k]:=λe=>by obtain ⟨q,U,D⟩:=List.mem_iff_getElem.1 hy;rw [NH] at U;rw [PX] at D;have h3:=(Rx (H m)).1 (D.trans e);omega
   refine jM S V.1 E _ (M4 _) λq U e=>V.2 ?_;have h4:=S.lt q U;have:nth P q ∈ P:=aG U;rwa [show nth P q=(y:Int) by omega] at this
  have h2:nth (bp (dn O m R P m) (eW P m)[k]) k=0:=h1;rw [dx _ _ k Y,jP O m R P m Z,I,ju S X.1 X.2 _ (M4 _)] at h2;exact absurd h2 (by decide)
theorem va (P:Lz) (U:∀j,j<P.length->0<=nth P j/\nth P j<m) (ha:∀i j,i<j->j<P.length->nth P i<nth P j):(eW P m).length+P.length=m:=by
 have key:∀k,k<=m->∃t,t<=P.length/\(eW P k).length+t=k/\(∀j,j<t->nth P j<k)/\(∀j,t<=j->j<P.length->(k:Int)<=nth P j):=by
  intro k;induction k with
  | zero=>intro _;exact ⟨0,Nb _,rfl,λj Y=>by omega,λj _ Y=>(U j Y).1⟩
  | succ k I =>
   intro hk
   obtain ⟨t,h1,h2,h3,h4⟩:=I (by omega)
   rw [eW]
   by_cases hm:(k:Int) ∈ P
   ·rw [M7 hm]
    obtain ⟨q,V,e⟩:=List.mem_iff_getElem.1 hm
    rw [<- an V] at e
    have X:q=t:=by
     by_cases h5:q<t
     ·have:=h3 q h5;omega
     ·by_cases Z:t<q
      ·have N:=ha t q Z V;have S:=h4 t (M4 _) (by omega);omega
      ·omega
    subst X
    refine ⟨q+1,by omega,by omega,λj Y=>?_,λj h5 Z=>?_⟩
    ·by_cases Q:j=q
     ·subst Q;omega
     ·have:=h3 j (by omega);omega
    ·have:=ha q j (by omega) Z;omega
   ·rw [M8 hm,Ni,ND]
    refine ⟨t,h1,by omega,λj Y=>by have:=h3 j Y;omega,λj h5 Z=>?_⟩
    have N:=h4 j h5 Z
    have S:nth P j ≠ k:=λe=>hm (by rw [<- e];exact aG Z)
    omega
 obtain ⟨t,h1,h2,h3,h4⟩:=key m (M4 _);have:t=P.length:=by apply NB;intro h;have h5:=h4 t (M4 _) (by omega);have Z:=U t (by omega);omega
 omega
theorem Fh (F:bQ O El) (U:bz El m R) (V:lK R P m) (Y:pz R P) (hlen:R.length=P.length) :
  R.length+(bI O m (dn O m R P m)).length=m/\oY O m R (bI O m (dn O m R P m)):=by
 have Z:=jA F U V hlen;have I:=va (m:=m) P V.lt Y.asc;have E:=gI O m R P m;obtain ⟨N,C⟩:=dC F Z;have H:=ow F U V Y hlen;refine ⟨?_,λi j hi A=>?_⟩
 ·have h1:=rJ F Z;have h2:=Dr F V (O:=O) (El:=El) (R:=R) (eW P m).length (M4 _);have hle:=(eO O (dn O m R P m) m).2;have B:=cU F Z;have h3:=Rk.map (cl':=lu O El (bI O m (dn O m R P m)).length (bp (bI O m (dn O m R P m)))) (λy=>y<m) id (λl x Y X=>by rw [Q5];exact ⟨N.cl Y X,C.cl Y X⟩) h2 (λy hy=>by rw [P8] at hy;exact ((jN m).1 (N9 hy)).1);have h4:=Rk.le (gd F (dk F Z)) h3 h1 (λx X=>(gd F (dk F Z)).mem _ _ (by rw [Q5,P8] at X;exact List.mem_range.2 ((jN m).1 (N9 X)).1));omega
 ·obtain ⟨e,he,S⟩:=N j A;rw [gu (a':=λp=>nth (aj R i) p) (b':=λp=>e (bp (dn O m R P m) p)) m λp Q=>⟨rfl,S p Q⟩];exact lQ F Z he (λp Q=>R0 (U.row hi) Q) λq D=>H i q hi D
end
section
variable {P:Int} {M:Nat} {mod:Lz} {q:Nat} {x:Int}
theorem CK (h:lA P M) (Z:fo P M x):pw P M mod x 1=x:=by show dp P M mod (pw P M mod x 0) x=x;rw [pw,iB h Z]
theorem Ly (h:lA P M) (Z:fo P M x):pw P M mod x 2=dp P M mod x x:=by show dp P M mod (pw P M mod x 1) x=_;rw [CK h Z]
theorem Lb (h:lA P M) (Z:fo P M x):∀k,pw P M mod (dp P M mod x x) k=pw P M mod x (2 * k)
 | 0=>rfl
 | k+1=>by rw [pw,Lb h Z k,<- Ly h Z,iY h];rfl
theorem Bx (h:lA P M):∀(f n:Nat) (x:Int),fo P M x->n<2 ^ f->fpw (dp P M mod) f x n=pw P M mod x n
 | 0,n,x,Y,Z=>by
  have:n=0:=by simpa using Z
  subst this;rfl
 | f+1,n,x,Y,Z=>by
  have V:=Bx h f (n / 2) (dp P M mod x x) (fN h x x) (by rw [Pf] at Z;omega);unfold fpw;split
  ·rename_i h0;subst h0;rfl
  ·rw [V,Lb h Y];split
   ·rename_i h1;have e:n=2 * (n / 2)+1:=by omega
    have X:pw P M mod x n=pw P M mod x (2 * (n / 2)+1):=congrArg _ e;rw [X];rfl
   ·rename_i h1;have e:n=2 * (n / 2):=by omega
    exact (congrArg _ e).symm
structure Ord (P:Int) (M:Nat) (mod:Lz) (q:Nat) (x:Int):Prop where
 one:pw P M mod x (q - 1)=1
 ne:∀k,0<k->k<q - 1->pw P M mod x k ≠ 1
theorem C9 (h:lA P M) {a:Nat} (h1:pw P M mod x a=1):∀n,pw P M mod x (a * n)=1
 | 0=>rfl
 | n+1=>by rw [PF,<- iY h,C9 h h1 n,h1,iB h (xK h)]
theorem Kj (h:lA P M) {a b:Nat} (ha:pw P M mod x a=1) (hb:pw P M mod x b=1):pw P M mod x (a % b)=1:=by have e:a=b * (a / b)+a % b:=(Po a b).symm;rw [e,<- iY h,C9 h hb,iB h (qx h x _)] at ha;exact ha
theorem Lr (h:lA P M):∀(b a:Nat),pw P M mod x a=1->pw P M mod x b=1->pw P M mod x (Nat.gcd b a)=1:=by
 intro b;induction b using Nat.strongRecOn with
 | ind b Z =>
  intro a ha hb
  by_cases h0:b=0
  ·subst h0;rw [Nat.gcd_zero_left];exact ha
  ·rw [Nat.gcd_rec]
   exact Z (a % b) (O8 _ (by omega)) b hb (Kj h ha hb)
theorem Ord.of (h:lA P M) (U:fo P M x) (H:q<=256) (X:yN (dp P M mod) q x=true):Ord P M mod q x:=by
 unfold yN at X;rw [Nx] at X;obtain ⟨h1,h2⟩:=X;have Z:=eq_of_beq h1;rw [Bx h 8 _ x U (by omega)] at Z;refine ⟨Z,λk Y I hk=>?_⟩;have Q:=Lr h k (q - 1) Z hk;have V:Nat.gcd k (q - 1) ∣ q - 1:=Nat.gcd_dvd_right _ _;have N:Nat.gcd k (q - 1)<=k:=Nat.gcd_le_left _ Y;have S:0<Nat.gcd k (q - 1):=Nat.gcd_pos_of_pos_left _ Y;have h3:=List.all_eq_true.1 h2 (Nat.gcd k (q - 1)) (List.mem_range.2 (by omega));have h4:(q - 1) % Nat.gcd k (q - 1)=0:=Nat.mod_eq_zero_of_dvd V;simp only [Qe,beq_iff_eq,bne_iff_ne,ne_eq] at h3;rcases h3 with (h3 | h3) | h3
 ·omega
 ·exact h3 h4
 ·rw [Bx h 8 _ x U (by omega)] at h3;exact h3 Q
theorem Ord.nz (h:lA P M) (o:Ord P M mod q x) {k:Nat} (hk:k<q - 1):pw P M mod x k ≠ 0:=by intro h0;have h1:=iY (mod:=mod) h x k (q - 1 - k);rw [h0,jh h,pW h,show k+(q - 1 - k)=q - 1 by omega,o.one] at h1;omega
theorem Ord.inj (h:lA P M) (o:Ord P M mod q x) {i j:Nat} (Z:i<j) (Y:j<q - 1):pw P M mod x i ≠ pw P M mod x j:=by
 intro e;have h1:=iY (mod:=mod) h x i (q - 1 - i);have h2:=iY (mod:=mod) h x j (q - 1 - i);rw [show i+(q - 1 - i)=q - 1 by omega,o.one,e,h2] at h1;have h3:pw P M mod x (j - i)=1:=by have h4:=iY (mod:=mod) h x (j - i) (q - 1);rw [o.one,jh h,iB h (qx h x _),show j - i+(q - 1)=j+(q - 1 - i) by omega,h1] at h4;exact h4
 exact o.ne (j - i) (by omega) (by omega) h3
theorem s9 (h:lA P M) (X:fo P M x) (o:Ord P M mod q x):∀(n k:Nat),k<=q - 1->q - 1 - k<n->0<k ->
  powTo (λz=>dp P M mod z x) n ((List.range k).map λi=>pw P M mod x i) (pw P M mod x k)=(List.range (q - 1)).map λi=>pw P M mod x i
 | 0,k,_,Y,_=>by omega
 | n+1,k,hk,Y,h0=>by
  by_cases Z:k=q - 1
  ·subst Z;refine jw _ _ _ _ (.inr ?_);rw [o.one,OW];exact ⟨0,List.mem_range.2 h0,rfl⟩
  ·rw [sY]
   ·have e:(List.range k).map (λi=>pw P M mod x i) ++ [pw P M mod x k]=(List.range (k+1)).map λi=>pw P M mod x i:=by rw [Ot,NT];rfl
    rw [e];exact s9 h X o n (k+1) (by omega) (by omega) (by omega)
   ·rintro (h1 | h1)
    ·exact o.nz h (by omega) h1
    ·obtain ⟨i,hi,e⟩:=List.mem_map.1 h1;exact o.inj h (List.mem_range.1 hi) (by omega) e
theorem Ord.fX (h:lA P M) (Z:fo P M x) (X:2<=q) (o:Ord P M mod q x):fX P M mod q x=true:=by
 have Y:eX P M mod q x=(List.range (q - 1)).map λi=>pw P M mod x i:=by
  by_cases h2:q=2
  ·subst h2;have:x=1:=by have:=o.one;rwa [show 2 - 1=1 from rfl,CK h Z] at this
   subst this;rw [eX,jw _ _ _ _ (.inr (by simp))];rfl
  ·have:=s9 h Z o q 1 (by omega) (by omega) (by omega);rw [CK h Z] at this;exact this
 unfold Proofs.YthglbncgemdcbaaGreat.fX;rw [Y,Nx];refine ⟨by simp,?_⟩;have e:nth ((List.range (q - 1)).map λi=>pw P M mod x i) (q - 2)=pw P M mod x (q - 2):=by rw [an (by simp;omega)];simp
 rw [e];have:dp P M mod (pw P M mod x (q - 2)) x=pw P M mod x (q - 1):=by rw [show q - 1=(q - 2)+1 by omega];rfl
 rw [this,o.one];rfl
theorem si:∀(n x y:Nat),2<=q->x<=y->y<x+n->fX P M mod q y=true->genTo P M mod q n x ≠ []
 | 0,x,y,_,h1,h2,_=>by omega
 | n+1,x,y,X,h1,h2,Y=>by
  rw [genTo];by_cases Z:fX P M mod q x=true
  ·rw [M7 Z];intro e;simp only [fX,Nx,beq_iff_eq] at Z;rw [e] at Z;simp at Z;omega
  ·rw [M8 Z];refine si n (x+1) y X ?_ (by omega) Y;rcases Rf h1 with h3 | h3
   ·subst h3;exact absurd Y Z
   ·exact h3
theorem AE {ex:Lz} {y a b:Int} (g:uP P M mod q y ex) (ha:fo P M a) (hb:fo P M b) (Z:a ≠ 0) (Y:b ≠ 0):dp P M mod a b ≠ 0:=by obtain ⟨i,_,rfl,_⟩:=g.log ha Z;obtain ⟨j,_,rfl,_⟩:=g.log hb Y;rw [iY g.res];exact g.K6 _
end
theorem ED {P:Int} {M q:Nat} {l:List (Nat × Nat)} (h:fp P M q l) {v:Nat} (Z:v<q):∃c,BO P M q v c=true:=⟨_,h v Z⟩
theorem Mk (p m:Nat) (Y:gq p=true) (h2:2<=p) (hm:2<=m) (U:m<=8) (Z:(p:Int) ^ m<=256):∃l,fp p m (((p:Int) ^ m).toNat) l:=by
 have X:p<=16:=by
  have h1:=dJ (P:=(p:Int)) (by omega) hm;have h3:(p:Int) ^ 2=p * p:=by rw [N1,N1,O4,PS]
  rcases NU 16 p with h4 | h4
  ·have h5:17 * 17<=p * p:=O0 h4 h4;have V:((17 * 17:Nat):Int)<=((p * p:Nat):Int):=Int.ofNat_le.2 h5;rw [QP] at V;omega
  ·exact h4
 have hc:p=2\/p=3\/p=4\/p=5\/p=6\/p=7\/p=8\/p=9\/p=10\/p=11\/p=12\/p=13\/p=14\/p=15\/p=16:=by omega
 have hd:m=2\/m=3\/m=4\/m=5\/m=6\/m=7\/m=8:=by omega
 rcases hc with rfl | rfl | rfl | rfl | rfl | rfl | rfl | rfl | rfl | rfl | rfl | rfl | rfl | rfl | rfl
 ·rcases hd with rfl | rfl | rfl | rfl | rfl | rfl | rfl
  ·exact ⟨_,Lf⟩
  ·exact ⟨_,Lt⟩
  ·exact ⟨_,Lh⟩
  ·exact ⟨_,Lq⟩
  ·exact ⟨_,L9⟩
  ·exact ⟨_,L0⟩
  ·exact ⟨_,Ll⟩
 ·rcases hd with rfl | rfl | rfl | rfl | rfl | rfl | rfl
  ·exact ⟨_,LM⟩
  ·exact ⟨_,L8⟩
  ·exact ⟨_,Lm⟩
  ·exact ⟨_,LB⟩
  ·exact absurd Z (by decide)
  ·exact absurd Z (by decide)
  ·exact absurd Z (by decide)
 ·exact absurd Y (by decide)
 ·rcases hd with rfl | rfl | rfl | rfl | rfl | rfl | rfl
  ·exact ⟨_,LO⟩
  ·exact ⟨_,LQ⟩
  ·exact absurd Z (by decide)
  ·exact absurd Z (by decide)
  ·exact absurd Z (by decide)
  ·exact absurd Z (by decide)
  ·exact absurd Z (by decide)
 ·exact absurd Y (by decide)
 ·rcases hd with rfl | rfl | rfl | rfl | rfl | rfl | rfl
  ·exact ⟨_,LF⟩
  ·exact absurd Z (by decide)
  ·exact absurd Z (by decide)
  ·exact absurd Z (by decide)
  ·exact absurd Z (by decide)
  ·exact absurd Z (by decide)
  ·exact absurd Z (by decide)
 ·exact absurd Y (by decide)
 ·exact absurd Y (by decide)
 ·exact absurd Y (by decide)
 ·rcases hd with rfl | rfl | rfl | rfl | rfl | rfl | rfl
  ·exact ⟨_,KT⟩
  ·exact absurd Z (by decide)
  ·exact absurd Z (by decide)
  ·exact absurd Z (by decide)
  ·exact absurd Z (by decide)
  ·exact absurd Z (by decide)
  ·exact absurd Z (by decide)
 ·exact absurd Y (by decide)
 ·rcases hd with rfl | rfl | rfl | rfl | rfl | rfl | rfl
  ·exact ⟨_,KN⟩
  ·exact absurd Z (by decide)
  ·exact absurd Z (by decide)
  ·exact absurd Z (by decide)
  ·exact absurd Z (by decide)
  ·exact absurd Z (by decide)
  ·exact absurd Z (by decide)
 ·exact absurd Y (by decide)
 ·exact absurd Y (by decide)
 ·exact absurd Y (by decide)
theorem Kx {P:Int} {m:Nat} (Z:RF P m) {mod:Lz} (hd:dL P mod) (Y:mod.length=m):0<=valu P mod/\valu P mod<P ^ m:=by have:=oV (P:=P) (by have:=Z.p2;omega) mod hd;rwa [Y] at this
theorem eU (P M:Int) (mod:Lz):bC P M mod=bw P M mod:=by
 by_cases hs:cF P M mod=true
 ·unfold bC bw;rw [hs,Ps,Ps];have Q:=hs;unfold cF at Q;simp only [Nx,bne_iff_ne,ne_eq] at Q;obtain ⟨⟨h1,h2⟩,h3⟩:=Q;obtain ⟨m,rfl,Z⟩:=RF.of h1;obtain ⟨p,rfl⟩:∃p:Nat,P=p:=⟨P.toNat,by have:=Z.p2;omega⟩
  rw [M9] at h2 ⊢;have hp2:2<=p:=by have:=Z.p2;omega
  have z:p<=256:=by have:=Z.p256;omega
  have C:=Z.order;have Y:=Z.res;obtain ⟨q,B⟩:∃q:Nat,(p:Int) ^ m=q:=⟨((p:Int) ^ m).toNat,by have:=one_lt_pow Y;omega⟩
  have N:2<=q:=by have:=one_lt_pow Y;omega
  have S:q<=256:=by have:=Z.pw;omega
  rw [C,B,M9];have U:∀x:Nat,0<x->x<q->yN (dp p m mod) q x=true->(fW p m mod q).isEmpty=false:=λx hx0 hx1 ho=>by
   have D:fo (p:Int) m x:=⟨by omega,by rw [B];omega⟩
   have hg:=(Ord.of Y D S ho).fX Y D N;have:=si (P:=p) (M:=m) (mod:=mod) (q - 1) 1 x N (by omega) (by omega) hg;unfold fW;cases h:genTo p m mod q (q - 1) 1 with
   | nil=>exact absurd h this
   | cons y l=>rfl
  by_cases hm:m=1
  ·subst hm;have I:mod=[]:=by rw [M7 (by simp)] at h3;exact NF (by simpa using h3)
   subst I;have hr:=List.all_eq_true.1 Ib p (List.mem_range.2 (by omega));have E:decide (p<2)=false:=by simp;omega
   rw [E,h2] at hr;simp only [Bool.not_true,Bool.false_or,PG] at hr;obtain ⟨c,hc,j⟩:=hr;have X:=List.all_eq_true.1 MK c hc;have H:c.1=p:=by simpa using j
   unfold Mi at X;rw [H] at X;simp only [Nx,NM] at X;have r:q=p:=by
    have:(p:Int) ^ 1=p:=by rw [N1,O4,PS]
    omega
   rw [U c.2 X.1.2 (by omega) (by rw [r];exact X.1.1)];rfl
  ·have hM:¬ (m:Int)=1:=by omega
   rw [M8 hM] at h3;simp only [Nx,NM] at h3;have hlen:mod.length=m:=by omega
   have V:dL (p:Int) mod:=Su (by omega) λx hx=>by have:=List.all_eq_true.1 h3.2 x hx;simpa using this
   have hv:=Kx Z V hlen;obtain ⟨v,A⟩:∃v:Nat,valu p mod=v:=⟨(valu p mod).toNat,by omega⟩
   have hdv:digs v p m=mod:=by rw [<- A,<- hlen];exact mJ mod V
   obtain ⟨l,hl⟩:=Mk p m h2 hp2 (by have:=Z.m1;omega) Z.m8 Z.pw;rw [B,M9] at hl;obtain ⟨c,hc⟩:=ED hl (v:=v) (by omega);have hM':((m:Int) == 1)=false:=by simpa using hM
   rw [hM',Bool.false_or];unfold BO at hc;rw [hdv] at hc;split at hc
   ·simp only [Nx,NM] at hc;rw [hc.1.1.1,U c.1 hc.1.2 hc.2 hc.1.1.2];rfl
   ·rename_i hc2;simp only [Nx,NM,Bool.not_eq_true',beq_iff_eq] at hc;rw [hc.1.1.1.1];cases h:(fW p m mod q).isEmpty with
    | true=>rfl
    | false =>
     exfalso
     have hne:fW p m mod q ≠ []:=λe=>by rw [e] at h;cases h
     obtain ⟨y,hy1,hy2,hy3,hy4⟩:=pC hne
     have g:=uP.zd (mod:=mod) Y B.symm ⟨by omega,by omega⟩ hy3
     exact AE g (a:=(c.1:Int)) (b:=(c.2:Int)) ⟨by omega,by omega⟩ ⟨by omega,by omega⟩ (by omega) (by omega) hc.1.1.1.2
 ·have hs':cF P M mod=false:=by simpa using hs
  simp [bC,bw,hs']
def xD (O:aL) (L:ZZ) (Z:Nat):ZZ:=(aE O L Z).1.take (aE O L Z).2.length
def rX (O:aL) (L:ZZ) (Z:Nat) (w:ej) (e:Ending) (w':ej):Prop :=
 ∃a c ap cp,e = ec #[.slice a (aE O L Z).2.length c,.slice ap (aE O L Z).2.length cp]/\bJ w.heap.size w' a (aE O L Z).2.length (xD O L Z) /\
  bH w.heap.size w' ap (aE O L Z).2.length (aE O L Z).2/\SJ w w'
theorem ta (P:Int) (m:Nat) (am:OA) (N E:Nat) (mod:Lz) (a:OA) (n c Z:Nat) (L:ZZ) (w:ej) (hf:yD w P m am N mod) (hi:bP w a n L)
  (r:bz (fo P m) Z L) (hlen:Z<=1000000) (hn:n<=1000000) (hinv:∀p,fo P m p->p ≠ 0->(gP P m mod p=1 ↔ p=1)) :
  Calls prog 124 #[.agg #[cG P,cG m,.slice am N E],.slice a n c,cG Z] w (rX (mV P m mod) L Z w):=by
 have A:=Z5 hi.len;have z:Hid (∀V,SJ w V->Calls prog 179 #[.agg #[cG P,cG m,.slice am N E],.slice a n c,cG Z] V (j8 (mV P m mod) L Z V)) :=
  λV j=>vA P m am N E mod a n c Z Z L V (hf.ai j) (hi.ai j) r (M4 _) hlen hn hinv
 obtain ⟨O,B⟩:∃O,mV P m mod=O:=⟨_,rfl⟩
 rw [B] at z ⊢;clear B hinv r;go_enter func124,ntmps124;go_wp2_with fail;obtain ⟨W,C⟩:∃W:ej,W=w.alloc (.cells #[cG P,cG m,.slice am N E] 24):=⟨_,rfl⟩
 rw [<- C];have Y:SJ w W:=by rw [C];exact aD _ _
 clear C;refine (z W Y).mono ?_;rintro e w1 ⟨a1,c1,R1,ap,cp,rfl,H,S,D⟩;have U:=eO O L Z;have X:=o7 H.own;have Q:=(SF S).mono Y.size;have I:=((Sq H).take (k:=(aE O L Z).2.length) U.2).mono Y.size;have hF:rX O L Z w (ec #[.slice a1 (aE O L Z).2.length c1,.slice ap (aE O L Z).2.length cp]) w1:=⟨a1,_,ap,cp,rfl,I,Q,RU Y D⟩
 have HF:=Z5 hF;have hle:(aE O L Z).2.length<=c1:=Np U.2 X;clear hF Q I S X U;generalize (aE O L Z).2.length=k at *;go_wp2_with fail;go_ret2;simpa using HF.out
def gj (P M:Int) (mod:Lz) (Z:Int) (L:ZZ):Int :=
 if fR P M mod Z L=0 then (if xD (mV P M.toNat mod) L Z.toNat=L then 0 else 5) else fR P M mod Z L
theorem jt {P M:Int} {mod:Lz} (h:bC P M mod=true):∃m:Nat,M=m/\RF P m/\(∀(w:ej) am Y,Ints w am Y mod->A1 w P m am Y mod):=by
 unfold bC cF at h;simp only [Nx,bne_iff_ne,ne_eq] at h;obtain ⟨⟨⟨h1,h2⟩,h3⟩,h4⟩:=h;obtain ⟨m,rfl,Z⟩:=RF.of h1;refine ⟨m,rfl,Z,λw am Y hi=>⟨hi,λhm=>?_,?_⟩⟩
 ·rw [M8 (by omega)] at h3;simp only [Nx,NM] at h3;have:=hi.len;omega
 ·by_cases hm:(m:Int)=1
  ·rw [M7 hm] at h3;have:mod=[]:=NF (by simpa using h3);subst this;exact Su (by have:=Z.p2;omega) (by simp)
  ·rw [M8 hm] at h3;simp only [Nx] at h3;refine Su (by have:=Z.p2;omega) λx X=>?_;have:=List.all_eq_true.1 h3.2 x X;simpa using this
theorem BP {P M:Int} {mod:Lz} {Z:Int} {L:ZZ} (h:fR P M mod Z L=0):bC P M mod=true/\e9 (aO P M) Z L=0:=by
 unfold fR at h;split at h
 ·rename_i h1;exact ⟨h1,h⟩
 ·omega
theorem qT (P M:Int) (am:OA) (H cm:Nat) (mod:Lz) (Z:Int) (a:OA) (n c:Nat) (L:ZZ) (w:ej) (j:Ints w am H mod) (hi:bP w a n L)
  (hinv:bC P M mod=true->∀p,fo P M.toNat p->p ≠ 0->(gP P M.toNat mod p=1 ↔ p=1)) :
  Calls prog 86 #[.agg #[cG P,cG M,.slice am H cm],.agg #[cG Z,.slice a n c]] w λe w'=>e = .returned (cG (gj P M mod Z L))/\SJ w w':=by
 have D:=Z5 hi.len;have B:=Z5 hinv;clear hinv;go_enter func86,ntmps86;go_wp2_with fail;obtain ⟨W,hW⟩:∃W:ej,W=(w.alloc (.cells #[cG P,cG M,.slice am H cm] 24)).alloc (.cells #[cG Z,.slice a n c] 94):=⟨_,rfl⟩
 rw [<- hW];have N:SJ w W:=by rw [hW];exact dP _ _ _
 have x0:aQ W w.heap.size [cG P,cG M,.slice am H cm]:=by rw [hW];exact (RV _ _ _ rfl).alloc _
 have y0:aQ W (w.heap.size+1) [cG Z,.slice a n c]:=by rw [hW];exact RV _ _ _ (by simp)
 have HX:=Z5 (Ng x0 y0);have hiW:=hi.ai N;have z:=j.ai N;clear hW x0 y0;refine (uJ P M am H cm mod Z a n c L W z hiW).mono ?_;rintro e w1 ⟨rfl,Y⟩;have S:=RU N Y;by_cases I:fR P M mod Z L=0
 ·obtain ⟨hB,hm⟩:=BP I;obtain ⟨m,rfl,A,V⟩:=jt hB;obtain ⟨k,rfl,hk,hl,hR⟩:=mP hm;have C:Hid (gj P m mod k L=if xD (mV P m mod) L k=L then 0 else 5):=by show _=_;rw [gj,M7 I,M9,M9]
  rw [I];have hinv:=B hB;rw [M9] at hinv;have hRw:bz (fo P m) k L:=λr hr=>⟨(hR r hr).1,λx hx=>by have:=(hR r hr).2 x hx;rw [A.order] at this;exact this⟩
  have x1:=HX.1.ai Y;have y1:=HX.2.ai Y;have d0:=x1.cell 0 rfl;have d1:=x1.cell 1 rfl;have d2:=x1.cell 2 rfl;have d3:=y1.cell 0 rfl;have d4:=y1.cell 1 rfl;have hm1:=z.ai Y;have hi1:=hiW.ai Y;have hn:n<=1000000:=by rw [<- D.out];omega
  have HC:=Z5 (ta P m am H cm mod a n c k L w1 ⟨A,V w1 am H hm1⟩ hi1 hRw (by omega) hn hinv);clear I hB hm V hR hinv hRw x1 y1;obtain ⟨O,hO⟩:∃O,mV P m mod=O:=⟨_,rfl⟩
  rw [hO] at HC C;clear hO;go_wp2_with fail;refine HC.mono ?_;rintro e w2 ⟨a2,c2,ap,cp,rfl,hM2,hp2,Q⟩;have U:=RU S Q;have y2:=(HX.2.ai Y).ai Q;have d3:=y2.cell 0 rfl;have d4:=y2.cell 1 rfl;have hi2:=hi1.ai Q;have hM3:=hM2.lL;have HS:=Z5 (nc a2 (aE O L k).2.length c2 (xD O L k) a n c L hM3 hi2);clear hM2 hp2 y2;generalize (aE O L k).2.length=kk at *;by_cases hc:xD O L k=L
  ·have X:decide (xD O L k=L)=true:=by simpa using hc
   have HF:Hid (gj P m mod k L=0):=by show _=_;rw [C.out,M7 hc]
   rw [X] at HS;clear hc X;go_wp2_with fail;refine HS.mono ?_;rintro e w3 ⟨rfl,E⟩;go_wp2_with fail;go_ret;exact ⟨aK HF.symm,RU U E.below⟩
  ·have X:decide (xD O L k=L)=false:=by simpa using hc
   have HF:Hid (gj P m mod k L=5):=by show _=_;rw [C.out,M8 hc]
   rw [X] at HS;clear hc X;go_wp2_with fail;refine HS.mono ?_;rintro e w3 ⟨rfl,E⟩;go_wp2_with fail;go_ret;exact ⟨aK HF.symm,RU U E.below⟩
 ·have C:Hid (gj P M mod Z L=fR P M mod Z L):=by show _=_;rw [gj,M8 I]
  have hE':(fR P M mod Z L != 0)=true:=by simpa using I
  clear I;go_wp2_with fail;go_ret;exact ⟨aK C.symm,S⟩
theorem Kq {N:Int} (h:N<1):jf N=4:=by rw [jf,M7 (.inl h)]
theorem Kd {N:Int} (h:64<N):jf N=4:=by rw [jf,M7 (.inr h)]
theorem rN {N:Int} (h1:¬ N<1) (h2:¬ 64<N):jf N=0:=by rw [jf,M8 (by omega)]
def j4 (P M:Int) (mod:Lz) (N:Int) (L:ZZ):Int :=
 if bC P M mod=true then (if jf N=0 then gj P M mod N L else 4) else 1
theorem mf (P M:Int) (am:OA) (S D:Nat) (mod:Lz) (N:Int) (a:OA) (n c:Nat) (L:ZZ) (w:ej) (V:Ints w am S mod) (hi:bP w a n L)
  (hinv:bC P M mod=true->∀p,fo P M.toNat p->p ≠ 0->(gP P M.toNat mod p=1 ↔ p=1)) :
  Calls prog 35 #[.agg #[cG P,cG M,.slice am S D,cG N,.slice a n c]] w λe w'=>e = .returned (cG (j4 P M mod N L))/\SJ w w':=by
 have E:=Z5 hinv;clear hinv;go_enter func35,ntmps35;go_wp2_with fail;obtain ⟨W,B⟩:∃W:ej,W=w.alloc (.cells #[cG P,cG M,.slice am S D,cG N,.slice a n c] 27):=⟨_,rfl⟩
 rw [<- B];have X:SJ w W:=by rw [B];exact aD _ _
 have x0:aQ W w.heap.size [cG P,cG M,.slice am S D,cG N,.slice a n c]:=by rw [B];exact RV _ _ _ rfl
 have HX:=Z5 x0;clear B x0;refine (lz P M am S D mod W (V.ai X)).mono ?_;rintro e w1 ⟨rfl,Y⟩;have Z:=RU X Y;by_cases Q:bC P M mod=true
 ·have C:cX (bC P M mod)=0:=by rw [Q];rfl
  rw [C];have z:Hid (j4 P M mod N L=if jf N=0 then gj P M mod N L else 4):=by show _=_;rw [j4,M7 Q]
  have I:=HX.ai Y;have c0:=I.cell 0 rfl;have c1:=I.cell 1 rfl;have c2:=I.cell 2 rfl;have c3:=I.cell 3 rfl;have c4:=I.cell 4 rfl;have r:=(V.ai X).ai Y;have j:=(hi.ai X).ai Y;clear C Q I;by_cases h1:N<1
  ·have U:Hid (j4 P M mod N L=4):=by show _=_;rw [z.out,Kq h1];rfl
   have t1:decide (N<1)=true:=by simpa using h1
   go_wp2_with fail;go_ret;exact ⟨aK U.symm,Z⟩
  ·have t1:decide (N<1)=false:=by simpa using h1
   by_cases h2:64<N
   ·have U:Hid (j4 P M mod N L=4):=by show _=_;rw [z.out,Kd h2];rfl
    have t2:decide (64<N)=true:=by simpa using h2
    go_wp2_with fail;go_ret;exact ⟨aK U.symm,Z⟩
   ·have t2:decide (64<N)=false:=by simpa using h2
    have U:Hid (j4 P M mod N L=gj P M mod N L):=by show _=_;rw [z.out,rN h1 h2,M7 rfl]
    clear h1 h2;go_wp2_with fail;refine (qT P M am S D mod N a n c L w1 r j E.out).mono ?_;rintro e w2 ⟨rfl,A⟩;go_wp2_with fail;go_ret;exact ⟨aK U.symm,RU Z A⟩
 ·have H:bC P M mod=false:=by simpa using Q
  have U:Hid (j4 P M mod N L=1):=by show _=_;rw [j4,M8 Q]
  have C:cX (bC P M mod)=1:=by rw [H];rfl
  rw [C];clear Q H C;go_wp2_with fail;go_ret;exact ⟨aK U.symm,Z⟩
theorem zE {N:Int} {l:Lz} (h:dZ N l=true):∀k,k<l.length->(k:Int)<=nth l k
 | 0,hk=>(gL h hk).1
 | k+1,hk=>by have Z:=zE h k (by omega);have:=(gL h hk).2.2 (by omega);rw [On] at this;omega
theorem mM {N:Int} {l:Lz} (h:dZ N l=true) (Z:0<=N):(l.length:Int)<=N:=by
 by_cases h0:l.length=0
 ·omega
 ·have h1:=zE h (l.length - 1) (by omega);have h2:=(gL h (k:=l.length - 1) (by omega)).2.1;omega
theorem pS (N:Int) (l:Lz):lB N [l]=if dZ N l=true then 0 else 6:=by simp [lB]
def fw (P M:Int) (mod:Lz) (N:Int) (L:ZZ) (Q:Lz):Int:=if aI P M mod N L=0 then lB N [Q] else aI P M mod N L
def zV (P M:Int) (mod:Lz) (N:Int) (L:ZZ) (Q:Lz) (w:ej) (e:Ending) (w':ej):Prop :=
 SJ w w'/\((fw P M mod N L Q ≠ 0/\e = ec #[cG 0,cG (fw P M mod N L Q)]) \/
  (fw P M mod N L Q=0/\e = ec #[cG (jm (ah P M.toNat mod).ops L Q).length,cG 0]))
theorem eh {P M:Int} {mod:Lz} {N:Int} {L:ZZ} (h:aI P M mod N L=0):∃m:Nat,N=m/\1<=m/\m<=64/\L.length<=256/\bz (ah P M.toNat mod).El m L:=by obtain ⟨h1,h2,h3,h4⟩:=aX h;obtain ⟨h5,V⟩:=dF h4;obtain ⟨U,X⟩:=gk h5;obtain ⟨m,rfl,hm,Z,Y⟩:=mP X;exact ⟨m,rfl,by omega,by omega,Z,Y⟩
theorem Iy (P M:Int) (am:OA) (D z:Nat) (mod:Lz) (N:Int) (a:OA) (n c:Nat) (L:ZZ) (A:OA) (no co:Nat) (Q:Lz) (w:ej)
  (hmod:Ints w am D mod) (hi:bP w a n L) (hq:Ints w A no Q) :
  Calls prog 39 #[.agg #[cG P,cG M,.slice am D z,cG N,.slice a n c],.slice A no co] w (zV P M mod N L Q w):=by
 have Hql:=Z5 hq.len;have Hil:=Z5 hi.len;go_enter func39,ntmps39;go_wp2_with fail;obtain ⟨W,hW⟩:∃W:ej,W=w.alloc (.cells #[cG P,cG M,.slice am D z,cG N,.slice a n c] 27):=⟨_,rfl⟩
 rw [<- hW];have Y:SJ w W:=by rw [hW];exact aD _ _
 have x0:aQ W w.heap.size [cG P,cG M,.slice am D z,cG N,.slice a n c]:=by rw [hW];exact RV _ _ _ rfl
 have HX:=Z5 x0;clear hW x0;refine (qI P M am D z mod N a n c L W (hmod.ai Y) (hi.ai Y)).mono ?_;rintro e w1 ⟨X,⟨H,rfl⟩ | ⟨H,b,rfl,hG⟩⟩
 ·have U:=RU Y X;have B:Hid (fw P M mod N L Q=aI P M mod N L):=by show _=_;rw [fw,M8 H]
  have He:=Z5 H;have hE1:(aI P M mod N L == 0)=false:=by simpa using H
  have hE2:(aI P M mod N L != 0)=true:=by simpa using H
  clear H;go_wp2_with fail;go_ret2;exact ⟨U,.inl ⟨by rw [B.out];exact He.out,by rw [B.out];rfl⟩⟩
 ·have U:=RU Y X;have B:Hid (fw P M mod N L Q=lB N [Q]):=by show _=_;rw [fw,M7 H]
  have Hrw:=Z5 (eh H);have V:=HX.ai X;have b0:=V.cell 0 rfl;have b1:=V.cell 1 rfl;have b2:=V.cell 2 rfl;have b3:=V.cell 3 rfl;have b4:=V.cell 4 rfl;have r:=(hq.ai Y).ai X;have hbl:=aD w1 (.cells #[.slice A no co] 22);have hMs:bP (w1.alloc (.cells #[.slice A no co] 22)) (some ⟨w1.heap.size,0,none⟩) 1 [Q]:=⟨rfl,λ_=>rfl,by unfold maxLen;omega,λi hi=>by
   obtain rfl:i=0:=by omega
   exact ⟨A,no,co,dB _ _ _ rfl,r.ai hbl⟩⟩
  clear V H;go_wp2_with fail;refine (Ij P M am D z N a n c _ 1 1 [Q] _ hMs).mono ?_;rintro e w2 ⟨rfl,hb2⟩;have S:SJ w1 w2:=RU hbl hb2;have E:=RU U S;rw [pS] at B ⊢;by_cases Z:dZ N Q=true
  ·have I:Hid (fw P M mod N L Q=0):=by show _=_;rw [B.out,M7 Z]
   rw [M7 Z];obtain ⟨m,hm,hm1,hm2,hLl,hRw⟩:=Hrw.out;subst hm;have hlen:=mM Z (by omega);have j:∀k,k<no->0<=nth Q k/\nth Q k<m:=λk hk=>by have:=gL Z (k:=k) (by rw [Hql.out];exact hk);exact ⟨this.1,this.2.1⟩
   have hno:no<=1000000:=by rw [<- Hql.out];omega
   have hn:n<=1000000:=by rw [<- Hil.out];omega
   have HQk:=Z5 j;have HRw:=Z5 hRw;have V:=(HX.ai X).ai S;have b0:=V.cell 0 rfl;have b1:=V.cell 1 rfl;have b2:=V.cell 2 rfl;have b3:=V.cell 3 rfl;have b4:=V.cell 4 rfl;have hq2:=r.ai S;have hi2:=((hi.ai Y).ai X).ai S;have hG2:=hG.ai S;clear Z hlen j hRw V;go_wp2_with fail;refine (sx P M am D z m a n c L m A no co Q hG2 hi2 HRw.out hq2 HQk.out hn hno).mono ?_;rintro e w4 ⟨a4,c4,rfl,C,hb4⟩;have hF:zV P M mod m L Q w (ec #[cG (jm (ah P M.toNat mod).ops L Q).length,cG 0]) w4:=⟨RU E hb4,.inr ⟨I,rfl⟩⟩
   have HF:=Z5 hF;clear hF C;generalize jm (ah P M.toNat mod).ops L Q=out at *;go_wp2_with fail;go_ret2;exact HF
  ·have I:Hid (fw P M mod N L Q=6):=by show _=_;rw [B.out,M8 Z]
   rw [M8 Z];clear Z b0 b1 b2 b3 b4;go_wp2_with fail;go_ret2;exact ⟨E,.inl ⟨by rw [I.out];omega,by rw [I.out];rfl⟩⟩
def du (x:Nat):Nat->Lz
 | 0=>[]
 | k+1=>if x.testBit k=true then du x k ++ [(k:Int)] else du x k
theorem Ar (O:aL) (L:ZZ) (Q:Lz):∀k,(grTo O L Q k).2.length<=k
 | 0=>M4 _
 | k+1=>by
  have:=Ar O L Q k;simp only [grTo];split
  ·simp;omega
  ·omega
theorem Kk (O:aL) (L:ZZ) (Q:Lz):(jm O L Q).length<=Q.length:=Ar O L Q _
def tG (x:Nat):Nat:=18446744073709551615 ^^^ x
theorem eL (x i:Nat) (hi:i<64):(tG x).testBit i = !x.testBit i:=by
 have h:(18446744073709551615:Nat).testBit i=true:=by have:=Nat.testBit_two_pow_sub_one 64 i;rw [show (2:Nat) ^ 64 - 1=18446744073709551615 by decide] at this;rw [this];simp [hi]
 rw [tG,RK,h];simp
def LK (O:aL) (L:ZZ) (N x:Nat):Int:=(jm O L (du x N)).length+(jm O L (du (tG x) N)).length - L.length
section
open Go.RowKit
end
section
open Go.RowKit
end
def Sx:=@RS.row
end Go.Proofs.YthglbncgemdcbaaGreat
