import Derived.Test.YthglbncgemdcbaaGreatBO14
namespace Go.Proofs.YthglbncgemdcbaaGreat
set_option linter.all false
set_option maxRecDepth 100000
set_option maxHeartbeats 8000000
open Go.RowKit Go.Proofs.Tryz
section
variable {w:ej} {b:Nat} {G:bX}
theorem yU (pb:Nat) (a:OA) (n c:Nat) (L:ZZ) (m:Nat) (ay:OA) (cy:Nat) (y:Lz) (sa:OA) (ns cs:Nat) (s:Lz) (at':OA) (nt ct:Nat) (t:Lz)
  (p0:w.cell? ⟨pb,0,none⟩=some (ea b 0)) (p5:w.cell? ⟨pb,5,none⟩=some (.slice a n c)) (p6:w.cell? ⟨pb,6,none⟩=some (.slice ay m cy))
  (h:dg w b G) (hi:bP w a n L) (hR:bz G.El m L) (hy:Ints w ay m y) (hye:G.vn y) (hs:Ints w sa ns s) (ht:Ints w at' nt t) (hT:∀k,k<nt->0<=nth t k/\nth t k<m) (hn:n<=1000000) (hm:m<=1000000) (hnt:nt<=1000000) :
  Calls prog 261 #[ea pb 0,.slice sa ns cs,.slice at' nt ct] w λe w'=>e = .returned (cG (lr G.ops L y s t))/\SJ w w':=by
 have hpl:=hi.pl;have hplt:=ht.pl;have Hlen:=Z5 hi.len;have Htl:=Z5 ht.len;have Hyl:=Z5 hy.len;have HR:=Z5 hR;have HT:=Z5 hT;have Hye:=Z5 hye;have hcl:=Z5 (Sk h);have HP:=Z5 (λ(V:ej) (hV:SJ w V)=>(⟨aC hV p0,aC hV p5⟩:V.cell? ⟨pb,0,none⟩=some (ea b 0)/\V.cell? ⟨pb,5,none⟩=some (.slice a n c)));have HP0:=Z5 p0;clear hR hT hye;go_enter func261,ntmps261;go_wp2_with fail;refine (cZ ay m cy y hy hm).mono ?_;rintro e w1 ⟨a0,c0,rfl,I,hb1⟩;rw [Hyl.out] at I;rw [Hyl.out];have q5:=(HP w1 hb1).2;go_wp2_with (at_make;refine bR rfl _ _ 25 22 rfl ds 24 underlying25 ed rfl n rfl rfl (by omega) (by unfold maxLen;omega) ?_;intro a1 w2 hown hbel hge hlt;have r5:w2.cell? ⟨pb,5,none⟩=some (.slice a n c):=aC hbel q5);have hO:=qe hown;have hO1:∃R,aS w2 w1.heap.size a1 n n R (gn n 0 L):=⟨_,by simpa [gn] using hO⟩
 have hbw2:SJ w w2:=RU hb1 hbel;clear hO hown q5;go_loopw [39] (λiv wr=>∃k:Nat,k<=n/\iv = cG k/\(∃R,aS wr w1.heap.size a1 n n R (gn n k L))/\SJ w1 wr) (λiv _=>n - (intOf iv).toNat);case atStart=>exact ⟨0,Nb _,rfl,hO1,hbel⟩
 case round =>
  obtain ⟨k,hk,rfl,⟨R,hO⟩,hbr⟩:=hrel
  by_cases hlt:k<n
  ·have hiW:=hi.ai (RU hb1 hbr)
   obtain ⟨ra,rn,rc,hcell,D⟩:=hiW.cell k hlt
   have hkL:k<L.length:=by rw [Hlen.out];exact hlt
   have hrl:rn<=1000000:=by rw [<- D.len,aH hkL,(HR _ (NL hkL)).1];exact hm
   have hset:=nJ hlt Hlen.out
   have Hset:=Z5 hset
   clear hset
   have hpl1:=hO.pl
   generalize aj L k=l at *
   go_wp2_with fail
   refine (cZ ra rn rc l D hrl).mono ?_
   rintro e w3 ⟨a3,c3,rfl,hown3,hb3⟩
   have hO3:=hO.ai hb3
   have hf:=hO3.frozen hlt
   have hc:=hO3.cell hlt
   have hB:=(aS.lt hO3 (ablk a1) (.inl ⟨hO3.ne (by omega),rfl⟩)).1
   have hbr3:=RU hbr hb3
   have hsz:=hbr.size
   have hnew:=aS.setRow hO3 hlt (bq hown3 hsz) (jb hown3 (aS.lt hO (ablk a1) (.inl ⟨hO.ne (by omega),rfl⟩)).2) (λj hj _=>by
    by_cases hn:(aM R j).1=none
    ·exact .inl hn
    ·exact .inr (jb hown3 (aS.lt hO _ (aS.jS (by rw [hO.rl];exact hj) hn)).2))
   rw [Hset.out] at hnew
   have Hnew:=Z5 hnew
   clear hnew
   go_wp2_with fail
   go_roundw
   case rel=>exact ⟨k+1,by omega,by go_num,⟨_,Hnew⟩,hbr3.setCell hB _⟩
   case measure=>simp [intOf]<;>omega
  ·obtain rfl:k=n:=by omega
   rw [nN Hlen.out] at hO
   generalize wr=W2 at *
   have hbW2:=RU hb1 hbr
   have hO2:=aS.mono hO hb1.size
   have hs2:=Cd I (w':=W2) (λha=>hbr.block _ (aP I ha).2)
   have hsep0:a0 ≠ none->¬ bN a1 R (ablk a0):=λha=>hO.iO (aP I ha).2
   have Hsep0:=Z5 hsep0
   have hRd:=HR.out
   clear hO hsep0 I
   go_wp2_with fail
   go_loopw [11,52] (λav iv wr=>∃(j:Nat) (E:Z4) (st:LS),j<=nt/\iv = cG j/\av = cG st.top/\Hid (js G.ops L y t j=st)/\aS wr w.heap.size a1 k k E st.rows /\
     wr.ownsRow w.heap.size 3 1 (.slice a0 m c0) m (st.sum.map (Value.int .i64))/\SJ w wr/\Hid (a0 ≠ none->¬ bN a1 E (ablk a0))/\Hid (bz G.El m st.rows)/\Hid (st.sum.length=m/\∀x ∈ st.sum,G.El x)/\st.top<=k)
    (λ_ iv _=>nt - (intOf iv).toNat)
   case atStart=>exact ⟨0,R,⟨L,y,0⟩,Nb _,rfl,rfl,rfl,hO2,hs2,hbW2,Hsep0,HR,⟨Hyl,Hye⟩,Nb _⟩
   case round =>
    obtain ⟨j,E,st,hj,rfl,rfl,hst,hOr,hsr,K,hsep,hrw,O,htop⟩:=hrel
    generalize wr=U at *
    by_cases hlt2:j<nt
    ·have cj:=(ht.ai K).cell j hlt2
     have HTj:=HT j hlt2
     obtain ⟨i,hik⟩:∃i:Nat,nth t j=i:=⟨(nth t j).toNat,by omega⟩
     rw [hik] at cj HTj
     have him:i<m:=by omega
     have hstep:js G.ops L y t (j+1)=nQ G.ops st i:=by rw [js,hst.out,hik,M9]
     have Hstep:=Z5 hstep
     have F:=Z5 hOr.ll
     have hplr:=hOr.pl
     clear hstep hik
     go_wp2_with fail
     go_loop [14] (λkv=>∃q:Nat,st.top<=q/\q<=k/\kv = cG q/\Hid (aZ st.rows i st.top=aZ st.rows i q)) (λkv=>k - (intOf kv).toNat)
     case atStart=>exact ⟨st.top,M4 _,htop,rfl,rfl⟩
     case round =>
      obtain ⟨q,hq1,hq2,rfl,hfr⟩:=hrel
      by_cases Y:q<k
      ·have hLq:q<st.rows.length:=by rw [F.out];exact Y
       have D:=hrw.row hLq
       have cq:=hOr.cell Y
       have iq:=hOr.ints Y
       rw [D.1] at cq iq
       have ci:=iq.cell i him
       have hpq:=iq.pl
       have hfs:=fP (c:=i) hLq
       by_cases hz:nth (aj st.rows q) i=0
       ·have hz':(nth (aj st.rows q) i == 0)=true:=by simpa using hz
        have Hf:Hid (aZ st.rows i st.top=aZ st.rows i (q+1)):=by show _=_;rw [hfr.out,hfs,M7 hz]
        clear hz hfs D
        go_wp2_with fail
        go_round
        case rel=>exact ⟨q+1,by omega,by omega,by go_num,Hf⟩
        case measure=>simp [intOf]<;>omega
       ·have hz':(nth (aj st.rows q) i == 0)=false:=by simpa using hz
        have Hf:Hid (aZ st.rows i st.top=q):=by show _=_;rw [hfr.out,hfs,M8 hz]
        have hqk':((q:Int) == k)=false:=by simp;omega
        have Hz:=Z5 hz
        clear hz hfs D
        have Z:st.top<k:=by omega
        obtain ⟨T,hT⟩:∃T,st.top=T:=⟨_,rfl⟩
        rw [hT] at Z htop hq1 Hf
        rw [hT]
        have HT2:=Z5 hT
        clear hT
        have fq:=hOr.frozen Y
        have fT:=hOr.frozen Z
        have cT:=hOr.cell Z
        go_wp2_with fail
        go_cut [] (λwx=>∃R1,aS wx w.heap.size a1 k k R1 (aY st.rows T q)/\aB U wx (bN a1 E) (bN a1 R1))
        case first =>
         have cq0:=hOr.cell Y
         clear cq
         by_cases hqT:q=T
         ·subst hqT
          have k3:(U.setCell ⟨ablk a1,aN a1+q,none⟩ (.slice (aM E q).1 (aj st.rows q).length (aM E q).2)).cell? ⟨ablk a1,aN a1+q,none⟩=some (.slice (aM E q).1 (aj st.rows q).length (aM E q).2):=Ns _ _ _ cT
          go_region
          have hO2:=(hOr.swap Y Y).drew
          have hM2:=(hOr.lq Y Y (.slice (aM E q).1 (aj st.rows q).length (aM E q).2) (.slice (aM E q).1 (aj st.rows q).length (aM E q).2)).drew
          go_wp2_with fail
          go_meet
          exact ⟨_,hO2,hM2⟩
         ·have k3:(U.setCell ⟨ablk a1,aN a1+T,none⟩ (.slice (aM E q).1 (aj st.rows q).length (aM E q).2)).cell? ⟨ablk a1,aN a1+q,none⟩=some (.slice (aM E q).1 (aj st.rows q).length (aM E q).2):=by rw [Nr _ _ _ _ (by simp<;>omega)];exact cq0
          go_region
          have hO2:=(hOr.swap Z Y).drew
          have hM2:=(hOr.lq Z Y (.slice (aM E q).1 (aj st.rows q).length (aM E q).2) (.slice (aM E T).1 (aj st.rows T).length (aM E T).2)).drew
          go_wp2_with fail
          go_meet
          exact ⟨_,hO2,hM2⟩
        obtain ⟨R1,H,hM1⟩:=hcut
        generalize wc=z at *
        have A:SJ w z:=K.trans (hM1.below (λb' hb'=>(hOr.lt b' hb').1) K.size)
        have hs1:=hM1.own hsr hsep.out
        have hsep1:a0 ≠ none->¬ bN a1 R1 (ablk a0):=λhn=>hM1.not (aP hsr hn).2 (hsep hn)
        have hrw1:bz G.El m (aY st.rows T q):=hrw.swap (by rw [F.out];exact Z) (by rw [F.out];exact Y)
        have hl1:(aY st.rows T q).length=k:=by rw [bU];exact F
        have hz1:nth (aj (aY st.rows T q) T) i ≠ 0:=by
         rw [kB _ _ _ _ (by rw [F.out];exact Z) (by rw [F.out];exact Y),jQ];by_cases e:T=q
         ·rw [M7 e,e];exact Hz
         ·rw [M8 e,M7 rfl];exact Hz
        have hstep2:js G.ops L y t (j+1)=⟨eC G.ops T i ((aY st.rows T q).set T ((aj (aY st.rows T q) T).map (G.mul (G.inv (nth (aj (aY st.rows T q) T) i))))) k,
          kg G.ops st.sum i (aj (eC G.ops T i ((aY st.rows T q).set T ((aj (aY st.rows T q) T).map (G.mul (G.inv (nth (aj (aY st.rows T q) T) i))))) k) T),T+1⟩:=by rw [Hstep.out,nQ,M8 (by rw [HT2.out,Hf.out,F.out];omega),HT2.out,Hf.out,nA,F.out];rfl
        have Hst2:=Z5 hstep2
        have Hsep1:=Z5 hsep1
        clear hstep2 hsep1 hM1 hOr hsr K hsep Hstep Hf Hz hfr hrw
        generalize aY st.rows T q=L1 at *
        have N:=hrw1.row (i:=T) (by omega)
        have p0U:=(HP z A).1
        have cT1:=H.cell Z
        have iT1:=H.ints Z
        have fT1:=H.frozen Z
        rw [N.1] at cT1 iT1
        have cTi:=iT1.cell i him
        have hpT1:=iT1.pl
        have hel1:G.El (nth (aj L1 T) i):=N.2 _ (aG (by rw [N.1];exact him))
        have hGU:=h.ai A
        have HGU:Hid (dg z.drew b G/\∀n,dg (z.drewN n) b G):=⟨hGU.ai (M5 _ _).drew,λn=>hGU.drewN n⟩
        have Hz1:=Z5 hz1
        have Q:=Z5 N
        have Hl1:=Z5 hl1
        have Hrw1:=Z5 hrw1
        obtain ⟨x1,hx1⟩:∃x1,nth (aj L1 T) i=x1:=⟨_,rfl⟩
        rw [hx1] at cTi hel1 Hz1 Hst2
        clear hz1 N hl1 hrw1 cT cq fq fT iq hpq hx1
        go_upto_region 17 with fail
        go_cut [15,16] (λiv ev wx=>iv = cG (G.inv x1)/\ev = cG 0/\bm z wx)
        case first =>
         go_region_held3 (λW=>W.cell? ⟨pb,0,none⟩=some (ea b 0)/\W.cell? ⟨ablk a1,aN a1+T,none⟩=some (.slice (aM R1 T).1 m (aM R1 T).2)/\W.cell? ⟨ablk (aM R1 T).1,aN (aM R1 T).1+i,none⟩=some (cG x1))
          (exact ⟨p0U,cT1,cTi⟩)
          (first
          | (go_at_call 201;((with_reducible refine (Af x1 HGU.out.1 hel1 Hz1.out).mono ?_);rintro e w4 ⟨m4,rfl,rfl⟩)))
         all_goals (
          go_wp2_with fail
          go_meet
          exact ⟨rfl,rfl,⟨_,rfl⟩⟩)
        obtain ⟨rfl,rfl,m5,rfl⟩:=hcut
        have HSc:Hid (∀V:ej,SJ z V->V.cell? ⟨pb,0,none⟩=some (ea b 0)/\V.cell? ⟨ablk a1,aN a1+T,none⟩=some (.slice (aM R1 T).1 m (aM R1 T).2)/\V.frozen? ⟨ablk a1,aN a1+T,none⟩=false) :=
         λV hV=>⟨aC hV p0U,aC hV cT1,(H.ai hV).frozen Z⟩
        have HF:=Z5 (λ(V:ej) a4 c4 (hV:SJ z V) hown=>Be w V a1 k k R1 L1 T m ((aj L1 T).map (G.mul (G.inv x1))) H A Z (by rw [No];exact Q.1) hV (a4:=a4) (c4:=c4) hown)
        have HiT:Hid (∀n,Ints (z.drewN n) (aM R1 T).1 m (aj L1 T)):=λn=>iT1.ai (show bm z (z.drewN n) from ⟨n,rfl⟩).below
        have Hd:Hid (∀n V,Below (z.drewN n).heap.size (z.drewN n) V->SJ z V):=λn V hV=>RU (show bm z (z.drewN n) from ⟨n,rfl⟩).below hV
        have hIe:G.El (G.inv x1):=SA h _
        have HEl:Hid (G.vn (aj L1 T)):=Q.2
        go_upto_region 18 with fail
        go_cut [] (λwx=>∃B,aS wx w.heap.size a1 k k B (L1.set T ((aj L1 T).map (G.mul (G.inv x1))))/\aB z wx (bN a1 R1) (bN a1 B))
        case first =>
         go_region_law ((first
          | (go_simp;go_at_call 66;((with_reducible refine (pK (G.inv x1) _ _ _ _ (HGU.out.2 _) hIe (HiT.out _) HEl.out hm).mono ?_);rintro e w4 ⟨a4,c4,rfl,hown4,hb4⟩;rw [No,Q.out.1] at hown4;rw [No,Q.out.1];have hb4U:SJ z w4:=Hd.out _ _ hb4;obtain ⟨q0,q1,q2⟩:=HSc.out w4 hb4U))))
         all_goals (
          go_wp2_with fail
          go_meet
          exact HF _ _ _ hb4U hown4)
        obtain ⟨B,hO3b,hM3⟩:=hcut
        generalize wc=U3 at *
        have hb3U:SJ w U3:=A.trans (hM3.below (λb' hb'=>(H.lt b' hb').1) A.size)
        have hs3:=hM3.own hs1 Hsep1.out
        have hsep3:a0 ≠ none->¬ bN a1 B (ablk a0):=λhn=>hM3.not (aP hs1 hn).2 (Hsep1 hn)
        have hrw2:bz G.El m (L1.set T ((aj L1 T).map (G.mul (G.inv x1)))):=Hrw1.set T ⟨by rw [No];exact Q.1,λx hx=>by obtain ⟨x0,hx0,rfl⟩:=List.mem_map.1 hx;exact Sr h _ _⟩
        have hl2:(L1.set T ((aj L1 T).map (G.mul (G.inv x1)))).length=k:=by rw [N8];exact Hl1
        have C:=Z5 hsep3
        have Hrw2:=Z5 hrw2
        have Hl2:=Z5 hl2
        clear hsep3 hrw2 hl2 hM3 H hs1 Hsep1 Hrw1 Q Hl1 HF HiT Hd HEl HSc HGU hGU cT1 iT1 fT1 cTi hpT1 p0U hel1 hIe
        generalize L1.set T ((aj L1 T).map (G.mul (G.inv x1)))=L2 at *
        go_upto_region 19 with fail
        go_wp2_with fail
        go_loopw [121] (λlv wx=>∃l:Nat,l<=k/\lv = cG l/\aS wx w.heap.size a1 k k B (eC G.ops T i L2 l)/\aB U3 wx (bN a1 B) (bN a1 B)) (λlv _=>k - (intOf lv).toNat)
        case atStart=>exact ⟨0,Nb _,rfl,hO3b,Sb _ _⟩
        case round =>
         obtain ⟨l,hl,rfl,S,hMi⟩:=hrel
         generalize wr=X at *
         have hcx:SJ w X:=hb3U.trans (hMi.below (λb' hb'=>(hO3b.lt b' hb').1) hb3U.size)
         have r:=bz.MN hcl.out Hrw2.out (t:=T) (i:=i) (by rw [Hl2.out];exact Z) him l (by rw [Hl2.out];exact hl)
         have hplx:=S.pl
         by_cases hlk:l<k
         ·by_cases hTl:T<l
          ·have hTl':decide ((T:Int)<(l:Int))=true:=by simp;omega
           have Hn:Hid (eC G.ops T i L2 (l+1)=(eC G.ops T i L2 l).set l (kg G.ops (aj (eC G.ops T i L2 l) l) i (aj (eC G.ops T i L2 l) T))):=by show _=_;rw [eC,M7 hTl]
           have HCl:=Z5 (BI w pb a1 k k B (eC G.ops T i L2 l) m i l T S h hcx HP0.out hlk Z (by omega) him r X.drew ⟨1,rfl⟩)
           have cl:=S.cell hlk
           have cT:=S.cell Z
           rw [(r.row (i:=l) (by rw [S.ll];exact hlk)).1] at cl
           rw [(r.row (i:=T) (by rw [S.ll];exact Z)).1] at cT
           rw [<- Hn.out] at HCl
           clear r
           go_wp2_with fail
           go_region_held3 (λW=>W.cell? ⟨ablk a1,aN a1+l,none⟩=some (.slice (aM B l).1 m (aM B l).2)/\W.cell? ⟨ablk a1,aN a1+T,none⟩=some (.slice (aM B T).1 m (aM B T).2))
            (first|assumption|exact ⟨cl,cT⟩)
            (first
            | (go_at_call 270;((with_reducible refine HCl.out.mono ?_);rintro e w5 ⟨rfl,hS5,hO5,hM5⟩)))
           all_goals (
            go_wp2_with fail
            go_roundw
            case rel=>exact ⟨l+1,by omega,by go_num,hO5,hMi.trans hM5⟩
            case measure=>simp [intOf]<;>omega)
          ·have hTl':decide ((T:Int)<(l:Int))=false:=by simp;omega
           have Hn:Hid (eC G.ops T i L2 (l+1)=eC G.ops T i L2 l):=by show _=_;rw [eC,M8 hTl]
           clear r
           go_wp2_with fail
           go_roundw
           case rel=>exact ⟨l+1,by omega,by go_num,by rw [Hn.out];exact S,hMi⟩
           case measure=>simp [intOf]<;>omega
         ·have hlk2:l=k:=by omega
          subst hlk2
          have hrT:=r.row (i:=T) (by rw [S.ll];exact Z)
          have cT:=S.cell Z
          have iT:=S.ints Z
          rw [hrT.1] at cT iT
          have hsX:=hMi.own hs3 C.out
          have hap:a0=none\/(aM B T).1=none\/ablk (aM B T).1 ≠ ablk a0:=by
           by_cases e1:a0=none
           ·exact .inl e1
           ·by_cases e2:(aM B T).1=none
            ·exact .inr (.inl e2)
            ·exact .inr (.inr λe=>C e1 (by rw [<- e];exact aS.jS (by rw [S.rl];exact Z) e2))
          have HC:=Z5 (qS w pb a0 c0 m st.sum i (aM B T).1 (aM B T).2 (aj (eC G.ops T i L2 l) T) h hcx HP0.out hsX iT hap O.2 hrT.2 him)
          have Hse:=Z5 (⟨by rw [fH _ _ _ _ (by rw [hrT.1,O.1])];exact O.1,wu hcl.out O.2 hrT.2 (by rw [hrT.1,O.1]) (by rw [O.1];exact him)⟩ :
           (kg G.ops st.sum i (aj (eC G.ops T i L2 l) T)).length=m/\∀x ∈ kg G.ops st.sum i (aj (eC G.ops T i L2 l) T),G.El x)
          have HRi:=Z5 r
          clear r hrT iT hap
          go_wp2_with fail
          refine HC.mono ?_
          rintro e w6 ⟨rfl,hown6,honly6⟩
          have hb6:SJ w w6:=hcx.trans (honly6.below (λha=>(aP hsX ha).1) hcx.size)
          have hO6:aS w6 w.heap.size a1 l l B (eC G.ops T i L2 l):=S.bf λx hx=>honly6.block x (S.lt x hx).2 λ⟨e1,e2⟩=>C e1 (by rw [<- e2];exact hx)
          go_wp2_with fail
          go_roundw
          case rel=>exact ⟨j+1,B,⟨eC G.ops T i L2 l,kg G.ops st.sum i (aj (eC G.ops T i L2 l) T),T+1⟩,by omega,by go_num,by go_num,Hst2,hO6,hown6,hb6,C,HRi,Hse,(show T+1<=l by omega)⟩
          case measure=>simp [intOf]<;>omega
      ·have hqk2:q=k:=by omega
       have hqk':((q:Int) == k)=true:=by simp;omega
       have Hn:Hid (js G.ops L y t (j+1)=st):=by show _=_;rw [Hstep.out,nQ,hfr.out,iK (by rw [F.out];omega),M7 (by rw [F.out];omega)]
       clear hqk2
       go_wp2_with fail
       go_roundw
       case rel=>exact ⟨j+1,E,st,by omega,by go_num,rfl,Hn,hOr,hsr,K,hsep,hrw,O,htop⟩
       case measure=>simp [intOf]<;>omega
    ·obtain rfl:j=nt:=by omega
     have Hls:Hid (lr G.ops L y s t=kd s st.sum m):=by show _=_;rw [lr,Htl.out,hst.out,O.1]
     obtain ⟨hsi,_⟩:=RW hsr
     have hps:=hsi.pl
     have hsU:=hs.ai K
     generalize st.sum=v at *
     go_wp2_with fail
     go_loop [18,152] (λnv iv=>∃q:Nat,q<=m/\iv = cG q/\∃d:Nat,nv = cG d/\Hid (kd s v q=d)) (λ_ iv=>m - (intOf iv).toNat)
     case atStart=>exact ⟨0,Nb _,rfl,0,rfl,rfl⟩
     case round =>
      obtain ⟨q,hq,rfl,d,rfl,hcd⟩:=hrel
      have hdq:d<=q:=by rw [<- hcd.out];exact tf s v q
      by_cases hqm:q<m
      ·have cq:=hsi.cell q hqm
       by_cases hx:nth v q=0
       ·have hx':(nth v q != 0)=false:=by simpa using hx
        have Hn:Hid (kd s v (q+1)=d):=by show _=_;rw [kd,M8 (by simp [hx])];exact hcd
        clear hx
        go_wp2_with fail
        go_round
        case rel=>exact ⟨q+1,by omega,by go_num,d,rfl,Hn⟩
        case measure=>simp [intOf]<;>omega
       ·have hx':(nth v q != 0)=true:=by simpa using hx
        by_cases hm2:(q:Int) ∈ s
        ·have hmd:decide ((q:Int) ∈ s)=true:=by simpa using hm2
         have HcA:=Z5 (bS sa ns cs s q U hsU)
         rw [hmd] at HcA
         have Hn:Hid (kd s v (q+1)=d):=by show _=_;rw [kd,M8 (by simp [hm2])];exact hcd
         clear hx hm2 hmd
         go_wp2_with fail
         refine HcA.mono ?_
         rintro e w6 ⟨rfl,rfl⟩
         go_wp2_with fail
         go_round
         case rel=>exact ⟨q+1,by omega,by go_num,d,rfl,Hn⟩
         case measure=>simp [intOf]<;>omega
        ·have hmd:decide ((q:Int) ∈ s)=false:=by simpa using hm2
         have HcA:=Z5 (bS sa ns cs s q U hsU)
         rw [hmd] at HcA
         have Hn:Hid (kd s v (q+1)=d+1):=by show _=_;rw [kd,M7 ⟨hx,hm2⟩,hcd.out]
         clear hx hm2 hmd
         go_wp2_with fail
         refine HcA.mono ?_
         rintro e w6 ⟨rfl,rfl⟩
         go_wp2_with fail
         go_round
         case rel=>exact ⟨q+1,by omega,by go_num,d+1,by go_num,Hn⟩
         case measure=>simp [intOf]<;>omega
      ·obtain rfl:q=m:=by omega
       go_wp2_with fail
       go_ret
       exact ⟨aK (by rw [Hls.out,hcd.out]),K⟩
end
end Go.Proofs.YthglbncgemdcbaaGreat
