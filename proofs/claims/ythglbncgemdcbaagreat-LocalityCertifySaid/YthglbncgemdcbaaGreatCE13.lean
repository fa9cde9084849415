import Derived.Test.YthglbncgemdcbaaGreatCE12
namespace Go.Proofs.YthglbncgemdcbaaGreat
set_option linter.all false
set_option maxRecDepth 100000
set_option maxHeartbeats 8000000
open Go.RowKit Go.Proofs.Tryz
section
variable {w:World} {b:Nat} {G:cZ}
theorem xZ (pb:Nat) (a:OA) (n c:Nat) (L:Ll) (m:Nat) (ay:OA) (cy:Nat) (y:LI) (sa:OA) (ns cs:Nat) (s:LI) (at':OA) (nt ct:Nat) (t:LI)
  (p0:w.cell? ⟨pb,0,none⟩=some (.pointer (some ⟨b,0,none⟩))) (p5:w.cell? ⟨pb,5,none⟩=some (.slice a n c)) (p6:w.cell? ⟨pb,6,none⟩=some (.slice ay m cy))
  (h:dU w b G) (hi:bw w a n L) (hR:bt G.El m L) (hy:Ints w ay m y) (hye:G.Ch y) (hs:Ints w sa ns s) (ht:Ints w at' nt t) (hT:∀k,k<nt->0<=nth t k/\nth t k<m) (hn:n<=1000000) (hm:m<=1000000) (hnt:nt<=1000000) :
  Calls prog 261 #[.pointer (some ⟨pb,0,none⟩),.slice sa ns cs,.slice at' nt ct] w λe w'=>e = .returned (cG (gk G.ops L y s t))/\PY w w':=by
 have hpl:=hi.pl;have hplt:=ht.pl;have Hlen:=Z5 hi.len;have Htl:=Z5 ht.len;have Hyl:=Z5 hy.len;have HR:=Z5 hR;have HT:=Z5 hT;have Hye:=Z5 hye;have hcl:=Z5 (PL h);have HP:=Z5 (λ(V:World) (hV:PY w V)=>(⟨aB hV p0,aB hV p5⟩:V.cell? ⟨pb,0,none⟩=some (.pointer (some ⟨b,0,none⟩))/\V.cell? ⟨pb,5,none⟩=some (.slice a n c)));have HP0:=Z5 p0;clear hR hT hye;go_enter func261,ntmps261;go_wp2_with fail;refine (dp ay m cy y hy hm).mono ?_;rintro e w1 ⟨a0,c0,rfl,N,hb1⟩;rw [Hyl.out] at N;rw [Hyl.out];have q5:=(HP w1 hb1).2;go_wp2_with (at_make;refine bV rfl _ _ 25 22 rfl ds 24 underlying25 dw rfl n rfl rfl (by omega) (by unfold maxLen;omega) ?_;intro a1 w2 hown hbel hge hlt;have r5:w2.cell? ⟨pb,5,none⟩=some (.slice a n c):=aB hbel q5);have hO:=uj hown;have hO1:∃R,aO w2 w1.heap.size a1 n n R (jr n 0 L):=⟨_,by simpa [jr] using hO⟩
 have hbw2:PY w w2:=Pm hb1 hbel;clear hO hown q5;go_loopw [39] (λiv wr=>∃k:Nat,k<=n/\iv = cG k/\(∃R,aO wr w1.heap.size a1 n n R (jr n k L))/\PY w1 wr) (λiv _=>n - (intOf iv).toNat);case atStart=>exact ⟨0,K0 _,rfl,hO1,hbel⟩
 case round =>
  obtain ⟨k,hk,rfl,⟨R,hO⟩,hbr⟩:=hrel
  by_cases hlt:k<n
  ·have hiW:=hi.af (Pm hb1 hbr)
   obtain ⟨ra,rn,rc,hcell,C⟩:=hiW.cell k hlt
   have hkL:k<L.length:=by rw [Hlen.out];exact hlt
   have hrl:rn<=1000000:=by rw [<- C.len,aE hkL,(HR _ (Ly hkL)).1];exact hm
   have hset:=rJ hlt Hlen.out
   have Hset:=Z5 hset
   clear hset
   have hpl1:=hO.pl
   generalize ai L k=l at *
   go_wp2_with fail
   refine (dp ra rn rc l C hrl).mono ?_
   rintro e w3 ⟨a3,c3,rfl,hown3,hb3⟩
   have hO3:=hO.af hb3
   have hf:=hO3.frozen hlt
   have hc:=hO3.cell hlt
   have hB:=(aO.lt hO3 (ablk a1) (.inl ⟨hO3.ne (by omega),rfl⟩)).1
   have hbr3:=Pm hbr hb3
   have hsz:=hbr.size
   have hnew:=aO.setRow hO3 hlt (aY hown3 hsz) (kO hown3 (aO.lt hO (ablk a1) (.inl ⟨hO.ne (by omega),rfl⟩)).2) (λj hj _=>by
    by_cases hn:(aM R j).1=none
    ·exact .inl hn
    ·exact .inr (kO hown3 (aO.lt hO _ (aO.kg (by rw [hO.rl];exact hj) hn)).2))
   rw [Hset.out] at hnew
   have Hnew:=Z5 hnew
   clear hnew
   go_wp2_with fail
   go_roundw
   case rel=>exact ⟨k+1,by omega,by go_num,⟨_,Hnew⟩,hbr3.setCell hB _⟩
   case measure=>simp [intOf] <;> omega
  ·obtain rfl:k=n:=by omega
   rw [sR Hlen.out] at hO
   generalize wr=W2 at *
   have hbW2:=Pm hb1 hbr
   have hO2:=aO.mono hO hb1.size
   have hs2:=AM N (w':=W2) (λha=>hbr.block _ (aT N ha).2)
   have hsep0:a0 ≠ none->¬ bQ a1 R (ablk a0):=λha=>hO.l7 (aT N ha).2
   have Hsep0:=Z5 hsep0
   have hRd:=HR.out
   clear hO hsep0 N
   go_wp2_with fail
   go_loopw [11,52] (λav iv wr=>∃(j:Nat) (E:LA) (st:LS),j<=nt/\iv = cG j/\av = cG st.top/\Hid (gN G.ops L y t j=st)/\aO wr w.heap.size a1 k k E st.rows /\
     wr.ownsRow w.heap.size 3 1 (.slice a0 m c0) m (st.sum.map (Value.int .i64))/\PY w wr/\Hid (a0 ≠ none->¬ bQ a1 E (ablk a0))/\Hid (bt G.El m st.rows)/\Hid (st.sum.length=m/\∀x ∈ st.sum,G.El x)/\st.top<=k)
    (λ_ iv _=>nt - (intOf iv).toNat)
   case atStart=>exact ⟨0,R,⟨L,y,0⟩,K0 _,rfl,rfl,rfl,hO2,hs2,hbW2,Hsep0,HR,⟨Hyl,Hye⟩,K0 _⟩
   case round =>
    obtain ⟨j,E,st,hj,rfl,rfl,hst,hOr,hsr,H,hsep,hrw,O,htop⟩:=hrel
    generalize wr=U at *
    by_cases hlt2:j<nt
    ·have cj:=(ht.af H).cell j hlt2
     have HTj:=HT j hlt2
     obtain ⟨i,hik⟩:∃i:Nat,nth t j=i:=⟨(nth t j).toNat,by omega⟩
     rw [hik] at cj HTj
     have him:i<m:=by omega
     have hstep:gN G.ops L y t (j+1)=jE G.ops st i:=by rw [gN,hst.out,hik,KV]
     have Hstep:=Z5 hstep
     have D:=Z5 hOr.ll
     have hplr:=hOr.pl
     clear hstep hik
     go_wp2_with fail
     go_loop [14] (λkv=>∃q:Nat,st.top<=q/\q<=k/\kv = cG q/\Hid (bd st.rows i st.top=bd st.rows i q)) (λkv=>k - (intOf kv).toNat)
     case atStart=>exact ⟨st.top,KT _,htop,rfl,rfl⟩
     case round =>
      obtain ⟨q,hq1,hq2,rfl,hfr⟩:=hrel
      by_cases Y:q<k
      ·have hLq:q<st.rows.length:=by rw [D.out];exact Y
       have C:=hrw.row hLq
       have cq:=hOr.cell Y
       have iq:=hOr.ints Y
       rw [C.1] at cq iq
       have ci:=iq.cell i him
       have hpq:=iq.pl
       have hfs:=gD (c:=i) hLq
       by_cases hz:nth (ai st.rows q) i=0
       ·have hz':(nth (ai st.rows q) i == 0)=true:=by simpa using hz
        have Hf:Hid (bd st.rows i st.top=bd st.rows i (q+1)):=by show _=_;rw [hfr.out,hfs,KX hz]
        clear hz hfs C
        go_wp2_with fail
        go_round
        case rel=>exact ⟨q+1,by omega,by omega,by go_num,Hf⟩
        case measure=>simp [intOf] <;> omega
       ·have hz':(nth (ai st.rows q) i == 0)=false:=by simpa using hz
        have Hf:Hid (bd st.rows i st.top=q):=by show _=_;rw [hfr.out,hfs,KY hz]
        have hqk':((q:Int) == k)=false:=by simp;omega
        have Hz:=Z5 hz
        clear hz hfs C
        have Z:st.top<k:=by omega
        obtain ⟨T,hT⟩:∃T,st.top=T:=⟨_,rfl⟩
        rw [hT] at Z htop hq1 Hf
        rw [hT]
        have HT2:=Z5 hT
        clear hT
        have fq:=hOr.frozen Y
        have fT:=hOr.frozen Z
        have cT:=hOr.cell Z
        go_wp2_with fail
        go_cut [] (λwx=>∃R1,aO wx w.heap.size a1 k k R1 (bj st.rows T q)/\aC U wx (bQ a1 E) (bQ a1 R1))
        case first =>
         have cq0:=hOr.cell Y
         clear cq
         by_cases hqT:q=T
         ·subst hqT
          have k3:(U.setCell ⟨ablk a1,aJ a1+q,none⟩ (.slice (aM E q).1 (ai st.rows q).length (aM E q).2)).cell? ⟨ablk a1,aJ a1+q,none⟩=some (.slice (aM E q).1 (ai st.rows q).length (aM E q).2):=Lh _ _ _ cT
          go_region
          have hO2:=(hOr.swap Y Y).drew
          have hM2:=(hOr.kD Y Y (.slice (aM E q).1 (ai st.rows q).length (aM E q).2) (.slice (aM E q).1 (ai st.rows q).length (aM E q).2)).drew
          go_wp2_with fail
          go_meet
          exact ⟨_,hO2,hM2⟩
         ·have k3:(U.setCell ⟨ablk a1,aJ a1+T,none⟩ (.slice (aM E q).1 (ai st.rows q).length (aM E q).2)).cell? ⟨ablk a1,aJ a1+q,none⟩=some (.slice (aM E q).1 (ai st.rows q).length (aM E q).2):=by rw [Le _ _ _ _ (by simp <;> omega)];exact cq0
          go_region
          have hO2:=(hOr.swap Z Y).drew
          have hM2:=(hOr.kD Z Y (.slice (aM E q).1 (ai st.rows q).length (aM E q).2) (.slice (aM E T).1 (ai st.rows T).length (aM E T).2)).drew
          go_wp2_with fail
          go_meet
          exact ⟨_,hO2,hM2⟩
        obtain ⟨R1,K,hM1⟩:=hcut
        generalize wc=U1 at *
        have r:PY w U1:=H.trans (hM1.below (λb' hb'=>(hOr.lt b' hb').1) H.size)
        have hs1:=hM1.own hsr hsep.out
        have hsep1:a0 ≠ none->¬ bQ a1 R1 (ablk a0):=λhn=>hM1.not (aT hsr hn).2 (hsep hn)
        have hrw1:bt G.El m (bj st.rows T q):=hrw.swap (by rw [D.out];exact Z) (by rw [D.out];exact Y)
        have hl1:(bj st.rows T q).length=k:=by rw [bC];exact D
        have hz1:nth (ai (bj st.rows T q) T) i ≠ 0:=by
         rw [gO _ _ _ _ (by rw [D.out];exact Z) (by rw [D.out];exact Y),dX];by_cases e:T=q
         ·rw [KX e,e];exact Hz
         ·rw [KY e,KX rfl];exact Hz
        have hstep2:gN G.ops L y t (j+1)=⟨dW G.ops T i ((bj st.rows T q).set T ((ai (bj st.rows T q) T).map (G.mul (G.inv (nth (ai (bj st.rows T q) T) i))))) k,
          gz G.ops st.sum i (ai (dW G.ops T i ((bj st.rows T q).set T ((ai (bj st.rows T q) T).map (G.mul (G.inv (nth (ai (bj st.rows T q) T) i))))) k) T),T+1⟩:=by rw [Hstep.out,jE,KY (by rw [HT2.out,Hf.out,D.out];omega),HT2.out,Hf.out,iN,D.out];rfl
        have Hst2:=Z5 hstep2
        have Hsep1:=Z5 hsep1
        clear hstep2 hsep1 hM1 hOr hsr H hsep Hstep Hf Hz hfr hrw
        generalize bj st.rows T q=L1 at *
        have F:=hrw1.row (i:=T) (by omega)
        have p0U:=(HP U1 r).1
        have cT1:=K.cell Z
        have iT1:=K.ints Z
        have fT1:=K.frozen Z
        rw [F.1] at cT1 iT1
        have cTi:=iT1.cell i him
        have hpT1:=iT1.pl
        have hel1:G.El (nth (ai L1 T) i):=F.2 _ (aG (by rw [F.1];exact him))
        have hGU:=h.af r
        have HGU:Hid (dU U1.drew b G/\∀n,dU (U1.drewN n) b G):=⟨hGU.af (KU _ _).drew,λn=>hGU.drewN n⟩
        have Hz1:=Z5 hz1
        have S:=Z5 F
        have Hl1:=Z5 hl1
        have Hrw1:=Z5 hrw1
        obtain ⟨x1,hx1⟩:∃x1,nth (ai L1 T) i=x1:=⟨_,rfl⟩
        rw [hx1] at cTi hel1 Hz1 Hst2
        clear hz1 F hl1 hrw1 cT cq fq fT iq hpq hx1
        go_upto_region 17 with fail
        go_cut [15,16] (λiv ev wx=>iv = cG (G.inv x1)/\ev = cG 0/\bg U1 wx)
        case first =>
         go_region_held3 (λW=>W.cell? ⟨pb,0,none⟩=some (.pointer (some ⟨b,0,none⟩))/\W.cell? ⟨ablk a1,aJ a1+T,none⟩=some (.slice (aM R1 T).1 m (aM R1 T).2)/\W.cell? ⟨ablk (aM R1 T).1,aJ (aM R1 T).1+i,none⟩=some (cG x1))
          (exact ⟨p0U,cT1,cTi⟩)
          (first
          | (go_at_call 201;((with_reducible refine (GM x1 HGU.out.1 hel1 Hz1.out).mono ?_);rintro e w4 ⟨m4,rfl,rfl⟩)))
         all_goals (
          go_wp2_with fail
          go_meet
          exact ⟨rfl,rfl,⟨_,rfl⟩⟩)
        obtain ⟨rfl,rfl,m5,rfl⟩:=hcut
        have HSc:Hid (∀V:World,PY U1 V->V.cell? ⟨pb,0,none⟩=some (.pointer (some ⟨b,0,none⟩))/\V.cell? ⟨ablk a1,aJ a1+T,none⟩=some (.slice (aM R1 T).1 m (aM R1 T).2)/\V.frozen? ⟨ablk a1,aJ a1+T,none⟩=false) :=
         λV hV=>⟨aB hV p0U,aB hV cT1,(K.af hV).frozen Z⟩
        have HF:=Z5 (λ(V:World) a4 c4 (hV:PY U1 V) hown=>AY w V a1 k k R1 L1 T m ((ai L1 T).map (G.mul (G.inv x1))) K r Z (by rw [Lc];exact S.1) hV (a4:=a4) (c4:=c4) hown)
        have HiT:Hid (∀n,Ints (U1.drewN n) (aM R1 T).1 m (ai L1 T)):=λn=>iT1.af (show bg U1 (U1.drewN n) from ⟨n,rfl⟩).below
        have Hd:Hid (∀n V,Below (U1.drewN n).heap.size (U1.drewN n) V->PY U1 V):=λn V hV=>Pm (show bg U1 (U1.drewN n) from ⟨n,rfl⟩).below hV
        have hIe:G.El (G.inv x1):=cZ.vS h _
        have HEl:Hid (G.Ch (ai L1 T)):=S.2
        go_upto_region 18 with fail
        go_cut [] (λwx=>∃A,aO wx w.heap.size a1 k k A (L1.set T ((ai L1 T).map (G.mul (G.inv x1))))/\aC U1 wx (bQ a1 R1) (bQ a1 A))
        case first =>
         go_region_law ((first
          | (go_simp;go_at_call 66;((with_reducible refine (xb (G.inv x1) _ _ _ _ (HGU.out.2 _) hIe (HiT.out _) HEl.out hm).mono ?_);rintro e w4 ⟨a4,c4,rfl,hown4,hb4⟩;rw [Lc,S.out.1] at hown4;rw [Lc,S.out.1];have hb4U:PY U1 w4:=Hd.out _ _ hb4;obtain ⟨q0,q1,q2⟩:=HSc.out w4 hb4U))))
         all_goals (
          go_wp2_with fail
          go_meet
          exact HF _ _ _ hb4U hown4)
        obtain ⟨A,hO3b,hM3⟩:=hcut
        generalize wc=U3 at *
        have hb3U:PY w U3:=r.trans (hM3.below (λb' hb'=>(K.lt b' hb').1) r.size)
        have hs3:=hM3.own hs1 Hsep1.out
        have hsep3:a0 ≠ none->¬ bQ a1 A (ablk a0):=λhn=>hM3.not (aT hs1 hn).2 (Hsep1 hn)
        have hrw2:bt G.El m (L1.set T ((ai L1 T).map (G.mul (G.inv x1)))):=Hrw1.set T ⟨by rw [Lc];exact S.1,λx hx=>by obtain ⟨x0,hx0,rfl⟩:=List.mem_map.1 hx;exact PQ h _ _⟩
        have hl2:(L1.set T ((ai L1 T).map (G.mul (G.inv x1)))).length=k:=by rw [LZ];exact Hl1
        have B:=Z5 hsep3
        have Hrw2:=Z5 hrw2
        have Hl2:=Z5 hl2
        clear hsep3 hrw2 hl2 hM3 K hs1 Hsep1 Hrw1 S Hl1 HF HiT Hd HEl HSc HGU hGU cT1 iT1 fT1 cTi hpT1 p0U hel1 hIe
        generalize L1.set T ((ai L1 T).map (G.mul (G.inv x1)))=L2 at *
        go_upto_region 19 with fail
        go_wp2_with fail
        go_loopw [121] (λlv wx=>∃l:Nat,l<=k/\lv = cG l/\aO wx w.heap.size a1 k k A (dW G.ops T i L2 l)/\aC U3 wx (bQ a1 A) (bQ a1 A)) (λlv _=>k - (intOf lv).toNat)
        case atStart=>exact ⟨0,K0 _,rfl,hO3b,Pz _ _⟩
        case round =>
         obtain ⟨l,hl,rfl,Q,hMi⟩:=hrel
         generalize wr=X at *
         have hcx:PY w X:=hb3U.trans (hMi.below (λb' hb'=>(hO3b.lt b' hb').1) hb3U.size)
         have z:=bt.KD hcl.out Hrw2.out (t:=T) (i:=i) (by rw [Hl2.out];exact Z) him l (by rw [Hl2.out];exact hl)
         have hplx:=Q.pl
         by_cases hlk:l<k
         ·by_cases hTl:T<l
          ·have hTl':decide ((T:Int)<(l:Int))=true:=by simp;omega
           have Hn:Hid (dW G.ops T i L2 (l+1)=(dW G.ops T i L2 l).set l (gz G.ops (ai (dW G.ops T i L2 l) l) i (ai (dW G.ops T i L2 l) T))):=by show _=_;rw [dW,KX hTl]
           have HCl:=Z5 (AX w pb a1 k k A (dW G.ops T i L2 l) m i l T Q h hcx HP0.out hlk Z (by omega) him z X.drew ⟨1,rfl⟩)
           have cl:=Q.cell hlk
           have cT:=Q.cell Z
           rw [(z.row (i:=l) (by rw [Q.ll];exact hlk)).1] at cl
           rw [(z.row (i:=T) (by rw [Q.ll];exact Z)).1] at cT
           rw [<- Hn.out] at HCl
           clear z
           go_wp2_with fail
           go_region_held3 (λW=>W.cell? ⟨ablk a1,aJ a1+l,none⟩=some (.slice (aM A l).1 m (aM A l).2)/\W.cell? ⟨ablk a1,aJ a1+T,none⟩=some (.slice (aM A T).1 m (aM A T).2))
            (first | assumption | exact ⟨cl,cT⟩)
            (first
            | (go_at_call 270;((with_reducible refine HCl.out.mono ?_);rintro e w5 ⟨rfl,hS5,hO5,hM5⟩)))
           all_goals (
            go_wp2_with fail
            go_roundw
            case rel=>exact ⟨l+1,by omega,by go_num,hO5,hMi.trans hM5⟩
            case measure=>simp [intOf] <;> omega)
          ·have hTl':decide ((T:Int)<(l:Int))=false:=by simp;omega
           have Hn:Hid (dW G.ops T i L2 (l+1)=dW G.ops T i L2 l):=by show _=_;rw [dW,KY hTl]
           clear z
           go_wp2_with fail
           go_roundw
           case rel=>exact ⟨l+1,by omega,by go_num,by rw [Hn.out];exact Q,hMi⟩
           case measure=>simp [intOf] <;> omega
         ·have hlk2:l=k:=by omega
          subst hlk2
          have hrT:=z.row (i:=T) (by rw [Q.ll];exact Z)
          have cT:=Q.cell Z
          have iT:=Q.ints Z
          rw [hrT.1] at cT iT
          have hsX:=hMi.own hs3 B.out
          have hap:a0=none\/(aM A T).1=none\/ablk (aM A T).1 ≠ ablk a0:=by
           by_cases e1:a0=none
           ·exact .inl e1
           ·by_cases e2:(aM A T).1=none
            ·exact .inr (.inl e2)
            ·exact .inr (.inr λe=>B e1 (by rw [<- e];exact aO.kg (by rw [Q.rl];exact Z) e2))
          have HC:=Z5 (p9 w pb a0 c0 m st.sum i (aM A T).1 (aM A T).2 (ai (dW G.ops T i L2 l) T) h hcx HP0.out hsX iT hap O.2 hrT.2 him)
          have Hse:=Z5 (⟨by rw [eK _ _ _ _ (by rw [hrT.1,O.1])];exact O.1,qG hcl.out O.2 hrT.2 (by rw [hrT.1,O.1]) (by rw [O.1];exact him)⟩ :
           (gz G.ops st.sum i (ai (dW G.ops T i L2 l) T)).length=m/\∀x ∈ gz G.ops st.sum i (ai (dW G.ops T i L2 l) T),G.El x)
          have HRi:=Z5 z
          clear z hrT iT hap
          go_wp2_with fail
          refine HC.mono ?_
          rintro e w6 ⟨rfl,hown6,honly6⟩
          have hb6:PY w w6:=hcx.trans (honly6.below (λha=>(aT hsX ha).1) hcx.size)
          have hO6:aO w6 w.heap.size a1 l l A (dW G.ops T i L2 l):=Q.bp λx hx=>honly6.block x (Q.lt x hx).2 λ⟨e1,e2⟩=>B e1 (by rw [<- e2];exact hx)
          go_wp2_with fail
          go_roundw
          case rel=>exact ⟨j+1,A,⟨dW G.ops T i L2 l,gz G.ops st.sum i (ai (dW G.ops T i L2 l) T),T+1⟩,by omega,by go_num,by go_num,Hst2,hO6,hown6,hb6,B,HRi,Hse,(show T+1<=l by omega)⟩
          case measure=>simp [intOf] <;> omega
      ·have hqk2:q=k:=by omega
       have hqk':((q:Int) == k)=true:=by simp;omega
       have Hn:Hid (gN G.ops L y t (j+1)=st):=by show _=_;rw [Hstep.out,jE,hfr.out,jK (by rw [D.out];omega),KX (by rw [D.out];omega)]
       clear hqk2
       go_wp2_with fail
       go_roundw
       case rel=>exact ⟨j+1,E,st,by omega,by go_num,rfl,Hn,hOr,hsr,H,hsep,hrw,O,htop⟩
       case measure=>simp [intOf] <;> omega
    ·obtain rfl:j=nt:=by omega
     have Hls:Hid (gk G.ops L y s t=fS s st.sum m):=by show _=_;rw [gk,Htl.out,hst.out,O.1]
     obtain ⟨hsi,_⟩:=Pn hsr
     have hps:=hsi.pl
     have hsU:=hs.af H
     generalize st.sum=v at *
     go_wp2_with fail
     go_loop [18,152] (λnv iv=>∃q:Nat,q<=m/\iv = cG q/\∃d:Nat,nv = cG d/\Hid (fS s v q=d)) (λ_ iv=>m - (intOf iv).toNat)
     case atStart=>exact ⟨0,K0 _,rfl,0,rfl,rfl⟩
     case round =>
      obtain ⟨q,hq,rfl,d,rfl,hcd⟩:=hrel
      have hdq:d<=q:=by rw [<- hcd.out];exact th s v q
      by_cases hqm:q<m
      ·have cq:=hsi.cell q hqm
       by_cases hx:nth v q=0
       ·have hx':(nth v q != 0)=false:=by simpa using hx
        have Hn:Hid (fS s v (q+1)=d):=by show _=_;rw [fS,KY (by simp [hx])];exact hcd
        clear hx
        go_wp2_with fail
        go_round
        case rel=>exact ⟨q+1,by omega,by go_num,d,rfl,Hn⟩
        case measure=>simp [intOf] <;> omega
       ·have hx':(nth v q != 0)=true:=by simpa using hx
        by_cases hm2:(q:Int) ∈ s
        ·have hmd:decide ((q:Int) ∈ s)=true:=by simpa using hm2
         have HcA:=Z5 (dg sa ns cs s q U hsU)
         rw [hmd] at HcA
         have Hn:Hid (fS s v (q+1)=d):=by show _=_;rw [fS,KY (by simp [hm2])];exact hcd
         clear hx hm2 hmd
         go_wp2_with fail
         refine HcA.mono ?_
         rintro e w6 ⟨rfl,rfl⟩
         go_wp2_with fail
         go_round
         case rel=>exact ⟨q+1,by omega,by go_num,d,rfl,Hn⟩
         case measure=>simp [intOf] <;> omega
        ·have hmd:decide ((q:Int) ∈ s)=false:=by simpa using hm2
         have HcA:=Z5 (dg sa ns cs s q U hsU)
         rw [hmd] at HcA
         have Hn:Hid (fS s v (q+1)=d+1):=by show _=_;rw [fS,KX ⟨hx,hm2⟩,hcd.out]
         clear hx hm2 hmd
         go_wp2_with fail
         refine HcA.mono ?_
         rintro e w6 ⟨rfl,rfl⟩
         go_wp2_with fail
         go_round
         case rel=>exact ⟨q+1,by omega,by go_num,d+1,by go_num,Hn⟩
         case measure=>simp [intOf] <;> omega
      ·obtain rfl:q=m:=by omega
       go_wp2_with fail
       go_ret
       exact ⟨aN (by rw [Hls.out,hcd.out]),H⟩
end
end Go.Proofs.YthglbncgemdcbaaGreat
