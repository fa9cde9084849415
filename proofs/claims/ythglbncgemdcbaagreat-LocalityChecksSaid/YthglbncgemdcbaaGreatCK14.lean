import Derived.Test.YthglbncgemdcbaaGreatCK12
namespace Go.Proofs.YthglbncgemdcbaaGreat
set_option linter.all false
set_option maxRecDepth 100000
set_option maxHeartbeats 8000000
open Go.RowKit Go.Proofs.Tryz
section
variable {w : World} {b : Nat} {G : cX}
theorem OE (pb : Nat) (a : OA) (n c : Nat) (L : Ll) (m : Nat) (ay : OA) (cy : Nat) (y : LI) (sa : OA) (ns cs : Nat) (s : LI) (at' : OA) (nt ct : Nat) (t : LI)
  (p0 : w.cell? ⟨pb,0,none⟩=some (.pointer (some ⟨b,0,none⟩))) (p5 : w.cell? ⟨pb,5,none⟩=some (.slice a n c)) (p6 : w.cell? ⟨pb,6,none⟩=some (.slice ay m cy))
  (h : ee w b G) (hi : bu w a n L) (hR : bs G.El m L) (hy : Ints w ay m y) (hye : G.DU y) (hs : Ints w sa ns s) (ht : Ints w at' nt t) (hT : ∀k,k<nt->0<=nth t k/\nth t k<m) (hn : n<=1000000) (hm : m<=1000000) (hnt : nt<=1000000) :
  Calls prog 261 #[.pointer (some ⟨pb,0,none⟩),.slice sa ns cs,.slice at' nt ct] w λe w'=>e = .returned (.int .i64 (kg G.ops L y s t))/\OC w w':=by
 have hpl:=hi.pl;have hplt:=ht.pl;have Hlen:=Z5 hi.len;have Htl:=Z5 ht.len;have Hyl:=Z5 hy.len;have HR:=Z5 hR;have HT:=Z5 hT;have Hye:=Z5 hye;have hcl:=Z5 (Oq h);have HP:=Z5 (λ(V : World) (hV : OC w V)=>(⟨aB hV p0,aB hV p5⟩ : V.cell? ⟨pb,0,none⟩=some (.pointer (some ⟨b,0,none⟩))/\V.cell? ⟨pb,5,none⟩=some (.slice a n c)));have HP0:=Z5 p0;clear hR hT hye;go_enter func261,ntmps261;go_wp2_with fail;refine (dx ay m cy y hy hm).mono ?_;rintro e w1 ⟨a0,c0,rfl,hown0,hb1⟩;rw [Hyl.out] at hown0;rw [Hyl.out];have q5:=(HP.out w1 hb1).2;go_wp2_with (at_make;refine ch rfl _ _ 25 22 rfl (.slice none 0 0) 24 underlying25 dO rfl n rfl rfl (by omega) (by unfold maxLen;omega) ?_;intro a1 w2 hown hbel hge hlt;have r5 : w2.cell? ⟨pb,5,none⟩=some (.slice a n c):=aB hbel q5);have hO:=C8 hown;have hO1 : ∃R,aT w2 w1.heap.size a1 n n R (kz n 0 L):=⟨_,by simpa [kz] using hO⟩
 have hbw2 : OC w w2:=NX hb1 hbel;clear hO hown q5;go_loopw [39] (λiv wr=>∃k : Nat,k<=n/\iv = .int .i64 k/\(∃R,aT wr w1.heap.size a1 n n R (kz n k L))/\OC w1 wr) (λiv _=>n - (intOf iv).toNat);case atStart=>exact ⟨0,JU _,rfl,hO1,hbel⟩
 case round =>
  obtain ⟨k,hk,rfl,⟨R,hO⟩,hbr⟩:=hrel
  by_cases hlt : k<n
  ·have hiW:=hi.af (NX hb1 hbr)
   obtain ⟨ra,rn,rc,hcell,hrow⟩:=hiW.cell k hlt
   have hkL : k<L.length:=by rw [Hlen.out];exact hlt
   have hrl : rn<=1000000:=by rw [<- hrow.len,aE hkL,(HR.out _ (Kp hkL)).1];exact hm
   have hset:=An hlt Hlen.out
   have Hset:=Z5 hset
   clear hset
   have hpl1:=hO.pl
   generalize ai L k=l at *
   go_wp2_with fail
   refine (dx ra rn rc l hrow hrl).mono ?_
   rintro e w3 ⟨a3,c3,rfl,hown3,hb3⟩
   have hO3:=hO.af hb3
   have hf:=hO3.frozen hlt
   have hc:=hO3.cell hlt
   have hB:=(aT.lt hO3 (ablk a1) (.inl ⟨hO3.ne (by omega),rfl⟩)).1
   have hbr3:=NX hbr hb3
   have hsz:=hbr.size
   have hnew:=aT.setRow hO3 hlt (bd hown3 hsz) (pV hown3 (aT.lt hO (ablk a1) (.inl ⟨hO.ne (by omega),rfl⟩)).2) (λj hj _=>by
    by_cases hn : (aR R j).1=none
    ·exact .inl hn
    ·exact .inr (pV hown3 (aT.lt hO _ (aT.nh (by rw [hO.rl];exact hj) hn)).2))
   rw [Hset.out] at hnew
   have Hnew:=Z5 hnew
   clear hnew
   go_wp2_with fail
   go_roundw
   case rel=>exact ⟨k+1,by omega,by go_num,⟨_,Hnew.out⟩,hbr3.setCell hB _⟩
   case measure=>simp [intOf] <;> omega
  ·obtain rfl : k=n:=by omega
   rw [zK Hlen.out] at hO
   generalize wr=W2 at *
   have hbW2:=NX hb1 hbr
   have hO2:=aT.mono hO hb1.size
   have hs2:=Fj hown0 (w':=W2) (λha=>hbr.block _ (ba hown0 ha).2)
   have hsep0 : a0 ≠ none->¬ bX a1 R (ablk a0):=λha=>hO.lM (ba hown0 ha).2
   have Hsep0:=Z5 hsep0
   have hRd:=HR.out
   clear hO hsep0 hown0
   go_wp2_with fail
   go_loopw [11,52] (λav iv wr=>∃(j : Nat) (R' : LA) (st : LS),j<=nt/\iv = .int .i64 j/\av = .int .i64 st.top/\Hid (tE G.ops L y t j=st)/\aT wr w.heap.size a1 k k R' st.rows /\
     wr.ownsRow w.heap.size 3 1 (.slice a0 m c0) m (st.sum.map (Value.int .i64))/\OC w wr/\Hid (a0 ≠ none->¬ bX a1 R' (ablk a0))/\Hid (bs G.El m st.rows)/\Hid (st.sum.length=m/\∀x ∈ st.sum,G.El x)/\st.top<=k)
    (λ_ iv _=>nt - (intOf iv).toNat)
   case atStart=>exact ⟨0,R,⟨L,y,0⟩,JU _,rfl,rfl,rfl,hO2,hs2,hbW2,Hsep0.out,HR.out,⟨Hyl.out,Hye.out⟩,JU _⟩
   case round =>
    obtain ⟨j,R',st,hj,rfl,rfl,hst,hOr,hsr,hbr2,hsep,hrw,hsum,htop⟩:=hrel
    generalize wr=U at *
    by_cases hlt2 : j<nt
    ·have cj:=(ht.af hbr2).cell j hlt2
     have HTj:=HT.out j hlt2
     obtain ⟨i,hik⟩ : ∃i : Nat,nth t j=i:=⟨(nth t j).toNat,by omega⟩
     rw [hik] at cj HTj
     have him : i<m:=by omega
     have hstep : tE G.ops L y t (j+1)=pU G.ops st i:=by rw [tE,hst.out,hik,JQ]
     have Hstep:=Z5 hstep
     have Hll:=Z5 hOr.ll
     have hplr:=hOr.pl
     clear hstep hik
     go_wp2_with fail
     go_loop [14] (λkv=>∃q : Nat,st.top<=q/\q<=k/\kv = .int .i64 q/\Hid (aZ st.rows i st.top=aZ st.rows i q)) (λkv=>k - (intOf kv).toNat)
     case atStart=>exact ⟨st.top,JO _,htop,rfl,rfl⟩
     case round =>
      obtain ⟨q,hq1,hq2,rfl,hfr⟩:=hrel
      by_cases hqk : q<k
      ·have hLq : q<st.rows.length:=by rw [Hll.out];exact hqk
       have hrow:=hrw.out.row hLq
       have cq:=hOr.cell hqk
       have iq:=hOr.ints hqk
       rw [hrow.1] at cq iq
       have ci:=iq.cell i him
       have hpq:=iq.pl
       have hfs:=gZ (c:=i) hLq
       by_cases hz : nth (ai st.rows q) i=0
       ·have hz' : (nth (ai st.rows q) i == 0)=true:=by simpa using hz
        have Hf : Hid (aZ st.rows i st.top=aZ st.rows i (q+1)):=by show _=_;rw [hfr.out,hfs,JT hz]
        clear hz hfs hrow
        go_wp2_with fail
        go_round
        case rel=>exact ⟨q+1,by omega,by omega,by go_num,Hf.out⟩
        case measure=>simp [intOf] <;> omega
       ·have hz' : (nth (ai st.rows q) i == 0)=false:=by simpa using hz
        have Hf : Hid (aZ st.rows i st.top=q):=by show _=_;rw [hfr.out,hfs,JR hz]
        have hqk' : ((q : Int) == k)=false:=by simp;omega
        have Hz:=Z5 hz
        clear hz hfs hrow
        have hTk : st.top<k:=by omega
        obtain ⟨T,hT⟩ : ∃T,st.top=T:=⟨_,rfl⟩
        rw [hT] at hTk htop hq1 Hf
        rw [hT]
        have HT2:=Z5 hT
        clear hT
        have fq:=hOr.frozen hqk
        have fT:=hOr.frozen hTk
        have cT:=hOr.cell hTk
        go_wp2_with fail
        go_cut [] (λwx=>∃R1,aT wx w.heap.size a1 k k R1 (bt st.rows T q)/\aD U wx (bX a1 R') (bX a1 R1))
        case first =>
         have cq0:=hOr.cell hqk
         clear cq
         by_cases hqT : q=T
         ·subst hqT
          have k3 : (U.setCell ⟨ablk a1,aL a1+q,none⟩ (.slice (aR R' q).1 (ai st.rows q).length (aR R' q).2)).cell? ⟨ablk a1,aL a1+q,none⟩=some (.slice (aR R' q).1 (ai st.rows q).length (aR R' q).2):=Kf _ _ _ cT
          go_region
          have hO2:=(hOr.swap hqk hqk).drew
          have hM2:=(hOr.r9 hqk hqk (.slice (aR R' q).1 (ai st.rows q).length (aR R' q).2) (.slice (aR R' q).1 (ai st.rows q).length (aR R' q).2)).drew
          go_wp2_with fail
          go_meet
          exact ⟨_,hO2,hM2⟩
         ·have k3 : (U.setCell ⟨ablk a1,aL a1+T,none⟩ (.slice (aR R' q).1 (ai st.rows q).length (aR R' q).2)).cell? ⟨ablk a1,aL a1+q,none⟩=some (.slice (aR R' q).1 (ai st.rows q).length (aR R' q).2):=by rw [J7 _ _ _ _ (by simp <;> omega)];exact cq0
          go_region
          have hO2:=(hOr.swap hTk hqk).drew
          have hM2:=(hOr.r9 hTk hqk (.slice (aR R' q).1 (ai st.rows q).length (aR R' q).2) (.slice (aR R' T).1 (ai st.rows T).length (aR R' T).2)).drew
          go_wp2_with fail
          go_meet
          exact ⟨_,hO2,hM2⟩
        obtain ⟨R1,hO1b,hM1⟩:=hcut
        generalize wc=U1 at *
        have hb1U : OC w U1:=hbr2.trans (hM1.below (λb' hb'=>(hOr.lt b' hb').1) hbr2.size)
        have hs1:=hM1.own hsr hsep.out
        have hsep1 : a0 ≠ none->¬ bX a1 R1 (ablk a0):=λhn=>hM1.not (ba hsr hn).2 (hsep.out hn)
        have hrw1 : bs G.El m (bt st.rows T q):=hrw.out.swap (by rw [Hll.out];exact hTk) (by rw [Hll.out];exact hqk)
        have hl1 : (bt st.rows T q).length=k:=by rw [bG];exact Hll.out
        have hz1 : nth (ai (bt st.rows T q) T) i ≠ 0:=by
         rw [iH _ _ _ _ (by rw [Hll.out];exact hTk) (by rw [Hll.out];exact hqk),dM];by_cases e : T=q
         ·rw [JT e,e];exact Hz.out
         ·rw [JR e,JT rfl];exact Hz.out
        have hstep2 : tE G.ops L y t (j+1)=⟨ko G.ops T i ((bt st.rows T q).set T ((ai (bt st.rows T q) T).map (G.mul (G.inv (nth (ai (bt st.rows T q) T) i))))) k,
          jS G.ops st.sum i (ai (ko G.ops T i ((bt st.rows T q).set T ((ai (bt st.rows T q) T).map (G.mul (G.inv (nth (ai (bt st.rows T q) T) i))))) k) T),T+1⟩:=by rw [Hstep.out,pU,JR (by rw [HT2.out,Hf.out,Hll.out];omega),HT2.out,Hf.out,iS,Hll.out];rfl
        have Hst2:=Z5 hstep2
        have Hsep1:=Z5 hsep1
        clear hstep2 hsep1 hM1 hOr hsr hbr2 hsep Hstep Hf Hz hfr hrw
        generalize bt st.rows T q=L1 at *
        have hrow1:=hrw1.row (i:=T) (by omega)
        have p0U:=(HP.out U1 hb1U).1
        have cT1:=hO1b.cell hTk
        have iT1:=hO1b.ints hTk
        have fT1:=hO1b.frozen hTk
        rw [hrow1.1] at cT1 iT1
        have cTi:=iT1.cell i him
        have hpT1:=iT1.pl
        have hel1 : G.El (nth (ai L1 T) i):=hrow1.2 _ (aI (by rw [hrow1.1];exact him))
        have hGU:=h.af hb1U
        have HGU : Hid (ee U1.drew b G/\∀n,ee (U1.drewN n) b G):=⟨hGU.af (JP _ _).drew,λn=>hGU.drewN n⟩
        have Hz1:=Z5 hz1
        have Hrow1:=Z5 hrow1
        have Hl1:=Z5 hl1
        have Hrw1:=Z5 hrw1
        obtain ⟨x1,hx1⟩ : ∃x1,nth (ai L1 T) i=x1:=⟨_,rfl⟩
        rw [hx1] at cTi hel1 Hz1 Hst2
        clear hz1 hrow1 hl1 hrw1 cT cq fq fT iq hpq hx1
        go_upto_region 17 with fail
        go_cut [15,16] (λiv ev wx=>iv = .int .i64 (G.inv x1)/\ev = .int .i64 0/\bm U1 wx)
        case first =>
         go_region_held3 (λW=>W.cell? ⟨pb,0,none⟩=some (.pointer (some ⟨b,0,none⟩))/\W.cell? ⟨ablk a1,aL a1+T,none⟩=some (.slice (aR R1 T).1 m (aR R1 T).2)/\W.cell? ⟨ablk (aR R1 T).1,aL (aR R1 T).1+i,none⟩=some (.int .i64 x1))
          (exact ⟨p0U,cT1,cTi⟩)
          (first
          | (go_at_call 201;((with_reducible refine (Iq x1 HGU.out.1 hel1 Hz1.out).mono ?_);rintro e w4 ⟨m4,rfl,rfl⟩)))
         all_goals (
          go_wp2_with fail
          go_meet
          exact ⟨rfl,rfl,⟨_,rfl⟩⟩)
        obtain ⟨rfl,rfl,m5,rfl⟩:=hcut
        have HSc : Hid (∀V : World,OC U1 V->V.cell? ⟨pb,0,none⟩=some (.pointer (some ⟨b,0,none⟩))/\V.cell? ⟨ablk a1,aL a1+T,none⟩=some (.slice (aR R1 T).1 m (aR R1 T).2)/\V.frozen? ⟨ablk a1,aL a1+T,none⟩=false) :=
         λV hV=>⟨aB hV p0U,aB hV cT1,(hO1b.af hV).frozen hTk⟩
        have HF:=Z5 (λ(V : World) a4 c4 (hV : OC U1 V) hown=>OF w V a1 k k R1 L1 T m ((ai L1 T).map (G.mul (G.inv x1))) hO1b hb1U hTk (by rw [J5];exact Hrow1.out.1) hV (a4:=a4) (c4:=c4) hown)
        have HiT : Hid (∀n,Ints (U1.drewN n) (aR R1 T).1 m (ai L1 T)):=λn=>iT1.af (show bm U1 (U1.drewN n) from ⟨n,rfl⟩).below
        have Hd : Hid (∀n V,Below (U1.drewN n).heap.size (U1.drewN n) V->OC U1 V):=λn V hV=>NX (show bm U1 (U1.drewN n) from ⟨n,rfl⟩).below hV
        have hIe : G.El (G.inv x1):=cX.y9 h _
        have HEl : Hid (G.DU (ai L1 T)):=Hrow1.out.2
        go_upto_region 18 with fail
        go_cut [] (λwx=>∃R2,aT wx w.heap.size a1 k k R2 (L1.set T ((ai L1 T).map (G.mul (G.inv x1))))/\aD U1 wx (bX a1 R1) (bX a1 R2))
        case first =>
         go_region_law ((first
          | (go_simp;go_at_call 66;((with_reducible refine (yI (G.inv x1) _ _ _ _ (HGU.out.2 _) hIe (HiT.out _) HEl.out hm).mono ?_);rintro e w4 ⟨a4,c4,rfl,hown4,hb4⟩;rw [J5,Hrow1.out.1] at hown4;rw [J5,Hrow1.out.1];have hb4U : OC U1 w4:=Hd.out _ _ hb4;obtain ⟨q0,q1,q2⟩:=HSc.out w4 hb4U))))
         all_goals (
          go_wp2_with fail
          go_meet
          exact HF.out _ _ _ hb4U hown4)
        obtain ⟨R2,hO3b,hM3⟩:=hcut
        generalize wc=U3 at *
        have hb3U : OC w U3:=hb1U.trans (hM3.below (λb' hb'=>(hO1b.lt b' hb').1) hb1U.size)
        have hs3:=hM3.own hs1 Hsep1.out
        have hsep3 : a0 ≠ none->¬ bX a1 R2 (ablk a0):=λhn=>hM3.not (ba hs1 hn).2 (Hsep1.out hn)
        have hrw2 : bs G.El m (L1.set T ((ai L1 T).map (G.mul (G.inv x1)))):=Hrw1.out.set T ⟨by rw [J5];exact Hrow1.out.1,λx hx=>by obtain ⟨x0,hx0,rfl⟩:=List.mem_map.1 hx;exact OB h _ _⟩
        have hl2 : (L1.set T ((ai L1 T).map (G.mul (G.inv x1)))).length=k:=by rw [KG];exact Hl1.out
        have Hsep3:=Z5 hsep3
        have Hrw2:=Z5 hrw2
        have Hl2:=Z5 hl2
        clear hsep3 hrw2 hl2 hM3 hO1b hs1 Hsep1 Hrw1 Hrow1 Hl1 HF HiT Hd HEl HSc HGU hGU cT1 iT1 fT1 cTi hpT1 p0U hel1 hIe
        generalize L1.set T ((ai L1 T).map (G.mul (G.inv x1)))=L2 at *
        go_upto_region 19 with fail
        go_wp2_with fail
        go_loopw [121] (λlv wx=>∃l : Nat,l<=k/\lv = .int .i64 l/\aT wx w.heap.size a1 k k R2 (ko G.ops T i L2 l)/\aD U3 wx (bX a1 R2) (bX a1 R2)) (λlv _=>k - (intOf lv).toNat)
        case atStart=>exact ⟨0,JU _,rfl,hO3b,N9 _ _⟩
        case round =>
         obtain ⟨l,hl,rfl,hOi,hMi⟩:=hrel
         generalize wr=X at *
         have hcx : OC w X:=hb3U.trans (hMi.below (λb' hb'=>(hO3b.lt b' hb').1) hb3U.size)
         have hRi:=bs.JG hcl.out Hrw2.out (t:=T) (i:=i) (by rw [Hl2.out];exact hTk) him l (by rw [Hl2.out];exact hl)
         have hplx:=hOi.pl
         by_cases hlk : l<k
         ·by_cases hTl : T<l
          ·have hTl' : decide ((T : Int)<(l : Int))=true:=by simp;omega
           have Hn : Hid (ko G.ops T i L2 (l+1)=(ko G.ops T i L2 l).set l (jS G.ops (ai (ko G.ops T i L2 l) l) i (ai (ko G.ops T i L2 l) T))):=by show _=_;rw [ko,JT hTl]
           have HCl:=Z5 (OG w pb a1 k k R2 (ko G.ops T i L2 l) m i l T hOi h hcx HP0.out hlk hTk (by omega) him hRi X.drew ⟨1,rfl⟩)
           have cl:=hOi.cell hlk
           have cT:=hOi.cell hTk
           rw [(hRi.row (i:=l) (by rw [hOi.ll];exact hlk)).1] at cl
           rw [(hRi.row (i:=T) (by rw [hOi.ll];exact hTk)).1] at cT
           rw [<- Hn.out] at HCl
           clear hRi
           go_wp2_with fail
           go_region_held3 (λW=>W.cell? ⟨ablk a1,aL a1+l,none⟩=some (.slice (aR R2 l).1 m (aR R2 l).2)/\W.cell? ⟨ablk a1,aL a1+T,none⟩=some (.slice (aR R2 T).1 m (aR R2 T).2))
            (first | assumption | exact ⟨cl,cT⟩)
            (first
            | (go_at_call 270;((with_reducible refine HCl.out.mono ?_);rintro e w5 ⟨rfl,hS5,hO5,hM5⟩)))
           all_goals (
            go_wp2_with fail
            go_roundw
            case rel=>exact ⟨l+1,by omega,by go_num,hO5,hMi.trans hM5⟩
            case measure=>simp [intOf] <;> omega)
          ·have hTl' : decide ((T : Int)<(l : Int))=false:=by simp;omega
           have Hn : Hid (ko G.ops T i L2 (l+1)=ko G.ops T i L2 l):=by show _=_;rw [ko,JR hTl]
           clear hRi
           go_wp2_with fail
           go_roundw
           case rel=>exact ⟨l+1,by omega,by go_num,by rw [Hn.out];exact hOi,hMi⟩
           case measure=>simp [intOf] <;> omega
         ·have hlk2 : l=k:=by omega
          subst hlk2
          have hrT:=hRi.row (i:=T) (by rw [hOi.ll];exact hTk)
          have cT:=hOi.cell hTk
          have iT:=hOi.ints hTk
          rw [hrT.1] at cT iT
          have hsX:=hMi.own hs3 Hsep3.out
          have hap : a0=none\/(aR R2 T).1=none\/ablk (aR R2 T).1 ≠ ablk a0:=by
           by_cases e1 : a0=none
           ·exact .inl e1
           ·by_cases e2 : (aR R2 T).1=none
            ·exact .inr (.inl e2)
            ·exact .inr (.inr λe=>Hsep3.out e1 (by rw [<- e];exact aT.nh (by rw [hOi.rl];exact hTk) e2))
          have HC:=Z5 (Of w pb a0 c0 m st.sum i (aR R2 T).1 (aR R2 T).2 (ai (ko G.ops T i L2 l) T) h hcx HP0.out hsX iT hap hsum.out.2 hrT.2 him)
          have Hse:=Z5 (⟨by rw [jf _ _ _ _ (by rw [hrT.1,hsum.out.1])];exact hsum.out.1,BC hcl.out hsum.out.2 hrT.2 (by rw [hrT.1,hsum.out.1]) (by rw [hsum.out.1];exact him)⟩ :
           (jS G.ops st.sum i (ai (ko G.ops T i L2 l) T)).length=m/\∀x ∈ jS G.ops st.sum i (ai (ko G.ops T i L2 l) T),G.El x)
          have HRi:=Z5 hRi
          clear hRi hrT iT hap
          go_wp2_with fail
          refine HC.out.mono ?_
          rintro e w6 ⟨rfl,hown6,honly6⟩
          have hb6 : OC w w6:=hcx.trans (honly6.below (λha=>(ba hsX ha).1) hcx.size)
          have hO6 : aT w6 w.heap.size a1 l l R2 (ko G.ops T i L2 l):=hOi.bj λx hx=>honly6.block x (hOi.lt x hx).2 λ⟨e1,e2⟩=>Hsep3.out e1 (by rw [<- e2];exact hx)
          go_wp2_with fail
          go_roundw
          case rel=>exact ⟨j+1,R2,⟨ko G.ops T i L2 l,jS G.ops st.sum i (ai (ko G.ops T i L2 l) T),T+1⟩,by omega,by go_num,by go_num,Hst2.out,hO6,hown6,hb6,Hsep3.out,HRi.out,Hse.out,(show T+1<=l by omega)⟩
          case measure=>simp [intOf] <;> omega
      ·have hqk2 : q=k:=by omega
       have hqk' : ((q : Int) == k)=true:=by simp;omega
       have Hn : Hid (tE G.ops L y t (j+1)=st):=by show _=_;rw [Hstep.out,pU,hfr.out,kM (by rw [Hll.out];omega),JT (by rw [Hll.out];omega)]
       clear hqk2
       go_wp2_with fail
       go_roundw
       case rel=>exact ⟨j+1,R',st,by omega,by go_num,rfl,Hn.out,hOr,hsr,hbr2,hsep.out,hrw.out,hsum.out,htop⟩
       case measure=>simp [intOf] <;> omega
    ·obtain rfl : j=nt:=by omega
     have Hls : Hid (kg G.ops L y s t=kZ s st.sum m):=by show _=_;rw [kg,Htl.out,hst.out,hsum.out.1]
     obtain ⟨hsi,_⟩:=NZ hsr
     have hps:=hsi.pl
     have hsU:=hs.af hbr2
     generalize st.sum=v at *
     go_wp2_with fail
     go_loop [18,152] (λnv iv=>∃q : Nat,q<=m/\iv = .int .i64 q/\∃d : Nat,nv = .int .i64 d/\Hid (kZ s v q=d)) (λ_ iv=>m - (intOf iv).toNat)
     case atStart=>exact ⟨0,JU _,rfl,0,rfl,rfl⟩
     case round =>
      obtain ⟨q,hq,rfl,d,rfl,hcd⟩:=hrel
      have hdq : d<=q:=by rw [<- hcd.out];exact OD s v q
      by_cases hqm : q<m
      ·have cq:=hsi.cell q hqm
       by_cases hx : nth v q=0
       ·have hx' : (nth v q != 0)=false:=by simpa using hx
        have Hn : Hid (kZ s v (q+1)=d):=by show _=_;rw [kZ,JR (by simp [hx])];exact hcd.out
        clear hx
        go_wp2_with fail
        go_round
        case rel=>exact ⟨q+1,by omega,by go_num,d,rfl,Hn.out⟩
        case measure=>simp [intOf] <;> omega
       ·have hx' : (nth v q != 0)=true:=by simpa using hx
        by_cases hm2 : (q : Int) ∈ s
        ·have hmd : decide ((q : Int) ∈ s)=true:=by simpa using hm2
         have HcA:=Z5 (dp sa ns cs s q U hsU)
         rw [hmd] at HcA
         have Hn : Hid (kZ s v (q+1)=d):=by show _=_;rw [kZ,JR (by simp [hm2])];exact hcd.out
         clear hx hm2 hmd
         go_wp2_with fail
         refine HcA.out.mono ?_
         rintro e w6 ⟨rfl,rfl⟩
         go_wp2_with fail
         go_round
         case rel=>exact ⟨q+1,by omega,by go_num,d,rfl,Hn.out⟩
         case measure=>simp [intOf] <;> omega
        ·have hmd : decide ((q : Int) ∈ s)=false:=by simpa using hm2
         have HcA:=Z5 (dp sa ns cs s q U hsU)
         rw [hmd] at HcA
         have Hn : Hid (kZ s v (q+1)=d+1):=by show _=_;rw [kZ,JT ⟨hx,hm2⟩,hcd.out]
         clear hx hm2 hmd
         go_wp2_with fail
         refine HcA.out.mono ?_
         rintro e w6 ⟨rfl,rfl⟩
         go_wp2_with fail
         go_round
         case rel=>exact ⟨q+1,by omega,by go_num,d+1,by go_num,Hn.out⟩
         case measure=>simp [intOf] <;> omega
      ·obtain rfl : q=m:=by omega
       go_wp2_with fail
       go_ret
       exact ⟨aK (by rw [Hls.out,hcd.out]),hbr2⟩
end
end Go.Proofs.YthglbncgemdcbaaGreat
