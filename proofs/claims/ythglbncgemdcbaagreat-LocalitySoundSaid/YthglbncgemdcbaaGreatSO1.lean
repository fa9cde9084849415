import Derived.Test.YthglbncgemdcbaaGreatS28
namespace Go.Proofs.YthglbncgemdcbaaGreat
set_option linter.all false
set_option maxRecDepth 100000
set_option maxHeartbeats 4000000
open Go.RowKit Go.Proofs.Tryz
def Bl (P M : Int) (mod : Lz) (N : Int) (L : ZZ) (w : World) (e : Ending) (w' : World) : Prop :=
 SW w w'/\((aF P M mod N L ≠ 0/\e = .returned (.tuple #[.pointer none,.int .i64 (aF P M mod N L)])) \/
 (aF P M mod N L=0/\∃b,e = .returned (.tuple #[.pointer (some ⟨b,0,none⟩),.int .i64 0])/\ew w' b (af P M.toNat mod)))
theorem CN (P M : Int) (am : OA) (mn cm : Nat) (mod : Lz) (N : Int) (a : OA) (n c : Nat) (L : ZZ) (w : World) (hmod : Ints w am mn mod) (hi : br w a n L) :
  Calls prog 92 #[.agg #[.int .i64 P,.int .i64 M,.slice am mn cm,.int .i64 N,.slice a n c]] w (Bl P M mod N L w):=by
 go_enter func92,ntmps92;go_wp2_with fail;obtain ⟨W,hW⟩ : ∃W : World,W=w.alloc (.cells #[.int .i64 P,.int .i64 M,.slice am mn cm,.int .i64 N,.slice a n c] 27):=⟨_,rfl⟩
 rw [<- hW];have hbW : SW w W:=by rw [hW];exact an _ _
 have x0 : aN W w.heap.size [.int .i64 P,.int .i64 M,.slice am mn cm,.int .i64 N,.slice a n c]:=by rw [hW];exact R9 _ _ _ rfl
 have HX:=Z5 x0;clear hW x0;refine (dr P M am mn cm mod N a n c L W (hmod.ah hbW) (hi.ah hbW)).mono ?_;rintro e w1 ⟨rfl,hb1⟩;have hbw1:=RZ hbW hb1;by_cases hE : aF P M mod N L=0
 ·obtain ⟨hf,_⟩:=aG hE;have HE:=Z5 hE;have Hf:=Z5 hf;rw [hE];have x1:=HX.out.ah hb1;have c0:=x1.cell 0 rfl;have c1:=x1.cell 1 rfl;have c2:=x1.cell 2 rfl;have hm1:=(hmod.ah hbW).ah hb1;clear hE x1 hf;go_wp2_with fail;refine (ef P M am mn cm mod w1 hm1).mono ?_;rintro e w2 (⟨hB,rfl,hb2⟩ | ⟨hB,b,rfl,hG,hbl,hb2⟩)
  ·rw [Hf.out] at hB;cases hB
  ·clear hB;have hg:=hG.gf;go_wp2_with fail;go_ret2;exact ⟨RZ hbw1 hb2,.inr ⟨HE.out,b,rfl,hg⟩⟩
 ·have HE:=Z5 hE;have hE' : (aF P M mod N L != 0)=true:=by simpa using hE
  clear hE;go_wp2_with fail;go_ret2;exact ⟨hbw1,.inl ⟨HE.out,rfl⟩⟩
def oO (N : Int) (S : ZZ) : Int:=if S.all (dk N) then 0 else 6
theorem Jj (P M : Int) (am : OA) (mn cm : Nat) (N : Int) (a : OA) (n c : Nat) (sa : OA) (ns cs : Nat) (S : ZZ) (w : World) (hi : br w sa ns S) :
  Calls prog 93 #[.agg #[.int .i64 P,.int .i64 M,.slice am mn cm,.int .i64 N,.slice a n c],.slice sa ns cs] w λe w'=>e = .returned (.int .i64 (oO N S))/\SW w w':=by
 have Hlen:=Z5 hi.len;have hpl:=hi.pl;have hmax:=hi.max;unfold maxLen at hmax;go_enter func93,ntmps93;go_wp2_with fail;obtain ⟨W,hW⟩ : ∃W : World,W=w.alloc (.cells #[.int .i64 P,.int .i64 M,.slice am mn cm,.int .i64 N,.slice a n c] 27):=⟨_,rfl⟩
 rw [<- hW];have hbW : SW w W:=by rw [hW];exact an _ _
 have c3 : W.cell? ⟨w.heap.size,3,none⟩=some (.int .i64 N):=by rw [hW];exact aI _ _ _ rfl 3
 have hiW:=hi.ah hbW;clear hW;go_loop [11] (λiv=>∃k : Nat,k<=ns/\iv = .int .i64 k/\Hid ((S.take k).all (dk N)=true)) (λiv=>ns - (intOf iv).toNat);case atStart=>exact ⟨0,Ni _,rfl,by show _=_;simp⟩
 case round =>
  obtain ⟨k,hk,rfl,hall⟩:=hrel
  by_cases hlt : k<ns
  ·obtain ⟨ra,rn,rc,hcell,hrow⟩:=hiW.cell k hlt
   have hkS : k<S.length:=by rw [Hlen.out];exact hlt
   have Hrl:=Z5 hrow.len
   have hpr:=hrow.pl
   have hmr:=hrow.max
   unfold maxLen at hmr
   have Hng : Hid (ai S k=S[k]):=aC hkS
   generalize ai S k=l at *
   go_wp2_with fail
   go_loop [17] (λiv=>∃j : Nat,j<=rn/\iv = .int .i64 j/\Hid (nM N l j=true)) (λiv=>rn - (intOf iv).toNat)
   case atStart=>exact ⟨0,Ni _,rfl,by show _=_;simp [nM]⟩
   case round =>
    obtain ⟨j,hj,rfl,hok⟩:=hrel
    by_cases hlt2 : j<rn
    ·have cj:=hrow.cell j hlt2
     have hbad : fb N l j=false->oO N S=6:=λhb=>by
      rw [oO,Nf];have h1 : dk N S[k]=false:=by rw [<- Hng.out];exact sY (by rw [Hrl.out];exact hlt2) hb
      rw [dZ hkS h1];simp
     have Hbad:=Z5 hbad
     clear hbad
     by_cases h0 : 0<=nth l j
     ·by_cases h1 : nth l j<N
      ·have d1 : decide (nth l j<0)=false:=by simp;omega
       have d2 : decide (N<=nth l j)=false:=by simp;omega
       by_cases hj0 : j=0
       ·subst hj0
        have Hgood : Hid (fb N l 0=true):=by show _=_;unfold fb;simp [h0,h1]
        rw [Qv] at cj
        go_wp2_with fail
        go_round
        case rel=>exact ⟨1,by omega,by go_num,fH hok.out Hgood.out⟩
        case measure=>simp [intOf] <;> omega
       ·have cp:=hrow.cell (j - 1) (by omega)
        have e1 : ((j : Int) - 1).toNat=j - 1:=by omega
        have d3 : decide (0<(j : Int))=true:=by simp;omega
        have d4 : (0 : Int)<=(j : Int) - 1:=by omega
        have d5 : (1 : Int)<=(j : Int):=by omega
        have d6 : (j : Int) - 1<rn:=by omega
        by_cases h2 : nth l (j - 1)<nth l j
        ·have Hgood : Hid (fb N l j=true):=by show _=_;unfold fb;simp [h0,h1,h2]
         have h2' : decide (nth l j<=nth l (j - 1))=false:=by simp;omega
         clear hj0 e1
         go_wp2_with fail
         go_round
         case rel=>exact ⟨j+1,by omega,by go_num,fH hok.out Hgood.out⟩
         case measure=>simp [intOf] <;> omega
        ·have Hb : Hid (oO N S=6):=Hbad.out (by unfold fb;simp [h2,hj0])
         have h2' : decide (nth l j<=nth l (j - 1))=true:=by simp;omega
         clear hj0 e1
         go_wp2_with fail
         go_ret
         exact ⟨aP Hb.out.symm,hbW⟩
      ·have Hb : Hid (oO N S=6):=Hbad.out (by unfold fb;simp [h1])
       have d1 : decide (nth l j<0)=false:=by simp;omega
       have d2 : decide (N<=nth l j)=true:=by simp;omega
       go_wp2_with fail
       go_ret
       exact ⟨aP Hb.out.symm,hbW⟩
     ·have Hb : Hid (oO N S=6):=Hbad.out (by unfold fb;simp [h0])
      have d1 : decide (nth l j<0)=true:=by simp;omega
      go_wp2_with fail
      go_ret
      exact ⟨aP Hb.out.symm,hbW⟩
    ·obtain rfl : j=rn:=by omega
     have Hg : Hid (dk N S[k]=true):=by show _=_;rw [<- Hng.out,dk,Hrl.out];exact hok.out
     go_wp2_with fail
     go_round
     case rel=>exact ⟨k+1,by omega,by go_num,ed hkS hall.out Hg.out⟩
     case measure=>simp [intOf] <;> omega
  ·obtain rfl : k=ns:=by omega
   have Hg : Hid (oO N S=0):=by have:=hall.out;rw [No (by rw [Hlen.out];exact Na _)] at this;show _=_;rw [oO,Nd this]
   go_wp2_with fail
   go_ret
   exact ⟨aP Hg.out.symm,hbW⟩
theorem Dg (P M : Int) (am : OA) (mn cm : Nat) (N : Int) (a : OA) (n c : Nat) (L : ZZ) (i : Nat) (w : World) (hi : br w a n L) (hL : ∀r ∈ L,i<r.length) (hn : n<=1000000) :
  Calls prog 149 #[.agg #[.int .i64 P,.int .i64 M,.slice am mn cm,.int .i64 N,.slice a n c],.int .i64 i] w (b8 w (aR L i)):=by
 have Hlen:=Z5 hi.len;have hpl:=hi.pl;have HL:=Z5 hL;clear hL;go_enter func149,ntmps149;go_wp2_with (at_make;refine bS rfl _ _ 22 3 rfl (.int .i64 0) 8 underlying22 aU rfl n rfl rfl (by omega) (by unfold maxLen;omega) ?_;intro a1 w1 hown hbel hge hlt;have c4 : w1.cell? ⟨w.heap.size,4,none⟩=some (.slice a n c):=aB hbel (aI _ _ _ rfl 4));have hbw : SW w w1:=RZ (an w _) hbel;have hs1 : w.heap.size+1<=ablk a1:=by simpa using hge
 have hown1 : w1.ownsRow w.heap.size 3 1 (.slice a1 n n) n (List.replicate n (.int .i64 0)):=aX hown (by simp);clear hown hbel hge;go_loopw [15] (λiv wr=>∃k : Nat,k<=n/\iv = .int .i64 k /\
   wr.ownsRow w.heap.size 3 1 (.slice a1 n n) n ((dC ((aR L i).take k) k n).map (Value.int .i64))/\SW w wr)
  (λi _=>n - (intOf i).toNat)
 case atStart=>exact ⟨0,Ni _,rfl,by simpa [dC] using hown1,hbw⟩
 case round =>
  obtain ⟨k,hk,rfl,hown,hbel⟩:=hrel
  obtain ⟨hints,hmine⟩:=R6 hown
  have hpl1:=hints.pl
  by_cases hlt : k<n
  ·obtain ⟨ra,rn,rc,hcell,hrow⟩:=(hi.ah hbel).cell k hlt
   have hkL : k<L.length:=by rw [Hlen.out];exact hlt
   have hri : i<rn:=by rw [<- hrow.len,aC hkL];exact HL.out _ (NO hkL)
   have ci:=hrow.cell i hri
   have hpr:=hrow.pl
   have hf:=(hmine (by omega)).2 k hlt
   have hc2:=hints.cell k hlt
   have hB:=(hmine (by omega)).1
   have Hv:=Z5 (cI L i k hkL)
   go_wp2_with fail
   go_roundw
   case rel =>
    refine ⟨k+1,by omega,by go_num,?_,hbel.setCell hB _⟩
    have h:=bK hown k hlt (.int .i64 (nth (ai L k) i))
    rw [<- NF,fW _ _ _ _ (by rw [NG,db];omega) hlt] at h
    rw [Nj (by rw [db];omega),<- aj,Hv.out]
    exact h
   case measure=>simp [intOf] <;> omega
  ·obtain rfl : k=n:=by omega
   have hl : (aR L i).length=k:=by rw [db];exact Hlen.out
   rw [gS,No (by omega)] at hown
   have Hl:=Z5 hl
   clear hl
   go_wp2_with fail
   go_ret
   exact ⟨a1,k,by rw [Hl.out];rfl,by rw [Hl.out];exact hown,hbel⟩
theorem y5 (x : Int) (w : World) : Calls prog 200 #[.int .i64 x] w λe w'=>e = .returned (.bool (x != 0))/\w=w':=by go_enter func200,ntmps200;go_wp2;go_ret;exact ⟨rfl,rfl⟩
theorem BK (a : OA) (n c : Nat) (l : Lz) (w : World) (hi : Ints w a n l) :
  Calls prog 111 #[.slice a n c,.func (.func 200) #[] #[]] w λe w'=>e = .returned (.int .i64 (oQ l))/\w=w':=by
 have Hlen:=Z5 hi.len;have hpl:=hi.pl;have hmax:=hi.max;unfold maxLen at hmax;go_enter func111,ntmps111;go_wp2_with fail;go_loop [8] (λiv=>∃k : Nat,k<=n/\iv = .int .i64 k/\Hid (∀j,j<k->nth l j=0)) (λiv=>n - (intOf iv).toNat);case atStart=>exact ⟨0,Ni _,rfl,λj hj=>by omega⟩
 case round =>
  obtain ⟨k,hk,rfl,hall⟩:=hrel
  by_cases hlt : k<n
  ·have ck:=hi.cell k hlt
   by_cases hz : nth l k=0
   ·have hz' : (nth l k != 0)=false:=by simpa using hz
    have Hz:=Z5 hz
    clear hz
    go_wp2_with fail
    refine (y5 _ _).mono ?_
    rintro e w' ⟨rfl,rfl⟩
    go_wp2_with fail
    go_round
    case rel=>exact ⟨k+1,by omega,by go_num,λj hj=>by
     rcases N3 j k with h | h
     ·exact hall.out j h
     ·rw [show j=k by omega];exact Hz.out⟩
    case measure=>simp [intOf] <;> omega
   ·have hz' : (nth l k != 0)=true:=by simpa using hz
    have Hf : Hid (oQ l=k):=by show _=_;have:=vU l k (by rw [Hlen.out];exact hlt) hall.out hz;rw [oQ,this,Nd (by rw [Hlen.out];exact hlt)]
    clear hz
    go_wp2_with fail
    refine (y5 _ _).mono ?_
    rintro e w' ⟨rfl,rfl⟩
    go_wp2_with fail
    go_ret
    exact ⟨aP Hf.out.symm,rfl⟩
  ·obtain rfl : k=n:=by omega
   have Hf : Hid (oQ l = -1):=by show _=_;have:=rX l (by rw [Hlen.out];exact hall.out);rw [oQ,this,Nf (by omega)]
   go_wp2_with fail
   go_ret
   exact ⟨aP Hf.out.symm,rfl⟩
theorem JJ {w w0 : World} {b : Nat} {G : dn} (bb : Nat) (ar : OA) (cr : Nat) (R : Z4) (ap : OA) (cp : Nat) (s : BS) (av : OA) (cv n : Nat) (v : Lz)
  (h : ew w0 b G) (hb : SW w0 w) (hB : rJ w w0.heap.size bb b ar cr R ap cp s) (hs : s.Ok G.El n) (hv : w.ownsRow w0.heap.size 3 1 (.slice av n cv) n (v.map (Value.int .i64)))
  (hav : av ≠ none->¬ vo bb ar R ap (ablk av)) (hve : G.Ec v) (hn : n<=1000000) (hk : s.rows.length<=1000000) :
  Calls prog 148 #[.pointer (some ⟨bb,0,none⟩),.slice av n cv] w (CC w0 bb b ar R ap av G.ops s v w):=by
 have hvl : v.length=n:=by simpa using kS hv
 have hpv:=(R6 hv).1.pl;have hcl:=SA h;have hred:=mO hcl hs.rws hs.plc ⟨hvl,hve⟩;have Hred:=Z5 hred;have Hvl:=Z5 hvl;have Hs:=Z5 hs;have Hve:=Z5 hve;have c1:=hB.c1;have hplr:=hB.om.pl;clear hred hvl hs hve;go_enter func148,ntmps148;go_wp2_with fail;obtain ⟨kk,hkk⟩ : ∃kk,s.rows.length=kk:=⟨_,rfl⟩
 have Hkk:=Z5 hkk;rw [hkk] at hk hplr c1;rw [hkk];clear hkk;go_loopw [18] (λiv wr=>∃k : Nat,k<=kk/\iv = .int .i64 k/\wr.ownsRow w0.heap.size 3 1 (.slice av n cv) n ((redTo G.ops s.rows s.place v k).map (Value.int .i64))/\dp av w wr) (λiv _=>kk - (intOf iv).toNat);case atStart=>exact ⟨0,Ni _,rfl,hv,Sq _ _⟩
 case round =>
  obtain ⟨k,hkk2,rfl,hown,honly⟩:=hrel
  have hBr:=hB.only honly hav
  by_cases hlt : k<kk
  ·have hkr : k<s.rows.length:=by rw [Hkk.out];exact hlt
   have e0:=hBr.c0
   have e2:=hBr.c2
   have er:=hBr.om.cell hkr
   have ir:=hBr.om.ints hkr
   have hrow:=Hs.out.rws.row hkr
   have hplc:=Hs.out.plc k hkr
   rw [hrow.1] at er ir
   obtain ⟨ip,mp⟩:=R6 hBr.pl
   have ep:=ip.cell k hkr
   have hpp:=ip.pl
   rw [Hkk.out] at e2 hpp
   obtain ⟨pn,hpn⟩ : ∃pn : Nat,nth s.place k=pn:=⟨(nth s.place k).toNat,by omega⟩
   rw [hpn] at ep hplc
   have hpnn : pn<n:=by omega
   have hrd:=Hred.out k (by omega)
   have hrd1:=Hred.out (k+1) (by omega)
   have hstep : redTo G.ops s.rows s.place v (k+1)=eK G.ops (redTo G.ops s.rows s.place v k) pn (ai s.rows k):=by rw [redTo,hpn]
   have Hstep:=Z5 hstep
   have Hrow:=Z5 hrow
   have Hpn:=Z5 hpn
   clear hstep hpn
   obtain ⟨u,hu⟩ : ∃u,redTo G.ops s.rows s.place v k=u:=⟨_,rfl⟩
   rw [hu] at hown hrd
   have Hu:=Z5 hu
   obtain ⟨iu,mu⟩:=R6 hown
   have eu:=iu.cell pn hpnn
   have hpu:=iu.pl
   have Hrd:=Z5 hrd
   clear hu hrow hrd hrd1
   by_cases hz : nth u pn=0
   ·have hz' : (nth u pn != 0)=false:=by simpa using hz
    have Hn : Hid (redTo G.ops s.rows s.place v (k+1)=u):=by show _=_;rw [Hstep.out,Hu.out,eK,Nb,Nd hz]
    clear hz
    go_wp2_with fail
    go_roundw
    case rel=>exact ⟨k+1,by omega,by go_num,by rw [Hn.out];exact hown,honly⟩
    case measure=>simp [intOf] <;> omega
   ·have hz' : (nth u pn != 0)=true:=by simpa using hz
    have Hn : Hid (redTo G.ops s.rows s.place v (k+1)=ez G.ops u (nth u pn) (ai s.rows k)):=by show _=_;rw [Hstep.out,Hu.out,eK,Nb,Nf hz]
    have hxe : G.El (nth u pn):=Hrd.out.2 _ (aH (by rw [Hrd.out.1];exact hpnn))
    have hSl : (ez G.ops u (nth u pn) (ai s.rows k)).length=u.length:=fZ _ _ _ _ (by rw [Hrow.out.1,Hrd.out.1])
    have hSn:=λi hi=>ga G.ops u (nth u pn) (ai s.rows k) i (by rw [Hrow.out.1,Hrd.out.1]) hi
    have HSl:=Z5 hSl
    have HSn:=Z5 hSn
    clear hz hSl hSn
    have hplr2:=ir.pl
    go_wp2_with fail
    generalize nth u pn=x at *
    generalize ez G.ops u x (ai s.rows k)=S at *
    go_loopw [37] (λiv wx=>∃j : Nat,j<=n/\iv = .int .i64 j/\wx.ownsRow w0.heap.size 3 1 (.slice av n cv) n ((jk S u j).map (Value.int .i64))/\dp av w wx) (λiv _=>n - (intOf iv).toNat)
    case atStart=>exact ⟨0,Ni _,rfl,by rw [gR];exact hown,honly⟩
    case round =>
     obtain ⟨j,hj,rfl,hown2,honly2⟩:=hrel
     have hBx:=hB.only honly2 hav
     have ix:=hBx.om.ints hkr
     rw [Hrow.out.1] at ix
     by_cases hjn : j<n
     ·have cj:=ix.cell j hjn
      have f0:=hBx.c0
      obtain ⟨im,mm⟩:=R6 hown2
      have cm:=im.cell j hjn
      have fm:=(mm (by omega)).2 j hjn
      have hju : j<u.length:=by rw [Hrd.out.1];exact hjn
      have hmix:=fI S u j j HSl.out (by omega)
      rw [Nf (by omega)] at hmix
      rw [hmix] at cm
      have hset:=gD S u j HSl.out hju
      rw [HSn.out j hju] at hset
      have Hset:=Z5 hset
      have ely : G.El (nth (ai s.rows k) j):=Hrow.out.2 _ (aH (by rw [Hrow.out.1];exact hjn))
      have elv : G.El (nth u j):=Hrd.out.2 _ (aH hju)
      have elm : ∀x y,G.El (G.mul x y):=λx y=>SE h x y
      have hbx : SW w0 wr:=N2 hb (honly2.below (λha=>(aY hv ha).1) hb.size)
      have hGr : ew wr b G:=h.ah hbx
      have HG : Hid (ew wr.drew b G/\∀n,ew (wr.drewN n) b G):=⟨hGr.ah (Nc _ _).drew,λn=>hGr.drewN n⟩
      clear hset hmix
      go_wp2_with fail
      go_region_law ((first
       | (go_simp;go_at_call 57;((with_reducible refine (qF x (nth (ai s.rows k) j) HG.out.1 hxe ely).mono ?_);rintro e w4 ⟨m4,rfl,rfl⟩))
       | (go_simp;go_at_call 57;((with_reducible refine (qF x (nth (ai s.rows k) j) (HG.out.2 _) hxe ely).mono ?_);rintro e w4 ⟨m4,rfl,rfl⟩))
       | (go_simp;go_at_call 199;((with_reducible refine (Lj (nth u j) (G.mul x (nth (ai s.rows k) j)) (HG.out.2 _) elv (elm _ _)).mono ?_);rintro e w4 ⟨m5,rfl,rfl⟩))))
      all_goals (
       go_wp2_with fail
       go_roundw
       case rel =>
        have hdr : bf wr (wr.drewN (1+m4+m5)):=⟨_,rfl⟩
        refine ⟨j+1,by omega,by go_num,?_,honly2.trans ((Sm hdr).trans (St _ j _ (by intro e;have:=hpv (by omega);rw [e] at this;cases this)))⟩
        have h1:=bK (w:=wr.drewN (1+m4+m5)) hown2 j hjn (.int .i64 (G.sub (nth u j) (G.mul x (nth (ai s.rows k) j))))
        rw [<- NF,show G.sub (nth u j) (G.mul x (nth (ai s.rows k) j))=G.ops.add (nth u j) (G.ops.neg (G.ops.mul x (nth (ai s.rows k) j))) from rfl,Hset.out] at h1
        exact h1
       case measure=>simp [intOf] <;> omega)
     ·obtain rfl : j=n:=by omega
      rw [iW S u j (by rw [HSl.out,Hrd.out.1]) Hrd.out.1] at hown2
      go_wp2_with fail
      go_roundw
      case rel=>exact ⟨k+1,by omega,by go_num,by rw [Hn.out];exact hown2,honly2⟩
      case measure=>simp [intOf] <;> omega
  ·obtain rfl : k=kk:=by omega
   have hrd:=Hred.out k (by rw [Hkk.out];exact Na _)
   have hurd : redTo G.ops s.rows s.place v k=s.red G.ops v:=by rw [BS.red,Hkk.out]
   rw [hurd] at hown hrd
   obtain ⟨iu,mu⟩:=R6 hown
   have Hrd:=Z5 hrd
   clear hurd hrd
   go_wp2_with fail
   refine (BK _ _ _ _ _ iu).mono ?_
   rintro e w' ⟨rfl,rfl⟩
   by_cases hf : fnz (s.red G.ops v)<(s.red G.ops v).length
   ·have hfv : oQ (s.red G.ops v)=fnz (s.red G.ops v):=by rw [oQ,Nd hf]
    have hfn:=pz _ hf
    have Ht : Hid (s.eF G.ops v=true):=by show _=_;simpa [BS.eF] using hf
    have HN : Hid (s.next G.ops v=⟨s.rows ++ [(s.red G.ops v).map (G.mul (G.inv (nth (s.red G.ops v) (fnz (s.red G.ops v)))))],s.place ++ [(fnz (s.red G.ops v) : Int)]⟩):=by show _=_;rw [BS.next,Nd Ht.out];rfl
    rw [hfv]
    obtain ⟨u,hu⟩ : ∃u,s.red G.ops v=u:=⟨_,rfl⟩
    rw [hu] at hown Hrd hf hfn iu HN
    rw [hu]
    clear hu hfv
    obtain ⟨f,hff⟩ : ∃f,fnz u=f:=⟨_,rfl⟩
    rw [hff] at hf hfn HN
    rw [hff]
    have hfn' : f<n:=by rw [<- Hrd.out.1];exact hf
    have e0:=hBr.c0
    have eu:=iu.cell f hfn'
    have hpu:=iu.pl
    have elf : G.El (nth u f):=Hrd.out.2 _ (aH hf)
    have hbx : SW w0 wr:=N2 hb (honly.below (λha=>(aY hv ha).1) hb.size)
    have hGr : ew wr b G:=h.ah hbx
    have HG : Hid (ew wr.drew b G/\∀n,ew (wr.drewN n) b G):=⟨hGr.ah (Nc _ _).drew,λn=>hGr.drewN n⟩
    have Hfn:=Z5 hfn
    have Hf:=Z5 hf
    clear hff hfn hf
    go_upto_region 15 with fail
    go_cut [11] (λdv wx=>dv = .int .i64 (G.inv (nth u f))/\bf wr wx)
    case first =>
     go_region_held3 (λw'=>w'.cell? ⟨bb,0,none⟩=some (.pointer (some ⟨b,0,none⟩))/\w'.cell? ⟨ablk av,aK av+f,none⟩=some (.int .i64 (nth u f)))
      (exact ⟨e0,eu⟩)
      (first
      | (go_at_call 201;((with_reducible refine (Jt _ HG.out.1 elf Hfn.out).mono ?_);rintro e w4 ⟨m4,rfl,rfl⟩)))
     all_goals (
      go_step;go_step
      go_meet
      exact ⟨rfl,⟨_,rfl⟩⟩)
    obtain ⟨rfl,hdr⟩:=hcut
    generalize wc=V at *
    have hBV : rJ V w0.heap.size bb b ar cr R ap cp s:=hBr.ah hdr.below
    have hownV:=bd hown hdr.below
    have hbV : SW w0 V:=hdr.zU hbx
    have honV : dp av w V:=honly.trans (Sm hdr)
    clear hBr hown hbx hGr HG e0 eu iu mu hdr honly
    obtain ⟨iu,mu⟩:=R6 hownV
    have HGV : Hid (ew V.drew b G/\∀n,ew (V.drewN n) b G):=⟨(h.ah hbV).ah (Nc _ _).drew,λn=>(h.ah hbV).drewN n⟩
    have hiel : G.El (G.inv (nth u f)):=SV h _
    have e0:=hBV.c0
    have e1:=hBV.c1
    have f1:=hBV.fr 1
    have hS : ∀W,SW V W->W.cell? ⟨bb,0,none⟩=some (.pointer (some ⟨b,0,none⟩))/\W.cell? ⟨bb,1,none⟩=some (.slice ar s.rows.length cr)/\W.frozen? ⟨bb,1,none⟩=false/\SW V W:=by intro W hW;have hBW:=hBV.ah hW;exact ⟨hBW.c0,hBW.c1,hBW.fr 1,hW⟩
    have HS:=Z5 hS
    have haptb : gE ar bb:=by
     by_cases ha : ar=none
     ·exact .inl ha
     ·exact .inr λe=>hBV.d1 (.inl ⟨ha,e.symm⟩)
    have hR : ∀W,SW V W->W.ownsRow w0.heap.size 22 1 (.slice ar k cr) k (List.zipWith l5 R s.rows):=λW hW=>by have:=(hBV.om.ah hW).own;rwa [Hkk.out] at this
    have HR:=Z5 hR
    obtain ⟨N,hN⟩ : ∃N,u.map (G.mul (G.inv (nth u f)))=N:=⟨_,rfl⟩
    have hsc : Calls prog 66 #[.pointer (some ⟨b,0,none⟩),.int .i64 (G.inv (nth u f)),.slice av n cv] V.drew (b8 V.drew N):=by rw [<- hN];exact xj (G.inv (nth u f)) _ _ _ u HGV.out.1 hiel (iu.ah (Nc _ _).drew) Hrd.out.2 hn
    have Hsc:=Z5 hsc
    have HNe:=Z5 hN
    rw [hN] at HN
    clear hN hsc
    clear hS hR
    go_upto_region 16 with fail
    go_cut [] (λwx=>∃ar' cr' R',wx.cell? ⟨bb,1,none⟩=some (.slice ar' (k+1) cr')/\aT wx w0.heap.size ar' (k+1) cr' R' (s.rows ++ [N]) /\
     aE V wx (λx=>x=bb\/cU ar R x) (λx=>x=bb\/cU ar' R' x)/\¬ cU ar' R' bb /\
     (∀i v,i ≠ 1->V.cell? ⟨bb,i,none⟩=some v->wx.cell? ⟨bb,i,none⟩=some v)/\∀i,wx.frozen? ⟨bb,i,none⟩=false)
    case first =>
     rw [Hkk.out] at e1 HS
     go_region_law ((first
      | (go_simp;go_at_call 66;((with_reducible refine Hsc.out.mono ?_);rintro e w4 ⟨a4,c4,rfl,hown4,hb4⟩;obtain ⟨q0,q1,q2,q5⟩:=HS.out w4 (RZ (Nc _ _).drew hb4);have q6 : bb<w4.heap.size:=Nt w4 _ q0))
      | (refine dE (by rfl) (.tmp 83) (.tmp 91) 25 22 (by rfl) (.slice none 0 0) 24 underlying25 df (by rfl) w0.heap.size ar k cr (List.zipWith l5 R s.rows) (by rfl) (HR.out _ (RZ q5 (an _ _))) (some ⟨w4.heap.size,0,none⟩) 1 1 [.slice a4 N.length c4] (by rfl) (λ_=>rfl) rfl (by intro j hj;obtain rfl : j=0:=(by omega);exact dj _ _ _ rfl) (by intro y hy;simp at hy;subst hy;rfl) (by omega) (by unfold maxLen;omega) (by have e1:=hbV.size;have e2:=Om q5;simp;omega) ?_;intro a5 c5 w5 hown5 hgr5 hap5;have p1:=bT hgr5 (bu q1 _) haptb;have p2 : w5.frozen? ⟨bb,1,none⟩=false:=(N1 (hgr5.block bb (Nt _ _ (bu q1 _)) (λe=>haptb.own k cr e.symm))).trans (dX (Nt _ _ q1) q2 _))))
     all_goals (
      go_wp2_with fail
      go_meet
      exact hBV.JC Hkk.out hbV.size (RZ (Nc _ _).drew hb4) hown4 hown5 hgr5 hap5 ⟨_,p1⟩)
    obtain ⟨ar',cr',R',y1,hOX,hMX,hdX,hcX,hfX⟩:=hcut
    generalize wc=X at *
    have y0:=hcX 0 _ (by omega) e0
    have y2:=hcX 2 _ (by omega) hBV.c2
    have yf:=hfX 2
    have hnI : ap ≠ none->¬ (ablk ap=bb\/cU ar R (ablk ap)):=λh0 hI=>by
     rcases hI with h1 | h1
     ·rcases hBV.d2 with h2 | h2
      ·exact h0 h2
      ·exact h2 h1
     ·exact hBV.d3 h0 h1
    have hpX:=hMX.own hBV.pl hnI
    have hd3 : ap ≠ none->¬ cU ar' R' (ablk ap):=λh0 hI=>hMX.not (aY hBV.pl h0).2 (hnI h0) (.inr hI)
    rw [Hkk.out] at y2 hpX
    have hbX : SW w0 X:=hbV.trans (hMX.below (λx hx=>(hBV.lt x (by rcases hx with h1 | h1;exact .inl h1;exact .inr (.inl h1))).1) hbV.size)
    have hz : bb<X.heap.size:=Nt X _ y0
    have HfX:=Z5 hfX
    have Hd3:=Z5 hd3
    have HdX:=Z5 hdX
    have hd2:=hBV.d2
    have hbB:=hBV.bB
    have hcn:=ba X (.int .i64 f) 3
    clear hcX hfX hd3 hdX e0 e1 f1
    go_wp2_with (at_builtin;refine aO rfl _ _ 22 3 rfl (.int .i64 0) 8 underlying22 aU rfl w0.heap.size ap k cp _ rfl (hpX.alloc _) ⟨X.heap.size,0,none⟩ 1 (.int .i64 f) rfl hcn rfl (by omega) (by unfold maxLen;omega) (by have e1:=hbX.size;simp;omega) ?_;intro a6 c6 w6 hown6 hgr6 hap6;have p1:=bT hgr6 (bu y2 _) hd2;have p2 : w6.frozen? ⟨bb,2,none⟩=false:=(N1 (hgr6.block bb (Nt _ _ (bu y2 _)) (λe=>hd2.own k cp e.symm))).trans (dX hz yf _))
    have hP:=rJ.JT (w6:=w6) hbB y0 y1 ⟨_,y2⟩ HfX.out hOX hpX HdX.out hd2 Hd3.out hown6 hgr6 hap6
    have HP:=Z5 hP
    clear hP
    go_ret
    refine ⟨ar',cr',R',a6,c6,aZ Ht.out.symm,by rw [HN.out];exact HP.out.1,?_⟩
    refine Sx (w':=V) (I':=λx=>vo bb ar R ap x\/(av ≠ none/\x=ablk av)) ?_ (Sx (w':=X) (I':=vo bb ar' R' ap) ?_ HP.out.2)
    ·exact ⟨honV.os,honV.tape,honV.output,honV.size,λx hx hI=>honV.block x hx λh2=>hI (.inr h2),λx hx=>.inl hx⟩
    ·refine ⟨hMX.os,hMX.tape,hMX.output,hMX.size,λx hx hI=>hMX.block x hx λh2=>hI (.inl (by rcases h2 with h3 | h3;exact .inl h3;exact .inr (.inl h3))),λx hx=>?_⟩
     rcases hx with h1 | h1 | h1
     ·exact .inl (.inl (.inl h1))
     ·rcases hMX.grow x (.inr h1) with h2 | h2
      ·exact .inl (.inl (by rcases h2 with h3 | h3;exact .inl h3;exact .inr (.inl h3)))
      ·exact .inr h2
     ·exact .inl (.inl (.inr (.inr h1)))
   ·have hfv : oQ (s.red G.ops v) = -1:=by rw [oQ,Nf hf]
    rw [hfv]
    have Ht : Hid (s.eF G.ops v=false):=by show _=_;simp [BS.eF];omega
    have HN : Hid (s.next G.ops v=s):=by show _=_;rw [BS.next,Nf (by rw [Ht.out];simp)]
    clear hf hfv
    go_wp2_with fail
    go_ret
    refine ⟨ar,cr,R,ap,cp,aZ Ht.out.symm,by rw [HN.out];exact hBr,?_⟩
    exact ⟨honly.os,honly.tape,honly.output,honly.size,λx hx hI=>honly.block x hx λh2=>hI (.inr h2),λx hx=>.inl (.inl hx)⟩
theorem Dv {w : World} {b : Nat} {G : dn} (P M : Int) (am : OA) (mn cm : Nat) (N : Int) (a : OA) (n c : Nat) (L : ZZ) (m : Nat) (ao : OA) (no co : Nat) (Q : Lz)
  (h : ew w b G) (hi : br w a n L) (hR : bp G.El m L) (hq : Ints w ao no Q) (hQ : ∀k,k<no->0<=nth Q k/\nth Q k<m) (hn : n<=1000000) (hno : no<=1000000) :
  Calls prog 94 #[.pointer (some ⟨b,0,none⟩),.agg #[.int .i64 P,.int .i64 M,.slice am mn cm,.int .i64 N,.slice a n c],.slice ao no co] w (b8 w (kC G.ops L Q)):=by
 have Hlen:=Z5 hi.len;have HR:=Z5 hR;have HQ:=Z5 hQ;have Hql:=Z5 hq.len;have hplq:=hq.pl;have hcl:=Z5 (SA h);clear hR hQ;go_enter func94,ntmps94;go_wp2_with fail;obtain ⟨W,hW⟩ : ∃W : World,W=w.alloc (.cells #[.int .i64 P,.int .i64 M,.slice am mn cm,.int .i64 N,.slice a n c] 27):=⟨_,rfl⟩
 rw [<- hW];have hbW : SW w W:=by rw [hW];exact an _ _
 have x0 : aN W w.heap.size [.int .i64 P,.int .i64 M,.slice am mn cm,.int .i64 N,.slice a n c]:=by rw [hW];exact R9 _ _ _ rfl
 have hsW : w.heap.size+1=W.heap.size:=by rw [hW];simp
 rw [hsW];have HX:=Z5 x0;have HsW:=Z5 hsW;have hGW:=h.ah hbW;have hiW:=hi.ah hbW;have hqW:=hq.ah hbW;clear hW x0 hsW;obtain ⟨V,hV⟩ : ∃V : World,V=W.alloc (.cells #[.pointer (some ⟨b,0,none⟩),.slice none 0 0,.slice none 0 0] 164):=⟨_,rfl⟩
 rw [<- hV];have hbV : SW W V:=by rw [hV];exact an _ _
 have hB0 : rJ V W.heap.size W.heap.size b none 0 [] none 0 ⟨[],[]⟩:=rJ.start (Na _) (by rw [hV];exact R9 _ _ _ rfl);clear hV;go_loopw [8,16] (λqv iv wr=>∃(k : Nat) (aq : OA) (cq : Nat) (out : Lz) (s : BS) (ar : OA) (cr : Nat) (R : Z4) (ap : OA) (cp : Nat),k<=no/\iv = .int .i64 k/\qv = .slice aq out.length cq /\
   Hid (grTo G.ops L Q k=(s,out))/\rJ wr W.heap.size W.heap.size b ar cr R ap cp s/\wr.ownsRow W.heap.size 3 1 (.slice aq out.length cq) out.length (out.map (Value.int .i64))/\Hid (aq ≠ none->¬ vo W.heap.size ar R ap (ablk aq)) /\
   SW W wr/\Hid (s.Ok G.El n)/\s.rows.length<=k/\out.length<=k)
  (λ_ iv _=>no - (intOf iv).toNat)
 case atStart=>exact ⟨0,none,0,[],⟨[],[]⟩,none,0,[],none,0,Ni _,rfl,rfl,rfl,hB0,bV,λh0=>absurd rfl h0,hbV,⟨λr hr=>by simp at hr,rfl,λi hi=>by simp at hi⟩,Ni _,Ni _⟩
 case round =>
  obtain ⟨k,aq,cq,out,s,ar,cr,R,ap,cp,hk,rfl,rfl,hst,hBr,hop,hdq,hbr,hok,hsk,hok2⟩:=hrel
  generalize wr=U at *
  by_cases hlt : k<no
  ·have cq1:=(hqW.ah hbr).cell k hlt
   have hQk:=HQ.out k hlt
   obtain ⟨i,hik⟩ : ∃i : Nat,nth Q k=i:=⟨(nth Q k).toNat,by omega⟩
   rw [hik] at cq1 hQk
   have him : i<m:=by omega
   have xU:=HX.out.ah hbr
   have b0:=xU.cell 0 rfl
   have b1:=xU.cell 1 rfl
   have b2:=xU.cell 2 rfl
   have b3:=xU.cell 3 rfl
   have b4:=xU.cell 4 rfl
   have hcol:=EE HR.out him
   rw [Hlen.out] at hcol
   have hstep : grTo G.ops L Q (k+1)=(s.next G.ops (aR L i),if s.eF G.ops (aR L i)=true then out ++ [(i : Int)] else out):=by rw [grTo,hst.out,hik,Nb]
   have Hstep:=Z5 hstep
   have Hcol:=Z5 hcol
   clear xU hstep hcol hik
   go_wp2_with fail
   refine (Dg P M am mn cm N a n c L i U (hiW.ah hbr) (λr hr=>by rw [(HR.out r hr).1];exact him) hn).mono ?_
   rintro e w3 ⟨a3,c3,rfl,hown3,hb3⟩
   rw [Hcol.out.1] at hown3
   rw [Hcol.out.1]
   have hB3:=hBr.ah hb3
   have hbw3:=RZ hbr hb3
   have hn3 : a3 ≠ none->¬ vo W.heap.size ar R ap (ablk a3):=λh0 hI=>by have h1:=(aY hown3 h0).1;have h2:=(hBr.lt _ hI).2;omega
   go_wp2_with fail
   refine (JJ W.heap.size ar cr R ap cp s a3 c3 n (aR L i) hGW hbw3 hB3 hok.out (aX hown3 hbr.size) hn3 Hcol.out.2 hn (by omega)).mono ?_
   rintro e w4 ⟨ar',cr',R',ap',cp',rfl,hB4,hM4⟩
   have hbw4 : SW W w4:=hbw3.trans (hM4.below (λx hx=>by
    rcases hx with h1 | ⟨h1,h2⟩
    ·exact (hB3.lt x h1).1
    ·rw [h2];exact Nr hbr.size (aY hown3 h1).1) hbw3.size)
   have hop3:=bd hop hb3
   have hnI : aq ≠ none->¬ (vo W.heap.size ar R ap (ablk aq)\/(a3 ≠ none/\ablk aq=ablk a3)):=λh0 hI=>by
    rcases hI with h1 | ⟨h1,h2⟩
    ·exact hdq.out h0 h1
    ·have e1:=(aY hop h0).2;have e2:=(aY hown3 h1).1;omega
   have hop4:=hM4.own hop3 hnI
   have hdq4 : aq ≠ none->¬ vo W.heap.size ar' R' ap' (ablk aq):=λh0=>hM4.not (aY hop3 h0).2 (hnI h0)
   have hok4 : (s.next G.ops (aR L i)).Ok G.El n:=BS.Ok.next hcl.out hok.out Hcol.out
   have hlen4:=BS.Ct G.ops s (aR L i)
   have Hok4:=Z5 hok4
   have Hdq4:=Z5 hdq4
   clear hnI hdq4 hok4 b0 b1 b2 b3 b4
   by_cases ht : s.eF G.ops (aR L i)=true
   ·rw [ht]
    have Hst : Hid (grTo G.ops L Q (k+1)=(s.next G.ops (aR L i),out ++ [(i : Int)])):=by show _=_;rw [Hstep.out,Nd ht]
    clear ht
    generalize s.next G.ops (aR L i)=s' at *
    have hcn:=ba w4 (.int .i64 i) 3
    have hbn:=an w4 (.cells #[.int .i64 i] 3)
    have hsz4:=hbw4.size
    go_wp2_with (at_builtin;refine aO rfl _ _ 22 3 rfl (.int .i64 0) 8 underlying22 aU rfl W.heap.size aq out.length cq _ rfl (hop4.alloc _) ⟨w4.heap.size,0,none⟩ 1 (.int .i64 i) rfl hcn rfl (by omega) (by unfold maxLen;omega) (by simp;omega) ?_;intro a5 c5 w5 hown5 hgr5 hap5)
    go_roundw
    case rel =>
     have hBn:=hB4.ah hbn
     have haq : ∀x,vo W.heap.size ar' R' ap' x->gE aq x:=λx hx=>by
      by_cases h0 : aq=none
      ·exact .inl h0
      ·exact .inr λe=>Hdq4.out h0 (e ▸ hx)
     have hB5 : rJ w5 W.heap.size W.heap.size b ar' cr' R' ap' cp' s':=hBn.bq λx hx=>hgr5.block x (hBn.lt x hx).2 λe=>(haq x hx).own _ _ e.symm
     have hb5 : SW W w5:=Sa (N2 hbw4 (hbn.mono hsz4)) (hop4.alloc _) hgr5 (Na _) (Nr hsz4 hbn.size)
     refine ⟨k+1,a5,c5,out ++ [(i : Int)],s',ar',cr',R',ap',cp',by omega,by go_num,by simp,Hst.out,hB5,?_,?_,hb5,Hok4.out,by omega,by simp;omega⟩
     ·simpa using hown5
     ·show a5 ≠ none->_
      intro h0 hI
      rcases hap5 _ (hBn.lt _ hI).2 (haq _ hI) with h1 | h1
      ·exact h0 h1
      ·exact h1 rfl
    case measure=>simp [intOf] <;> omega
   ·have ht' : s.eF G.ops (aR L i)=false:=by simpa using ht
    rw [ht']
    have Hst : Hid (grTo G.ops L Q (k+1)=(s.next G.ops (aR L i),out)):=by show _=_;rw [Hstep.out,Nf ht]
    clear ht ht'
    generalize s.next G.ops (aR L i)=s' at *
    go_wp2_with fail
    go_roundw
    case rel=>exact ⟨k+1,aq,cq,out,s',ar',cr',R',ap',cp',by omega,by go_num,rfl,Hst.out,hB4,hop4,Hdq4.out,hbw4,Hok4.out,by omega,by omega⟩
    case measure=>simp [intOf] <;> omega
  ·obtain rfl : k=no:=by omega
   have Ho : Hid (kC G.ops L Q=out):=by show _=_;rw [kC,Hql.out,hst.out]
   go_wp2_with fail
   go_ret
   exact ⟨aq,cq,by rw [Ho.out];rfl,by rw [Ho.out];exact aX hop hbW.size,RZ hbW hbr⟩
theorem yS (N : Int) (l : Lz) : oO N [l]=if dk N l=true then 0 else 6:=by simp [oO]
def pI (P M : Int) (mod : Lz) (N : Int) (L : ZZ) (Q : Lz) : Int:=if aF P M mod N L=0 then oO N [Q] else aF P M mod N L
def CP (P M : Int) (mod : Lz) (N : Int) (L : ZZ) (Q : Lz) (w : World) (e : Ending) (w' : World) : Prop :=
 SW w w'/\((pI P M mod N L Q ≠ 0/\e = .returned (.tuple #[.int .i64 0,.int .i64 (pI P M mod N L Q)])) \/
  (pI P M mod N L Q=0/\e = .returned (.tuple #[.int .i64 (kC (af P M.toNat mod).ops L Q).length,.int .i64 0])))
theorem IY (P M : Int) (am : OA) (mn cm : Nat) (mod : Lz) (N : Int) (a : OA) (n c : Nat) (L : ZZ) (ao : OA) (no co : Nat) (Q : Lz) (w : World)
  (hmod : Ints w am mn mod) (hi : br w a n L) (hq : Ints w ao no Q) :
  Calls prog 39 #[.agg #[.int .i64 P,.int .i64 M,.slice am mn cm,.int .i64 N,.slice a n c],.slice ao no co] w (CP P M mod N L Q w):=by
 have Hql:=Z5 hq.len;have Hil:=Z5 hi.len;go_enter func39,ntmps39;go_wp2_with fail;obtain ⟨W,hW⟩ : ∃W : World,W=w.alloc (.cells #[.int .i64 P,.int .i64 M,.slice am mn cm,.int .i64 N,.slice a n c] 27):=⟨_,rfl⟩
 rw [<- hW];have hbW : SW w W:=by rw [hW];exact an _ _
 have x0 : aN W w.heap.size [.int .i64 P,.int .i64 M,.slice am mn cm,.int .i64 N,.slice a n c]:=by rw [hW];exact R9 _ _ _ rfl
 have HX:=Z5 x0;clear hW x0;refine (CN P M am mn cm mod N a n c L W (hmod.ah hbW) (hi.ah hbW)).mono ?_;rintro e w1 ⟨hb1,⟨hE,rfl⟩ | ⟨hE,b,rfl,hG⟩⟩
 ·have hbw1:=RZ hbW hb1;have HE : Hid (pI P M mod N L Q=aF P M mod N L):=by show _=_;rw [pI,Nf hE]
  have He:=Z5 hE;have hE1 : (aF P M mod N L == 0)=false:=by simpa using hE
  have hE2 : (aF P M mod N L != 0)=true:=by simpa using hE
  clear hE;go_wp2_with fail;go_ret2;exact ⟨hbw1,.inl ⟨by rw [HE.out];exact He.out,by rw [HE.out];rfl⟩⟩
 ·have hbw1:=RZ hbW hb1;have HE : Hid (pI P M mod N L Q=oO N [Q]):=by show _=_;rw [pI,Nd hE]
  have Hrw:=Z5 (bJ hE);have xU:=HX.out.ah hb1;have b0:=xU.cell 0 rfl;have b1:=xU.cell 1 rfl;have b2:=xU.cell 2 rfl;have b3:=xU.cell 3 rfl;have b4:=xU.cell 4 rfl;have hq1:=(hq.ah hbW).ah hb1;have hbl:=an w1 (.cells #[.slice ao no co] 22);have hMs : br (w1.alloc (.cells #[.slice ao no co] 22)) (some ⟨w1.heap.size,0,none⟩) 1 [Q]:=⟨rfl,λ_=>rfl,by unfold maxLen;omega,λi hi=>by
   obtain rfl : i=0:=by omega
   exact ⟨ao,no,co,dj _ _ _ rfl,hq1.ah hbl⟩⟩
  clear xU hE;go_wp2_with fail;refine (Jj P M am mn cm N a n c _ 1 1 [Q] _ hMs).mono ?_;rintro e w2 ⟨rfl,hb2⟩;have hb3 : SW w1 w2:=RZ hbl hb2;have hbw2:=RZ hbw1 hb3;rw [yS] at HE ⊢;by_cases hok : dk N Q=true
  ·have HE2 : Hid (pI P M mod N L Q=0):=by show _=_;rw [HE.out,Nd hok]
   rw [Nd hok];obtain ⟨m,hm,hm1,hm2,hLl,hRw⟩:=Hrw.out;subst hm;have hlen:=jx hok (by omega);have hQk : ∀k,k<no->0<=nth Q k/\nth Q k<m:=λk hk=>by have:=iI hok (k:=k) (by rw [Hql.out];exact hk);exact ⟨this.1,this.2.1⟩
   have hno : no<=1000000:=by rw [<- Hql.out];omega
   have hn : n<=1000000:=by rw [<- Hil.out];omega
   have HQk:=Z5 hQk;have HRw:=Z5 hRw;have xU:=(HX.out.ah hb1).ah hb3;have b0:=xU.cell 0 rfl;have b1:=xU.cell 1 rfl;have b2:=xU.cell 2 rfl;have b3:=xU.cell 3 rfl;have b4:=xU.cell 4 rfl;have hq2:=hq1.ah hb3;have hi2:=((hi.ah hbW).ah hb1).ah hb3;have hG2:=hG.ah hb3;clear hok hlen hQk hRw xU;go_wp2_with fail;refine (Dv P M am mn cm m a n c L m ao no co Q hG2 hi2 HRw.out hq2 HQk.out hn hno).mono ?_;rintro e w4 ⟨a4,c4,rfl,hown4,hb4⟩;have hF : CP P M mod m L Q w (.returned (.tuple #[.int .i64 (kC (af P M.toNat mod).ops L Q).length,.int .i64 0])) w4:=⟨RZ hbw2 hb4,.inr ⟨HE2.out,rfl⟩⟩
   have HF:=Z5 hF;clear hF hown4;generalize kC (af P M.toNat mod).ops L Q=out at *;go_wp2_with fail;go_ret2;exact HF.out
  ·have HE2 : Hid (pI P M mod N L Q=6):=by show _=_;rw [HE.out,Nf hok]
   rw [Nf hok];clear hok b0 b1 b2 b3 b4;go_wp2_with fail;go_ret2;exact ⟨hbw2,.inl ⟨by rw [HE2.out];omega,by rw [HE2.out];rfl⟩⟩
section
variable {O : aL} {El : Int->Prop} {m n : Nat}
theorem iY (F : bF O El) {a b : Nat->Int} : ∀t,(∀p,p<t->O.mul (a p) (b p)=0)->dotN O a b t=0
 | 0,_=>rfl
 | t+1,h=>by rw [dotN,iY F t λp hp=>h p (by omega),h t (by omega),F.add_zero 0 F.zero]
variable {G K : ZZ}
end
def oN (n : Nat) (Q : Lz) : Prop:=∀j,j<Q.length->0<=nth Q j/\nth Q j<n
theorem pf {l : Lz} {x : Int} {i : Nat} (h : i<l.length) : nth (l ++ [x]) i=nth l i:=by simp only [nth,Ng];rw [Ny h]
theorem wD (l : Lz) (x : Int) : nth (l ++ [x]) l.length=x:=by simp [nth]
theorem po (l : Lz) (x : Int) : ∀k,k<=l.length->kz (l ++ [x]) k=kz l k
 | 0,_=>rfl
 | k+1,h=>by rw [kz,kz,pf (by omega),po l x k (by omega)]
theorem nR (l : Lz) (x : Int) : kz (l ++ [x]) (l ++ [x]).length=x.toNat :: kz l l.length:=by rw [Nl,ND,kz,wD,po l x l.length (Na _)]
def gA (Q : Lz) : Z6:=kz Q Q.length
theorem kT (l : Lz) (x : Int) : gA (l ++ [x])=x.toNat :: gA l:=nR l x
theorem jq {Q : Lz} {x : Nat} : x ∈ gA Q ↔ ∃y ∈ Q,y.toNat=x:=by
 unfold gA;rw [ey];constructor
 ·rintro ⟨j,hj,e⟩;exact ⟨nth Q j,aH hj,e⟩
 ·rintro ⟨y,hy,e⟩;obtain ⟨j,hj,rfl⟩:=List.mem_iff_getElem.1 hy;exact ⟨j,hj,by rw [aj hj];exact e⟩
section
variable {O : aL} {El : Int->Prop} {m : Nat} {L : ZZ}
theorem fu (F : bF O El) (hL : bp El m L) (Q : Lz) : Rk (jE O El L.length (aR L)) (gA Q) (gk O L Q):=oK F hL Q
theorem wo (F : bF O El) (hL : bp El m L) {Q Q' : Lz} (h : ∀x ∈ gA Q,jE O El L.length (aR L) (gA Q') x) : gk O L Q<=gk O L Q':=SR (fM F hL) (fu F hL Q) (fu F hL Q') h
end
theorem lq {C : jG} {s z t : Lz} {x : Int} (h : x ∈ iy C s z t) : x ∈ t/\¬ x ∈ z/\s.length<C.W:=by
 unfold iy at h;split at h
 ·rename_i hl;rw [OG] at h;exact ⟨h.1,by simpa using h.2,hl⟩
 ·simp at h
section
theorem l0 {s T : Lz} (hn : s.Nodup) (h : ∀x ∈ s,x ∈ T) (hl : T.length<=s.length) {x : Int} (hx : x ∈ T) : x ∈ s:=by
 refine NH λhc=>?_;have:=j9 (s:=x :: s) (T:=T) (List.nodup_cons.2 ⟨hc,hn⟩) λy hy=>by
  rcases List.mem_cons.1 hy with rfl | hy
  ·exact hx
  ·exact h y hy
 simp at this;omega
theorem et {F : Lz->Lz->ZZ->Option ZZ} {s T : Lz} : ∀(ks z : Lz) (ts rest : ZZ),kfol F s z ks ts=some rest->(∀x ∈ z,¬ x ∈ T)->(∃x ∈ ks,x ∈ T) ->
  ∃k z' ts' rest',k ∈ ks/\k ∈ T/\(∀x ∈ z',¬ x ∈ T)/\F (s ++ [k]) z' ts'=some rest'
 | [],_,_,_,_,_,h=>by obtain ⟨x,hx,_⟩:=h;simp at hx
 | k :: ks,z,ts,rest,h,hz,hk=>by
  rw [kfol] at h;cases hF : F (s ++ [k]) z ts with
  | none=>rw [hF] at h;cases h
  | some ts' =>
   rw [hF] at h
   by_cases hkT : k ∈ T
   ·exact ⟨k,z,ts,ts',by simp,hkT,hz,hF⟩
   ·obtain ⟨k', z', ts'', rest', h1, h2, h3, h4⟩ := et ks (z ++ [k]) ts' rest h (λx hx => by
     rcases List.mem_append.1 hx with hx | hx
     ·exact hz x hx
     ·rw [List.mem_singleton.1 hx];exact hkT) (by
     obtain ⟨x,hx,hxT⟩:=hk;rcases List.mem_cons.1 hx with rfl | hx
     ·exact absurd hxT hkT
     ·exact ⟨x,hx,hxT⟩)
    exact ⟨k', z', ts'', rest', NS _ h1, h2, h3, h4⟩
variable {O : aL} {L : ZZ} {m : Nat} {C : jG}
theorem ik : ∀(d : Nat) (s z : Lz) (ts rest : ZZ),s.length+d=C.W->s.Nodup->folS O L m C d s z ts=some rest->∀T : Lz,T.length<=C.W->(∀x ∈ s,x ∈ T)->(∀x ∈ z,¬ x ∈ T) ->
  ∃s' t,dI O L m C s' t=true/\s'.Nodup/\(∀x ∈ s',x ∈ T)/\∀x ∈ t,¬ x ∈ T
 | 0,s,z,ts,rest,hd,hn,h,T,hT,hs,hz=>by
  match ts with
  | []=>simp [folS] at h
  | t :: ts =>
   rw [folS] at h
   by_cases hr : dI O L m C s t=true
   ·exact ⟨s,t,hr,hn,hs,λx hx hxT=>(sC hr).2 x hx (l0 hn hs (by omega) hxT)⟩
   ·rw [Nf hr] at h;cases h
 | d+1,s,z,ts,rest,hd,hn,h,T,hT,hs,hz=>by
  match ts with
  | []=>simp [folS] at h
  | t :: ts =>
   rw [folS] at h
   by_cases hr : dI O L m C s t=true
   ·rw [Nd hr] at h
    by_cases ht : ∃x ∈ t,x ∈ T
    ·obtain ⟨x,hx,hxT⟩:=ht
     have hxk : x ∈ iy C s z t:=by unfold iy;rw [Nd (by omega),OG];exact ⟨hx,by simpa using λhxz=>hz x hxz hxT⟩
     obtain ⟨k,z',ts',rest',h1,h2,h3,h4⟩:=et _ _ _ _ h hz ⟨x,hxk,hxT⟩
     have hks:=(sC hr).2 k (lq h1).1
     refine ik d (s ++ [k]) z' ts' rest' (by simp;omega) ?_ h4 T hT ?_ h3
     ·rw [OM]
      exact ⟨hn,by simp,λa ha b hb e=>hks (by rw [List.mem_singleton.1 hb] at e;exact e ▸ ha)⟩
     ·intro y hy
      rcases List.mem_append.1 hy with hy | hy
      ·exact hs y hy
      ·rw [List.mem_singleton.1 hy];exact h2
    ·exact ⟨s,t,hr,hn,hs,λx hx hxT=>ht ⟨x,hx,hxT⟩⟩
   ·rw [Nf hr] at h;cases h
theorem Cm {ts : ZZ} (h : provS O L m C ts=0) (T : Lz) (hT : T.length<=C.W) : ∃s' t,dI O L m C s' t=true/\s'.Nodup/\(∀x ∈ s',x ∈ T)/\∀x ∈ t,¬ x ∈ T:=by
 unfold provS at h;split at h
 ·rename_i hf;exact ik C.W [] [] ts [] (by simp) (by simp) hf T hT (λx hx=>by simp at hx) λx hx=>by simp at hx
 ·cases h
end
section
variable {O : aL} {El : Int->Prop} {m : Nat} {L : ZZ}
theorem Aw (F : bF O El) (hL : bp El m L) {Q : Lz} {x : Int} (h : ¬ jE O El L.length (aR L) (gA Q) x.toNat) : gk O L (Q ++ [x])=gk O L Q+1:=by have h1:=fu F hL (Q ++ [x]);rw [kT] at h1;exact h1.uniq (Rk.ind _ h (fu F hL Q))
end
section
variable {P M : Int} {mod : Lz} {m : Nat} {L : ZZ}
end
section
variable {O : aL} {El : Int->Prop} {m : Nat} {L : ZZ}
end
def H5 (x : Lz) (U : Lz) (m : Nat) : Nat:=(List.range m).countP λj=>decide (nth x j ≠ 0/\(j : Int) ∈ U)
theorem bz {p p' : Nat->Bool} {s : Nat} (h : ∀j,j ≠ s->p j=p' j) : ∀m,(List.range m).countP p'+(if s<m/\p s=true then 1 else 0)=(List.range m).countP p+(if s<m/\p' s=true then 1 else 0)
 | 0=>by simp
 | m+1=>by
  have ih:=bz h m;rw [Ou,PA,PA,Qf,Qf];by_cases e : s=m
  ·subst e;simp at ih;by_cases h1 : p s=true <;> by_cases h2 : p' s=true <;> simp [h1,h2] <;> omega
  ·have h3:=h m (λe2=>e e2.symm);rw [h3];by_cases h4 : s<m
   ·simp only [h4,show s<m+1 by omega,true_and] at ih ⊢;omega
   ·simp only [h4,show ¬ s<m+1 by omega,false_and] at ih ⊢;simp at ih ⊢;omega
theorem Ha (x U : Lz) (m : Nat) {s : Int} (h0 : 0<=s) (hm : s<m) : H5 x (U ++ [s]) m=H5 x U m+(if nth x s.toNat ≠ 0/\¬ s ∈ U then 1 else 0):=by
 have h:=bz (p:=λj=>decide (nth x j ≠ 0/\(j : Int) ∈ U)) (p':=λj=>decide (nth x j ≠ 0/\(j : Int) ∈ U ++ [s])) (s:=s.toNat) (λj hj=>by
  have : ((j : Int) ∈ U ++ [s]) ↔ ((j : Int) ∈ U):=by rw [Ol,N6];exact ⟨λh=>h.elim id λe=>absurd (by omega) hj,.inl⟩
  simp [this]) m
 have e : ((s.toNat : Nat) : Int)=s:=by omega
 have hlt : s.toNat<m:=by omega
 unfold H5;simp only [e,hlt,true_and,N8,Ol,N6,or_true,and_true] at h;have h' : (List.range m).countP (λj=>decide (nth x j ≠ 0/\(j : Int) ∈ U ++ [s]))=(List.range m).countP (λj=>decide (nth x j ≠ 0/\((j : Int) ∈ U\/(j : Int)=s))):=by simp
 rw [h'];by_cases h1 : nth x s.toNat=0
 ·simp [h1] at h ⊢;exact h
 ·by_cases h2 : s ∈ U
  ·simp [h1,h2] at h ⊢;omega
  ·simp [h1,h2] at h ⊢;omega
theorem tl (x : Lz) (m : Nat) : ∀(S U : Lz),S.Nodup->(∀s ∈ S,0<=s/\s<(m : Int))->H5 x (U ++ S) m=H5 x U m+S.countP λs=>decide (nth x s.toNat ≠ 0/\¬ s ∈ U)
 | [],U,_,_=>by simp
 | s :: S,U,hn,hb=>by
  rw [List.nodup_cons] at hn;have h1:=hb s (P5 ..);have ih:=tl x m S (U ++ [s]) hn.2 λy hy=>hb y (NS _ hy);rw [NX,List.singleton_append] at ih;rw [ih,Ha x U m h1.1 h1.2,List.countP_cons];have e : S.countP (λy=>decide (nth x y.toNat ≠ 0/\¬ y ∈ U ++ [s]))=S.countP (λy=>decide (nth x y.toNat ≠ 0/\¬ y ∈ U)):=by refine List.countP_congr λy hy=>?_;have : y ≠ s:=λe=>hn.1 (e ▸ hy);simp [this]
  rw [e];simp only [N8];omega
section
variable {O : aL} {El : Int->Prop} {m : Nat} {L : ZZ}
theorem pD (F : bF O El) (hL : bp El m L) (Q : Lz) (x : Int) : gk O L (Q ++ [x])<=gk O L Q+1:=by
 have h1:=fu F hL (Q ++ [x]);rw [kT] at h1;have h2:=fu F hL Q;generalize gk O L (Q ++ [x])=n at *;cases h1 with
 | dep _ _ h=>rw [h2.uniq h];omega
 | ind _ _ h=>rw [h2.uniq h];omega
theorem lN (F : bF O El) (hL : bp El m L) (Q : Lz) : ∀(n : Nat) (A : Lz),A.length=n->gk O L (Q ++ A)<=gk O L Q+n
 | 0,A,h=>by rw [NL h,Oj];omega
 | n+1,A,h=>by
  have hA : A ≠ []:=λe=>by rw [e] at h;simp at h
  obtain ⟨A',x,rfl⟩ : ∃A' x,A=A' ++ [x]:=⟨A.dropLast,A.getLast hA,(Qn hA).symm⟩
  have ih:=lN F hL Q n A' (by simpa using h);have h1:=pD F hL (Q ++ A') x;rw [NX] at h1;omega
theorem ry (O : aL) (L : ZZ) (Q : Lz) : gk O L Q<=Q.length:=xc O L Q
theorem wU (F : bF O El) (hL : bp El m L) {Q A : Lz} (h : gk O L (Q ++ A)=(Q ++ A).length) : gk O L Q=Q.length:=by have h1:=lN F hL Q _ A rfl;have h2:=ry O L Q;rw [Nl] at h;omega
theorem wH (F : bF O El) (hL : bp El m L) {Q Q' : Lz} (h : ∀x ∈ Q,x ∈ Q') : gk O L Q<=gk O L Q' :=
 wo F hL λx hx=>by obtain ⟨y,hy,e⟩:=jq.1 hx;exact (fM F hL).mem _ _ (jq.2 ⟨y,h y hy,e⟩)
variable {C : jG}
def Q2 (O : aL) (L : ZZ) (m : Nat) (C : jG) (s : Lz) : Nat:=if C.cos=true then gk O L (frTo false s m) else C.M
theorem Di {s t : Lz} (h : dI O L m C s t=true) : t.length=Q2 O L m C s/\gk O L t=t.length:=by
 unfold dI at h;rw [NK,NK,N8] at h;refine ⟨?_,h.2.1⟩;have h2:=h.2.2;unfold Q2;split
 ·rename_i hc;rw [Nd hc,NK,N8] at h2;exact h2.1.symm
 ·rename_i hc;rw [Nf hc,N8] at h2;exact h2
end
section
variable {O : aL} {El : Int->Prop} {m : Nat} {R : ZZ} {P : Lz}
theorem wN (F : bF O El) (hI : BS.Inv El m ⟨R,P⟩) {v : Lz} (hv : Vc El m v) (hs : RS O El m R (λx=>nth v x)) : ∀k,k<=R.length->RS O El m R (λx=>nth (redTo O R P v k) x)
 | 0,_=>hs
 | k+1,hk=>by have hu : Vc El m (redTo O R P v k):=Sr F hI.ok hv k (show k<=R.length by omega);have hp : (nth P k).toNat<m:=hI.ok.pl (show k<R.length by omega);have hr : Vc El m (ai R k):=hI.ok.row (show k<R.length by omega);refine ((wN F hI hv hs k (by omega)).comb F (.row F (i:=k) (by omega)) (hu.at hp)).congr λx hx=>?_;rw [redTo,fP F hu hr hp hx,F.mul_comm _ _ (hu.at hp) (hr.at hx)]
theorem vL (F : bF O El) (hR : bp El m R) (hP : mg R P m) (hlen : R.length=P.length) {v : Lz} (hv : Vc El m v) (hs : RS O El m R (λx=>nth v x)) : ∀x,x<m->nth (redTo O R P v R.length) x=0:=by have hI:=oE hR hP hlen;obtain ⟨e,he,h⟩:=wN F hI hv hs R.length (Na _);intro x hx;have h1 : nth (redTo O R P v R.length) x=e (aR R x):=h x hx;rw [h1];refine hP.all F hR hx e he λy hy=>?_;obtain ⟨j,hj,rfl⟩:=(ey P _ _).1 hy;rw [<- h _ (by have:=hP.lt j hj;omega)];exact hI.place F hv R.length (Na _) j (by omega)
end
section
variable {O : aL} {El : Int->Prop} {m : Nat} {L : ZZ} {C : jG}
end
theorem cX {x : Lz} {m : Nat} {y : Int} : y ∈ oZ x m ↔ ∃j : Nat,j<m/\nth x j ≠ 0/\y=j:=by
 unfold oZ;rw [Pp];constructor
 ·rintro ⟨j,hj,rfl⟩;rw [OG,PQ] at hj;exact ⟨j,hj.1,by simpa using hj.2,rfl⟩
 ·rintro ⟨j,h1,h2,rfl⟩;exact ⟨j,by rw [OG,PQ];exact ⟨h1,by simpa using h2⟩,rfl⟩
section
variable {P M : Int} {mod : Lz} {m : Nat} {L : ZZ}
end
section
variable {O : aL} {El : Int->Prop} {m : Nat} {L : ZZ}
theorem jF (F : bF O El) {v r : Lz} {i x : Nat} (hv : Vc El m v) (hr : Vc El m r) (hi : i<m) (hx : x<m) : nth (gG O v i r) x=O.add (nth v x) (O.neg (O.mul (nth r x) (nth v i))):=by
 by_cases h0 : nth v i=0
 ·have e : gG O v i r=v:=by unfold gG;rw [Nd h0]
  rw [e,h0,F.cQ (hr.at hx),F.dR,F.add_zero _ (hv.at hx)]
 ·rw [sT O v i r x (by rw [hr.1,hv.1]) (by rw [hv.1];exact hx) h0];split
  ·rename_i h1;rw [h1,F.iS (hv.at hi),F.dR,F.add_zero _ (hv.at hx)]
  ·rw [F.mul_comm _ _ (hv.at hi) (hr.at hx)]
theorem D8 (F : bF O El) {v r : Lz} {i : Nat} (hv : Vc El m v) (hr : Vc El m r) (hi : i<m) : Vc El m (gG O v i r) :=
 ⟨by rw [fO _ _ _ _ (by rw [hr.1,hv.1])];exact hv.1,sg F.cl hv.2 hr.2 (by rw [hr.1,hv.1]) (by rw [hv.1];exact hi)⟩
theorem py (O : aL) (t i : Nat) (L : ZZ) : ∀l,l<=L.length->∀j,ai (eG O t i L l) j=if j<l/\t<j then gG O (ai L j) i (ai L t) else ai L j
 | 0,_,j=>by rw [eG,Nf (by omega)]
 | l+1,hl,j=>by
  have ih:=py O t i L l (by omega);rw [eG];by_cases htl : t<l
  ·rw [Nd htl,eH _ _ _ _ (by rw [gT];omega)];by_cases e : j=l
   ·subst e;rw [Nd rfl,ih j,ih t,Nf (by omega),Nf (by omega),Nd ⟨by omega,htl⟩]
   ·rw [Nf e,ih j];by_cases h : j<l/\t<j
    ·rw [Nd h,Nd ⟨by omega,h.2⟩]
    ·rw [Nf h,Nf λhh=>h ⟨by omega,hh.2⟩]
  ·rw [Nf htl,ih j];by_cases h : j<l/\t<j
   ·rw [Nd h,Nd ⟨by omega,h.2⟩]
   ·rw [Nf h,Nf λhh=>h ⟨by omega,hh.2⟩]
theorem vB (O : aL) {L : ZZ} {t k : Nat} (i : Nat) (ht : t<L.length) (hk : k<L.length) (htk : t<=k) {j : Nat} (hj : j<L.length) :
  ai (iP O L t k i) j=if t<j then gG O (ai L (du t k j)) i ((ai L k).map (O.mul (O.inv (nth (ai L k) i)))) else if j=t then (ai L k).map (O.mul (O.inv (nth (ai L k) i))) else ai L j:=by
 have hft : du t k t=k:=by
  unfold du;by_cases e : t=k
  ·rw [Nd e];exact e
  ·rw [Nf e,Nd rfl]
 unfold iP;rw [jc _ _ _ _ ht hk,hft,py _ _ _ _ _ (by rw [N9,bM];exact Na _)];rw [eH _ _ _ _ (by rw [bM];exact ht),eH _ _ _ _ (by rw [bM];exact ht),Nd rfl,jc _ _ _ _ ht hk];by_cases h : t<j
 ·rw [Nd ⟨hj,h⟩,Nd h,Nf (by omega)]
 ·rw [Nf λhh=>h hh.2,Nf h];by_cases e : j=t
  ·rw [Nd e,Nd e]
  ·rw [Nf e,Nf e];have hf : du t k j=j:=by unfold du;rw [Nf (by omega),Nf e]
   rw [hf]
theorem z7 (F : bF O El) {R : ZZ} {t : Lz} {k : Nat} (hR : bp El m R) (hk : k<=R.length) (hone : ∀i,i<k->nth (ai R i) (nth t i).toNat=1) (hzero : ∀j i,j<k->j<i->i<R.length->nth (ai R i) (nth t j).toNat=0)
  {x : Nat} (hx : ∀i,k<=i->i<R.length->nth (ai R i) x=0) : jE O El R.length (aR R) (kz t k) x:=by
 intro φ hφ h0;have hc:=cH hR F.zero;have hu : ∀j,j<k->φ (eU R.length j)=0:=by
  intro j;induction j using Nat.strongRecOn with
  | ind j ih =>
   intro hj
   have h1:=h0 (nth t j).toNat ((ey t _ k).2 ⟨j,hj,rfl⟩)
   rw [fG F hφ (hc _)] at h1
   have hel:=hφ.el _ (gz F R.length j)
   have h2 : ∀p,p<R.length->nth (aR R (nth t j).toNat) p=nth (ai R p) (nth t j).toNat:=λp hp=>cI R _ p hp
   rw [iO F (x:=j) (by
    show El (O.mul (φ (eU R.length j)) (nth (aR R (nth t j).toNat) j));rw [h2 j (by omega),hone j hj,F.ie hel];exact hel) R.length (λp hp hpj=>by
    show O.mul (φ (eU R.length p)) (nth (aR R (nth t j).toNat) p)=0;rw [h2 p hp];by_cases e : p<j
    ·rw [ih p e (by omega),<- h2 p hp,F.iS ((hc _).at hp)]
    ·rw [hzero j p hj (by omega) hp,F.cQ (hφ.el _ (gz F _ p))]),Nd (by omega)] at h1
   have h3 : O.mul (φ (eU R.length j)) (nth (aR R (nth t j).toNat) j)=0:=h1
   rw [h2 j (by omega),hone j hj,F.ie hel] at h3
   exact h3
 rw [fG F hφ (hc _)];refine iY F _ λp hp=>?_;show O.mul (φ (eU R.length p)) (nth (aR R x) p)=0;by_cases e : p<k
 ·rw [hu p e,F.iS ((hc _).at hp)]
 ·rw [cI R _ p hp,hx p (by omega) hp,F.cQ (hφ.el _ (gz F _ p))]
theorem Ac {t : Lz} {k : Nat} (hk : k<=t.length) {y : Nat} (h : y ∈ kz t k) : y ∈ gA (t.take k):=by obtain ⟨j,hj,rfl⟩:=(ey t _ k).1 h;refine jq.2 ⟨nth t j,?_,rfl⟩;rw [aj (show j<t.length by omega)];rw [QB];exact ⟨j,by omega,rfl⟩
theorem vg (F : bF O El) (hL : bp El m L) {t : Lz} (ht : gk O L t=t.length) {k : Nat} (hk : k<t.length) : ¬ jE O El L.length (aR L) (gA (t.take k)) (nth t k).toNat:=λhc=>by
 have h1 : gk O L (t.take (k+1))=(t.take (k+1)).length:=wU F hL (A:=t.drop (k+1)) (by rw [Pg];exact ht);have h2:=ry O L (t.take k);have h3:=fu F hL (t.take k ++ [nth t k]);rw [kT] at h3;have h4:=h3.uniq (Rk.dep _ hc (fu F hL (t.take k)));have e : t.take (k+1)=t.take k ++ [nth t k]:=by rw [Nj hk,aj hk]
 rw [e] at h1;rw [Nl,NG,ND] at h1;rw [NG] at h2;omega
theorem vP (F : bF O El) (hL : bp El m L) {y t : Lz} (hT : oN m t) (ht : gk O L t=t.length) {k : Nat} (hk : k<t.length) {st : LS} (h : F7 O El m L y t k st) (hy : Vc El m y) : F7 O El m L y t (k+1) (jM O st (nth t k).toNat):=by
 have hi0:=hT k hk;have hi : (nth t k).toNat<m:=by omega
 obtain ⟨i,hie⟩ : ∃i,(nth t k).toNat=i:=⟨_,rfl⟩
 have htop:=h.top;have hlen:=h.len;have hkl : k<=st.rows.length:=by rw [hlen];exact h.kl
 have hfound : bh st.rows i st.top ≠ st.rows.length:=λhf=>by
  refine vg F hL ht hk ?_;have h1 : jE O El st.rows.length (aR st.rows) (kz t k) i:=z7 F h.rws hkl h.one (λj i' h1 h2 h3=>h.zero j i' h1 h2 (by omega)) λp hp hpl=>by refine mj st.rows i (st.rows.length - st.top) st.top p (by omega) ?_;unfold bh at hf;omega
  have h2:=fE.cl h.sup (λz hz=>by obtain ⟨j,hj,rfl⟩:=(ey t _ k).1 hz;have:=hT j (by omega);omega) (by omega) h1;rw [hie];exact (fM F hL).sub (λz hz=>Ac (by omega) hz) h2
 obtain ⟨a1,a2,a3⟩:=AA (by omega) hfound;have hq : ∃q,bh st.rows i st.top=q:=⟨_,rfl⟩
 obtain ⟨q,hqe⟩:=hq;rw [hqe] at a1 a2 a3 hfound;have hkn : k<st.rows.length:=by omega
 rw [hie] at hi ⊢;have hstep : jM O st i=⟨iP O st.rows st.top q i,gG O st.sum i (ai (iP O st.rows st.top q i) st.top),st.top+1⟩:=by unfold jM;rw [hqe,Nf hfound]
 rw [hstep,htop];rw [htop] at a1;have hrq:=h.rws.row (i:=q) a2;have hp : El (nth (ai st.rows q) i):=Sc hrq hi;have hpi:=F.cl.inv _ hp a3;obtain ⟨N,hN⟩ : ∃N,(ai st.rows q).map (O.mul (O.inv (nth (ai st.rows q) i)))=N:=⟨_,rfl⟩
 have hNv : Vc El m N:=by rw [<- hN];exact Vc.Im F hrq hpi
 have hNx : ∀x,x<m->nth N x=O.mul (O.inv (nth (ai st.rows q) i)) (nth (ai st.rows q) x):=λx hx=>by rw [<- hN];exact ml O _ _ (by rw [hrq.1];exact hx)
 have hNi : nth N i=1:=by rw [hNx i hi,F.mul_comm _ _ hpi hp,F.mul_inv _ hp a3]
 obtain ⟨R',hR'⟩ : ∃R',iP O st.rows k q i=R':=⟨_,rfl⟩
 have hrow : ∀j,j<st.rows.length->ai R' j=if k<j then gG O (ai st.rows (du k q j)) i N else if j=k then N else ai st.rows j:=λj hj=>by rw [<- hR',vB O i hkn a2 a1 hj,hN]
 have hR'l : R'.length=st.rows.length:=by rw [<- hR',kg]
 have hR'r : bp El m R':=by rw [<- hR'];exact rj F.cl h.rws hkn a2 hi a3
 have hrk : ai R' k=N:=by rw [hrow k hkn,Nf (by omega),Nd rfl]
 have hfl : ∀j,j<st.rows.length->du k q j<st.rows.length:=λj hj=>lK hkn a2 hj;have hclx : ∀j x,j<st.rows.length->k<j->x<m->nth (ai R' j) x=O.add (nth (ai st.rows (du k q j)) x) (O.neg (O.mul (nth N x) (nth (ai st.rows (du k q j)) i))):=λj x hj hkj hx=>by rw [hrow j hj,Nd hkj];exact jF F (h.rws.row (hfl j hj)) hNv hi hx
 have hNrs : RS O El m st.rows (λx=>nth N x):=((Sg F a2).smul F hpi).congr λx hx=>hNx x hx;have hsub' : fE O El m R' st.rows:=λj hj=>by
  rw [hR'l] at hj;by_cases h1 : k<j
  ·exact ((Sg F (hfl j hj)).comb F hNrs (Sc (h.rws.row (hfl j hj)) hi)).congr λx hx=>hclx j x hj h1 hx
  ·by_cases h2 : j=k
   ·subst h2;rw [hrk];exact hNrs
   ·rw [hrow j hj,Nf h1,Nf h2];exact Sg F hj
 have hkR : k<R'.length:=by omega
 have hsup' : fE O El m st.rows R':=λj hj=>by
  by_cases h1 : j<k
  ·refine (Sg F (i:=j) (by omega)).congr λx hx=>?_;rw [hrow j hj,Nf (by omega),Nf (by omega)]
  ·by_cases h2 : j=q
   ·subst h2;refine ((Sg F hkR).smul F hp).congr λx hx=>?_;have hx1 : El (nth (ai st.rows j) x):=Sc hrq hx;rw [hrk,hNx x hx,<- F.mul_assoc _ _ _ hp hpi hx1,F.mul_inv _ hp a3,F.one_mul _ hx1]
   ·obtain ⟨j',hj',hkj,hfj⟩ : ∃j',j'<st.rows.length/\k<j'/\du k q j'=j:=by
     by_cases h3 : j=k
     ·refine ⟨q,a2,by omega,?_⟩;unfold du;rw [Nd rfl,h3]
     ·refine ⟨j,hj,by omega,?_⟩;unfold du;rw [Nf h2,Nf h3]
    have hs : El (nth (ai st.rows j) i):=Sc (h.rws.row hj) hi;refine ((Sg F (i:=j') (by omega)).comb F (Sg F hkR) (F.cl.neg _ hs)).congr λx hx=>?_;have hx2 : El (nth (ai st.rows j) x):=Sc (h.rws.row hj) hx;have hq:=F.cl.mul _ _ (hNv.at hx) hs;rw [hclx j' x hj' hkj hx,hfj,hrk,F.mul_neg (hNv.at hx) hs,F.neg_neg hq,F.add_assoc _ _ _ hx2 (F.cl.neg _ hq) hq,F.lB hq,F.add_zero _ hx2]
 rw [hR',hrk];have hlow : ∀j p,j<k->k<=p->p<st.rows.length->nth (ai st.rows p) (nth t j).toNat=0:=λj p h1 h2 h3=>h.zero j p h1 (by omega) (by omega);have hNj : ∀j,j<k->nth N (nth t j).toNat=0:=λj hj=>by have:=hT j (by omega);rw [hNx _ (by omega),hlow j q hj a1 a2,F.cQ hpi]
 refine ⟨hR'r,(show R'.length=L.length by omega),D8 F h.vc hNv hi,rfl,by omega,h.sup.trans hsup',hsub'.trans h.sub,?_,?_,?_,?_⟩
 ·obtain ⟨f,hf,hfe,hfx⟩:=h.cos;have hs:=h.vc.at hi;refine ⟨_,hf.comb F (h.sub.rs hNrs) hs,λx hx=>F.cl.add _ _ (hfe x hx) (F.cl.neg _ (F.cl.mul _ _ (hNv.at hx) hs)),λx hx=>?_⟩;have hq:=F.cl.neg _ (F.cl.mul _ _ (hNv.at hx) hs);show nth (gG O st.sum i N) x=_;rw [jF F h.vc hNv hi hx,hfx x hx,F.add_assoc _ _ _ (hy.at hx) (hfe x hx) hq]
 ·intro i' hi';show nth (ai R' i') _=1;by_cases e : i'=k
  ·subst e;rw [hrk,hie];exact hNi
  ·rw [hrow i' (by omega),Nf (by omega),Nf e];exact h.one i' (by omega)
 ·intro j i' hj hji hil;show nth (ai R' i') _=0;have htj:=hT j (by omega);by_cases e : j=k
  ·subst e;rw [hie,hclx i' i (by omega) hji hi,hNi];have hv : El (nth (ai st.rows (du j q i')) i):=Sc (h.rws.row (hfl i' (by omega))) hi;rw [F.one_mul _ hv,F.add_neg _ hv]
  ·by_cases e2 : k<i'
   ·rw [hclx i' _ (by omega) e2 (by omega),hNj j (by omega)];have hv : El (nth (ai st.rows (du k q i')) i):=Sc (h.rws.row (hfl i' (by omega))) hi;have hfk : k<=du k q i':=by unfold du;split <;> (try split) <;> omega
    rw [hlow j _ (by omega) hfk (hfl i' (by omega)),F.iS hv,F.dR,F.add_zero _ F.zero]
   ·by_cases e3 : i'=k
    ·subst e3;rw [hrk];exact hNj j (by omega)
    ·rw [hrow i' (by omega),Nf e2,Nf e3];exact h.zero j i' (by omega) hji hil
 ·intro j hj;show nth (gG O st.sum i N) _=0;have htj:=hT j (by omega);have hs:=h.vc.at hi;by_cases e : j=k
  ·subst e;rw [hie,jF F h.vc hNv hi hi,hNi,F.one_mul _ hs,F.add_neg _ hs]
  ·rw [jF F h.vc hNv hi (by omega),hNj j (by omega),h.sz j (by omega),F.iS hs,F.dR,F.add_zero _ F.zero]
theorem r9 (F : bF O El) (hL : bp El m L) {y t : Lz} (hT : oN m t) (ht : gk O L t=t.length) (hy : Vc El m y) : ∀k,k<=t.length->F7 O El m L y t k (jh O L y t k)
 | 0,_=>by refine ⟨hL,rfl,hy,rfl,Ni _,SJ F L,SJ F L,?_,λi hi=>by omega,λj i hj=>by omega,λj hj=>by omega⟩;refine ⟨λ_=>0,?_,λx _=>F.zero,λx hx=>by show nth y x=_;rw [F.add_zero _ (hy.at hx)]⟩;exact SD F λ_ _=>rfl
 | k+1,hk=>by rw [jh];exact vP F hL hT ht (by omega) (r9 F hL hT ht hy k (by omega)) hy
def JY (O : aL) (El : Int->Prop) (m : Nat) (L : ZZ) (y X : Lz) : Prop:=Vc El m X/\∃f,RS O El m L f/\(∀x,x<m->El (f x))/\∀x,x<m->nth X x=O.add (nth y x) (f x)
theorem xb (F : bF O El) (hL : bp El m L) {y X X' t Q : Lz} (hy : Vc El m y) (hX : JY O El m L y X) (hX' : JY O El m L y X') (hT : oN m t) (ht : gk O L Q<=gk O L t) (hQ : ∀x ∈ t,x ∈ Q)
  (h0 : ∀x ∈ t,nth X x.toNat=0) (h0' : ∀x ∈ t,nth X' x.toNat=0) {x : Int} (hx : x ∈ Q) (hxm : x.toNat<m) : nth X x.toNat=nth X' x.toNat:=by
 obtain ⟨hXv,f,⟨e,he,hfe⟩,hfel,hfx⟩:=hX;obtain ⟨hXv',f',⟨e',he',hfe'⟩,hfel',hfx'⟩:=hX';have hone:=F.one;have hc : jE O El L.length (aR L) (gA t) x.toNat:=by
  refine NH λhn=>?_;have h1:=Aw F hL (Q:=t) (x:=x) hn;have h2:=wH F hL (Q:=t ++ [x]) (Q':=Q) λz hz=>by
   rcases List.mem_append.1 hz with hz | hz
   ·exact hQ z hz
   ·rw [List.mem_singleton.1 hz];exact hx
  omega
 have hd:=hc _ (he.comb F he' hone) λz hz=>by obtain ⟨p,hp,rfl⟩:=jq.1 hz;obtain ⟨j,hj,rfl⟩:=List.mem_iff_getElem.1 hp;have hb:=hT j hj;rw [aj hj] at hb;show O.add (e (aR L (t[j]).toNat)) (O.neg (O.mul (e' (aR L (t[j]).toNat)) 1))=0;have k1:=h0 _ hp;have k2:=h0' _ hp;rw [hfx _ (by omega)] at k1;rw [hfx' _ (by omega)] at k2;have yv:=hy.at (i:=(t[j]).toNat) (by omega);have q1:=F.iH yv (hfel _ (by omega)) k1;have q2:=F.iH yv (hfel' _ (by omega)) k2;rw [<- hfe _ (by omega),<- hfe' _ (by omega),q1,q2,F.ie (F.cl.neg _ yv),F.add_neg _ (F.cl.neg _ yv)]
 have hd' : O.add (e (aR L x.toNat)) (O.neg (O.mul (e' (aR L x.toNat)) 1))=0:=hd;rw [<- hfe _ hxm,<- hfe' _ hxm,F.ie (hfel' _ hxm)] at hd';have q:=F.iH (hfel _ hxm) (F.cl.neg _ (hfel' _ hxm)) hd';have q2:=congrArg O.neg q;rw [F.neg_neg (hfel' _ hxm),F.neg_neg (hfel _ hxm)] at q2;rw [hfx _ hxm,hfx' _ hxm,q2]
theorem e8 (s v : Lz) : ∀k,(List.range k).countP (λj=>decide (nth v j ≠ 0))=fK s v k+(List.range k).countP λj=>decide (nth v j ≠ 0/\(j : Int) ∈ s)
 | 0=>by simp [fK]
 | k+1=>by
  have ih:=e8 s v k;have hc : fK s v (k+1)=fK s v k+if nth v k ≠ 0/\¬ (k : Int) ∈ s then 1 else 0:=by rw [fK];split <;> rfl
  rw [Ou,PA,PA,hc];simp only [Qf];by_cases h1 : nth v k=0
  ·simp [h1] at ih ⊢;omega
  ·by_cases h2 : (k : Int) ∈ s
   ·simp [h1,h2] at ih ⊢;omega
   ·simp [h1,h2] at ih ⊢;omega
theorem kE {s v v' : Lz} : ∀k : Nat,(∀j : Nat,j<k->¬ (j : Int) ∈ s->nth v j=nth v' j)->fK s v k=fK s v' k
 | 0,_=>rfl
 | k+1,h=>by
  have ih:=kE k λj hj=>h j (by omega);rw [fK,fK,ih];by_cases h2 : (k : Int) ∈ s
  ·rw [Nf λhh=>hh.2 h2,Nf λhh=>hh.2 h2]
  ·rw [h k (by omega) h2]
theorem R0 {s X : Lz} {m : Nat} (hX : X.length=m) (hn : s.Nodup) (hs : ∀x ∈ s,x ∈ oZ X m) : s.length+fK s X m<=fB X:=by
 have h1:=e8 s X m;have h2 : fB X=(List.range m).countP λj=>decide (nth X j ≠ 0):=by rw [<- rM hX,oZ,Nq,<- List.countP_eq_length_filter]
 have h3:=tl X m s [] hn λx hx=>by obtain ⟨j,hj,_,rfl⟩:=cX.1 (hs x hx);omega
 have h4 : s.countP (λx=>decide (nth X x.toNat ≠ 0/\¬ x ∈ ([] : Lz)))=s.length:=by rw [List.countP_eq_length];intro x hx;obtain ⟨j,hj,h5,rfl⟩:=cX.1 (hs x hx);simpa using h5
 have h5 : H5 X [] m=0:=by simp [H5]
 rw [N5,h4,h5] at h3;unfold H5 at h3;omega
theorem tz (F : bF O El) (hL : bp El m L) {y s t X : Lz} (hy : Vc El m y) (hT : oN m t) (ht : gk O L t=t.length) (hr : gk O L (frTo false s m)=t.length) (hts : ∀x ∈ t,¬ x ∈ s) (hX : JY O El m L y X) (h0 : ∀x ∈ t,nth X x.toNat=0) :
  gh O L y s t=fK s X m:=by
 have h:=r9 F hL hT ht hy t.length (Na _);unfold gh;rw [h.vc.1];refine kE m λj hj hjs=>?_;have hZ : JY O El m L y (jh O L y t t.length).sum:=⟨h.vc,h.cos⟩
 refine xb F hL hy hZ hX hT (Q:=frTo false s m) (by omega) (λx hx=>?_) (λx hx=>?_) h0 (x:=(j : Int)) ((dG m).2 ⟨j,hj,rfl,by simpa using hjs⟩) (by simpa using hj)
 ·obtain ⟨q,hq,rfl⟩:=List.mem_iff_getElem.1 hx;have hb:=hT q hq;rw [aj hq] at hb;exact (dG m).2 ⟨(t[q]).toNat,by omega,by omega,by rw [Oc hb.1];simpa using hts _ hx⟩
 ·obtain ⟨q,hq,rfl⟩:=List.mem_iff_getElem.1 hx;have:=h.sz q hq;rwa [aj hq] at this
theorem k8 (F : bF O El) (hL : bp El m L) {C : jG} (hc : C.cos=true) (hy : Vc El m C.y) {ts : ZZ} (h : provS O L m C ts=0) {X : Lz} (hX : JY O El m L C.y X) : C.W<fB X:=by
 refine NH λhw=>?_;have hXl:=hX.1.1;obtain ⟨s,t,hr,hn,hs,ht⟩:=Cm h (oZ X m) (by rw [rM hXl];omega);obtain ⟨hok,hts⟩:=sC hr;obtain ⟨h1,h2⟩:=Di hr;have hT : oN m t:=λj hj=>qi hok j hj;unfold Q2 at h1;rw [Nd hc] at h1;unfold dI at hr;rw [NK,NK,Nd hc,NK,N8,N8,N8] at hr;have h3:=hr.2.2.2;have h4:=tz F hL hy hT h2 h1.symm hts hX λx hx=>by refine NH λhne=>?_;obtain ⟨q,hq,rfl⟩:=List.mem_iff_getElem.1 hx;have hb:=hT q hq;rw [aj hq] at hb;refine ht _ hx (cX.2 ⟨(t[q]).toNat,by omega,hne,by omega⟩)
 have h5:=R0 hXl hn hs;omega
end
section
variable {O : aL} {El : Int->Prop} {m : Nat} {L : ZZ}
theorem Kk (F : bF O El) (hL : bp El m L) {r : Lz} (hr : Vc El m r) {f : Nat->Int} (h : RS O El m (L ++ [r]) f) : ∃s g,El s/\RS O El m L g/\∀x,x<m->f x=O.add (g x) (O.mul s (nth r x)):=by
 obtain ⟨e,he,h2⟩:=h;have hLr : bp El m (L ++ [r]):=λy hy=>by
  rcases List.mem_append.1 hy with hy | hy
  ·exact hL y hy
  ·rw [List.mem_singleton.1 hy];exact hr
 have hlen : (L ++ [r]).length=L.length+1:=by simp
 obtain ⟨c,hc⟩ : ∃c,((List.range L.length).map λt=>e (eU (L.length+1) t))=c:=⟨_,rfl⟩
 have hcn : ∀t,t<L.length->nth c t=e (eU (L.length+1) t):=λt ht=>by rw [<- hc,aj (by simpa using ht)];simp
 have hel : ∀t,El (e (eU (L.length+1) t)):=λt=>by refine he.el _ ?_;rw [hlen];exact gz F _ t
 have hce : ∀k,k<L.length->El (nth c k):=λk hk=>by rw [hcn k hk];exact hel k
 obtain ⟨c1,c2⟩:=fF F hL hce L.length (Na _);refine ⟨e (eU (L.length+1) L.length),_,hel _,c2,λx hx=>?_⟩;rw [h2 x hx,fG F he (cH hLr F.zero x),qx F hL hce hx _ (Na _)];rw [hlen,dotN];have h3 : nth (aR (L ++ [r]) x) L.length=nth r x:=by rw [cI _ _ _ (by rw [hlen];omega)];congr 1;rw [aC (by rw [hlen];omega)];simp
 rw [h3];congr 1;refine dW _ λp hp=>⟨(hcn p hp).symm,?_⟩
 rw [cI _ _ _ (by rw [hlen];omega)];congr 1;rw [aC (by rw [hlen];omega),aC hp,P3]
end
def kF (p : Nat->Bool) (s n : Nat) : Lz:=((List.range' s n).filter p).map Int.ofNat
theorem jH (p : Nat->Bool) (s n : Nat) : kF p s (n+1)=if p s=true then (s : Int) :: kF p (s+1) n else kF p (s+1) n:=by unfold kF;rw [RB,PW];split <;> rfl
theorem nA {p q : Nat->Bool} {s n : Nat} (h : ∀j,s<=j->j<s+n->p j=q j) : kF p s n=kF q s n:=by unfold kF;rw [QD λj hj=>h j (List.mem_range'_1.1 hj).1 (List.mem_range'_1.1 hj).2]
theorem Ao {p : Nat->Bool} {s n : Nat} {x : Int} (h : x ∈ kF p s n) : (s : Int)<=x:=by unfold kF at h;obtain ⟨j,hj,rfl⟩:=List.mem_map.1 h;have:=(List.mem_range'_1.1 (List.mem_filter.1 hj).1).1;show (s : Int)<=(j : Int);omega
theorem nF (x : Int) (a b : Lz) : cmpL (x :: a) (x :: b)=cmpL a b:=by rw [cmpL,Nf (by omega),Nf (by omega)]
theorem rL {x : Int} {a l : Lz} (hl : l ≠ []) (h : ∀y ∈ l,x<y) : cmpL (x :: a) l = -1:=by
 cases l with
 | nil=>exact absurd rfl hl
 | cons y b=>rw [cmpL,Nd (h y (by simp))]
theorem sk {x : Int} {a l : Lz} (hl : l ≠ []) (h : ∀y ∈ l,x<y) : cmpL l (x :: a)=1:=by
 cases l with
 | nil=>exact absurd rfl hl
 | cons y b =>
  have:=h y (by simp)
  rw [cmpL,Nf (by omega),Nd this]
theorem lQ {p q p' q' : Nat->Bool} {i : Nat} (hp : ∀j,j ≠ i->p' j=p j) (hq : ∀j,j ≠ i->q' j=q j) (hpi : p i=true) (hqi : q i=true) (hpi' : p' i=false) (hqi' : q' i=false) : ∀n s,s<=i->i<s+n ->
  (kF p s n).length=(kF p' s n).length+1/\(kF q s n).length=(kF q' s n).length+1/\((kF p' s n).length=(kF q' s n).length->cmpL (kF p s n) (kF q s n)=cmpL (kF p' s n) (kF q' s n))
 | 0,s,h1,h2=>by omega
 | n+1,s,h1,h2=>by
  rw [jH p,jH q,jH p',jH q'];by_cases hs : s=i
  ·subst hs;have e1 : kF p' (s+1) n=kF p (s+1) n:=nA λj a _=>hp j (by omega);have e2 : kF q' (s+1) n=kF q (s+1) n:=nA λj a _=>hq j (by omega);rw [Nd hpi,Nd hqi,Nf (by rw [hpi'];decide),Nf (by rw [hqi'];decide),e1,e2];exact ⟨rfl,rfl,λ_=>nF _ _ _⟩
  ·obtain ⟨l1,l2,ih⟩:=lQ hp hq hpi hqi hpi' hqi' n (s+1) (by omega) (by omega);have lo : ∀ {r : Nat->Bool},∀y ∈ kF r (s+1) n,(s : Int)<y:=λy hy=>by have:=Ao hy;omega
   have ne : ∀ {l : Lz},0<l.length->l ≠ []:=λh e=>by rw [e] at h;simp at h
   rw [hp s hs,hq s hs];by_cases hps : p s=true
   ·rw [Nd hps,Nd hps];by_cases hqs : q s=true
    ·rw [Nd hqs,Nd hqs];simp only [NP,nF];exact ⟨by omega,by omega,λh=>ih (by omega)⟩
    ·rw [Nf hqs,Nf hqs];simp only [NP];refine ⟨by omega,l2,λh=>?_⟩;rw [rL (ne (by omega)) lo,rL (ne (by omega)) lo]
   ·rw [Nf hps,Nf hps];by_cases hqs : q s=true
    ·rw [Nd hqs,Nd hqs];simp only [NP];refine ⟨l1,by omega,λh=>?_⟩;rw [sk (ne (by omega)) lo,sk (ne (by omega)) lo]
    ·rw [Nf hqs,Nf hqs];exact ⟨l1,l2,ih⟩
theorem xE {x : Lz} {m i : Nat} (hl : x.length=m) (hi : i<m) (h : nth x i ≠ 0) : (bI x m i).length+1=fB x:=by
 rw [<- rM hl];have h1:=(lQ (p:=λj=>decide (nth x j ≠ 0)) (q:=λj=>decide (nth x j ≠ 0)) (p':=λj=>decide (nth x j ≠ 0) && decide ((j : Int) ≠ i)) (q':=λj=>decide (nth x j ≠ 0) && decide ((j : Int) ≠ i)) (i:=i)
  (λj hj=>by simp;omega) (λj hj=>by simp;omega) (by simpa using h) (by simpa using h) (by simp) (by simp) m 0 (by omega) (by omega)).1
 unfold kF at h1;rw [<- PN] at h1;exact h1.symm
theorem wi {l : Lz} : mw l=true ↔ ∀y ∈ l,y=0:=by
 unfold mw;rw [NW];constructor
 ·intro h y hy;simpa using h y hy
 ·intro h y hy;simpa using h y hy
end Go.Proofs.YthglbncgemdcbaaGreat
