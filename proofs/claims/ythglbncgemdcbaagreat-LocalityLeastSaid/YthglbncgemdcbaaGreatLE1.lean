import Derived.Test.YthglbncgemdcbaaGreatS32
namespace Go.Proofs.YthglbncgemdcbaaGreat
set_option linter.all false
set_option maxRecDepth 100000
set_option maxHeartbeats 4000000
open Go.RowKit Go.Proofs.Tryz
def Bl (P M : Int) (mod : Lz) (N : Int) (L : ZZ) (w : World) (e : Ending) (w' : World) : Prop :=
 SW w w'/\((aF P M mod N L ≠ 0/\e = .returned (.tuple #[.pointer none,.int .i64 (aF P M mod N L)])) \/
 (aF P M mod N L=0/\∃b,e = .returned (.tuple #[.pointer (some ⟨b,0,none⟩),.int .i64 0])/\ew w' b (af P M.toNat mod)))
theorem CN (P M : Int) (am : OA) (mn cm : Nat) (mod : Lz) (N : Int) (a : OA) (n c : Nat) (L : ZZ) (w : World) (hmod : Ints w am mn mod) (hi : br w a n L) :
  Calls prog 92 #[.agg #[.int .i64 P,.int .i64 M,.slice am mn cm,.int .i64 N,.slice a n c]] w (Bl P M mod N L w):=by
 go_enter func92,ntmps92;go_wp2_with fail;obtain ⟨W,hW⟩ : ∃W : World,W=w.alloc (.cells #[.int .i64 P,.int .i64 M,.slice am mn cm,.int .i64 N,.slice a n c] 27):=⟨_,rfl⟩
 rw [<- hW];have hbW : SW w W:=by rw [hW];exact an _ _
 have x0 : aN W w.heap.size [.int .i64 P,.int .i64 M,.slice am mn cm,.int .i64 N,.slice a n c]:=by rw [hW];exact R9 _ _ _ rfl
 have HX:=Z5 x0;clear hW x0;refine (dr P M am mn cm mod N a n c L W (hmod.ah hbW) (hi.ah hbW)).mono ?_;rintro e w1 ⟨rfl,hb1⟩;have hbw1:=RZ hbW hb1;by_cases hE : aF P M mod N L=0
 ·obtain ⟨hf,_⟩:=aG hE;have HE:=Z5 hE;have Hf:=Z5 hf;rw [hE];have x1:=HX.out.ah hb1;have c0:=x1.cell 0 rfl;have c1:=x1.cell 1 rfl;have c2:=x1.cell 2 rfl;have hm1:=(hmod.ah hbW).ah hb1;clear hE x1 hf;go_wp2_with fail;refine (ef P M am mn cm mod w1 hm1).mono ?_;rintro e w2 (⟨hB,rfl,hb2⟩ | ⟨hB,b,rfl,hG,hbl,hb2⟩)
  ·rw [Hf.out] at hB;cases hB
  ·clear hB;have hg:=hG.gf;go_wp2_with fail;go_ret2;exact ⟨RZ hbw1 hb2,.inr ⟨HE.out,b,rfl,hg⟩⟩
 ·have HE:=Z5 hE;have hE' : (aF P M mod N L != 0)=true:=by simpa using hE
  clear hE;go_wp2_with fail;go_ret2;exact ⟨hbw1,.inl ⟨HE.out,rfl⟩⟩
def oO (N : Int) (S : ZZ) : Int:=if S.all (dk N) then 0 else 6
theorem Jj (P M : Int) (am : OA) (mn cm : Nat) (N : Int) (a : OA) (n c : Nat) (sa : OA) (ns cs : Nat) (S : ZZ) (w : World) (hi : br w sa ns S) :
  Calls prog 93 #[.agg #[.int .i64 P,.int .i64 M,.slice am mn cm,.int .i64 N,.slice a n c],.slice sa ns cs] w λe w'=>e = .returned (.int .i64 (oO N S))/\SW w w':=by
 have Hlen:=Z5 hi.len;have hpl:=hi.pl;have hmax:=hi.max;unfold maxLen at hmax;go_enter func93,ntmps93;go_wp2_with fail;obtain ⟨W,hW⟩ : ∃W : World,W=w.alloc (.cells #[.int .i64 P,.int .i64 M,.slice am mn cm,.int .i64 N,.slice a n c] 27):=⟨_,rfl⟩
 rw [<- hW];have hbW : SW w W:=by rw [hW];exact an _ _
 have c3 : W.cell? ⟨w.heap.size,3,none⟩=some (.int .i64 N):=by rw [hW];exact aI _ _ _ rfl 3
 have hiW:=hi.ah hbW;clear hW;go_loop [11] (λiv=>∃k : Nat,k<=ns/\iv = .int .i64 k/\Hid ((S.take k).all (dk N)=true)) (λiv=>ns - (intOf iv).toNat);case atStart=>exact ⟨0,Ni _,rfl,by show _=_;simp⟩
 case round =>
  obtain ⟨k,hk,rfl,hall⟩:=hrel
  by_cases hlt : k<ns
  ·obtain ⟨ra,rn,rc,hcell,hrow⟩:=hiW.cell k hlt
   have hkS : k<S.length:=by rw [Hlen.out];exact hlt
   have Hrl:=Z5 hrow.len
   have hpr:=hrow.pl
   have hmr:=hrow.max
   unfold maxLen at hmr
   have Hng : Hid (ai S k=S[k]):=aC hkS
   generalize ai S k=l at *
   go_wp2_with fail
   go_loop [17] (λiv=>∃j : Nat,j<=rn/\iv = .int .i64 j/\Hid (nM N l j=true)) (λiv=>rn - (intOf iv).toNat)
   case atStart=>exact ⟨0,Ni _,rfl,by show _=_;simp [nM]⟩
   case round =>
    obtain ⟨j,hj,rfl,hok⟩:=hrel
    by_cases hlt2 : j<rn
    ·have cj:=hrow.cell j hlt2
     have hbad : fb N l j=false->oO N S=6:=λhb=>by
      rw [oO,Nf];have h1 : dk N S[k]=false:=by rw [<- Hng.out];exact sY (by rw [Hrl.out];exact hlt2) hb
      rw [dZ hkS h1];simp
     have Hbad:=Z5 hbad
     clear hbad
     by_cases h0 : 0<=nth l j
     ·by_cases h1 : nth l j<N
      ·have d1 : decide (nth l j<0)=false:=by simp;omega
       have d2 : decide (N<=nth l j)=false:=by simp;omega
       by_cases hj0 : j=0
       ·subst hj0
        have Hgood : Hid (fb N l 0=true):=by show _=_;unfold fb;simp [h0,h1]
        rw [Qv] at cj
        go_wp2_with fail
        go_round
        case rel=>exact ⟨1,by omega,by go_num,fH hok.out Hgood.out⟩
        case measure=>simp [intOf] <;> omega
       ·have cp:=hrow.cell (j - 1) (by omega)
        have e1 : ((j : Int) - 1).toNat=j - 1:=by omega
        have d3 : decide (0<(j : Int))=true:=by simp;omega
        have d4 : (0 : Int)<=(j : Int) - 1:=by omega
        have d5 : (1 : Int)<=(j : Int):=by omega
        have d6 : (j : Int) - 1<rn:=by omega
        by_cases h2 : nth l (j - 1)<nth l j
        ·have Hgood : Hid (fb N l j=true):=by show _=_;unfold fb;simp [h0,h1,h2]
         have h2' : decide (nth l j<=nth l (j - 1))=false:=by simp;omega
         clear hj0 e1
         go_wp2_with fail
         go_round
         case rel=>exact ⟨j+1,by omega,by go_num,fH hok.out Hgood.out⟩
         case measure=>simp [intOf] <;> omega
        ·have Hb : Hid (oO N S=6):=Hbad.out (by unfold fb;simp [h2,hj0])
         have h2' : decide (nth l j<=nth l (j - 1))=true:=by simp;omega
         clear hj0 e1
         go_wp2_with fail
         go_ret
         exact ⟨aP Hb.out.symm,hbW⟩
      ·have Hb : Hid (oO N S=6):=Hbad.out (by unfold fb;simp [h1])
       have d1 : decide (nth l j<0)=false:=by simp;omega
       have d2 : decide (N<=nth l j)=true:=by simp;omega
       go_wp2_with fail
       go_ret
       exact ⟨aP Hb.out.symm,hbW⟩
     ·have Hb : Hid (oO N S=6):=Hbad.out (by unfold fb;simp [h0])
      have d1 : decide (nth l j<0)=true:=by simp;omega
      go_wp2_with fail
      go_ret
      exact ⟨aP Hb.out.symm,hbW⟩
    ·obtain rfl : j=rn:=by omega
     have Hg : Hid (dk N S[k]=true):=by show _=_;rw [<- Hng.out,dk,Hrl.out];exact hok.out
     go_wp2_with fail
     go_round
     case rel=>exact ⟨k+1,by omega,by go_num,ed hkS hall.out Hg.out⟩
     case measure=>simp [intOf] <;> omega
  ·obtain rfl : k=ns:=by omega
   have Hg : Hid (oO N S=0):=by have:=hall.out;rw [No (by rw [Hlen.out];exact Na _)] at this;show _=_;rw [oO,Nd this]
   go_wp2_with fail
   go_ret
   exact ⟨aP Hg.out.symm,hbW⟩
theorem Dg (P M : Int) (am : OA) (mn cm : Nat) (N : Int) (a : OA) (n c : Nat) (L : ZZ) (i : Nat) (w : World) (hi : br w a n L) (hL : ∀r ∈ L,i<r.length) (hn : n<=1000000) :
  Calls prog 149 #[.agg #[.int .i64 P,.int .i64 M,.slice am mn cm,.int .i64 N,.slice a n c],.int .i64 i] w (b8 w (aR L i)):=by
 have Hlen:=Z5 hi.len;have hpl:=hi.pl;have HL:=Z5 hL;clear hL;go_enter func149,ntmps149;go_wp2_with (at_make;refine bS rfl _ _ 22 3 rfl (.int .i64 0) 8 underlying22 aU rfl n rfl rfl (by omega) (by unfold maxLen;omega) ?_;intro a1 w1 hown hbel hge hlt;have c4 : w1.cell? ⟨w.heap.size,4,none⟩=some (.slice a n c):=aB hbel (aI _ _ _ rfl 4));have hbw : SW w w1:=RZ (an w _) hbel;have hs1 : w.heap.size+1<=ablk a1:=by simpa using hge
 have hown1 : w1.ownsRow w.heap.size 3 1 (.slice a1 n n) n (List.replicate n (.int .i64 0)):=aX hown (by simp);clear hown hbel hge;go_loopw [15] (λiv wr=>∃k : Nat,k<=n/\iv = .int .i64 k /\
   wr.ownsRow w.heap.size 3 1 (.slice a1 n n) n ((dC ((aR L i).take k) k n).map (Value.int .i64))/\SW w wr)
  (λi _=>n - (intOf i).toNat)
 case atStart=>exact ⟨0,Ni _,rfl,by simpa [dC] using hown1,hbw⟩
 case round =>
  obtain ⟨k,hk,rfl,hown,hbel⟩:=hrel
  obtain ⟨hints,hmine⟩:=R6 hown
  have hpl1:=hints.pl
  by_cases hlt : k<n
  ·obtain ⟨ra,rn,rc,hcell,hrow⟩:=(hi.ah hbel).cell k hlt
   have hkL : k<L.length:=by rw [Hlen.out];exact hlt
   have hri : i<rn:=by rw [<- hrow.len,aC hkL];exact HL.out _ (NO hkL)
   have ci:=hrow.cell i hri
   have hpr:=hrow.pl
   have hf:=(hmine (by omega)).2 k hlt
   have hc2:=hints.cell k hlt
   have hB:=(hmine (by omega)).1
   have Hv:=Z5 (cI L i k hkL)
   go_wp2_with fail
   go_roundw
   case rel =>
    refine ⟨k+1,by omega,by go_num,?_,hbel.setCell hB _⟩
    have h:=bK hown k hlt (.int .i64 (nth (ai L k) i))
    rw [<- NF,fW _ _ _ _ (by rw [NG,db];omega) hlt] at h
    rw [Nj (by rw [db];omega),<- aj,Hv.out]
    exact h
   case measure=>simp [intOf] <;> omega
  ·obtain rfl : k=n:=by omega
   have hl : (aR L i).length=k:=by rw [db];exact Hlen.out
   rw [gS,No (by omega)] at hown
   have Hl:=Z5 hl
   clear hl
   go_wp2_with fail
   go_ret
   exact ⟨a1,k,by rw [Hl.out];rfl,by rw [Hl.out];exact hown,hbel⟩
theorem y5 (x : Int) (w : World) : Calls prog 200 #[.int .i64 x] w λe w'=>e = .returned (.bool (x != 0))/\w=w':=by go_enter func200,ntmps200;go_wp2;go_ret;exact ⟨rfl,rfl⟩
theorem BK (a : OA) (n c : Nat) (l : Lz) (w : World) (hi : Ints w a n l) :
  Calls prog 111 #[.slice a n c,.func (.func 200) #[] #[]] w λe w'=>e = .returned (.int .i64 (oQ l))/\w=w':=by
 have Hlen:=Z5 hi.len;have hpl:=hi.pl;have hmax:=hi.max;unfold maxLen at hmax;go_enter func111,ntmps111;go_wp2_with fail;go_loop [8] (λiv=>∃k : Nat,k<=n/\iv = .int .i64 k/\Hid (∀j,j<k->nth l j=0)) (λiv=>n - (intOf iv).toNat);case atStart=>exact ⟨0,Ni _,rfl,λj hj=>by omega⟩
 case round =>
  obtain ⟨k,hk,rfl,hall⟩:=hrel
  by_cases hlt : k<n
  ·have ck:=hi.cell k hlt
   by_cases hz : nth l k=0
   ·have hz' : (nth l k != 0)=false:=by simpa using hz
    have Hz:=Z5 hz
    clear hz
    go_wp2_with fail
    refine (y5 _ _).mono ?_
    rintro e w' ⟨rfl,rfl⟩
    go_wp2_with fail
    go_round
    case rel=>exact ⟨k+1,by omega,by go_num,λj hj=>by
     rcases N3 j k with h | h
     ·exact hall.out j h
     ·rw [show j=k by omega];exact Hz.out⟩
    case measure=>simp [intOf] <;> omega
   ·have hz' : (nth l k != 0)=true:=by simpa using hz
    have Hf : Hid (oQ l=k):=by show _=_;have:=vU l k (by rw [Hlen.out];exact hlt) hall.out hz;rw [oQ,this,Nd (by rw [Hlen.out];exact hlt)]
    clear hz
    go_wp2_with fail
    refine (y5 _ _).mono ?_
    rintro e w' ⟨rfl,rfl⟩
    go_wp2_with fail
    go_ret
    exact ⟨aP Hf.out.symm,rfl⟩
  ·obtain rfl : k=n:=by omega
   have Hf : Hid (oQ l = -1):=by show _=_;have:=rX l (by rw [Hlen.out];exact hall.out);rw [oQ,this,Nf (by omega)]
   go_wp2_with fail
   go_ret
   exact ⟨aP Hf.out.symm,rfl⟩
theorem JJ {w w0 : World} {b : Nat} {G : dn} (bb : Nat) (ar : OA) (cr : Nat) (R : Z4) (ap : OA) (cp : Nat) (s : BS) (av : OA) (cv n : Nat) (v : Lz)
  (h : ew w0 b G) (hb : SW w0 w) (hB : rJ w w0.heap.size bb b ar cr R ap cp s) (hs : s.Ok G.El n) (hv : w.ownsRow w0.heap.size 3 1 (.slice av n cv) n (v.map (Value.int .i64)))
  (hav : av ≠ none->¬ vo bb ar R ap (ablk av)) (hve : G.Ec v) (hn : n<=1000000) (hk : s.rows.length<=1000000) :
  Calls prog 148 #[.pointer (some ⟨bb,0,none⟩),.slice av n cv] w (CC w0 bb b ar R ap av G.ops s v w):=by
 have hvl : v.length=n:=by simpa using kS hv
 have hpv:=(R6 hv).1.pl;have hcl:=SA h;have hred:=mO hcl hs.rws hs.plc ⟨hvl,hve⟩;have Hred:=Z5 hred;have Hvl:=Z5 hvl;have Hs:=Z5 hs;have Hve:=Z5 hve;have c1:=hB.c1;have hplr:=hB.om.pl;clear hred hvl hs hve;go_enter func148,ntmps148;go_wp2_with fail;obtain ⟨kk,hkk⟩ : ∃kk,s.rows.length=kk:=⟨_,rfl⟩
 have Hkk:=Z5 hkk;rw [hkk] at hk hplr c1;rw [hkk];clear hkk;go_loopw [18] (λiv wr=>∃k : Nat,k<=kk/\iv = .int .i64 k/\wr.ownsRow w0.heap.size 3 1 (.slice av n cv) n ((redTo G.ops s.rows s.place v k).map (Value.int .i64))/\dp av w wr) (λiv _=>kk - (intOf iv).toNat);case atStart=>exact ⟨0,Ni _,rfl,hv,Sq _ _⟩
 case round =>
  obtain ⟨k,hkk2,rfl,hown,honly⟩:=hrel
  have hBr:=hB.only honly hav
  by_cases hlt : k<kk
  ·have hkr : k<s.rows.length:=by rw [Hkk.out];exact hlt
   have e0:=hBr.c0
   have e2:=hBr.c2
   have er:=hBr.om.cell hkr
   have ir:=hBr.om.ints hkr
   have hrow:=Hs.out.rws.row hkr
   have hplc:=Hs.out.plc k hkr
   rw [hrow.1] at er ir
   obtain ⟨ip,mp⟩:=R6 hBr.pl
   have ep:=ip.cell k hkr
   have hpp:=ip.pl
   rw [Hkk.out] at e2 hpp
   obtain ⟨pn,hpn⟩ : ∃pn : Nat,nth s.place k=pn:=⟨(nth s.place k).toNat,by omega⟩
   rw [hpn] at ep hplc
   have hpnn : pn<n:=by omega
   have hrd:=Hred.out k (by omega)
   have hrd1:=Hred.out (k+1) (by omega)
   have hstep : redTo G.ops s.rows s.place v (k+1)=eK G.ops (redTo G.ops s.rows s.place v k) pn (ai s.rows k):=by rw [redTo,hpn]
   have Hstep:=Z5 hstep
   have Hrow:=Z5 hrow
   have Hpn:=Z5 hpn
   clear hstep hpn
   obtain ⟨u,hu⟩ : ∃u,redTo G.ops s.rows s.place v k=u:=⟨_,rfl⟩
   rw [hu] at hown hrd
   have Hu:=Z5 hu
   obtain ⟨iu,mu⟩:=R6 hown
   have eu:=iu.cell pn hpnn
   have hpu:=iu.pl
   have Hrd:=Z5 hrd
   clear hu hrow hrd hrd1
   by_cases hz : nth u pn=0
   ·have hz' : (nth u pn != 0)=false:=by simpa using hz
    have Hn : Hid (redTo G.ops s.rows s.place v (k+1)=u):=by show _=_;rw [Hstep.out,Hu.out,eK,Nb,Nd hz]
    clear hz
    go_wp2_with fail
    go_roundw
    case rel=>exact ⟨k+1,by omega,by go_num,by rw [Hn.out];exact hown,honly⟩
    case measure=>simp [intOf] <;> omega
   ·have hz' : (nth u pn != 0)=true:=by simpa using hz
    have Hn : Hid (redTo G.ops s.rows s.place v (k+1)=ez G.ops u (nth u pn) (ai s.rows k)):=by show _=_;rw [Hstep.out,Hu.out,eK,Nb,Nf hz]
    have hxe : G.El (nth u pn):=Hrd.out.2 _ (aH (by rw [Hrd.out.1];exact hpnn))
    have hSl : (ez G.ops u (nth u pn) (ai s.rows k)).length=u.length:=fZ _ _ _ _ (by rw [Hrow.out.1,Hrd.out.1])
    have hSn:=λi hi=>ga G.ops u (nth u pn) (ai s.rows k) i (by rw [Hrow.out.1,Hrd.out.1]) hi
    have HSl:=Z5 hSl
    have HSn:=Z5 hSn
    clear hz hSl hSn
    have hplr2:=ir.pl
    go_wp2_with fail
    generalize nth u pn=x at *
    generalize ez G.ops u x (ai s.rows k)=S at *
    go_loopw [37] (λiv wx=>∃j : Nat,j<=n/\iv = .int .i64 j/\wx.ownsRow w0.heap.size 3 1 (.slice av n cv) n ((jk S u j).map (Value.int .i64))/\dp av w wx) (λiv _=>n - (intOf iv).toNat)
    case atStart=>exact ⟨0,Ni _,rfl,by rw [gR];exact hown,honly⟩
    case round =>
     obtain ⟨j,hj,rfl,hown2,honly2⟩:=hrel
     have hBx:=hB.only honly2 hav
     have ix:=hBx.om.ints hkr
     rw [Hrow.out.1] at ix
     by_cases hjn : j<n
     ·have cj:=ix.cell j hjn
      have f0:=hBx.c0
      obtain ⟨im,mm⟩:=R6 hown2
      have cm:=im.cell j hjn
      have fm:=(mm (by omega)).2 j hjn
      have hju : j<u.length:=by rw [Hrd.out.1];exact hjn
      have hmix:=fI S u j j HSl.out (by omega)
      rw [Nf (by omega)] at hmix
      rw [hmix] at cm
      have hset:=gD S u j HSl.out hju
      rw [HSn.out j hju] at hset
      have Hset:=Z5 hset
      have ely : G.El (nth (ai s.rows k) j):=Hrow.out.2 _ (aH (by rw [Hrow.out.1];exact hjn))
      have elv : G.El (nth u j):=Hrd.out.2 _ (aH hju)
      have elm : ∀x y,G.El (G.mul x y):=λx y=>SE h x y
      have hbx : SW w0 wr:=N2 hb (honly2.below (λha=>(aY hv ha).1) hb.size)
      have hGr : ew wr b G:=h.ah hbx
      have HG : Hid (ew wr.drew b G/\∀n,ew (wr.drewN n) b G):=⟨hGr.ah (Nc _ _).drew,λn=>hGr.drewN n⟩
      clear hset hmix
      go_wp2_with fail
      go_region_law ((first
       | (go_simp;go_at_call 57;((with_reducible refine (qF x (nth (ai s.rows k) j) HG.out.1 hxe ely).mono ?_);rintro e w4 ⟨m4,rfl,rfl⟩))
       | (go_simp;go_at_call 57;((with_reducible refine (qF x (nth (ai s.rows k) j) (HG.out.2 _) hxe ely).mono ?_);rintro e w4 ⟨m4,rfl,rfl⟩))
       | (go_simp;go_at_call 199;((with_reducible refine (Lj (nth u j) (G.mul x (nth (ai s.rows k) j)) (HG.out.2 _) elv (elm _ _)).mono ?_);rintro e w4 ⟨m5,rfl,rfl⟩))))
      all_goals (
       go_wp2_with fail
       go_roundw
       case rel =>
        have hdr : bf wr (wr.drewN (1+m4+m5)):=⟨_,rfl⟩
        refine ⟨j+1,by omega,by go_num,?_,honly2.trans ((Sm hdr).trans (St _ j _ (by intro e;have:=hpv (by omega);rw [e] at this;cases this)))⟩
        have h1:=bK (w:=wr.drewN (1+m4+m5)) hown2 j hjn (.int .i64 (G.sub (nth u j) (G.mul x (nth (ai s.rows k) j))))
        rw [<- NF,show G.sub (nth u j) (G.mul x (nth (ai s.rows k) j))=G.ops.add (nth u j) (G.ops.neg (G.ops.mul x (nth (ai s.rows k) j))) from rfl,Hset.out] at h1
        exact h1
       case measure=>simp [intOf] <;> omega)
     ·obtain rfl : j=n:=by omega
      rw [iW S u j (by rw [HSl.out,Hrd.out.1]) Hrd.out.1] at hown2
      go_wp2_with fail
      go_roundw
      case rel=>exact ⟨k+1,by omega,by go_num,by rw [Hn.out];exact hown2,honly2⟩
      case measure=>simp [intOf] <;> omega
  ·obtain rfl : k=kk:=by omega
   have hrd:=Hred.out k (by rw [Hkk.out];exact Na _)
   have hurd : redTo G.ops s.rows s.place v k=s.red G.ops v:=by rw [BS.red,Hkk.out]
   rw [hurd] at hown hrd
   obtain ⟨iu,mu⟩:=R6 hown
   have Hrd:=Z5 hrd
   clear hurd hrd
   go_wp2_with fail
   refine (BK _ _ _ _ _ iu).mono ?_
   rintro e w' ⟨rfl,rfl⟩
   by_cases hf : fnz (s.red G.ops v)<(s.red G.ops v).length
   ·have hfv : oQ (s.red G.ops v)=fnz (s.red G.ops v):=by rw [oQ,Nd hf]
    have hfn:=pz _ hf
    have Ht : Hid (s.eF G.ops v=true):=by show _=_;simpa [BS.eF] using hf
    have HN : Hid (s.next G.ops v=⟨s.rows ++ [(s.red G.ops v).map (G.mul (G.inv (nth (s.red G.ops v) (fnz (s.red G.ops v)))))],s.place ++ [(fnz (s.red G.ops v) : Int)]⟩):=by show _=_;rw [BS.next,Nd Ht.out];rfl
    rw [hfv]
    obtain ⟨u,hu⟩ : ∃u,s.red G.ops v=u:=⟨_,rfl⟩
    rw [hu] at hown Hrd hf hfn iu HN
    rw [hu]
    clear hu hfv
    obtain ⟨f,hff⟩ : ∃f,fnz u=f:=⟨_,rfl⟩
    rw [hff] at hf hfn HN
    rw [hff]
    have hfn' : f<n:=by rw [<- Hrd.out.1];exact hf
    have e0:=hBr.c0
    have eu:=iu.cell f hfn'
    have hpu:=iu.pl
    have elf : G.El (nth u f):=Hrd.out.2 _ (aH hf)
    have hbx : SW w0 wr:=N2 hb (honly.below (λha=>(aY hv ha).1) hb.size)
    have hGr : ew wr b G:=h.ah hbx
    have HG : Hid (ew wr.drew b G/\∀n,ew (wr.drewN n) b G):=⟨hGr.ah (Nc _ _).drew,λn=>hGr.drewN n⟩
    have Hfn:=Z5 hfn
    have Hf:=Z5 hf
    clear hff hfn hf
    go_upto_region 15 with fail
    go_cut [11] (λdv wx=>dv = .int .i64 (G.inv (nth u f))/\bf wr wx)
    case first =>
     go_region_held3 (λw'=>w'.cell? ⟨bb,0,none⟩=some (.pointer (some ⟨b,0,none⟩))/\w'.cell? ⟨ablk av,aK av+f,none⟩=some (.int .i64 (nth u f)))
      (exact ⟨e0,eu⟩)
      (first
      | (go_at_call 201;((with_reducible refine (Jt _ HG.out.1 elf Hfn.out).mono ?_);rintro e w4 ⟨m4,rfl,rfl⟩)))
     all_goals (
      go_step;go_step
      go_meet
      exact ⟨rfl,⟨_,rfl⟩⟩)
    obtain ⟨rfl,hdr⟩:=hcut
    generalize wc=V at *
    have hBV : rJ V w0.heap.size bb b ar cr R ap cp s:=hBr.ah hdr.below
    have hownV:=bd hown hdr.below
    have hbV : SW w0 V:=hdr.zU hbx
    have honV : dp av w V:=honly.trans (Sm hdr)
    clear hBr hown hbx hGr HG e0 eu iu mu hdr honly
    obtain ⟨iu,mu⟩:=R6 hownV
    have HGV : Hid (ew V.drew b G/\∀n,ew (V.drewN n) b G):=⟨(h.ah hbV).ah (Nc _ _).drew,λn=>(h.ah hbV).drewN n⟩
    have hiel : G.El (G.inv (nth u f)):=SV h _
    have e0:=hBV.c0
    have e1:=hBV.c1
    have f1:=hBV.fr 1
    have hS : ∀W,SW V W->W.cell? ⟨bb,0,none⟩=some (.pointer (some ⟨b,0,none⟩))/\W.cell? ⟨bb,1,none⟩=some (.slice ar s.rows.length cr)/\W.frozen? ⟨bb,1,none⟩=false/\SW V W:=by intro W hW;have hBW:=hBV.ah hW;exact ⟨hBW.c0,hBW.c1,hBW.fr 1,hW⟩
    have HS:=Z5 hS
    have haptb : gE ar bb:=by
     by_cases ha : ar=none
     ·exact .inl ha
     ·exact .inr λe=>hBV.d1 (.inl ⟨ha,e.symm⟩)
    have hR : ∀W,SW V W->W.ownsRow w0.heap.size 22 1 (.slice ar k cr) k (List.zipWith l5 R s.rows):=λW hW=>by have:=(hBV.om.ah hW).own;rwa [Hkk.out] at this
    have HR:=Z5 hR
    obtain ⟨N,hN⟩ : ∃N,u.map (G.mul (G.inv (nth u f)))=N:=⟨_,rfl⟩
    have hsc : Calls prog 66 #[.pointer (some ⟨b,0,none⟩),.int .i64 (G.inv (nth u f)),.slice av n cv] V.drew (b8 V.drew N):=by rw [<- hN];exact xj (G.inv (nth u f)) _ _ _ u HGV.out.1 hiel (iu.ah (Nc _ _).drew) Hrd.out.2 hn
    have Hsc:=Z5 hsc
    have HNe:=Z5 hN
    rw [hN] at HN
    clear hN hsc
    clear hS hR
    go_upto_region 16 with fail
    go_cut [] (λwx=>∃ar' cr' R',wx.cell? ⟨bb,1,none⟩=some (.slice ar' (k+1) cr')/\aT wx w0.heap.size ar' (k+1) cr' R' (s.rows ++ [N]) /\
     aE V wx (λx=>x=bb\/cU ar R x) (λx=>x=bb\/cU ar' R' x)/\¬ cU ar' R' bb /\
     (∀i v,i ≠ 1->V.cell? ⟨bb,i,none⟩=some v->wx.cell? ⟨bb,i,none⟩=some v)/\∀i,wx.frozen? ⟨bb,i,none⟩=false)
    case first =>
     rw [Hkk.out] at e1 HS
     go_region_law ((first
      | (go_simp;go_at_call 66;((with_reducible refine Hsc.out.mono ?_);rintro e w4 ⟨a4,c4,rfl,hown4,hb4⟩;obtain ⟨q0,q1,q2,q5⟩:=HS.out w4 (RZ (Nc _ _).drew hb4);have q6 : bb<w4.heap.size:=Nt w4 _ q0))
      | (refine dE (by rfl) (.tmp 83) (.tmp 91) 25 22 (by rfl) (.slice none 0 0) 24 underlying25 df (by rfl) w0.heap.size ar k cr (List.zipWith l5 R s.rows) (by rfl) (HR.out _ (RZ q5 (an _ _))) (some ⟨w4.heap.size,0,none⟩) 1 1 [.slice a4 N.length c4] (by rfl) (λ_=>rfl) rfl (by intro j hj;obtain rfl : j=0:=(by omega);exact dj _ _ _ rfl) (by intro y hy;simp at hy;subst hy;rfl) (by omega) (by unfold maxLen;omega) (by have e1:=hbV.size;have e2:=Om q5;simp;omega) ?_;intro a5 c5 w5 hown5 hgr5 hap5;have p1:=bT hgr5 (bu q1 _) haptb;have p2 : w5.frozen? ⟨bb,1,none⟩=false:=(N1 (hgr5.block bb (Nt _ _ (bu q1 _)) (λe=>haptb.own k cr e.symm))).trans (dX (Nt _ _ q1) q2 _))))
     all_goals (
      go_wp2_with fail
      go_meet
      exact hBV.JC Hkk.out hbV.size (RZ (Nc _ _).drew hb4) hown4 hown5 hgr5 hap5 ⟨_,p1⟩)
    obtain ⟨ar',cr',R',y1,hOX,hMX,hdX,hcX,hfX⟩:=hcut
    generalize wc=X at *
    have y0:=hcX 0 _ (by omega) e0
    have y2:=hcX 2 _ (by omega) hBV.c2
    have yf:=hfX 2
    have hnI : ap ≠ none->¬ (ablk ap=bb\/cU ar R (ablk ap)):=λh0 hI=>by
     rcases hI with h1 | h1
     ·rcases hBV.d2 with h2 | h2
      ·exact h0 h2
      ·exact h2 h1
     ·exact hBV.d3 h0 h1
    have hpX:=hMX.own hBV.pl hnI
    have hd3 : ap ≠ none->¬ cU ar' R' (ablk ap):=λh0 hI=>hMX.not (aY hBV.pl h0).2 (hnI h0) (.inr hI)
    rw [Hkk.out] at y2 hpX
    have hbX : SW w0 X:=hbV.trans (hMX.below (λx hx=>(hBV.lt x (by rcases hx with h1 | h1;exact .inl h1;exact .inr (.inl h1))).1) hbV.size)
    have hz : bb<X.heap.size:=Nt X _ y0
    have HfX:=Z5 hfX
    have Hd3:=Z5 hd3
    have HdX:=Z5 hdX
    have hd2:=hBV.d2
    have hbB:=hBV.bB
    have hcn:=ba X (.int .i64 f) 3
    clear hcX hfX hd3 hdX e0 e1 f1
    go_wp2_with (at_builtin;refine aO rfl _ _ 22 3 rfl (.int .i64 0) 8 underlying22 aU rfl w0.heap.size ap k cp _ rfl (hpX.alloc _) ⟨X.heap.size,0,none⟩ 1 (.int .i64 f) rfl hcn rfl (by omega) (by unfold maxLen;omega) (by have e1:=hbX.size;simp;omega) ?_;intro a6 c6 w6 hown6 hgr6 hap6;have p1:=bT hgr6 (bu y2 _) hd2;have p2 : w6.frozen? ⟨bb,2,none⟩=false:=(N1 (hgr6.block bb (Nt _ _ (bu y2 _)) (λe=>hd2.own k cp e.symm))).trans (dX hz yf _))
    have hP:=rJ.JT (w6:=w6) hbB y0 y1 ⟨_,y2⟩ HfX.out hOX hpX HdX.out hd2 Hd3.out hown6 hgr6 hap6
    have HP:=Z5 hP
    clear hP
    go_ret
    refine ⟨ar',cr',R',a6,c6,aZ Ht.out.symm,by rw [HN.out];exact HP.out.1,?_⟩
    refine Sx (w':=V) (I':=λx=>vo bb ar R ap x\/(av ≠ none/\x=ablk av)) ?_ (Sx (w':=X) (I':=vo bb ar' R' ap) ?_ HP.out.2)
    ·exact ⟨honV.os,honV.tape,honV.output,honV.size,λx hx hI=>honV.block x hx λh2=>hI (.inr h2),λx hx=>.inl hx⟩
    ·refine ⟨hMX.os,hMX.tape,hMX.output,hMX.size,λx hx hI=>hMX.block x hx λh2=>hI (.inl (by rcases h2 with h3 | h3;exact .inl h3;exact .inr (.inl h3))),λx hx=>?_⟩
     rcases hx with h1 | h1 | h1
     ·exact .inl (.inl (.inl h1))
     ·rcases hMX.grow x (.inr h1) with h2 | h2
      ·exact .inl (.inl (by rcases h2 with h3 | h3;exact .inl h3;exact .inr (.inl h3)))
      ·exact .inr h2
     ·exact .inl (.inl (.inr (.inr h1)))
   ·have hfv : oQ (s.red G.ops v) = -1:=by rw [oQ,Nf hf]
    rw [hfv]
    have Ht : Hid (s.eF G.ops v=false):=by show _=_;simp [BS.eF];omega
    have HN : Hid (s.next G.ops v=s):=by show _=_;rw [BS.next,Nf (by rw [Ht.out];simp)]
    clear hf hfv
    go_wp2_with fail
    go_ret
    refine ⟨ar,cr,R,ap,cp,aZ Ht.out.symm,by rw [HN.out];exact hBr,?_⟩
    exact ⟨honly.os,honly.tape,honly.output,honly.size,λx hx hI=>honly.block x hx λh2=>hI (.inr h2),λx hx=>.inl (.inl hx)⟩
theorem Dv {w : World} {b : Nat} {G : dn} (P M : Int) (am : OA) (mn cm : Nat) (N : Int) (a : OA) (n c : Nat) (L : ZZ) (m : Nat) (ao : OA) (no co : Nat) (Q : Lz)
  (h : ew w b G) (hi : br w a n L) (hR : bp G.El m L) (hq : Ints w ao no Q) (hQ : ∀k,k<no->0<=nth Q k/\nth Q k<m) (hn : n<=1000000) (hno : no<=1000000) :
  Calls prog 94 #[.pointer (some ⟨b,0,none⟩),.agg #[.int .i64 P,.int .i64 M,.slice am mn cm,.int .i64 N,.slice a n c],.slice ao no co] w (b8 w (kC G.ops L Q)):=by
 have Hlen:=Z5 hi.len;have HR:=Z5 hR;have HQ:=Z5 hQ;have Hql:=Z5 hq.len;have hplq:=hq.pl;have hcl:=Z5 (SA h);clear hR hQ;go_enter func94,ntmps94;go_wp2_with fail;obtain ⟨W,hW⟩ : ∃W : World,W=w.alloc (.cells #[.int .i64 P,.int .i64 M,.slice am mn cm,.int .i64 N,.slice a n c] 27):=⟨_,rfl⟩
 rw [<- hW];have hbW : SW w W:=by rw [hW];exact an _ _
 have x0 : aN W w.heap.size [.int .i64 P,.int .i64 M,.slice am mn cm,.int .i64 N,.slice a n c]:=by rw [hW];exact R9 _ _ _ rfl
 have hsW : w.heap.size+1=W.heap.size:=by rw [hW];simp
 rw [hsW];have HX:=Z5 x0;have HsW:=Z5 hsW;have hGW:=h.ah hbW;have hiW:=hi.ah hbW;have hqW:=hq.ah hbW;clear hW x0 hsW;obtain ⟨V,hV⟩ : ∃V : World,V=W.alloc (.cells #[.pointer (some ⟨b,0,none⟩),.slice none 0 0,.slice none 0 0] 164):=⟨_,rfl⟩
 rw [<- hV];have hbV : SW W V:=by rw [hV];exact an _ _
 have hB0 : rJ V W.heap.size W.heap.size b none 0 [] none 0 ⟨[],[]⟩:=rJ.start (Na _) (by rw [hV];exact R9 _ _ _ rfl);clear hV;go_loopw [8,16] (λqv iv wr=>∃(k : Nat) (aq : OA) (cq : Nat) (out : Lz) (s : BS) (ar : OA) (cr : Nat) (R : Z4) (ap : OA) (cp : Nat),k<=no/\iv = .int .i64 k/\qv = .slice aq out.length cq /\
   Hid (grTo G.ops L Q k=(s,out))/\rJ wr W.heap.size W.heap.size b ar cr R ap cp s/\wr.ownsRow W.heap.size 3 1 (.slice aq out.length cq) out.length (out.map (Value.int .i64))/\Hid (aq ≠ none->¬ vo W.heap.size ar R ap (ablk aq)) /\
   SW W wr/\Hid (s.Ok G.El n)/\s.rows.length<=k/\out.length<=k)
  (λ_ iv _=>no - (intOf iv).toNat)
 case atStart=>exact ⟨0,none,0,[],⟨[],[]⟩,none,0,[],none,0,Ni _,rfl,rfl,rfl,hB0,bV,λh0=>absurd rfl h0,hbV,⟨λr hr=>by simp at hr,rfl,λi hi=>by simp at hi⟩,Ni _,Ni _⟩
 case round =>
  obtain ⟨k,aq,cq,out,s,ar,cr,R,ap,cp,hk,rfl,rfl,hst,hBr,hop,hdq,hbr,hok,hsk,hok2⟩:=hrel
  generalize wr=U at *
  by_cases hlt : k<no
  ·have cq1:=(hqW.ah hbr).cell k hlt
   have hQk:=HQ.out k hlt
   obtain ⟨i,hik⟩ : ∃i : Nat,nth Q k=i:=⟨(nth Q k).toNat,by omega⟩
   rw [hik] at cq1 hQk
   have him : i<m:=by omega
   have xU:=HX.out.ah hbr
   have b0:=xU.cell 0 rfl
   have b1:=xU.cell 1 rfl
   have b2:=xU.cell 2 rfl
   have b3:=xU.cell 3 rfl
   have b4:=xU.cell 4 rfl
   have hcol:=EE HR.out him
   rw [Hlen.out] at hcol
   have hstep : grTo G.ops L Q (k+1)=(s.next G.ops (aR L i),if s.eF G.ops (aR L i)=true then out ++ [(i : Int)] else out):=by rw [grTo,hst.out,hik,Nb]
   have Hstep:=Z5 hstep
   have Hcol:=Z5 hcol
   clear xU hstep hcol hik
   go_wp2_with fail
   refine (Dg P M am mn cm N a n c L i U (hiW.ah hbr) (λr hr=>by rw [(HR.out r hr).1];exact him) hn).mono ?_
   rintro e w3 ⟨a3,c3,rfl,hown3,hb3⟩
   rw [Hcol.out.1] at hown3
   rw [Hcol.out.1]
   have hB3:=hBr.ah hb3
   have hbw3:=RZ hbr hb3
   have hn3 : a3 ≠ none->¬ vo W.heap.size ar R ap (ablk a3):=λh0 hI=>by have h1:=(aY hown3 h0).1;have h2:=(hBr.lt _ hI).2;omega
   go_wp2_with fail
   refine (JJ W.heap.size ar cr R ap cp s a3 c3 n (aR L i) hGW hbw3 hB3 hok.out (aX hown3 hbr.size) hn3 Hcol.out.2 hn (by omega)).mono ?_
   rintro e w4 ⟨ar',cr',R',ap',cp',rfl,hB4,hM4⟩
   have hbw4 : SW W w4:=hbw3.trans (hM4.below (λx hx=>by
    rcases hx with h1 | ⟨h1,h2⟩
    ·exact (hB3.lt x h1).1
    ·rw [h2];exact Nr hbr.size (aY hown3 h1).1) hbw3.size)
   have hop3:=bd hop hb3
   have hnI : aq ≠ none->¬ (vo W.heap.size ar R ap (ablk aq)\/(a3 ≠ none/\ablk aq=ablk a3)):=λh0 hI=>by
    rcases hI with h1 | ⟨h1,h2⟩
    ·exact hdq.out h0 h1
    ·have e1:=(aY hop h0).2;have e2:=(aY hown3 h1).1;omega
   have hop4:=hM4.own hop3 hnI
   have hdq4 : aq ≠ none->¬ vo W.heap.size ar' R' ap' (ablk aq):=λh0=>hM4.not (aY hop3 h0).2 (hnI h0)
   have hok4 : (s.next G.ops (aR L i)).Ok G.El n:=BS.Ok.next hcl.out hok.out Hcol.out
   have hlen4:=BS.Ct G.ops s (aR L i)
   have Hok4:=Z5 hok4
   have Hdq4:=Z5 hdq4
   clear hnI hdq4 hok4 b0 b1 b2 b3 b4
   by_cases ht : s.eF G.ops (aR L i)=true
   ·rw [ht]
    have Hst : Hid (grTo G.ops L Q (k+1)=(s.next G.ops (aR L i),out ++ [(i : Int)])):=by show _=_;rw [Hstep.out,Nd ht]
    clear ht
    generalize s.next G.ops (aR L i)=s' at *
    have hcn:=ba w4 (.int .i64 i) 3
    have hbn:=an w4 (.cells #[.int .i64 i] 3)
    have hsz4:=hbw4.size
    go_wp2_with (at_builtin;refine aO rfl _ _ 22 3 rfl (.int .i64 0) 8 underlying22 aU rfl W.heap.size aq out.length cq _ rfl (hop4.alloc _) ⟨w4.heap.size,0,none⟩ 1 (.int .i64 i) rfl hcn rfl (by omega) (by unfold maxLen;omega) (by simp;omega) ?_;intro a5 c5 w5 hown5 hgr5 hap5)
    go_roundw
    case rel =>
     have hBn:=hB4.ah hbn
     have haq : ∀x,vo W.heap.size ar' R' ap' x->gE aq x:=λx hx=>by
      by_cases h0 : aq=none
      ·exact .inl h0
      ·exact .inr λe=>Hdq4.out h0 (e ▸ hx)
     have hB5 : rJ w5 W.heap.size W.heap.size b ar' cr' R' ap' cp' s':=hBn.bq λx hx=>hgr5.block x (hBn.lt x hx).2 λe=>(haq x hx).own _ _ e.symm
     have hb5 : SW W w5:=Sa (N2 hbw4 (hbn.mono hsz4)) (hop4.alloc _) hgr5 (Na _) (Nr hsz4 hbn.size)
     refine ⟨k+1,a5,c5,out ++ [(i : Int)],s',ar',cr',R',ap',cp',by omega,by go_num,by simp,Hst.out,hB5,?_,?_,hb5,Hok4.out,by omega,by simp;omega⟩
     ·simpa using hown5
     ·show a5 ≠ none->_
      intro h0 hI
      rcases hap5 _ (hBn.lt _ hI).2 (haq _ hI) with h1 | h1
      ·exact h0 h1
      ·exact h1 rfl
    case measure=>simp [intOf] <;> omega
   ·have ht' : s.eF G.ops (aR L i)=false:=by simpa using ht
    rw [ht']
    have Hst : Hid (grTo G.ops L Q (k+1)=(s.next G.ops (aR L i),out)):=by show _=_;rw [Hstep.out,Nf ht]
    clear ht ht'
    generalize s.next G.ops (aR L i)=s' at *
    go_wp2_with fail
    go_roundw
    case rel=>exact ⟨k+1,aq,cq,out,s',ar',cr',R',ap',cp',by omega,by go_num,rfl,Hst.out,hB4,hop4,Hdq4.out,hbw4,Hok4.out,by omega,by omega⟩
    case measure=>simp [intOf] <;> omega
  ·obtain rfl : k=no:=by omega
   have Ho : Hid (kC G.ops L Q=out):=by show _=_;rw [kC,Hql.out,hst.out]
   go_wp2_with fail
   go_ret
   exact ⟨aq,cq,by rw [Ho.out];rfl,by rw [Ho.out];exact aX hop hbW.size,RZ hbW hbr⟩
theorem yS (N : Int) (l : Lz) : oO N [l]=if dk N l=true then 0 else 6:=by simp [oO]
def pI (P M : Int) (mod : Lz) (N : Int) (L : ZZ) (Q : Lz) : Int:=if aF P M mod N L=0 then oO N [Q] else aF P M mod N L
def CP (P M : Int) (mod : Lz) (N : Int) (L : ZZ) (Q : Lz) (w : World) (e : Ending) (w' : World) : Prop :=
 SW w w'/\((pI P M mod N L Q ≠ 0/\e = .returned (.tuple #[.int .i64 0,.int .i64 (pI P M mod N L Q)])) \/
  (pI P M mod N L Q=0/\e = .returned (.tuple #[.int .i64 (kC (af P M.toNat mod).ops L Q).length,.int .i64 0])))
theorem IY (P M : Int) (am : OA) (mn cm : Nat) (mod : Lz) (N : Int) (a : OA) (n c : Nat) (L : ZZ) (ao : OA) (no co : Nat) (Q : Lz) (w : World)
  (hmod : Ints w am mn mod) (hi : br w a n L) (hq : Ints w ao no Q) :
  Calls prog 39 #[.agg #[.int .i64 P,.int .i64 M,.slice am mn cm,.int .i64 N,.slice a n c],.slice ao no co] w (CP P M mod N L Q w):=by
 have Hql:=Z5 hq.len;have Hil:=Z5 hi.len;go_enter func39,ntmps39;go_wp2_with fail;obtain ⟨W,hW⟩ : ∃W : World,W=w.alloc (.cells #[.int .i64 P,.int .i64 M,.slice am mn cm,.int .i64 N,.slice a n c] 27):=⟨_,rfl⟩
 rw [<- hW];have hbW : SW w W:=by rw [hW];exact an _ _
 have x0 : aN W w.heap.size [.int .i64 P,.int .i64 M,.slice am mn cm,.int .i64 N,.slice a n c]:=by rw [hW];exact R9 _ _ _ rfl
 have HX:=Z5 x0;clear hW x0;refine (CN P M am mn cm mod N a n c L W (hmod.ah hbW) (hi.ah hbW)).mono ?_;rintro e w1 ⟨hb1,⟨hE,rfl⟩ | ⟨hE,b,rfl,hG⟩⟩
 ·have hbw1:=RZ hbW hb1;have HE : Hid (pI P M mod N L Q=aF P M mod N L):=by show _=_;rw [pI,Nf hE]
  have He:=Z5 hE;have hE1 : (aF P M mod N L == 0)=false:=by simpa using hE
  have hE2 : (aF P M mod N L != 0)=true:=by simpa using hE
  clear hE;go_wp2_with fail;go_ret2;exact ⟨hbw1,.inl ⟨by rw [HE.out];exact He.out,by rw [HE.out];rfl⟩⟩
 ·have hbw1:=RZ hbW hb1;have HE : Hid (pI P M mod N L Q=oO N [Q]):=by show _=_;rw [pI,Nd hE]
  have Hrw:=Z5 (bJ hE);have xU:=HX.out.ah hb1;have b0:=xU.cell 0 rfl;have b1:=xU.cell 1 rfl;have b2:=xU.cell 2 rfl;have b3:=xU.cell 3 rfl;have b4:=xU.cell 4 rfl;have hq1:=(hq.ah hbW).ah hb1;have hbl:=an w1 (.cells #[.slice ao no co] 22);have hMs : br (w1.alloc (.cells #[.slice ao no co] 22)) (some ⟨w1.heap.size,0,none⟩) 1 [Q]:=⟨rfl,λ_=>rfl,by unfold maxLen;omega,λi hi=>by
   obtain rfl : i=0:=by omega
   exact ⟨ao,no,co,dj _ _ _ rfl,hq1.ah hbl⟩⟩
  clear xU hE;go_wp2_with fail;refine (Jj P M am mn cm N a n c _ 1 1 [Q] _ hMs).mono ?_;rintro e w2 ⟨rfl,hb2⟩;have hb3 : SW w1 w2:=RZ hbl hb2;have hbw2:=RZ hbw1 hb3;rw [yS] at HE ⊢;by_cases hok : dk N Q=true
  ·have HE2 : Hid (pI P M mod N L Q=0):=by show _=_;rw [HE.out,Nd hok]
   rw [Nd hok];obtain ⟨m,hm,hm1,hm2,hLl,hRw⟩:=Hrw.out;subst hm;have hlen:=jx hok (by omega);have hQk : ∀k,k<no->0<=nth Q k/\nth Q k<m:=λk hk=>by have:=iI hok (k:=k) (by rw [Hql.out];exact hk);exact ⟨this.1,this.2.1⟩
   have hno : no<=1000000:=by rw [<- Hql.out];omega
   have hn : n<=1000000:=by rw [<- Hil.out];omega
   have HQk:=Z5 hQk;have HRw:=Z5 hRw;have xU:=(HX.out.ah hb1).ah hb3;have b0:=xU.cell 0 rfl;have b1:=xU.cell 1 rfl;have b2:=xU.cell 2 rfl;have b3:=xU.cell 3 rfl;have b4:=xU.cell 4 rfl;have hq2:=hq1.ah hb3;have hi2:=((hi.ah hbW).ah hb1).ah hb3;have hG2:=hG.ah hb3;clear hok hlen hQk hRw xU;go_wp2_with fail;refine (Dv P M am mn cm m a n c L m ao no co Q hG2 hi2 HRw.out hq2 HQk.out hn hno).mono ?_;rintro e w4 ⟨a4,c4,rfl,hown4,hb4⟩;have hF : CP P M mod m L Q w (.returned (.tuple #[.int .i64 (kC (af P M.toNat mod).ops L Q).length,.int .i64 0])) w4:=⟨RZ hbw2 hb4,.inr ⟨HE2.out,rfl⟩⟩
   have HF:=Z5 hF;clear hF hown4;generalize kC (af P M.toNat mod).ops L Q=out at *;go_wp2_with fail;go_ret2;exact HF.out
  ·have HE2 : Hid (pI P M mod N L Q=6):=by show _=_;rw [HE.out,Nf hok]
   rw [Nf hok];clear hok b0 b1 b2 b3 b4;go_wp2_with fail;go_ret2;exact ⟨hbw2,.inl ⟨by rw [HE2.out];omega,by rw [HE2.out];rfl⟩⟩
def gA (Q : Lz) : Z6:=kz Q Q.length
theorem jq {Q : Lz} {x : Nat} : x ∈ gA Q ↔ ∃y ∈ Q,y.toNat=x:=by
 unfold gA;rw [ey];constructor
 ·rintro ⟨j,hj,e⟩;exact ⟨nth Q j,aH hj,e⟩
 ·rintro ⟨y,hy,e⟩;obtain ⟨j,hj,rfl⟩:=List.mem_iff_getElem.1 hy;exact ⟨j,hj,by rw [aj hj];exact e⟩
section
variable {O : aL} {El : Int->Prop} {m : Nat} {L : ZZ}
theorem fu (F : bF O El) (hL : bp El m L) (Q : Lz) : Rk (jE O El L.length (aR L)) (gA Q) (gk O L Q):=oK F hL Q
end
section
variable {O : aL} {El : Int->Prop} {m : Nat} {L : ZZ}
theorem ry (O : aL) (L : ZZ) (Q : Lz) : gk O L Q<=Q.length:=xc O L Q
variable {C : jG}
end
section
variable {O : aL} {El : Int->Prop} {m : Nat} {L : ZZ}
theorem Kk (F : bF O El) (hL : bp El m L) {r : Lz} (hr : Vc El m r) {f : Nat->Int} (h : RS O El m (L ++ [r]) f) : ∃s g,El s/\RS O El m L g/\∀x,x<m->f x=O.add (g x) (O.mul s (nth r x)):=by
 obtain ⟨e,he,h2⟩:=h;have hLr : bp El m (L ++ [r]):=λy hy=>by
  rcases List.mem_append.1 hy with hy | hy
  ·exact hL y hy
  ·rw [List.mem_singleton.1 hy];exact hr
 have hlen : (L ++ [r]).length=L.length+1:=by simp
 obtain ⟨c,hc⟩ : ∃c,((List.range L.length).map λt=>e (eU (L.length+1) t))=c:=⟨_,rfl⟩
 have hcn : ∀t,t<L.length->nth c t=e (eU (L.length+1) t):=λt ht=>by rw [<- hc,aj (by simpa using ht)];simp
 have hel : ∀t,El (e (eU (L.length+1) t)):=λt=>by refine he.el _ ?_;rw [hlen];exact gz F _ t
 have hce : ∀k,k<L.length->El (nth c k):=λk hk=>by rw [hcn k hk];exact hel k
 obtain ⟨c1,c2⟩:=fF F hL hce L.length (Na _);refine ⟨e (eU (L.length+1) L.length),_,hel _,c2,λx hx=>?_⟩;rw [h2 x hx,fG F he (cH hLr F.zero x),qx F hL hce hx _ (Na _)];rw [hlen,dotN];have h3 : nth (aR (L ++ [r]) x) L.length=nth r x:=by rw [cI _ _ _ (by rw [hlen];omega)];congr 1;rw [aC (by rw [hlen];omega)];simp
 rw [h3];congr 1;refine dW _ λp hp=>⟨(hcn p hp).symm,?_⟩
 rw [cI _ _ _ (by rw [hlen];omega)];congr 1;rw [aC (by rw [hlen];omega),aC hp,P3]
end
section
variable {O : aL} {El : Int->Prop} {m : Nat} {A B L : ZZ}
theorem lS (F : bF O El) (hA : bp El m A) {ι : Nat->Nat} (hι : ∀j,j<A.length->ι j<m) (h1 : ∀i j,i<A.length->j<A.length->nth (ai A i) (ι j)=if i=j then 1 else 0) {f : Nat->Int} (hf : ∀x,x<m->El (f x)) :
  ∀k,k<=A.length->∃g,RS O El m A g/\∀j,j<k->g (ι j)=f (ι j)
 | 0,_=>⟨λ_=>0,SD F λ_ _=>rfl,λj hj=>by omega⟩
 | k+1,hk=>by
  obtain ⟨g,hg,h2⟩:=lS F hA hι h1 hf k (by omega);have hge:=λx (hx : x<m)=>SH F hA hg hx;have hk1:=hge _ (hι k (by omega));have hk2:=hf _ (hι k (by omega));have hs : El (O.add (g (ι k)) (O.neg (f (ι k)))):=F.cl.add _ _ hk1 (F.cl.neg _ hk2);refine ⟨_,hg.comb F (Sg F (show k<A.length by omega)) hs,λj hj=>?_⟩;show O.add (g (ι j)) (O.neg (O.mul (nth (ai A k) (ι j)) (O.add (g (ι k)) (O.neg (f (ι k))))))=_;rw [h1 k j (by omega) (by omega)];by_cases e : k=j
  ·subst e;rw [Nd rfl,F.one_mul _ hs,F.neg_add hk1 (F.cl.neg _ hk2),F.neg_neg hk2,<- F.add_assoc _ _ _ hk1 (F.cl.neg _ hk1) hk2,F.add_neg _ hk1,F.tI hk2]
  ·rw [Nf e,F.iS hs,F.dR,F.add_zero _ (hge _ (hι j (by omega)))];exact h2 j (by omega)
theorem gB (F : bF O El) {a b c : Nat->Int} : ∀t,(∀p,p<t->El (a p))->(∀p,p<t->El (b p))->(∀p,p<t->El (c p))->dotN O (λp=>O.add (a p) (O.neg (b p))) c t=O.add (dotN O a c t) (O.neg (dotN O b c t))
 | 0,_,_,_=>by show (0 : Int)=O.add 0 (O.neg 0);rw [F.dR,F.add_zero _ F.zero]
 | t+1,ha,hb,hc=>by have ih:=gB F t (λp hp=>ha p (by omega)) (λp hp=>hb p (by omega)) (λp hp=>hc p (by omega));have h1:=ha t (by omega);have h2:=hb t (by omega);have h3:=hc t (by omega);have d1:=fQ F t (λp hp=>ha p (by omega)) (λp hp=>hc p (by omega));have d2:=fQ F t (λp hp=>hb p (by omega)) (λp hp=>hc p (by omega));have m1:=F.cl.mul _ _ h1 h3;have m2:=F.cl.mul _ _ h2 h3;show O.add (dotN O (λp=>O.add (a p) (O.neg (b p))) c t) (O.mul (O.add (a t) (O.neg (b t))) (c t))=O.add (O.add (dotN O a c t) (O.mul (a t) (c t))) (O.neg (O.add (dotN O b c t) (O.mul (b t) (c t))));rw [ih,F.mul_comm _ _ (F.cl.add _ _ h1 (F.cl.neg _ h2)) h3,F.mul_add _ _ _ h3 h1 (F.cl.neg _ h2),F.mul_neg h3 h2,F.mul_comm _ _ h3 h1,F.mul_comm _ _ h3 h2,F.neg_add d2 m2,F.zT d1 (F.cl.neg _ d2) m1 (F.cl.neg _ m2)]
theorem fs (F : bF O El) (hA : bp El m A) (hB : bp El m B) {ι κ : Nat->Nat} (hι : ∀j,j<A.length->ι j<m) (h1 : ∀i j,i<A.length->j<A.length->nth (ai A i) (ι j)=if i=j then 1 else 0)
  (hκ : ∀i,i<B.length->κ i<m) (h2 : ∀i j,i<B.length->j<B.length->nth (ai B i) (κ j)=if i=j then 1 else 0)
  (hall : ∀x,x<m->(∃j,j<A.length/\ι j=x)\/∃i,i<B.length/\κ i=x) (ho : lF O m A B) {f : Nat->Int} (hf : ∀x,x<m->El (f x)) (hfo : ∀i,i<B.length->dotN O f (λp=>nth (ai B i) p) m=0) : RS O El m A f:=by
 obtain ⟨g,hg,hgf⟩:=lS F hA hι h1 hf A.length (Na _);have hge:=λx (hx : x<m)=>SH F hA hg hx;refine hg.congr λx hx=>?_;rcases hall x hx with ⟨j,hj,rfl⟩ | ⟨i,hi,rfl⟩
 ·exact (hgf j hj).symm
 ·have hb : ∀p,p<m->El (nth (ai B i) p):=λp hp=>Sc (hB.row hi) hp;have hd:=gB F m hf hge hb;rw [hfo i hi,SB F hA hB ho hg hi,F.dR,F.add_zero _ F.zero] at hd;have hk:=hκ i hi;have hde : El (O.add (f (κ i)) (O.neg (g (κ i)))):=F.cl.add _ _ (hf _ hk) (F.cl.neg _ (hge _ hk));have h3:=iO F (a:=λp=>O.add (f p) (O.neg (g p))) (b:=λp=>nth (ai B i) p) (x:=κ i) (F.cl.mul _ _ hde (hb _ hk)) m λp hp hne=>?_
  ·rw [hd,Nd hk] at h3;have h4 : O.mul (O.add (f (κ i)) (O.neg (g (κ i)))) (nth (ai B i) (κ i))=0:=h3.symm;rw [h2 i i hi hi,Nd rfl,F.ie hde] at h4;have h5:=F.iH (hf _ hk) (F.cl.neg _ (hge _ hk)) h4;rw [<- F.neg_neg (hf _ hk),<- h5,F.neg_neg (hge _ hk)]
  ·show O.mul (O.add (f p) (O.neg (g p))) (nth (ai B i) p)=0;rcases hall p hp with ⟨j,hj,rfl⟩ | ⟨j,hj,rfl⟩
   ·rw [hgf j hj,F.add_neg _ (hf _ hp),F.iS (hb _ hp)]
   ·rw [h2 i j hi hj,Nf (λe=>hne (by rw [e])),F.cQ (F.cl.add _ _ (hf _ hp) (F.cl.neg _ (hge _ hp)))]
theorem gL (P : Lz) : ∀k i j,i<j->j<(dK P k).length->(dK P k).getD i 0<(dK P k).getD j 0
 | 0,i,j,_,h=>by simp [dK] at h
 | k+1,i,j,hij,h=>by
  have ih:=gL P k i j hij;rw [dK] at h ⊢;split at h
  ·rename_i hc;rw [Nd hc];exact ih h
  ·rename_i hc;rw [Nf hc];rw [Nl,ND] at h;have e1 : (dK P k ++ [k]).getD i 0=(dK P k).getD i 0:=by simp only [Ng];rw [Ny (by omega)]
   rw [e1];by_cases e : j<(dK P k).length
   ·have e2 : (dK P k ++ [k]).getD j 0=(dK P k).getD j 0:=by simp only [Ng];rw [Ny e]
    rw [e2];exact ih e
   ·have e2 : (dK P k ++ [k]).getD j 0=k:=by
     have ej : j=(dK P k).length:=by omega
     simp only [Ng];rw [NY (by omega)];simp [ej]
    rw [e2];exact (gC (k:=k) (j:=i) (by omega)).1
theorem iR (F : bF O El) {R : ZZ} {P : Lz} (hR : bp El m R) (hP : mg R P m) (hl : nQ R P) (hlen : R.length=P.length) {f : Nat->Int} (hf : ∀x,x<m->El (f x)) :
  ((∀i,i<R.length->dotN O f (λp=>nth (ai R i) p) m=0)->RS O El m (cZ O m R P m) f)/\((∀i,i<(cZ O m R P m).length->dotN O f (λp=>nth (ai (cZ O m R P m) i) p) m=0)->RS O El m R f):=by
 have hK:=dz F hR hP hlen;have hO:=jf F hR hP hl hlen;have hkl:=fS O m R P m;have hι : ∀j,j<R.length->(nth P j).toNat<m:=λj hj=>by have:=hP.lt j (by omega);omega
 have h1 : ∀i j,i<R.length->j<R.length->nth (ai R i) (nth P j).toNat=if i=j then 1 else 0:=λi j hi hj=>hP.one j i (by omega) hi
 have hκ : ∀i,i<(cZ O m R P m).length->(dK P m).getD i 0<m:=λi hi=>(gC (by omega)).1;have h2 : ∀i j,i<(cZ O m R P m).length->j<(cZ O m R P m).length->nth (ai (cZ O m R P m) i) ((dK P m).getD j 0)=if i=j then 1 else 0:=λi j hi hj=>by
  rw [hkl] at hi hj;obtain ⟨a1,a2⟩:=gC (P:=P) hi;obtain ⟨b1,b2⟩:=gC (P:=P) hj;rw [jP O m R P m hi];by_cases e : i=j
  ·subst e;rw [Nd rfl];exact iU hP a1 a2 _ (Na _)
  ·rw [Nf e];refine iG hP b1 (λe2=>?_) _ (Na _) λq hq e2=>?_
   ·rcases P6 e with h | h
    ·have:=gL P m i j h hj;omega
    ·have:=gL P m j i h hi;omega
   ·apply b2;have hq2:=hP.lt q hq;rw [<- e2,Oc hq2.1];exact aH hq
 have hall : ∀x,x<m->(∃j,j<R.length/\(nth P j).toNat=x)\/∃i,i<(cZ O m R P m).length/\(dK P m).getD i 0=x:=λx hx=>by
  by_cases hc : (x : Int) ∈ P
  ·obtain ⟨j,hj,e⟩:=List.mem_iff_getElem.1 hc;exact .inl ⟨j,by omega,by rw [aj hj,e];simp⟩
  ·obtain ⟨j,hj,e⟩:=List.mem_iff_getElem.1 ((jK (P:=P) m).2 ⟨hx,hc⟩);exact .inr ⟨j,by rw [hkl];exact hj,by rw [Ng,NQ hj];exact e⟩
 exact ⟨fs F hK hR hκ h2 hι h1 (λx hx=>(hall x hx).symm) (Su F hR hK hO) hf,fs F hR hK hι h1 hκ h2 hall hO hf⟩
theorem iz (F : bF O El) (hL : bp El m L) {f : Nat->Int} (hf : ∀x,x<m->El (f x)) : RS O El m (dx O m L) f ↔ ∀i,i<L.length->dotN O f (λp=>nth (ai L i) p) m=0:=by
 obtain ⟨hP,hl⟩:=bG F hL;have hlen:=bQ F hL;have hR:=bL F hL;have hK:=dz F hR hP hlen;obtain ⟨s1,s2⟩:=cB F hK;obtain ⟨t1,t2⟩:=cB F hL;have hO:=Su F hR hK (jf F hR hP hl hlen);constructor
 ·intro h i hi;exact fC F hR hf (λj hj=>SB F hK hR hO (s1.rs h) hj) (t2 i hi)
 ·intro h;refine s2.rs ((iR F hR hP hl hlen hf).1 λi hi=>?_);exact fC F hL hf h (t1 i hi)
theorem jO (F : bF O El) (hL : bp El m L) {f : Nat->Int} (hf : ∀x,x<m->El (f x)) : (∀i,i<(dx O m L).length->dotN O f (λp=>nth (ai (dx O m L) i) p) m=0) ↔ RS O El m L f:=by
 obtain ⟨hP,hl⟩:=bG F hL;have hlen:=bQ F hL;have hR:=bL F hL;have hK:=dz F hR hP hlen;obtain ⟨s1,s2⟩:=cB F hK;obtain ⟨t1,t2⟩:=cB F hL;have hN:=fV F hL;constructor
 ·intro h;exact t1.rs ((iR F hR hP hl hlen hf).2 λi hi=>fC F hN hf h (s2 i hi))
 ·intro h i hi;have hfn : ∀p,p<m->El (nth (ai (dx O m L) i) p):=λp hp=>Sc (hN.row hi) hp;rw [eY F m hf hfn];exact fC F hL hfn ((iz F hL hfn).1 (Sg F hi)) h
def kQ (O : aL) (m : Nat) (L : ZZ) (Z : Lz) : ZZ:=dx O m (dx O m L ++ Z.map (bs m))
theorem fg {m : Nat} {z : Int} (hz : z.toNat<m) (i : Nat) : nth (bs m z) i=if i=z.toNat then 1 else 0:=by
 unfold bs;rw [eh _ _ _ _ (by simpa using hz)];split
 ·rfl
 ·simp [nth,Ng,NI];split <;> rfl
theorem gw (F : bF O El) {f : Nat->Int} (hf : ∀x,x<m->El (f x)) {z : Int} (hz : z.toNat<m) : dotN O f (λp=>nth (bs m z) p) m=f z.toNat:=by
 have h1:=iO F (a:=f) (b:=λp=>nth (bs m z) p) (x:=z.toNat) (by show El (O.mul (f z.toNat) (nth (bs m z) z.toNat));rw [fg hz,Nd rfl,F.ie (hf _ hz)];exact hf _ hz) m λp hp hne=>by show O.mul (f p) (nth (bs m z) p)=0;rw [fg hz,Nf hne,F.cQ (hf p hp)]
 rw [h1,Nd hz];show O.mul (f z.toNat) (nth (bs m z) z.toNat)=_;rw [fg hz,Nd rfl,F.ie (hf _ hz)]
def J5 (m : Nat) (Z : Lz) : Prop:=∀z ∈ Z,0<=z/\z<(m : Int)
theorem pR (F : bF O El) (hL : bp El m L) {Z : Lz} (hZ : J5 m Z) {f : Nat->Int} (hf : ∀x,x<m->El (f x)) : RS O El m (kQ O m L Z) f ↔ RS O El m L f/\∀z ∈ Z,f z.toNat=0:=by
 have hN:=fV F hL;have hU : bp El m (dx O m L ++ Z.map (bs m)):=λr hr=>by
  rcases List.mem_append.1 hr with h | h
  ·exact hN r h
  ·obtain ⟨z,_,rfl⟩:=List.mem_map.1 h;exact fN F m z
 have key : RS O El m (kQ O m L Z) f ↔ ∀r ∈ dx O m L ++ Z.map (bs m),dotN O f (λp=>nth r p) m=0:=by refine (iz F hU hf).trans ⟨λh r hr=>?_,λh i hi=>h _ (dN hi)⟩;obtain ⟨j,hj,rfl⟩:=ei hr;exact h j hj
 rw [key];constructor
 ·intro h;refine ⟨(jO F hL hf).1 λi hi=>h _ (List.mem_append.2 (.inl (dN hi))),λz hz=>?_⟩;have hzb:=hZ z hz;rw [<- gw F hf (z:=z) (by omega)];exact h _ (List.mem_append.2 (.inr (List.mem_map.2 ⟨z,hz,rfl⟩)))
 ·rintro ⟨h1,h2⟩ r hr;rcases List.mem_append.1 hr with h | h
  ·obtain ⟨j,hj,rfl⟩:=ei h;exact (jO F hL hf).2 h1 j hj
  ·obtain ⟨z,hz,rfl⟩:=List.mem_map.1 h;have hzb:=hZ z hz;rw [gw F hf (by omega)];exact h2 z hz
end
theorem lH (q : Int) (n : Nat) (w : World) (h2 : 2<=q) (h256 : q<=256) (hn : n<=1000000) :
  Calls prog 100 #[.int .i64 q,.int .i64 n,.int .i64 65536] w λe w'=>e = .returned (.tuple #[.int .i64 (kI q n),.int .i64 (iA q n)])/\w=w':=by
 go_enter func100,ntmps100;go_wp2_with fail;go_loop [8,9] (λqv nv=>∃k : Nat,k<=n/\nv = .int .i64 k/\qv = .int .i64 (q ^ k)/\q ^ k<=65536/\1<=q ^ k) (λ_ i=>n - (intOf i).toNat);case atStart=>exact ⟨0,Ni _,rfl,by simp,by simp,by simp⟩
 case round =>
  obtain ⟨k,hk,rfl,rfl,hb,hb1⟩:=hrel
  have hP0 : q ≠ 0:=by omega
  by_cases hlt : k<n
  ·have e1 : q ^ (k+1)=q ^ k * q:=N4 _ _
   have hd0 : (0 : Int)<=65536 / q:=OB (by omega) (by omega)
   have hd1 : 65536 / q<=65536:=OC _ (by omega)
   by_cases h5 : 65536 / q<q ^ k
   ·have hbig : ¬ q ^ n<=65536:=by intro h;have h6:=dy (show 1<=q by omega) (show k+1<=n by omega);have h7 : 65536<q ^ k * q:=OZ (by omega) h5;omega
    have Hb:=Z5 (lR hbig)
    clear e1 hbig
    generalize q ^ k=z at *
    go_wp2_with fail
    go_ret2
    exact ⟨fw Hb.out.1.symm Hb.out.2.symm,rfl⟩
   ·have h6 : q ^ k * q<=65536:=by have:=Pj (show (0 : Int)<q by omega) (show q ^ k<=65536 / q by omega);exact this
    have h7 : 1 * 1<=q ^ k * q:=OR hb1 (by omega) (by omega) (by omega)
    have E1:=Z5 e1
    clear e1
    generalize hz : q ^ k=z at *
    have Hz:=Z5 hz
    clear hz
    go_wp2_with fail
    go_round
    case rel=>exact ⟨k+1,by omega,by go_num,by rw [E1.out],by rw [E1.out];exact h6,by rw [E1.out];omega⟩
    case measure=>simp [intOf] <;> omega
  ·obtain rfl : k=n:=by omega
   have Hb:=Z5 (ka hb)
   generalize q ^ k=z at *
   go_wp2_with fail
   go_ret2
   exact ⟨fw Hb.out.1.symm Hb.out.2.symm,rfl⟩
section
variable {O : aL} {El : Int->Prop} {m : Nat} {L : ZZ}
theorem CI (F : bF O El) {A : ZZ} (hA : bp El m A) : ∀ {Z : Lz} {f : Nat->Int},RS O El m (A ++ (Z.map (bs m)).reverse) f->J5 m Z->∃g,RS O El m A g/\∀j : Nat,j<m->¬ (j : Int) ∈ Z->f j=g j
 | [],f,h,_=>⟨f,by simpa using h,λ_ _ _=>rfl⟩
 | z :: Z,f,h,hZ=>by
  rw [Qj,List.reverse_cons,<- NX] at h;have hA2 : bp El m (A ++ (Z.map (bs m)).reverse):=λr hr=>by
   rcases List.mem_append.1 hr with h | h
   ·exact hA r h
   ·obtain ⟨y,_,rfl⟩:=List.mem_map.1 (List.mem_reverse.1 h);exact fN F m y
  obtain ⟨s,g,hs,hg,h2⟩:=Kk F hA2 (fN F m z) h;obtain ⟨g',hg',h3⟩:=CI F hA hg λy hy=>hZ y (NS _ hy);refine ⟨g',hg',λj hj hn=>?_⟩;have hzb:=hZ z (by simp);have hne : j ≠ z.toNat:=λe=>hn (by rw [e,Oc hzb.1];simp);rw [h2 j hj,fg (by omega),Nf hne,F.cQ hs,F.add_zero _ (hg.el F hA2 hj)];exact h3 j hj λhm=>hn (NS _ hm)
theorem Gh (F : bF O El) (hL : bp El m L) {l : Z6} (hl : ∀y ∈ l,y<m) {x : Nat} (hx : x<m) (hxl : ¬ x ∈ l) (h : jE O El L.length (aR L) l x) :
  ∃y,Vc El m y/\RS O El m (dx O m L) (λj=>nth y j)/\nth y x=1/\∀j,j<m->j ≠ x->¬ j ∈ l->nth y j=0:=by
 have hN:=fV F hL;obtain ⟨Z,hZ⟩ : ∃Z : Lz,l.map Int.ofNat=Z:=⟨_,rfl⟩
 have hZm : J5 m Z:=λz hz=>by rw [<- hZ] at hz;obtain ⟨y,hy,rfl⟩:=List.mem_map.1 hz;have:=hl y hy;show 0<=(y : Int)/\(y : Int)<(m : Int);omega
 have hZr : J5 m Z.reverse:=λz hz=>hZm z (List.mem_reverse.1 hz);have hU : bp El m (dx O m L ++ Z.map (bs m)):=λr hr=>by
  rcases List.mem_append.1 hr with h | h
  ·exact hN r h
  ·obtain ⟨z,_,rfl⟩:=List.mem_map.1 h;exact fN F m z
 obtain ⟨f,hf⟩ : ∃f : Nat->Int,(λp=>nth (bs m (x : Int)) p)=f:=⟨_,rfl⟩
 have hfe : ∀p,p<m->El (f p):=λp hp=>by rw [<- hf];exact Sc (fN F m _) hp
 have hfx : ∀p : Nat,f p=if p=x then 1 else 0:=λp=>by rw [<- hf];exact fg (by simpa using hx) p
 have h1 : RS O El m (dx O m L ++ Z.map (bs m)) f:=by
  refine (jO F hU hfe).1 λi hi=>?_;have hW : bp El m (kQ O m L Z):=fV F hU;obtain ⟨r,hr⟩ : ∃r,ai (kQ O m L Z) i=r:=⟨_,rfl⟩
  have hre : ∀p,p<m->El (nth r p):=λp hp=>by rw [<- hr];exact Sc (hW.row hi) hp
  have h2 : RS O El m (kQ O m L Z) (λp=>nth r p):=by rw [<- hr];exact Sg F hi
  obtain ⟨h3,h4⟩:=(pR F hL hZm hre).1 h2;have h5 : nth r x=0:=(FK hl hx).1 h _ h3 λy hy=>by have:=h4 (y : Int) (by rw [<- hZ];exact List.mem_map.2 ⟨y,hy,rfl⟩);simpa using this
  show dotN O f (λp=>nth (ai (kQ O m L Z) i) p) m=0;rw [hr,eY F m hfe hre,<- hf];rw [gw F hre (z:=(x : Int)) (by simpa using hx)];exact h5
 have h6 : RS O El m (dx O m L ++ (Z.reverse.map (bs m)).reverse) f:=by rw [List.map_reverse,List.reverse_reverse];exact h1
 obtain ⟨g,hg,h7⟩:=CI F hN h6 hZr;have hnZ : ∀j : Nat,¬ j ∈ l->¬ (j : Int) ∈ Z.reverse:=λj hj hm=>hj (by rw [PY,<- hZ] at hm;obtain ⟨y,hy,e⟩:=List.mem_map.1 hm;have e' : (y : Int)=(j : Int):=e;rw [show j=y by omega];exact hy);have hnth : ∀j,j<m->nth ((List.range m).map g) j=g j:=λj hj=>eO _ _ _ hj;refine ⟨(List.range m).map g,⟨by simp,λy hy=>?_⟩,hg.congr hnth,?_,λj hj hne hn=>?_⟩
 ·obtain ⟨j,hj,rfl⟩:=List.mem_map.1 hy;exact hg.el F hN (List.mem_range.1 hj)
 ·rw [hnth x hx,<- h7 x hx (hnZ x hxl),hfx,Nd rfl]
 ·rw [hnth j hj,<- h7 j hj (hnZ j hn),hfx,Nf hne]
end
def uP (P M : Int) (mod : Lz) (N : Int) (L : ZZ) : Int:=if aF P M mod N L=0 then kI (af P M.toNat mod).q L.length else 0
def uO (P M : Int) (mod : Lz) (N : Int) (L : ZZ) : Int:=if aF P M mod N L=0 then iA (af P M.toNat mod).q L.length else aF P M mod N L
theorem jC {P M : Int} {mod : Lz} {N : Int} {L : ZZ} (hE : aF P M mod N L=0) : aJ P M=((af P M.toNat mod).q : Nat)/\(2 : Int)<=(af P M.toNat mod).q/\((af P M.toNat mod).q : Int)<=256:=by
 obtain ⟨m,hm,_,hq,_⟩:=dB (aG hE).1;subst hm;rw [Nb];rw [hq];have h0 : aJ P m ≠ 0:=by intro h0;have h1:=(aG hE).1;unfold bA dg at h1;simp [h0] at h1
 obtain ⟨h1,h2,h3,h4,h5,h6⟩:=gX h0;refine ⟨rfl,?_,by omega⟩;rw [h6];have:=dy (show 1<=P by omega) (show 1<=(m : Int).toNat by omega);have e : P ^ 1=P:=by rw [N4,OT,Pq]
 omega
theorem fJ (P M : Int) (am : OA) (mn cm : Nat) (mod : Lz) (N : Int) (a : OA) (k c : Nat) (L : ZZ) (w : World) (hmod : Ints w am mn mod) (hi : br w a k L) :
  Calls prog 46 #[.agg #[.int .i64 P,.int .i64 M,.slice am mn cm,.int .i64 N,.slice a k c]] w λe w' =>
   e = .returned (.tuple #[.int .i64 (uP P M mod N L),.int .i64 (uO P M mod N L)])/\SW w w':=by
 have HCk : Hid (∀V,SW w V->Calls prog 35 #[.agg #[.int .i64 P,.int .i64 M,.slice am mn cm,.int .i64 N,.slice a k c]] V λe w'=>e = .returned (.int .i64 (aF P M mod N L))/\SW V w'):=λV hV=>by have h:=iL P M am mn cm mod N a k c L V (hmod.ah hV) (hi.ah hV) λh=>iQ h;rw [mZ] at h;exact h
 have hkl : L.length=k:=hi.len;go_enter func46,ntmps46;go_upto_region 1 with fail;obtain ⟨W,hW⟩ : ∃W : World,W=w.alloc (.cells #[.int .i64 P,.int .i64 M,.slice am mn cm,.int .i64 N,.slice a k c] 27):=⟨_,rfl⟩
 rw [<- hW];have hbW : SW w W:=by rw [hW];exact an _ _
 have x0 : aN W w.heap.size [.int .i64 P,.int .i64 M,.slice am mn cm,.int .i64 N,.slice a k c]:=by rw [hW];exact R9 _ _ _ rfl
 have HX:=Z5 x0;have c0:=x0.cell 0 rfl;have c1:=x0.cell 1 rfl;have c2:=x0.cell 2 rfl;have c3:=x0.cell 3 rfl;have c4:=x0.cell 4 rfl;clear hW x0;by_cases hE : aF P M mod N L=0
 ·have hk256 : k<=256:=by rw [<- hkl];exact (bJ hE).choose_spec.2.2.2.1
  obtain ⟨ho,hq2,hq256⟩:=jC hE;have HV : Hid (uP P M mod N L=kI (af P M.toNat mod).q k/\uO P M mod N L=iA (af P M.toNat mod).q k):=by show _/\_;unfold uP uO;rw [Nd hE,Nd hE,hkl];exact ⟨rfl,rfl⟩
  rw [hE] at HCk;have HOr : Hid (∀V,Calls prog 24 #[.agg #[.int .i64 P,.int .i64 M,.slice am mn cm]] V λe w'=>e = .returned (.int .i64 ((af P M.toNat mod).q : Nat))/\SW V w'):=λV=>by have h:=gK P M am mn cm V;rw [ho] at h;exact h
  generalize (af P M.toNat mod).q=q at *;clear ho hE hkl;go_wp2_with (go_at_call 35;refine (HCk.out _ hbW).mono ?_;rintro e w3 ⟨rfl,hb3⟩;clear c0 c1 c2 c3 c4);have HS : Hid (∀V,SW w3 V->V.cell? ⟨w.heap.size,0,none⟩=some (.int .i64 P)/\V.cell? ⟨w.heap.size,1,none⟩=some (.int .i64 M)/\V.cell? ⟨w.heap.size,2,none⟩=some (.slice am mn cm)/\V.cell? ⟨w.heap.size,4,none⟩=some (.slice a k c)/\SW w3 V):=λV hV=>by have x3:=(HX.out.ah hb3).ah hV;exact ⟨x3.cell 0 rfl,x3.cell 1 rfl,x3.cell 2 rfl,x3.cell 4 rfl,hV⟩
  go_region_held3 (λV=>V.cell? ⟨w.heap.size,0,none⟩=some (.int .i64 P)/\V.cell? ⟨w.heap.size,1,none⟩=some (.int .i64 M)/\V.cell? ⟨w.heap.size,2,none⟩=some (.slice am mn cm)/\V.cell? ⟨w.heap.size,4,none⟩=some (.slice a k c)/\SW w3 V)
   ((refine HS.out _ ?_;first | exact (Nc _ _).drew | (go_split_ands;assumption) | (go_split_ands;exact RZ (by assumption) (by assumption))))
   (first
    | (go_at_call 24;((with_reducible refine (HOr.out _).mono ?_);rintro e w4 ⟨rfl,hb4⟩))
    | (go_at_call 100;((with_reducible refine (lH (q : Int) k _ hq2 hq256 (by omega)).mono ?_);rintro e w5 ⟨rfl,rfl⟩)))
  all_goals go_wp2_with fail
  all_goals go_ret2
  all_goals exact ⟨fw HV.out.1.symm HV.out.2.symm,RZ (RZ hbW hb3) (by go_split_ands;assumption)⟩
 ·have HV : Hid (uP P M mod N L=0/\uO P M mod N L=aF P M mod N L):=by show _/\_;unfold uP uO;rw [Nf hE,Nf hE];exact ⟨rfl,rfl⟩
  generalize aF P M mod N L=z at *;have hz : (z != 0)=true:=by simpa using hE
  clear hE;go_wp2_with (go_at_call 35;refine (HCk.out _ hbW).mono ?_;rintro e w3 ⟨rfl,hb3⟩;clear c0 c1 c2 c3 c4);go_ret2;exact ⟨fw HV.out.1.symm HV.out.2.symm,RZ hbW hb3⟩
section
variable {P M : Int} {mod : Lz} {m : Nat} {L : ZZ}
end
section
variable {O : aL} {El : Int->Prop} {m : Nat}
end
section
variable {P M : Int} {mod : Lz} {m : Nat} {L : ZZ}
theorem GR (hE : aF P M mod m L=0) {i : Nat} (hi : i<m) {l : Z6} (hl : ∀y ∈ l,y<m) (hil : ¬ i ∈ l) (hn : l.Nodup) (h : jE (af P M.toNat mod).ops (af P M.toNat mod).El L.length (aR L) l i) :
  iw P M mod m L i ≠ []/\(bI (iw P M mod m L i) m i).length<=l.length:=by
 obtain ⟨N',e,hm1,hm64,F,hR⟩:=aM hE;obtain rfl : m=N':=by omega
 obtain ⟨y,hy,hrs,h1,h0⟩:=Gh F hR hl hi hil h;have hyd:=(ou hE).2 ⟨hy,hrs⟩;have hsub : (bI y m i).length<=l.length:=by
  have hnd : (bI y m i).Nodup:=by unfold bI List.Nodup;rw [O6];exact Qb (λh e=>h (Int.ofNat.inj e)) (Oy _ QJ)
  have h2:=j9 (T:=l.map Int.ofNat) hnd λz hz=>by obtain ⟨j,hj,h3,h4,rfl⟩:=BG.1 hz;refine List.mem_map.2 ⟨j,OJ λhc=>h3 (h0 j hj (λe=>h4 (by rw [e])) hc),rfl⟩
  rwa [Nq] at h2
 rcases qB hE (i : Int) with ⟨h2,h3⟩ | ⟨h2,h3,h4⟩
 ·exact absurd h1 (by have:=h3 y hyd;rwa [Nb] at this)
 ·refine ⟨λe=>?_,Nr (h4 y hyd (by rw [Nb];exact h1)) hsub⟩;rw [e] at h3;simp [nth] at h3
end
theorem gM (P M : Int) (am : OA) (mn cm : Nat) (mod : Lz) (N : Int) (a : OA) (n c : Nat) (L : ZZ) (w : World) (hmod : Ints w am mn mod) (hi : br w a n L) :
  Calls prog 14 #[.agg #[.int .i64 P,.int .i64 M,.slice am mn cm,.int .i64 N,.slice a n c]] w (dO w):=by
 have HFw : Hid (∀V,SW w V->Calls prog 32 #[.agg #[.int .i64 P,.int .i64 M,.slice am mn cm,.int .i64 N,.slice a n c],.int .i64 120] V (dO V)):=λV hV=>lY P M am mn cm N a n c 120 L V (hi.ah hV) (by omega);have HDu : Hid (∀V,SW w V->Calls prog 45 #[.agg #[.int .i64 P,.int .i64 M,.slice am mn cm,.int .i64 N,.slice a n c]] V (gr P M mod N L V)):=λV hV=>gI P M am mn cm mod N a n c L V (hmod.ah hV) (hi.ah hV);have HSz : Hid (∀V a1 n1 c1 a2 n2 c2,Ints V a1 n1 mod->br V a2 n2 (aS (af P M.toNat mod) L N.toNat)->Calls prog 46 #[.agg #[.int .i64 P,.int .i64 M,.slice a1 n1 c1,.int .i64 N,.slice a2 n2 c2]] V λe w'=>∃x y,e = .returned (.tuple #[.int .i64 x,.int .i64 y])/\SW V w'):=λV a1 n1 c1 a2 n2 c2 h1 h2=>by refine (fJ P M a1 n1 c1 mod N a2 n2 c2 _ V h1 h2).mono ?_;rintro e w' ⟨h3,h4⟩;exact ⟨_,_,h3,h4⟩
 unfold gr at HDu;obtain ⟨D,hD⟩ : ∃D,aS (af P M.toNat mod) L N.toNat=D:=⟨_,rfl⟩
 obtain ⟨E,hE⟩ : ∃E,aF P M mod N L=E:=⟨_,rfl⟩
 rw [hD,hE] at HDu;rw [hD] at HSz;clear hmod hi hD hE;go_enter func14,ntmps14;go_upto_region 1 with fail;obtain ⟨W,hW⟩ : ∃W : World,W=(w.alloc (.cells #[.int .i64 P,.int .i64 M,.slice am mn cm,.int .i64 N,.slice a n c] 27)):=⟨_,rfl⟩
 rw [<- hW];have hbW : SW w W:=by rw [hW];exact an _ _
 have x0 : aN W w.heap.size [.int .i64 P,.int .i64 M,.slice am mn cm,.int .i64 N,.slice a n c]:=by rw [hW];exact R9 _ _ _ rfl
 clear hW;have HX:=Z5 x0;have HbW:=Z5 hbW;have c0:=x0.cell 0 rfl;have c1:=x0.cell 1 rfl;have c2:=x0.cell 2 rfl;have c3:=x0.cell 3 rfl;have c4:=x0.cell 4 rfl;clear x0 hbW;go_wp2_with fail;refine (HFw.out W HbW.out).mono ?_;rintro e U ⟨z,rfl,hb1⟩;clear c0 c1 c2 c3 c4;cases z
 ·have HF:=Z5 (RZ HbW.out hb1);clear hb1;go_wp2_with fail;go_ret;exact ⟨_,rfl,HF.out⟩
 have x1:=HX.out.ah hb1;have c0:=x1.cell 0 rfl;have c1:=x1.cell 1 rfl;have c2:=x1.cell 2 rfl;have c3:=x1.cell 3 rfl;have c4:=x1.cell 4 rfl;have HbU:=Z5 (RZ HbW.out hb1);clear x1;go_wp2_with fail;refine (HDu.out U HbU.out).mono ?_;rintro e V ⟨hb2,h⟩;have x2:=HX.out.ah (RZ hb1 hb2);have HX2:=Z5 x2;have HbV:=Z5 (RZ HbU.out hb2);clear c0 c1 c2 c3 c4 x2 hb1 hb2;rcases h with ⟨h0,rfl⟩ | ⟨h0,a1,d1,a2,d2,rfl,hI,hM⟩
 ·have hEb : (E != 0)=true:=by simpa using h0
  have HF:=Z5 (RZ HbV.out (an V (.cells #[.int .i64 0,.int .i64 0,.slice none 0 0,.int .i64 0,.slice none 0 0] 27)));clear h0;go_wp2_with fail;go_ret;exact ⟨_,rfl,HF.out⟩
 ·subst h0;obtain ⟨nm,hnm⟩ : ∃nm,mod.length=nm:=⟨_,rfl⟩
  obtain ⟨k,hk⟩ : ∃k,D.length=k:=⟨_,rfl⟩
  rw [hnm] at hI ⊢;rw [hk] at hM ⊢;clear hnm hk;go_upto_region 6 with fail;obtain ⟨V2,hV2⟩ : ∃V2 : World,V2=V.alloc (.cells #[.int .i64 P,.int .i64 M,.slice a1 nm d1,.int .i64 N,.slice a2 k d2] 27):=⟨_,rfl⟩
  rw [<- hV2];have hb3 : SW V V2:=by rw [hV2];exact an _ _
  have y0 : aN V2 V.heap.size [.int .i64 P,.int .i64 M,.slice a1 nm d1,.int .i64 N,.slice a2 k d2]:=by rw [hV2];exact R9 _ _ _ rfl
  have c0:=y0.cell 0 rfl;have c1:=y0.cell 1 rfl;have c2:=y0.cell 2 rfl;have c3:=y0.cell 3 rfl;have c4:=y0.cell 4 rfl;have HS2:=Z5 (HSz.out V2 a1 nm d1 a2 k d2 (hI.ah hb3) (hM.ah hb3));have HX3:=Z5 (HX2.out.ah hb3);have HbV2:=Z5 (RZ HbV.out hb3);clear hV2 hb3 y0 hI hM;go_wp2_with fail;refine HS2.out.mono ?_;rintro e w4 ⟨x,y,rfl,hb4⟩;have q3:=(HX3.out.ah hb4).cell 3 rfl;have HF:=Z5 (RZ HbV2.out hb4);clear c0 c1 c2 c3 c4 hb4 HS2;obtain ⟨z1,hz1⟩ : ∃z,decide (N<=20)=z:=⟨_,rfl⟩
  obtain ⟨z2,hz2⟩ : ∃z,(y != 0)=z:=⟨_,rfl⟩
  obtain ⟨z3,hz3⟩ : ∃z,decide (N<=9)=z:=⟨_,rfl⟩
  obtain ⟨z4,hz4⟩ : ∃z,decide (x<=600)=z:=⟨_,rfl⟩
  cases z1 <;> cases z2 <;> cases z3 <;> cases z4
  all_goals (
   go_wp2_with fail
   go_ret
   exact ⟨_,rfl,HF.out⟩)
def da (p : Nat->Bool) (k : Nat) : Lz:=((List.range k).filter p).map Int.ofNat
theorem zd (p : Nat->Bool) (k : Nat) : da p (k+1)=if p k=true then da p k ++ [(k : Int)] else da p k:=by
 unfold da;rw [Ou,Pe,NM];by_cases h : p k=true
 ·simp [h]
 ·simp [h]
theorem xg (p : Nat->Bool) (k : Nat) : (da p k).length<=k:=by unfold da;rw [Nq];have:=Pk p (List.range k);rwa [N7] at this
theorem pU {p : Nat->Bool} {k : Nat} {x : Int} : x ∈ da p k ↔ ∃j : Nat,j<k/\p j=true/\x=j:=by
 unfold da;rw [Pp];constructor
 ·rintro ⟨j,hj,rfl⟩;obtain ⟨h1,h2⟩:=List.mem_filter.1 hj;exact ⟨j,List.mem_range.1 h1,h2,rfl⟩
 ·rintro ⟨j,h1,h2,rfl⟩;exact ⟨j,List.mem_filter.2 ⟨List.mem_range.2 h1,h2⟩,rfl⟩
theorem vi (p : Nat->Bool) (k : Nat) : (da p k).Pairwise (λx y=>x<y):=by unfold da;rw [O6];exact Qb (λh=>Int.ofNat_lt.2 h) (Oy _ QP)
theorem mK {N : Int} {l : Lz} : ∀k,(∀i,i<k->fb N l i=true)->nM N l k=true
 | 0,_=>rfl
 | k+1,h=>fH (mK k λi hi=>h i (by omega)) (h k (by omega))
theorem rD (p : Nat->Bool) (m : Nat) : dk m (da p m)=true:=by
 unfold dk;refine mK _ λi hi=>?_;obtain ⟨j,hj,_,e⟩:=pU.1 (aH hi);have hp:=vi p m;rw [OY] at hp;unfold fb;have h2 : 0<i->nth (da p m) (i - 1)<nth (da p m) i:=λh0=>by rw [aj hi,aj (show i - 1<_ by omega)];exact hp (i - 1) i (by omega) hi (by omega)
 rw [e] at h2 ⊢;simp;omega
theorem uV {p : Nat->Bool} {m x : Nat} : x ∈ gA (da p m) ↔ x ∈ (List.range m).filter p:=by
 rw [jq,OG,PQ];constructor
 ·rintro ⟨y,hy,rfl⟩;obtain ⟨j,h1,h2,rfl⟩:=pU.1 hy;rw [Nb];exact ⟨h1,h2⟩
 ·rintro ⟨h1,h2⟩;exact ⟨(x : Int),pU.2 ⟨x,h1,h2,rfl⟩,Nb x⟩
section
variable {P M : Int} {mod : Lz} {m : Nat} {L : ZZ}
theorem vV (hE : aF P M mod m L=0) {i : Nat} (hi : i<m) : kL P M mod m L i=pY P M mod m L i:=by unfold kL kP;rw [Nd hE,Nf (show ¬ ((i : Int)<0\/(m : Int)<=(i : Int)) by omega),Nd rfl,Nb]
theorem Jc (hE : aF P M mod m L=0) {i : Nat} (hi : i<m) {p p' : Nat->Bool} (hp' : ∀k,p' k=true ↔ p k=true\/k=i) :
  (gk (af P M.toNat mod).ops L (da p' m)=gk (af P M.toNat mod).ops L (da p m)+1/\¬ jE (af P M.toNat mod).ops (af P M.toNat mod).El L.length (aR L) ((List.range m).filter p) i) \/
  (gk (af P M.toNat mod).ops L (da p' m)=gk (af P M.toNat mod).ops L (da p m)/\jE (af P M.toNat mod).ops (af P M.toNat mod).El L.length (aR L) ((List.range m).filter p) i):=by
 obtain ⟨N',e,hm1,hm64,F,hR⟩:=aM hE;obtain rfl : m=N':=by omega
 have hC:=fM F hR;have h1:=fu F hR (da p m);have h2:=fu F hR (da p' m);have hs : ∀y,y ∈ gA (da p' m) ↔ y ∈ i :: gA (da p m):=λy=>by
  rw [List.mem_cons,uV,uV,OG,OG,PQ,hp'];constructor
  ·rintro ⟨h3,h4 | h4⟩
   ·exact .inr ⟨h3,h4⟩
   ·exact .inl h4
  ·rintro (h4 | ⟨h3,h4⟩)
   ·exact ⟨by omega,.inr h4⟩
   ·exact ⟨h3,.inl h4⟩
 by_cases hc : jE (af P M.toNat mod).ops (af P M.toNat mod).El L.length (aR L) ((List.range m).filter p) i
 ·exact .inr ⟨SC hC h2 (Rk.dep i (hC.sub (λx hx=>uV.2 hx) hc) h1) hs,hc⟩
 ·exact .inl ⟨SC hC h2 (Rk.ind i (λh=>hc (hC.sub (λx hx=>uV.1 hx) h)) h1) hs,hc⟩
theorem F2 (hE : aF P M mod m L=0) {i : Nat} (hi : i<m) {p p' : Nat->Bool} (hpi : p i=false) (hp' : ∀k,p' k=true ↔ p k=true\/k=i) :
  gk (af P M.toNat mod).ops L (da p' m)=gk (af P M.toNat mod).ops L (da p m)+1 \/
  (gk (af P M.toNat mod).ops L (da p' m)=gk (af P M.toNat mod).ops L (da p m)/\iw P M mod m L i ≠ []/\(iX P M mod m L i).length<=(da p m).length):=by
 rcases Jc hE hi hp' with ⟨h,_⟩ | ⟨h,hc⟩
 ·exact .inl h
 ·have h2:=GR hE hi (λy hy=>List.mem_range.1 (List.mem_filter.1 hy).1) (λh3=>by rw [(List.mem_filter.1 h3).2] at hpi;cases hpi) (Oy _ QJ) hc;refine .inr ⟨h,h2.1,?_⟩;unfold iX da;rw [Nq];exact h2.2
end
def Dm (er : Int) (S D : Lz) (w : World) (e : Ending) (w' : World) : Prop :=
 SW w w'/\∃a n c a2 n2 c2,e = .returned (.tuple #[.slice a n c,.slice a2 n2 c2,.int .i64 er])/\Ints w' a n S/\Ints w' a2 n2 D
theorem JR {er : Int} {S D : Lz} {w : World} {e : Ending} {w' : World} (h : oJ er S D w e w') : Dm er (if er=0 then S else []) (if er=0 then D else []) w e w':=by
 obtain ⟨b,⟨h0,rfl⟩ | ⟨h0,a,c,a2,c2,rfl,h1,h2⟩⟩:=h
 ·rw [Nf h0,Nf h0];exact ⟨b,none,0,0,none,0,0,rfl,Sd _ _,Sd _ _⟩
 ·rw [Nd h0,Nd h0];exact ⟨b,a,_,c,a2,_,c2,by rw [h0],h1,h2⟩
end Go.Proofs.YthglbncgemdcbaaGreat
