import Derived.Test.YthglbncgemdcbaaGreatS31
namespace Go.Proofs.YthglbncgemdcbaaGreat
set_option linter.all false
set_option maxRecDepth 100000
set_option maxHeartbeats 4000000
open Go.RowKit Go.Proofs.Tryz
def Bl (P M : Int) (mod : Lz) (N : Int) (L : ZZ) (w : World) (e : Ending) (w' : World) : Prop :=
 SW w w'/\((aF P M mod N L ≠ 0/\e = .returned (.tuple #[.pointer none,.int .i64 (aF P M mod N L)])) \/
 (aF P M mod N L=0/\∃b,e = .returned (.tuple #[.pointer (some ⟨b,0,none⟩),.int .i64 0])/\ew w' b (af P M.toNat mod)))
theorem CN (P M : Int) (am : OA) (mn cm : Nat) (mod : Lz) (N : Int) (a : OA) (n c : Nat) (L : ZZ) (w : World) (hmod : Ints w am mn mod) (hi : br w a n L) :
  Calls prog 92 #[.agg #[.int .i64 P,.int .i64 M,.slice am mn cm,.int .i64 N,.slice a n c]] w (Bl P M mod N L w):=by
 go_enter func92,ntmps92;go_wp2_with fail;obtain ⟨W,hW⟩ : ∃W : World,W=w.alloc (.cells #[.int .i64 P,.int .i64 M,.slice am mn cm,.int .i64 N,.slice a n c] 27):=⟨_,rfl⟩
 rw [<- hW];have hbW : SW w W:=by rw [hW];exact an _ _
 have x0 : aN W w.heap.size [.int .i64 P,.int .i64 M,.slice am mn cm,.int .i64 N,.slice a n c]:=by rw [hW];exact R9 _ _ _ rfl
 have HX:=Z5 x0;clear hW x0;refine (dr P M am mn cm mod N a n c L W (hmod.ah hbW) (hi.ah hbW)).mono ?_;rintro e w1 ⟨rfl,hb1⟩;have hbw1:=RZ hbW hb1;by_cases hE : aF P M mod N L=0
 ·obtain ⟨hf,_⟩:=aG hE;have HE:=Z5 hE;have Hf:=Z5 hf;rw [hE];have x1:=HX.out.ah hb1;have c0:=x1.cell 0 rfl;have c1:=x1.cell 1 rfl;have c2:=x1.cell 2 rfl;have hm1:=(hmod.ah hbW).ah hb1;clear hE x1 hf;go_wp2_with fail;refine (ef P M am mn cm mod w1 hm1).mono ?_;rintro e w2 (⟨hB,rfl,hb2⟩ | ⟨hB,b,rfl,hG,hbl,hb2⟩)
  ·rw [Hf.out] at hB;cases hB
  ·clear hB;have hg:=hG.gf;go_wp2_with fail;go_ret2;exact ⟨RZ hbw1 hb2,.inr ⟨HE.out,b,rfl,hg⟩⟩
 ·have HE:=Z5 hE;have hE' : (aF P M mod N L != 0)=true:=by simpa using hE
  clear hE;go_wp2_with fail;go_ret2;exact ⟨hbw1,.inl ⟨HE.out,rfl⟩⟩
def oO (N : Int) (S : ZZ) : Int:=if S.all (dk N) then 0 else 6
theorem Jj (P M : Int) (am : OA) (mn cm : Nat) (N : Int) (a : OA) (n c : Nat) (sa : OA) (ns cs : Nat) (S : ZZ) (w : World) (hi : br w sa ns S) :
  Calls prog 93 #[.agg #[.int .i64 P,.int .i64 M,.slice am mn cm,.int .i64 N,.slice a n c],.slice sa ns cs] w λe w'=>e = .returned (.int .i64 (oO N S))/\SW w w':=by
 have Hlen:=Z5 hi.len;have hpl:=hi.pl;have hmax:=hi.max;unfold maxLen at hmax;go_enter func93,ntmps93;go_wp2_with fail;obtain ⟨W,hW⟩ : ∃W : World,W=w.alloc (.cells #[.int .i64 P,.int .i64 M,.slice am mn cm,.int .i64 N,.slice a n c] 27):=⟨_,rfl⟩
 rw [<- hW];have hbW : SW w W:=by rw [hW];exact an _ _
 have c3 : W.cell? ⟨w.heap.size,3,none⟩=some (.int .i64 N):=by rw [hW];exact aI _ _ _ rfl 3
 have hiW:=hi.ah hbW;clear hW;go_loop [11] (λiv=>∃k : Nat,k<=ns/\iv = .int .i64 k/\Hid ((S.take k).all (dk N)=true)) (λiv=>ns - (intOf iv).toNat);case atStart=>exact ⟨0,Ni _,rfl,by show _=_;simp⟩
 case round =>
  obtain ⟨k,hk,rfl,hall⟩:=hrel
  by_cases hlt : k<ns
  ·obtain ⟨ra,rn,rc,hcell,hrow⟩:=hiW.cell k hlt
   have hkS : k<S.length:=by rw [Hlen.out];exact hlt
   have Hrl:=Z5 hrow.len
   have hpr:=hrow.pl
   have hmr:=hrow.max
   unfold maxLen at hmr
   have Hng : Hid (ai S k=S[k]):=aC hkS
   generalize ai S k=l at *
   go_wp2_with fail
   go_loop [17] (λiv=>∃j : Nat,j<=rn/\iv = .int .i64 j/\Hid (nM N l j=true)) (λiv=>rn - (intOf iv).toNat)
   case atStart=>exact ⟨0,Ni _,rfl,by show _=_;simp [nM]⟩
   case round =>
    obtain ⟨j,hj,rfl,hok⟩:=hrel
    by_cases hlt2 : j<rn
    ·have cj:=hrow.cell j hlt2
     have hbad : fb N l j=false->oO N S=6:=λhb=>by
      rw [oO,Nf];have h1 : dk N S[k]=false:=by rw [<- Hng.out];exact sY (by rw [Hrl.out];exact hlt2) hb
      rw [dZ hkS h1];simp
     have Hbad:=Z5 hbad
     clear hbad
     by_cases h0 : 0<=nth l j
     ·by_cases h1 : nth l j<N
      ·have d1 : decide (nth l j<0)=false:=by simp;omega
       have d2 : decide (N<=nth l j)=false:=by simp;omega
       by_cases hj0 : j=0
       ·subst hj0
        have Hgood : Hid (fb N l 0=true):=by show _=_;unfold fb;simp [h0,h1]
        rw [Qv] at cj
        go_wp2_with fail
        go_round
        case rel=>exact ⟨1,by omega,by go_num,fH hok.out Hgood.out⟩
        case measure=>simp [intOf] <;> omega
       ·have cp:=hrow.cell (j - 1) (by omega)
        have e1 : ((j : Int) - 1).toNat=j - 1:=by omega
        have d3 : decide (0<(j : Int))=true:=by simp;omega
        have d4 : (0 : Int)<=(j : Int) - 1:=by omega
        have d5 : (1 : Int)<=(j : Int):=by omega
        have d6 : (j : Int) - 1<rn:=by omega
        by_cases h2 : nth l (j - 1)<nth l j
        ·have Hgood : Hid (fb N l j=true):=by show _=_;unfold fb;simp [h0,h1,h2]
         have h2' : decide (nth l j<=nth l (j - 1))=false:=by simp;omega
         clear hj0 e1
         go_wp2_with fail
         go_round
         case rel=>exact ⟨j+1,by omega,by go_num,fH hok.out Hgood.out⟩
         case measure=>simp [intOf] <;> omega
        ·have Hb : Hid (oO N S=6):=Hbad.out (by unfold fb;simp [h2,hj0])
         have h2' : decide (nth l j<=nth l (j - 1))=true:=by simp;omega
         clear hj0 e1
         go_wp2_with fail
         go_ret
         exact ⟨aP Hb.out.symm,hbW⟩
      ·have Hb : Hid (oO N S=6):=Hbad.out (by unfold fb;simp [h1])
       have d1 : decide (nth l j<0)=false:=by simp;omega
       have d2 : decide (N<=nth l j)=true:=by simp;omega
       go_wp2_with fail
       go_ret
       exact ⟨aP Hb.out.symm,hbW⟩
     ·have Hb : Hid (oO N S=6):=Hbad.out (by unfold fb;simp [h0])
      have d1 : decide (nth l j<0)=true:=by simp;omega
      go_wp2_with fail
      go_ret
      exact ⟨aP Hb.out.symm,hbW⟩
    ·obtain rfl : j=rn:=by omega
     have Hg : Hid (dk N S[k]=true):=by show _=_;rw [<- Hng.out,dk,Hrl.out];exact hok.out
     go_wp2_with fail
     go_round
     case rel=>exact ⟨k+1,by omega,by go_num,ed hkS hall.out Hg.out⟩
     case measure=>simp [intOf] <;> omega
  ·obtain rfl : k=ns:=by omega
   have Hg : Hid (oO N S=0):=by have:=hall.out;rw [No (by rw [Hlen.out];exact Na _)] at this;show _=_;rw [oO,Nd this]
   go_wp2_with fail
   go_ret
   exact ⟨aP Hg.out.symm,hbW⟩
theorem Dg (P M : Int) (am : OA) (mn cm : Nat) (N : Int) (a : OA) (n c : Nat) (L : ZZ) (i : Nat) (w : World) (hi : br w a n L) (hL : ∀r ∈ L,i<r.length) (hn : n<=1000000) :
  Calls prog 149 #[.agg #[.int .i64 P,.int .i64 M,.slice am mn cm,.int .i64 N,.slice a n c],.int .i64 i] w (b8 w (aR L i)):=by
 have Hlen:=Z5 hi.len;have hpl:=hi.pl;have HL:=Z5 hL;clear hL;go_enter func149,ntmps149;go_wp2_with (at_make;refine bS rfl _ _ 22 3 rfl (.int .i64 0) 8 underlying22 aU rfl n rfl rfl (by omega) (by unfold maxLen;omega) ?_;intro a1 w1 hown hbel hge hlt;have c4 : w1.cell? ⟨w.heap.size,4,none⟩=some (.slice a n c):=aB hbel (aI _ _ _ rfl 4));have hbw : SW w w1:=RZ (an w _) hbel;have hs1 : w.heap.size+1<=ablk a1:=by simpa using hge
 have hown1 : w1.ownsRow w.heap.size 3 1 (.slice a1 n n) n (List.replicate n (.int .i64 0)):=aX hown (by simp);clear hown hbel hge;go_loopw [15] (λiv wr=>∃k : Nat,k<=n/\iv = .int .i64 k /\
   wr.ownsRow w.heap.size 3 1 (.slice a1 n n) n ((dC ((aR L i).take k) k n).map (Value.int .i64))/\SW w wr)
  (λi _=>n - (intOf i).toNat)
 case atStart=>exact ⟨0,Ni _,rfl,by simpa [dC] using hown1,hbw⟩
 case round =>
  obtain ⟨k,hk,rfl,hown,hbel⟩:=hrel
  obtain ⟨hints,hmine⟩:=R6 hown
  have hpl1:=hints.pl
  by_cases hlt : k<n
  ·obtain ⟨ra,rn,rc,hcell,hrow⟩:=(hi.ah hbel).cell k hlt
   have hkL : k<L.length:=by rw [Hlen.out];exact hlt
   have hri : i<rn:=by rw [<- hrow.len,aC hkL];exact HL.out _ (NO hkL)
   have ci:=hrow.cell i hri
   have hpr:=hrow.pl
   have hf:=(hmine (by omega)).2 k hlt
   have hc2:=hints.cell k hlt
   have hB:=(hmine (by omega)).1
   have Hv:=Z5 (cI L i k hkL)
   go_wp2_with fail
   go_roundw
   case rel =>
    refine ⟨k+1,by omega,by go_num,?_,hbel.setCell hB _⟩
    have h:=bK hown k hlt (.int .i64 (nth (ai L k) i))
    rw [<- NF,fW _ _ _ _ (by rw [NG,db];omega) hlt] at h
    rw [Nj (by rw [db];omega),<- aj,Hv.out]
    exact h
   case measure=>simp [intOf] <;> omega
  ·obtain rfl : k=n:=by omega
   have hl : (aR L i).length=k:=by rw [db];exact Hlen.out
   rw [gS,No (by omega)] at hown
   have Hl:=Z5 hl
   clear hl
   go_wp2_with fail
   go_ret
   exact ⟨a1,k,by rw [Hl.out];rfl,by rw [Hl.out];exact hown,hbel⟩
theorem y5 (x : Int) (w : World) : Calls prog 200 #[.int .i64 x] w λe w'=>e = .returned (.bool (x != 0))/\w=w':=by go_enter func200,ntmps200;go_wp2;go_ret;exact ⟨rfl,rfl⟩
theorem BK (a : OA) (n c : Nat) (l : Lz) (w : World) (hi : Ints w a n l) :
  Calls prog 111 #[.slice a n c,.func (.func 200) #[] #[]] w λe w'=>e = .returned (.int .i64 (oQ l))/\w=w':=by
 have Hlen:=Z5 hi.len;have hpl:=hi.pl;have hmax:=hi.max;unfold maxLen at hmax;go_enter func111,ntmps111;go_wp2_with fail;go_loop [8] (λiv=>∃k : Nat,k<=n/\iv = .int .i64 k/\Hid (∀j,j<k->nth l j=0)) (λiv=>n - (intOf iv).toNat);case atStart=>exact ⟨0,Ni _,rfl,λj hj=>by omega⟩
 case round =>
  obtain ⟨k,hk,rfl,hall⟩:=hrel
  by_cases hlt : k<n
  ·have ck:=hi.cell k hlt
   by_cases hz : nth l k=0
   ·have hz' : (nth l k != 0)=false:=by simpa using hz
    have Hz:=Z5 hz
    clear hz
    go_wp2_with fail
    refine (y5 _ _).mono ?_
    rintro e w' ⟨rfl,rfl⟩
    go_wp2_with fail
    go_round
    case rel=>exact ⟨k+1,by omega,by go_num,λj hj=>by
     rcases N3 j k with h | h
     ·exact hall.out j h
     ·rw [show j=k by omega];exact Hz.out⟩
    case measure=>simp [intOf] <;> omega
   ·have hz' : (nth l k != 0)=true:=by simpa using hz
    have Hf : Hid (oQ l=k):=by show _=_;have:=vU l k (by rw [Hlen.out];exact hlt) hall.out hz;rw [oQ,this,Nd (by rw [Hlen.out];exact hlt)]
    clear hz
    go_wp2_with fail
    refine (y5 _ _).mono ?_
    rintro e w' ⟨rfl,rfl⟩
    go_wp2_with fail
    go_ret
    exact ⟨aP Hf.out.symm,rfl⟩
  ·obtain rfl : k=n:=by omega
   have Hf : Hid (oQ l = -1):=by show _=_;have:=rX l (by rw [Hlen.out];exact hall.out);rw [oQ,this,Nf (by omega)]
   go_wp2_with fail
   go_ret
   exact ⟨aP Hf.out.symm,rfl⟩
theorem JJ {w w0 : World} {b : Nat} {G : dn} (bb : Nat) (ar : OA) (cr : Nat) (R : Z4) (ap : OA) (cp : Nat) (s : BS) (av : OA) (cv n : Nat) (v : Lz)
  (h : ew w0 b G) (hb : SW w0 w) (hB : rJ w w0.heap.size bb b ar cr R ap cp s) (hs : s.Ok G.El n) (hv : w.ownsRow w0.heap.size 3 1 (.slice av n cv) n (v.map (Value.int .i64)))
  (hav : av ≠ none->¬ vo bb ar R ap (ablk av)) (hve : G.Ec v) (hn : n<=1000000) (hk : s.rows.length<=1000000) :
  Calls prog 148 #[.pointer (some ⟨bb,0,none⟩),.slice av n cv] w (CC w0 bb b ar R ap av G.ops s v w):=by
 have hvl : v.length=n:=by simpa using kS hv
 have hpv:=(R6 hv).1.pl;have hcl:=SA h;have hred:=mO hcl hs.rws hs.plc ⟨hvl,hve⟩;have Hred:=Z5 hred;have Hvl:=Z5 hvl;have Hs:=Z5 hs;have Hve:=Z5 hve;have c1:=hB.c1;have hplr:=hB.om.pl;clear hred hvl hs hve;go_enter func148,ntmps148;go_wp2_with fail;obtain ⟨kk,hkk⟩ : ∃kk,s.rows.length=kk:=⟨_,rfl⟩
 have Hkk:=Z5 hkk;rw [hkk] at hk hplr c1;rw [hkk];clear hkk;go_loopw [18] (λiv wr=>∃k : Nat,k<=kk/\iv = .int .i64 k/\wr.ownsRow w0.heap.size 3 1 (.slice av n cv) n ((redTo G.ops s.rows s.place v k).map (Value.int .i64))/\dp av w wr) (λiv _=>kk - (intOf iv).toNat);case atStart=>exact ⟨0,Ni _,rfl,hv,Sq _ _⟩
 case round =>
  obtain ⟨k,hkk2,rfl,hown,honly⟩:=hrel
  have hBr:=hB.only honly hav
  by_cases hlt : k<kk
  ·have hkr : k<s.rows.length:=by rw [Hkk.out];exact hlt
   have e0:=hBr.c0
   have e2:=hBr.c2
   have er:=hBr.om.cell hkr
   have ir:=hBr.om.ints hkr
   have hrow:=Hs.out.rws.row hkr
   have hplc:=Hs.out.plc k hkr
   rw [hrow.1] at er ir
   obtain ⟨ip,mp⟩:=R6 hBr.pl
   have ep:=ip.cell k hkr
   have hpp:=ip.pl
   rw [Hkk.out] at e2 hpp
   obtain ⟨pn,hpn⟩ : ∃pn : Nat,nth s.place k=pn:=⟨(nth s.place k).toNat,by omega⟩
   rw [hpn] at ep hplc
   have hpnn : pn<n:=by omega
   have hrd:=Hred.out k (by omega)
   have hrd1:=Hred.out (k+1) (by omega)
   have hstep : redTo G.ops s.rows s.place v (k+1)=eK G.ops (redTo G.ops s.rows s.place v k) pn (ai s.rows k):=by rw [redTo,hpn]
   have Hstep:=Z5 hstep
   have Hrow:=Z5 hrow
   have Hpn:=Z5 hpn
   clear hstep hpn
   obtain ⟨u,hu⟩ : ∃u,redTo G.ops s.rows s.place v k=u:=⟨_,rfl⟩
   rw [hu] at hown hrd
   have Hu:=Z5 hu
   obtain ⟨iu,mu⟩:=R6 hown
   have eu:=iu.cell pn hpnn
   have hpu:=iu.pl
   have Hrd:=Z5 hrd
   clear hu hrow hrd hrd1
   by_cases hz : nth u pn=0
   ·have hz' : (nth u pn != 0)=false:=by simpa using hz
    have Hn : Hid (redTo G.ops s.rows s.place v (k+1)=u):=by show _=_;rw [Hstep.out,Hu.out,eK,Nb,Nd hz]
    clear hz
    go_wp2_with fail
    go_roundw
    case rel=>exact ⟨k+1,by omega,by go_num,by rw [Hn.out];exact hown,honly⟩
    case measure=>simp [intOf] <;> omega
   ·have hz' : (nth u pn != 0)=true:=by simpa using hz
    have Hn : Hid (redTo G.ops s.rows s.place v (k+1)=ez G.ops u (nth u pn) (ai s.rows k)):=by show _=_;rw [Hstep.out,Hu.out,eK,Nb,Nf hz]
    have hxe : G.El (nth u pn):=Hrd.out.2 _ (aH (by rw [Hrd.out.1];exact hpnn))
    have hSl : (ez G.ops u (nth u pn) (ai s.rows k)).length=u.length:=fZ _ _ _ _ (by rw [Hrow.out.1,Hrd.out.1])
    have hSn:=λi hi=>ga G.ops u (nth u pn) (ai s.rows k) i (by rw [Hrow.out.1,Hrd.out.1]) hi
    have HSl:=Z5 hSl
    have HSn:=Z5 hSn
    clear hz hSl hSn
    have hplr2:=ir.pl
    go_wp2_with fail
    generalize nth u pn=x at *
    generalize ez G.ops u x (ai s.rows k)=S at *
    go_loopw [37] (λiv wx=>∃j : Nat,j<=n/\iv = .int .i64 j/\wx.ownsRow w0.heap.size 3 1 (.slice av n cv) n ((jk S u j).map (Value.int .i64))/\dp av w wx) (λiv _=>n - (intOf iv).toNat)
    case atStart=>exact ⟨0,Ni _,rfl,by rw [gR];exact hown,honly⟩
    case round =>
     obtain ⟨j,hj,rfl,hown2,honly2⟩:=hrel
     have hBx:=hB.only honly2 hav
     have ix:=hBx.om.ints hkr
     rw [Hrow.out.1] at ix
     by_cases hjn : j<n
     ·have cj:=ix.cell j hjn
      have f0:=hBx.c0
      obtain ⟨im,mm⟩:=R6 hown2
      have cm:=im.cell j hjn
      have fm:=(mm (by omega)).2 j hjn
      have hju : j<u.length:=by rw [Hrd.out.1];exact hjn
      have hmix:=fI S u j j HSl.out (by omega)
      rw [Nf (by omega)] at hmix
      rw [hmix] at cm
      have hset:=gD S u j HSl.out hju
      rw [HSn.out j hju] at hset
      have Hset:=Z5 hset
      have ely : G.El (nth (ai s.rows k) j):=Hrow.out.2 _ (aH (by rw [Hrow.out.1];exact hjn))
      have elv : G.El (nth u j):=Hrd.out.2 _ (aH hju)
      have elm : ∀x y,G.El (G.mul x y):=λx y=>SE h x y
      have hbx : SW w0 wr:=N2 hb (honly2.below (λha=>(aY hv ha).1) hb.size)
      have hGr : ew wr b G:=h.ah hbx
      have HG : Hid (ew wr.drew b G/\∀n,ew (wr.drewN n) b G):=⟨hGr.ah (Nc _ _).drew,λn=>hGr.drewN n⟩
      clear hset hmix
      go_wp2_with fail
      go_region_law ((first
       | (go_simp;go_at_call 57;((with_reducible refine (qF x (nth (ai s.rows k) j) HG.out.1 hxe ely).mono ?_);rintro e w4 ⟨m4,rfl,rfl⟩))
       | (go_simp;go_at_call 57;((with_reducible refine (qF x (nth (ai s.rows k) j) (HG.out.2 _) hxe ely).mono ?_);rintro e w4 ⟨m4,rfl,rfl⟩))
       | (go_simp;go_at_call 199;((with_reducible refine (Lj (nth u j) (G.mul x (nth (ai s.rows k) j)) (HG.out.2 _) elv (elm _ _)).mono ?_);rintro e w4 ⟨m5,rfl,rfl⟩))))
      all_goals (
       go_wp2_with fail
       go_roundw
       case rel =>
        have hdr : bf wr (wr.drewN (1+m4+m5)):=⟨_,rfl⟩
        refine ⟨j+1,by omega,by go_num,?_,honly2.trans ((Sm hdr).trans (St _ j _ (by intro e;have:=hpv (by omega);rw [e] at this;cases this)))⟩
        have h1:=bK (w:=wr.drewN (1+m4+m5)) hown2 j hjn (.int .i64 (G.sub (nth u j) (G.mul x (nth (ai s.rows k) j))))
        rw [<- NF,show G.sub (nth u j) (G.mul x (nth (ai s.rows k) j))=G.ops.add (nth u j) (G.ops.neg (G.ops.mul x (nth (ai s.rows k) j))) from rfl,Hset.out] at h1
        exact h1
       case measure=>simp [intOf] <;> omega)
     ·obtain rfl : j=n:=by omega
      rw [iW S u j (by rw [HSl.out,Hrd.out.1]) Hrd.out.1] at hown2
      go_wp2_with fail
      go_roundw
      case rel=>exact ⟨k+1,by omega,by go_num,by rw [Hn.out];exact hown2,honly2⟩
      case measure=>simp [intOf] <;> omega
  ·obtain rfl : k=kk:=by omega
   have hrd:=Hred.out k (by rw [Hkk.out];exact Na _)
   have hurd : redTo G.ops s.rows s.place v k=s.red G.ops v:=by rw [BS.red,Hkk.out]
   rw [hurd] at hown hrd
   obtain ⟨iu,mu⟩:=R6 hown
   have Hrd:=Z5 hrd
   clear hurd hrd
   go_wp2_with fail
   refine (BK _ _ _ _ _ iu).mono ?_
   rintro e w' ⟨rfl,rfl⟩
   by_cases hf : fnz (s.red G.ops v)<(s.red G.ops v).length
   ·have hfv : oQ (s.red G.ops v)=fnz (s.red G.ops v):=by rw [oQ,Nd hf]
    have hfn:=pz _ hf
    have Ht : Hid (s.eF G.ops v=true):=by show _=_;simpa [BS.eF] using hf
    have HN : Hid (s.next G.ops v=⟨s.rows ++ [(s.red G.ops v).map (G.mul (G.inv (nth (s.red G.ops v) (fnz (s.red G.ops v)))))],s.place ++ [(fnz (s.red G.ops v) : Int)]⟩):=by show _=_;rw [BS.next,Nd Ht.out];rfl
    rw [hfv]
    obtain ⟨u,hu⟩ : ∃u,s.red G.ops v=u:=⟨_,rfl⟩
    rw [hu] at hown Hrd hf hfn iu HN
    rw [hu]
    clear hu hfv
    obtain ⟨f,hff⟩ : ∃f,fnz u=f:=⟨_,rfl⟩
    rw [hff] at hf hfn HN
    rw [hff]
    have hfn' : f<n:=by rw [<- Hrd.out.1];exact hf
    have e0:=hBr.c0
    have eu:=iu.cell f hfn'
    have hpu:=iu.pl
    have elf : G.El (nth u f):=Hrd.out.2 _ (aH hf)
    have hbx : SW w0 wr:=N2 hb (honly.below (λha=>(aY hv ha).1) hb.size)
    have hGr : ew wr b G:=h.ah hbx
    have HG : Hid (ew wr.drew b G/\∀n,ew (wr.drewN n) b G):=⟨hGr.ah (Nc _ _).drew,λn=>hGr.drewN n⟩
    have Hfn:=Z5 hfn
    have Hf:=Z5 hf
    clear hff hfn hf
    go_upto_region 15 with fail
    go_cut [11] (λdv wx=>dv = .int .i64 (G.inv (nth u f))/\bf wr wx)
    case first =>
     go_region_held3 (λw'=>w'.cell? ⟨bb,0,none⟩=some (.pointer (some ⟨b,0,none⟩))/\w'.cell? ⟨ablk av,aK av+f,none⟩=some (.int .i64 (nth u f)))
      (exact ⟨e0,eu⟩)
      (first
      | (go_at_call 201;((with_reducible refine (Jt _ HG.out.1 elf Hfn.out).mono ?_);rintro e w4 ⟨m4,rfl,rfl⟩)))
     all_goals (
      go_step;go_step
      go_meet
      exact ⟨rfl,⟨_,rfl⟩⟩)
    obtain ⟨rfl,hdr⟩:=hcut
    generalize wc=V at *
    have hBV : rJ V w0.heap.size bb b ar cr R ap cp s:=hBr.ah hdr.below
    have hownV:=bd hown hdr.below
    have hbV : SW w0 V:=hdr.zU hbx
    have honV : dp av w V:=honly.trans (Sm hdr)
    clear hBr hown hbx hGr HG e0 eu iu mu hdr honly
    obtain ⟨iu,mu⟩:=R6 hownV
    have HGV : Hid (ew V.drew b G/\∀n,ew (V.drewN n) b G):=⟨(h.ah hbV).ah (Nc _ _).drew,λn=>(h.ah hbV).drewN n⟩
    have hiel : G.El (G.inv (nth u f)):=SV h _
    have e0:=hBV.c0
    have e1:=hBV.c1
    have f1:=hBV.fr 1
    have hS : ∀W,SW V W->W.cell? ⟨bb,0,none⟩=some (.pointer (some ⟨b,0,none⟩))/\W.cell? ⟨bb,1,none⟩=some (.slice ar s.rows.length cr)/\W.frozen? ⟨bb,1,none⟩=false/\SW V W:=by intro W hW;have hBW:=hBV.ah hW;exact ⟨hBW.c0,hBW.c1,hBW.fr 1,hW⟩
    have HS:=Z5 hS
    have haptb : gE ar bb:=by
     by_cases ha : ar=none
     ·exact .inl ha
     ·exact .inr λe=>hBV.d1 (.inl ⟨ha,e.symm⟩)
    have hR : ∀W,SW V W->W.ownsRow w0.heap.size 22 1 (.slice ar k cr) k (List.zipWith l5 R s.rows):=λW hW=>by have:=(hBV.om.ah hW).own;rwa [Hkk.out] at this
    have HR:=Z5 hR
    obtain ⟨N,hN⟩ : ∃N,u.map (G.mul (G.inv (nth u f)))=N:=⟨_,rfl⟩
    have hsc : Calls prog 66 #[.pointer (some ⟨b,0,none⟩),.int .i64 (G.inv (nth u f)),.slice av n cv] V.drew (b8 V.drew N):=by rw [<- hN];exact xj (G.inv (nth u f)) _ _ _ u HGV.out.1 hiel (iu.ah (Nc _ _).drew) Hrd.out.2 hn
    have Hsc:=Z5 hsc
    have HNe:=Z5 hN
    rw [hN] at HN
    clear hN hsc
    clear hS hR
    go_upto_region 16 with fail
    go_cut [] (λwx=>∃ar' cr' R',wx.cell? ⟨bb,1,none⟩=some (.slice ar' (k+1) cr')/\aT wx w0.heap.size ar' (k+1) cr' R' (s.rows ++ [N]) /\
     aE V wx (λx=>x=bb\/cU ar R x) (λx=>x=bb\/cU ar' R' x)/\¬ cU ar' R' bb /\
     (∀i v,i ≠ 1->V.cell? ⟨bb,i,none⟩=some v->wx.cell? ⟨bb,i,none⟩=some v)/\∀i,wx.frozen? ⟨bb,i,none⟩=false)
    case first =>
     rw [Hkk.out] at e1 HS
     go_region_law ((first
      | (go_simp;go_at_call 66;((with_reducible refine Hsc.out.mono ?_);rintro e w4 ⟨a4,c4,rfl,hown4,hb4⟩;obtain ⟨q0,q1,q2,q5⟩:=HS.out w4 (RZ (Nc _ _).drew hb4);have q6 : bb<w4.heap.size:=Nt w4 _ q0))
      | (refine dE (by rfl) (.tmp 83) (.tmp 91) 25 22 (by rfl) (.slice none 0 0) 24 underlying25 df (by rfl) w0.heap.size ar k cr (List.zipWith l5 R s.rows) (by rfl) (HR.out _ (RZ q5 (an _ _))) (some ⟨w4.heap.size,0,none⟩) 1 1 [.slice a4 N.length c4] (by rfl) (λ_=>rfl) rfl (by intro j hj;obtain rfl : j=0:=(by omega);exact dj _ _ _ rfl) (by intro y hy;simp at hy;subst hy;rfl) (by omega) (by unfold maxLen;omega) (by have e1:=hbV.size;have e2:=Om q5;simp;omega) ?_;intro a5 c5 w5 hown5 hgr5 hap5;have p1:=bT hgr5 (bu q1 _) haptb;have p2 : w5.frozen? ⟨bb,1,none⟩=false:=(N1 (hgr5.block bb (Nt _ _ (bu q1 _)) (λe=>haptb.own k cr e.symm))).trans (dX (Nt _ _ q1) q2 _))))
     all_goals (
      go_wp2_with fail
      go_meet
      exact hBV.JC Hkk.out hbV.size (RZ (Nc _ _).drew hb4) hown4 hown5 hgr5 hap5 ⟨_,p1⟩)
    obtain ⟨ar',cr',R',y1,hOX,hMX,hdX,hcX,hfX⟩:=hcut
    generalize wc=X at *
    have y0:=hcX 0 _ (by omega) e0
    have y2:=hcX 2 _ (by omega) hBV.c2
    have yf:=hfX 2
    have hnI : ap ≠ none->¬ (ablk ap=bb\/cU ar R (ablk ap)):=λh0 hI=>by
     rcases hI with h1 | h1
     ·rcases hBV.d2 with h2 | h2
      ·exact h0 h2
      ·exact h2 h1
     ·exact hBV.d3 h0 h1
    have hpX:=hMX.own hBV.pl hnI
    have hd3 : ap ≠ none->¬ cU ar' R' (ablk ap):=λh0 hI=>hMX.not (aY hBV.pl h0).2 (hnI h0) (.inr hI)
    rw [Hkk.out] at y2 hpX
    have hbX : SW w0 X:=hbV.trans (hMX.below (λx hx=>(hBV.lt x (by rcases hx with h1 | h1;exact .inl h1;exact .inr (.inl h1))).1) hbV.size)
    have hz : bb<X.heap.size:=Nt X _ y0
    have HfX:=Z5 hfX
    have Hd3:=Z5 hd3
    have HdX:=Z5 hdX
    have hd2:=hBV.d2
    have hbB:=hBV.bB
    have hcn:=ba X (.int .i64 f) 3
    clear hcX hfX hd3 hdX e0 e1 f1
    go_wp2_with (at_builtin;refine aO rfl _ _ 22 3 rfl (.int .i64 0) 8 underlying22 aU rfl w0.heap.size ap k cp _ rfl (hpX.alloc _) ⟨X.heap.size,0,none⟩ 1 (.int .i64 f) rfl hcn rfl (by omega) (by unfold maxLen;omega) (by have e1:=hbX.size;simp;omega) ?_;intro a6 c6 w6 hown6 hgr6 hap6;have p1:=bT hgr6 (bu y2 _) hd2;have p2 : w6.frozen? ⟨bb,2,none⟩=false:=(N1 (hgr6.block bb (Nt _ _ (bu y2 _)) (λe=>hd2.own k cp e.symm))).trans (dX hz yf _))
    have hP:=rJ.JT (w6:=w6) hbB y0 y1 ⟨_,y2⟩ HfX.out hOX hpX HdX.out hd2 Hd3.out hown6 hgr6 hap6
    have HP:=Z5 hP
    clear hP
    go_ret
    refine ⟨ar',cr',R',a6,c6,aZ Ht.out.symm,by rw [HN.out];exact HP.out.1,?_⟩
    refine Sx (w':=V) (I':=λx=>vo bb ar R ap x\/(av ≠ none/\x=ablk av)) ?_ (Sx (w':=X) (I':=vo bb ar' R' ap) ?_ HP.out.2)
    ·exact ⟨honV.os,honV.tape,honV.output,honV.size,λx hx hI=>honV.block x hx λh2=>hI (.inr h2),λx hx=>.inl hx⟩
    ·refine ⟨hMX.os,hMX.tape,hMX.output,hMX.size,λx hx hI=>hMX.block x hx λh2=>hI (.inl (by rcases h2 with h3 | h3;exact .inl h3;exact .inr (.inl h3))),λx hx=>?_⟩
     rcases hx with h1 | h1 | h1
     ·exact .inl (.inl (.inl h1))
     ·rcases hMX.grow x (.inr h1) with h2 | h2
      ·exact .inl (.inl (by rcases h2 with h3 | h3;exact .inl h3;exact .inr (.inl h3)))
      ·exact .inr h2
     ·exact .inl (.inl (.inr (.inr h1)))
   ·have hfv : oQ (s.red G.ops v) = -1:=by rw [oQ,Nf hf]
    rw [hfv]
    have Ht : Hid (s.eF G.ops v=false):=by show _=_;simp [BS.eF];omega
    have HN : Hid (s.next G.ops v=s):=by show _=_;rw [BS.next,Nf (by rw [Ht.out];simp)]
    clear hf hfv
    go_wp2_with fail
    go_ret
    refine ⟨ar,cr,R,ap,cp,aZ Ht.out.symm,by rw [HN.out];exact hBr,?_⟩
    exact ⟨honly.os,honly.tape,honly.output,honly.size,λx hx hI=>honly.block x hx λh2=>hI (.inr h2),λx hx=>.inl (.inl hx)⟩
theorem Dv {w : World} {b : Nat} {G : dn} (P M : Int) (am : OA) (mn cm : Nat) (N : Int) (a : OA) (n c : Nat) (L : ZZ) (m : Nat) (ao : OA) (no co : Nat) (Q : Lz)
  (h : ew w b G) (hi : br w a n L) (hR : bp G.El m L) (hq : Ints w ao no Q) (hQ : ∀k,k<no->0<=nth Q k/\nth Q k<m) (hn : n<=1000000) (hno : no<=1000000) :
  Calls prog 94 #[.pointer (some ⟨b,0,none⟩),.agg #[.int .i64 P,.int .i64 M,.slice am mn cm,.int .i64 N,.slice a n c],.slice ao no co] w (b8 w (kC G.ops L Q)):=by
 have Hlen:=Z5 hi.len;have HR:=Z5 hR;have HQ:=Z5 hQ;have Hql:=Z5 hq.len;have hplq:=hq.pl;have hcl:=Z5 (SA h);clear hR hQ;go_enter func94,ntmps94;go_wp2_with fail;obtain ⟨W,hW⟩ : ∃W : World,W=w.alloc (.cells #[.int .i64 P,.int .i64 M,.slice am mn cm,.int .i64 N,.slice a n c] 27):=⟨_,rfl⟩
 rw [<- hW];have hbW : SW w W:=by rw [hW];exact an _ _
 have x0 : aN W w.heap.size [.int .i64 P,.int .i64 M,.slice am mn cm,.int .i64 N,.slice a n c]:=by rw [hW];exact R9 _ _ _ rfl
 have hsW : w.heap.size+1=W.heap.size:=by rw [hW];simp
 rw [hsW];have HX:=Z5 x0;have HsW:=Z5 hsW;have hGW:=h.ah hbW;have hiW:=hi.ah hbW;have hqW:=hq.ah hbW;clear hW x0 hsW;obtain ⟨V,hV⟩ : ∃V : World,V=W.alloc (.cells #[.pointer (some ⟨b,0,none⟩),.slice none 0 0,.slice none 0 0] 164):=⟨_,rfl⟩
 rw [<- hV];have hbV : SW W V:=by rw [hV];exact an _ _
 have hB0 : rJ V W.heap.size W.heap.size b none 0 [] none 0 ⟨[],[]⟩:=rJ.start (Na _) (by rw [hV];exact R9 _ _ _ rfl);clear hV;go_loopw [8,16] (λqv iv wr=>∃(k : Nat) (aq : OA) (cq : Nat) (out : Lz) (s : BS) (ar : OA) (cr : Nat) (R : Z4) (ap : OA) (cp : Nat),k<=no/\iv = .int .i64 k/\qv = .slice aq out.length cq /\
   Hid (grTo G.ops L Q k=(s,out))/\rJ wr W.heap.size W.heap.size b ar cr R ap cp s/\wr.ownsRow W.heap.size 3 1 (.slice aq out.length cq) out.length (out.map (Value.int .i64))/\Hid (aq ≠ none->¬ vo W.heap.size ar R ap (ablk aq)) /\
   SW W wr/\Hid (s.Ok G.El n)/\s.rows.length<=k/\out.length<=k)
  (λ_ iv _=>no - (intOf iv).toNat)
 case atStart=>exact ⟨0,none,0,[],⟨[],[]⟩,none,0,[],none,0,Ni _,rfl,rfl,rfl,hB0,bV,λh0=>absurd rfl h0,hbV,⟨λr hr=>by simp at hr,rfl,λi hi=>by simp at hi⟩,Ni _,Ni _⟩
 case round =>
  obtain ⟨k,aq,cq,out,s,ar,cr,R,ap,cp,hk,rfl,rfl,hst,hBr,hop,hdq,hbr,hok,hsk,hok2⟩:=hrel
  generalize wr=U at *
  by_cases hlt : k<no
  ·have cq1:=(hqW.ah hbr).cell k hlt
   have hQk:=HQ.out k hlt
   obtain ⟨i,hik⟩ : ∃i : Nat,nth Q k=i:=⟨(nth Q k).toNat,by omega⟩
   rw [hik] at cq1 hQk
   have him : i<m:=by omega
   have xU:=HX.out.ah hbr
   have b0:=xU.cell 0 rfl
   have b1:=xU.cell 1 rfl
   have b2:=xU.cell 2 rfl
   have b3:=xU.cell 3 rfl
   have b4:=xU.cell 4 rfl
   have hcol:=EE HR.out him
   rw [Hlen.out] at hcol
   have hstep : grTo G.ops L Q (k+1)=(s.next G.ops (aR L i),if s.eF G.ops (aR L i)=true then out ++ [(i : Int)] else out):=by rw [grTo,hst.out,hik,Nb]
   have Hstep:=Z5 hstep
   have Hcol:=Z5 hcol
   clear xU hstep hcol hik
   go_wp2_with fail
   refine (Dg P M am mn cm N a n c L i U (hiW.ah hbr) (λr hr=>by rw [(HR.out r hr).1];exact him) hn).mono ?_
   rintro e w3 ⟨a3,c3,rfl,hown3,hb3⟩
   rw [Hcol.out.1] at hown3
   rw [Hcol.out.1]
   have hB3:=hBr.ah hb3
   have hbw3:=RZ hbr hb3
   have hn3 : a3 ≠ none->¬ vo W.heap.size ar R ap (ablk a3):=λh0 hI=>by have h1:=(aY hown3 h0).1;have h2:=(hBr.lt _ hI).2;omega
   go_wp2_with fail
   refine (JJ W.heap.size ar cr R ap cp s a3 c3 n (aR L i) hGW hbw3 hB3 hok.out (aX hown3 hbr.size) hn3 Hcol.out.2 hn (by omega)).mono ?_
   rintro e w4 ⟨ar',cr',R',ap',cp',rfl,hB4,hM4⟩
   have hbw4 : SW W w4:=hbw3.trans (hM4.below (λx hx=>by
    rcases hx with h1 | ⟨h1,h2⟩
    ·exact (hB3.lt x h1).1
    ·rw [h2];exact Nr hbr.size (aY hown3 h1).1) hbw3.size)
   have hop3:=bd hop hb3
   have hnI : aq ≠ none->¬ (vo W.heap.size ar R ap (ablk aq)\/(a3 ≠ none/\ablk aq=ablk a3)):=λh0 hI=>by
    rcases hI with h1 | ⟨h1,h2⟩
    ·exact hdq.out h0 h1
    ·have e1:=(aY hop h0).2;have e2:=(aY hown3 h1).1;omega
   have hop4:=hM4.own hop3 hnI
   have hdq4 : aq ≠ none->¬ vo W.heap.size ar' R' ap' (ablk aq):=λh0=>hM4.not (aY hop3 h0).2 (hnI h0)
   have hok4 : (s.next G.ops (aR L i)).Ok G.El n:=BS.Ok.next hcl.out hok.out Hcol.out
   have hlen4:=BS.Ct G.ops s (aR L i)
   have Hok4:=Z5 hok4
   have Hdq4:=Z5 hdq4
   clear hnI hdq4 hok4 b0 b1 b2 b3 b4
   by_cases ht : s.eF G.ops (aR L i)=true
   ·rw [ht]
    have Hst : Hid (grTo G.ops L Q (k+1)=(s.next G.ops (aR L i),out ++ [(i : Int)])):=by show _=_;rw [Hstep.out,Nd ht]
    clear ht
    generalize s.next G.ops (aR L i)=s' at *
    have hcn:=ba w4 (.int .i64 i) 3
    have hbn:=an w4 (.cells #[.int .i64 i] 3)
    have hsz4:=hbw4.size
    go_wp2_with (at_builtin;refine aO rfl _ _ 22 3 rfl (.int .i64 0) 8 underlying22 aU rfl W.heap.size aq out.length cq _ rfl (hop4.alloc _) ⟨w4.heap.size,0,none⟩ 1 (.int .i64 i) rfl hcn rfl (by omega) (by unfold maxLen;omega) (by simp;omega) ?_;intro a5 c5 w5 hown5 hgr5 hap5)
    go_roundw
    case rel =>
     have hBn:=hB4.ah hbn
     have haq : ∀x,vo W.heap.size ar' R' ap' x->gE aq x:=λx hx=>by
      by_cases h0 : aq=none
      ·exact .inl h0
      ·exact .inr λe=>Hdq4.out h0 (e ▸ hx)
     have hB5 : rJ w5 W.heap.size W.heap.size b ar' cr' R' ap' cp' s':=hBn.bq λx hx=>hgr5.block x (hBn.lt x hx).2 λe=>(haq x hx).own _ _ e.symm
     have hb5 : SW W w5:=Sa (N2 hbw4 (hbn.mono hsz4)) (hop4.alloc _) hgr5 (Na _) (Nr hsz4 hbn.size)
     refine ⟨k+1,a5,c5,out ++ [(i : Int)],s',ar',cr',R',ap',cp',by omega,by go_num,by simp,Hst.out,hB5,?_,?_,hb5,Hok4.out,by omega,by simp;omega⟩
     ·simpa using hown5
     ·show a5 ≠ none->_
      intro h0 hI
      rcases hap5 _ (hBn.lt _ hI).2 (haq _ hI) with h1 | h1
      ·exact h0 h1
      ·exact h1 rfl
    case measure=>simp [intOf] <;> omega
   ·have ht' : s.eF G.ops (aR L i)=false:=by simpa using ht
    rw [ht']
    have Hst : Hid (grTo G.ops L Q (k+1)=(s.next G.ops (aR L i),out)):=by show _=_;rw [Hstep.out,Nf ht]
    clear ht ht'
    generalize s.next G.ops (aR L i)=s' at *
    go_wp2_with fail
    go_roundw
    case rel=>exact ⟨k+1,aq,cq,out,s',ar',cr',R',ap',cp',by omega,by go_num,rfl,Hst.out,hB4,hop4,Hdq4.out,hbw4,Hok4.out,by omega,by omega⟩
    case measure=>simp [intOf] <;> omega
  ·obtain rfl : k=no:=by omega
   have Ho : Hid (kC G.ops L Q=out):=by show _=_;rw [kC,Hql.out,hst.out]
   go_wp2_with fail
   go_ret
   exact ⟨aq,cq,by rw [Ho.out];rfl,by rw [Ho.out];exact aX hop hbW.size,RZ hbW hbr⟩
theorem yS (N : Int) (l : Lz) : oO N [l]=if dk N l=true then 0 else 6:=by simp [oO]
def pI (P M : Int) (mod : Lz) (N : Int) (L : ZZ) (Q : Lz) : Int:=if aF P M mod N L=0 then oO N [Q] else aF P M mod N L
def CP (P M : Int) (mod : Lz) (N : Int) (L : ZZ) (Q : Lz) (w : World) (e : Ending) (w' : World) : Prop :=
 SW w w'/\((pI P M mod N L Q ≠ 0/\e = .returned (.tuple #[.int .i64 0,.int .i64 (pI P M mod N L Q)])) \/
  (pI P M mod N L Q=0/\e = .returned (.tuple #[.int .i64 (kC (af P M.toNat mod).ops L Q).length,.int .i64 0])))
theorem IY (P M : Int) (am : OA) (mn cm : Nat) (mod : Lz) (N : Int) (a : OA) (n c : Nat) (L : ZZ) (ao : OA) (no co : Nat) (Q : Lz) (w : World)
  (hmod : Ints w am mn mod) (hi : br w a n L) (hq : Ints w ao no Q) :
  Calls prog 39 #[.agg #[.int .i64 P,.int .i64 M,.slice am mn cm,.int .i64 N,.slice a n c],.slice ao no co] w (CP P M mod N L Q w):=by
 have Hql:=Z5 hq.len;have Hil:=Z5 hi.len;go_enter func39,ntmps39;go_wp2_with fail;obtain ⟨W,hW⟩ : ∃W : World,W=w.alloc (.cells #[.int .i64 P,.int .i64 M,.slice am mn cm,.int .i64 N,.slice a n c] 27):=⟨_,rfl⟩
 rw [<- hW];have hbW : SW w W:=by rw [hW];exact an _ _
 have x0 : aN W w.heap.size [.int .i64 P,.int .i64 M,.slice am mn cm,.int .i64 N,.slice a n c]:=by rw [hW];exact R9 _ _ _ rfl
 have HX:=Z5 x0;clear hW x0;refine (CN P M am mn cm mod N a n c L W (hmod.ah hbW) (hi.ah hbW)).mono ?_;rintro e w1 ⟨hb1,⟨hE,rfl⟩ | ⟨hE,b,rfl,hG⟩⟩
 ·have hbw1:=RZ hbW hb1;have HE : Hid (pI P M mod N L Q=aF P M mod N L):=by show _=_;rw [pI,Nf hE]
  have He:=Z5 hE;have hE1 : (aF P M mod N L == 0)=false:=by simpa using hE
  have hE2 : (aF P M mod N L != 0)=true:=by simpa using hE
  clear hE;go_wp2_with fail;go_ret2;exact ⟨hbw1,.inl ⟨by rw [HE.out];exact He.out,by rw [HE.out];rfl⟩⟩
 ·have hbw1:=RZ hbW hb1;have HE : Hid (pI P M mod N L Q=oO N [Q]):=by show _=_;rw [pI,Nd hE]
  have Hrw:=Z5 (bJ hE);have xU:=HX.out.ah hb1;have b0:=xU.cell 0 rfl;have b1:=xU.cell 1 rfl;have b2:=xU.cell 2 rfl;have b3:=xU.cell 3 rfl;have b4:=xU.cell 4 rfl;have hq1:=(hq.ah hbW).ah hb1;have hbl:=an w1 (.cells #[.slice ao no co] 22);have hMs : br (w1.alloc (.cells #[.slice ao no co] 22)) (some ⟨w1.heap.size,0,none⟩) 1 [Q]:=⟨rfl,λ_=>rfl,by unfold maxLen;omega,λi hi=>by
   obtain rfl : i=0:=by omega
   exact ⟨ao,no,co,dj _ _ _ rfl,hq1.ah hbl⟩⟩
  clear xU hE;go_wp2_with fail;refine (Jj P M am mn cm N a n c _ 1 1 [Q] _ hMs).mono ?_;rintro e w2 ⟨rfl,hb2⟩;have hb3 : SW w1 w2:=RZ hbl hb2;have hbw2:=RZ hbw1 hb3;rw [yS] at HE ⊢;by_cases hok : dk N Q=true
  ·have HE2 : Hid (pI P M mod N L Q=0):=by show _=_;rw [HE.out,Nd hok]
   rw [Nd hok];obtain ⟨m,hm,hm1,hm2,hLl,hRw⟩:=Hrw.out;subst hm;have hlen:=jx hok (by omega);have hQk : ∀k,k<no->0<=nth Q k/\nth Q k<m:=λk hk=>by have:=iI hok (k:=k) (by rw [Hql.out];exact hk);exact ⟨this.1,this.2.1⟩
   have hno : no<=1000000:=by rw [<- Hql.out];omega
   have hn : n<=1000000:=by rw [<- Hil.out];omega
   have HQk:=Z5 hQk;have HRw:=Z5 hRw;have xU:=(HX.out.ah hb1).ah hb3;have b0:=xU.cell 0 rfl;have b1:=xU.cell 1 rfl;have b2:=xU.cell 2 rfl;have b3:=xU.cell 3 rfl;have b4:=xU.cell 4 rfl;have hq2:=hq1.ah hb3;have hi2:=((hi.ah hbW).ah hb1).ah hb3;have hG2:=hG.ah hb3;clear hok hlen hQk hRw xU;go_wp2_with fail;refine (Dv P M am mn cm m a n c L m ao no co Q hG2 hi2 HRw.out hq2 HQk.out hn hno).mono ?_;rintro e w4 ⟨a4,c4,rfl,hown4,hb4⟩;have hF : CP P M mod m L Q w (.returned (.tuple #[.int .i64 (kC (af P M.toNat mod).ops L Q).length,.int .i64 0])) w4:=⟨RZ hbw2 hb4,.inr ⟨HE2.out,rfl⟩⟩
   have HF:=Z5 hF;clear hF hown4;generalize kC (af P M.toNat mod).ops L Q=out at *;go_wp2_with fail;go_ret2;exact HF.out
  ·have HE2 : Hid (pI P M mod N L Q=6):=by show _=_;rw [HE.out,Nf hok]
   rw [Nf hok];clear hok b0 b1 b2 b3 b4;go_wp2_with fail;go_ret2;exact ⟨hbw2,.inl ⟨by rw [HE2.out];omega,by rw [HE2.out];rfl⟩⟩
def ak (lo n : Nat) : Lz:=(List.range n).map λt=>((lo+t : Nat) : Int)
theorem ee (lo n : Nat) : (ak lo n).length=n:=by simp [ak]
theorem cX {lo n j : Nat} (h : j<n) : nth (ak lo n) j=((lo+j : Nat) : Int):=by rw [aj (by rw [ee];exact h)];simp [ak]
theorem tl (lo n x : Nat) : x ∈ kz (ak lo n) (ak lo n).length ↔ lo<=x/\x<lo+n:=by
 rw [ey,ee];constructor
 ·rintro ⟨j,hj,e⟩;rw [cX hj,Nb] at e;omega
 ·rintro ⟨h1,h2⟩;exact ⟨x - lo,by omega,by rw [cX (by omega),Nb];omega⟩
section
variable {O : aL} {El : Int->Prop} {m : Nat}
end
section
variable {P M : Int} {mod : Lz} {m : Nat} {L : ZZ} {Q : Lz}
end
section
variable {w : World} {b : Nat} {G : dn}
theorem KK (ax : OA) (cx : Nat) (x : Lz) (a : OA) (n c : Nat) (L : ZZ) (cols : Nat) (h : ew w b G) (F : bF G.ops G.El) (hx : Ints w ax n x) (hi : br w a n L) (hxe : ∀k,k<n->G.El (nth x k)) (hR : bp G.El cols L) (hc1 : 1<=cols) (hc : cols<=1000000) (hn : n<=1000000) :
  Calls prog 147 #[.pointer (some ⟨b,0,none⟩),.slice ax n cx,.slice a n c,.int .i64 cols] w λe w' =>
   ∃a1 c1,e = .returned (.slice a1 cols c1)/\w'.ownsRow w.heap.size 3 1 (.slice a1 cols c1) cols ((cmbTo G.ops cols x L n).map (Value.int .i64))/\SW w w':=by
 have Hil:=Z5 hi.len;have hplx:=hx.pl;have hpla:=hi.pl;have hcm:=fF F hR (x:=x) (by rw [hi.len];exact hxe);have Hcm:=Z5 hcm;have HR:=Z5 hR;have hz : (cmbTo G.ops cols x L 0).map (Value.int .i64)=List.replicate cols (Value.int .i64 0):=by simp [cmbTo]
 have Hz:=Z5 hz;clear hcm hR hz F;go_enter func147,ntmps147;go_wp2_with (at_make;refine bS rfl _ _ 22 3 rfl (.int .i64 0) 8 underlying22 aU rfl cols rfl rfl (by omega) (by unfold maxLen;omega) ?_;intro a5 w5 hown hbel hge hlt);have hown0 : w5.ownsRow w.heap.size 3 1 (.slice a5 cols cols) cols ((cmbTo G.ops cols x L 0).map (Value.int .i64)):=by rw [Hz.out];exact hown
 clear hown hlt;go_loopw [16] (λiv wr=>∃k : Nat,k<=n/\iv = .int .i64 k/\wr.ownsRow w.heap.size 3 1 (.slice a5 cols cols) cols ((cmbTo G.ops cols x L k).map (Value.int .i64))/\SW w wr) (λiv _=>n - (intOf iv).toNat);case atStart=>exact ⟨0,Ni _,rfl,hown0,hbel⟩
 case round =>
  clear hown0 hbel
  obtain ⟨k,hk,rfl,hown,hbr⟩:=hrel
  by_cases hlt : k<n
  ·have cxk:=(hx.ah hbr).cell k hlt
   have hrow:=HR.out.row (i:=k) (by rw [Hil.out];exact hlt)
   obtain ⟨ra,rn,rc,er0,ir0⟩:=hi.cell k hlt
   have hrn : rn=cols:=by rw [<- ir0.len];exact hrow.1
   rw [hrn] at er0 ir0
   have er:=aB hbr er0
   have hra : ablk ra<w.heap.size:=Nt w _ (ir0.cell 0 (by omega))
   clear hrn er0
   by_cases h0 : nth x k=0
   ·have h0' : (nth x k != 0)=false:=by simpa using h0
    have Hn : Hid (cmbTo G.ops cols x L (k+1)=cmbTo G.ops cols x L k):=by show _=_;rw [cmbTo,Nd h0]
    clear h0
    go_wp2_with fail
    go_roundw
    case rel=>exact ⟨k+1,by omega,by go_num,by rw [Hn.out];exact hown,hbr⟩
    case measure=>simp [intOf] <;> omega
   ·have h0' : (nth x k != 0)=true:=by simpa using h0
    have Hn : Hid (cmbTo G.ops cols x L (k+1)=bR G.ops (cmbTo G.ops cols x L k) (nth x k) (ai L k)):=by show _=_;rw [cmbTo,Nf h0]
    have hvk:=(Hcm.out k (by rw [Hil.out];exact hk)).1
    have Ha:=Z5 (E0 w a5 cols cols (cmbTo G.ops cols x L k) (nth x k) ra rc (ai L k) h hbr hown (ir0.ah hbr) (.inr (.inr (by omega))) hvk.2 hrow.2 (hxe k hlt))
    clear h0 hown ir0 hrow hvk
    go_wp2_with fail
    refine Ha.out.mono ?_
    rintro e w4 ⟨rfl,hown4,honly⟩
    have hb4 : SW w w4:=hbr.trans (honly.below (λ_=>hge) hbr.size)
    go_wp2_with fail
    go_roundw
    case rel=>exact ⟨k+1,by omega,by go_num,by rw [Hn.out];exact hown4,hb4⟩
    case measure=>simp [intOf] <;> omega
  ·obtain rfl : k=n:=by omega
   have HF:=Z5 hown
   clear hown
   go_wp2_with fail
   go_ret
   exact ⟨a5,cols,rfl,HF.out,hbr⟩
end
theorem Jz (P M : Int) (am : OA) (mn cm : Nat) (mod : Lz) (ax : OA) (cx : Nat) (x : Lz) (m : Nat) (a : OA) (n c : Nat) (L : ZZ) (w : World) (hmod : Ints w am mn mod) (hx : Ints w ax n x) (hi : br w a n L)
  (hfB : bA P M mod=true) (hR : bp (af P M.toNat mod).El m L) (hxe : ∀k,k<n->(af P M.toNat mod).El (nth x k)) (hm1 : 1<=m) (hm : m<=64) (hn : n<=256) :
  Calls prog 90 #[.agg #[.int .i64 P,.int .i64 M,.slice am mn cm],.slice ax n cx,.agg #[.int .i64 m,.slice a n c]] w
   λe w'=>∃a1 c1,e = .returned (.tuple #[.slice a1 m c1,.int .i64 0])/\Ints w' a1 m (cmbTo (af P M.toNat mod).ops m x L n)/\SW w w':=by
 have hLl:=hi.len;have F:=dM hfB;have hmE1 : iB (af P M.toNat mod).q m L=0:=(nP (kA hfB (show m<=256 by omega) (show L.length<=256 by omega) hR)).2;have hel : gU (af P M.toNat mod).q x=0:=by unfold gU;rw [Nd];unfold dY jR;rw [NW];intro y hy;obtain ⟨k,hk,rfl⟩:=List.mem_iff_getElem.1 hy;have h1:=hxe k (by rw [<- hx.len];exact hk);rw [aj hk] at h1;unfold dn.El at h1;simp;exact h1
 have hpla:=hi.pl;obtain ⟨G,hGG⟩ : ∃G,af P M.toNat mod=G:=⟨_,rfl⟩
 rw [hGG] at hR F hmE1 hxe hel ⊢;have HK:=Z5 (Np hfB (Np hR (Np hmE1 (Np hxe (Np F hel)))));have HGG:=Z5 hGG;clear hfB hR hmE1 hxe F hLl hGG hel;go_enter func90,ntmps90;go_wp2_with fail;obtain ⟨W,hW⟩ : ∃W : World,W=((w.alloc (.cells #[.int .i64 P,.int .i64 M,.slice am mn cm] 24)).alloc (.cells #[.int .i64 m,.slice a n c] 94)).alloc (.cells #[.int .i64 m,.slice a n c] 94):=⟨_,rfl⟩
 rw [<- hW];have hbW : SW w W:=by rw [hW];exact mF _ _ _ _
 have x1 : aN W (w.heap.size+1) [.int .i64 m,.slice a n c]:=by rw [hW];exact (R9 _ _ _ (by simp)).alloc _
 have q3 : ∀i v,[Value.int .i64 m,.slice a n c][i]? = some v->W.cell? ⟨w.heap.size+1+1,i,none⟩=some v:=λi v hv=>by
  have h : aN W (w.heap.size+1+1) [.int .i64 m,.slice a n c]:=by rw [hW];exact R9 _ _ _ (by simp)
  exact h.cell i hv
 have hMs : Ds W (some ⟨w.heap.size+1+1,0,none⟩) 1 [((m : Int),L)]:=⟨rfl,λ_=>rfl,by unfold maxLen;omega,λi hi'=>by
  have : i=0:=by simp at hi';omega
  subst this;exact ⟨a,n,c,by simpa using q3 0 _ rfl,by simpa using q3 1 _ rfl,hi.ah hbW⟩⟩
 have HX:=Z5 x1;have HbW:=Z5 hbW;clear hW x1 q3;refine (wV P M am mn cm mod _ 1 1 _ W (hmod.ah hbW) hMs).mono ?_;rintro e w1 ⟨hb1,hcase⟩;have hms : matsE (af P M.toNat mod).q [((m : Int),L)]=0:=by rw [HGG.out];simp [matsE,HK.out.2.2.1]
 rcases hcase with ⟨hB,_⟩ | ⟨_,er,h0,h1,_⟩ | ⟨_,_,b,rfl,hG,hbl⟩
 ·rw [HK.out.1] at hB;exact absurd hB (by decide)
 ·rw [hms] at h1;exact absurd h1.symm h0
 rw [HGG.out] at hG;have hbw1:=RZ hbW hb1;have r1:=HX.out.ah hb1;have m0:=r1.cell 0 rfl;have m1:=r1.cell 1 rfl;have hnn : ((n : Int) != n)=false:=by simp
 have hx1:=hx.ah hbw1;have hi1:=hi.ah hbw1;have he:=uy ax n cx x hG hx1;rw [HK.out.2.2.2.2.2] at he;have He:=Z5 he;have Hv:=Z5 (KK ax cx x a n c L m hG HK.out.2.2.2.2.1 hx1 hi1 HK.out.2.2.2.1 HK.out.2.1 hm1 (by omega) (by omega));clear hMs hbW r1 hbl hmod hms he hx1 hi1 hG hx hi;go_wp2_with fail;refine He.out.mono ?_;rintro e w2 ⟨rfl,rfl⟩;go_wp2_with fail;refine Hv.out.mono ?_;rintro e w3 ⟨a3,c3,rfl,hown,hb3⟩;have hF:=Z5 (Np (R6 hown).1 (RZ hbw1 hb3));clear hown;go_wp2_with fail;go_ret2;exact ⟨a3,c3,rfl,hF.out.1,hF.out.2⟩
theorem kG (P M : Int) (am : OA) (mn cm : Nat) (a : OA) (n c : Nat) (l : Lz) (k : Nat) (w : World) (hi : Ints w a n l) :
  Calls prog 36 #[.agg #[.int .i64 P,.int .i64 M,.slice am mn cm],.slice a n c,.int .i64 k] w λe w'=>e = .returned (.int .i64 (fD (aJ P M) l k))/\SW w w':=by
 have hl:=hi.len;go_enter func36,ntmps36;go_upto_region 1 with fail;obtain ⟨W,hW⟩ : ∃W : World,W=w.alloc (.cells #[.int .i64 P,.int .i64 M,.slice am mn cm] 24):=⟨_,rfl⟩
 rw [<- hW];have hbW : SW w W:=by rw [hW];exact an _ _
 have x0 : aN W w.heap.size [.int .i64 P,.int .i64 M,.slice am mn cm]:=by rw [hW];exact R9 _ _ _ rfl
 have c0:=x0.cell 0 rfl;have c1:=x0.cell 1 rfl;have c2:=x0.cell 2 rfl;clear hW x0;by_cases h1 : n=k
 ·have HL : Hid (fD (aJ P M) l k=gU (aJ P M) l):=by show _=_;rw [fD,Nd (by omega)]
  have Hc:=Z5 (jb P M am mn cm a n c l W (hi.ah hbW));have h1' : ((n : Int) != k)=false:=by rw [show (n : Int)=k by omega];simp
  clear h1 hl;generalize gU (aJ P M) l=er at *;go_wp2_with fail;refine Hc.out.mono ?_;rintro e w1 ⟨rfl,hb1⟩;have hF:=RZ hbW hb1;go_wp2_with fail;go_ret;exact ⟨aP HL.out.symm,hF⟩
 ·have HL : Hid (fD (aJ P M) l k=4):=by show _=_;rw [fD,Nf (by omega)]
  have h1' : ((n : Int) != k)=true:=by simp only [bne_iff_ne,ne_eq];omega
  clear h1 hl;go_wp2_with fail;go_ret;exact ⟨aP HL.out.symm,hbW⟩
theorem pf {l : Lz} {x : Int} {i : Nat} (h : i<l.length) : nth (l ++ [x]) i=nth l i:=by simp only [nth,Ng];rw [Ny h]
theorem wD (l : Lz) (x : Int) : nth (l ++ [x]) l.length=x:=by simp [nth]
theorem po (l : Lz) (x : Int) : ∀k,k<=l.length->kz (l ++ [x]) k=kz l k
 | 0,_=>rfl
 | k+1,h=>by rw [kz,kz,pf (by omega),po l x k (by omega)]
theorem nR (l : Lz) (x : Int) : kz (l ++ [x]) (l ++ [x]).length=x.toNat :: kz l l.length:=by rw [Nl,ND,kz,wD,po l x l.length (Na _)]
def gA (Q : Lz) : Z6:=kz Q Q.length
theorem kT (l : Lz) (x : Int) : gA (l ++ [x])=x.toNat :: gA l:=nR l x
section
variable {O : aL} {El : Int->Prop} {m : Nat} {L : ZZ}
theorem fu (F : bF O El) (hL : bp El m L) (Q : Lz) : Rk (jE O El L.length (aR L)) (gA Q) (gk O L Q):=oK F hL Q
end
theorem Dp (P M : Int) (am : OA) (mn cm : Nat) (mod : Lz) (m : Nat) (a : OA) (n c : Nat) (L : ZZ) (ax : OA) (nx cx : Nat) (x : Lz) (w : World) (hmod : Ints w am mn mod) (hi : br w a n L) (hx : Ints w ax nx x) (hE : aF P M mod m L=0) :
  Calls prog 37 #[.agg #[.int .i64 P,.int .i64 M,.slice am mn cm,.int .i64 m,.slice a n c],.slice ax nx cx] w λe w'=>SW w w' /\
   ((fD (af P M.toNat mod).q x n ≠ 0/\e = .returned (.tuple #[.slice none 0 0,.int .i64 (fD (af P M.toNat mod).q x n)])) \/
    (fD (af P M.toNat mod).q x n=0/\∃a1 c1,e = .returned (.tuple #[.slice a1 m c1,.int .i64 0])/\Ints w' a1 m (cmbTo (af P M.toNat mod).ops m x L n))):=by
 obtain ⟨N',em,hm1,hm64,F,hR⟩:=aM hE;obtain rfl : m=N':=by omega
 have hn256 : n<=256:=by rw [<- hi.len];exact (bJ hE).choose_spec.2.2.2.1
 have hfB:=(aG hE).1;have HCk : Hid (∀V,SW w V->Calls prog 88 #[.agg #[.int .i64 P,.int .i64 M,.slice am mn cm,.int .i64 m,.slice a n c]] V λe w'=>e = .returned (.int .i64 0)/\SW V w'):=λV hV=>by have h:=dr P M am mn cm mod m a n c L V (hmod.ah hV) (hi.ah hV);rw [hE] at h;exact h
 have HLi : Hid (∀V,SW w V->Calls prog 89 #[.agg #[.int .i64 P,.int .i64 M,.slice am mn cm],.slice ax nx cx,.int .i64 n] V λe w'=>e = .returned (.int .i64 (fD (af P M.toNat mod).q x n))/\SW V w'):=λV hV =>
  qQ P M am mn cm mod ax nx cx x n V (hmod.ah hV) (hx.ah hV) hfB
 have HVe : Hid (fD (af P M.toNat mod).q x n=0->∀V,SW w V->Calls prog 90 #[.agg #[.int .i64 P,.int .i64 M,.slice am mn cm],.slice ax nx cx,.agg #[.int .i64 m,.slice a n c]] V λe w'=>∃a1 c1,e = .returned (.tuple #[.slice a1 m c1,.int .i64 0])/\Ints w' a1 m (cmbTo (af P M.toNat mod).ops m x L n)/\SW V w'):=λhz V hV=>by
  unfold fD at hz;by_cases hl : x.length=n
  ·rw [Nd hl] at hz;unfold gU at hz;by_cases hq : dY (af P M.toNat mod).q x=true
   ·have hnx : nx=n:=by rw [<- hx.len];exact hl
    subst hnx;refine Jz P M am mn cm mod ax cx x m a nx c L V (hmod.ah hV) (hx.ah hV) (hi.ah hV) hfB hR (λk hk=>?_) hm1 hm64 hn256;unfold dY jR at hq;rw [NW] at hq;have h1:=hq _ (aH (l:=x) (i:=k) (by omega));simp at h1;unfold dn.El;exact h1
   ·rw [Nf hq] at hz;omega
  ·rw [Nf hl] at hz;omega
 obtain ⟨er,her⟩ : ∃er,fD (af P M.toNat mod).q x n=er:=⟨_,rfl⟩
 obtain ⟨X,hX⟩ : ∃X,cmbTo (af P M.toNat mod).ops m x L n=X:=⟨_,rfl⟩
 rw [her] at HLi HVe ⊢;rw [hX] at HVe ⊢;clear her hX hfB hE em F hR hmod hi hx;go_enter func37,ntmps37;go_wp2_with fail;obtain ⟨W,hW⟩ : ∃W : World,W=w.alloc (.cells #[.int .i64 P,.int .i64 M,.slice am mn cm,.int .i64 m,.slice a n c] 27):=⟨_,rfl⟩
 rw [<- hW];have hbW : SW w W:=by rw [hW];exact an _ _
 have x0 : aN W w.heap.size [.int .i64 P,.int .i64 M,.slice am mn cm,.int .i64 m,.slice a n c]:=by rw [hW];exact R9 _ _ _ rfl
 have HS : Hid (∀V,SW W V->V.cell? ⟨w.heap.size,0,none⟩=some (.int .i64 P)/\V.cell? ⟨w.heap.size,1,none⟩=some (.int .i64 M)/\V.cell? ⟨w.heap.size,2,none⟩=some (.slice am mn cm)/\V.cell? ⟨w.heap.size,3,none⟩=some (.int .i64 m)/\V.cell? ⟨w.heap.size,4,none⟩=some (.slice a n c)):=λV hV=>by have x1:=x0.ah hV;exact ⟨x1.cell 0 rfl,x1.cell 1 rfl,x1.cell 2 rfl,x1.cell 3 rfl,x1.cell 4 rfl⟩
 have HbW:=Z5 hbW;have Hck:=Z5 (HCk.out W hbW);clear hW x0 hbW HCk;refine Hck.out.mono ?_;rintro e w1 ⟨rfl,hb1⟩;obtain ⟨c0,c1,c2,c3,c4⟩:=HS.out w1 hb1;have Hli:=Z5 (HLi.out w1 (RZ HbW.out hb1));clear Hck HLi;go_wp2_with fail;refine Hli.out.mono ?_;rintro e w2 ⟨rfl,hb2⟩;have hB2:=RZ hb1 hb2;clear c0 c1 c2 c3 c4 Hli hb1;by_cases hz : er=0;rotate_left
 ·have hz' : (er != 0)=true:=by simpa using hz
  have Hz:=Z5 hz;have hF:=RZ HbW.out hB2;clear hz;go_wp2_with fail;go_ret2;exact ⟨hF,.inl ⟨Hz.out,rfl⟩⟩
 subst hz;have HV:=Z5 (HVe.out rfl);have HS2 : Hid (∀V,SW w2 V->V.cell? ⟨w.heap.size,0,none⟩=some (.int .i64 P)/\V.cell? ⟨w.heap.size,1,none⟩=some (.int .i64 M)/\V.cell? ⟨w.heap.size,2,none⟩=some (.slice am mn cm)/\V.cell? ⟨w.heap.size,3,none⟩=some (.int .i64 m)/\V.cell? ⟨w.heap.size,4,none⟩=some (.slice a n c)/\SW w2 V):=λV hV=>by obtain ⟨q0,q1,q2,q3,q4⟩:=HS.out V (RZ hB2 hV);exact ⟨q0,q1,q2,q3,q4,hV⟩
 have Hbw:=Z5 (RZ HbW.out hB2);clear HVe hB2 hb2;go_wp2_with fail;go_cut [4,5] (λu v wx=>∃a1 c1,u = .slice a1 m c1/\v = .int .i64 0/\Ints wx a1 m X/\SW w2 wx);case first =>
  go_region_held3 (λV=>V.cell? ⟨w.heap.size,0,none⟩=some (.int .i64 P)/\V.cell? ⟨w.heap.size,1,none⟩=some (.int .i64 M)/\V.cell? ⟨w.heap.size,2,none⟩=some (.slice am mn cm)/\V.cell? ⟨w.heap.size,3,none⟩=some (.int .i64 m)/\V.cell? ⟨w.heap.size,4,none⟩=some (.slice a n c)/\SW w2 V)
   ((refine HS2.out _ ?_;first | exact hb8 | exact hb7 | exact (Nc _ _).drew | assumption | (go_split_ands;assumption)))
   (first
    | (go_at_call 91;((with_reducible refine (qE P M am mn cm m a n c _).mono ?_);rintro e w7 ⟨rfl,hb7'⟩;have hb7 : SW w2 w7:=(by go_split_ands;exact RZ (by assumption) hb7')))
    | (go_at_call 90;((with_reducible refine (HV.out _ (RZ Hbw.out (by go_split_ands;assumption))).mono ?_);rintro e w8 ⟨a8,k8,rfl,hI8,hb8'⟩;have hb8 : SW w2 w8:=(by go_split_ands;exact RZ (by assumption) hb8'))))
  all_goals (go_wp2_with fail;go_meet;exact ⟨a8,k8,rfl,rfl,hI8,hb8⟩)
 obtain ⟨a8,k8,rfl,rfl,hI8,hb8⟩:=hcut;generalize wc=V at *;have hF:=Z5 (Np (RZ Hbw.out hb8) hI8);clear hI8;go_wp2_with fail;go_ret2;first
  | exact ⟨hF.out.1,.inr ⟨rfl,a8,k8,rfl,hF.out.2⟩⟩
  | exact ⟨hF.out.1,a8,⟨k8,rfl⟩,hF.out.2⟩
theorem gg (a : OA) (n c : Nat) (l : Lz) (w : World) (h : Ints w a n l) :
  Calls prog 41 #[.slice a n c] w λe w'=>e = .returned (.int .i64 (fB l))/\w'=w:=by
 have Hl:=Z5 h.len;have hpl:=h.pl;have hmax:=h.max;unfold maxLen at hmax;have hle : ∀k,k<=n->(fB (l.take k) : Int)<=k:=λk hk=>by have h1 : fB (l.take k)<=(l.take k).length:=Ph;rw [NG] at h1;omega
 have Hle:=Z5 hle;have HT : Hid (fB (l.take n)=fB l):=by show _=_;rw [No (by rw [Hl.out];exact Na _)]
 clear hle;go_enter func41,ntmps41;go_wp2_with fail;go_loopw [3,4] (λcv iv wr=>∃k : Nat,k<=n/\iv = .int .i64 k/\cv = .int .i64 (fB (l.take k))/\wr=w) (λ_ iv _=>n - (intOf iv).toNat);case atStart=>exact ⟨0,Ni _,rfl,by simp [fB],rfl⟩
 case round =>
  obtain ⟨k,hk,rfl,rfl,rfl⟩:=hrel
  by_cases hlt : k<n
  ·have ck:=h.cell k hlt
   have hkl : k<l.length:=by rw [Hl.out];exact hlt
   have hst : fB (l.take (k+1))=fB (l.take k)+(if nth l k ≠ 0 then 1 else 0):=by unfold fB;rw [Nj hkl,PA,Qf,aj hkl];simp
   have hb:=Hle.out k hk
   obtain ⟨t,ht⟩ : ∃t,fB (l.take k)=t:=⟨_,rfl⟩
   obtain ⟨y,hy⟩ : ∃y,nth l k=y:=⟨_,rfl⟩
   rw [ht] at hst hb ⊢
   rw [hy] at hst ck
   clear ht hy hkl
   by_cases h0 : y=0
   ·have hd : (y != 0)=false:=by simpa using h0
    have Hst : Hid (fB (l.take (k+1))=t):=by show _=_;rw [hst,Nf (by simpa using h0)];rfl
    clear h0 hst
    go_wp2_with fail
    go_roundw
    case rel=>exact ⟨k+1,by omega,by go_num,by rw [Hst.out],by simp⟩
    case measure=>simp [intOf] <;> omega
   ·have hd : (y != 0)=true:=by simpa using h0
    have Hst : Hid (fB (l.take (k+1))=t+1):=by show _=_;rw [hst,Nd h0]
    clear h0 hst
    go_wp2_with fail
    go_roundw
    case rel=>exact ⟨k+1,by omega,by go_num,by rw [Hst.out];go_num,by simp⟩
    case measure=>simp [intOf] <;> omega
  ·obtain rfl : k=n:=by omega
   rw [HT.out]
   go_wp2_with fail
   go_ret
   exact ⟨rfl,rfl⟩
section
variable {O : aL} {El : Int->Prop} {m : Nat} {L : ZZ} {C : jG}
end
section
variable {P M : Int} {mod : Lz} {m : Nat} {L : ZZ}
theorem SX (hE : aF P M mod m L=0) {p : Lz} (hp : mg L p m) (hl : L.length=p.length) {v : Lz} (hv : ∀k,k<L.length->(af P M.toNat mod).El (nth v k)) {k : Nat} (hk : k<L.length) :
  nth (cmbTo (af P M.toNat mod).ops m v L L.length) (nth p k).toNat=nth v k:=by
 obtain ⟨N',e,hm1,hm64,F,hR⟩:=aM hE;obtain rfl : m=N':=by omega
 have hpk:=hp.lt k (by omega);rw [qx F hR hv (by omega) _ (Na _)];have hone : ∀t,t<L.length->nth (ai L t) (nth p k).toNat=if t=k then 1 else 0:=λt ht=>hp.one k t (by omega) ht
 have hvj:=hv k hk;rw [iO F (x:=k) (by
  show (af P M.toNat mod).El ((af P M.toNat mod).ops.mul (nth v k) (nth (ai L k) (nth p k).toNat));rw [hone k hk,Nd rfl,F.ie hvj];exact hvj) L.length (λq hq hqk=>by
  show (af P M.toNat mod).ops.mul (nth v q) (nth (ai L q) (nth p k).toNat)=0;rw [hone q hq,Nf hqk,F.cQ (hv q hq)]),Nd hk]
 show (af P M.toNat mod).ops.mul (nth v k) (nth (ai L k) (nth p k).toNat)=_;rw [hone k hk,Nd rfl,F.ie hvj]
end
section
variable {O : aL} {El : Int->Prop} {m : Nat} {R : ZZ} {Q : Lz}
end
section
variable {P M : Int} {mod : Lz} {m : Nat} {L : ZZ}
theorem qj (hE : aF P M mod m L=0) : mg L (bw (af P M.toNat mod) L m) m/\nQ L (bw (af P M.toNat mod) L m)/\L.length=(bw (af P M.toNat mod) L m).length:=by
 obtain ⟨N',e,hm1,hm64,F,hR⟩:=aM hE;obtain rfl : m=N':=by omega
 have h6:=(eS (aG hE).2.2.2).2;rw [Nb] at h6;have hcan : bZ (af P M.toNat mod).ops m L=L:=h6;obtain ⟨hPv,hLd⟩:=bG F hR;have hcl:=bQ F hR;rw [hcan] at hPv hcl hLd;exact ⟨hPv,hLd,hcl⟩
end
theorem bz (lo k : Nat) : ak lo (k+1)=ak lo k ++ [((lo+k : Nat) : Int)]:=by simp [ak,Ou]
theorem e9 {N : Int} {l : Lz} : ∀k,(∀i,i<k->fb N l i=true)->nM N l k=true
 | 0,_=>rfl
 | k+1,h=>fH (e9 k λi hi=>h i (by omega)) (h k (by omega))
theorem et {m lo n : Nat} (h : lo+n<=m) : dk m (ak lo n)=true:=by
 unfold dk;rw [ee];refine e9 n λi hi=>?_;unfold fb;rw [cX hi];by_cases h0 : i=0
 ·simp [h0];omega
 ·rw [cX (show i - 1<n by omega)];simp;omega
section
variable {P M : Int} {mod : Lz}
theorem SS {c r k : Int} (h : Fh P M mod c r k=0) : bA P M mod=true/\∃cn rn kn : Nat,c=cn/\r=rn/\k=kn/\1<=cn/\cn<=64/\1<=rn/\rn<=64/\1<=kn/\kn<=64 /\
  (rn+1) ∣ (af P M.toNat mod).q - 1/\(rn+1) * cn<=(af P M.toNat mod).q - 1/\(rn+1) * cn<=64/\kn<=cn * rn:=by
 cases hB : bA P M mod
 ·rw [MH hB] at h;cases h
 by_cases hr : c<1\/64<c\/r<1\/64<r\/k<1\/64<k
 ·rw [Mp hB hr] at h;cases h
 obtain ⟨cn,rfl⟩ : ∃n : Nat,c=n:=⟨c.toNat,by omega⟩
 obtain ⟨rn,rfl⟩ : ∃n : Nat,r=n:=⟨r.toNat,by omega⟩
 obtain ⟨kn,rfl⟩ : ∃n : Nat,k=n:=⟨k.toNat,by omega⟩
 have hq1 : (1 : Int)<(af P M.toNat mod).q:=(dM hB).one.2;obtain ⟨Q,hQ⟩ : ∃Q,(af P M.toNat mod).q=Q+1:=⟨(af P M.toNat mod).q - 1,by omega⟩
 rw [LU hB hQ (by omega) (by omega) (by omega)] at h;by_cases h1 : Q % (rn+1) ≠ 0\/Q / (rn+1)<cn
 ·rw [Nd h1] at h;cases h
 rw [Nf h1] at h;by_cases h2 : 64<cn * (rn+1)
 ·rw [Nd h2] at h;cases h
 rw [Nf h2] at h;by_cases h3 : cn * rn<kn
 ·rw [Nd h3] at h;cases h
 have hd : Q % (rn+1)=0:=by omega
 have hc : cn<=Q / (rn+1):=by omega
 have h4:=OW (rn+1) hc;have h5:=Nat.mul_div_le Q (rn+1);have h6 : (rn+1) * cn=cn * (rn+1):=Oe _ _;rw [hQ];exact ⟨rfl,cn,rn,kn,rfl,rfl,rfl,by omega,by omega,by omega,by omega,by omega,by omega,QU (by rw [PB];exact hd),by omega,by omega,by omega⟩
variable {c r k : Nat}
structure Gk (P M : Int) (mod : Lz) (c r k : Nat) : Prop where
 hB : bA P M mod=true
 c1 : 1<=c
 r1 : 1<=r
 k1 : 1<=k
 hd : (r+1) ∣ (af P M.toNat mod).q - 1
 hc : (r+1) * c<=(af P M.toNat mod).q - 1
 h64 : (r+1) * c<=64
 hk : k<=c * r
 hk64 : k<=64
theorem zo (h : Gk P M mod c r k) : (J6 P M mod c r k).length=k:=by obtain ⟨g,hG⟩:=uD h.hB;exact (L8 (dM h.hB) hG h.r1 h.hd h.hc h.k1 h.hk).2.2.1
theorem e8 (h : Gk P M mod c r k) : bp (af P M.toNat mod).El ((r+1) * c) (L6 (af P M.toNat mod).ops (af P M.toNat mod).q r c k):=by obtain ⟨g,hG⟩:=uD h.hB;obtain ⟨h1,h2,_⟩:=L8 (dM h.hB) hG h.r1 h.hd h.hc h.k1 h.hk;have h3:=r8 (O:=(af P M.toNat mod).ops) (dM h.hB) h2 (E:=ju r) (k:=k);rw [h1] at h3;exact h3
theorem ik (h : Gk P M mod c r k) : aF P M mod ((r+1) * c : Nat) (J6 P M mod c r k)=0:=by have h1:=PU (show 1<=r+1 by omega) h.c1;exact yR h.hB (e8 h) (by omega) h.h64 (by unfold L6 kr;rw [Nq,N7];have:=h.hk64;omega)
theorem R0 (h : Gk P M mod c r k) {j : Nat} (hj : j<c) : gk (af P M.toNat mod).ops (J6 P M mod c r k) (ak ((r+1) * j) (r+1))=gk (af P M.toNat mod).ops (J6 P M mod c r k) (ak ((r+1) * j) r):=by
 obtain ⟨g,hG⟩:=uD h.hB;have F:=dM h.hB;have hL:=(L8 F hG h.r1 h.hd h.hc h.k1 h.hk).2.2.2.2 j hj;have hR:=bL F (e8 h);have hC:=fM F hR;have h1:=fu F hR (ak ((r+1) * j) r);have h2:=fu F hR (ak ((r+1) * j) (r+1));obtain ⟨lo,hlo⟩ : ∃lo,(r+1) * j=lo:=⟨_,rfl⟩
 rw [hlo] at h1 h2 hL ⊢;rw [bz,kT,Nb] at h2;have h3:=hL (List.range' lo r) (λp hp=>by rw [List.mem_range'_1] at hp;omega) List.nodup_range' (by rw [List.length_range'];exact Na _) (lo+r) (by omega) (by omega);have h4:=hC.sub (l':=gA (ak lo r)) (λx hx=>by rw [List.mem_range'_1] at hx;exact (tl lo r x).2 ⟨by omega,by omega⟩) h3;rw [bz];exact h2.uniq (Rk.dep _ h4 h1)
theorem xl (h : Gk P M mod c r k) : qL ((r+1) * c : Nat) k r=0/\∀v : Lz,fD (af P M.toNat mod).q v k=0 ->
  fB v=0\/qI ((r+1) * c : Nat) k r<=(fB (cmbTo (af P M.toNat mod).ops ((r+1) * c) v (J6 P M mod c r k) k) : Int):=by
 obtain ⟨g,hG⟩:=uD h.hB;have F:=dM h.hB;have hW:=(L8 F hG h.r1 h.hd h.hc h.k1 h.hk).2.2.2.1;have hl:=zo h;have hE:=ik h;have hR:=bL F (e8 h);have hr1:=h.r1;have hk1:=h.k1;have hN : c * r+c=(r+1) * c:=by rw [Nat.add_mul,Nat.one_mul,Oe]
 have hcr:=Nat.le_mul_of_pos_left r h.c1;have hk:=h.hk;have h64:=h.h64;have hc1:=h.c1;obtain ⟨S,hS⟩ : ∃S,J6 P M mod c r k=S:=⟨_,rfl⟩
 have hSc : bZ (af P M.toNat mod).ops ((r+1) * c) (L6 (af P M.toNat mod).ops (af P M.toNat mod).q r c k)=S:=hS;rw [hS] at hl hE ⊢;rw [hSc] at hW hR;obtain ⟨m,hm⟩ : ∃m,(r+1) * c=m:=⟨_,rfl⟩
 rw [hm] at hN hW hE hR h64 ⊢;obtain ⟨hb1,hb2⟩:=IJ (n:=m) (k:=k) (r:=r) (by omega);refine ⟨hb1,λv hv=>?_⟩;rw [hb2];have hve : ∀t,t<S.length->(af P M.toNat mod).El (nth v t):=λt ht=>by
  unfold fD at hv;split at hv
  ·rename_i h1;unfold gU at hv;split at hv
   ·rename_i h2;exact pK h2 _ (aH (by rw [h1,<- hl];exact ht))
   ·cases hv
  ·cases hv
 have hvl : v.length=k:=by
  unfold fD at hv;split at hv
  ·assumption
  ·cases hv
 have h2:=fF F hR hve S.length (Na _);rw [<- hl];obtain ⟨x,hx⟩ : ∃x,cmbTo (af P M.toNat mod).ops m v S S.length=x:=⟨_,rfl⟩
 by_cases h0 : fB x=0
 ·left;obtain ⟨hp,_,hpl⟩:=qj hE;refine BW.2 λt ht=>?_;rw [<- SX hE hp hpl hve (k:=t) (by omega),hx];have h3:=hp.lt t (by omega);rw [hx] at h2;exact BW.1 h0 _ (by rw [h2.1.1];omega)
 ·right;rw [hx] at h2 ⊢;have h3:=hW x h2.1 h2.2 h0;have h11 : ((S.length : Int)+r - 1).tdiv r=(((S.length - 1) / r : Nat) : Int)+1:=by rw [PO (by omega),show (S.length : Int)+r - 1=((S.length - 1 : Nat) : Int)+r * 1 by omega,Int.add_mul_ediv_left _ _ (by omega),Int.natCast_ediv]
  rw [h11];rw [<- hl] at h3;obtain ⟨d,hd⟩ : ∃d,(S.length - 1) / r=d:=⟨_,rfl⟩
  rw [hd] at h3 ⊢;omega
end
theorem Cm (P M : Int) (am : OA) (mn cm : Nat) (mod : Lz) (c r k : Int) (w : World) (hmod : Ints w am mn mod) :
  Calls prog 25 #[.agg #[.int .i64 P,.int .i64 M,.slice am mn cm],.int .i64 c,.int .i64 r,.int .i64 k] w (zG P M mod c r k w):=by
 by_cases hB0 : bA P M mod=true
 ·exact Jg P M am mn cm mod c r k w hmod (by rw [<- hmod.len];have:=ke hB0;omega)
 ·have HNB:=Z5 hB0;clear hB0;have HNew : Hid (∀V,SW w V->Calls prog 52 #[.agg #[.int .i64 P,.int .i64 M,.slice am mn cm]] V (E2 P M mod V)):=λV hV=>ef P M am mn cm mod V (hmod.ah hV);have HE1 : Hid (bA P M mod=false->Fh P M mod c r k=1):=MH;have HPe : Hid (∀E w',E ≠ 0->Fh P M mod c r k=E->SW w w'->zG P M mod c r k w (.returned (.tuple #[.agg #[.int .i64 0,.int .i64 0,.slice none 0 0,.int .i64 0,.slice none 0 0],.int .i64 E])) w'):=λE w' h0 h1 h2=>⟨h2,.inl ⟨by rw [h1];exact h0,by rw [h1]⟩⟩
  generalize hPost : zG P M mod c r k w=Post at *;clear hPost;have HBt : Hid (∀n V,Calls prog 64 #[.int .i64 n] V λe w'=>e = .returned (.bool (decide (1<=n) && decide (n<=64)))/\w'=V):=xZ;clear hmod;go_enter func25,ntmps25;go_upto_region 1 with fail;obtain ⟨W,hW⟩ : ∃W : World,W=((w.alloc (.cells #[.int .i64 P,.int .i64 M,.slice am mn cm] 24)).alloc (.cells #[.int .i64 0,.int .i64 0,.slice none 0 0,.int .i64 0,.slice none 0 0] 27)):=⟨_,rfl⟩
  rw [<- hW];have hbW : SW w W:=by rw [hW];exact ((Nc _ _).alloc (Na _) _).alloc (by simp) _
  have hsW : W.heap.size=w.heap.size+2:=by rw [hW];simp
  have x0 : aN W w.heap.size [.int .i64 P,.int .i64 M,.slice am mn cm]:=by rw [hW];exact (R9 _ _ _ rfl).alloc _
  have z0 : aN W (w.heap.size+1) [.int .i64 0,.int .i64 0,.slice none 0 0,.int .i64 0,.slice none 0 0]:=by rw [hW];exact R9 _ _ _ (by simp)
  clear hW;have HX:=Z5 (Np x0 z0);have HbW:=Z5 hbW;have HsW:=Z5 hsW;have HZ : Hid (∀V,SW W V->V.cell? ⟨w.heap.size+1,0,none⟩=some (.int .i64 0)/\V.cell? ⟨w.heap.size+1,1,none⟩=some (.int .i64 0)/\V.cell? ⟨w.heap.size+1,2,none⟩=some (.slice none 0 0)/\V.cell? ⟨w.heap.size+1,3,none⟩=some (.int .i64 0)/\V.cell? ⟨w.heap.size+1,4,none⟩=some (.slice none 0 0) /\
    V.frozen? ⟨w.heap.size+1,0,none⟩=false/\V.frozen? ⟨w.heap.size+1,1,none⟩=false/\V.frozen? ⟨w.heap.size+1,2,none⟩=false/\V.frozen? ⟨w.heap.size+1,3,none⟩=false/\V.frozen? ⟨w.heap.size+1,4,none⟩=false):=λV hV=>by have z1:=z0.ah hV;exact ⟨z1.cell 0 rfl,z1.cell 1 rfl,z1.cell 2 rfl,z1.cell 3 rfl,z1.cell 4 rfl,z1.frozen 0,z1.frozen 1,z1.frozen 2,z1.frozen 3,z1.frozen 4⟩
  have HEr : Hid (∀E V,SW W V->E ≠ 0->Fh P M mod c r k=E->Post (.returned (.tuple #[.agg #[.int .i64 0,.int .i64 0,.slice none 0 0,.int .i64 0,.slice none 0 0],.int .i64 E])) (((((V.setCell ⟨w.heap.size+1,0,none⟩ (.int .i64 0)).setCell ⟨w.heap.size+1,1,none⟩ (.int .i64 0)).setCell ⟨w.heap.size+1,2,none⟩ (.slice none 0 0)).setCell ⟨w.heap.size+1,3,none⟩ (.int .i64 0)).setCell ⟨w.heap.size+1,4,none⟩ (.slice none 0 0))):=λE V hV h0 h1 =>
   HPe.out E _ h0 h1 (((((RZ hbW hV).setCell (by simp) _).setCell (by simp) _).setCell (by simp) _).setCell (by simp) _ |>.setCell (by simp) _)
  have HZ5 : Hid (∀V,SW W V->(((((V.setCell ⟨w.heap.size+1,0,none⟩ (.int .i64 0)).setCell ⟨w.heap.size+1,1,none⟩ (.int .i64 0)).setCell ⟨w.heap.size+1,2,none⟩ (.slice none 0 0)).setCell ⟨w.heap.size+1,3,none⟩ (.int .i64 0)).setCell ⟨w.heap.size+1,4,none⟩ (.slice none 0 0)).cell? ⟨w.heap.size+1,0,none⟩=some (.int .i64 0)/\(((((V.setCell ⟨w.heap.size+1,0,none⟩ (.int .i64 0)).setCell ⟨w.heap.size+1,1,none⟩ (.int .i64 0)).setCell ⟨w.heap.size+1,2,none⟩ (.slice none 0 0)).setCell ⟨w.heap.size+1,3,none⟩ (.int .i64 0)).setCell ⟨w.heap.size+1,4,none⟩ (.slice none 0 0)).cell? ⟨w.heap.size+1,1,none⟩=some (.int .i64 0)/\(((((V.setCell ⟨w.heap.size+1,0,none⟩ (.int .i64 0)).setCell ⟨w.heap.size+1,1,none⟩ (.int .i64 0)).setCell ⟨w.heap.size+1,2,none⟩ (.slice none 0 0)).setCell ⟨w.heap.size+1,3,none⟩ (.int .i64 0)).setCell ⟨w.heap.size+1,4,none⟩ (.slice none 0 0)).cell? ⟨w.heap.size+1,2,none⟩=some (.slice none 0 0)/\(((((V.setCell ⟨w.heap.size+1,0,none⟩ (.int .i64 0)).setCell ⟨w.heap.size+1,1,none⟩ (.int .i64 0)).setCell ⟨w.heap.size+1,2,none⟩ (.slice none 0 0)).setCell ⟨w.heap.size+1,3,none⟩ (.int .i64 0)).setCell ⟨w.heap.size+1,4,none⟩ (.slice none 0 0)).cell? ⟨w.heap.size+1,3,none⟩=some (.int .i64 0)/\(((((V.setCell ⟨w.heap.size+1,0,none⟩ (.int .i64 0)).setCell ⟨w.heap.size+1,1,none⟩ (.int .i64 0)).setCell ⟨w.heap.size+1,2,none⟩ (.slice none 0 0)).setCell ⟨w.heap.size+1,3,none⟩ (.int .i64 0)).setCell ⟨w.heap.size+1,4,none⟩ (.slice none 0 0)).cell? ⟨w.heap.size+1,4,none⟩=some (.slice none 0 0)):=λV hV=>by have z1:=(((((z0.ah hV).setCell 0 (.int .i64 0)).setCell 1 (.int .i64 0)).setCell 2 (.slice none 0 0)).setCell 3 (.int .i64 0)).setCell 4 (.slice none 0 0);exact ⟨z1.cell 0 rfl,z1.cell 1 rfl,z1.cell 2 rfl,z1.cell 3 rfl,z1.cell 4 rfl⟩
  have c0:=x0.cell 0 rfl;have c1:=x0.cell 1 rfl;have c2:=x0.cell 2 rfl;clear x0 z0 hbW hsW;go_wp2_with fail;refine (HNew.out W HbW.out).mono ?_;rintro e U hpost;rcases hpost with ⟨hB,rfl,hb1⟩ | ⟨hB,b,rfl,hG,hbge,hb1⟩
  ·have HF:=Z5 (HEr.out 1 U hb1 (by decide) (HE1.out hB));obtain ⟨z0,z1,z2,z3,z4,f0,f1,f2,f3,f4⟩:=HZ.out U hb1;obtain ⟨y0,y1,y2,y3,y4⟩:=HZ5.out U hb1;clear hB c0 c1 c2;go_wp2_with fail;exact bodyPost_ret (v:=.tuple #[.agg #[.int .i64 0,.int .i64 0,.slice none 0 0,.int .i64 0,.slice none 0 0],.int .i64 1]) (by simp [results,results25,go_sem,y0,y1,y2,y3,y4]) rfl HF.out
  exact absurd hB HNB.out
section
open Go.ChangeShapes Go.WideShapes Go.ChangeAt Go.RowKit
section
variable {H : Type} {enc : TypeId × Value->H} {W : World} {held : Bool} {fuel : Nat} {cs : List Value} {x : DataW H × List MemPlace}
end
section
variable {H : Type} {enc : TypeId × Value->H} {W : World} {held : Bool} {b0 : Nat} {v : Value} {d : DataW H} {p : List MemPlace}
theorem Ot (hv : Value.okWide prog W .any b0 22 v) (h : DataW.Trod enc prog W 0 (λ_=>true) held 22 v d p) : ∃a n c l,v = .slice a n c/\Ints W a n l:=by obtain ⟨a,n,c,rfl⟩:=okWide_slice underlying22 hv;obtain ⟨fuel,hf⟩:=h;obtain ⟨a',n',c',l,e,hi⟩:=oX hf;simp [Value.cells] at e;obtain ⟨rfl,rfl,rfl⟩:=e;exact ⟨_,_,_,l,rfl,hi⟩
end
end
section
open Go.ChangeShapes Go.WideShapes Go.ChangeAt Go.RowKit
section
variable {H : Type} {enc : TypeId × Value->H} {W : World} {held : Bool} {fuel : Nat} {cs : List Value} {x : DataW H × List MemPlace}
end
section
variable {H : Type} {enc : TypeId × Value->H} {W : World} {held : Bool} {b0 : Nat} {v : Value} {d : DataW H} {p : List MemPlace}
theorem zJ {P : Program} {w : World} {r : Reach} {base : Nat} {t : TypeId} {v : Value} {n : Nat} {e : TypeId} (ht : P.underlying t=some (.array n e)) (h : Value.okWide P w r base t v) : ∃cs,v = .agg cs/\cs.size=P.cellsOf t:=by simp only [Value.okWide,ht] at h;obtain ⟨cs,h1,h2,_⟩:=h;exact ⟨cs,h1,h2⟩
end
end
end Go.Proofs.YthglbncgemdcbaaGreat
