import Derived.Sort.OwnSortedInts
import Derived.Test.YtjfiflldinnhmaaGreatHSO2
import Derived.Test.YtjfiflldinnhmaaGreatHSO11
namespace Go.Proofs.YtjfiflldinnhmaaGreat
set_option linter.all false
set_option maxRecDepth 100000
set_option maxHeartbeats 4000000
open Go.RowKit Go.Proofs.Tryz
section
open Go.RowKit Go.Shelf Go.Sort
theorem qV (a : OA) (c : Nat) (w : World) : Calls prog 202 #[.slice a 0 c,.int .i64 0,.int .i64 0] w λe w'=>e = .returned (.tuple #[])/\w'=w:=by go_enter func202,ntmps202;go_wp2_with fail;refine wp_loop_rounds 1 ?_;rw [rounds_succ];go_wp2_with fail;go_end0;exact ⟨rfl,rfl⟩
theorem A7 (a : OA) (c : Nat) (w : World) : Calls prog 151 #[.slice a 0 c,.int .i64 0,.int .i64 0,.int .i64 0] w λe w'=>e = .returned (.tuple #[])/\w'=w:=by go_enter func151,ntmps151;go_wp2_with fail;refine wp_loop_rounds 1 ?_;rw [rounds_succ];go_wp2_with fail;refine (qV a c w).mono ?_;rintro e w' ⟨rfl,rfl⟩;go_wp2_with fail;(try simp only [Exit.inBlock,Exit.then]);refine bodyPost_ret (results_none rfl _ _ _) rfl ?_;exact ⟨rfl,rfl⟩
theorem sN (w : World) : Calls prog 152 #[.int .u64 0] w λe w'=>e = .returned (.int .i64 0)/\w'=w :=
 calls_of_every_depth λD=>AnyS.bits_LenIn { DS with } D 0 w (by omega) (by omega)
theorem yI (a : OA) (c : Nat) (w : World) : Calls prog 87 #[.slice a 0 c] w λe w'=>e = .returned (.tuple #[])/\w'=w:=by go_enter func87,ntmps87;go_wp2_with fail;refine (sN w).mono ?_;rintro e w' ⟨rfl,rfl⟩;go_wp2_with fail;refine (A7 a c w').mono ?_;rintro e w' ⟨rfl,rfl⟩;go_wp2_with fail;go_end0;exact ⟨rfl,rfl⟩
theorem ui (B : Nat) (a : OA) (n c : Nat) (l : LI) (w : World) (hown : w.ownsRow B 3 1 (.slice a n c) n (l.map (Value.int .i64))) (hB : B<=w.heap.size) (hn : n<=1000000) :
  Calls prog 87 #[.slice a n c] w λe w'=>e = .returned (.tuple #[])/\w'.ownsRow B 3 1 (.slice a n c) n ((eH l).map (Value.int .i64))/\w.grownBy w' (Value.slice a n c).ownBlock/\Below B w w':=by
 have hl : l.length=n:=by simpa using iw hown
 have hown':=hown;rcases hown.2 with ⟨hv,hz⟩ | ⟨g,cap,cur,hv,hbase,hb,h1,h2,h3,h4⟩
 ·cases hv
  have hl0 : l=[]:=Fi hl;subst hl0;refine (yI none 0 w).mono ?_;rintro e w' ⟨rfl,rfl⟩;exact ⟨rfl,by simpa [eH] using hown',⟨rfl,rfl,rfl,EF _,λk _ _=>rfl⟩,EI _ _⟩
 ·cases hv
  subst hl;have hH:=holds_of_blockI (ss:=l) hb (by simpa using h4);have hgl : g<w.heap.size:=(Array.getElem?_eq_some_iff.1 hb).1;refine (Any.slices_Sort_int DS g 0 c l w hH hgl (by omega)).mono ?_;rintro e w' ⟨rfl,nn,os,rfl⟩;have hgr:=grownBy_sortedI (w:=w) (g:=g) (n:=nn) (os:=os) (l.mergeSort λx y=>decide (x<=y)).toArray;exact ⟨rfl,ownsRow_sortedI (by simp) hbase hb h1 h2 h3,hgr,(EI B w).grown hgr hB (λj hj=>by cases hj;exact hbase)⟩
theorem vF (Bs : Nat) (a : OA) (len cap : Nat) (zs : LI) (hlen : len<=1000000) (w : World) (hBs : Bs<w.heap.size) (hc : w.cell? ⟨Bs,0,none⟩=some (.slice a len cap)) (hI : Ints w a len zs) :
  Calls prog 284 #[.func (.func 294) #[] #[.pointer (some ⟨Bs,0,none⟩)]] w λe W' =>
   ∃a2 c2,e = .returned (.slice a2 len c2)/\W'.ownsRow w.heap.size 3 1 (.slice a2 len c2) len ((eH zs).map (Value.int .i64))/\JA w W':=by go_enter func284,ntmps284;go_wp2_with fail;refine (uq Bs a len cap zs hlen w hBs hc hI).mono ?_;rintro e w1 ⟨v,rfl,hown,hb⟩;obtain ⟨a2,c2,rfl,_⟩:=Jl hown;have HS:=Z5 (ui w.heap.size a2 len c2 zs w1 hown hb.size hlen);clear hown;go_wp2_with fail;refine HS.out.mono ?_;rintro e w2 ⟨rfl,hown2,_,hb2⟩;go_wp2_with fail;go_ret;exact ⟨a2,c2,rfl,hown2,hb.trans hb2⟩
end
section
theorem aN.setOther {w : World} {B : Nat} {a : OA} {n c : Nat} {R : LA} {L : LL} (h : aN w B a n c R L) {p : Addr} (hp : p.block<B) (v : Value) : aN (w.setCell p v) B a n c R L :=
 h.bt λb hb=>EZ _ _ _ _ (by have:=(h.lt b hb).1;omega)
structure kz (w : World) (g : Nat) (x : Value) (a : OA) (k c : Nat) (R : LA) (L : LL) : Prop where
 lt : g<w.heap.size
 c0 : w.cell? ⟨g,0,none⟩=some x
 c1 : w.cell? ⟨g,1,none⟩=some (.slice a k c)
 fr : ∀i,w.frozen? ⟨g,i,none⟩=false
 om : aN w (g+1) a k c R L
namespace kz
variable {w w' w4 w5 : World} {g : Nat} {x : Value} {a : OA} {k c : Nat} {R : LA} {L : LL}
theorem aa (h : kz w g x a k c R L) (hb : JA w w') : kz w' g x a k c R L :=
 ⟨Fc h.lt hb.size,aj hb h.c0,aj hb h.c1,λi=>iq hb h.lt (h.fr i),h.om.aa hb⟩
theorem mM (h : kz w g x a k c R L) : db a g:=by
 by_cases ha : a=none
 ·exact .inl ha
 ·exact .inr λe=>by have:=(aU h.om.own ha).1;omega
theorem qZ {o : Obj} (h : kz w4 g x a k c R L) (hgr5 : (w4.alloc o).grownBy w5 (Value.slice a k c).ownBlock) : w5.cell? ⟨g,0,none⟩=some x/\w5.cell? ⟨g,1,none⟩=some (.slice a k c)/\w5.frozen? ⟨g,1,none⟩=false:=by
 have hb1:=aA w4 o;have hlt:=h.lt;have hs1:=hb1.size;exact ⟨bF hgr5 (aJ h.c0 o) h.mM,bF hgr5 (aJ h.c1 o) h.mM,
  (E5 (w:=w4.alloc o) (a:=⟨g,1,none⟩) (hgr5.block g (by omega) λe=>h.mM.own k c e.symm)).trans (bV h.lt (h.fr 1) _)⟩
theorem push {a4 a5 : OA} {n4 c4 c5 : Nat} {N : LI} {o : Obj} (h : kz w4 g x a k c R L) (hn4 : N.length=n4)
  (hown4 : w4.ownsRow (g+1) 3 1 (.slice a4 n4 c4) n4 (N.map (Value.int .i64))) (hra : a4 ≠ none->¬ bH a R (ah a4))
  (hown5 : w5.ownsRow (g+1) 22 1 (.slice a5 (k+1) c5) (k+1) (List.zipWith gU R L ++ [.slice a4 n4 c4])) (hgr5 : (w4.alloc o).grownBy w5 (Value.slice a k c).ownBlock)
  (hap5 : ∀x,x<(w4.alloc o).heap.size->db a x->db a5 x) :
  kz (w5.setCell ⟨g,1,none⟩ (.slice a5 (k+1) c5)) g x a5 (k+1) c5 (R ++ [(a4,c4)]) (L ++ [N])/\Below g w4 (w5.setCell ⟨g,1,none⟩ (.slice a5 (k+1) c5)):=by
 subst hn4;have hb1:=aA w4 o;have hO:=h.om.aa hb1;have hr:=aY hown4 hb1;have hP:=Jt hO hr hra hown5 hgr5 hap5;have hlt:=h.lt;have hs1:=hb1.size;have hB5 : Below (g+1) w4 w5:=Jb (hb1.mono (by omega)) hO.own hgr5 (EF _) (by omega);have hs:=hB5.size;have k0:=bF hgr5 (aJ h.c0 o) h.mM;have k1:=bF hgr5 (aJ h.c1 o) h.mM;refine ⟨⟨by simp;omega,?_,EX _ _ _ k1,λi=>?_,hP.setOther (by simp) _⟩,(hB5.mono (by omega)).setCell (by simp) _⟩
 ·rw [EY _ _ _ _ (by simp)];exact k0
 ·rw [Fp];exact (E5 (w:=w4.alloc o) (a:=⟨g,i,none⟩) (hgr5.block g (by omega) λe=>h.mM.own k c e.symm)).trans (bV h.lt (h.fr i) _)
theorem start {U : World} {g : Nat} {x : Value} (hU : ba U g [x,.slice none 0 0]) : kz U g x none 0 0 [] [] :=
 ⟨hU.1,hU.cell 0 rfl,hU.cell 1 rfl,hU.frozen,aN.empty _ _⟩
end kz
theorem ba.two (w : World) (x0 y0 x y : Value) (e : TypeId) : ba (((w.alloc (.cells #[x0,y0] e)).setCell ⟨w.heap.size,0,none⟩ x).setCell ⟨w.heap.size,1,none⟩ y) w.heap.size [x,y]:=by
 have h : ba (w.alloc (.cells #[x0,y0] e)) w.heap.size [x0,y0]:=Ja w [x0,y0] e rfl;have k0:=h.cell 0 rfl;have k1:=h.cell 1 rfl;refine ⟨by simp,λi v hv=>?_,λi=>by rw [Fp,Fp];exact h.frozen i⟩;match i,hv with
 | 0,hv =>
  obtain rfl : x=v:=by simpa using hv
  rw [EY _ _ _ _ (by simp)]
  exact EX _ _ _ k0
 | 1,hv =>
  obtain rfl : y=v:=by simpa using hv
  exact EX _ _ _ (by rw [EY _ _ _ _ (by simp)];exact k1)
 | i+2,hv=>simp at hv
end
theorem pf (x : Int) (w : World) : Calls prog 292 #[.int .i64 x] w λe w'=>e = .returned (.bool (x != 0))/\w=w':=by go_enter func292,ntmps292;go_wp2;go_ret;exact ⟨rfl,rfl⟩
theorem sg (a : OA) (n c : Nat) (l : LI) (w : World) (hi : Ints w a n l) :
  Calls prog 114 #[.slice a n c,.func (.func 292) #[] #[]] w λe w'=>e = .returned (.int .i64 (jz l))/\w=w':=by
 have Hlen:=Z5 hi.len;have hpl:=hi.pl;have hmax:=hi.max;unfold maxLen at hmax;go_enter func114,ntmps114;go_wp2_with fail;go_loop [8] (λiv=>∃k : Nat,k<=n/\iv = .int .i64 k/\Hid (∀j,j<k->nth l j=0)) (λiv=>n - (intOf iv).toNat);case atStart=>exact ⟨0,EL _,rfl,λj hj=>by omega⟩
 case round =>
  obtain ⟨k,hk,rfl,hall⟩:=hrel
  by_cases hlt : k<n
  ·have ck:=hi.cell k hlt
   by_cases hz : nth l k=0
   ·have hz' : (nth l k != 0)=false:=by simpa using hz
    have Hz:=Z5 hz
    clear hz
    go_wp2_with fail
    refine (pf _ _).mono ?_
    rintro e w' ⟨rfl,rfl⟩
    go_wp2_with fail
    go_round
    case rel=>exact ⟨k+1,by omega,by go_num,λj hj=>by
     rcases Fm j k with h | h
     ·exact hall.out j h
     ·rw [show j=k by omega];exact Hz.out⟩
    case measure=>simp [intOf] <;> omega
   ·have hz' : (nth l k != 0)=true:=by simpa using hz
    have Hf : Hid (jz l=k):=by show _=_;have:=wg l k (by rw [Hlen.out];exact hlt) hall.out hz;rw [jz,this,EH (by rw [Hlen.out];exact hlt)]
    clear hz
    go_wp2_with fail
    refine (pf _ _).mono ?_
    rintro e w' ⟨rfl,rfl⟩
    go_wp2_with fail
    go_ret
    exact ⟨aF Hf.out.symm,rfl⟩
  ·obtain rfl : k=n:=by omega
   have Hf : Hid (jz l = -1):=by show _=_;have:=nP l (by rw [Hlen.out];exact hall.out);rw [jz,this,EG (by omega)]
   go_wp2_with fail
   go_ret
   exact ⟨aF Hf.out.symm,rfl⟩
theorem y8 {w w0 : World} {b : Nat} {G : cC} (bb : Nat) (ar : OA) (cr : Nat) (R : LA) (ap : OA) (cp : Nat) (s : BS) (av : OA) (cv n : Nat) (v : LI)
  (h : dY w0 b G) (hb : JA w0 w) (hB : kQ w w0.heap.size bb b ar cr R ap cp s) (hs : s.Ok G.El n) (hv : w.ownsRow w0.heap.size 3 1 (.slice av n cv) n (v.map (Value.int .i64)))
  (hav : av ≠ none->¬ pr bb ar R ap (ah av)) (hve : G.CL v) (hn : n<=1000000) (hk : s.rows.length<=1000000) :
  Calls prog 282 #[.pointer (some ⟨bb,0,none⟩),.slice av n cv] w (tj w0 bb b ar R ap av G.ops s v w):=by
 have hvl : v.length=n:=by simpa using iw hv
 have hpv:=(I9 hv).1.pl;have hcl:=Js h;have hred:=lh hcl hs.rws hs.plc ⟨hvl,hve⟩;have Hred:=Z5 hred;have Hvl:=Z5 hvl;have Hs:=Z5 hs;have Hve:=Z5 hve;have c1:=hB.c1;have hplr:=hB.om.pl;clear hred hvl hs hve;go_enter func282,ntmps282;go_wp2_with fail;obtain ⟨kk,hkk⟩ : ∃kk,s.rows.length=kk:=⟨_,rfl⟩
 have Hkk:=Z5 hkk;rw [hkk] at hk hplr c1;rw [hkk];clear hkk;go_loopw [18] (λiv wr=>∃k : Nat,k<=kk/\iv = .int .i64 k/\wr.ownsRow w0.heap.size 3 1 (.slice av n cv) n ((bN G.ops s.rows s.place v k).map (Value.int .i64))/\bT av w wr) (λiv _=>kk - (intOf iv).toNat);case atStart=>exact ⟨0,EL _,rfl,hv,Jq _ _⟩
 case round =>
  obtain ⟨k,hkk2,rfl,hown,honly⟩:=hrel
  have hBr:=hB.only honly hav
  by_cases hlt : k<kk
  ·have hkr : k<s.rows.length:=by rw [Hkk.out];exact hlt
   have e0:=hBr.c0
   have e2:=hBr.c2
   have er:=hBr.om.cell hkr
   have ir:=hBr.om.ints hkr
   have hrow:=Hs.out.rws.row hkr
   have hplc:=Hs.out.plc k hkr
   rw [hrow.1] at er ir
   obtain ⟨ip,mp⟩:=I9 hBr.pl
   have ep:=ip.cell k hkr
   have hpp:=ip.pl
   rw [Hkk.out] at e2 hpp
   obtain ⟨pn,hpn⟩ : ∃pn : Nat,nth s.place k=pn:=⟨(nth s.place k).toNat,by omega⟩
   rw [hpn] at ep hplc
   have hpnn : pn<n:=by omega
   have hrd:=Hred.out k (by omega)
   have hrd1:=Hred.out (k+1) (by omega)
   have hstep : bN G.ops s.rows s.place v (k+1)=dw G.ops (bN G.ops s.rows s.place v k) pn (af s.rows k):=by rw [bN,hpn]
   have Hstep:=Z5 hstep
   have Hrow:=Z5 hrow
   have Hpn:=Z5 hpn
   clear hstep hpn
   obtain ⟨u,hu⟩ : ∃u,bN G.ops s.rows s.place v k=u:=⟨_,rfl⟩
   rw [hu] at hown hrd
   have Hu:=Z5 hu
   obtain ⟨iu,mu⟩:=I9 hown
   have eu:=iu.cell pn hpnn
   have hpu:=iu.pl
   have Hrd:=Z5 hrd
   clear hu hrow hrd hrd1
   by_cases hz : nth u pn=0
   ·have hz' : (nth u pn != 0)=false:=by simpa using hz
    have Hn : Hid (bN G.ops s.rows s.place v (k+1)=u):=by show _=_;rw [Hstep.out,Hu.out,dw,EM,EH hz]
    clear hz
    go_wp2_with fail
    go_roundw
    case rel=>exact ⟨k+1,by omega,by go_num,by rw [Hn.out];exact hown,honly⟩
    case measure=>simp [intOf] <;> omega
   ·have hz' : (nth u pn != 0)=true:=by simpa using hz
    have Hn : Hid (bN G.ops s.rows s.place v (k+1)=dj G.ops u (nth u pn) (af s.rows k)):=by show _=_;rw [Hstep.out,Hu.out,dw,EM,EG hz]
    have hxe : G.El (nth u pn):=Hrd.out.2 _ (aO (by rw [Hrd.out.1];exact hpnn))
    have hSl : (dj G.ops u (nth u pn) (af s.rows k)).length=u.length:=dS _ _ _ _ (by rw [Hrow.out.1,Hrd.out.1])
    have hSn:=λi hi=>dH G.ops u (nth u pn) (af s.rows k) i (by rw [Hrow.out.1,Hrd.out.1]) hi
    have HSl:=Z5 hSl
    have HSn:=Z5 hSn
    clear hz hSl hSn
    have hplr2:=ir.pl
    go_wp2_with fail
    generalize nth u pn=x at *
    generalize dj G.ops u x (af s.rows k)=S at *
    go_loopw [37] (λiv wx=>∃j : Nat,j<=n/\iv = .int .i64 j/\wx.ownsRow w0.heap.size 3 1 (.slice av n cv) n ((ei S u j).map (Value.int .i64))/\bT av w wx) (λiv _=>n - (intOf iv).toNat)
    case atStart=>exact ⟨0,EL _,rfl,by rw [ew];exact hown,honly⟩
    case round =>
     obtain ⟨j,hj,rfl,hown2,honly2⟩:=hrel
     have hBx:=hB.only honly2 hav
     have ix:=hBx.om.ints hkr
     rw [Hrow.out.1] at ix
     by_cases hjn : j<n
     ·have cj:=ix.cell j hjn
      have f0:=hBx.c0
      obtain ⟨im,mm⟩:=I9 hown2
      have cm:=im.cell j hjn
      have fm:=(mm (by omega)).2 j hjn
      have hju : j<u.length:=by rw [Hrd.out.1];exact hjn
      have hmix:=dR S u j j HSl.out (by omega)
      rw [EG (by omega)] at hmix
      rw [hmix] at cm
      have hset:=dW S u j HSl.out hju
      rw [HSn.out j hju] at hset
      have Hset:=Z5 hset
      have ely : G.El (nth (af s.rows k) j):=Hrow.out.2 _ (aO (by rw [Hrow.out.1];exact hjn))
      have elv : G.El (nth u j):=Hrd.out.2 _ (aO hju)
      have elm : ∀x y,G.El (G.mul x y):=λx y=>Jw h x y
      have hbx : JA w0 wr:=Ft hb (honly2.below (λha=>(aU hv ha).1) hb.size)
      have hGr : dY wr b G:=h.aa hbx
      have HG : Hid (dY wr.drew b G/\∀n,dY (wr.drewN n) b G):=⟨hGr.aa (EI _ _).drew,λn=>hGr.drewN n⟩
      clear hset hmix
      go_wp2_with fail
      go_region_law ((first
       | (go_simp;go_at_call 77;((with_reducible refine (o0 x (nth (af s.rows k) j) HG.out.1 hxe ely).mono ?_);rintro e w4 ⟨m4,rfl,rfl⟩))
       | (go_simp;go_at_call 77;((with_reducible refine (o0 x (nth (af s.rows k) j) (HG.out.2 _) hxe ely).mono ?_);rintro e w4 ⟨m4,rfl,rfl⟩))
       | (go_simp;go_at_call 187;((with_reducible refine (Dc (nth u j) (G.mul x (nth (af s.rows k) j)) (HG.out.2 _) elv (elm _ _)).mono ?_);rintro e w4 ⟨m5,rfl,rfl⟩))))
      all_goals (
       go_wp2_with fail
       go_roundw
       case rel =>
        have hdr : bf wr (wr.drewN (1+m4+m5)):=⟨_,rfl⟩
        refine ⟨j+1,by omega,by go_num,?_,honly2.trans ((Jg hdr).trans (Jo _ j _ (by intro e;have:=hpv (by omega);rw [e] at this;cases this)))⟩
        have h1:=bz (w:=wr.drewN (1+m4+m5)) hown2 j hjn (.int .i64 (G.sub (nth u j) (G.mul x (nth (af s.rows k) j))))
        rw [<- Ff,show G.sub (nth u j) (G.mul x (nth (af s.rows k) j))=G.ops.add (nth u j) (G.ops.neg (G.ops.mul x (nth (af s.rows k) j))) from rfl,Hset.out] at h1
        exact h1
       case measure=>simp [intOf] <;> omega)
     ·obtain rfl : j=n:=by omega
      rw [fb S u j (by rw [HSl.out,Hrd.out.1]) Hrd.out.1] at hown2
      go_wp2_with fail
      go_roundw
      case rel=>exact ⟨k+1,by omega,by go_num,by rw [Hn.out];exact hown2,honly2⟩
      case measure=>simp [intOf] <;> omega
  ·obtain rfl : k=kk:=by omega
   have hrd:=Hred.out k (by rw [Hkk.out];exact EF _)
   have hurd : bN G.ops s.rows s.place v k=s.red G.ops v:=by rw [BS.red,Hkk.out]
   rw [hurd] at hown hrd
   obtain ⟨iu,mu⟩:=I9 hown
   have Hrd:=Z5 hrd
   clear hurd hrd
   go_wp2_with fail
   refine (sg _ _ _ _ _ iu).mono ?_
   rintro e w' ⟨rfl,rfl⟩
   by_cases hf : iQ (s.red G.ops v)<(s.red G.ops v).length
   ·have hfv : jz (s.red G.ops v)=iQ (s.red G.ops v):=by rw [jz,EH hf]
    have hfn:=jB _ hf
    have Ht : Hid (s.dF G.ops v=true):=by show _=_;simpa [BS.dF] using hf
    have HN : Hid (s.next G.ops v=⟨s.rows ++ [(s.red G.ops v).map (G.mul (G.inv (nth (s.red G.ops v) (iQ (s.red G.ops v)))))],s.place ++ [(iQ (s.red G.ops v) : Int)]⟩):=by show _=_;rw [BS.next,EH Ht.out];rfl
    rw [hfv]
    obtain ⟨u,hu⟩ : ∃u,s.red G.ops v=u:=⟨_,rfl⟩
    rw [hu] at hown Hrd hf hfn iu HN
    rw [hu]
    clear hu hfv
    obtain ⟨f,hff⟩ : ∃f,iQ u=f:=⟨_,rfl⟩
    rw [hff] at hf hfn HN
    rw [hff]
    have hfn' : f<n:=by rw [<- Hrd.out.1];exact hf
    have e0:=hBr.c0
    have eu:=iu.cell f hfn'
    have hpu:=iu.pl
    have elf : G.El (nth u f):=Hrd.out.2 _ (aO hf)
    have hbx : JA w0 wr:=Ft hb (honly.below (λha=>(aU hv ha).1) hb.size)
    have hGr : dY wr b G:=h.aa hbx
    have HG : Hid (dY wr.drew b G/\∀n,dY (wr.drewN n) b G):=⟨hGr.aa (EI _ _).drew,λn=>hGr.drewN n⟩
    have Hfn:=Z5 hfn
    have Hf:=Z5 hf
    clear hff hfn hf
    go_upto_region 15 with fail
    go_cut [11] (λdv wx=>dv = .int .i64 (G.inv (nth u f))/\bf wr wx)
    case first =>
     go_region_held3 (λw'=>w'.cell? ⟨bb,0,none⟩=some (.pointer (some ⟨b,0,none⟩))/\w'.cell? ⟨ah av,aG av+f,none⟩=some (.int .i64 (nth u f)))
      (exact ⟨e0,eu⟩)
      (first
      | (go_at_call 189;((with_reducible refine (A6 _ HG.out.1 elf Hfn.out).mono ?_);rintro e w4 ⟨m4,rfl,rfl⟩)))
     all_goals (
      go_step;go_step
      go_meet
      exact ⟨rfl,⟨_,rfl⟩⟩)
    obtain ⟨rfl,hdr⟩:=hcut
    generalize wc=V at *
    have hBV : kQ V w0.heap.size bb b ar cr R ap cp s:=hBr.aa hdr.below
    have hownV:=aY hown hdr.below
    have hbV : JA w0 V:=hdr.wR hbx
    have honV : bT av w V:=honly.trans (Jg hdr)
    clear hBr hown hbx hGr HG e0 eu iu mu hdr honly
    obtain ⟨iu,mu⟩:=I9 hownV
    have HGV : Hid (dY V.drew b G/\∀n,dY (V.drewN n) b G):=⟨(h.aa hbV).aa (EI _ _).drew,λn=>(h.aa hbV).drewN n⟩
    have hiel : G.El (G.inv (nth u f)):=cC.sL h _
    have e0:=hBV.c0
    have e1:=hBV.c1
    have f1:=hBV.fr 1
    have hS : ∀W,JA V W->W.cell? ⟨bb,0,none⟩=some (.pointer (some ⟨b,0,none⟩))/\W.cell? ⟨bb,1,none⟩=some (.slice ar s.rows.length cr)/\W.frozen? ⟨bb,1,none⟩=false/\JA V W:=by intro W hW;have hBW:=hBV.aa hW;exact ⟨hBW.c0,hBW.c1,hBW.fr 1,hW⟩
    have HS:=Z5 hS
    have haptb : db ar bb:=by
     by_cases ha : ar=none
     ·exact .inl ha
     ·exact .inr λe=>hBV.d1 (.inl ⟨ha,e.symm⟩)
    have hR : ∀W,JA V W->W.ownsRow w0.heap.size 22 1 (.slice ar k cr) k (List.zipWith gU R s.rows):=λW hW=>by have:=(hBV.om.aa hW).own;rwa [Hkk.out] at this
    have HR:=Z5 hR
    obtain ⟨N,hN⟩ : ∃N,u.map (G.mul (G.inv (nth u f)))=N:=⟨_,rfl⟩
    have hsc : Calls prog 86 #[.pointer (some ⟨b,0,none⟩),.int .i64 (G.inv (nth u f)),.slice av n cv] V.drew (cB V.drew N):=by rw [<- hN];exact wS (G.inv (nth u f)) _ _ _ u HGV.out.1 hiel (iu.aa (EI _ _).drew) Hrd.out.2 hn
    have Hsc:=Z5 hsc
    have HNe:=Z5 hN
    rw [hN] at HN
    clear hN hsc
    clear hS hR
    go_upto_region 16 with fail
    go_cut [] (λwx=>∃ar' cr' R',wx.cell? ⟨bb,1,none⟩=some (.slice ar' (k+1) cr')/\aN wx w0.heap.size ar' (k+1) cr' R' (s.rows ++ [N]) /\
     aw V wx (λx=>x=bb\/bH ar R x) (λx=>x=bb\/bH ar' R' x)/\¬ bH ar' R' bb /\
     (∀i v,i ≠ 1->V.cell? ⟨bb,i,none⟩=some v->wx.cell? ⟨bb,i,none⟩=some v)/\∀i,wx.frozen? ⟨bb,i,none⟩=false)
    case first =>
     rw [Hkk.out] at e1 HS
     go_region_law ((first
      | (go_simp;go_at_call 86;((with_reducible refine Hsc.out.mono ?_);rintro e w4 ⟨a4,c4,rfl,hown4,hb4⟩;obtain ⟨q0,q1,q2,q5⟩:=HS.out w4 (I8 (EI _ _).drew hb4);have q6 : bb<w4.heap.size:=EP w4 _ q0))
      | (refine ie (by rfl) (.tmp 83) (.tmp 91) 25 22 (by rfl) (.slice none 0 0) 24 underlying25 eh (by rfl) w0.heap.size ar k cr (List.zipWith gU R s.rows) (by rfl) (HR.out _ (I8 q5 (aA _ _))) (some ⟨w4.heap.size,0,none⟩) 1 1 [.slice a4 N.length c4] (by rfl) (λ_=>rfl) rfl (by intro j hj;obtain rfl : j=0:=(by omega);exact eC _ _ _ rfl) (by intro y hy;simp at hy;subst hy;rfl) (by omega) (by unfold maxLen;omega) (by have e1:=hbV.size;have e2:=FU q5;simp;omega) ?_;intro a5 c5 w5 hown5 hgr5 hap5;have p1:=bF hgr5 (aJ q1 _) haptb;have p2 : w5.frozen? ⟨bb,1,none⟩=false:=(E5 (hgr5.block bb (EP _ _ (aJ q1 _)) (λe=>haptb.own k cr e.symm))).trans (bV (EP _ _ q1) q2 _))))
     all_goals (
      go_wp2_with fail
      go_meet
      exact hBV.Bp Hkk.out hbV.size (I8 (EI _ _).drew hb4) hown4 hown5 hgr5 hap5 ⟨_,p1⟩)
    obtain ⟨ar',cr',R',y1,hOX,hMX,hdX,hcX,hfX⟩:=hcut
    generalize wc=X at *
    have y0:=hcX 0 _ (by omega) e0
    have y2:=hcX 2 _ (by omega) hBV.c2
    have yf:=hfX 2
    have hnI : ap ≠ none->¬ (ah ap=bb\/bH ar R (ah ap)):=λh0 hI=>by
     rcases hI with h1 | h1
     ·rcases hBV.d2 with h2 | h2
      ·exact h0 h2
      ·exact h2 h1
     ·exact hBV.d3 h0 h1
    have hpX:=hMX.own hBV.pl hnI
    have hd3 : ap ≠ none->¬ bH ar' R' (ah ap):=λh0 hI=>hMX.not (aU hBV.pl h0).2 (hnI h0) (.inr hI)
    rw [Hkk.out] at y2 hpX
    have hbX : JA w0 X:=hbV.trans (hMX.below (λx hx=>(hBV.lt x (by rcases hx with h1 | h1;exact .inl h1;exact .inr (.inl h1))).1) hbV.size)
    have hz : bb<X.heap.size:=EP X _ y0
    have HfX:=Z5 hfX
    have Hd3:=Z5 hd3
    have HdX:=Z5 hdX
    have hd2:=hBV.d2
    have hbB:=hBV.bB
    have hcn:=bk X (.int .i64 f) 3
    clear hcX hfX hd3 hdX e0 e1 f1
    go_wp2_with (at_builtin;refine aX rfl _ _ 22 3 rfl (.int .i64 0) 8 underlying22 bh rfl w0.heap.size ap k cp _ rfl (hpX.alloc _) ⟨X.heap.size,0,none⟩ 1 (.int .i64 f) rfl hcn rfl (by omega) (by unfold maxLen;omega) (by have e1:=hbX.size;simp;omega) ?_;intro a6 c6 w6 hown6 hgr6 hap6;have p1:=bF hgr6 (aJ y2 _) hd2;have p2 : w6.frozen? ⟨bb,2,none⟩=false:=(E5 (hgr6.block bb (EP _ _ (aJ y2 _)) (λe=>hd2.own k cp e.symm))).trans (bV hz yf _))
    have hP:=kQ.AD (w6:=w6) hbB y0 y1 ⟨_,y2⟩ HfX.out hOX hpX HdX.out hd2 Hd3.out hown6 hgr6 hap6
    have HP:=Z5 hP
    clear hP
    go_ret
    refine ⟨ar',cr',R',a6,c6,bj Ht.out.symm,by rw [HN.out];exact HP.out.1,?_⟩
    refine Jv (w':=V) (I':=λx=>pr bb ar R ap x\/(av ≠ none/\x=ah av)) ?_ (Jv (w':=X) (I':=pr bb ar' R' ap) ?_ HP.out.2)
    ·exact ⟨honV.os,honV.tape,honV.output,honV.size,λx hx hI=>honV.block x hx λh2=>hI (.inr h2),λx hx=>.inl hx⟩
    ·refine ⟨hMX.os,hMX.tape,hMX.output,hMX.size,λx hx hI=>hMX.block x hx λh2=>hI (.inl (by rcases h2 with h3 | h3;exact .inl h3;exact .inr (.inl h3))),λx hx=>?_⟩
     rcases hx with h1 | h1 | h1
     ·exact .inl (.inl (.inl h1))
     ·rcases hMX.grow x (.inr h1) with h2 | h2
      ·exact .inl (.inl (by rcases h2 with h3 | h3;exact .inl h3;exact .inr (.inl h3)))
      ·exact .inr h2
     ·exact .inl (.inl (.inr (.inr h1)))
   ·have hfv : jz (s.red G.ops v) = -1:=by rw [jz,EG hf]
    rw [hfv]
    have Ht : Hid (s.dF G.ops v=false):=by show _=_;simp [BS.dF];omega
    have HN : Hid (s.next G.ops v=s):=by show _=_;rw [BS.next,EG (by rw [Ht.out];simp)]
    clear hf hfv
    go_wp2_with fail
    go_ret
    refine ⟨ar,cr,R,ap,cp,bj Ht.out.symm,by rw [HN.out];exact hBr,?_⟩
    exact ⟨honly.os,honly.tape,honly.output,honly.size,λx hx hI=>honly.block x hx λh2=>hI (.inr h2),λx hx=>.inl (.inl hx)⟩
end Go.Proofs.YtjfiflldinnhmaaGreat
