import Derived.Test.YtjfiflldinnhmaaGreatHSO17
import Derived.Test.YtjfiflldinnhmaaGreatHSO18
import Derived.RangeFuncSeq
import Derived.Shelf.RegionOpen
import Derived.Test.YtjfiflldinnhmaaGreatHSO19
namespace Go.Proofs.YtjfiflldinnhmaaGreat
set_option linter.all false
set_option maxRecDepth 100000
set_option maxHeartbeats 8000000
open Go.RowKit Go.Proofs.Tryz
section
structure RX where
 a : OA
 c : Nat
 l : LI
structure fZ (A : Nat->Prop) (w : World) (a : OA) (n : Nat) (L : LL) : Prop where
 len : L.length=n
 pl : Pl a n
 max : n<=maxLen
 no : 0<n->¬ A (ah a)
 cell : ∀i,i<n->∃b m c,w.cell? ⟨ah a,aG a+i,none⟩=some (.slice b m c)/\Ints w b m (af L i)/\(0<m->¬ A (ah b))
theorem fZ.pA {A : Nat->Prop} {w : World} {a : OA} {n : Nat} {L : LL} (h : fZ A w a n L) : bY w a n L :=
 ⟨h.len,h.pl,h.max,λi hi=>by obtain ⟨b,m,c,h1,h2,_⟩:=h.cell i hi;exact ⟨b,m,c,h1,h2⟩⟩
theorem fZ.dm {A A' : Nat->Prop} {w w' : World} {a : OA} {n : Nat} {L : LL} (h : fZ A w a n L) (hM : aw w w' A A') : fZ A w' a n L :=
 ⟨h.len,h.pl,h.max,h.no,λi hi=>by obtain ⟨b,m,c,h1,h2,h3⟩:=h.cell i hi;exact ⟨b,m,c,hM.cell h1 (h.no (by omega)),h2.dm hM h3,h3⟩⟩
theorem fZ.aa {A : Nat->Prop} {w w' : World} {a : OA} {n : Nat} {L : LL} (h : fZ A w a n L) (hb : JA w w') : fZ A w' a n L:=h.dm (Jc hb A)
theorem fZ.Dn {A : Nat->Prop} {w : World} {a : OA} {n : Nat} {L : LL} (h : bY w a n L) (hA : ∀b,A b->w.heap.size<=b) : fZ A w a n L :=
 ⟨h.len,h.pl,h.max,λhn hc=>by have:=hA _ hc;have:=h.lt hn;omega,λi hi=>by obtain ⟨b,m,c,h1,h2⟩:=h.cell i hi;exact ⟨b,m,c,h1,h2,λhm hc=>by have:=hA _ hc;have:=h2.lt hm;omega⟩⟩
def Ea (m : Nat) (x : RX) : Value:=.slice x.a m x.c
theorem fZ.own {A : Nat->Prop} {w : World} {B m : Nat} {a : OA} {c : Nat} {xs : List RX} (h : w.ownsRow B 22 1 (.slice a xs.length c) xs.length (xs.map (Ea m)))
  (hA : ∀b,A b->b<B) (hm : xs.length<=maxLen) (hx : ∀x ∈ xs,Ints w x.a m x.l/\(0<m->¬ A (ah x.a))) : fZ A w a xs.length (xs.map RX.l):=by
 refine ⟨by simp,?_,hm,λhn hc=>?_,λi hi=>?_⟩
 ·obtain ⟨a',c',hv,hp⟩:=Jl h;cases hv
  exact hp
 ·have:=hA _ hc;have:=(ez h hn).1;omega
 ·have h1:=(bs h i hi).1;have e1 : (xs.map (Ea m))[i]? = some (Ea m xs[i]):=by rw [F5,Fa hi];rfl
  obtain ⟨h2,h3⟩:=hx xs[i] (Fj hi);refine ⟨xs[i].a,m,xs[i].c,?_,?_,h3⟩
  ·rw [h1,e1];rfl
  ·rw [aE (by rw [Fo];exact hi),FZ];exact h2
variable {w : World} {b : Nat} {G : cC}
theorem DV (x y : Int) (h : dY w b G) (hx : G.El x) (hy : G.El y) (hy0 : y ≠ 0) :
  Calls prog 236 #[.pointer (some ⟨b,0,none⟩),.int .i64 x,.int .i64 y] w λe w'=>∃n,e = .returned (.tuple #[.int .i64 (G.mul x (G.inv y)),.int .i64 0])/\w'=w.drewN n:=by
 have Hi:=Z5 (A6 y h hy hy0);have Hinv : Hid (G.El (G.inv y)):=Js h |>.inv y hy hy0
 have HG : Hid (∀n,dY (w.drewN n) b G):=λn=>h.drewN n;clear hy0;go_enter func236,ntmps236;go_wp2_with fail;refine Hi.out.mono ?_;rintro e w1 ⟨n1,rfl,rfl⟩;go_wp2_with fail;refine (o0 x (G.inv y) (HG.out n1) hx Hinv.out).mono ?_;rintro e w2 ⟨n2,rfl,rfl⟩;go_wp2_with fail;go_ret2;exact ⟨n1+n2,rfl,rfl⟩
end
theorem kd (U : LI) (k : Nat) : aP false U (k+1)=if decide ((k : Int) ∈ U)=false then aP false U k ++ [(k : Int)] else aP false U k:=rfl
theorem pC (pb m : Nat) (sa : OA) (ns cs : Nat) (s : LI) (az : OA) (nz cz : Nat) (z : LI) (w : World) (p4 : w.cell? ⟨pb,4,none⟩=some (.int .i64 m)) (hs : Ints w sa ns s) (hz : Ints w az nz z)
  (hnz : nz<=1000000) (hm : m<=1000) :
  Calls prog 261 #[.pointer (some ⟨pb,0,none⟩),.slice sa ns cs,.slice az nz cz] w (cB w (gW m s z)):=by
 have Hzl:=Z5 hz.len;have HP:=Z5 (λ(V : World) (hV : JA w V)=>aj hV p4);go_enter func261,ntmps261;go_wp2_with fail;refine (wE az nz cz w).mono ?_;rintro e w1 ⟨rfl,rfl⟩;have hb1 : JA w (w.alloc (.cells #[.slice az nz cz] 22)):=aA _ _;have HSo:=Z5 (vF w.heap.size az nz cz z hnz (w.alloc (.cells #[.slice az nz cz] 22)) (by simp) (aC _ _ _ rfl 0) (hz.aa hb1));have hsz1 : w.heap.size<=(w.alloc (.cells #[.slice az nz cz] 22)).heap.size:=hb1.size;generalize w.alloc (.cells #[.slice az nz cz] 22)=w1 at *;go_wp2_with fail;refine HSo.out.mono ?_;rintro e w2 ⟨a2,c2,rfl,hown2,hb2⟩;have hbw2:=I8 hb1 hb2;have p4':=HP.out w2 hbw2;have hO2 : w2.ownsRow w.heap.size 3 1 (.slice a2 nz c2) nz ((eH z).map (Value.int .i64)):=aW hown2 hsz1;clear hown2 p4;go_wp2_with fail;go_loopw [7,17] (λqv iv wr=>∃(k : Nat) (aq : OA) (cq : Nat) (out : LI),k<=m/\iv = .int .i64 k/\qv = .slice aq out.length cq/\Hid (out=eH z ++ aP false (s ++ z) k)/\Hid (out.length<=nz+k) /\
   wr.ownsRow w.heap.size 3 1 (.slice aq out.length cq) out.length (out.map (Value.int .i64))/\JA w wr)
  (λ_ iv _=>m - (intOf iv).toNat)
 case atStart =>
  refine ⟨0,a2,c2,eH z,EL _,rfl,?_,?_,?_,?_,hbw2⟩
  ·rw [fH,Hzl.out]
  ·show _=_;simp [aP]
  ·show _<=_;rw [fH,Hzl.out];omega
  ·rw [fH,Hzl.out];exact hO2
 case round =>
  obtain ⟨k,aq,cq,out,hk,rfl,rfl,hst,hln,hop,hbr⟩:=hrel
  generalize wr=U at *
  by_cases hlt : k<m
  ·have hsU:=hs.aa hbr
   have hzU:=hz.aa hbr
   have hlen:=hln.out
   have Hskip : Hid (((k : Int) ∈ s ++ z)->out=eH z ++ aP false (s ++ z) (k+1)):=λhmem=>by rw [kd,EG (by rw [Fz hmem];decide)];exact hst.out
   have Htake : Hid (¬ ((k : Int) ∈ s ++ z)->out ++ [(k : Int)]=eH z ++ aP false (s ++ z) (k+1)):=λhmem=>by rw [kd,EH (by rw [FJ hmem]),<- GA,<- hst.out]
   by_cases h1 : (k : Int) ∈ s
   ·have hmd : decide ((k : Int) ∈ s)=true:=by simpa using h1
    have HcA:=Z5 (bJ sa ns cs s k U hsU)
    rw [hmd] at HcA
    have Hst : Hid (out=eH z ++ aP false (s ++ z) (k+1)):=Hskip.out (List.mem_append.2 (.inl h1))
    clear h1 hmd
    go_wp2_with fail
    refine HcA.out.mono ?_
    rintro e w6 ⟨rfl,rfl⟩
    go_wp2_with fail
    go_roundw
    case rel=>exact ⟨k+1,aq,cq,out,by omega,by go_num,rfl,Hst.out,(show _<=_ by omega),hop,hbr⟩
    case measure=>simp [intOf] <;> omega
   ·have hmd : decide ((k : Int) ∈ s)=false:=by simpa using h1
    have HcA:=Z5 (bJ sa ns cs s k U hsU)
    rw [hmd] at HcA
    by_cases h2 : (k : Int) ∈ z
    ·have hmd2 : decide ((k : Int) ∈ z)=true:=by simpa using h2
     have HcB:=Z5 (bJ az nz cz z k U hzU)
     rw [hmd2] at HcB
     have Hst : Hid (out=eH z ++ aP false (s ++ z) (k+1)):=Hskip.out (List.mem_append.2 (.inr h2))
     clear h1 hmd h2 hmd2
     go_wp2_with fail
     refine HcA.out.mono ?_
     rintro e w6 ⟨rfl,rfl⟩
     go_wp2_with fail
     refine HcB.out.mono ?_
     rintro e w7 ⟨rfl,rfl⟩
     go_wp2_with fail
     go_roundw
     case rel=>exact ⟨k+1,aq,cq,out,by omega,by go_num,rfl,Hst.out,(show _<=_ by omega),hop,hbr⟩
     case measure=>simp [intOf] <;> omega
    ·have hmd2 : decide ((k : Int) ∈ z)=false:=by simpa using h2
     have HcB:=Z5 (bJ az nz cz z k U hzU)
     rw [hmd2] at HcB
     have Hst : Hid (out ++ [(k : Int)]=eH z ++ aP false (s ++ z) (k+1)):=Htake.out λh=>by
      rcases List.mem_append.1 h with h | h
      ·exact h1 h
      ·exact h2 h
     have hcn:=bk U (.int .i64 k) 3
     have hbn:=aA U (.cells #[.int .i64 k] 3)
     have hszU:=hbr.size
     clear h1 hmd h2 hmd2
     go_wp2_with fail
     refine HcA.out.mono ?_
     rintro e w6 ⟨rfl,rfl⟩
     go_wp2_with fail
     refine HcB.out.mono ?_
     rintro e w7 ⟨rfl,rfl⟩
     go_wp2_with (at_builtin;refine aX rfl _ _ 22 3 rfl (.int .i64 0) 8 underlying22 bh rfl w.heap.size aq out.length cq _ rfl (hop.alloc _) ⟨w7.heap.size,0,none⟩ 1 (.int .i64 k) rfl hcn rfl (by omega) (by unfold maxLen;omega) (by simp;omega) ?_;intro a5 c5 w5 hown5 hgr5 hap5)
     go_roundw
     case rel =>
      have hb5 : JA w w5:=Jb (Ft hbr (hbn.mono hszU)) (hop.alloc _) hgr5 (EF _) (ET hszU hbn.size)
      refine ⟨k+1,a5,c5,out ++ [(k : Int)],by omega,by go_num,by simp,Hst.out,(show _<=_ by rw [ER,E0];omega),?_,hb5⟩
      simpa using hown5
     case measure=>simp [intOf] <;> omega
  ·obtain rfl : k=m:=by omega
   have Ho : Hid (gW k s z=out):=by show _=_;rw [gW,hst.out]
   go_wp2_with fail
   go_ret
   exact ⟨aq,cq,by rw [Ho.out];rfl,by rw [Ho.out];exact hop,hbr⟩
section
variable {w : World} {b : Nat} {G : cC}
theorem wh {L : LL} {i k : Nat} (hk : k<L.length) (h0 : ∀j,j<k->nth (af L j) i=0) (h1 : nth (af L k) i ≠ 0) : aM L i 0=k:=by
 have hb:=kc L i (L.length - 0) 0;have hs:=eB L i (L.length - 0) 0;have hz:=iA L i (L.length - 0) 0;unfold aM;generalize dJ L i 0 (L.length - 0)=p at *;rcases IK p k with h | h | h
 ·exact absurd (h0 p h) (hs (by omega))
 ·exact h
 ·exact absurd (hz k (EL _) h) h1
theorem rZ {L : LL} {i : Nat} (h0 : ∀j,j<L.length->nth (af L j) i=0) : aM L i 0=L.length:=by
 have hb:=kc L i (L.length - 0) 0;have hs:=eB L i (L.length - 0) 0;unfold aM;generalize dJ L i 0 (L.length - 0)=p at *;rcases Fm p L.length with h | h
 ·exact absurd (h0 p h) (hs (by omega))
 ·omega
def CE (L : LL) (i : Nat) : Int:=if aM L i 0<L.length then aM L i 0 else -1
theorem Co (q i : Nat) (a : OA) (n c : Nat) (r : LI) (w : World) (hc : w.cell? ⟨q,0,none⟩=some (.int .i64 i)) (hr : Ints w a n r) (hi : i<n) :
  Calls prog 235 #[.slice a n c,.pointer (some ⟨q,0,none⟩)] w λe w'=>e = .returned (.bool (nth r i != 0))/\w=w':=by have ci:=hr.cell i hi;have hpl:=hr.pl;go_enter func235,ntmps235;go_wp2;go_ret;exact ⟨rfl,rfl⟩
theorem uP (q i m : Nat) (a : OA) (n c : Nat) (R : LL) (w : World) (hc : w.cell? ⟨q,0,none⟩=some (.int .i64 i)) (hi : bY w a n R) (hR : ∀r ∈ R,r.length=m) (him : i<m) :
  Calls prog 234 #[.slice a n c,.func (.func 235) #[] #[.pointer (some ⟨q,0,none⟩)]] w λe w'=>e = .returned (.int .i64 (CE R i))/\w=w':=by
 have Hlen:=Z5 hi.len;have hpl:=hi.pl;have hmax:=hi.max;unfold maxLen at hmax;have HR:=Z5 hR;clear hR;go_enter func234,ntmps234;go_wp2_with fail;go_loop [8] (λiv=>∃k : Nat,k<=n/\iv = .int .i64 k/\Hid (∀j,j<k->nth (af R j) i=0)) (λiv=>n - (intOf iv).toNat);case atStart=>exact ⟨0,EL _,rfl,λj hj=>by omega⟩
 case round =>
  obtain ⟨k,hk,rfl,hall⟩:=hrel
  by_cases hlt : k<n
  ·obtain ⟨br,mr,cr,ck,hrow⟩:=hi.cell k hlt
   have hml : mr=m:=by rw [<- hrow.len];exact HR.out _ (dN (by rw [Hlen.out];exact hlt))
   subst hml
   have Hc:=Z5 (Co q i br mr cr _ w hc hrow him)
   by_cases hz : nth (af R k) i=0
   ·have hz' : (nth (af R k) i != 0)=false:=by simpa using hz
    have Hz:=Z5 hz
    rw [hz'] at Hc
    clear hz hrow
    go_wp2_with fail
    refine Hc.out.mono ?_
    rintro e w' ⟨rfl,rfl⟩
    go_wp2_with fail
    go_round
    case rel=>exact ⟨k+1,by omega,by go_num,λj hj=>by
     rcases Fm j k with h | h
     ·exact hall.out j h
     ·rw [show j=k by omega];exact Hz.out⟩
    case measure=>simp [intOf] <;> omega
   ·have hz' : (nth (af R k) i != 0)=true:=by simpa using hz
    have Hf : Hid (CE R i=k):=by show _=_;have:=wh (L:=R) (i:=i) (k:=k) (by rw [Hlen.out];exact hlt) hall.out hz;rw [CE,this,EH (by rw [Hlen.out];exact hlt)]
    rw [hz'] at Hc
    clear hz hrow
    go_wp2_with fail
    refine Hc.out.mono ?_
    rintro e w' ⟨rfl,rfl⟩
    go_wp2_with fail
    go_ret
    exact ⟨aF Hf.out.symm,rfl⟩
  ·obtain rfl : k=n:=by omega
   have Hf : Hid (CE R i = -1):=by show _=_;have:=rZ (L:=R) (i:=i) (by rw [Hlen.out];exact hall.out);rw [CE,this,EG (by omega)]
   go_wp2_with fail
   go_ret
   exact ⟨aF Hf.out.symm,rfl⟩
theorem uM (A : Nat->Prop) (a : OA) (n c : Nat) (R : LL) (m i : Nat) (h : dY w b G) (hA : ∀x,A x->x<w.heap.size) (hi : fZ A w a n R) (hR : bx G.El m R) (him : i<m) (hn : n<=1000000) (hm : m<=1000000) :
  Calls prog 182 #[.pointer (some ⟨b,0,none⟩),.slice a n c,.int .i64 i] w λe w'=>∃a1 n1 c1,e = .returned (.slice a1 n1 c1)/\fZ A w' a1 n1 (pB G.ops R i)/\JA w w':=by
 have Hlen:=Z5 hi.len;have HA:=Z5 hA;have HR:=Z5 hR;have hplR:=hi.pl;clear hA hR;go_enter func182,ntmps182;have hmf : ∀(fn : Fn) (first cap : Array Value) (w : World),(Instr.makeFunc fn first cap).run prog w = .ok (.func fn first cap) w:=λ_ _ _ _=>rfl;go_wp2_with fail;obtain ⟨W,hW⟩ : ∃W : World,W=w.alloc (.cells #[.int .i64 i] 3):=⟨_,rfl⟩
 rw [<- hW];have hbW : JA w W:=by rw [hW];exact aA _ _
 have cI : W.cell? ⟨w.heap.size,0,none⟩=some (.int .i64 i):=by rw [hW];exact bk _ _ _
 have HbW:=Z5 hbW;have hiW:=hi.aa hbW;have hGW : dY W b G:=h.aa hbW;clear hW;refine (uP w.heap.size i m a n c R W cI hiW.pA (λr hr=>(HR.out r hr).1) him).mono ?_;rintro e w1 ⟨rfl,rfl⟩;by_cases hf : aM R i 0=R.length
 ·have Hw : Hid (pB G.ops R i=R):=by show _=_;rw [pB,EH hf]
  have hv : CE R i = -1:=by rw [CE,EG (by omega)]
  rw [hv];clear hf hv;go_wp2_with fail;go_ret;exact ⟨a,n,c,rfl,by rw [Hw.out];exact hiW,HbW.out⟩
 obtain ⟨_,hp,hp0⟩:=sJ (EL _) hf;obtain ⟨p,hpe⟩ : ∃p,aM R i 0=p:=⟨_,rfl⟩
 have Hw : Hid (pB G.ops R i=gB G.ops R p i n):=by show _=_;rw [pB,EG hf,hpe,Hlen.out]
 have hv : CE R i=p:=by rw [CE,hpe,EH (by rw [<- hpe];exact hp)]
 rw [hpe] at hp hp0;rw [hv];have hpn : p<n:=by rw [<- Hlen.out];exact hp
 have hp1 : nth (af R p) i ≠ 0:=hp0;have Hp0:=Z5 hp1;clear hf hpe hv hp0 hp1;go_wp2_with fail;go_loopw [8,23] (λov iv wr=>∃(l : Nat) (ao : OA) (co : Nat) (xs : List RX),l<=n/\ov = .slice ao xs.length co/\iv = .int .i64 l/\wr.ownsRow W.heap.size 22 1 (.slice ao xs.length co) xs.length (xs.map (Ea m))/\xs.length<=l /\
   Hid (xs.map RX.l=gB G.ops R p i l)/\Hid (∀x ∈ xs,Ints wr x.a m x.l/\¬ A (ah x.a)/\db ao (ah x.a))/\JA W wr) (λ_ iv _=>n - (intOf iv).toNat)
 case atStart=>exact ⟨0,none,0,[],EL _,rfl,rfl,bG,EL _,rfl,λx hx=>by simp at hx,EI _ _⟩
 case round =>
  obtain ⟨l,ao,co,xs,hl,rfl,rfl,hown,hxl,hxs,hxo,hbr⟩:=hrel
  generalize wr=U at *
  by_cases hlt : l<n
  ·have hiU:=hiW.aa hbr
   have cIU:=aj hbr cI
   obtain ⟨br,mr,cr,crow,hrow,hno⟩:=hiU.cell l hlt
   have hrv:=HR.out _ (dN (show l<R.length by rw [Hlen.out];exact hlt))
   have hml : mr=m:=by rw [<- hrow.len];exact hrv.1
   subst hml
   by_cases hlp : l=p
   ·have Hwo : Hid (gB G.ops R p i (l+1)=gB G.ops R p i l):=by show _=_;rw [gB,EH hlp]
    have he : ((l : Int) == (p : Int))=true:=by simp;omega
    clear hlp hrow hrv
    go_wp2_with fail
    go_roundw
    case rel=>exact ⟨l+1,ao,co,xs,by omega,rfl,by go_num,hown,by omega,by rw [Hwo.out];exact hxs,hxo,hbr⟩
    case measure=>simp [intOf] <;> omega
   have he : ((l : Int) == (p : Int))=false:=by simp;omega
   have Hwo : Hid (gB G.ops R p i (l+1)=gB G.ops R p i l ++ [mg G.ops (af R p) i (af R l)]):=by show _=_;rw [gB,EG hlp]
   have hpl:=hrow.pl
   have cri:=hrow.cell i him
   obtain ⟨N,hN⟩ : ∃N,mg G.ops (af R p) i (af R l)=N:=⟨_,rfl⟩
   have hpv:=HR.out _ (dN (show p<R.length by rw [Hlen.out];exact hpn))
   have hprl : (af R p).length=(af R l).length:=by rw [hpv.1,hrv.1]
   have HN:=Z5 hN
   go_upto_if 35 with fail
   go_cut [10] (λv wx=>∃a4 c4,v = .slice a4 mr c4/\Ints wx a4 mr N/\¬ A (ah a4)/\(ah a4<W.heap.size\/U.heap.size<=ah a4)/\JA U wx)
   case first =>
    by_cases hz : nth (af R l) i=0
    ·have hz' : (nth (af R l) i != 0)=false:=by simpa using hz
     have hNe : N=af R l:=by rw [<- hN,mg,EH hz]
     have HNe:=Z5 hNe
     have hlow : ah br<W.heap.size:=by
      obtain ⟨b0,m0,c0,k0,k1,k2⟩:=hiW.cell l hlt;have k3:=(aj hbr k0).symm.trans crow;injection k3 with k3
      injection k3 with e1 e2 e3
      subst e1 e2;exact k1.lt (by omega)
     clear hz hN hNe
     go_wp2_with fail
     go_meet
     exact ⟨br,cr,rfl,by rw [HNe.out];exact hrow,hno (by omega),.inl hlow,EI _ _⟩
    ·have hz' : (nth (af R l) i != 0)=true:=by simpa using hz
     obtain ⟨bp,mp,cp,cprow,hprow,hpno⟩:=hiU.cell p hpn
     have hmp : mp=mr:=by rw [<- hprow.len];exact hpv.1
     subst hmp
     have cpi:=hprow.cell i him
     have hppl:=hprow.pl
     have hGU : dY U b G:=hGW.aa hbr
     have elr : G.El (nth (af R l) i):=Jd hrv him
     have elp : G.El (nth (af R p) i):=Jd hpv him
     have HDv : Hid (∀k,Calls prog 236 #[.pointer (some ⟨b,0,none⟩),.int .i64 (nth (af R l) i),.int .i64 (nth (af R p) i)] (U.drewN k) λe w'=>∃n,e = .returned (.tuple #[.int .i64 (G.mul (nth (af R l) i) (G.inv (nth (af R p) i))),.int .i64 0])/\w'=(U.drewN k).drewN n):=λk=>DV _ _ (hGU.drewN k) elr elp Hp0.out
     have HDv0 : Hid (Calls prog 236 #[.pointer (some ⟨b,0,none⟩),.int .i64 (nth (af R l) i),.int .i64 (nth (af R p) i)] U.drew λe w'=>∃n,e = .returned (.tuple #[.int .i64 (G.mul (nth (af R l) i) (G.inv (nth (af R p) i))),.int .i64 0])/\w'=U.drew.drewN n):=DV _ _ (hGU.aa (EI _ _).drew) elr elp Hp0.out
     have elq : G.El (G.mul (nth (af R l) i) (G.inv (nth (af R p) i))):=Jw hGU _ _
     have hNl : N.length=mp:=by rw [<- hN,iG _ hprl];exact hrv.1
     have hNth : ∀j,j<mp->nth N j=G.ops.add (nth (af R l) j) (G.ops.neg (G.ops.mul (G.mul (nth (af R l) i) (G.inv (nth (af R p) i))) (nth (af R p) j))):=λj hj=>by rw [<- hN,kT _ hprl (by rw [hrv.1];exact hj),EG hz];rfl
     have HNl:=Z5 hNl
     have HNth:=Z5 hNth
     have Hrl:=Z5 hrv
     have Hpv:=Z5 hpv
     have Hprow:=Z5 hprow
     have Hrow:=Z5 hrow
     clear hz hN hNl hNth hrv hpv hprl
     obtain ⟨s,hs⟩ : ∃s,G.mul (nth (af R l) i) (G.inv (nth (af R p) i))=s:=⟨_,rfl⟩
     rw [hs] at elq HNth HDv HDv0
     go_upto_region 10 with fail
     go_cut [11,12] (λv ev wx=>v = .int .i64 s/\ev = .int .i64 0/\bf U wx)
     case first =>
      go_region_law ((first
       | (go_simp;go_at_call 236;((with_reducible refine HDv0.out.mono ?_);rintro e w4 ⟨m4,rfl,rfl⟩))
       | (go_simp;go_at_call 236;((with_reducible refine (HDv.out _).mono ?_);rintro e w4 ⟨m4,rfl,rfl⟩))))
      all_goals (go_wp2_with fail;go_meet;exact ⟨rfl,rfl,⟨_,rfl⟩⟩)
     obtain ⟨rfl,rfl,hdU⟩:=hcut
     generalize wc=U1 at *
     have hbU1 : JA U U1:=hdU.below
     clear HDv HDv0 hdU
     all_goals (
      obtain ⟨ro,hro⟩ : ∃ro,af R l=ro:=⟨_,rfl⟩
      rw [hro] at HNth Hrl Hrow
      obtain ⟨pv,hpv2⟩ : ∃pv,af R p=pv:=⟨_,rfl⟩
      rw [hpv2] at HNth Hpv Hprow
      have HCl : Hid (Calls prog 150 #[.slice br mp cr] U1 λe w'=>∃a4 c4,e = .returned (.slice a4 mp c4)/\w'.ownsRow U.heap.size 3 1 (.slice a4 mp c4) mp (ro.map (Value.int .i64))/\JA U1 w'):=by refine (dI br mp cr ro (Hrow.out.aa hbU1) hm).mono ?_;rintro e w' ⟨a4,c4,he,ho,hb⟩;rw [Hrl.out.1] at he ho;exact ⟨a4,c4,he,aW ho hbU1.size,hb⟩
      have Hhi:=Z5 hiU
      have HcI:=Z5 cIU
      have Hcp:=Z5 cprow
      clear hs hro hpv2 hrow hprow cri cpi crow hiU cIU cprow hown hxo
      have cprow:=aj hbU1 Hcp.out
      go_wp2_with (go_at_call 150;refine HCl.out.mono ?_;rintro e w4 ⟨a4,c4,rfl,ho4,hb4⟩;have cprow4:=aj hb4 cprow)
      have hbw4:=I8 hbU1 hb4
      clear cprow cprow4
      go_loopw [59] (λjv wy=>∃t : Nat,t<=mp/\jv = .int .i64 t/\wy.ownsRow U.heap.size 3 1 (.slice a4 mp c4) mp ((ei N ro t).map (Value.int .i64))/\JA U wy) (λjv _=>mp - (intOf jv).toNat)
      case atStart=>exact ⟨0,EL _,rfl,by rw [ew];exact ho4,hbw4⟩
      case round =>
       clear ho4
       obtain ⟨t,ht,rfl,hown,hby⟩:=hrel
       by_cases htt : t<mp
       ·have cpt:=(Hprow.out.aa hby).cell t htt
        have hkN : N.length=ro.length:=by rw [HNl.out,Hrl.out.1]
        have hkv : t<ro.length:=by rw [Hrl.out.1];exact htt
        have hmix:=dR N ro t t hkN (by omega)
        rw [EG (by omega)] at hmix
        have hset:=dW N ro t hkN hkv
        rw [HNth.out t htt] at hset
        have Hset:=Z5 hset
        obtain ⟨hiv,hmv⟩:=I9 hown
        have hpv4:=hiv.pl
        have cv1:=hiv.cell t htt
        have fv1:=(hmv (by omega)).2 t htt
        have hBv:=(hmv (by omega)).1
        rw [hmix] at cv1
        have elv : G.El (nth ro t):=Jd Hrl.out htt
        have elu : G.El (nth pv t):=Jd Hpv.out htt
        have hGr : dY wr b G:=hGU.aa hby
        have elm : ∀x y,G.El (G.mul x y):=λx y=>Jw hGU x y
        have HG : Hid (dY wr.drew b G/\∀n,dY (wr.drewN n) b G):=⟨hGr.aa (EI _ _).drew,λn=>hGr.drewN n⟩
        clear hmix hset hkN hkv hiv hmv hGr
        go_wp2_with fail
        go_region_law ((first
         | (go_simp;go_at_call 77;((with_reducible refine (o0 s (nth pv t) HG.out.1 elq elu).mono ?_);rintro e w5 ⟨m5,rfl,rfl⟩))
         | (go_simp;go_at_call 77;((with_reducible refine (o0 s (nth pv t) (HG.out.2 _) elq elu).mono ?_);rintro e w5 ⟨m5,rfl,rfl⟩))
         | (go_simp;go_at_call 187;((with_reducible refine (Dc (nth ro t) (G.mul s (nth pv t)) (HG.out.2 _) elv (elm _ _)).mono ?_);rintro e w5 ⟨m6,rfl,rfl⟩))))
        all_goals (
         go_wp2_with fail
         go_roundw
         case rel =>
          have hdr : bf wr (wr.drewN (1+m5+m6)):=⟨_,rfl⟩
          have h1:=bz (w:=wr.drewN (1+m5+m6)) hown t htt (.int .i64 (G.sub (nth ro t) (G.mul s (nth pv t))))
          rw [<- Ff,show G.sub (nth ro t) (G.mul s (nth pv t))=G.ops.add (nth ro t) (G.ops.neg (G.ops.mul s (nth pv t))) from rfl,Hset.out] at h1
          exact ⟨t+1,by omega,by go_num,h1,(I8 hby hdr.below).setCell (p:=⟨ah a4,aG a4+t,none⟩) hBv _⟩
         case measure=>simp [intOf] <;> omega)
       ·obtain rfl : t=mp:=by omega
        rw [fb N ro t HNl.out Hrl.out.1] at hown
        obtain ⟨hiv,hmv⟩:=I9 hown
        have hlo:=(hmv (by omega)).1
        go_wp2_with fail
        go_meet
        exact ⟨a4,c4,rfl,hiv,λhA=>by have h1:=HA.out _ hA;have h2:=HbW.out.size;have h3:=hbr.size;omega,.inr hlo,hby⟩)
   obtain ⟨a4,c4,rfl,hI4,hA4,hlo4,hb4⟩:=hcut
   generalize wc=V at *
   have hownV:=aY hown hb4
   have hapA : db ao (ah a4):=by
    by_cases h0 : ao=none
    ·exact .inl h0
    ·refine .inr ?_;have h1:=aU hown h0;omega
   have HxV : Hid (∀x ∈ xs,Ints V x.a mr x.l/\¬ A (ah x.a)/\db ao (ah x.a)):=λx hx=>by obtain ⟨q1,q2,q3⟩:=hxo.out x hx;exact ⟨q1.aa hb4,q2,q3⟩
   have hbV:=I8 hbr hb4
   have hcn:=bk V (.slice a4 mr c4) 22
   have hbn:=aA V (.cells #[.slice a4 mr c4] 22)
   have hsz:=hbV.size
   clear hown hiU cIU crow hrow cri hrv hpv hN hprl
   go_wp2_with (at_builtin;refine aX rfl _ _ 25 22 rfl (.slice none 0 0) 24 underlying25 eh rfl W.heap.size ao xs.length co _ rfl (hownV.alloc _) ⟨V.heap.size,0,none⟩ 1 (.slice a4 mr c4) rfl hcn rfl (by omega) (by unfold maxLen;omega) (by simp;omega) ?_;intro a5 c5 w5 hown5 hgr5 hap5)
   go_roundw
   case rel =>
    refine ⟨l+1,a5,c5,xs ++ [⟨a4,c4,N⟩],by omega,by simp,by go_num,?_,by simp;omega,?_,?_,Jb (Ft hbV (hbn.mono hsz)) (hownV.alloc _) hgr5 (EF _) (ET hsz hbn.size)⟩
    ·rw [FD,ER];exact hown5
    ·show _=_
     rw [FD,hxs.out,Hwo.out,HN.out];rfl
    ·intro x hx
     have hx' : Ints V x.a mr x.l/\¬ A (ah x.a)/\db ao (ah x.a):=by
      rcases List.mem_append.1 hx with hx | hx
      ·exact HxV.out x hx
      ·rw [List.mem_singleton.1 hx];exact ⟨hI4,hA4,hapA⟩
     refine ⟨(hx'.1.aa hbn).tW hgr5 λ_=>hx'.2.2,hx'.2.1,hap5 _ ?_ hx'.2.2⟩
     have:=hx'.1.lt (by omega)
     have:=hbn.size
     omega
   case measure=>simp [intOf] <;> omega
  ·obtain rfl : l=n:=by omega
   have hMA:=fZ.own hown (A:=A) (λx hx=>by have:=HA.out x hx;have:=HbW.out.size;omega) (by unfold maxLen;omega) (λx hx=>⟨(hxo.out x hx).1,λ_=>(hxo.out x hx).2.1⟩)
   rw [hxs.out,<- Hw.out] at hMA
   have hF:=I8 HbW.out hbr
   go_wp2_with fail
   go_ret
   exact ⟨ao,xs.length,co,rfl,hMA,hF⟩
end
theorem mZ {σ : Type} (I : World->σ->Prop) (J : σ->Nat->Prop) (val : σ->LL) (F : LI->LI->LL->Int × LL) (pb W : Nat)
  (sa : OA) (ns cs : Nat) (s : LI) (az : OA) (nz cz : Nat) (z : LI) (at' : OA) (nt ct : Nat) (t : LI) (w : World) (σ0 : σ)
  (hI0 : I w σ0) (hIb : ∀V V' σ,I V σ->aw V V' (λb=>w.heap.size<=b/\¬ J σ b) (λb=>w.heap.size<=b/\¬ J σ b)->I V' σ) (hp : w.cell? ⟨pb,9,none⟩=some (.int .i64 W)) (hS : ∀V σ,I V σ->Ints V sa ns s/\Ints V at' nt t)
  (hJ : ∀V σ x,I V σ->J σ x->x<V.heap.size) (hz : Ints w az nz z) (htn : t.Nodup) (hns : ns<=1000) (hnz : nz<=1000) (hnt : nt<=1000) (hWs : ns<=W)
  (hF : ns<W->∀(V : World) (σ : σ) (a1 : OA) (c1 : Nat) (a2 : OA) (c2 k : Nat) (zc : LI),k<nt->zc=z ++ (t.take k).filter (λx=>decide (¬ x ∈ z))->¬ nth t k ∈ z->I V σ->aw w V (J σ0) (J σ) ->
   Ints V a1 (ns+1) (s ++ [nth t k])->Ints V a2 zc.length zc->¬ J σ (ah a1)->(a2 ≠ none->¬ J σ (ah a2)) ->
   Calls prog 216 #[.pointer (some ⟨pb,0,none⟩),.slice a1 (ns+1) c1,.slice a2 zc.length c2] V
    λe V'=>∃σ',I V' σ'/\aw V V' (J σ) (J σ')/\e = .returned (.int .i64 (F (s ++ [nth t k]) zc (val σ)).1)/\((F (s ++ [nth t k]) zc (val σ)).1=0->val σ'=(F (s ++ [nth t k]) zc (val σ)).2)) :
  Calls prog 243 #[.pointer (some ⟨pb,0,none⟩),.slice sa ns cs,.slice az nz cz,.slice at' nt ct,.func (.func 216) #[.pointer (some ⟨pb,0,none⟩)] #[]] w
   λe w'=>∃σ',I w' σ'/\aw w w' (J σ0) (J σ')/\e = .returned (.int .i64 (fG F s z (if ns<W then t.filter (λx=>decide (¬ x ∈ z)) else []) (val σ0)).1) /\
    ((fG F s z (if ns<W then t.filter (λx=>decide (¬ x ∈ z)) else []) (val σ0)).1=0->val σ'=(fG F s z (if ns<W then t.filter (λx=>decide (¬ x ∈ z)) else []) (val σ0)).2):=by
 obtain ⟨KB,hKB⟩ : ∃KB,fG F s z (if ns<W then t.filter (λx=>decide (¬ x ∈ z)) else []) (val σ0)=KB:=⟨_,rfl⟩
 rw [hKB];have HKB:=Z5 hKB;clear hKB;have Hzl:=Z5 hz.len;have Htl:=Z5 (hS w σ0 hI0).2.len;have Hsl:=Z5 (hS w σ0 hI0).1.len;have hplt:=(hS w σ0 hI0).2.pl;have HS:=Z5 hS;have HI0:=Z5 hI0;have HIb:=Z5 hIb;have HJ:=Z5 hJ;have Htn:=Z5 htn;have HF:=Z5 hF;clear hS hI0 hIb hJ htn hF;by_cases hW : ns=W
 ·have hd : ((ns : Int) == (W : Int))=true:=by simp;omega
  have Hk : Hid (KB=(0,val σ0)):=by show _=_;rw [<- HKB.out,EG (by omega)];rfl
  go_enter func243,ntmps243;clear hW;go_wp2_with fail;go_ret;exact ⟨σ0,HI0.out,Ji _ _,by rw [Hk.out];rfl,λ_=>by rw [Hk.out]⟩
 have hd : ((ns : Int) == (W : Int))=false:=by simp;omega
 have hlW : ns<W:=by omega
 have HKB : Hid (KB=fG F s z (t.filter (λx=>decide (¬ x ∈ z))) (val σ0)):=by show _=_;rw [<- HKB.out,EH hlW]
 have HF:=Z5 (HF.out hlW);clear hlW hW;go_enter func243,ntmps243;go_wp2_with fail;refine (dI az nz cz z hz (by omega)).mono ?_;rintro e w1 ⟨a0,c0,rfl,hown0,hb1⟩;have hI1:=HIb.out w w1 σ0 HI0.out (Jc hb1 _);go_wp2_with fail;go_loopw [2,25] (λzv iv wr=>∃(k : Nat) (aq : OA) (cq : Nat) (zc : LI) (σ : σ),k<=nt/\iv = .int .i64 k/\zv = .slice aq zc.length cq/\Hid (zc=z ++ (t.take k).filter (λx=>decide (¬ x ∈ z))) /\
   wr.ownsRow w.heap.size 3 1 (.slice aq zc.length cq) zc.length (zc.map (Value.int .i64))/\Hid (I wr σ)/\Hid (aw w wr (J σ0) (J σ))/\Hid (aq ≠ none->¬ J σ (ah aq)) /\
   Hid (KB=fG F s zc ((t.drop k).filter (λx=>decide (¬ x ∈ z))) (val σ))/\zc.length<=nz+k)
  (λ_ iv _=>nt - (intOf iv).toNat)
 case atStart =>
  refine ⟨0,a0,c0,z,σ0,EL _,rfl,rfl,?_,hown0,hI1,Jc hb1 _,?_,?_,by rw [Hzl.out];omega⟩
  ·show _=_;simp
  ·show a0 ≠ none->_
   intro ha hj
   have h1:=HJ.out w σ0 _ HI0.out hj
   have h2:=(aU hown0 ha).1
   omega
  ·show _=_;rw [Ip];exact HKB.out
 case round =>
  obtain ⟨k,aq,cq,zc,σ,hk,rfl,rfl,hzc,hop,hI,hM,hap,hkb,hzn⟩:=hrel
  generalize wr=U at *
  by_cases hlt : k<nt
  ·have htU:=(HS.out U σ hI.out).2
   have hsU:=(HS.out U σ hI.out).1
   have ck:=htU.cell k hlt
   obtain ⟨hzi,_⟩:=I9 hop
   have hktl : k<t.length:=by rw [Htl.out];exact hlt
   have Htk:=Z5 (show t.take (k+1)=t.take k ++ [nth t k] from oZ t hktl)
   have Hdk:=Z5 (show t.drop k=nth t k :: t.drop (k+1) by rw [ai hktl];exact FL hktl)
   have Hzm : Hid (nth t k ∈ zc ↔ nth t k ∈ z):=by
    show _ ↔ _;rw [hzc.out,FH,Gj];constructor
    ·rintro (h | h)
     ·exact h
     ·exfalso;have hn : (t.take k ++ t.drop k).Nodup:=by rw [Ig];exact Htn.out
      rw [FT] at hn;exact hn.2.2 _ h.1 (nth t k) (by rw [Hdk.out];simp) rfl
    ·exact .inl
   by_cases hmz : nth t k ∈ z
   ·have hmd : decide (nth t k ∈ zc)=true:=by simpa using Hzm.out.2 hmz
    have HcA:=Z5 (bJ aq zc.length cq zc (nth t k) U hzi)
    rw [hmd] at HcA
    have Hzc2 : Hid (zc=z ++ (t.take (k+1)).filter (λx=>decide (¬ x ∈ z))):=by show _=_;rw [Htk.out,Gu,Gb (by simpa using hmz),Gk,IY];exact hzc.out
    have Hkb2 : Hid (KB=fG F s zc ((t.drop (k+1)).filter (λx=>decide (¬ x ∈ z))) (val σ)):=by show _=_;rw [hkb.out,Hdk.out,Gb (by simpa using hmz)]
    clear hmz hmd
    go_wp2_with fail
    refine HcA.out.mono ?_
    rintro e w6 ⟨rfl,rfl⟩
    go_wp2_with fail
    go_roundw
    case rel=>exact ⟨k+1,aq,cq,zc,σ,by omega,by go_num,rfl,Hzc2.out,hop,hI.out,hM.out,hap.out,Hkb2.out,by omega⟩
    case measure=>simp [intOf] <;> omega
   ·have hmd : decide (nth t k ∈ zc)=false:=by simpa using λh=>hmz (Hzm.out.1 h)
    have HcA:=Z5 (bJ aq zc.length cq zc (nth t k) U hzi)
    rw [hmd] at HcA
    have Hzc2 : Hid (zc ++ [nth t k]=z ++ (t.take (k+1)).filter (λx=>decide (¬ x ∈ z))):=by show _=_;rw [Htk.out,Gu,Gc (by simpa using hmz),Gk,<- GA,<- hzc.out]
    have Hkb2 : Hid (KB=if (F (s ++ [nth t k]) zc (val σ)).1=0 then fG F s (zc ++ [nth t k]) ((t.drop (k+1)).filter (λx=>decide (¬ x ∈ z))) (F (s ++ [nth t k]) zc (val σ)).2 else ((F (s ++ [nth t k]) zc (val σ)).1,[])):=by show _=_;rw [hkb.out,Hdk.out,Gc (by simpa using hmz),fG]
    have HFk:=Z5 (λV σ a1 c1 a2 c2=>HF.out V σ a1 c1 a2 c2 k zc hlt hzc.out hmz)
    have hszU:=hM.out.size
    clear hmz hmd
    go_wp2_with fail
    refine HcA.out.mono ?_
    rintro e w6 ⟨rfl,rfl⟩
    go_wp2_with fail
    refine (dI sa ns cs s hsU (by omega)).mono ?_
    rintro e w7 ⟨a7,c7,rfl,hown7,hb7⟩
    rw [Hsl.out] at hown7
    rw [Hsl.out]
    obtain ⟨x,hx⟩ : ∃x,nth t k=x:=⟨_,rfl⟩
    rw [hx] at ck Hzc2 Hkb2 HFk Htk Hdk Hzm HcA ⊢
    have hcn:=bk w7 (.int .i64 x) 3
    have hbn:=aA w7 (.cells #[.int .i64 x] 3)
    go_wp2_with (at_builtin;refine aX rfl _ _ 22 3 rfl (.int .i64 0) 8 underlying22 bh rfl w6.heap.size a7 ns c7 _ rfl (hown7.alloc _) ⟨w7.heap.size,0,none⟩ 1 (.int .i64 x) rfl hcn rfl (by omega) (by unfold maxLen;omega) (ET hb7.size hbn.size) ?_;intro a8 c8 w8 hown8 hgr8 hap8)
    have hb68 : JA w6 w8:=Jb (I8 hb7 hbn) (hown7.alloc _) hgr8 (EF _) (ET hb7.size hbn.size)
    have own8 : w8.ownsRow w6.heap.size 3 1 (.slice a8 (ns+1) c8) (ns+1) ((s ++ [x]).map (Value.int .i64)):=by simpa using hown8
    have hz8:=hzi.aa hb68
    clear hown7 hown8 hgr8 hap8 hcn hbn
    go_wp2_with fail
    refine (dI aq zc.length cq zc hz8 (by omega)).mono ?_
    rintro e w9 ⟨a9,c9,rfl,hown9,hb9⟩
    have hb69:=I8 hb68 hb9
    have hI9:=HIb.out w6 w9 σ hI.out (Jc hb69 _)
    have hM9 : aw w w9 (J σ0) (J σ):=hM.out.lB (hb69.mono hszU)
    have hs9:=(I9 own8).1.aa hb9
    have hz9:=(I9 hown9).1
    have hn8 : ¬ J σ (ah a8):=λhj=>by have h1:=HJ.out w6 σ _ hI.out hj;have h2:=(ez own8 (by omega)).1;omega
    have hn9 : a9 ≠ none->¬ J σ (ah a9):=λha hj=>by have h1:=HJ.out w6 σ _ hI.out hj;have h2:=(aU hown9 ha).1;have h3:=hb68.size;omega
    have hopz:=aY hop hb69
    have HCall:=Z5 (HFk.out w9 σ a8 c8 a9 c9 hI9 hM9 hs9 hz9 hn8 hn9)
    clear HFk hI9 hs9 hz9 hn8 hn9 hz8 own8 hown9
    generalize F (s ++ [x]) zc (val σ)=FR at *
    obtain ⟨fe,fv⟩:=FR
    dsimp only at HCall Hkb2
    go_wp2_with fail
    refine HCall.out.mono ?_
    rintro e w10 ⟨σ',hI',hM',rfl,hval⟩
    have hM10:=Z5 (hM9.trans hM')
    have hapz : aq ≠ none->¬ J σ' (ah aq):=λha=>hM'.not (aU hopz ha).2 (hap.out ha)
    have hopq:=hM'.own hopz hap.out
    have Hapz:=Z5 hapz
    have HI':=Z5 hI'
    clear HCall hM9 hM' hapz hI' hopz
    by_cases hfe : fe=0
    ·have Hval : Hid (val σ'=fv):=hval hfe
     subst hfe
     rw [EH rfl] at Hkb2
     have hcn:=bk w10 (.int .i64 x) 3
     have hbn:=aA w10 (.cells #[.int .i64 x] 3)
     have hsz10:=hM10.out.size
     clear hval
     go_wp2_with (at_builtin;refine aX rfl _ _ 22 3 rfl (.int .i64 0) 8 underlying22 bh rfl w.heap.size aq zc.length cq _ rfl (hopq.alloc _) ⟨w10.heap.size,0,none⟩ 1 (.int .i64 x) rfl hcn rfl (by omega) (by unfold maxLen;omega) (ET hsz10 hbn.size) ?_;intro a11 c11 w11 hown11 hgr11 hap11)
     go_roundw
     case rel =>
      have hb11 : Below w.heap.size w10 w11:=Jb (hbn.mono hsz10) (hopq.alloc _) hgr11 (EF _) (ET hsz10 hbn.size)
      have hK : aw w10 w11 (λb=>w.heap.size<=b/\¬ J σ' b) (λb=>w.heap.size<=b/\¬ J σ' b):=(Jc hbn _).trans (Jj hgr11 λha=>⟨(aU hopq ha).1,Hapz.out ha⟩)
      refine ⟨k+1,a11,c11,zc ++ [x],σ',by omega,by go_num,by simp,Hzc2.out,by simpa using hown11,HIb.out w10 w11 σ' HI'.out hK,hM10.out.lB hb11,?_,?_,by simp;omega⟩
      ·show a11 ≠ none->_
       intro ha hj
       have h1:=HJ.out w10 σ' _ HI'.out hj
       have h2 : db aq (ah a11):=by
        by_cases h0 : aq=none
        ·exact .inl h0
        ·exact .inr λe=>Hapz.out h0 (by rw [e];exact hj)
       rcases hap11 _ (Fc h1 hbn.size) h2 with h3 | h3
       ·exact ha h3
       ·exact h3 rfl
      ·show _=_
       rw [Hkb2.out,Hval.out]
     case measure=>simp [intOf] <;> omega
    ·have hfe' : (fe != 0)=true:=by simpa using hfe
     have Hk2 : Hid (KB=(fe,[])):=by show _=_;rw [Hkb2.out,EG hfe]
     have Hfe:=Z5 hfe
     clear hfe hval
     go_wp2_with fail
     go_ret
     exact ⟨σ',HI'.out,hM10.out,by rw [Hk2.out];rfl,λh0=>absurd (by rw [Hk2.out] at h0;exact h0) Hfe.out⟩
  ·obtain rfl : k=nt:=by omega
   have Hf : Hid (KB=(0,val σ)):=by show _=_;rw [hkb.out,FY (by rw [Htl.out];exact EF _),Gk,fG]
   go_wp2_with fail
   go_ret
   exact ⟨σ,hI.out,hM.out,by rw [Hf.out];rfl,λ_=>by rw [Hf.out]⟩
def kG (b : Nat) (P M : Int) (am : OA) (mn cm : Nat) (m : Nat) (a : OA) (n c : Nat) (ay : OA) (ny cy : Nat) (C : iV) (sv : Value) (k : Nat) : List Value :=
 [.pointer (some ⟨b,0,none⟩),.int .i64 P,.int .i64 M,.slice am mn cm,.int .i64 m,.slice a n c,.slice ay ny cy,.bool C.cos,.int .i64 C.M,.int .i64 C.W,sv,.int .i64 k]
structure vj (w0 : World) (b : Nat) (G : cC) (a : OA) (n : Nat) (L : LL) (m : Nat) (ay : OA) (ny : Nat) (C : iV) : Prop where
 g : dY w0 b G
 pA : bY w0 a n L
 rws : bx G.El m L
 n6 : n<=1000000
 m6 : m<=64
 w6 : C.W<=64
 c0 : C.cos=false
theorem ba.setCell {w : World} {b : Nat} {cs : List Value} (h : ba w b cs) (i : Nat) (v : Value) : ba (w.setCell ⟨b,i,none⟩ v) b (cs.set i v):=by
 refine ⟨by simpa using h.1,λj u hu=>?_,λj=>by rw [Fp];exact h.2.2 j⟩;by_cases e : j=i
 ·subst e;by_cases hl : j<cs.length
  ·rw [H8 hl] at hu;cases hu
   exact EX _ _ _ (h.2.1 j cs[j] (Fa hl))
  ·rw [FN (by omega),FC (by omega)] at hu;cases hu
 ·rw [Iq (by omega)] at hu;rw [EY _ _ _ _ (by simp <;> omega)];exact h.2.1 j u hu
theorem lZ {m : Nat} {t : LI} (h : bI m t=true) : ∀k,k<t.length->0<=nth t k/\nth t k<m:=λ_ hk=>⟨(fY h hk).1,(fY h hk).2.1⟩
def eY : LI->LI->Int
 | [],[]=>0
 | [],_ :: _=>-1
 | _ :: _,[]=>1
 | x :: a,y :: b=>if x<y then -1 else if y<x then 1 else eY a b
def il (a b : LI) : Bool:=decide (a.length<b.length) || (decide (a.length=b.length) && decide (eY a b<0))
def bS (l : LI) (n : Nat) (r : Int) : Nat->Bool × LI
 | 0=>(false,[])
 | k+1=>if nth l k<r then bS l n r k else if (bS l n r k).1=false\/il (aR k n) (bS l n r k).2=true then (true,aR k n) else bS l n r k
theorem oq : ∀ {a b c : LI},eY a b<0->eY b c<0->eY a c<0
 | [],[],_,h,_=>by simp [eY] at h
 | [],y :: b,[],_,h=>by simp [eY] at h
 | [],y :: b,z :: c,_,_=>by simp [eY]
 | x :: a,[],_,h,_=>by simp [eY] at h
 | x :: a,y :: b,[],_,h=>by simp [eY] at h
 | x :: a,y :: b,z :: c,h1,h2=>by
  rw [eY] at h1 h2 ⊢;by_cases xy : x<y
  ·by_cases yz : y<z
   ·rw [EH (by omega)];decide
   ·rw [EG yz] at h2;by_cases zy : z<y
    ·rw [EH zy] at h2;omega
    ·rw [EH (by omega)];decide
  ·rw [EG xy] at h1;by_cases yx : y<x
   ·rw [EH yx] at h1;omega
   ·rw [EG yx] at h1;by_cases yz : y<z
    ·rw [EH (by omega)];decide
    ·rw [EG yz] at h2;by_cases zy : z<y
     ·rw [EH zy] at h2;omega
     ·rw [EG zy] at h2;rw [EG (by omega),EG (by omega)];exact oq h1 h2
theorem fi {a b : LI} : il a b=true ↔ a.length<b.length\/a.length=b.length/\eY a b<0:=by unfold il;rw [GP,EW,E3,E3,E3]
theorem s9 {a b c : LI} (h1 : il a b=true) (h2 : il b c=true) : il a c=true:=by
 rw [fi] at h1 h2 ⊢;rcases h1 with h1 | ⟨h1,k1⟩
 ·rcases h2 with h2 | ⟨h2,_⟩
  ·exact .inl (by omega)
  ·exact .inl (by omega)
 ·rcases h2 with h2 | ⟨h2,k2⟩
  ·exact .inl (by omega)
  ·exact .inr ⟨by omega,oq k1 k2⟩
theorem qA : ∀a : LI,eY a a=0
 | []=>rfl
 | x :: a=>by rw [eY,EG (by omega),EG (by omega)];exact qA a
theorem wA (a : LI) : il a a=false:=by rw [HH];intro h;rw [fi,qA] at h;omega
theorem tI (l : LI) (n : Nat) (r : Int) : ∀k,((bS l n r k).1=false->∀j,j<k->nth l j<r) /\
  ((bS l n r k).1=true->(∃j,j<k/\¬ nth l j<r/\(bS l n r k).2=aR j n)/\∀j,j<k->¬ nth l j<r->il (aR j n) (bS l n r k).2=false)
 | 0=>⟨λ_ j hj=>by omega,λh=>by simp [bS] at h⟩
 | k+1=>by
  obtain ⟨h1,h2⟩:=tI l n r k;rw [bS];by_cases hr : nth l k<r
  ·rw [EH hr];refine ⟨λh j hj=>?_,λh=>?_⟩
   ·by_cases e : j=k
    ·subst e;exact hr
    ·exact h1 h j (by omega)
   ·obtain ⟨⟨j,g1,g2⟩,g3⟩:=h2 h;refine ⟨⟨j,by omega,g2⟩,λj hj hn=>?_⟩;by_cases e : j=k
    ·subst e;exact absurd hr hn
    ·exact g3 j (by omega) hn
  ·rw [EG hr];by_cases hc : (bS l n r k).1=false\/il (aR k n) (bS l n r k).2=true
   ·rw [EH hc];refine ⟨λh=>(by cases h),λ_=>⟨⟨k,by omega,hr,rfl⟩,λj hj hn=>?_⟩⟩;show il (aR j n) (aR k n)=false;by_cases e : j=k
    ·subst e;exact wA _
    ·rw [HH];intro hl;rcases hc with hc | hc
     ·exact hn (h1 hc j (by omega))
     ·cases hw : (bS l n r k).1 with
      | false=>exact hn (h1 hw j (by omega))
      | true =>
       have:=(h2 hw).2 j (by omega) hn
       rw [s9 hl hc] at this
       cases this
   ·rw [EG hc];have hw : (bS l n r k).1=true:=by
     cases hw : (bS l n r k).1 with
     | false=>exact absurd (.inl hw) hc
     | true=>rfl
    have hlk : il (aR k n) (bS l n r k).2=false:=by
     cases hw2 : il (aR k n) (bS l n r k).2 with
     | false=>rfl
     | true=>exact absurd (.inr hw2) hc
    refine ⟨λh=>(by rw [hw] at h;cases h),λ_=>?_⟩;obtain ⟨⟨j,g1,g2⟩,g3⟩:=h2 hw;refine ⟨⟨j,by omega,g2⟩,λj hj hn=>?_⟩;by_cases e : j=k
    ·subst e;exact hlk
    ·exact g3 j (by omega) hn
def mY (n : Nat) : Nat->Nat->LL
 | 0,_=>[[]]
 | s+1,lo=>(List.range' lo (n - lo)).flatMap λi=>(mY n s (i+1)).map λt=>(i : Int) :: t
def DI (lo n : Nat) (t : LI) : Prop:=t.Pairwise (· < ·)/\∀x ∈ t,(lo : Int)<=x/\x<n
theorem fl {n : Nat} : ∀ {s lo : Nat} {t : LI},t ∈ mY n s lo ↔ t.length=s/\DI lo n t
 | 0,lo,t=>by
  rw [mY,Fw];constructor
  ·rintro rfl;exact ⟨rfl,Hh,λx hx=>by simp at hx⟩
  ·rintro ⟨h,_⟩;exact Fi h
 | s+1,lo,t=>by
  rw [mY,IS];constructor
  ·rintro ⟨i,hi,h⟩;rw [List.mem_range'_1] at hi;obtain ⟨u,hu,rfl⟩:=List.mem_map.1 h;obtain ⟨h1,h2,h3⟩:=fl.1 hu;refine ⟨by simp [h1],List.pairwise_cons.2 ⟨λy hy=>by have:=h3 y hy;omega,h2⟩,λx hx=>?_⟩;rcases List.mem_cons.1 hx with rfl | hx
   ·omega
   ·have:=h3 x hx;omega
  ·rintro ⟨h1,h2,h3⟩;match t,h1,h2,h3 with
   | x :: u,h1,h2,h3 =>
    have hx:=h3 x (by simp)
    obtain ⟨h4,h5⟩:=List.pairwise_cons.1 h2
    refine ⟨x.toNat,List.mem_range'_1.2 (by omega),List.mem_map.2 ⟨u,fl.2 ⟨by simpa using h1,h5,λy hy=>?_⟩,?_⟩⟩
    ·have:=h4 y hy
     have:=h3 y (by simp [hy])
     omega
    ·rw [FX (by omega)]
theorem po (n : Nat) : ∀(s lo : Nat),(mY n s lo).Pairwise (λa b=>eY a b<0)
 | 0,lo=>by rw [mY];exact H3 _ _
 | s+1,lo=>by
  rw [mY,Ih];refine ⟨λi _=>?_,?_⟩
  ·rw [IJ];refine (po n s (i+1)).imp λh=>?_;rw [eY,EG (by omega),EG (by omega)];exact h
  ·refine IL (λ{i j} hij x hx y hy=>?_) (List.pairwise_lt_range' (s:=lo) (n:=n - lo));obtain ⟨a,_,rfl⟩:=List.mem_map.1 hx;obtain ⟨b,_,rfl⟩:=List.mem_map.1 hy;rw [eY,EH (by omega)];decide
def nT (n : Nat) : LL:=(List.range (n+1)).flatMap λs=>mY n s 0
theorem yY (n : Nat) : (nT n).Pairwise (λa b=>il a b=true):=by
 unfold nT;rw [Ih];refine ⟨λs _=>?_,?_⟩
 ·refine List.Pairwise.imp_of_mem (λ{a b} ha hb h=>?_) (po n s 0);rw [fi];exact .inr ⟨by rw [(fl.1 ha).1,(fl.1 hb).1],h⟩
 ·refine IL (λ{s s'} hs a ha b hb=>?_) (List.pairwise_lt_range (n:=n+1));rw [fi];exact .inl (by rw [(fl.1 ha).1,(fl.1 hb).1];exact hs)
theorem xb {lo n : Nat} {t : LI} (h : DI lo n t) (hn : lo<=n) : t.length+lo<=n:=by
 induction t generalizing lo with
 | nil=>simpa using hn
 | cons x u ih =>
  obtain ⟨h4,h5⟩:=List.pairwise_cons.1 h.1
  have hx:=h.2 x (by simp)
  have:=ih (lo:=x.toNat+1) ⟨h5,λy hy=>by have:=h4 y hy;have:=h.2 y (by simp [hy]);omega⟩ (by omega)
  simp only [FF];omega
theorem lz {n : Nat} {t : LI} : t ∈ nT n ↔ DI 0 n t:=by
 unfold nT;rw [IS];constructor
 ·rintro ⟨s,_,h⟩;exact (fl.1 h).2
 ·intro h;exact ⟨t.length,List.mem_range.2 (by have:=xb h (EL _);omega),fl.2 ⟨rfl,h⟩⟩
theorem xu : ∀ {a b : LI},a.Pairwise (· < ·)->b.Pairwise (· < ·)->(∀x,x ∈ a ↔ x ∈ b)->a=b
 | [],[],_,_,_=>rfl
 | [],y :: b,_,_,h=>by have:=(h y).2 (by simp);simp at this
 | x :: a,[],_,_,h=>by have:=(h x).1 (by simp);simp at this
 | x :: a,y :: b,ha,hb,h=>by
  obtain ⟨a1,a2⟩:=List.pairwise_cons.1 ha;obtain ⟨b1,b2⟩:=List.pairwise_cons.1 hb;have e : x=y:=by
   rcases List.mem_cons.1 ((h x).1 (by simp)) with e | e
   ·exact e
   ·rcases List.mem_cons.1 ((h y).2 (by simp)) with e2 | e2
    ·exact e2.symm
    ·have:=a1 _ e2;have:=b1 _ e;omega
  subst e;rw [xu a2 b2 λz=>?_];constructor
  ·intro hz;rcases List.mem_cons.1 ((h z).1 (by simp [hz])) with e | e
   ·have:=a1 z hz;omega
   ·exact e
  ·intro hz;rcases List.mem_cons.1 ((h z).2 (by simp [hz])) with e | e
   ·have:=b1 z hz;omega
   ·exact e
theorem oC (x : Nat) : ∀n,DI 0 n (aR x n)
 | 0=>⟨Hh,λy hy=>by simp [aR] at hy⟩
 | n+1=>by
  obtain ⟨h1,h2⟩:=oC x n;unfold aR;split
  ·refine ⟨?_,λy hy=>?_⟩
   ·rw [Im];refine ⟨h1,H3 _ _,λa ha b hb=>?_⟩;rw [Fw] at hb;have:=h2 a ha;omega
   ·rcases List.mem_append.1 hy with hy | hy
    ·have:=h2 y hy;omega
    ·rw [Fw] at hy;omega
  ·exact ⟨h1,λy hy=>by have:=h2 y hy;omega⟩
theorem uC {n : Nat} (hn : n<=64) {t : LI} (h : DI 0 n t) : ∃x,x<2 ^ n/\aR x n=t:=by
 have hT : ∀j,j<t.length->0<=nth t j/\nth t j<64:=λj hj=>by have:=h.2 _ (aO hj);omega
 have hm : ∀i,(qd t).testBit i=true ↔ (i : Int) ∈ t:=λi=>by
  rw [qd,mU t.length hT i];constructor
  ·rintro ⟨j,hj,e⟩;rw [<- e];exact aO hj
  ·intro hi;obtain ⟨j,hj,e⟩:=List.mem_iff_getElem.1 hi;exact ⟨j,hj,by rw [ai hj];exact e⟩
 refine ⟨qd t,?_,xu (oC _ _).1 h.1 λx=>?_⟩
 ·refine Nat.lt_pow_two_of_testBit _ λi hi=>?_;rw [HH];intro hb;have:=h.2 _ ((hm i).1 hb);omega
 ·rw [kA];constructor
  ·rintro ⟨j,_,rfl,hb⟩;exact (hm j).1 hb
  ·intro hx;have:=h.2 x hx;exact ⟨x.toNat,by omega,by omega,(hm _).2 (by rw [FX (by omega)];exact hx)⟩
theorem nZ {α : Type} {R : α->α->Prop} {p : α->Bool} : ∀ {l : List α} {t : α},l.Pairwise R->l.find? p=some t->p t=true/\t ∈ l/\∀u ∈ l,p u=true->u=t\/R t u
 | x :: l,t,hl,h=>by
  obtain ⟨h1,h2⟩:=List.pairwise_cons.1 hl;rw [List.find?_cons] at h;split at h
  ·rename_i hp;cases h
   exact ⟨hp,by simp,λu hu _=>by
    rcases List.mem_cons.1 hu with e | e
    ·exact .inl e
    ·exact .inr (h1 u e)⟩
  ·rename_i hp;obtain ⟨k1,k2,k3⟩:=nZ h2 h;refine ⟨k1,by simp [k2],λu hu hpu=>?_⟩;rcases List.mem_cons.1 hu with e | e
   ·subst e;rw [hpu] at hp;cases hp
   ·exact k3 u e hpu
theorem yr {l : LI} {n : Nat} (hn : n<=64) {r : Int} {p : LI->Bool} (hp : ∀x,x<2 ^ n->(p (aR x n)=true ↔ ¬ nth l x<r)) :
  (bS l n r (2 ^ n)).2=((nT n).find? p).getD []/\((bS l n r (2 ^ n)).1=true->(nT n).find? p=some (bS l n r (2 ^ n)).2):=by
 obtain ⟨h1,h2⟩:=tI l n r (2 ^ n);have h0 : ∀k,(bS l n r k).1=false->(bS l n r k).2=[]:=λk=>by
  induction k with
  | zero=>intro _;rfl
  | succ k ih =>
   rw [bS]
   split
   ·exact ih
   ·split
    ·intro h;cases h
    ·exact ih
 cases hw : (bS l n r (2 ^ n)).1 with
 | false =>
  have hnone : (nT n).find? p=none:=by rw [List.find?_eq_none];intro t ht hpt;obtain ⟨x,hx,rfl⟩:=uC hn (lz.1 ht);exact (hp x hx).1 hpt (h1 hw x hx)
  rw [hnone]
  exact ⟨h0 _ hw,λh=>by cases h⟩
 | true =>
  obtain ⟨⟨j,g1,g2,g3⟩,g4⟩:=h2 hw
  have hb : aR j n ∈ nT n:=lz.2 (oC j n)
  cases hf : (nT n).find? p with
  | none =>
   have:=List.find?_eq_none.1 hf _ hb
   exact absurd ((hp j g1).2 g2) this
  | some t =>
   obtain ⟨k1,k2,k3⟩:=nZ (yY n) hf
   have ht : t=(bS l n r (2 ^ n)).2:=by
    rcases k3 _ hb ((hp j g1).2 g2) with e | e
    ·rw [g3];exact e.symm
    ·obtain ⟨x,hx,rfl⟩:=uC hn (lz.1 k2);have:=g4 x hx ((hp x hx).1 k1);rw [g3,e] at this;cases this
   exact ⟨ht.symm,λ_=>by rw [ht]⟩
def DC (m : Nat) (L : LL) : LL:=(List.range m).map (aQ L)
theorem xw (m : Nat) (L : LL) : (DC m L).length=m:=by simp [DC]
theorem Ap {m k : Nat} (L : LL) (h : k<m) : af (DC m L) k=aQ L k:=by rw [aE (by rw [xw];exact h)];simp [DC]
theorem aN.DX {B : Nat} {w : World} {a : OA} {n c : Nat} {R : LA} {L : LL} (h : aN w B a n c R L) : bX B w a n L :=
 ⟨h.ll,h.pl,h.max,λhn=>(aU h.own (h.ne hn)).1,λi hi=>⟨_,_,_,h.cell hi,h.ints hi,λhm=>by refine (aU (h.row i hi) λe=>?_).1;have:=(h.ints hi).pl hm;rw [e] at this;cases this⟩⟩
def gh (l : LI) (i : Nat) : LI:=(List.range l.length).map λj=>if j<i then nth l j else 0
theorem gS (l : LI) (i : Nat) : (gh l i).length=l.length:=by simp [gh]
theorem zK {l : LI} {i : Nat} (h : i<l.length) : (gh l i).set i (nth l i)=gh l (i+1):=by
 refine Gp (by simp [gh]) λj h1 h2=>?_;simp only [gh,List.getElem_set,FZ,G8];by_cases e : i=j
 ·subst e;rw [EH rfl,EH (by omega)]
 ·rw [EG e];by_cases h : j<i
  ·rw [EH h,EH (by omega)]
  ·rw [EG h,EG (by omega)]
theorem yJ (l : LI) : gh l 0=List.replicate l.length 0:=by refine Gp (by simp [gh]) λj h1 h2=>?_;simp [gh]
theorem Bj (l : LI) : gh l l.length=l:=by refine Gp (by simp [gh]) λj h1 h2=>?_;simp only [gh,FZ,G8];rw [EH h2,ai h2]
def En (w1 : World) (n m g gs : Nat) (wx : World) : Prop :=
 ba wx g [.int .i64 n,.slice (some ⟨gs,0,none⟩) m m]/\wx.ownsRow w1.heap.size 22 1 (.slice (some ⟨gs,0,none⟩) m m) m (List.replicate m (.slice none 0 0))/\g ≠ gs/\w1.heap.size<=g/\JA w1 wx
theorem Ev (w1 : World) (n m : Nat) (hm : m<=1000) : En w1 n m (w1.heap.size+1) w1.heap.size (((w1.alloc (.cells (Array.replicate m (Value.slice none 0 0)) 22)).alloc (.cells #[.int .i64 n,.slice (some ⟨w1.heap.size,0,none⟩) m m] 87)).drew):=by have ho:=rC w1 22 (.slice none 0 0) m (EF w1.heap.size) (by unfold maxLen;omega);rw [show (List.replicate m (Value.slice none 0 0)).toArray=Array.replicate m (Value.slice none 0 0) by simp] at ho;have hb:=aA (w1.alloc (.cells (Array.replicate m (Value.slice none 0 0)) 22)) (.cells #[.int .i64 n,.slice (some ⟨w1.heap.size,0,none⟩) m m] 87);refine ⟨ba.aa (Ja _ _ _ (by simp)) (EI _ _).drew,aY ho hb.drew,by omega,by omega,(I8 (aA _ _) hb).drew⟩
theorem Ei (w1 : World) (n m : Nat) (hm : m<=1000) : En w1 n m w1.heap.size (w1.heap.size+1) (((w1.alloc (.cells #[.int .i64 n,.slice (some ⟨w1.heap.size+1,0,none⟩) m m] 87)).alloc (.cells (Array.replicate m (Value.slice none 0 0)) 22)).drew):=by have ho:=rC (w1.alloc (.cells #[.int .i64 n,.slice (some ⟨w1.heap.size+1,0,none⟩) m m] 87)) 22 (.slice none 0 0) m (B:=w1.heap.size) (by simp) (by unfold maxLen;omega);rw [show (List.replicate m (Value.slice none 0 0)).toArray=Array.replicate m (Value.slice none 0 0) by simp,GJ] at ho;have hb:=aA (w1.alloc (.cells #[.int .i64 n,.slice (some ⟨w1.heap.size+1,0,none⟩) m m] 87)) (.cells (Array.replicate m (Value.slice none 0 0)) 22);refine ⟨((Ja _ _ _ rfl).alloc _).aa (EI _ _).drew,aY ho (EI _ _).drew,by omega,by omega,(I8 (aA _ _) hb).drew⟩
def Dy (w1 : World) (gs g n m k bn : Nat) (L : LL) (R2 : LA) (wx : World) : Prop :=
 aN wx w1.heap.size (some ⟨gs,0,none⟩) m m R2 L/\¬ bH (some ⟨gs,0,none⟩) R2 g/\aK R2 k=(some ⟨bn,0,none⟩,n)/\JA w1 wx/\ba wx g [.int .i64 n,.slice (some ⟨gs,0,none⟩) m m]
theorem Dy.drew {w1 : World} {gs g n m k bn : Nat} {L : LL} {R2 : LA} {wx : World} (h : Dy w1 gs g n m k bn L R2 wx) : Dy w1 gs g n m k bn L R2 wx.drew :=
 ⟨h.1.aa (EI _ _).drew,h.2.1,h.2.2.1,h.2.2.2.1.drew,h.2.2.2.2.aa (EI _ _).drew⟩
theorem Dq {w1 V : World} {gs g n m k : Nat} {L C : LL} {R : LA} {l : LI} (hl : l.length=n) (hk : k<m) (hn : n<=1000) (hO : aN V w1.heap.size (some ⟨gs,0,none⟩) m m R L) (hgR : ¬ bH (some ⟨gs,0,none⟩) R g)
  (hBx : ba V g [.int .i64 n,.slice (some ⟨gs,0,none⟩) m m]) (hgg : g ≠ gs) (hbr : JA w1 V) :
  ∃R2,Dy w1 gs g n m k V.heap.size (L.set k (gh l 0)) R2 ((V.alloc (.cells (Array.replicate n (Value.int .i64 0)) 3)).setCell ⟨gs,k,none⟩ (.slice (some ⟨V.heap.size,0,none⟩) n n)):=by
 have e0' : (⟨ah (some ⟨gs,0,none⟩),aG (some ⟨gs,0,none⟩)+k,none⟩ : Addr)=⟨gs,k,none⟩:=by simp [ah,aG]
 have hgsV:=(aN.lt hO gs (.inl ⟨by simp,rfl⟩))
 have hown3:=rC V 3 (.int .i64 0) n (B:=w1.heap.size) hbr.size (by unfold maxLen;omega);rw [show (List.replicate n (Value.int .i64 0)).toArray=Array.replicate n (Value.int .i64 0) by simp] at hown3;have hO3:=hO.aa (aA V (.cells (Array.replicate n (Value.int .i64 0)) 3));have hmk0 : (gh l 0).map (Value.int .i64)=List.replicate n (Value.int .i64 0):=by rw [yJ,Gg,hl]
 have hnew:=aN.setRow hO3 hk (r:=some ⟨V.heap.size,0,none⟩) (rc:=n) (l:=gh l 0) (by rw [gS,hl,hmk0];exact hown3) (.inr (by show V.heap.size ≠ gs;omega)) (λj hj hne=>by
  by_cases hn : (aK R j).1=none
  ·exact .inl hn
  ·refine .inr (.inr λe=>?_)
   have h9:=(aN.lt hO _ (aN.ku (by rw [hO.rl];exact hj) hn)).2
   have h8 : V.heap.size=ah (aK R j).1:=e
   omega)
 rw [gS,hl,e0'] at hnew;have hgV : g<V.heap.size:=hBx.1;refine ⟨_,hnew,λh=>?_,by rw [fu _ _ _ _ (by rw [hO.rl];exact hk),EH rfl],(I8 hbr (aA _ _)).setCell hgsV.1 _,?_⟩
 ·rcases h with h | ⟨i,hi',h1,h2⟩
  ·exact hgR (.inl h)
  ·rw [Fu] at hi';rw [fu _ _ _ _ (by rw [hO.rl];exact hk)] at h1 h2;split at h1
   ·rename_i e;rw [EH e] at h2;have h3 : g=V.heap.size:=h2;omega
   ·rename_i e;rw [EG e] at h2;exact hgR (.inr ⟨i,hi',h1,h2⟩)
 ·have hb2 : ((V.alloc (.cells (Array.replicate n (Value.int .i64 0)) 3)).setCell ⟨gs,k,none⟩ (.slice (some ⟨V.heap.size,0,none⟩) n n)).heap[g]? = (V.alloc (.cells (Array.replicate n (Value.int .i64 0)) 3)).heap[g]?:=EZ _ _ _ _ (by show g ≠ gs;exact hgg);have hx:=hBx.alloc (.cells (Array.replicate n (Value.int .i64 0)) 3);exact ⟨by have:=hx.1;simpa using this,λi v hv=>(E4 (w:=V.alloc (.cells (Array.replicate n (Value.int .i64 0)) 3)) (a:=⟨g,i,none⟩) hb2).trans (hx.2.1 i v hv),λi=>(E5 (w:=V.alloc (.cells (Array.replicate n (Value.int .i64 0)) 3)) (a:=⟨g,i,none⟩) hb2).trans (hx.2.2 i)⟩
theorem pI (P M : Int) (am : OA) (mn cm : Nat) (mod : LI) (m : Nat) (a : OA) (n c : Nat) (L : LL) (w : World) (hmod : Ints w am mn mod) (hi : bY w a n L) (h5 : dC P M mod m L=0) :
  Calls prog 130 #[.agg #[.int .i64 P,.int .i64 M,.slice am mn cm],.agg #[.int .i64 m,.slice a n c]] w
   λe w'=>∃a1 c1,e = .returned (.tuple #[.agg #[.int .i64 n,.slice a1 m c1],.int .i64 0])/\bX w.heap.size w' a1 m (DC m L)/\JA w w':=by
 have Hlen:=Z5 hi.len;have hpla:=hi.pl;obtain ⟨hfB,h8⟩:=e8 h5;obtain ⟨m0,em0,hm256,hL256,hR0⟩:=gG h8;obtain rfl : m=m0:=by omega
 have hn : n<=256:=by rw [<- hi.len];exact hL256
 have HLl : Hid (∀k,k<n->(af L k).length=m):=λk hk=>(hR0.row (i:=k) (by rw [hi.len];exact hk)).1;obtain ⟨T,hT⟩ : ∃T,DC m L=T:=⟨_,rfl⟩
 have HTl : Hid (T.length=m):=by show _=_;rw [<- hT];exact xw _ _
 have HTk : Hid (∀k,k<m->af T k=aQ L k):=λk hk=>by rw [<- hT];exact Ap L hk
 rw [hT];clear h5 em0 hL256 hR0 hT;go_enter func130,ntmps130;go_wp2_with fail;obtain ⟨W,hW⟩ : ∃W : World,W=((((w.alloc (.cells #[.int .i64 P,.int .i64 M,.slice am mn cm] 24)).alloc (.cells #[.int .i64 m,.slice a n c] 87)).alloc (.cells #[.int .i64 0,.slice none 0 0] 87)).alloc (.cells #[.int .i64 m,.slice a n c] 87)):=⟨_,rfl⟩
 rw [<- hW];have hbW : JA w W:=by rw [hW];exact ((((EI _ _).alloc (EF _) _).alloc (by simp) _).alloc (by simp;omega) _).alloc (by simp;omega) _
 have hsW : W.heap.size=w.heap.size+4:=by rw [hW];simp
 have x1 : ba W (w.heap.size+1) [.int .i64 m,.slice a n c]:=by rw [hW];exact ((Ja _ _ _ (by simp)).alloc _).alloc _
 have x2 : ba W (w.heap.size+1+1) [.int .i64 0,.slice none 0 0]:=by rw [hW];exact (Ja _ _ _ (by simp)).alloc _
 have q3 : W.cell? ⟨w.heap.size+1+1+1,0,none⟩=some (.int .i64 m)/\W.cell? ⟨w.heap.size+1+1+1,1,none⟩=some (.slice a n c):=by rw [hW];exact ⟨aC _ _ _ (by simp) 0,aC _ _ _ (by simp) 1⟩
 have hMs : rF W (some ⟨w.heap.size+1+1+1,0,none⟩) 1 [((m : Int),L)]:=⟨rfl,λ_=>rfl,by unfold maxLen;omega,λi hi'=>by
  have : i=0:=by simp at hi';omega
  subst this;exact ⟨a,n,c,by simpa using q3.1,by simpa using q3.2,hi.aa hbW⟩⟩
 have HX:=Z5 (E6 x1 x2);have HsW:=Z5 hsW;have HbW:=Z5 hbW;clear hW hsW x1 x2 q3;refine (jQ P M am mn cm mod _ 1 1 _ W (hmod.aa hbW) hMs).mono ?_;rintro e w1 ⟨hb1,hcase⟩;rw [iY] at hcase;rcases hcase with ⟨hB,_⟩ | ⟨_,er,h0,h1,_⟩ | ⟨_,_,b,rfl,hG,hbl⟩
 ·rw [hfB] at hB;exact absurd hB (by decide)
 ·rw [h8] at h1;exact absurd h1.symm h0
 have hbw1:=I8 hbW hb1;have r1:=HX.out.1.aa hb1;have m0:=r1.cell 0 rfl;have m1:=r1.cell 1 rfl;clear hMs hfB h8 hbW r1 hG hbl;have hmk:=run_mk (P:=prog) 25 22 (.slice none 0 0) 24 underlying25 eh rfl m (by omega) (by omega);go_upto_region 4 with fail;go_cut [8] (λv wx=>∃g gs,v = .pointer (some ⟨g,0,none⟩)/\En w1 n m g gs wx);case first =>
  have u1:=aJ m0 (.cells #[.int .i64 0,.slice none 0 0] 87)
  have u2:=aJ m1 (.cells #[.int .i64 0,.slice none 0 0] 87)
  have u3:=aJ m0 (.cells (Array.replicate m (Value.slice none 0 0)) 22)
  have u4:=aJ m1 (.cells (Array.replicate m (Value.slice none 0 0)) 22)
  have u5:=aJ u1 (.cells (Array.replicate m (Value.slice none 0 0)) 22)
  have u6:=aJ u2 (.cells (Array.replicate m (Value.slice none 0 0)) 22)
  have u7:=aJ u3 (.cells #[.int .i64 0,.slice none 0 0] 87)
  have u8:=aJ u4 (.cells #[.int .i64 0,.slice none 0 0] 87)
  go_region_law (fail)
  all_goals (go_wp2_with fail;go_meet)
  all_goals (first | exact ⟨_,_,rfl,Ev w1 n m (by omega)⟩ | exact ⟨_,_,rfl,Ei w1 n m (by omega)⟩)
 obtain ⟨g,gs,rfl,hBx,hsp,hgg,hgl,hbc⟩:=hcut;generalize wc=V0 at *;have hO:=qs hsp;have hO1 : ∃R,aN V0 w1.heap.size (some ⟨gs,0,none⟩) m m R (di m 0 T)/\¬ bH (some ⟨gs,0,none⟩) R g:=⟨_,by simpa [di] using hO,λh=>by
  rcases h with ⟨_,e⟩ | ⟨i,hi,h1,_⟩
  ·exact hgg e
  ·rw [fy] at h1;exact h1 rfl⟩
 have d1:=hBx.cell 1 rfl;have HX1 : Hid (∀V,JA w1 V->V.cell? ⟨w.heap.size+1,0,none⟩=some (.int .i64 m)/\V.cell? ⟨w.heap.size+1,1,none⟩=some (.slice a n c)):=λV hV=>by have r1:=(HX.out.1.aa hb1).aa hV;exact ⟨r1.cell 0 rfl,r1.cell 1 rfl⟩
 clear hO hsp m0 m1;go_wp2_with fail;go_loopw [33] (λjv wr=>∃k : Nat,k<=m/\jv = .int .i64 k/\(∃R,aN wr w1.heap.size (some ⟨gs,0,none⟩) m m R (di m k T)/\¬ bH (some ⟨gs,0,none⟩) R g)/\ba wr g [.int .i64 n,.slice (some ⟨gs,0,none⟩) m m]/\JA w1 wr) (λjv _=>m - (intOf jv).toNat);case atStart=>exact ⟨0,EL _,rfl,hO1,hBx,hbc⟩
 case round =>
  clear hO1 hBx hbc d1
  obtain ⟨k,hk,rfl,⟨R,hO,hgR⟩,hBx,hbr⟩:=hrel
  by_cases hlt : k<m
  ·generalize wr=V at *
   have d1:=hBx.cell 1 rfl
   obtain ⟨e0,e1⟩:=HX1.out V hbr
   have hgc : V.cell? ⟨gs,k,none⟩=some (.slice (aK R k).1 (af (di m k T) k).length (aK R k).2):=by simpa [ah,aG] using hO.cell hlt
   have hgf : V.frozen? ⟨gs,k,none⟩=false:=by simpa [ah,aG] using hO.frozen hlt
   have u1:=aJ d1 (.cells (Array.replicate n (Value.int .i64 0)) 3)
   have u2:=aJ e1 (.cells (Array.replicate n (Value.int .i64 0)) 3)
   have u3:=aJ hgc (.cells (Array.replicate n (Value.int .i64 0)) 3)
   have u4:=bV (EP _ _ hgc) hgf (.cells (Array.replicate n (Value.int .i64 0)) 3)
   have hmk2:=run_mk (P:=prog) 22 3 (.int .i64 0) 8 underlying22 bh rfl n (by omega) (by omega)
   obtain ⟨C,hC⟩ : ∃C,aQ L k=C:=⟨_,rfl⟩
   have hCl : C.length=n:=by rw [<- hC,b8];exact Hlen.out
   have HCn : Hid (∀i,i<n->nth C i=nth (af L i) k):=λi hi'=>by rw [<- hC];exact bR _ _ _ (by rw [Hlen.out];exact hi')
   have HCl:=Z5 hCl
   have Hst : Hid ((di m k T).set k C=di m (k+1) T):=by show _=_;rw [<- hC,<- HTk.out k hlt];exact nQ hlt HTl.out
   obtain ⟨R2,hR2⟩:=Dq (L:=di m k T) (C:=L) hCl hlt (by omega) hO hgR hBx hgg hbr
   obtain ⟨bn,hbn⟩ : ∃bn,V.heap.size=bn:=⟨_,rfl⟩
   have HR2 : Hid (Dy w1 gs g n m k bn ((di m k T).set k (gh C 0)) R2 ((V.alloc (.cells (Array.replicate n (Value.int .i64 0)) 3)).setCell ⟨gs,k,none⟩ (.slice (some ⟨V.heap.size,0,none⟩) n n))):=by have h:=hR2;rw [hbn] at h;first | exact h | (show Dy _ _ _ _ _ _ _ _ _ _;rw [hbn];exact h)
   have HbnV : Hid (V.heap.size=bn):=hbn
   clear hR2 hCl hC hbn
   go_upto_region 8 with fail
   go_cut [9] (λv wx=>v = .int .i64 k/\Dy w1 gs g n m k bn ((di m k T).set k (gh C 0)) R2 wx)
   case first =>
    go_region_law (fail)
    all_goals (go_wp2_with fail;go_meet;first | exact ⟨rfl,HR2.out⟩ | exact ⟨rfl,HR2.out.drew⟩)
   clear u1 u2 u3 u4 hmk2 d1 e0 e1 hgc hgf hBx HR2
   obtain ⟨rfl,hR2⟩:=hcut
   obtain ⟨hO2,hg2,hk2,hb2,hBx2⟩:=hR2
   generalize wc=Y at *
   have d1:=hBx2.cell 1 rfl
   obtain ⟨e0,e1⟩:=HX1.out Y hb2
   have HK2:=Z5 hk2
   have HbV:=Z5 hbr
   clear hk2 hO hbr hgR
   go_wp2_with fail
   go_loopw [47] (λiv wx=>∃i : Nat,i<=n/\iv = .int .i64 i/\aN wx w1.heap.size (some ⟨gs,0,none⟩) m m R2 ((di m k T).set k (gh C i))/\ba wx g [.int .i64 n,.slice (some ⟨gs,0,none⟩) m m]/\JA w1 wx) (λiv _=>n - (intOf iv).toNat)
   case atStart=>exact ⟨0,EL _,rfl,hO2,hBx2,hb2⟩
   case round =>
    clear hO2 hBx2 hb2 d1 e0 e1
    obtain ⟨i,hi',rfl,hO2,hBx2,hb2⟩:=hrel
    by_cases hli : i<n
    ·have d1:=hBx2.cell 1 rfl
     obtain ⟨e0,e1⟩:=HX1.out wr hb2
     have hLk : af ((di m k T).set k (gh C i)) k=gh C i:=by rw [eg _ _ _ _ (by have h:=hO2.ll;rw [Fu] at h;omega),EH rfl]
     have hgc : wr.cell? ⟨gs,k,none⟩=some (.slice (some ⟨bn,0,none⟩) n n):=by have h:=hO2.cell hlt;rw [HK2.out,hLk,gS,HCl.out] at h;simpa [ah,aG] using h
     have hrow:=hO2.row k hlt
     rw [HK2.out,hLk,gS,HCl.out] at hrow
     obtain ⟨hi6,hm6⟩:=I9 hrow
     have cx : wr.cell? ⟨bn,i,none⟩=some (.int .i64 (nth (gh C i) i)):=by have h:=hi6.cell i hli;simpa [ah,aG] using h
     have fx : wr.frozen? ⟨bn,i,none⟩=false:=by have h:=(hm6 (by omega)).2 i hli;simpa [ah,aG] using h
     have HB6 : Hid (w1.heap.size<=bn):=(hm6 (by omega)).1
     have hbw:=I8 hbw1 hb2
     obtain ⟨ra,rn,rc,hcell,hrw⟩:=(hi.aa hbw).cell i hli
     have hrn : rn=m:=by rw [<- hrw.len];exact HLl.out i hli
     subst hrn
     have cr:=hrw.cell k hlt
     have hpr:=hrw.pl
     have hCi:=HCn.out i hli
     obtain ⟨x,hx⟩ : ∃x,nth (af L i) k=x:=⟨_,rfl⟩
     rw [hx] at cr hCi
     have hown2:=bz hrow i hli (.int .i64 x)
     rw [<- Ff,<- hCi,zK (by rw [HCl.out];exact hli),hCi] at hown2
     have e7 : (⟨ah (some ⟨bn,0,none⟩),aG (some ⟨bn,0,none⟩)+i,none⟩ : Addr)=⟨bn,i,none⟩:=by simp [ah,aG]
     rw [e7] at hown2
     have hfin : aN (wr.setCell ⟨bn,i,none⟩ (.int .i64 x)) w1.heap.size (some ⟨gs,0,none⟩) rn rn R2 ((di rn k T).set k (gh C (i+1))):=by
      have h:=aN.CF hO2 hlt (l:=gh C (i+1)) (by rw [hLk,gS,gS]) (by rw [HK2.out,hLk,gS,HCl.out];exact hown2) (λb hb hne=>EZ _ _ _ _ λe=>by
       rw [HK2.out] at hne;rcases hne with h1 | h1
       ·cases h1
       ·exact h1 e)
      rw [List.set_set] at h;exact h
     have hgbn : g ≠ bn:=λe=>by
      refine hg2 (.inr ⟨k,by have:=hO2.rl;omega,?_,?_⟩)
      ·rw [HK2.out];simp
      ·rw [HK2.out];exact e
     have hBx3 : ba (wr.setCell ⟨bn,i,none⟩ (.int .i64 x)) g [.int .i64 n,.slice (some ⟨gs,0,none⟩) rn rn]:=by have hb9 : (wr.setCell ⟨bn,i,none⟩ (.int .i64 x)).heap[g]? = wr.heap[g]?:=EZ _ _ _ _ (by show g ≠ bn;exact hgbn);exact ⟨by have:=hBx2.1;simpa using this,λj v hv=>(E4 (w:=wr) (a:=⟨g,j,none⟩) hb9).trans (hBx2.2.1 j v hv),λj=>(E5 (w:=wr) (a:=⟨g,j,none⟩) hb9).trans (hBx2.2.2 j)⟩
     have HF:=Z5 (E6 hfin (E6 hBx3 (hb2.setCell (p:=⟨bn,i,none⟩) HB6.out (.int .i64 x))))
     have HD : Hid (∀W : World,aN W w1.heap.size (some ⟨gs,0,none⟩) rn rn R2 ((di rn k T).set k (gh C (i+1)))/\ba W g [.int .i64 n,.slice (some ⟨gs,0,none⟩) rn rn]/\JA w1 W->aN W.drew w1.heap.size (some ⟨gs,0,none⟩) rn rn R2 ((di rn k T).set k (gh C (i+1)))/\ba W.drew g [.int .i64 n,.slice (some ⟨gs,0,none⟩) rn rn]/\JA w1 W.drew):=λW h =>
      ⟨h.1.aa (EI _ _).drew,h.2.1.aa (EI _ _).drew,h.2.2.drew⟩
     clear hfin hBx3 hown2 hrow hi6 hm6 hO2 hBx2 hb2 hbw hrw hCi hx hLk
     go_wp2_with fail
     go_region_law (fail)
     all_goals (
      go_wp2_with fail
      go_roundw
      case rel=>exact ⟨i+1,by omega,by go_num,by first | exact HF.out | exact HD.out _ HF.out⟩
      case measure=>simp [intOf] <;> omega)
    ·obtain rfl : i=n:=by omega
     rw [show gh C i=C by have h:=Bj C;rw [HCl.out] at h;exact h,Hst.out] at hO2
     have HO2:=Z5 hO2
     clear hO2
     go_wp2_with fail
     go_roundw
     case rel=>exact ⟨k+1,by omega,by go_num,⟨R2,HO2.out,hg2⟩,hBx2,hb2⟩
     case measure=>simp [intOf] <;> omega
  ·obtain rfl : k=m:=by omega
   rw [oH HTl.out] at hO
   have d0:=hBx.cell 0 rfl
   have d1:=hBx.cell 1 rfl
   have x2:=(HX.out.2.aa hb1).aa hbr
   have z3:=x2.cell 0 rfl
   have z4:=x2.cell 1 rfl
   have f3:=x2.frozen 0
   have f4:=x2.frozen 1
   have hs:=HsW.out
   have hs1:=hb1.size
   have hbw:=I8 hbw1 hbr
   have hM:=hO.DX
   have HF : Hid (bX w.heap.size ((wr.setCell ⟨w.heap.size+1+1,0,none⟩ (.int .i64 n)).setCell ⟨w.heap.size+1+1,1,none⟩ (.slice (some ⟨gs,0,none⟩) k k)) (some ⟨gs,0,none⟩) k T/\JA w ((wr.setCell ⟨w.heap.size+1+1,0,none⟩ (.int .i64 n)).setCell ⟨w.heap.size+1+1,1,none⟩ (.slice (some ⟨gs,0,none⟩) k k))) :=
    ⟨((hM.setCell (p:=⟨w.heap.size+1+1,0,none⟩) (by simp;omega) _).setCell (p:=⟨w.heap.size+1+1,1,none⟩) (by simp;omega) _).mono (by omega),(hbw.setCell (by simp;omega) _).setCell (by simp;omega) _⟩
   clear hO hM hBx x2
   go_wp2_with fail
   exact bodyPost_ret (v:=.tuple #[.agg #[.int .i64 n,.slice (some ⟨gs,0,none⟩) k k],.int .i64 0]) (by simp [results,results130,go_sem,z3,z4]) rfl ⟨_,_,rfl,HF.out.1,HF.out.2⟩
section
open Go.RowKit Go.Shelf
structure WX where
 a : OA
 c : Nat
 l : LI
structure EA (V : World) (b : Nat) (G : cC) (Bc Bat By Bg Bf l : Nat) (ag : OA) (k cg : Nat) (L : LL) : Prop where
 gen : V.cell? ⟨Bc,4,none⟩=some (.slice ag k cg)
 pA : bY V ag k L
 yl : V.cell? ⟨By,0,none⟩=some (.func (.yield l) #[] #[])
 gp : V.cell? ⟨Bg,0,none⟩=some (.pointer (some ⟨b,0,none⟩))
 gf : dY V b G
 fr : V.cell? ⟨Bf,0,none⟩=some (.func (.func 280) #[] #[.pointer (some ⟨Bc,0,none⟩),.pointer (some ⟨Bat,0,none⟩),.pointer (some ⟨By,0,none⟩),.pointer (some ⟨Bg,0,none⟩),.pointer (some ⟨Bf,0,none⟩)])
 lt : Bat<V.heap.size
def DB (V : World) (B i : Nat) : Prop:=V.cell? ⟨B,0,none⟩=some (.int .i64 i)/\V.frozen? ⟨B,0,none⟩=false
theorem DB.of_block {V V' : World} {B i : Nat} (h : DB V B i) (hb : V'.heap[B]? = V.heap[B]?) : DB V' B i :=
 ⟨(E4 (w:=V) (a:=⟨B,0,none⟩) hb).trans h.1,(E5 (w:=V) (a:=⟨B,0,none⟩) hb).trans h.2⟩
theorem DB.aa {V V' : World} {B i : Nat} (h : DB V B i) (hb : JA V V') : DB V' B i:=h.of_block (hb.block _ (EP _ _ h.1))
attribute [local go_sem] IZ
theorem aw.wide {w w' : World} {M I : Nat->Prop} (h : aw w w' M M) (hMI : ∀x,M x->I x) : aw w w' I I :=
 ⟨h.os,h.tape,h.output,h.size,λb hb hI=>h.block b hb λhm=>hI (hMI _ hm),λ_ h=>.inl h⟩
theorem aw.setAt (w : World) {I : Nat->Prop} {B : Nat} (hB : I B) (v : Value) : aw w (w.setCell ⟨B,0,none⟩ v) I I:=by have hb0 : Below 0 w (w.setCell ⟨B,0,none⟩ v):=(EI 0 w).setCell (EL _) v;exact ⟨hb0.os,hb0.tape,hb0.output,hb0.size,λb hb hI=>EZ _ _ _ _ λe=>hI (e ▸ hB),λb hb=>.inl hb⟩
end
section
open Go.RowKit
end
section
open Go.RowKit
end
section
open Go.RowKit
end
section
open Go.RowKit
end
section
open Go.RowKit
end
section
open Go.RowKit
end
section
variable {O : aL} {El : Int->Prop} {m : Nat} {L : LL}
end
section
open Go.RowKit
end
section
open Go.RowKit
end
section
open Go.RowKit
end
theorem aw.Et {U w w' : World} {I : Nat->Prop} {a : OA} {n c : Nat} (h : aw U w I I) (hg : w.grownBy w' (Value.slice a n c).ownBlock) (hI : a ≠ none->I (ah a)\/U.heap.size<=ah a) : aw U w' I I :=
 ⟨hg.os.trans h.os,hg.tape.trans h.tape,hg.output.trans h.output,ET h.size hg.size,λb hb hIb=>(hg.block b (Fc hb h.size) (λe=>by
  by_cases ha : db a b
  ·exact ha.own n c e.symm
  ·have h1 : a ≠ none:=λh=>ha (.inl h);have h2 : ah a=b:=Fe λh=>ha (.inr h);rw [h2] at hI;rcases hI h1 with h3 | h3
   ·exact hIb h3
   ·omega)).trans (h.block b hb hIb),λb hb=>.inl hb⟩
theorem bX.dm {B : Nat} {w w' : World} {I I' : Nat->Prop} {a : OA} {n : Nat} {L : LL} (h : bX B w a n L) (hM : aw w w' I I') (hI : ∀b,I b->b<B) : bX B w' a n L :=
 ⟨h.len,h.pl,h.max,h.lo,λi hi=>by obtain ⟨b,m,c,h1,h2⟩:=h.cell i hi;exact ⟨b,m,c,hM.cell h1 (λhc=>Gr _ (Fc (hI _ hc) (h.lo (by omega)))),h2.ints.dm hM (λhm hc=>Gr _ (Fc (hI _ hc) (h2.lo hm))),h2.lo⟩⟩

section
open Go.RowKit
end
section
open Go.RowKit
end
theorem Ints.drop {w : World} {b o : Nat} {n k : Nat} {l : LI} (h : Ints w (some ⟨b,o,none⟩) n l) (hk : k<=n) : Ints w (some ⟨b,o+k,none⟩) (n - k) (l.drop k) :=
 ⟨by rw [H0,h.len],λ_=>rfl,by have:=h.max;omega,λi hi=>by
  have h1:=h.cell (k+i) (by omega);have e : nth (l.drop k) i=nth l (k+i):=by unfold nth;simp only [EJ,Iu]
  rw [e];simp only [ablk_some,aoff_some] at h1 ⊢;rw [Nat.add_assoc];exact h1⟩
section
open Go.RowKit
end
theorem ba.zD {w : World} {b : Nat} {cs : List Value} (h : ba w b cs) (i : Nat) (v : Value) : ba (w.setCell ⟨b,i,none⟩ v) b (cs.set i v):=by
 refine ⟨by simpa using h.1,λj u hu=>?_,λj=>by rw [Fp];exact h.2.2 j⟩;by_cases e : j=i
 ·subst e;by_cases hl : j<cs.length
  ·rw [H8 hl] at hu;cases hu
   exact EX _ _ _ (h.2.1 j cs[j] (Fa hl))
  ·rw [FN (by omega),FC (by omega)] at hu;cases hu
 ·rw [Iq (by omega)] at hu;rw [EY _ _ _ _ (by simp <;> omega)];exact h.2.1 j u hu
end Go.Proofs.YtjfiflldinnhmaaGreat
