import Derived.Test.YthglbncgemdcbaaGreatS32
namespace Go.Proofs.YthglbncgemdcbaaGreat
set_option linter.all false
set_option maxRecDepth 100000
set_option maxHeartbeats 8000000
open Go.RowKit Go.Proofs.Tryz
theorem i9 {O O' : aL} {El : Int->Prop} (F : bF O El) (h : J4 O O' El) {m : Nat} {L : ZZ} (hL : bp El m L) {x : Lz} (hx : ∀k,k<L.length->El (nth x k)) : ∀k,k<=L.length->cmbTo O m x L k=cmbTo O' m x L k
 | 0,_=>rfl
 | k+1,hk=>by have h1:=(fF F hL hx k (by omega)).1;rw [cmbTo,cmbTo,<- i9 F h hL hx k (by omega),jo h F.cl _ _ _ h1.2 (hL.row (i:=k) (by omega)).2 (hx k (by omega))]
theorem iV (P : Int) (m : Nat) (am : OA) (mn cm : Nat) (mod : Lz) (ax : OA) (cx : Nat) (x : Lz) (a : OA) (n c : Nat) (L : ZZ) (cols : Nat) (w : World) (hf : uM w P m am mn mod)
  (hx : Ints w ax n x) (hi : br w a n L) (hxe : ∀k,k<n->gq P m (nth x k)) (hR : bp (gq P m) cols L) (hv : ∀k,k<=n->Vc (gq P m) cols (cmbTo (kM P m mod) cols x L k)) (hc : cols<=1000000) (hn : n<=1000000) :
  Calls prog 213 #[.agg #[.int .i64 P,.int .i64 m,.slice am mn cm],.slice ax n cx,.slice a n c,.int .i64 cols] w λe w' =>
   ∃a1 c1,e = .returned (.slice a1 cols c1)/\w'.ownsRow w.heap.size 3 1 (.slice a1 cols c1) cols ((cmbTo (kM P m mod) cols x L n).map (Value.int .i64))/\SW w w':=by
 have Hil:=Z5 hi.len;have hplx:=hx.pl;have hpla:=hi.pl;have HR:=Z5 hR;have Hv:=Z5 hv;have Hxe:=Z5 hxe;obtain ⟨O,hO⟩ : ∃O,kM P m mod=O:=⟨_,rfl⟩
 have HA : Hid (∀V k a1 c1 ra rc,k<n->SW w V->Ints V a1 cols (cmbTo O cols x L k)->Ints V ra cols (ai L k)->∀V2,SW V V2 ->
   Calls prog 227 #[.agg #[.int .i64 P,.int .i64 m,.slice am mn cm],.slice a1 cols c1,.int .i64 (nth x k),.slice ra cols rc] V2 λe w' =>
    ∃a2 c2,e = .returned (.slice a2 cols c2)/\w'.ownsRow V2.heap.size 3 1 (.slice a2 cols c2) cols ((bR O (cmbTo O cols x L k) (nth x k) (ai L k)).map (Value.int .i64))/\SW V2 w'):=λV k a1 c1 ra rc hk hV h1 h2 V2 hV2=>by have hrow:=HR.out.row (i:=k) (by rw [Hil.out];exact hk);have hvk:=Hv.out k (by omega);rw [hO] at hvk;have h:=j7 P m am mn cm mod a1 cols c1 (cmbTo O cols x L k) (nth x k) ra rc (ai L k) V2 (hf.ah (RZ hV hV2)) (Hxe.out k hk) (h1.ah hV2) (h2.ah hV2) hvk.2 hrow.2 hc;refine h.mono ?_;rintro e w' ⟨a2,c2,rfl,hown,hb⟩;rw [hO,bY _ _ _ _ (by rw [hrow.1,hvk.1]),hvk.1] at hown;rw [hO,bY _ _ _ _ (by rw [hrow.1,hvk.1]),hvk.1];exact ⟨a2,c2,rfl,hown,hb⟩
 have hz : (cmbTo O cols x L 0).map (Value.int .i64)=List.replicate cols (Value.int .i64 0):=by simp [cmbTo]
 have Hz:=Z5 hz;rw [hO];clear hO hR hv hxe hz;go_enter func213,ntmps213;go_upto_region 1 with fail;obtain ⟨W,hW⟩ : ∃W : World,W=w.alloc (.cells #[.int .i64 P,.int .i64 m,.slice am mn cm] 24):=⟨_,rfl⟩
 rw [<- hW];have hbW : SW w W:=by rw [hW];exact an _ _
 have x0 : aN W w.heap.size [.int .i64 P,.int .i64 m,.slice am mn cm]:=by rw [hW];exact R9 _ _ _ rfl
 have HX:=Z5 x0;have HbW:=Z5 hbW;have hxW:=hx.ah hbW;have hiW:=hi.ah hbW;clear hW x0;go_wp2_with (at_make;refine bS rfl _ _ 22 3 rfl (.int .i64 0) 8 underlying22 aU rfl cols rfl rfl (by omega) (by unfold maxLen;omega) ?_;intro a5 w5 hown hbel hge hlt);have hown0 : w5.ownsRow W.heap.size 3 1 (.slice a5 cols cols) cols ((cmbTo O cols x L 0).map (Value.int .i64)):=by rw [Hz.out];exact hown
 clear hown hge hlt;go_loopw [9,10] (λov iv wr=>∃(k : Nat) (a1 : OA) (c1 : Nat),k<=n/\iv = .int .i64 k/\ov = .slice a1 cols c1/\wr.ownsRow W.heap.size 3 1 (.slice a1 cols c1) cols ((cmbTo O cols x L k).map (Value.int .i64))/\SW W wr) (λ_ iv _=>n - (intOf iv).toNat);case atStart=>exact ⟨0,a5,cols,Ni _,rfl,rfl,hown0,hbel⟩
 case round =>
  clear hown0 hbel
  obtain ⟨k,a1,c1,hk,rfl,rfl,hown,hbr⟩:=hrel
  by_cases hlt : k<n
  ·have cxk:=(hxW.ah hbr).cell k hlt
   have hrow:=HR.out.row (i:=k) (by rw [Hil.out];exact hlt)
   obtain ⟨ra,rn,rc,er,ir⟩:=(hiW.ah hbr).cell k hlt
   have hrn : rn=cols:=by rw [<- ir.len];exact hrow.1
   rw [hrn] at er ir
   clear hrn hrow
   by_cases h0 : nth x k=0
   ·have h0' : (nth x k != 0)=false:=by simpa using h0
    have Hn : Hid (cmbTo O cols x L (k+1)=cmbTo O cols x L k):=by show _=_;rw [cmbTo,Nd h0]
    clear h0
    go_wp2_with fail
    go_roundw
    case rel=>exact ⟨k+1,a1,c1,by omega,by go_num,rfl,by rw [Hn.out];exact hown,hbr⟩
    case measure=>simp [intOf] <;> omega
   ·have h0' : (nth x k != 0)=true:=by simpa using h0
    have Hn : Hid (cmbTo O cols x L (k+1)=bR O (cmbTo O cols x L k) (nth x k) (ai L k)):=by show _=_;rw [cmbTo,Nf h0]
    have hbwr:=RZ HbW.out hbr
    have Hk:=Z5 (HA.out wr k a1 c1 ra rc hlt hbwr (R6 hown).1 ir)
    have HS2 : Hid (∀V,SW wr V->V.cell? ⟨w.heap.size,0,none⟩=some (.int .i64 P)/\V.cell? ⟨w.heap.size,1,none⟩=some (.int .i64 m)/\V.cell? ⟨w.heap.size,2,none⟩=some (.slice am mn cm) /\
      V.cell? ⟨ablk ax,aK ax+k,none⟩=some (.int .i64 (nth x k))/\V.cell? ⟨ablk a,aK a+k,none⟩=some (.slice ra cols rc)/\SW wr V):=λV hV=>by have x1:=HX.out.ah (RZ hbr hV);exact ⟨x1.cell 0 rfl,x1.cell 1 rfl,x1.cell 2 rfl,aB hV cxk,aB hV er,hV⟩
    have Hbr:=Z5 hbr
    have hszr:=hbr.size
    clear h0 hbr hown ir HA
    go_wp2_with fail
    go_region_held3 (λV=>V.cell? ⟨w.heap.size,0,none⟩=some (.int .i64 P)/\V.cell? ⟨w.heap.size,1,none⟩=some (.int .i64 m)/\V.cell? ⟨w.heap.size,2,none⟩=some (.slice am mn cm) /\
      V.cell? ⟨ablk ax,aK ax+k,none⟩=some (.int .i64 (nth x k))/\V.cell? ⟨ablk a,aK a+k,none⟩=some (.slice ra cols rc)/\SW wr V)
     ((refine HS2.out _ ?_;first | exact (Nc _ _).drew | exact RZ (Nc _ _).drew hb4))
     (first
      | (go_at_call 227;((with_reducible refine (Hk.out _ (Nc _ _).drew).mono ?_);rintro e w4 ⟨a4,c4,rfl,hown4,hb4⟩)))
    have hbr4:=RZ Hbr.out (RZ (Nc _ _).drew hb4)
    have hown5:=aX hown4 (show W.heap.size<=wr.drew.heap.size from hszr)
    go_wp2_with fail
    go_roundw
    case rel=>exact ⟨k+1,a4,c4,by omega,by go_num,rfl,by rw [Hn.out];exact hown5,hbr4⟩
    case measure=>simp [intOf] <;> omega
  ·obtain rfl : k=n:=by omega
   have hF:=aX hown HbW.out.size
   have HF:=Z5 hF
   have hbF:=RZ HbW.out hbr
   clear hF hown
   go_wp2_with fail
   go_ret
   exact ⟨a1,c1,rfl,HF.out,hbF⟩
theorem lH (q : Int) (n : Nat) (w : World) (h2 : 2<=q) (h256 : q<=256) (hn : n<=1000000) :
  Calls prog 100 #[.int .i64 q,.int .i64 n,.int .i64 65536] w λe w'=>e = .returned (.tuple #[.int .i64 (kI q n),.int .i64 (iA q n)])/\w=w':=by
 go_enter func100,ntmps100;go_wp2_with fail;go_loop [8,9] (λqv nv=>∃k : Nat,k<=n/\nv = .int .i64 k/\qv = .int .i64 (q ^ k)/\q ^ k<=65536/\1<=q ^ k) (λ_ i=>n - (intOf i).toNat);case atStart=>exact ⟨0,Ni _,rfl,by simp,by simp,by simp⟩
 case round =>
  obtain ⟨k,hk,rfl,rfl,hb,hb1⟩:=hrel
  have hP0 : q ≠ 0:=by omega
  by_cases hlt : k<n
  ·have e1 : q ^ (k+1)=q ^ k * q:=N4 _ _
   have hd0 : (0 : Int)<=65536 / q:=OB (by omega) (by omega)
   have hd1 : 65536 / q<=65536:=OC _ (by omega)
   by_cases h5 : 65536 / q<q ^ k
   ·have hbig : ¬ q ^ n<=65536:=by intro h;have h6:=dy (show 1<=q by omega) (show k+1<=n by omega);have h7 : 65536<q ^ k * q:=OZ (by omega) h5;omega
    have Hb:=Z5 (lR hbig)
    clear e1 hbig
    generalize q ^ k=z at *
    go_wp2_with fail
    go_ret2
    exact ⟨fw Hb.out.1.symm Hb.out.2.symm,rfl⟩
   ·have h6 : q ^ k * q<=65536:=by have:=Pj (show (0 : Int)<q by omega) (show q ^ k<=65536 / q by omega);exact this
    have h7 : 1 * 1<=q ^ k * q:=OR hb1 (by omega) (by omega) (by omega)
    have E1:=Z5 e1
    clear e1
    generalize hz : q ^ k=z at *
    have Hz:=Z5 hz
    clear hz
    go_wp2_with fail
    go_round
    case rel=>exact ⟨k+1,by omega,by go_num,by rw [E1.out],by rw [E1.out];exact h6,by rw [E1.out];omega⟩
    case measure=>simp [intOf] <;> omega
  ·obtain rfl : k=n:=by omega
   have Hb:=Z5 (ka hb)
   generalize q ^ k=z at *
   go_wp2_with fail
   go_ret2
   exact ⟨fw Hb.out.1.symm Hb.out.2.symm,rfl⟩
def uP (P M : Int) (mod : Lz) (N : Int) (L : ZZ) : Int:=if aF P M mod N L=0 then kI (af P M.toNat mod).q L.length else 0
def uO (P M : Int) (mod : Lz) (N : Int) (L : ZZ) : Int:=if aF P M mod N L=0 then iA (af P M.toNat mod).q L.length else aF P M mod N L
theorem jC {P M : Int} {mod : Lz} {N : Int} {L : ZZ} (hE : aF P M mod N L=0) : aJ P M=((af P M.toNat mod).q : Nat)/\(2 : Int)<=(af P M.toNat mod).q/\((af P M.toNat mod).q : Int)<=256:=by
 obtain ⟨m,hm,_,hq,_⟩:=dB (aG hE).1;subst hm;rw [Nb];rw [hq];have h0 : aJ P m ≠ 0:=by intro h0;have h1:=(aG hE).1;unfold bA dg at h1;simp [h0] at h1
 obtain ⟨h1,h2,h3,h4,h5,h6⟩:=gX h0;refine ⟨rfl,?_,by omega⟩;rw [h6];have:=dy (show 1<=P by omega) (show 1<=(m : Int).toNat by omega);have e : P ^ 1=P:=by rw [N4,OT,Pq]
 omega
theorem fJ (P M : Int) (am : OA) (mn cm : Nat) (mod : Lz) (N : Int) (a : OA) (k c : Nat) (L : ZZ) (w : World) (hmod : Ints w am mn mod) (hi : br w a k L) :
  Calls prog 46 #[.agg #[.int .i64 P,.int .i64 M,.slice am mn cm,.int .i64 N,.slice a k c]] w λe w' =>
   e = .returned (.tuple #[.int .i64 (uP P M mod N L),.int .i64 (uO P M mod N L)])/\SW w w':=by
 have HCk : Hid (∀V,SW w V->Calls prog 35 #[.agg #[.int .i64 P,.int .i64 M,.slice am mn cm,.int .i64 N,.slice a k c]] V λe w'=>e = .returned (.int .i64 (aF P M mod N L))/\SW V w'):=λV hV=>by have h:=iL P M am mn cm mod N a k c L V (hmod.ah hV) (hi.ah hV) λh=>iQ h;rw [mZ] at h;exact h
 have hkl : L.length=k:=hi.len;go_enter func46,ntmps46;go_upto_region 1 with fail;obtain ⟨W,hW⟩ : ∃W : World,W=w.alloc (.cells #[.int .i64 P,.int .i64 M,.slice am mn cm,.int .i64 N,.slice a k c] 27):=⟨_,rfl⟩
 rw [<- hW];have hbW : SW w W:=by rw [hW];exact an _ _
 have x0 : aN W w.heap.size [.int .i64 P,.int .i64 M,.slice am mn cm,.int .i64 N,.slice a k c]:=by rw [hW];exact R9 _ _ _ rfl
 have HX:=Z5 x0;have c0:=x0.cell 0 rfl;have c1:=x0.cell 1 rfl;have c2:=x0.cell 2 rfl;have c3:=x0.cell 3 rfl;have c4:=x0.cell 4 rfl;clear hW x0;by_cases hE : aF P M mod N L=0
 ·have hk256 : k<=256:=by rw [<- hkl];exact (bJ hE).choose_spec.2.2.2.1
  obtain ⟨ho,hq2,hq256⟩:=jC hE;have HV : Hid (uP P M mod N L=kI (af P M.toNat mod).q k/\uO P M mod N L=iA (af P M.toNat mod).q k):=by show _/\_;unfold uP uO;rw [Nd hE,Nd hE,hkl];exact ⟨rfl,rfl⟩
  rw [hE] at HCk;have HOr : Hid (∀V,Calls prog 24 #[.agg #[.int .i64 P,.int .i64 M,.slice am mn cm]] V λe w'=>e = .returned (.int .i64 ((af P M.toNat mod).q : Nat))/\SW V w'):=λV=>by have h:=gK P M am mn cm V;rw [ho] at h;exact h
  generalize (af P M.toNat mod).q=q at *;clear ho hE hkl;go_wp2_with (go_at_call 35;refine (HCk.out _ hbW).mono ?_;rintro e w3 ⟨rfl,hb3⟩;clear c0 c1 c2 c3 c4);have HS : Hid (∀V,SW w3 V->V.cell? ⟨w.heap.size,0,none⟩=some (.int .i64 P)/\V.cell? ⟨w.heap.size,1,none⟩=some (.int .i64 M)/\V.cell? ⟨w.heap.size,2,none⟩=some (.slice am mn cm)/\V.cell? ⟨w.heap.size,4,none⟩=some (.slice a k c)/\SW w3 V):=λV hV=>by have x3:=(HX.out.ah hb3).ah hV;exact ⟨x3.cell 0 rfl,x3.cell 1 rfl,x3.cell 2 rfl,x3.cell 4 rfl,hV⟩
  go_region_held3 (λV=>V.cell? ⟨w.heap.size,0,none⟩=some (.int .i64 P)/\V.cell? ⟨w.heap.size,1,none⟩=some (.int .i64 M)/\V.cell? ⟨w.heap.size,2,none⟩=some (.slice am mn cm)/\V.cell? ⟨w.heap.size,4,none⟩=some (.slice a k c)/\SW w3 V)
   ((refine HS.out _ ?_;first | exact (Nc _ _).drew | (go_split_ands;assumption) | (go_split_ands;exact RZ (by assumption) (by assumption))))
   (first
    | (go_at_call 24;((with_reducible refine (HOr.out _).mono ?_);rintro e w4 ⟨rfl,hb4⟩))
    | (go_at_call 100;((with_reducible refine (lH (q : Int) k _ hq2 hq256 (by omega)).mono ?_);rintro e w5 ⟨rfl,rfl⟩)))
  all_goals go_wp2_with fail
  all_goals go_ret2
  all_goals exact ⟨fw HV.out.1.symm HV.out.2.symm,RZ (RZ hbW hb3) (by go_split_ands;assumption)⟩
 ·have HV : Hid (uP P M mod N L=0/\uO P M mod N L=aF P M mod N L):=by show _/\_;unfold uP uO;rw [Nf hE,Nf hE];exact ⟨rfl,rfl⟩
  generalize aF P M mod N L=z at *;have hz : (z != 0)=true:=by simpa using hE
  clear hE;go_wp2_with (go_at_call 35;refine (HCk.out _ hbW).mono ?_;rintro e w3 ⟨rfl,hb3⟩;clear c0 c1 c2 c3 c4);go_ret2;exact ⟨fw HV.out.1.symm HV.out.2.symm,RZ hbW hb3⟩
def kF (p : Nat->Bool) (s n : Nat) : Lz:=((List.range' s n).filter p).map Int.ofNat
theorem jH (p : Nat->Bool) (s n : Nat) : kF p s (n+1)=if p s=true then (s : Int) :: kF p (s+1) n else kF p (s+1) n:=by unfold kF;rw [RB,PW];split <;> rfl
theorem nA {p q : Nat->Bool} {s n : Nat} (h : ∀j,s<=j->j<s+n->p j=q j) : kF p s n=kF q s n:=by unfold kF;rw [QD λj hj=>h j (List.mem_range'_1.1 hj).1 (List.mem_range'_1.1 hj).2]
theorem Ao {p : Nat->Bool} {s n : Nat} {x : Int} (h : x ∈ kF p s n) : (s : Int)<=x:=by unfold kF at h;obtain ⟨j,hj,rfl⟩:=List.mem_map.1 h;have:=(List.mem_range'_1.1 (List.mem_filter.1 hj).1).1;show (s : Int)<=(j : Int);omega
theorem nF (x : Int) (a b : Lz) : cmpL (x :: a) (x :: b)=cmpL a b:=by rw [cmpL,Nf (by omega),Nf (by omega)]
theorem rL {x : Int} {a l : Lz} (hl : l ≠ []) (h : ∀y ∈ l,x<y) : cmpL (x :: a) l = -1:=by
 cases l with
 | nil=>exact absurd rfl hl
 | cons y b=>rw [cmpL,Nd (h y (by simp))]
theorem sk {x : Int} {a l : Lz} (hl : l ≠ []) (h : ∀y ∈ l,x<y) : cmpL l (x :: a)=1:=by
 cases l with
 | nil=>exact absurd rfl hl
 | cons y b =>
  have:=h y (by simp)
  rw [cmpL,Nf (by omega),Nd this]
theorem lQ {p q p' q' : Nat->Bool} {i : Nat} (hp : ∀j,j ≠ i->p' j=p j) (hq : ∀j,j ≠ i->q' j=q j) (hpi : p i=true) (hqi : q i=true) (hpi' : p' i=false) (hqi' : q' i=false) : ∀n s,s<=i->i<s+n ->
  (kF p s n).length=(kF p' s n).length+1/\(kF q s n).length=(kF q' s n).length+1/\((kF p' s n).length=(kF q' s n).length->cmpL (kF p s n) (kF q s n)=cmpL (kF p' s n) (kF q' s n))
 | 0,s,h1,h2=>by omega
 | n+1,s,h1,h2=>by
  rw [jH p,jH q,jH p',jH q'];by_cases hs : s=i
  ·subst hs;have e1 : kF p' (s+1) n=kF p (s+1) n:=nA λj a _=>hp j (by omega);have e2 : kF q' (s+1) n=kF q (s+1) n:=nA λj a _=>hq j (by omega);rw [Nd hpi,Nd hqi,Nf (by rw [hpi'];decide),Nf (by rw [hqi'];decide),e1,e2];exact ⟨rfl,rfl,λ_=>nF _ _ _⟩
  ·obtain ⟨l1,l2,ih⟩:=lQ hp hq hpi hqi hpi' hqi' n (s+1) (by omega) (by omega);have lo : ∀ {r : Nat->Bool},∀y ∈ kF r (s+1) n,(s : Int)<y:=λy hy=>by have:=Ao hy;omega
   have ne : ∀ {l : Lz},0<l.length->l ≠ []:=λh e=>by rw [e] at h;simp at h
   rw [hp s hs,hq s hs];by_cases hps : p s=true
   ·rw [Nd hps,Nd hps];by_cases hqs : q s=true
    ·rw [Nd hqs,Nd hqs];simp only [NP,nF];exact ⟨by omega,by omega,λh=>ih (by omega)⟩
    ·rw [Nf hqs,Nf hqs];simp only [NP];refine ⟨by omega,l2,λh=>?_⟩;rw [rL (ne (by omega)) lo,rL (ne (by omega)) lo]
   ·rw [Nf hps,Nf hps];by_cases hqs : q s=true
    ·rw [Nd hqs,Nd hqs];simp only [NP];refine ⟨l1,by omega,λh=>?_⟩;rw [sk (ne (by omega)) lo,sk (ne (by omega)) lo]
    ·rw [Nf hqs,Nf hqs];exact ⟨l1,l2,ih⟩
theorem xE {x : Lz} {m i : Nat} (hl : x.length=m) (hi : i<m) (h : nth x i ≠ 0) : (bI x m i).length+1=fB x:=by
 rw [<- rM hl];have h1:=(lQ (p:=λj=>decide (nth x j ≠ 0)) (q:=λj=>decide (nth x j ≠ 0)) (p':=λj=>decide (nth x j ≠ 0) && decide ((j : Int) ≠ i)) (q':=λj=>decide (nth x j ≠ 0) && decide ((j : Int) ≠ i)) (i:=i)
  (λj hj=>by simp;omega) (λj hj=>by simp;omega) (by simpa using h) (by simpa using h) (by simp) (by simp) m 0 (by omega) (by omega)).1
 unfold kF at h1;rw [<- PN] at h1;exact h1.symm
theorem tg {x y : Lz} {m i : Nat} (hi : i<m) (hx : nth x i ≠ 0) (hy : nth y i ≠ 0) : dL (oZ x m) (oZ y m)=dL (bI x m i) (bI y m i):=by
 have h1:=lQ (p:=λj=>decide (nth x j ≠ 0)) (q:=λj=>decide (nth y j ≠ 0)) (p':=λj=>decide (nth x j ≠ 0) && decide ((j : Int) ≠ i)) (q':=λj=>decide (nth y j ≠ 0) && decide ((j : Int) ≠ i)) (i:=i)
  (λj hj=>by simp;omega) (λj hj=>by simp;omega) (by simpa using hx) (by simpa using hy) (by simp) (by simp) m 0 (by omega) (by omega)
 unfold kF at h1;rw [<- PN] at h1;obtain ⟨a,b,c⟩:=h1;unfold dL;change (oZ x m).length=(bI x m i).length+1 at a;change (oZ y m).length=(bI y m i).length+1 at b;change (bI x m i).length=(bI y m i).length->cmpL (oZ x m) (oZ y m)=cmpL (bI x m i) (bI y m i) at c;by_cases h : (bI x m i).length=(bI y m i).length
 ·rw [c h,a,b];simp [h]
 ·rw [a,b];have e1 : decide ((bI x m i).length=(bI y m i).length)=false:=by simpa using h
  have e2 : decide ((bI x m i).length+1=(bI y m i).length+1)=false:=by simp;exact h
  rw [e1,e2];simp
def digN (q : Nat) : Nat->Nat->Lz
 | 0,_=>[]
 | k+1,n=>((n / q ^ k % q : Nat) : Int) :: digN q k n
theorem lk (q n : Nat) : ∀k,(digN q k n).length=k
 | 0=>rfl
 | k+1=>by rw [digN,NP,lk]
theorem og {q n : Nat} (hq : 0<q) : ∀k,∀x ∈ digN q k n,0<=x/\x<(q : Int)
 | 0,x,hx=>by simp [digN] at hx
 | k+1,x,hx=>by
  rw [digN] at hx;rcases List.mem_cons.1 hx with rfl | hx
  ·have:=O1 (n / q ^ k) hq;omega
  ·exact og hq k x hx
theorem pL {q : Nat} (hq : 0<q) (a r k : Nat) : ∀t,t<=k->digN q t (a * q ^ k+r)=digN q t r
 | 0,_=>rfl
 | t+1,ht=>by
  rw [digN,digN,pL hq a r k t (by omega)];congr 2;obtain ⟨d,rfl⟩ : ∃d,k=t+1+d:=⟨k - (t+1),by omega⟩
  have e : a * q ^ (t+1+d)+r=r+(a * q ^ d * q) * q ^ t:=by
   rw [Nat.pow_add,OO];have : a * (q ^ t * q * q ^ d)=a * q ^ d * q * q ^ t:=by rw [PI a,PI a];congr 1;rw [Oe (q ^ t * q),Oe (q ^ t) q,PI]
   omega
  rw [e,Pm _ _ (Q3 hq),Qx]
theorem lV {f : Nat->ZZ} {B : Nat} (hB : ∀a,(f a).length=B) : ∀c,((List.range c).flatMap f).length=c * B/\∀a,a<c->∀r,r<B->ai ((List.range c).flatMap f) (a * B+r)=ai (f a) r
 | 0=>⟨by simp,λa ha=>by omega⟩
 | c+1=>by
  obtain ⟨h1,h2⟩:=lV hB c;rw [Ou,Qr,P8];refine ⟨by rw [Nl,h1,hB,PC],λa ha r hr=>?_⟩;simp only [ai,Ng] at h2 ⊢;by_cases hc : a<c
  ·have h3 : a * B+r<c * B:=by have:=Qk B (show a+1<=c by omega);rw [PC] at this;omega
   rw [Ny (by rw [h1];exact h3)];exact h2 a hc r hr
  ·obtain rfl : a=c:=by omega
   rw [NY (by rw [h1];omega),h1,show a * B+r - a * B=r by omega]
theorem gu (q : Nat) : ∀k,(msgs q k).length=q ^ k
 | 0=>rfl
 | k+1=>by rw [msgs,(lV (B:=q ^ k) (λa=>by rw [Nq,gu q k]) q).1,OO,Oe]
theorem pS {q : Nat} (hq : 0<q) : ∀k n,n<q ^ k->ai (msgs q k) n=digN q k n
 | 0,n,h=>by
  obtain rfl : n=0:=by simp at h;exact h
  rfl
 | k+1,n,h=>by
  have hp:=Q3 (n:=k) hq;have e : n=n / q ^ k * q ^ k+n % q ^ k:=by have:=O7 n (q ^ k);rw [Oe] at this;omega
  have h1 : n / q ^ k<q:=(QZ hp).2 (by rw [Oe,<- OO];exact h);have h2:=O1 n hp;have h3:=(lV (f:=λ(a : Nat)=>(msgs q k).map λs=>(a : Int) :: s) (B:=q ^ k) (λa=>by rw [Nq,gu q k]) q).2 (n / q ^ k) h1 (n % q ^ k) h2;rw [<- e] at h3;rw [msgs,h3,aC (by rw [Nq,gu];exact h2),NZ,<- aC (by rw [gu];exact h2),pS hq k _ h2,digN,PX h1];congr 1;have h4:=pL hq (n / q ^ k) (n % q ^ k) k k (Na _);rw [<- e] at h4;exact h4.symm
theorem sf {O : aL} {m q : Nat} (hq : 0<q) {L : ZZ} {n : Nat} (h : n<q ^ L.length) : ai (wlkS O q L (List.replicate m 0)) n=cmbTo O m (digN q L.length n) L L.length:=by rw [Ah,aC (by rw [Nq,gu];exact h),NZ,<- aC (by rw [gu];exact h),pS hq _ _ h]
theorem gg (a : OA) (n c : Nat) (l : Lz) (w : World) (h : Ints w a n l) :
  Calls prog 41 #[.slice a n c] w λe w'=>e = .returned (.int .i64 (fB l))/\w'=w:=by
 have Hl:=Z5 h.len;have hpl:=h.pl;have hmax:=h.max;unfold maxLen at hmax;have hle : ∀k,k<=n->(fB (l.take k) : Int)<=k:=λk hk=>by have h1 : fB (l.take k)<=(l.take k).length:=Ph;rw [NG] at h1;omega
 have Hle:=Z5 hle;have HT : Hid (fB (l.take n)=fB l):=by show _=_;rw [No (by rw [Hl.out];exact Na _)]
 clear hle;go_enter func41,ntmps41;go_wp2_with fail;go_loopw [3,4] (λcv iv wr=>∃k : Nat,k<=n/\iv = .int .i64 k/\cv = .int .i64 (fB (l.take k))/\wr=w) (λ_ iv _=>n - (intOf iv).toNat);case atStart=>exact ⟨0,Ni _,rfl,by simp [fB],rfl⟩
 case round =>
  obtain ⟨k,hk,rfl,rfl,rfl⟩:=hrel
  by_cases hlt : k<n
  ·have ck:=h.cell k hlt
   have hkl : k<l.length:=by rw [Hl.out];exact hlt
   have hst : fB (l.take (k+1))=fB (l.take k)+(if nth l k ≠ 0 then 1 else 0):=by unfold fB;rw [Nj hkl,PA,Qf,aj hkl];simp
   have hb:=Hle.out k hk
   obtain ⟨t,ht⟩ : ∃t,fB (l.take k)=t:=⟨_,rfl⟩
   obtain ⟨y,hy⟩ : ∃y,nth l k=y:=⟨_,rfl⟩
   rw [ht] at hst hb ⊢
   rw [hy] at hst ck
   clear ht hy hkl
   by_cases h0 : y=0
   ·have hd : (y != 0)=false:=by simpa using h0
    have Hst : Hid (fB (l.take (k+1))=t):=by show _=_;rw [hst,Nf (by simpa using h0)];rfl
    clear h0 hst
    go_wp2_with fail
    go_roundw
    case rel=>exact ⟨k+1,by omega,by go_num,by rw [Hst.out],by simp⟩
    case measure=>simp [intOf] <;> omega
   ·have hd : (y != 0)=true:=by simpa using h0
    have Hst : Hid (fB (l.take (k+1))=t+1):=by show _=_;rw [hst,Nd h0]
    clear h0 hst
    go_wp2_with fail
    go_roundw
    case rel=>exact ⟨k+1,by omega,by go_num,by rw [Hst.out];go_num,by simp⟩
    case measure=>simp [intOf] <;> omega
  ·obtain rfl : k=n:=by omega
   rw [HT.out]
   go_wp2_with fail
   go_ret
   exact ⟨rfl,rfl⟩
theorem vj {P M : Int} {mod : Lz} (hB : bA P M mod=true) (am : OA) (mn cm : Nat) (w : World) :
  Calls prog 24 #[.agg #[.int .i64 P,.int .i64 M,.slice am mn cm]] w λe w'=>e = .returned (.int .i64 ((af P M.toNat mod).q : Nat))/\SW w w':=by obtain ⟨k,hk,hel,hq,hF,hA,_⟩:=dB hB;subst hk;have h:=gK P k am mn cm w;rw [Nb];rw [hq];exact h
theorem tY {P M : Int} {am : OA} {mn cm : Nat} {mod : Lz} {m : Nat} {L : ZZ} (hE : aF P M mod m L=0) (ax : OA) (cx : Nat) (x : Lz) (a : OA) (n c : Nat) (w : World)
  (hmod : Ints w am mn mod) (hx : Ints w ax n x) (hi : br w a n L) (hxe : ∀k,k<L.length->(af P M.toNat mod).El (nth x k)) :
  Calls prog 213 #[.agg #[.int .i64 P,.int .i64 M,.slice am mn cm],.slice ax n cx,.slice a n c,.int .i64 m] w λe w' =>
   ∃a1 c1,e = .returned (.slice a1 m c1)/\w'.ownsRow w.heap.size 3 1 (.slice a1 m c1) m ((cmbTo (af P M.toNat mod).ops m x L L.length).map (Value.int .i64))/\SW w w':=by
 obtain ⟨_,_,hm64,_⟩:=aG hE;have hn : n<=256:=by rw [<- hi.len];exact (bJ hE).choose_spec.2.2.2.1
 have hil:=hi.len;obtain ⟨m',em,_,_,_,hR⟩:=aM hE;obtain rfl : m=m':=by omega
 obtain ⟨k,hk,hel,hq,hF,hA,_⟩:=dB (aG hE).1;subst hk;obtain ⟨k',e2,hrf,hmods⟩:=dm (P:=P) (M:=(k : Int)) (mod:=mod) (by rw [bP];exact (aG hE).1);obtain rfl : k=k':=by omega
 rw [Nb] at hxe hR ⊢;rw [<- hel] at hxe hR;have hag:=i9 hF hA hR hxe;refine (iV P k am mn cm mod ax cx x a n c L m w ⟨hrf,hmods w am mn hmod⟩ hx hi (λj hj=>hxe j (by omega)) hR
  (λj hj=>by rw [<- hag j (by omega)];exact (fF hF hR hxe j (by omega)).1) (by omega) (by omega)).mono ?_
 rintro e w' ⟨a1,c1,rfl,hown,hb⟩;refine ⟨a1,c1,rfl,?_,hb⟩;rw [hag _ (Na _),hil];exact hown
def nT (q n t i : Nat) : Lz:=List.replicate (n - t) 0 ++ digN q t i
theorem wg (q n t i : Nat) (h : t<n) : (nT q n t i).set (n - 1 - t) ((i / q ^ t % q : Nat) : Int)=nT q n (t+1) i:=by
 unfold nT;have e : n - t=(n - 1 - t)+1:=by omega
 have e2 : n - (t+1)=n - 1 - t:=by omega
 rw [e2,e,digN,Q4,NX,PJ _ _ (by simp),Qg,P9];rfl
theorem tB (P M : Int) (am : OA) (mn cm : Nat) (mod : Lz) (m : Nat) (a : OA) (n c : Nat) (L : ZZ) (i : Nat) (w : World) (hmod : Ints w am mn mod) (hi : br w a n L) (hE : aF P M mod m L=0) (hi6 : i<=65536) :
  Calls prog 160 #[.agg #[.int .i64 P,.int .i64 M,.slice am mn cm,.int .i64 m,.slice a n c],.int .i64 i] w λe w' =>
   ∃a1 c1,e = .returned (.slice a1 m c1)/\w'.ownsRow w.heap.size 3 1 (.slice a1 m c1) m ((cmbTo (af P M.toNat mod).ops m (digN (af P M.toNat mod).q L.length i) L L.length).map (Value.int .i64))/\SW w w':=by
 have hq:=jC hE;have hn : n<=256:=by rw [<- hi.len];exact (bJ hE).choose_spec.2.2.2.1
 have HO : Hid (∀V,Calls prog 24 #[.agg #[.int .i64 P,.int .i64 M,.slice am mn cm]] V λe w'=>e = .returned (.int .i64 ((af P M.toNat mod).q : Nat))/\SW V w'):=λV=>vj (aG hE).1 am mn cm V;have hil:=hi.len;subst hil;have HC : Hid (∀V ax cx,SW w V->Ints V ax L.length (digN (af P M.toNat mod).q L.length i)->Calls prog 213 #[.agg #[.int .i64 P,.int .i64 M,.slice am mn cm],.slice ax L.length cx,.slice a L.length c,.int .i64 m] V λe w' =>
   ∃a1 c1,e = .returned (.slice a1 m c1)/\w'.ownsRow V.heap.size 3 1 (.slice a1 m c1) m ((cmbTo (af P M.toNat mod).ops m (digN (af P M.toNat mod).q L.length i) L L.length).map (Value.int .i64))/\SW V w'):=λV ax cx hV hx =>
  tY hE ax cx (digN (af P M.toNat mod).q L.length i) a L.length c V (hmod.ah hV) hx (hi.ah hV) (λk hk =>
   og (q:=(af P M.toNat mod).q) (n:=i) (by omega) L.length _ (aH (l:=digN (af P M.toNat mod).q L.length i) (i:=k) (by rw [lk];exact hk)))
 obtain ⟨X,hX⟩ : ∃X,cmbTo (af P M.toNat mod).ops m (digN (af P M.toNat mod).q L.length i) L L.length=X:=⟨_,rfl⟩
 rw [hX] at HC ⊢;obtain ⟨_,hq2,hq256⟩:=hq;generalize (af P M.toNat mod).q=q at *;have hpl:=hi.pl;clear hX hmod hE hi;generalize L.length=n at *;go_enter func160,ntmps160;go_upto_region 1 with fail;obtain ⟨W,hW⟩ : ∃W : World,W=w.alloc (.cells #[.int .i64 P,.int .i64 M,.slice am mn cm,.int .i64 m,.slice a n c] 27):=⟨_,rfl⟩
 rw [<- hW];have hbW : SW w W:=by rw [hW];exact an _ _
 have x0 : aN W w.heap.size [.int .i64 P,.int .i64 M,.slice am mn cm,.int .i64 m,.slice a n c]:=by rw [hW];exact R9 _ _ _ rfl
 have HX:=Z5 x0;have HbW:=Z5 hbW;have c0:=x0.cell 0 rfl;have c1:=x0.cell 1 rfl;have c2:=x0.cell 2 rfl;clear hW x0 hbW;go_wp2_with fail;refine (HO.out W).mono ?_;rintro e w1 ⟨rfl,hb1⟩;clear c0 c1 c2;have hF1:=RZ HbW.out hb1;have y1:=HX.out.ah hb1;have c4:=y1.cell 4 rfl;clear y1;go_wp2_with (at_make;refine bS rfl _ _ 22 3 rfl (.int .i64 0) 8 underlying22 aU rfl n rfl rfl (by omega) (by unfold maxLen;omega) ?_;intro a5 w5 hown hbel hge hlt5);clear c4;have hown0 : w5.ownsRow w1.heap.size 3 1 (.slice a5 n n) n ((nT q n 0 i).map (Value.int .i64)):=by rw [show nT q n 0 i=List.replicate n 0 by simp [nT,digN],OF];exact hown
 clear hown hge hlt5;go_loopw [7,1] (λiv nv wr=>∃t : Nat,t<=n/\iv = .int .i64 ((n : Int) - 1 - t)/\nv = .int .i64 ((i / q ^ t : Nat) : Int)/\wr.ownsRow w1.heap.size 3 1 (.slice a5 n n) n ((nT q n t i).map (Value.int .i64))/\SW w1 wr) (λiv _ _=>(intOf iv+1).toNat);case atStart=>exact ⟨0,Ni _,by go_num,by simp,hown0,hbel⟩
 case round =>
  clear hown0 hbel
  obtain ⟨t,ht,rfl,rfl,hown,hbr⟩:=hrel
  by_cases hlt : t<n
  ·have hset:=wg q n t i hlt
   have Hset:=Z5 hset
   obtain ⟨x,hx⟩ : ∃x,i / q ^ t=x:=⟨_,rfl⟩
   have hx6 : x<=65536:=by rw [<- hx];exact Nr (PG _ _) hi6
   have Hn : Hid (i / q ^ (t+1)=x / q):=by show _=_;rw [<- hx,OO,QO]
   rw [hx] at Hset ⊢
   have hqq : (q : Int) ≠ 0:=by omega
   have hqb : ((q : Int) == 0)=false:=by simpa using hqq
   have r1 : ((x : Nat) : Int).tmod (q : Nat)=((x % q : Nat) : Int):=by rw [Ow (by omega)];simp
   have r2 : ((x : Nat) : Int).tdiv (q : Nat)=((x / q : Nat) : Int):=by rw [PO (by omega)];simp
   have hxq : x / q<=x:=PG _ _
   have hxm : x % q<=x:=Nat.mod_le _ _
   obtain ⟨y,hy⟩ : ∃y,x / q=y:=⟨_,rfl⟩
   obtain ⟨z,hz⟩ : ∃z,x % q=z:=⟨_,rfl⟩
   rw [hy] at r2 hxq Hn
   rw [hz] at r1 hxm Hset
   have r3 : IntKind.i64.wrap (y : Int)=y:=Ns _ (by omega)
   obtain ⟨j,hj⟩ : ∃j : Nat,n - 1 - t=j:=⟨_,rfl⟩
   have hjn : j<n:=by omega
   have hj2 : (n : Int) - 1 - t=j:=by omega
   have hj3 : (n : Int) - 1 - (t+1 : Nat)=(j : Int) - 1:=by omega
   rw [hj] at Hset
   rw [hj2]
   have Hj3:=Z5 hj3
   obtain ⟨hints,hmine⟩:=R6 hown
   have hpl5:=hints.pl
   have cz:=hints.cell j hjn
   have fz:=(hmine (by omega)).2 j hjn
   have hB:=(hmine (by omega)).1
   have d0 : decide ((0 : Int)<=(j : Int))=true:=by simp
   clear hx hset hy hz hj hj2 hj3 hxq hints hmine
   go_wp2_with fail
   go_roundw
   case rel =>
    have h:=bK hown j hjn (.int .i64 (z : Int))
    rw [<- NF,Hset.out] at h
    exact ⟨t+1,by omega,by rw [Hj3.out] <;> go_num,by rw [Hn.out],h,hbr.setCell hB _⟩
   case measure=>simp [intOf] <;> omega
  ·obtain rfl : t=n:=by omega
   have d0 : decide ((0 : Int)<=(t : Int) - 1 - t)=false:=by simp;omega
   have hrow : nT q t t i=digN q t i:=by simp [nT]
   rw [hrow] at hown
   have hF2:=RZ hF1 hbr
   have HCm:=Z5 (HC.out wr a5 t hF2 (R6 hown).1)
   have y2:=HX.out.ah (RZ hb1 hbr)
   have c0:=y2.cell 0 rfl
   have c1:=y2.cell 1 rfl
   have c2:=y2.cell 2 rfl
   have c3:=y2.cell 3 rfl
   have c4:=y2.cell 4 rfl
   clear hrow hown y2
   go_wp2_with fail
   refine HCm.out.mono ?_
   rintro e w6 ⟨a6,c6,rfl,hown6,hb6⟩
   have HF:=Z5 (aX hown6 hF2.size)
   have hF3:=RZ hF2 hb6
   clear c0 c1 c2 c3 c4 hown6
   go_wp2_with fail
   go_ret
   exact ⟨a6,c6,rfl,HF.out,hF3⟩
def j5 (er : Int) (S : ZZ) (w : World) (e : Ending) (w' : World) : Prop :=
 SW w w'/\((er ≠ 0/\e = .returned (.tuple #[.slice none 0 0,.int .i64 er]))\/(er=0/\∃a k c,e = .returned (.tuple #[.slice a k c,.int .i64 0])/\br w' a k S))
theorem oH (P M : Int) (am : OA) (mn cm : Nat) (mod : Lz) (m : Nat) (a : OA) (n c : Nat) (L : ZZ) (w : World) (hmod : Ints w am mn mod) (hi : br w a n L) (hE : aF P M mod m L=0) :
  Calls prog 104 #[.agg #[.int .i64 P,.int .i64 M,.slice am mn cm,.int .i64 m,.slice a n c]] w (j5 (iA (af P M.toNat mod).q L.length) (wlkS (af P M.toNat mod).ops (af P M.toNat mod).q L (List.replicate m 0)) w):=by
 have HSz : Hid (∀V,SW w V->Calls prog 46 #[.agg #[.int .i64 P,.int .i64 M,.slice am mn cm,.int .i64 m,.slice a n c]] V λe w' =>
   e = .returned (.tuple #[.int .i64 (kI (af P M.toNat mod).q L.length),.int .i64 (iA (af P M.toNat mod).q L.length)])/\SW V w'):=λV hV=>by have h:=fJ P M am mn cm mod m a n c L V (hmod.ah hV) (hi.ah hV);unfold uP uO at h;rw [Nd hE,Nd hE] at h;exact h
 have hq:=(jC hE).2;have hln:=kt (af P M.toNat mod).ops (af P M.toNat mod).q L (List.replicate m 0);have HAt : Hid (∀V i,SW w V->i<(af P M.toNat mod).q ^ L.length->i<=65536->Calls prog 160 #[.agg #[.int .i64 P,.int .i64 M,.slice am mn cm,.int .i64 m,.slice a n c],.int .i64 (i : Nat)] V λe w' =>
   ∃a1 c1,e = .returned (.slice a1 m c1)/\w'.ownsRow V.heap.size 3 1 (.slice a1 m c1) m ((ai (wlkS (af P M.toNat mod).ops (af P M.toNat mod).q L (List.replicate m 0)) i).map (Value.int .i64))/\SW V w'):=λV i hV hi1 hi2=>by rw [sf (by omega) hi1];exact tB P M am mn cm mod m a n c L i V (hmod.ah hV) (hi.ah hV) hE hi2
 have HRl : Hid (∀i,i<(af P M.toNat mod).q ^ L.length->(ai (wlkS (af P M.toNat mod).ops (af P M.toNat mod).q L (List.replicate m 0)) i).length=m):=λi hi1=>by
  rw [sf (by omega) hi1];obtain ⟨m',em,hm1,hm64,F,hR⟩:=aM hE;obtain rfl : m=m':=by omega
  exact (fF F hR (λk hk=>og (q:=(af P M.toNat mod).q) (n:=i) (by omega) L.length _ (aH (l:=digN (af P M.toNat mod).q L.length i) (i:=k) (by rw [lk];exact hk))) L.length (Na _)).1.1
 have hcase : (iA (af P M.toNat mod).q L.length=0/\kI (af P M.toNat mod).q L.length=(((af P M.toNat mod).q ^ L.length : Nat) : Int)/\(af P M.toNat mod).q ^ L.length<=65536)\/iA (af P M.toNat mod).q L.length ≠ 0:=by
  by_cases h : ((af P M.toNat mod).q : Int) ^ L.length<=65536
  ·refine .inl ⟨(ka h).2,?_,?_⟩
   ·rw [(ka h).1];simp
   ·have e : ((af P M.toNat mod).q : Int) ^ L.length=(((af P M.toNat mod).q ^ L.length : Nat) : Int):=by simp
    rw [e] at h;omega
  ·refine .inr ?_;rw [(lR h).2];decide
 have hm64:=(aG hE).2.2.1;generalize iA (af P M.toNat mod).q L.length=er at *;generalize kI (af P M.toNat mod).q L.length=v at *;generalize wlkS (af P M.toNat mod).ops (af P M.toNat mod).q L (List.replicate m 0)=S at *;generalize (af P M.toNat mod).q ^ L.length=NN at *;clear hmod hi hE hq;go_enter func104,ntmps104;go_upto_region 1 with fail;obtain ⟨W,hW⟩ : ∃W : World,W=w.alloc (.cells #[.int .i64 P,.int .i64 M,.slice am mn cm,.int .i64 m,.slice a n c] 27):=⟨_,rfl⟩
 rw [<- hW];have hbW : SW w W:=by rw [hW];exact an _ _
 have x0 : aN W w.heap.size [.int .i64 P,.int .i64 M,.slice am mn cm,.int .i64 m,.slice a n c]:=by rw [hW];exact R9 _ _ _ rfl
 have HX:=Z5 x0;have HbW:=Z5 hbW;have c0:=x0.cell 0 rfl;have c1:=x0.cell 1 rfl;have c2:=x0.cell 2 rfl;have c3:=x0.cell 3 rfl;have c4:=x0.cell 4 rfl;clear hW x0 hbW;go_wp2_with fail;refine (HSz.out W HbW.out).mono ?_;rintro e w1 ⟨rfl,hb1⟩;have hF1:=RZ HbW.out hb1;clear c0 c1 c2 c3 c4;rcases hcase with ⟨h0,hv,h6⟩ | h0;rotate_left
 ·have d0 : (er != 0)=true:=by simpa using h0
  have H0:=Z5 h0;clear h0;go_wp2_with fail;go_ret2;exact ⟨hF1,.inl ⟨H0.out,rfl⟩⟩
 subst h0;subst hv;have Hln:=Z5 hln;clear hln;go_wp2_with fail;go_loopw [6,7] (λsv iv wr=>∃(k : Nat) (a1 : OA) (c1 : Nat),k<=NN/\iv = .int .i64 k/\sv = .slice a1 k c1/\(∃R,aT wr w1.heap.size a1 k c1 R (S.take k))/\SW w1 wr) (λ_ iv _=>NN - (intOf iv).toNat);case atStart=>exact ⟨0,none,0,Ni _,rfl,rfl,⟨[],by simpa using Sn w1 w1.heap.size⟩,Nc _ _⟩
 case round =>
  obtain ⟨k,a1,c1,hk,rfl,rfl,⟨R,hO⟩,hbr⟩:=hrel
  by_cases hlt : k<NN
  ·have hF2:=RZ hF1 hbr
   have HA:=Z5 (HAt.out wr k hF2 hlt (by omega))
   have hkS : k<S.length:=by rw [Hln.out];exact hlt
   have Htk : Hid (S.take (k+1)=S.take k ++ [ai S k]):=by show _=_;rw [Nj hkS,aC hkS]
   have HL:=Z5 (HRl.out k hlt)
   obtain ⟨x,hx⟩ : ∃x,ai S k=x:=⟨_,rfl⟩
   rw [hx] at HA Htk HL
   have y1:=HX.out.ah (RZ hb1 hbr)
   have c0:=y1.cell 0 rfl
   have c1':=y1.cell 1 rfl
   have c2:=y1.cell 2 rfl
   have c3:=y1.cell 3 rfl
   have c4:=y1.cell 4 rfl
   have hsz:=hbr.size
   clear hx hkS y1
   go_wp2_with fail
   refine HA.out.mono ?_
   rintro e w3 ⟨a3,c3',rfl,hown3,hb3⟩
   clear c0 c1' c2 c3 c4
   have hbn:=an w3 (.cells #[.slice a3 m c3'] 22)
   have hO3:=hO.ah hb3
   have hO4:=hO.ah (RZ hb3 hbn)
   have hs4 : w1.heap.size<=(w3.alloc (.cells #[.slice a3 m c3'] 22)).heap.size:=by have h1:=hb3.size;simp;omega
   have Hown3:=Z5 hown3
   clear hown3
   go_wp2_with (at_builtin;refine aO rfl _ _ 25 22 rfl (.slice none 0 0) 24 underlying25 df rfl w1.heap.size a1 k c1 _ rfl hO4.own ⟨w3.heap.size,0,none⟩ 1 (.slice a3 m c3') rfl (ba w3 _ _) rfl (by omega) (by unfold maxLen;omega) hs4 ?_;intro a5 c5 w5 hown5 hgr5 hap5)
   go_roundw
   case rel =>
    have hown4 : (w3.alloc (.cells #[.slice a3 m c3'] 22)).ownsRow w1.heap.size 3 1 (.slice a3 m c3') m (x.map (Value.int .i64)):=aX (bd Hown3.out (an _ _)) hsz
    have hra : a3 ≠ none->¬ cU a1 R (ablk a3):=λh0 hI=>by have h1:=(aY Hown3.out h0).1;have h2:=(hO.lt _ hI).2;omega
    have hP:=Sk hO4 (by rw [HL.out];exact hown4) hra (by rw [HL.out];exact hown5) hgr5 hap5
    exact ⟨k+1,a5,c5,by omega,by go_num,rfl,⟨_,by rw [Htk.out];exact hP⟩,Sa (RZ hbr (RZ hb3 hbn)) hO4.own hgr5 (Na _) hs4⟩
   case measure=>simp [intOf] <;> omega
  ·obtain rfl : k=NN:=by omega
   rw [No (by rw [Hln.out];exact Na _)] at hO
   have hF:=RZ hF1 hbr
   have HO:=Z5 hO.jt
   clear hO
   go_wp2_with fail
   go_ret2
   exact ⟨hF,.inr ⟨rfl,a1,k,c1,rfl,HO.out⟩⟩
def qV (P M : Int) (mod : Lz) (N : Int) (L : ZZ) : Int:=if aF P M mod N L=0 then wZ P M mod N.toNat L else aF P M mod N L
theorem pJ (P M : Int) (am : OA) (mn cm : Nat) (mod : Lz) (N : Int) (a : OA) (n c : Nat) (L : ZZ) (w : World) (hmod : Ints w am mn mod) (hi : br w a n L) :
  Calls prog 49 #[.agg #[.int .i64 P,.int .i64 M,.slice am mn cm,.int .i64 N,.slice a n c]] w (j5 (qV P M mod N L) (oR P M mod N.toNat L) w):=by
 have HD : Hid (∀V,SW w V->Calls prog 45 #[.agg #[.int .i64 P,.int .i64 M,.slice am mn cm,.int .i64 N,.slice a n c]] V (gr P M mod N L V)):=λV hV=>gI P M am mn cm mod N a n c L V (hmod.ah hV) (hi.ah hV);have HWd : Hid (aF P M mod N L=0->∀V a1 c1 a2 c2,Ints V a1 mod.length mod->br V a2 (aS (af P M.toNat mod) L N.toNat).length (aS (af P M.toNat mod) L N.toNat)->Calls prog 104 #[.agg #[.int .i64 P,.int .i64 M,.slice a1 mod.length c1,.int .i64 N,.slice a2 (aS (af P M.toNat mod) L N.toNat).length c2]] V (j5 (qV P M mod N L) (oR P M mod N.toNat L) V)):=λhE V a1 c1 a2 c2 h1 h2=>by rw [qV,Nd hE];obtain ⟨m,rfl,_⟩:=aM hE;rw [Nb] at h2 ⊢;exact oH P M a1 _ c1 mod m a2 _ c2 _ V h1 h2 (gY hE).1
 have HE : Hid (aF P M mod N L ≠ 0->qV P M mod N L=aF P M mod N L):=λh=>by rw [qV,Nf h]
 unfold gr at HD;unfold j5 at HWd ⊢;generalize qV P M mod N L=er at *;generalize aF P M mod N L=ce at *;generalize oR P M mod N.toNat L=S at *;generalize aS (af P M.toNat mod) L N.toNat=D at *;obtain ⟨nm,hnm⟩ : ∃nm,mod.length=nm:=⟨_,rfl⟩
 obtain ⟨nd,hnd⟩ : ∃nd,D.length=nd:=⟨_,rfl⟩
 rw [hnm,hnd] at HD HWd;clear hmod hi hnm hnd;go_enter func49,ntmps49;go_upto_region 1 with fail;obtain ⟨W,hW⟩ : ∃W : World,W=w.alloc (.cells #[.int .i64 P,.int .i64 M,.slice am mn cm,.int .i64 N,.slice a n c] 27):=⟨_,rfl⟩
 rw [<- hW];have hbW : SW w W:=by rw [hW];exact an _ _
 have x0 : aN W w.heap.size [.int .i64 P,.int .i64 M,.slice am mn cm,.int .i64 N,.slice a n c]:=by rw [hW];exact R9 _ _ _ rfl
 have c0:=x0.cell 0 rfl;have c1:=x0.cell 1 rfl;have c2:=x0.cell 2 rfl;have c3:=x0.cell 3 rfl;have c4:=x0.cell 4 rfl;have HbW:=Z5 hbW;clear hW x0 hbW;go_wp2_with fail;refine (HD.out W HbW.out).mono ?_;rintro e w1 ⟨hb1,⟨h1,rfl⟩ | ⟨h1,a1,k1,a2,k2,rfl,hI1,hM1⟩⟩
 ·have hF1:=RZ HbW.out (RZ hb1 (an w1 (.cells #[.int .i64 0,.int .i64 0,.slice none 0 0,.int .i64 0,.slice none 0 0] 27)));have d0 : (ce != 0)=true:=by simpa using h1
  have HR:=Z5 (HE.out h1);have H1:=Z5 h1;clear c0 c1 c2 c3 c4 h1;go_wp2_with fail;go_ret2;exact ⟨hF1,.inl ⟨by rw [HR.out];exact H1.out,by rw [HR.out] <;> rfl⟩⟩
 have HW1:=Z5 (HWd.out h1);have d0 : (ce != 0)=false:=by simp [h1]
 obtain ⟨U,hU⟩ : ∃U : World,U=w1.alloc (.cells #[.int .i64 P,.int .i64 M,.slice a1 nm k1,.int .i64 N,.slice a2 nd k2] 27):=⟨_,rfl⟩
 have hbU : SW w1 U:=by rw [hU];exact an _ _
 have y0 : aN U w1.heap.size [.int .i64 P,.int .i64 M,.slice a1 nm k1,.int .i64 N,.slice a2 nd k2]:=by rw [hU];exact R9 _ _ _ rfl
 have hF:=RZ HbW.out (RZ hb1 hbU);have HC:=Z5 (HW1.out U a1 k1 a2 k2 (hI1.ah hbU) (hM1.ah hbU));clear c0 c1 c2 c3 c4 hI1 hM1 h1;have c0:=y0.cell 0 rfl;have c1:=y0.cell 1 rfl;have c2:=y0.cell 2 rfl;have c3:=y0.cell 3 rfl;have c4:=y0.cell 4 rfl;rw [hU] at c0 c1 c2 c3 c4;have HU:=Z5 hU;clear hU y0;go_wp2_with fail;rw [<- HU.out];refine HC.out.mono ?_;rintro e w2 ⟨hb2,⟨h1,rfl⟩ | ⟨h1,a3,k3,c3',rfl,hM⟩⟩
 ·have hF2:=RZ hF hb2;clear c0 c1 c2 c3 c4;go_wp2_with fail;go_ret2;exact ⟨hF2,.inl ⟨h1,rfl⟩⟩
 ·have hF2:=RZ hF hb2;have HM:=Z5 hM;clear c0 c1 c2 c3 c4 hM;go_wp2_with fail;go_ret2;exact ⟨hF2,.inr ⟨h1,a3,k3,c3',rfl,HM.out⟩⟩
theorem lW : ∀ {s t : Lz},s.length=t.length->cmpL s t<0->∃i,i<s.length/\(∀j,j<i->nth s j=nth t j)/\nth s i<nth t i
 | [],[],_,h=>by simp [cmpL] at h
 | x :: s,y :: t,hl,h=>by
  rw [cmpL] at h;by_cases h1 : x<y
  ·exact ⟨0,by simp,λj hj=>by omega,by simpa [nth] using h1⟩
  ·rw [Nf h1] at h;by_cases h2 : y<x
   ·rw [Nd h2] at h;omega
   ·rw [Nf h2] at h;obtain ⟨i,a1,a2,a3⟩:=lW (by simpa using hl) h;refine ⟨i+1,by simpa using a1,λj hj=>?_,by simpa [nth] using a3⟩;match j,hj with
    | 0,_=>show x=y;omega
    | j+1,hj=>simpa [nth] using a2 j (by omega)
theorem pV : ∀ {s t : Lz} {i : Nat},i<s.length->i<t.length->(∀j,j<i->nth s j=nth t j)->nth s i<nth t i->cmpL s t<0
 | x :: s,y :: t,0,_,_,_,h=>by
  have h' : x<y:=by simpa [nth] using h
  rw [cmpL,Nd h'];omega
 | x :: s,y :: t,i+1,h1,h2,h3,h4=>by
  have h0 : x=y:=by simpa [nth] using h3 0 (by omega)
  rw [cmpL,Nf (by omega),Nf (by omega)];exact pV (i:=i) (by simpa using h1) (by simpa using h2) (λj hj=>by simpa [nth] using h3 (j+1) (by omega)) (by simpa [nth] using h4)
theorem lP (a : OA) (n c : Nat) (x : Lz) (w : World) (h : Ints w a n x) (hn : n<=1000000) :
  Calls prog 106 #[.slice a n c] w (b8 w (bI x n (-1))):=by
 have HG1 : Hid (∀k : Nat,nth x k ≠ 0->bI x (k+1) (-1)=bI x k (-1) ++ [(k : Int)]):=λk h1=>by rw [jX,Nd ⟨h1,by omega⟩]
 have HG2 : Hid (∀k : Nat,nth x k=0->bI x (k+1) (-1)=bI x k (-1)):=λk h1=>by rw [jX,Nf];rintro ⟨h2,_⟩;exact h2 h1
 have HGl : Hid (∀k,(bI x k (-1)).length<=k):=λk=>gH _ _ _;have HI:=Z5 h;have hpl:=h.pl;have hmx:=h.max;unfold maxLen at hmx;obtain ⟨Z,hZ⟩ : ∃Z : Nat->Lz,(λk=>bI x k (-1))=Z:=⟨_,rfl⟩
 have hZk : ∀k,bI x k (-1)=Z k:=λk=>by rw [<- hZ]
 simp only [hZk] at HG1 HG2 HGl ⊢;have HZ0 : Hid (Z 0=[]):=by rw [<- hZ];rfl
 clear hZk hZ h;go_enter func106,ntmps106;go_wp2_with fail;go_loopw [3,4] (λov iv wr=>∃(k g : Nat) (a1 : OA) (c1 : Nat),k<=n/\iv = .int .i64 k/\Hid ((Z k).length=g)/\ov = .slice a1 g c1/\wr.ownsRow w.heap.size 3 1 (.slice a1 g c1) g ((Z k).map (Value.int .i64))/\SW w wr) (λ_ iv _=>n - (intOf iv).toNat);case atStart=>exact ⟨0,0,none,0,Ni _,rfl,by show _=_;rw [HZ0.out];rfl,rfl,by rw [HZ0.out];exact bV,Nc _ _⟩
 case round =>
  obtain ⟨j,g,a2,c2,hj,rfl,Hg2,rfl,hown,hbz⟩:=hrel
  by_cases hltj : j<n
  ·have hgk : g<=j:=by have h:=HGl.out j;rw [Hg2.out] at h;omega
   have cj:=(HI.out.ah hbz).cell j hltj
   have hG1:=HG1.out j
   have hG2:=HG2.out j
   obtain ⟨y,hy⟩ : ∃y,nth x j=y:=⟨_,rfl⟩
   rw [hy] at cj hG1 hG2
   clear hy
   by_cases hy0 : y=0
   ·have Hn:=Z5 (hG2 hy0)
    have d1 : (y != 0)=false:=by simpa using hy0
    clear hG1 hG2 hy0
    go_wp2_with fail
    go_roundw
    case rel=>exact ⟨j+1,g,a2,c2,by omega,by go_num,by show _=_;rw [Hn.out];exact Hg2.out,rfl,by rw [Hn.out];exact hown,hbz⟩
    case measure=>simp [intOf] <;> omega
   ·have d1 : (y != 0)=true:=by simpa using hy0
    have Hn:=Z5 (hG1 hy0)
    clear hG1 hG2 hy0
    have hsz:=hbz.size
    have hcn:=ba wr (.int .i64 j) 3
    go_wp2_with (at_builtin;refine aO rfl _ _ 22 3 rfl (.int .i64 0) 8 underlying22 aU rfl w.heap.size a2 g c2 _ rfl (hown.alloc _) ⟨wr.heap.size,0,none⟩ 1 (.int .i64 j) rfl hcn rfl (by omega) (by unfold maxLen;omega) (by simp;omega) ?_;intro a5 c5 w5 hown5 hgr5 hap5)
    go_roundw
    case rel =>
     refine ⟨j+1,g+1,a5,c5,by omega,by go_num,by show _=_;rw [Hn.out,Nl,Hg2.out];rfl,rfl,by rw [Hn.out];simpa using hown5,Sa (Sb hbz _) (hown.alloc _) hgr5 (Na _) (Sb hbz _).size⟩
    case measure=>simp [intOf] <;> omega
  ·obtain rfl : j=n:=by omega
   have HR : Hid (∀e,e=Ending.returned (.slice a2 g c2)->b8 w (Z j) e wr):=λe he=>⟨a2,c2,by rw [Hg2.out];exact he,by rw [Hg2.out];exact hown,hbz⟩
   clear hown
   go_wp2_with fail
   go_ret
   exact HR.out _ rfl
theorem oD (a : OA) (n c : Nat) (s : Lz) (b : OA) (k d : Nat) (t : Lz) (w : World) (h : Ints w a n s) (h' : Ints w b k t) :
  Calls prog 105 #[.slice a n c,.slice b k d] w λe w'=>e = .returned (.bool (dL s t))/\SW w w':=by
 have Hl:=Z5 h.len;have Hl':=Z5 h'.len;have hpl:=h.pl;have hpl':=h'.pl;have hmax:=h.max;have hmax':=h'.max;unfold maxLen at hmax hmax';by_cases hnk : n=k;rotate_left
 ·have d1 : ((n : Int) != k)=true:=by simp;omega
  have HR : Hid (dL s t=decide (n<k)):=by show _=_;rw [dL,Hl.out,Hl'.out,NA hnk,Q5,Bool.or_false]
  go_enter func105,ntmps105;go_wp2_with fail;go_ret;exact ⟨aZ HR.out.symm,Nc _ _⟩
 subst hnk;have d1 : ((n : Int) != n)=false:=by simp
 have HLt : Hid (∀j,j<n->(∀i,i<j->nth s i=nth t i)->nth s j<nth t j->dL s t=true):=λj hj hp hlt=>ib.2 (.inr ⟨by rw [Hl.out,Hl'.out],pV (by rw [Hl.out];exact hj) (by rw [Hl'.out];exact hj) hp hlt⟩);have HGt : Hid (∀j,j<n->(∀i,i<j->nth s i=nth t i)->nth t j<nth s j->dL s t=false):=λj hj hp hlt=>by
  cases hh : dL s t
  ·rfl
  ·rcases ib.1 hh with h1 | ⟨h1,h2⟩
   ·rw [Hl.out,Hl'.out] at h1;omega
   ·obtain ⟨i,hi1,hi2,hi3⟩:=lW h1 h2;by_cases e1 : i<j
    ·rw [hp i e1] at hi3;omega
    ·by_cases e2 : i=j
     ·subst e2;omega
     ·rw [hi2 j (by omega)] at hlt;omega
 have HEq : Hid ((∀i,i<n->nth s i=nth t i)->dL s t=false):=λhp=>by
  cases hh : dL s t
  ·rfl
  ·rcases ib.1 hh with h1 | ⟨h1,h2⟩
   ·rw [Hl.out,Hl'.out] at h1;omega
   ·obtain ⟨i,hi1,hi2,hi3⟩:=lW h1 h2;rw [hp i (by rw [<- Hl.out];exact hi1)] at hi3;omega
 generalize dL s t=z at *;go_enter func105,ntmps105;go_wp2_with fail;go_loopw [5] (λiv wr=>∃j : Nat,j<=n/\iv = .int .i64 j/\Hid (∀i,i<j->nth s i=nth t i)/\bf w wr) (λi _=>n - (intOf i).toNat);case atStart=>exact ⟨0,Ni _,rfl,λi hi=>by omega,Sf _⟩
 case round =>
  obtain ⟨j,hj,rfl,hp,hd⟩:=hrel
  generalize wr=V at *
  by_cases hlt : j<n
  ·have c1:=(h.drawn hd).cell j hlt
   have c2:=(h'.drawn hd).cell j hlt
   have HX : Hid (∀U,bf w U->U.cell? ⟨ablk a,aK a+j,none⟩=some (.int .i64 (nth s j))/\U.cell? ⟨ablk b,aK b+j,none⟩=some (.int .i64 (nth t j))):=λU hU=>⟨(h.drawn hU).cell j hlt,(h'.drawn hU).cell j hlt⟩
   by_cases h1 : nth s j=nth t j
   ·have h1' : (nth s j != nth t j)=false:=by simpa using h1
    have Hp : Hid (∀i,i<j+1->nth s i=nth t i):=λi hi=>by
     by_cases e : i=j
     ·subst e;exact h1
     ·exact hp.out i (by omega)
    clear h1 hp
    go_wp2_with fail
    go_quiet (fail)
    go_wp2
    go_roundw
    case rel=>exact ⟨j+1,by omega,by go_num,Hp.out,hd.drewN _⟩
    case measure=>simp [intOf] <;> omega
   ·have h1' : (nth s j != nth t j)=true:=by simpa using h1
    have Hz : Hid (decide (nth s j<nth t j)=z):=by
     show _=_;by_cases h2 : nth s j<nth t j
     ·rw [HLt.out j hlt hp.out h2];simpa using h2
     ·rw [HGt.out j hlt hp.out (by omega)];simpa using h2
    clear h1 hp
    go_wp2_with fail
    go_cut [30] (λv wx=>v = .bool true/\bf w wx)
    case first=>go_wp2_with fail;go_quiet (fail);go_wp2_with fail;go_meet;exact ⟨by first | rfl | simp [h1'],hd.drewN _⟩
    obtain ⟨rfl,hcut⟩:=hcut
    clear c1 c2
    generalize wc=wx at *
    obtain ⟨c1,c2⟩:=HX.out wx hcut
    go_wp2_with fail
    go_quiet (fail)
    go_wp2
    go_ret
    exact ⟨aZ Hz.out,(hcut.drewN _).below⟩
  ·obtain rfl : j=n:=by omega
   have HR : Hid (z=false):=HEq.out hp.out
   go_wp2_with fail
   go_ret
   exact ⟨aZ HR.out.symm,hd.below⟩
theorem qX (a : OA) (n c : Nat) (W : ZZ) (m i : Nat) (w0 w : World) (hW : br w0 a n W) (hb0 : SW w0 w) (hm : ∀r ∈ W,r.length=m) (hi : i<m) (hm64 : m<=64) :
  Calls prog 50 #[.slice a n c,.int .i64 i] w λe w'=>SW w w'/\∃ar nr cr,e = .returned (.slice ar nr cr)/\lJ w0 ar nr (bstL m i W n):=by
 have hln:=hW.len;have HM:=Z5 hW;have Hb0:=Z5 hb0;have hpl:=hW.pl;have hmx:=hW.max;unfold maxLen at hmx;have Hrow : Hid (∀k,k<n->(ai W k).length=m):=λk hk=>hm _ (dN (by omega));have HSup : Hid (∀V b k c x,k<=1000000->Ints V b k x->Calls prog 106 #[.slice b k c] V (b8 V (bI x k (-1)))):=λV b k c x hk h=>lP b k c x V h hk;have Heq:=Z5 (λ(w : World) (a : OA) (l c : Nat)=>Go.run_eql_slice_nil (P:=prog) w 22 3 a l c underlying22);clear hW hm hln hb0;go_enter func50,ntmps50;go_wp2_with fail;go_loopw [5,6] (λbv iv wr=>∃(k : Nat) (ab : OA) (nb cb : Nat) (b : Lz),k<=n/\iv = .int .i64 k/\bv = .slice ab nb cb/\Hid (bstL m i W k=b)/\Hid (b=[]\/(b.length=m/\nth b i=1))/\Hid (lJ w0 ab nb b)/\SW w wr) (λ_ iv _=>n - (intOf iv).toNat);case atStart=>exact ⟨0,none,0,0,[],Ni _,rfl,rfl,rfl,.inl rfl,⟨Sd _ _,rfl⟩,Nc _ _⟩
 case round =>
  obtain ⟨k,ab,nb,cb,b,hk,rfl,rfl,Hst,Hbl,Hb,hbr⟩:=hrel
  generalize wr=V at *
  by_cases hlt : k<n
  ·obtain ⟨ar,mr,cr,hcell0,hrw0⟩:=HM.out.cell k hlt
   have hcell:=aB (RZ Hb0.out hbr) hcell0
   have hrw:=hrw0.ah (RZ Hb0.out hbr)
   have hmr : mr=m:=by rw [<- hrw.len];exact Hrow.out k hlt
   subst hmr
   have hri:=hrw.cell i hi
   have hplr:=hrw.pl
   have hrn : ar.isNone=false:=by
    cases ar with
    | none=>have:=hrw.pl (by omega);cases this
    | some x=>rfl
   obtain ⟨r,hr⟩ : ∃r,ai W k=r:=⟨_,rfl⟩
   have hrl : r.length=mr:=by rw [<- hr];exact Hrow.out k hlt
   rw [hr] at hrw hrw0 hri
   have Hnx : Hid (bstL mr i W (k+1)=uS mr i b r):=by show _=_;rw [bstL,Hst.out,hr]
   clear hr
   obtain ⟨y,hy⟩ : ∃y,nth r i=y:=⟨_,rfl⟩
   rw [hy] at hri
   by_cases hy1 : y=1
   rotate_left
   ·have d1 : (y == 1)=false:=by simpa using hy1
    have Hn2 : Hid (bstL mr i W (k+1)=b):=by show _=_;rw [Hnx.out,uS,Nf (by rw [Nb,hy];exact hy1)]
    clear hy hy1 hrw hrw0 hcell0
    go_wp2_with fail
    go_roundw
    case rel=>exact ⟨k+1,ab,nb,cb,b,by omega,by go_num,rfl,Hn2.out,Hbl.out,Hb.out,hbr⟩
    case measure=>simp [intOf] <;> omega
   have d1 : (y == 1)=true:=by simpa using hy1
   have hri1 : nth r i=1:=by rw [hy];exact hy1
   have Hri1:=Z5 hri1
   have Hn2 : Hid (bstL mr i W (k+1)=if b=[]\/dL (bI r mr i) (bI b mr i)=true then r else b):=by show _=_;rw [Hnx.out,uS,Nd (by rw [Nb];exact hri1)]
   have Hr : Hid (lJ w0 ar mr r):=⟨hrw0,by rw [hrn];exact (NA λe=>by rw [e] at hrl;simp at hrl;omega).symm⟩
   have Hrl:=Z5 hrl
   have heq:=Heq.out
   clear hy hy1 hrn Hnx hrl hri1 hrw0 hcell0
   rcases Hbl.out with hb0 | ⟨hbm,hb1⟩
   ·have hin : ab.isNone=true:=by rw [Hb.out.2];exact NB hb0
    have Hn3 : Hid (bstL mr i W (k+1)=r):=by show _=_;rw [Hn2.out,Nd (.inl hb0)]
    clear hb0 hrw
    go_wp2_with fail
    go_roundw
    case rel=>exact ⟨k+1,ar,mr,cr,r,by omega,by go_num,rfl,Hn3.out,.inr ⟨Hrl.out,Hri1.out⟩,Hr.out,hbr⟩
    case measure=>simp [intOf] <;> omega
   have hbn : b ≠ []:=λe=>by rw [e] at hbm;simp at hbm;omega
   have hin : ab.isNone=false:=by rw [Hb.out.2];exact NA hbn
   have hnb : nb=mr:=by rw [<- Hb.out.1.len];exact hbm
   subst hnb
   have Hn4 : Hid (bstL nb i W (k+1)=if dL (bI r nb (-1)) (bI b nb (-1))=true then r else b):=by
    show _=_;rw [Hn2.out,oY r nb (-1) (.inl (by omega)),oY b nb (-1) (.inl (by omega)),tg hi (by rw [Hri1.out];decide) (by rw [hb1];decide)];by_cases hl : dL (bI r nb i) (bI b nb i)=true
    ·rw [Nd (.inr hl),Nd hl]
    ·rw [Nf (λh=>h.elim hbn hl),Nf hl]
   have HS1:=Z5 (HSup.out V ar nb cr r (by omega) hrw)
   have HSt : Hid (∀V',SW V V'->Calls prog 106 #[.slice ab nb cb] V' (b8 V' (bI b nb (-1)))):=λV' hV'=>HSup.out V' ab nb cb b (by omega) (Hb.out.1.ah (RZ (RZ Hb0.out hbr) hV'))
   have Hbb : Hid (b=[]\/(b.length=nb/\nth b i=1)):=.inr ⟨hbm,hb1⟩
   obtain ⟨s,hs⟩ : ∃s,bI r nb (-1)=s:=⟨_,rfl⟩
   obtain ⟨t,ht⟩ : ∃t,bI b nb (-1)=t:=⟨_,rfl⟩
   rw [hs] at HS1
   rw [ht] at HSt
   rw [hs,ht] at Hn4
   clear hs ht hrw hbm hb1 hbn
   go_wp2_with fail
   refine HS1.out.mono ?_
   rintro e w1 ⟨a1,k1,rfl,hown1,hb1⟩
   have HS2:=Z5 (HSt.out w1 hb1)
   have Ho1:=Z5 hown1
   clear hown1
   go_wp2_with fail
   refine HS2.out.mono ?_
   rintro e w2 ⟨a2,k2,rfl,hown2,hb2⟩
   have HF:=Z5 (oD a1 s.length k1 s a2 t.length k2 t w2 ((R6 Ho1.out).1.ah hb2) (R6 hown2).1)
   have hb12:=RZ hb1 hb2
   obtain ⟨z,hz⟩ : ∃z,dL s t=z:=⟨_,rfl⟩
   rw [hz] at HF Hn4
   clear hown2 hz
   go_wp2_with fail
   refine HF.out.mono ?_
   rintro e w3 ⟨rfl,hb3⟩
   have hbF:=RZ hb12 hb3
   have hbr3:=RZ hbr hbF
   have hcell3:=aB hbF hcell
   clear hcell hri
   cases z
   ·have Hn5 : Hid (bstL nb i W (k+1)=b):=by show _=_;rw [Hn4.out];rfl
    go_wp2_with fail
    go_roundw
    case rel=>exact ⟨k+1,ab,nb,cb,b,by omega,by go_num,rfl,Hn5.out,Hbb.out,Hb.out,hbr3⟩
    case measure=>simp [intOf] <;> omega
   ·have Hn5 : Hid (bstL nb i W (k+1)=r):=by show _=_;rw [Hn4.out];rfl
    go_wp2_with fail
    go_roundw
    case rel=>exact ⟨k+1,ar,nb,cr,r,by omega,by go_num,rfl,Hn5.out,.inr ⟨Hrl.out,Hri1.out⟩,Hr.out,hbr3⟩
    case measure=>simp [intOf] <;> omega
  ·obtain rfl : k=n:=by omega
   have HR : Hid (lJ w0 ab nb (bstL m i W k)):=by show lJ w0 ab nb _;rw [Hst.out];exact Hb.out
   go_wp2_with fail
   go_ret
   exact ⟨hbr,ab,nb,cb,rfl,HR.out⟩
theorem oy (P M : Int) (am : OA) (mn cm : Nat) (mod : Lz) (N : Int) (a : OA) (n c : Nat) (L : ZZ) (w : World) (hmod : Ints w am mn mod) (hi : br w a n L) :
  Calls prog 62 #[.agg #[.int .i64 P,.int .i64 M,.slice am mn cm,.int .i64 N,.slice a n c]] w (oF (eE P M mod N L) (cF P M mod N.toNat L) w):=by
 have HD : Hid (∀V,SW w V->Calls prog 49 #[.agg #[.int .i64 P,.int .i64 M,.slice am mn cm,.int .i64 N,.slice a n c]] V (j5 (qV P M mod N L) (oR P M mod N.toNat L) V)):=λV hV=>pJ P M am mn cm mod N a n c L V (hmod.ah hV) (hi.ah hV);have HN : Hid (qV P M mod N L=0->∃m : Nat,N=m/\m<=64):=λh=>by
  rw [qV] at h;split at h
  ·rename_i hE;obtain ⟨m,e,_,hm64,_⟩:=aM hE;exact ⟨m,e,hm64⟩
  ·rename_i hE;exact absurd h hE
 have HH : Hid (qV P M mod N L=0->∀(k : Nat) (V0 V : World) (aW : OA) (nW cW : Nat),k<N.toNat->br V0 aW nW (oR P M mod N.toNat L)->SW V0 V->Calls prog 50 #[.slice aW nW cW,.int .i64 k] V λe w'=>SW V w'/\∃ar nr cr,e = .returned (.slice ar nr cr)/\lJ V0 ar nr (ai (cF P M mod N.toNat L) k)):=λh k V0 V aW nW cW hk hW hV=>by
  rw [qV] at h;split at h
  ·rename_i hE;obtain ⟨m,rfl,_,hm64,_⟩:=aM hE;rw [Nb] at hk hW ⊢;rw [lz hk];have h:=qX aW nW cW (oR P M mod m L) m k V0 V hW hV (λr hr=>((ou hE).1 hr).1.1) hk hm64;have e : iw P M mod m L (k : Nat)=bstL m (k : Nat) (oR P M mod m L) nW:=by rw [iw,hW.len]
   rw [e];exact h
  ·rename_i hE;exact absurd h hE
 have HAl : Hid ((cF P M mod N.toNat L).length=N.toNat):=by show _=_;rw [cF,Nq,N7]
 have HE : Hid (eE P M mod N L=if qV P M mod N L=0 then (if [] ∈ cF P M mod N.toNat L then 11 else 0) else qV P M mod N L):=by
  show _=_;unfold eE qV;by_cases h : aF P M mod N L=0
  ·simp only [Nd h]
  ·simp only [Nf h]
 unfold j5 at HD;generalize eE P M mod N L=er at *;generalize cF P M mod N.toNat L=A at *;generalize qV P M mod N L=de at *;generalize oR P M mod N.toNat L=Dw at *;clear hmod hi;go_enter func62,ntmps62;go_upto_region 1 with fail;obtain ⟨W,hW⟩ : ∃W : World,W=w.alloc (.cells #[.int .i64 P,.int .i64 M,.slice am mn cm,.int .i64 N,.slice a n c] 27):=⟨_,rfl⟩
 rw [<- hW];have hbW : SW w W:=by rw [hW];exact an _ _
 have x0 : aN W w.heap.size [.int .i64 P,.int .i64 M,.slice am mn cm,.int .i64 N,.slice a n c]:=by rw [hW];exact R9 _ _ _ rfl
 have HX:=Z5 x0;have HbW:=Z5 hbW;have c0:=x0.cell 0 rfl;have c1:=x0.cell 1 rfl;have c2:=x0.cell 2 rfl;have c3:=x0.cell 3 rfl;have c4:=x0.cell 4 rfl;clear hW x0 hbW;go_wp2_with fail;refine (HD.out W HbW.out).mono ?_;rintro e w1 ⟨hb1,⟨h1,rfl⟩ | ⟨h1,aW,nW,cW,rfl,hM⟩⟩
 ·have hF1:=RZ HbW.out hb1;have d1 : (de != 0)=true:=by simpa using h1
  have HR : Hid (er=de):=by show _=_;rw [HE.out,Nf h1]
  have H1:=Z5 h1;clear c0 c1 c2 c3 c4 h1 HN HH;go_wp2_with fail;go_ret2;exact ⟨hF1,.inl ⟨by rw [HR.out];exact H1.out,by rw [HR.out] <;> rfl⟩⟩
 have hF1:=RZ HbW.out hb1;have HR : Hid (er=if [] ∈ A then 11 else 0):=by show _=_;rw [HE.out,Nd h1]
 obtain ⟨m,rfl,hm64⟩:=HN.out h1;have HH1:=Z5 (λk V (hk : k<((m : Int)).toNat) (hV : SW w1 V)=>HH.out h1 k w1 V aW nW cW hk hM hV);rw [Nb] at HH1 HAl;have d1 : (de != 0)=false:=by simp [h1]
 have heq:=λ(w : World) (a : OA) (l c : Nat)=>Go.run_eql_slice_nil (P:=prog) w 22 3 a l c underlying22;clear c0 c1 c2 c3 c4 h1 hM HE HN HH HD;go_wp2_with fail;go_loopw [6,7] (λsv iv wr=>∃(k : Nat) (a1 : OA) (c1 : Nat) (xs : List Value),k<=m/\iv = .int .i64 k/\sv = .slice a1 k c1/\wr.ownsRow w1.heap.size 22 1 (.slice a1 k c1) k xs/\Hid (xs.length=k)/\Hid (oz w1 xs A)/\SW w1 wr/\Hid (∀j,j<k->ai A j ≠ [])) (λ_ iv _=>m - (intOf iv).toNat);case atStart=>exact ⟨0,none,0,[],Ni _,rfl,rfl,bV,rfl,⟨λj hj=>by simp at hj,Ni _⟩,Nc _ _,λj hj=>by omega⟩
 case round =>
  obtain ⟨k,a1,k1,xs,hk,rfl,rfl,hown,Hxl,Hxs,hbr,hne⟩:=hrel
  generalize wr=V at *
  have x2:=HX.out.ah (RZ hb1 hbr)
  have c3:=x2.cell 3 rfl
  clear x2
  by_cases hlt : k<m
  ·have Hh:=Z5 (HH1.out k V hlt hbr)
   have hkA : k<A.length:=by rw [HAl.out];exact hlt
   have Hmem : Hid (ai A k ∈ A):=by show _ ∈ _;rw [aC hkA];exact NO hkA
   have Hne1 : Hid (ai A k ≠ []->∀j,j<k+1->ai A j ≠ []):=λh j hj=>by
    by_cases e : j=k
    ·subst e;exact h
    ·exact hne.out j (by omega)
   have HkA:=Z5 hkA
   obtain ⟨x,hx⟩ : ∃x,ai A k=x:=⟨_,rfl⟩
   rw [hx] at Hh Hmem Hne1
   have Hx:=Z5 hx
   have hsz:=hbr.size
   have hF3:=RZ hF1 hbr
   clear hx hkA hne
   go_wp2_with fail
   refine Hh.out.mono ?_
   rintro e w3 ⟨hb3,ar,nr,cr,rfl,hxq⟩
   have hF4:=RZ hF3 hb3
   by_cases h0 : x=[]
   ·have hin : ar.isNone=true:=by rw [hxq.2];exact NB h0
    have HR2 : Hid (er=11):=by show _=_;rw [HR.out,Nd (by rw [<- h0];exact Hmem.out)]
    clear h0 hxq hown
    go_wp2_with fail
    go_ret2
    exact ⟨hF4,.inl ⟨by rw [HR2.out];decide,by rw [HR2.out] <;> rfl⟩⟩
   have hin : ar.isNone=false:=by rw [hxq.2];exact NA h0
   have Hn2:=Z5 (Hne1.out h0)
   have Hxq:=Z5 hxq.1
   have hbn:=an w3 (.cells #[.slice ar nr cr] 22)
   have hown4:=bd hown (RZ hb3 hbn)
   have hs4 : w1.heap.size<=(w3.alloc (.cells #[.slice ar nr cr] 22)).heap.size:=by have h1:=hb3.size;simp;omega
   clear h0 hxq hown Hh
   go_wp2_with (at_builtin;refine aO rfl _ _ 25 22 rfl (.slice none 0 0) 24 underlying25 df rfl w1.heap.size a1 k k1 xs rfl hown4 ⟨w3.heap.size,0,none⟩ 1 (.slice ar nr cr) rfl (ba w3 _ _) rfl (by omega) (by unfold maxLen;omega) hs4 ?_;intro a5 c5 w5 hown5 hgr5 hap5)
   go_roundw
   case rel =>
    have hP : oz w1 (xs ++ [.slice ar nr cr]) A:=Hxs.out.push (by rw [Hxl.out,Hx.out];exact Hxq.out) (by rw [Hxl.out];exact HkA.out)
    exact ⟨k+1,a5,c5,_,by omega,by go_num,rfl,hown5,by show _=_;rw [Nl,Hxl.out];rfl,hP,Sa (RZ hbr (RZ hb3 hbn)) hown4 hgr5 (Na _) hs4,Hn2.out⟩
   case measure=>simp [intOf] <;> omega
  ·obtain rfl : k=m:=by omega
   have HR2 : Hid (er=0):=by show _=_;rw [HR.out,Nf];intro h;obtain ⟨j,hj,hj2⟩:=ei h;exact hne.out j (by rw [<- HAl.out];exact hj) hj2
   have hF:=RZ hF1 hbr
   have HO:=Z5 (Hxs.out.jt hown HAl.out Hxl.out hbr (by unfold maxLen;omega))
   have HO2 : Hid (0<k->w.heap.size<=ablk a1):=λh0=>Nr hF1.size (eA hown h0).1
   clear hown
   go_wp2_with fail
   go_ret2
   exact ⟨hF,.inr ⟨HR2.out,a1,k1,by rw [HAl.out] <;> rfl,by rw [HAl.out];exact HO.out,by rw [HAl.out];exact HO2.out⟩⟩
theorem uL (P M : Int) (am : OA) (mn cm : Nat) (mod : Lz) (N : Int) (a : OA) (n c : Nat) (L : ZZ) (w : World) (hmod : Ints w am mn mod) (hi : br w a n L) :
  Calls prog 21 #[.agg #[.int .i64 P,.int .i64 M,.slice am mn cm,.int .i64 N,.slice a n c]] w λe w'=>e = .returned (.tuple #[.int .i64 (sV P M mod N L),.int .i64 (eE P M mod N L)])/\SW w w':=by
 have HK : Hid (∀V,SW w V->Calls prog 62 #[.agg #[.int .i64 P,.int .i64 M,.slice am mn cm,.int .i64 N,.slice a n c]] V (oF (eE P M mod N L) (cF P M mod N.toNat L) V)):=λV hV=>oy P M am mn cm mod N a n c L V (hmod.ah hV) (hi.ah hV);have HV : Hid (sV P M mod N L=if eE P M mod N L=0 then mxS (cF P M mod N.toNat L) N.toNat N.toNat else 0):=rfl;have HL : Hid (eE P M mod N L=0->∃m : Nat,N=m/\m<=64/\(cF P M mod N.toNat L).length=m/\∀k,k<m->(ai (cF P M mod N.toNat L) k).length=m/\(bI (ai (cF P M mod N.toNat L) k) m k).length+1=fB (ai (cF P M mod N.toNat L) k)):=λh=>by
  have hE : aF P M mod N L=0:=by
   unfold eE at h;split at h
   ·assumption
   ·rename_i hE;exact absurd h hE
  obtain ⟨m,rfl,_,hm64,_⟩:=aM hE;rw [eE,Nd hE,Nb] at h;rw [Nb];have hl : (cF P M mod m L).length=m:=by rw [cF,Nq,N7]
  refine ⟨m,rfl,hm64,hl,λk hk=>?_⟩;have hmem : ai (cF P M mod m L) k ∈ cF P M mod m L:=by rw [aC (by rw [hl];exact hk)];exact NO _
  split at h
  ·split at h
   ·cases h
   ·rename_i h2;rw [lz hk] at hmem ⊢;have hne : iw P M mod m L (k : Nat) ≠ []:=λe=>h2 (by rw [<- e];exact hmem);have h1:=se hE hne;rcases qB hE (k : Int) with ⟨h3,_⟩ | ⟨_,h3,_⟩
    ·exact absurd h3 hne
    ·exact ⟨h1,xE h1 hk (by rw [Nb] at h3;rw [h3];decide)⟩
  ·rename_i h1;exact absurd h h1
 generalize sV P M mod N L=v at *;generalize eE P M mod N L=er at *;generalize cF P M mod N.toNat L=A at *;clear hmod hi;go_enter func21,ntmps21;go_upto_region 1 with fail;obtain ⟨W,hW⟩ : ∃W : World,W=w.alloc (.cells #[.int .i64 P,.int .i64 M,.slice am mn cm,.int .i64 N,.slice a n c] 27):=⟨_,rfl⟩
 rw [<- hW];have hbW : SW w W:=by rw [hW];exact an _ _
 have x0 : aN W w.heap.size [.int .i64 P,.int .i64 M,.slice am mn cm,.int .i64 N,.slice a n c]:=by rw [hW];exact R9 _ _ _ rfl
 have HbW:=Z5 hbW;have c0:=x0.cell 0 rfl;have c1:=x0.cell 1 rfl;have c2:=x0.cell 2 rfl;have c3:=x0.cell 3 rfl;have c4:=x0.cell 4 rfl;clear hW x0 hbW;go_wp2_with fail;refine (HK.out W HbW.out).mono ?_;rintro e w1 ⟨hb1,⟨h1,rfl⟩ | ⟨h1,aA,cA,rfl,hM,_⟩⟩
 ·have hF1:=RZ HbW.out hb1;have d1 : (er != 0)=true:=by simpa using h1
  have HR : Hid (v=0):=by show _=_;rw [HV.out,Nf h1]
  clear c0 c1 c2 c3 c4 h1 HL;go_wp2_with fail;go_ret2;exact ⟨by rw [HR.out] <;> rfl,hF1⟩
 have hF1:=RZ HbW.out hb1;have HR : Hid (v=mxS A N.toNat N.toNat):=by show _=_;rw [HV.out,Nd h1]
 have H1 : Hid (er=0):=h1;obtain ⟨m,rfl,hm64,hAl,hAk⟩:=HL.out h1;rw [Nb] at HR;rw [hAl] at hM;have HM:=Z5 hM;have HAk:=Z5 hAk;have hplA:=hM.pl;rw [hAl];have d1 : (er != 0)=false:=by simp [h1]
 clear c0 c1 c2 c3 c4 h1 hM hAk HL HV HK hAl;go_wp2_with fail;go_loopw [6,7] (λsv iv wr=>∃k : Nat,k<=m/\iv = .int .i64 k/\sv = .int .i64 (mxS A m k)/\SW w1 wr) (λ_ iv _=>m - (intOf iv).toNat);case atStart=>exact ⟨0,Ni _,rfl,rfl,Nc _ _⟩
 case round =>
  obtain ⟨k,hk,rfl,rfl,hbr⟩:=hrel
  generalize wr=V at *
  by_cases hlt : k<m
  ·obtain ⟨ra,rn,rc,hcell,hrow⟩:=(HM.out.ah hbr).cell k hlt
   obtain ⟨hl1,hl2⟩:=HAk.out k hlt
   have hS:=gg ra rn rc (ai A k) V hrow
   have Hm : Hid (mxS A m (k+1)=max (mxS A m k) ((bI (ai A k) m k).length : Int)):=rfl
   have hs64 : (bI (ai A k) m k).length<=m:=gH _ _ _
   rw [<- hl2] at hS
   have HS:=Z5 hS
   generalize (bI (ai A k) m k).length=s at *
   generalize mxS A m k=y at *
   have w1' : IntKind.i64.wrap (((s+1 : Nat) : Int) - 1)=(s : Int):=by rw [show ((s+1 : Nat) : Int) - 1=(s : Int) by omega];exact Ns _ (by omega)
   have w2' : IntKind.i64.wrap ((s : Int)+1 - 1)=(s : Int):=by rw [show (s : Int)+1 - 1=(s : Int) by omega];exact Ns _ (by omega)
   clear hrow hl1 hl2 hS
   go_wp2_with fail
   refine HS.out.mono ?_
   rintro e w4 ⟨rfl,rfl⟩
   go_wp2_with fail
   go_roundw
   case rel=>exact ⟨k+1,by omega,by go_num,by rw [Hm.out] <;> exact congrArg _ (by split <;> omega),hbr⟩
   case measure=>simp [intOf] <;> omega
  ·obtain rfl : k=m:=by omega
   have hF:=RZ hF1 hbr
   go_wp2_with fail
   go_ret2
   exact ⟨by rw [HR.out,H1.out] <;> rfl,hF⟩
theorem gM (P M : Int) (am : OA) (mn cm : Nat) (mod : Lz) (N : Int) (a : OA) (n c : Nat) (L : ZZ) (w : World) (hmod : Ints w am mn mod) (hi : br w a n L) :
  Calls prog 14 #[.agg #[.int .i64 P,.int .i64 M,.slice am mn cm,.int .i64 N,.slice a n c]] w (dO w):=by
 have HFw : Hid (∀V,SW w V->Calls prog 32 #[.agg #[.int .i64 P,.int .i64 M,.slice am mn cm,.int .i64 N,.slice a n c],.int .i64 120] V (dO V)):=λV hV=>lY P M am mn cm N a n c 120 L V (hi.ah hV) (by omega);have HDu : Hid (∀V,SW w V->Calls prog 45 #[.agg #[.int .i64 P,.int .i64 M,.slice am mn cm,.int .i64 N,.slice a n c]] V (gr P M mod N L V)):=λV hV=>gI P M am mn cm mod N a n c L V (hmod.ah hV) (hi.ah hV);have HSz : Hid (∀V a1 n1 c1 a2 n2 c2,Ints V a1 n1 mod->br V a2 n2 (aS (af P M.toNat mod) L N.toNat)->Calls prog 46 #[.agg #[.int .i64 P,.int .i64 M,.slice a1 n1 c1,.int .i64 N,.slice a2 n2 c2]] V λe w'=>∃x y,e = .returned (.tuple #[.int .i64 x,.int .i64 y])/\SW V w'):=λV a1 n1 c1 a2 n2 c2 h1 h2=>by refine (fJ P M a1 n1 c1 mod N a2 n2 c2 _ V h1 h2).mono ?_;rintro e w' ⟨h3,h4⟩;exact ⟨_,_,h3,h4⟩
 unfold gr at HDu;obtain ⟨D,hD⟩ : ∃D,aS (af P M.toNat mod) L N.toNat=D:=⟨_,rfl⟩
 obtain ⟨E,hE⟩ : ∃E,aF P M mod N L=E:=⟨_,rfl⟩
 rw [hD,hE] at HDu;rw [hD] at HSz;clear hmod hi hD hE;go_enter func14,ntmps14;go_upto_region 1 with fail;obtain ⟨W,hW⟩ : ∃W : World,W=(w.alloc (.cells #[.int .i64 P,.int .i64 M,.slice am mn cm,.int .i64 N,.slice a n c] 27)):=⟨_,rfl⟩
 rw [<- hW];have hbW : SW w W:=by rw [hW];exact an _ _
 have x0 : aN W w.heap.size [.int .i64 P,.int .i64 M,.slice am mn cm,.int .i64 N,.slice a n c]:=by rw [hW];exact R9 _ _ _ rfl
 clear hW;have HX:=Z5 x0;have HbW:=Z5 hbW;have c0:=x0.cell 0 rfl;have c1:=x0.cell 1 rfl;have c2:=x0.cell 2 rfl;have c3:=x0.cell 3 rfl;have c4:=x0.cell 4 rfl;clear x0 hbW;go_wp2_with fail;refine (HFw.out W HbW.out).mono ?_;rintro e U ⟨z,rfl,hb1⟩;clear c0 c1 c2 c3 c4;cases z
 ·have HF:=Z5 (RZ HbW.out hb1);clear hb1;go_wp2_with fail;go_ret;exact ⟨_,rfl,HF.out⟩
 have x1:=HX.out.ah hb1;have c0:=x1.cell 0 rfl;have c1:=x1.cell 1 rfl;have c2:=x1.cell 2 rfl;have c3:=x1.cell 3 rfl;have c4:=x1.cell 4 rfl;have HbU:=Z5 (RZ HbW.out hb1);clear x1;go_wp2_with fail;refine (HDu.out U HbU.out).mono ?_;rintro e V ⟨hb2,h⟩;have x2:=HX.out.ah (RZ hb1 hb2);have HX2:=Z5 x2;have HbV:=Z5 (RZ HbU.out hb2);clear c0 c1 c2 c3 c4 x2 hb1 hb2;rcases h with ⟨h0,rfl⟩ | ⟨h0,a1,d1,a2,d2,rfl,hI,hM⟩
 ·have hEb : (E != 0)=true:=by simpa using h0
  have HF:=Z5 (RZ HbV.out (an V (.cells #[.int .i64 0,.int .i64 0,.slice none 0 0,.int .i64 0,.slice none 0 0] 27)));clear h0;go_wp2_with fail;go_ret;exact ⟨_,rfl,HF.out⟩
 ·subst h0;obtain ⟨nm,hnm⟩ : ∃nm,mod.length=nm:=⟨_,rfl⟩
  obtain ⟨k,hk⟩ : ∃k,D.length=k:=⟨_,rfl⟩
  rw [hnm] at hI ⊢;rw [hk] at hM ⊢;clear hnm hk;go_upto_region 6 with fail;obtain ⟨V2,hV2⟩ : ∃V2 : World,V2=V.alloc (.cells #[.int .i64 P,.int .i64 M,.slice a1 nm d1,.int .i64 N,.slice a2 k d2] 27):=⟨_,rfl⟩
  rw [<- hV2];have hb3 : SW V V2:=by rw [hV2];exact an _ _
  have y0 : aN V2 V.heap.size [.int .i64 P,.int .i64 M,.slice a1 nm d1,.int .i64 N,.slice a2 k d2]:=by rw [hV2];exact R9 _ _ _ rfl
  have c0:=y0.cell 0 rfl;have c1:=y0.cell 1 rfl;have c2:=y0.cell 2 rfl;have c3:=y0.cell 3 rfl;have c4:=y0.cell 4 rfl;have HS2:=Z5 (HSz.out V2 a1 nm d1 a2 k d2 (hI.ah hb3) (hM.ah hb3));have HX3:=Z5 (HX2.out.ah hb3);have HbV2:=Z5 (RZ HbV.out hb3);clear hV2 hb3 y0 hI hM;go_wp2_with fail;refine HS2.out.mono ?_;rintro e w4 ⟨x,y,rfl,hb4⟩;have q3:=(HX3.out.ah hb4).cell 3 rfl;have HF:=Z5 (RZ HbV2.out hb4);clear c0 c1 c2 c3 c4 hb4 HS2;obtain ⟨z1,hz1⟩ : ∃z,decide (N<=20)=z:=⟨_,rfl⟩
  obtain ⟨z2,hz2⟩ : ∃z,(y != 0)=z:=⟨_,rfl⟩
  obtain ⟨z3,hz3⟩ : ∃z,decide (N<=9)=z:=⟨_,rfl⟩
  obtain ⟨z4,hz4⟩ : ∃z,decide (x<=600)=z:=⟨_,rfl⟩
  cases z1 <;> cases z2 <;> cases z3 <;> cases z4
  all_goals (
   go_wp2_with fail
   go_ret
   exact ⟨_,rfl,HF.out⟩)
section
open Go.ChangeShapes Go.WideShapes Go.ChangeAt Go.RowKit
section
variable {H : Type} {enc : TypeId × Value->H} {W : World} {held : Bool} {fuel : Nat} {cs : List Value} {x : DataW H × List MemPlace}
end
section
variable {H : Type} {enc : TypeId × Value->H} {W : World} {held : Bool} {b0 : Nat} {v : Value} {d : DataW H} {p : List MemPlace}
theorem zJ {P : Program} {w : World} {r : Reach} {base : Nat} {t : TypeId} {v : Value} {n : Nat} {e : TypeId} (ht : P.underlying t=some (.array n e)) (h : Value.okWide P w r base t v) : ∃cs,v = .agg cs/\cs.size=P.cellsOf t:=by simp only [Value.okWide,ht] at h;obtain ⟨cs,h1,h2,_⟩:=h;exact ⟨cs,h1,h2⟩
end
end
end Go.Proofs.YthglbncgemdcbaaGreat
