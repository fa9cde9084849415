import Derived.Test.YtcfmiocdlcapoaaGreatMCS16
import Derived.Test.YtcfmiocdlcapoaaGreatMCS9
namespace Go.Proofs.YtcfmiocdlcapoaaGreat
set_option linter.all false
set_option maxRecDepth 100000
set_option maxHeartbeats 8000000
open Go.RowKit Go.Proofs.Tryz
def sl (O : aS) (L : Ll) (Q : Lz) (most : Nat) : Lz:=(gD O L Q).take most
def iz (m : Nat) (s z : Lz) : Lz:=bA z ++ bz false (s ++ z) m
structure jg where
 M : Nat
 W : Nat
 cos : Bool
 y : Lz
def kU (m : Nat) (s t : Lz) : Bool:=cF m t && t.all λx=>decide (¬ x ∈ s)
structure LS where
 rows : Ll
 sum : Lz
 top : Nat
def G5 (O : aS) (v : Lz) (i : Nat) (r : Lz) : Lz :=
 if nth v i=0 then v else List.zipWith (λa y=>if y=0 then a else O.add a (O.neg (O.mul (nth v i) y))) v r
def wO (O : aS) (t i : Nat) (L : Ll) : Nat->Ll
 | 0=>L
 | l+1=>if t<l then (wO O t i L l).set l (G5 O (an (wO O t i L l) l) i (an (wO O t i L l) t)) else wO O t i L l
def D1 (O : aS) (L : Ll) (t k i : Nat) : Ll :=
 wO O t i ((bh L t k).set t ((an (bh L t k) t).map (O.mul (O.inv (nth (an (bh L t k) t) i))))) L.length
def Fg (O : aS) (st : LS) (i : Nat) : LS :=
 if bn st.rows i st.top=st.rows.length then st
 else ⟨D1 O st.rows st.top (bn st.rows i st.top) i,G5 O st.sum i (an (D1 O st.rows st.top (bn st.rows i st.top) i) st.top),st.top+1⟩
def Eh (O : aS) (L : Ll) (y t : Lz) : Nat->LS
 | 0=>⟨L,y,0⟩
 | k+1=>Fg O (Eh O L y t k) (nth t k).toNat
def CZ (s v : Lz) : Nat->Nat
 | 0=>0
 | k+1=>if nth v k ≠ 0/\¬ (k : Int) ∈ s then CZ s v k+1 else CZ s v k
def zS (O : aS) (L : Ll) (y s t : Lz) : Nat:=CZ s (Eh O L y t t.length).sum (Eh O L y t t.length).sum.length
def dq (O : aS) (L : Ll) (m : Nat) (C : jg) (s t : Lz) : Bool :=
 kU m s t && (decide ((gD O L t).length=t.length) &&
  if C.cos=true then decide ((gD O L (bz false s m)).length=t.length) && decide (C.W<s.length+zS O L C.y s t) else decide (t.length=C.M))
def jr (C : jg) (s z t : Lz) : Lz:=if s.length<C.W then t.filter λx=>decide (¬ x ∈ z) else []
def wi (F : Lz->Lz->Ll->Option Ll) (s : Lz) : Lz->Lz->Ll->Option Ll
 | _,[],ts=>some ts
 | z,k :: ks,ts=>match F (s ++ [k]) z ts with
  | none=>none
  | some ts'=>wi F s (z ++ [k]) ks ts'
def jh (O : aS) (L : Ll) (m : Nat) (C : jg) : Nat->Lz->Lz->Ll->Option Ll
 | 0,s,_,ts=>match ts with
  | []=>none
  | t :: ts=>if dq O L m C s t=true then some ts else none
 | d+1,s,z,ts=>match ts with
  | []=>none
  | t :: ts=>if dq O L m C s t=true then wi (jh O L m C d) s z (jr C s z t) ts else none
def sV (O : aS) (L : Ll) (m : Nat) (C : jg) (T : Ll) : Int :=
 match jh O L m C C.W [] [] T with
 | some []=>0
 | _=>13
def eg (O : aS) (L : Ll) (m : Nat) (C : jg) (s z : Lz) : Lz:=bA (sl O L (iz m s z) (if C.cos=true then m else C.M))
def eS (F : Lz->Lz->Ll->Int × Ll) (s : Lz) : Lz->Lz->Ll->Int × Ll
 | _,[],T=>(0,T)
 | z,k :: ks,T=>if (F (s ++ [k]) z T).1=0 then eS F s (z ++ [k]) ks (F (s ++ [k]) z T).2 else ((F (s ++ [k]) z T).1,[])
def gn (O : aS) (L : Ll) (m : Nat) (C : jg) : Nat->Lz->Lz->Ll->Int × Ll
 | 0,s,z,T=>if dq O L m C s (eg O L m C s z)=true then if T.length=65536 then (8,[]) else (0,T ++ [eg O L m C s z]) else (11,[])
 | d+1,s,z,T=>if dq O L m C s (eg O L m C s z)=true then if T.length=65536 then (8,[]) else eS (gn O L m C d) s z (jr C s z (eg O L m C s z)) (T ++ [eg O L m C s z]) else (11,[])
def qJ (O : aS) (L : Ll) (m : Nat) (C : jg) : Int × Ll:=gn O L m C C.W [] [] []
theorem wH (O : aS) (L : Ll) (Q : Lz) {k : Nat} : ∀j,k<=j->(bU O L Q k).2 <+: (bU O L Q j).2
 | 0,h=>by
   obtain rfl : k=0:=by omega
   exact Kl
 | j+1,h=>by
  by_cases e : k=j+1
  ·subst e;exact Kl
  ·refine (wH O L Q j (by omega)).trans ?_;rw [bU];split
   ·exact LR _ _
   ·exact Kl
theorem ET {O : aS} {L : Ll} {Q : Lz} {k most : Nat} (hk : k<=Q.length) (h : (bU O L Q k).2.length=most) : sl O L Q most=(bU O L Q k).2:=by obtain ⟨l,hl⟩:=wH O L Q Q.length hk;rw [sl,gD,<- hl,<- h,List.take_left]
theorem Fb {O : aS} {L : Ll} {Q : Lz} {most : Nat} (h : (bU O L Q Q.length).2.length<=most) : sl O L Q most=(bU O L Q Q.length).2:=by rw [sl,gD,I8 h]
theorem Bi (O : aS) (L : Ll) (Q : Lz) : ∀k,(bU O L Q k).2.length<=k
 | 0=>IZ _
 | k+1=>by
  have ih:=Bi O L Q k;rw [bU];split
  ·simp;omega
  ·dsimp only;omega
theorem D4 (O : aS) (L : Ll) (Q : Lz) : (gD O L Q).length<=Q.length:=Bi O L Q _
theorem EF {O : aS} {L : Ll} {Q : Lz} {most : Nat} (h : Q.length<=most) : sl O L Q most=gD O L Q :=
 I8 (Ji (D4 O L Q) h)
theorem vh {O : aS} {L : Ll} {Q : Lz} {most : Nat} : ∀x ∈ sl O L Q most,x ∈ Q:=λx hx =>
 kJ O L Q Q.length (IZ _) x (JY hx)
theorem Bh {O : aS} {El : Int->Prop} {m : Nat} {L : Ll} (F : dw O El) (hL : cw El m L) (Q : Lz) (most : Nat) : ∀k,gr (pN O L) Q most k=(bU O L Q k).2.take most
 | 0=>by simp [gr,bU]
 | k+1=>by
  have ih:=Bh F hL Q most k;have hT:=xO F hL Q k;rw [gr,ih,bU];by_cases h : (bU O L Q k).2.length<most
  ·rw [I8 (by omega)];by_cases ht : (bU O L Q k).1.dz O (bs L (nth Q k).toNat)=true
   ·rw [I6 ⟨h,hT.1 ht⟩,I6 ht,I8 (by simp;omega)]
   ·rw [I5 λhh=>ht (hT.2 hh.2),I5 ht,I8 (by dsimp only;omega)]
  ·rw [I5 λhh=>by have h2:=hh.1;rw [Jy] at h2;omega];split
   ·rw [List.take_append_of_le_length (by omega)]
   ·rfl
theorem Gf {O : aS} {El : Int->Prop} {m : Nat} {L : Ll} (F : dw O El) (hL : cw El m L) (Q : Lz) (most : Nat) : gr (pN O L) Q most Q.length=sl O L Q most:=Bh F hL Q most _
theorem xp (m : Nat) (s z : Lz) : (iz m s z).length<=z.length+m:=by unfold iz;have:=gk false (s ++ z) m;rw [Jh,dy];omega
theorem nJ {m : Nat} {s z : Lz} {x : Int} (h : x ∈ iz m s z) : x ∈ z\/(0<=x/\x<m/\¬ x ∈ s/\¬ x ∈ z):=by
 unfold iz at h;rcases List.mem_append.1 h with h | h
 ·exact .inl ((dc z).mem_iff.1 h)
 ·obtain ⟨j,hj,rfl,hd⟩:=(ew m).1 h;have : ¬ (j : Int) ∈ s ++ z:=by simpa using hd
  rw [JM] at this;exact .inr ⟨by omega,by omega,λh=>this (.inl h),λh=>this (.inr h)⟩
theorem D2 {m : Nat} {s t : Lz} (h : kU m s t=true) : cF m t=true/\∀x ∈ t,¬ x ∈ s:=by unfold kU at h;rw [Jo,JO] at h;exact ⟨h.1,λx hx=>by simpa using h.2 x hx⟩
theorem xE {O : aS} {L : Ll} {m : Nat} {C : jg} {s t : Lz} (h : dq O L m C s t=true) : cF m t=true/\∀x ∈ t,¬ x ∈ s:=by unfold dq at h;rw [Jo] at h;exact D2 h.1
theorem qo {C : jg} {s z t : Lz} {x : Int} (h : x ∈ jr C s z t) : x ∈ t/\¬ x ∈ z/\s.length<C.W:=by
 unfold jr at h;split at h
 ·rename_i hl;rw [K7] at h;exact ⟨h.1,by simpa using h.2,hl⟩
 ·simp at h
section
def ez (n k : Nat) : Lz:=(List.replicate n 0).set k 1
def dH (n : Nat) : Ll:=(List.range n).map (ez n)
theorem bV (n : Nat) : (dH n).length=n:=by simp [dH]
theorem fF (n k : Nat) : (ez n k).length=n:=by simp [ez]
theorem gJ {n k : Nat} (h : k<n) : an (dH n) k=ez n k:=by rw [aE (by rw [bV];exact h)];simp [dH]
theorem DE (L : Ll) (k : Nat) (x y : Lz) : (L.set k x).set k y=L.set k y:=by simp
theorem Dg (n : Nat) (w : World) (hn : n<=1000000) : Calls prog 222 #[.int .i64 n] w (zT w (dH n)):=by
 go_enter func222,ntmps222;go_wp2_with (at_make;refine cC rfl _ _ 25 22 rfl (.slice none 0 0) 24 underlying25 di rfl n rfl rfl (by omega) (by unfold maxLen;omega) ?_;intro a1 w1 hown hbel hge hlt);have hO:=tz hown;have hO1 : ∃R,aP w1 w.heap.size a1 n n R (iq n 0 (dH n)):=⟨_,by simpa [iq] using hO⟩
 clear hO hown;go_loopw [9] (λiv wr=>∃k : Nat,k<=n/\iv = .int .i64 k/\(∃R,aP wr w.heap.size a1 n n R (iq n k (dH n)))/\NS w wr) (λiv _=>n - (intOf iv).toNat);case atStart=>exact ⟨0,I7 _,rfl,hO1,hbel⟩
 case round =>
  obtain ⟨k,hk,rfl,⟨R,hO⟩,hbr⟩:=hrel
  by_cases hlt : k<n
  ·have hset:=rV hlt (bV n)
   rw [gJ hlt] at hset
   have Hset:=Z5 hset
   clear hset
   have hpl1:=hO.pl
   have hsz:=hbr.size
   generalize wr=V at *
   go_upto_region 6 with (at_make;refine cC rfl _ _ 22 3 rfl (.int .i64 0) 8 underlying22 ba rfl n rfl rfl (by omega) (by unfold maxLen;omega) ?_;intro a3 w3 hown3 hb3 hge3 hlt3;have hO3:=aP.aa hO hb3;have hf:=hO3.frozen hlt;have hc:=hO3.cell hlt)
   have hown3' : w3.ownsRow V.heap.size 3 1 (.slice a3 (List.replicate n (0 : Int)).length n) (List.replicate n (0 : Int)).length ((List.replicate n (0 : Int)).map (Value.int .i64)):=by rw [JW,Lb];exact hown3
   have hB:=(aP.lt hO3 (aj a1) (.inl ⟨hO3.ne (by omega),rfl⟩)).1
   have hnew:=aP.setRow hO3 hlt (aU hown3' hsz) (lA hown3 (aP.lt hO (aj a1) (.inl ⟨hO.ne (by omega),rfl⟩)).2) (λj hj _=>by
    by_cases hn : (aO R j).1=none
    ·exact .inl hn
    ·exact .inr (lA hown3 (aP.lt hO _ (aP.lZ (by rw [hO.rl];exact hj) hn)).2))
   rw [JW] at hnew
   obtain ⟨Y,hY⟩ : ∃Y,w3.setCell ⟨aj a1,aL a1+k,none⟩ (.slice a3 n n)=Y:=⟨_,rfl⟩
   rw [hY] at hnew ⊢
   have hbY : NS w Y:=by rw [<- hY];exact (Nh hbr hb3).setCell hB _
   have hRk : aO (R.set k (a3,n)) k=(a3,n):=by rw [gZ _ _ _ _ (by rw [hO.rl];exact hlt),I6 rfl]
   have hLk : an ((iq n k (dH n)).set k (List.replicate n 0)) k=List.replicate n 0:=by rw [fA _ _ _ _ (by rw [hO.ll];exact hlt),I6 rfl]
   have hcr:=hnew.cell hlt
   have hrow:=hnew.row k hlt
   rw [hRk,hLk,JW] at hcr hrow
   obtain ⟨hints,hmine⟩:=Ni hrow
   have cz:=hints.cell k hlt
   have fz:=(hmine (by omega)).2 k hlt
   have hBz:=(hmine (by omega)).1
   have hpl3:=hints.pl
   have hown2:=bT hrow k hlt (.int .i64 1)
   rw [<- Jq] at hown2
   have hne3 : a3 ≠ none:=λe=>by have:=hpl3 (by omega);rw [e] at this;cases this
   have hfin:=aP.F9 hnew hlt (l:=ez n k) (by rw [hLk,JW,fF]) (by rw [hRk,hLk,JW];exact hown2) (λb hb hne=>Jr _ _ _ _ λe=>by
    rw [hRk] at hne;rcases hne with h1 | h1
    ·exact hne3 h1
    ·exact h1 e)
   rw [DE,Hset.out] at hfin
   have Hfin:=Z5 hfin
   clear hfin hnew hrow hints hmine hown2 hRk hLk hY hf hc hown3 hown3' hO3
   go_wp2_with fail
   go_roundw
   case rel=>exact ⟨k+1,by omega,by go_num,⟨_,Hfin.out⟩,hbY.setCell hBz _⟩
   case measure=>simp [intOf] <;> omega
  ·obtain rfl : k=n:=by omega
   rw [rL (bV k)] at hO
   go_wp2_with fail
   go_ret
   exact ⟨a1,k,R,by rw [bV];rfl,by rw [bV];exact hO,hbr⟩
variable {w : World} {b : Nat} {G : cW}
theorem F6 (ax : OA) (cx : Nat) (x : Lz) (a : OA) (n c : Nat) (L : Ll) (cols : Nat) (h : dT w b G) (F : dw G.ops G.El) (hx : Ints w ax n x) (hi : ch w a n L) (hxe : ∀k,k<n->G.El (nth x k)) (hR : cw G.El cols L) (hc1 : 1<=cols) (hc : cols<=1000000) (hn : n<=1000000) :
  Calls prog 141 #[.pointer (some ⟨b,0,none⟩),.slice ax n cx,.slice a n c,.int .i64 cols] w λe w' =>
   ∃a1 c1,e = .returned (.slice a1 cols c1)/\w'.ownsRow w.heap.size 3 1 (.slice a1 cols c1) cols ((bw G.ops cols x L n).map (Value.int .i64))/\NS w w':=by
 have Hil:=Z5 hi.len;have hplx:=hx.pl;have hpla:=hi.pl;have hcm:=jc F hR (x:=x) (by rw [hi.len];exact hxe);have Hcm:=Z5 hcm;have HR:=Z5 hR;have hz : (bw G.ops cols x L 0).map (Value.int .i64)=List.replicate cols (Value.int .i64 0):=by simp [bw]
 have Hz:=Z5 hz;clear hcm hR hz F;go_enter func141,ntmps141;go_wp2_with (at_make;refine cC rfl _ _ 22 3 rfl (.int .i64 0) 8 underlying22 ba rfl cols rfl rfl (by omega) (by unfold maxLen;omega) ?_;intro a5 w5 hown hbel hge hlt);have hown0 : w5.ownsRow w.heap.size 3 1 (.slice a5 cols cols) cols ((bw G.ops cols x L 0).map (Value.int .i64)):=by rw [Hz.out];exact hown
 clear hown hlt;go_loopw [16] (λiv wr=>∃k : Nat,k<=n/\iv = .int .i64 k/\wr.ownsRow w.heap.size 3 1 (.slice a5 cols cols) cols ((bw G.ops cols x L k).map (Value.int .i64))/\NS w wr) (λiv _=>n - (intOf iv).toNat);case atStart=>exact ⟨0,I7 _,rfl,hown0,hbel⟩
 case round =>
  clear hown0 hbel
  obtain ⟨k,hk,rfl,hown,hbr⟩:=hrel
  by_cases hlt : k<n
  ·have cxk:=(hx.aa hbr).cell k hlt
   have hrow:=HR.out.row (i:=k) (by rw [Hil.out];exact hlt)
   obtain ⟨ra,rn,rc,er0,ir0⟩:=hi.cell k hlt
   have hrn : rn=cols:=by rw [<- ir0.len];exact hrow.1
   rw [hrn] at er0 ir0
   have er:=aB hbr er0
   have hra : aj ra<w.heap.size:=Jf w _ (ir0.cell 0 (by omega))
   clear hrn er0
   by_cases h0 : nth x k=0
   ·have h0' : (nth x k != 0)=false:=by simpa using h0
    have Hn : Hid (bw G.ops cols x L (k+1)=bw G.ops cols x L k):=by show _=_;rw [bw,I6 h0]
    clear h0
    go_wp2_with fail
    go_roundw
    case rel=>exact ⟨k+1,by omega,by go_num,by rw [Hn.out];exact hown,hbr⟩
    case measure=>simp [intOf] <;> omega
   ·have h0' : (nth x k != 0)=true:=by simpa using h0
    have Hn : Hid (bw G.ops cols x L (k+1)=bP G.ops (bw G.ops cols x L k) (nth x k) (an L k)):=by show _=_;rw [bw,I5 h0]
    have hvk:=(Hcm.out k (by rw [Hil.out];exact hk)).1
    have Ha:=Z5 (AB w a5 cols cols (bw G.ops cols x L k) (nth x k) ra rc (an L k) h hbr hown (ir0.aa hbr) (.inr (.inr (by omega))) hvk.2 hrow.2 (hxe k hlt))
    clear h0 hown ir0 hrow hvk
    go_wp2_with fail
    refine Ha.out.mono ?_
    rintro e w4 ⟨rfl,hown4,honly⟩
    have hb4 : NS w w4:=hbr.trans (honly.below (λ_=>hge) hbr.size)
    go_wp2_with fail
    go_roundw
    case rel=>exact ⟨k+1,by omega,by go_num,by rw [Hn.out];exact hown4,hb4⟩
    case measure=>simp [intOf] <;> omega
  ·obtain rfl : k=n:=by omega
   have HF:=Z5 hown
   clear hown
   go_wp2_with fail
   go_ret
   exact ⟨a5,cols,rfl,HF.out,hbr⟩
end
def yC (P M : Int) (mod : Lz) (N : Int) (L : Ll) (Q : Lz) : Bool :=
 decide (dD P M mod N L Q=0) && (decide ((gD (ah P M.toNat mod).ops L Q).length=Q.length) && decide ((gD (ah P M.toNat mod).ops L Q).length=L.length))
theorem Cr (P M : Int) (am : OA) (mn cm : Nat) (mod : Lz) (N : Int) (a : OA) (n c : Nat) (L : Ll) (ao : OA) (no co : Nat) (Q : Lz) (w : World)
  (hmod : Ints w am mn mod) (hi : ch w a n L) (hq : Ints w ao no Q) :
  Calls prog 167 #[.agg #[.int .i64 P,.int .i64 M,.slice am mn cm,.int .i64 N,.slice a n c],.slice ao no co] w
   λe w'=>e = .returned (.tuple #[.bool (yC P M mod N L Q),.int .i64 (dD P M mod N L Q)])/\NS w w':=by
 have hql:=hq.len;have hil:=hi.len;go_enter func167,ntmps167;go_wp2_with fail;obtain ⟨W,hW⟩ : ∃W : World,W=w.alloc (.cells #[.int .i64 P,.int .i64 M,.slice am mn cm,.int .i64 N,.slice a n c] 27):=⟨_,rfl⟩
 rw [<- hW];have hbW : NS w W:=by rw [hW];exact aw _ _
 have x0 : aZ W w.heap.size [.int .i64 P,.int .i64 M,.slice am mn cm,.int .i64 N,.slice a n c]:=by rw [hW];exact Nj _ _ _ rfl
 have HX:=Z5 x0;clear hW x0;refine (Ea P M am mn cm mod N a n c L ao no co Q W (hmod.aa hbW) (hi.aa hbW) (hq.aa hbW)).mono ?_;rintro e w1 ⟨hb1,⟨hE,rfl⟩ | ⟨hE,rfl⟩⟩
 ·have HV : Hid (yC P M mod N L Q=false):=by show _=_;unfold yC;rw [Jn hE];rfl
  have hE1 : (dD P M mod N L Q == 0)=false:=by simpa using hE
  have hbw1:=Nh hbW hb1;clear hE hql hil;go_wp2_with fail;go_ret2;exact ⟨by rw [HV.out];rfl,hbw1⟩
 ·have HV : Hid (yC P M mod N L Q=(decide ((gD (ah P M.toNat mod).ops L Q).length=no) && decide ((gD (ah P M.toNat mod).ops L Q).length=n))):=by show _=_;unfold yC;rw [Jm hE,hql,hil];rfl
  have hbw1:=Nh hbW hb1;have xU:=HX.out.aa hb1;have b4:=xU.cell 4 rfl;have HE:=Z5 hE;clear hE hql hil xU;obtain ⟨r,hr⟩ : ∃r,(gD (ah P M.toNat mod).ops L Q).length=r:=⟨_,rfl⟩
  rw [hr] at HV ⊢;clear hr;by_cases h1 : r=no
  ·subst h1;have h1' : ((r : Int) == r)=true:=by simp
   by_cases h2 : r=n
   ·subst h2;have HV2 : Hid (yC P M mod N L Q=true):=by show _=_;rw [HV.out];simp
    clear HV;go_wp2_with fail;go_ret2;exact ⟨by rw [HV2.out,HE.out];rfl,hbw1⟩
   ·have h2' : ((r : Int) == n)=false:=by simp only [beq_eq_false_iff_ne,ne_eq];omega
    have HV2 : Hid (yC P M mod N L Q=false):=by show _=_;rw [HV.out];simp [h2]
    clear h2 HV;go_wp2_with fail;go_ret2;exact ⟨by rw [HV2.out,HE.out];rfl,hbw1⟩
  ·have h1' : ((r : Int) == no)=false:=by simp only [beq_eq_false_iff_ne,ne_eq];omega
   have HV2 : Hid (yC P M mod N L Q=false):=by show _=_;rw [HV.out];simp [h1]
   clear h1 HV;go_wp2_with fail;go_ret2;exact ⟨by rw [HV2.out,HE.out];rfl,hbw1⟩
theorem vk (pb : Nat) (a : OA) (n c : Nat) (L : Ll) (i : Nat) (w : World) (p5 : w.cell? ⟨pb,5,none⟩=some (.slice a n c)) (hi : ch w a n L) (hL : ∀r ∈ L,i<r.length) (hn : n<=1000000) :
  Calls prog 269 #[.pointer (some ⟨pb,0,none⟩),.int .i64 i] w (dh w (bs L i)):=by
 have Hlen:=Z5 hi.len;have hpl:=hi.pl;have HL:=Z5 hL;clear hL;go_enter func269,ntmps269;go_wp2_with (at_make;refine cC rfl _ _ 22 3 rfl (.int .i64 0) 8 underlying22 ba rfl n rfl rfl (by omega) (by unfold maxLen;omega) ?_;intro a1 w1 hown hbel hge hlt;have c5 : w1.cell? ⟨pb,5,none⟩=some (.slice a n c):=aB hbel p5);have hbw : NS w w1:=hbel;have hown1 : w1.ownsRow w.heap.size 3 1 (.slice a1 n n) n (List.replicate n (.int .i64 0)):=hown;clear hown hbel;go_loopw [21] (λiv wr=>∃k : Nat,k<=n/\iv = .int .i64 k /\
   wr.ownsRow w.heap.size 3 1 (.slice a1 n n) n ((cU ((bs L i).take k) k n).map (Value.int .i64))/\NS w wr)
  (λi _=>n - (intOf i).toNat)
 case atStart=>exact ⟨0,I7 _,rfl,by simpa [cU] using hown1,hbw⟩
 case round =>
  obtain ⟨k,hk,rfl,hown,hbel⟩:=hrel
  obtain ⟨hints,hmine⟩:=Ni hown
  have hpl1:=hints.pl
  by_cases hlt : k<n
  ·obtain ⟨ra,rn,rc,hcell,hrow⟩:=(hi.aa hbel).cell k hlt
   have hkL : k<L.length:=by rw [Hlen.out];exact hlt
   have hri : i<rn:=by rw [<- hrow.len,aE hkL];exact HL.out _ (JA hkL)
   have ci:=hrow.cell i hri
   have hpr:=hrow.pl
   have hf:=(hmine (by omega)).2 k hlt
   have hc2:=hints.cell k hlt
   have hB:=(hmine (by omega)).1
   have Hv:=Z5 (dX L i k hkL)
   go_wp2_with fail
   go_roundw
   case rel =>
    refine ⟨k+1,by omega,by go_num,?_,hbel.setCell hB _⟩
    have h:=bT hown k hlt (.int .i64 (nth (an L k) i))
    rw [<- Jq,eO _ _ _ _ (by rw [Jy,cQ];omega) hlt] at h
    rw [Ja (by rw [cQ];omega),<- ai,Hv.out]
    exact h
   case measure=>simp [intOf] <;> omega
  ·obtain rfl : k=n:=by omega
   have hl : (bs L i).length=k:=by rw [cQ];exact Hlen.out
   rw [fy,I8 (by omega)] at hown
   have Hl:=Z5 hl
   clear hl
   go_wp2_with fail
   go_ret
   exact ⟨a1,k,by rw [Hl.out];rfl,by rw [Hl.out];exact hown,hbel⟩
theorem mO {w : World} {b : Nat} {G : cW} (pb : Nat) (a : OA) (n c : Nat) (L : Ll) (m : Nat) (ao : OA) (no co : Nat) (Q : Lz) (most : Nat)
  (p0 : w.cell? ⟨pb,0,none⟩=some (.pointer (some ⟨b,0,none⟩))) (p5 : w.cell? ⟨pb,5,none⟩=some (.slice a n c))
  (h : dT w b G) (hi : ch w a n L) (hR : cw G.El m L) (hq : Ints w ao no Q) (hQ : ∀k,k<no->0<=nth Q k/\nth Q k<m) (hn : n<=1000000) (hno : no<=1000000) :
  Calls prog 261 #[.pointer (some ⟨pb,0,none⟩),.slice ao no co,.int .i64 most] w (dh w (sl G.ops L Q most)):=by
 have Hlen:=Z5 hi.len;have HR:=Z5 hR;have HQ:=Z5 hQ;have Hql:=Z5 hq.len;have hplq:=hq.pl;have hcl:=Z5 (NA h);have HP:=Z5 (λ(V : World) (hV : NS w V)=>aB hV p5);clear hR hQ;go_enter func261,ntmps261;go_wp2_with fail;obtain ⟨V,hV⟩ : ∃V : World,V=w.alloc (.cells #[.pointer (some ⟨b,0,none⟩),.slice none 0 0,.slice none 0 0] 260):=⟨_,rfl⟩
 rw [<- hV];have hbV : NS w V:=by rw [hV];exact aw _ _
 have hB0 : mL V w.heap.size w.heap.size b none 0 [] none 0 ⟨[],[]⟩:=mL.start (IZ _) (by rw [hV];exact Nj _ _ _ rfl);clear hV p0 p5;go_loopw [8,19] (λqv iv wr=>∃(k : Nat) (aq : OA) (cq : Nat) (out : Lz) (s : BS) (ar : OA) (cr : Nat) (R : La) (ap : OA) (cp : Nat),k<=no/\iv = .int .i64 k/\qv = .slice aq out.length cq /\
   Hid (bU G.ops L Q k=(s,out))/\mL wr w.heap.size w.heap.size b ar cr R ap cp s/\wr.ownsRow w.heap.size 3 1 (.slice aq out.length cq) out.length (out.map (Value.int .i64))/\Hid (aq ≠ none->¬ qH w.heap.size ar R ap (aj aq)) /\
   NS w wr/\Hid (s.Ok G.El n)/\s.rows.length<=k/\out.length<=k/\Hid (out.length<=most))
  (λ_ iv _=>no - (intOf iv).toNat)
 case atStart=>exact ⟨0,none,0,[],⟨[],[]⟩,none,0,[],none,0,I7 _,rfl,rfl,rfl,hB0,bX,λh0=>absurd rfl h0,hbV,⟨λr hr=>by simp at hr,rfl,λi hi=>by simp at hi⟩,I7 _,I7 _,I7 _⟩
 case round =>
  obtain ⟨k,aq,cq,out,s,ar,cr,R,ap,cp,hk,rfl,rfl,hst,hBr,hop,hdq,hbr,hok,hsk,hok2,hom⟩:=hrel
  generalize wr=U at *
  by_cases hlt : k<no
  ·have cq1:=(hq.aa hbr).cell k hlt
   have hQk:=HQ.out k hlt
   obtain ⟨i,hik⟩ : ∃i : Nat,nth Q k=i:=⟨(nth Q k).toNat,by omega⟩
   rw [hik] at cq1 hQk
   by_cases hmo : out.length=most
   ·have Ho : Hid (sl G.ops L Q most=out):=by show _=_;have h1:=ET (O:=G.ops) (L:=L) (Q:=Q) (k:=k) (most:=most) (by rw [Hql.out];exact hk) (by rw [hst.out];exact hmo);rw [h1,hst.out]
    have hd : ((out.length : Int) == (most : Int))=true:=by simp;omega
    clear hmo
    go_wp2_with fail
    go_ret
    exact ⟨aq,cq,by rw [Ho.out];rfl,by rw [Ho.out];exact hop,hbr⟩
   have hd : ((out.length : Int) == (most : Int))=false:=by simp;omega
   have Hom : Hid (out.length+1<=most):=by have:=hom.out;show _<=_;omega
   have him : i<m:=by omega
   have p5:=HP.out U hbr
   have hcol:=A8 HR.out him
   rw [Hlen.out] at hcol
   have hstep : bU G.ops L Q (k+1)=(s.next G.ops (bs L i),if s.dz G.ops (bs L i)=true then out ++ [(i : Int)] else out):=by rw [bU,hst.out,hik,Jd]
   have Hstep:=Z5 hstep
   have Hcol:=Z5 hcol
   clear hstep hcol hik hmo
   go_wp2_with fail
   refine (vk pb a n c L i U p5 (hi.aa hbr) (λr hr=>by rw [(HR.out r hr).1];exact him) hn).mono ?_
   rintro e w3 ⟨a3,c3,rfl,hown3,hb3⟩
   rw [Hcol.out.1] at hown3
   rw [Hcol.out.1]
   have hB3:=hBr.aa hb3
   have hbw3:=Nh hbr hb3
   have hn3 : a3 ≠ none->¬ qH w.heap.size ar R ap (aj a3):=λh0 hI=>by have h1:=(aM hown3 h0).1;have h2:=(hBr.lt _ hI).2;omega
   clear p5
   go_wp2_with fail
   refine (B5 w.heap.size ar cr R ap cp s a3 c3 n (bs L i) h hbw3 hB3 hok.out (aU hown3 hbr.size) hn3 Hcol.out.2 hn (by omega)).mono ?_
   rintro e w4 ⟨ar',cr',R',ap',cp',rfl,hB4,hM4⟩
   have hbw4 : NS w w4:=hbw3.trans (hM4.below (λx hx=>by
    rcases hx with h1 | ⟨h1,h2⟩
    ·exact (hB3.lt x h1).1
    ·rw [h2];exact Ji hbr.size (aM hown3 h1).1) hbw3.size)
   have hop3:=aX hop hb3
   have hnI : aq ≠ none->¬ (qH w.heap.size ar R ap (aj aq)\/(a3 ≠ none/\aj aq=aj a3)):=λh0 hI=>by
    rcases hI with h1 | ⟨h1,h2⟩
    ·exact hdq.out h0 h1
    ·have e1:=(aM hop h0).2;have e2:=(aM hown3 h1).1;omega
   have hop4:=hM4.own hop3 hnI
   have hdq4 : aq ≠ none->¬ qH w.heap.size ar' R' ap' (aj aq):=λh0=>hM4.not (aM hop3 h0).2 (hnI h0)
   have hok4 : (s.next G.ops (bs L i)).Ok G.El n:=BS.Ok.next hcl.out hok.out Hcol.out
   have hlen4:=BS.vZ G.ops s (bs L i)
   have Hok4:=Z5 hok4
   have Hdq4:=Z5 hdq4
   clear hnI hdq4 hok4
   by_cases ht : s.dz G.ops (bs L i)=true
   ·rw [ht]
    have Hst : Hid (bU G.ops L Q (k+1)=(s.next G.ops (bs L i),out ++ [(i : Int)])):=by show _=_;rw [Hstep.out,I6 ht]
    clear ht
    generalize s.next G.ops (bs L i)=s' at *
    have hcn:=bk w4 (.int .i64 i) 3
    have hbn:=aw w4 (.cells #[.int .i64 i] 3)
    have hsz4:=hbw4.size
    go_wp2_with (at_builtin;refine bg rfl _ _ 22 3 rfl (.int .i64 0) 8 underlying22 ba rfl w.heap.size aq out.length cq _ rfl (hop4.alloc _) ⟨w4.heap.size,0,none⟩ 1 (.int .i64 i) rfl hcn rfl (by omega) (by unfold maxLen;omega) (by simp;omega) ?_;intro a5 c5 w5 hown5 hgr5 hap5)
    go_roundw
    case rel =>
     have hBn:=hB4.aa hbn
     have haq : ∀x,qH w.heap.size ar' R' ap' x->cJ aq x:=λx hx=>by
      by_cases h0 : aq=none
      ·exact .inl h0
      ·exact .inr λe=>Hdq4.out h0 (e ▸ hx)
     have hB5 : mL w5 w.heap.size w.heap.size b ar' cr' R' ap' cp' s':=hBn.bj λx hx=>hgr5.block x (hBn.lt x hx).2 λe=>(haq x hx).own _ _ e.symm
     have hb5 : NS w w5:=Nk (Ju hbw4 (hbn.mono hsz4)) (hop4.alloc _) hgr5 (IZ _) (Ji hsz4 hbn.size)
     refine ⟨k+1,a5,c5,out ++ [(i : Int)],s',ar',cr',R',ap',cp',by omega,by go_num,by simp,Hst.out,hB5,?_,?_,hb5,Hok4.out,by omega,by simp;omega,?_⟩
     ·simpa using hown5
     ·show a5 ≠ none->_
      intro h0 hI
      rcases hap5 _ (hBn.lt _ hI).2 (haq _ hI) with h1 | h1
      ·exact h0 h1
      ·exact h1 rfl
     ·show _<=_
      rw [Jh];exact Hom.out
    case measure=>simp [intOf] <;> omega
   ·have ht' : s.dz G.ops (bs L i)=false:=by simpa using ht
    rw [ht']
    have Hst : Hid (bU G.ops L Q (k+1)=(s.next G.ops (bs L i),out)):=by show _=_;rw [Hstep.out,I5 ht]
    clear ht ht'
    generalize s.next G.ops (bs L i)=s' at *
    go_wp2_with fail
    go_roundw
    case rel=>exact ⟨k+1,aq,cq,out,s',ar',cr',R',ap',cp',by omega,by go_num,rfl,Hst.out,hB4,hop4,Hdq4.out,hbw4,Hok4.out,by omega,by omega,hom.out⟩
    case measure=>simp [intOf] <;> omega
  ·obtain rfl : k=no:=by omega
   have Ho : Hid (sl G.ops L Q most=out):=by show _=_;have h1:=Fb (O:=G.ops) (L:=L) (Q:=Q) (most:=most) (by rw [Hql.out,hst.out];exact hom.out);rw [h1,Hql.out,hst.out]
   go_wp2_with fail
   go_ret
   exact ⟨aq,cq,by rw [Ho.out];rfl,by rw [Ho.out];exact hop,hbr⟩
section
open Go.RowKit
end
theorem jP {P M : Int} {mod : Lz} {m : Nat} {D : Ll} (hfB : bp P M mod=true) (hm : m<=256) (hD : D.length<=256) (hR : cw (ah P M.toNat mod).El m D) : fI P M mod m D=0:=by
 unfold fI;rw [I6 hfB];unfold eW;rw [I5 (by omega)];have hsh : kg (m : Int) D=true:=by unfold kg;rw [JO];intro r hr;have:=(hR r hr).1;simp;omega
 rw [I5 (by rw [hsh];decide),I6];rw [JO];intro r hr;unfold iM jj;rw [JO];intro x hx;have:=(hR r hr).2 x hx;unfold cW.El at this;simp;exact this
def eD (D U : Ll) : Ll:=List.zipWith (λr s=>r ++ s) D U
theorem kn {k : Nat} : ∀ {D U : Ll},D.length=U.length->(∀r ∈ D,r.length=k)->(eD D U).map (List.take k)=D
 | [],[],_,_=>rfl
 | [],_ :: _,h,_=>by simp at h
 | _ :: _,[],h,_=>by simp at h
 | r :: D,u :: U,h,hr=>by have ih:=kn (k:=k) (D:=D) (U:=U) (by simpa using h) λx hx=>hr x (J3 _ hx);unfold eD at ih ⊢;rw [Kt,Ke,ih];have:=hr r (J4 ..);rw [<- this,M7];rfl
theorem mK {k : Nat} : ∀ {D U : Ll},D.length=U.length->(∀r ∈ D,r.length=k)->(eD D U).map (List.drop k)=U
 | [],[],_,_=>rfl
 | [],_ :: _,h,_=>by simp at h
 | _ :: _,[],h,_=>by simp at h
 | r :: D,u :: U,h,hr=>by have ih:=mK (k:=k) (D:=D) (U:=U) (by simpa using h) λx hx=>hr x (J3 _ hx);unfold eD at ih ⊢;rw [Kt,Ke,ih];have:=hr r (J4 ..);rw [<- this,List.drop_left'];rfl
theorem jX {El : Int->Prop} {k m : Nat} : ∀ {D U : Ll},cw El k D->cw El m U->cw El (k+m) (eD D U)
 | [],_,_,_=>λr hr=>by simp [eD] at hr
 | _ :: _,[],_,_=>λr hr=>by simp [eD] at hr
 | d :: D,u :: U,hD,hU=>by
  have ih:=jX (D:=D) (U:=U) (λr hr=>hD r (J3 _ hr)) (λr hr=>hU r (J3 _ hr));intro r hr;unfold eD at hr ih;rw [Kt] at hr;rcases List.mem_cons.1 hr with rfl | hr
  ·have h1:=hD d (J4 ..);have h2:=hU u (J4 ..);refine ⟨by rw [Jh,h1.1,h2.1],λx hx=>?_⟩;rcases List.mem_append.1 hx with hx | hx
   ·exact h1.2 x hx
   ·exact h2.2 x hx
  ·exact ih r hr
theorem nO {El : Int->Prop} (h0 : El 0) (h1 : El 1) (n : Nat) : cw El n (dH n):=λr hr=>by
 unfold dH at hr;obtain ⟨i,_,rfl⟩:=List.mem_map.1 hr;refine ⟨fF n i,λx hx=>?_⟩;unfold ez at hx;rcases K0 hx with hx | rfl
 ·rw [KG hx];exact h0
 ·exact h1
def jE (O : aS) (D : Ll) (k : Nat) : Ll:=(aD O (eD D (dH k)) k).1.map (List.drop k)
theorem Eu (O : aS) {D : Ll} {k : Nat} (h : D.length=k) : (jE O D k).length=k:=by unfold jE;rw [Jl,b9];simp [eD,bV,h]
theorem wB (P M : Int) (am : OA) (mn cm : Nat) (mod : Lz) (k : Nat) (a : OA) (c : Nat) (D : Ll) (w : World) (hmod : Ints w am mn mod) (hi : ch w a k D)
  (hB : bp P M mod=true) (hR : cw (ah P M.toNat mod).El k D) (hk : k<=64) (hpv : (aD (ah P M.toNat mod).ops (eD D (dH k)) k).2.length=k) :
  Calls prog 168 #[.agg #[.int .i64 P,.int .i64 M,.slice am mn cm],.agg #[.int .i64 k,.slice a k c]] w
   λe w'=>∃a1 c1,e = .returned (.tuple #[.agg #[.int .i64 k,.slice a1 k c1],.int .i64 0])/\cH w.heap.size w' a1 k (jE (ah P M.toNat mod).ops D k)/\NS w w':=by
 have hDl:=hi.len;have F:=fq hB;have hmE : eW (ah P M.toNat mod).q k D=0:=by have h:=jP hB (show k<=256 by omega) (show D.length<=256 by omega) hR;exact (fo h).2
 have hJr:=jX hR (nO F.zero F.one k);have hJt:=kn (U:=dH k) (by rw [bV];exact hDl) (λr hr=>(hR r hr).1);have hJd:=mK (U:=dH k) (by rw [bV];exact hDl) (λr hr=>(hR r hr).1);have hpla:=hi.pl;have HDr : Hid (∀l ∈ D,l.length<=1000000):=λl hl=>by rw [(hR l hl).1];omega
 obtain ⟨G,hGG⟩ : ∃G,ah P M.toNat mod=G:=⟨_,rfl⟩
 unfold jE;obtain ⟨J,hJ⟩ : ∃J,eD D (dH k)=J:=⟨_,rfl⟩
 rw [hGG,hJ] at hpv hJr;rw [hJ] at hJt hJd;rw [hGG,hJ];have HJ:=Z5 (Jg hJr (Jg hJt hJd));have Hpv:=Z5 hpv;have HDl:=Z5 hDl;have HGG:=Z5 hGG;have HB:=Z5 hB;have HmE:=Z5 hmE;clear hJr hJt hJd hpv hDl hGG F hR hJ hB hmE;go_enter func168,ntmps168;go_wp2_with fail;obtain ⟨W,hW⟩ : ∃W : World,W=((((w.alloc (.cells #[.int .i64 P,.int .i64 M,.slice am mn cm] 24)).alloc (.cells #[.int .i64 k,.slice a k c] 82)).alloc (.cells #[.int .i64 0,.slice none 0 0] 82)).alloc (.cells #[.int .i64 k,.slice a k c] 82)):=⟨_,rfl⟩
 rw [<- hW];have hbW : NS w W:=by rw [hW];exact ((((I1 _ _).alloc (IZ _) _).alloc (by simp) _).alloc (by simp;omega) _).alloc (by simp;omega) _
 have hsW : W.heap.size=w.heap.size+4:=by rw [hW];simp
 have x1 : aZ W (w.heap.size+1) [.int .i64 k,.slice a k c]:=by rw [hW];exact ((Nj _ _ _ (by simp)).alloc _).alloc _
 have x2 : aZ W (w.heap.size+1+1) [.int .i64 0,.slice none 0 0]:=by rw [hW];exact (Nj _ _ _ (by simp)).alloc _
 have q3 : W.cell? ⟨w.heap.size+1+1+1,0,none⟩=some (.int .i64 k)/\W.cell? ⟨w.heap.size+1+1+1,1,none⟩=some (.slice a k c):=by rw [hW];exact ⟨aG _ _ _ (by simp) 0,aG _ _ _ (by simp) 1⟩
 have hMs : yh W (some ⟨w.heap.size+1+1+1,0,none⟩) 1 [((k : Int),D)]:=⟨rfl,λ_=>rfl,by unfold maxLen;omega,λi hi'=>by
  have : i=0:=by simp at hi';omega
  subst this;exact ⟨a,k,c,by simpa using q3.1,by simpa using q3.2,hi.aa hbW⟩⟩
 have HX:=Z5 (Jg x1 x2);have HsW:=Z5 hsW;have HbW:=Z5 hbW;clear hW hsW x1 x2 q3;refine (nj P M am mn cm mod _ 1 1 _ W (hmod.aa hbW) hMs).mono ?_;rintro e w1 ⟨hb1,hcase⟩;rw [lJ] at hcase;rcases hcase with ⟨hB,_⟩ | ⟨_,er,h0,h1,_⟩ | ⟨_,_,b,rfl,hG,hbl⟩
 ·rw [HB.out] at hB;exact absurd hB (by decide)
 ·rw [HmE.out] at h1;exact absurd h1.symm h0
 rw [HGG.out] at hG;have hbw1:=Nh hbW hb1;have r1:=HX.out.1.aa hb1;have m0:=r1.cell 0 rfl;have m1:=r1.cell 1 rfl;have hkk : ((k : Int) != k)=false:=by simp
 have hi1:=hi.aa hbw1;clear hMs hbW r1 hbl hmod hi;go_wp2_with fail;refine (Dg k w1 (by omega)).mono ?_;rintro e w2 ⟨ae,ce,S,rfl,hOu,hb2⟩;rw [bV] at hOu ⊢;have HS : Hid (∀V,NS w2 V->V.cell? ⟨w.heap.size+1,0,none⟩=some (.int .i64 k)/\V.cell? ⟨w.heap.size+1,1,none⟩=some (.slice a k c)):=λV hV=>by have r2:=HX.out.1.aa (Nh (Nh hb1 hb2) hV);exact ⟨r2.cell 0 rfl,r2.cell 1 rfl⟩
 have Hcl : Hid (∀V,NS w2 V->Calls prog 213 #[.slice a k c] V λe w'=>∃a1 c1 R,e = .returned (.slice a1 k c1)/\aP w' V.heap.size a1 k c1 R D/\NS V w'):=λV hV=>by refine (tq a k c D (hi1.aa (Nh hb2 hV)) (by omega) HDr.out).mono ?_;rintro e w' ⟨a1,c1,R,rfl,h1,h2⟩;rw [HDl.out] at h1 ⊢;exact ⟨a1,c1,R,rfl,h1,h2⟩
 have Hel : Hid (∀V V2 a1 c1 R,NS w2 V->aP V2 V.heap.size a1 k c1 R D->NS V V2->∀V3,NS V2 V3 ->
   Calls prog 214 #[.pointer (some ⟨b,0,none⟩),.slice a1 k c1,.int .i64 k,.slice ae k ce] V3 λe w'=>∃ap cp d,e = .returned (.tuple #[.slice ap k cp,.int .i64 d]) /\
    cH w1.heap.size w' ae k ((aD G.ops J k).1.map (List.drop k))/\NS w1 w'):=λV V2 a1 c1 R hV hO hV2 V3 hV3=>by
  have hb13 : NS w1 V3:=Nh (Nh hb2 hV) (Nh hV2 hV3);have hsz2:=hb2.size;have hszV:=hV.size;have hO2 : dM V3 w1.heap.size a1 k c1 R ae ce S k J:=by refine ⟨by rw [HJ.out.2.1];exact (hO.aa hV3).mono (by omega),by rw [HJ.out.2.2];exact (hOu.aa (Nh hV (Nh hV2 hV3))),λx hx hx2=>?_⟩;have h1:=(hO.lt x hx).1;have h2:=(hOu.lt x hx2).2;omega
  refine (qK w1 a1 k c1 k k (k+k) R ae ce S J hG hb13 hO2 HJ.out.1 (IZ _) (by omega) (by omega) (by omega)).mono ?_;rintro e w' ⟨R',S',ap,cp,d,rfl,hO',_,_,hb'⟩;exact ⟨ap,cp,d,by rw [Hpv.out],NG hO'.om2,hb'⟩
 obtain ⟨k0,k1⟩:=HS.out w2 (I1 _ _);have HbW1:=Z5 (Jg hb1 hbw1);clear hOu hi1 hG m0 m1 hb1 hbw1;go_wp2_with fail;go_cut [9] (λv wx=>∃ap cp,v = .slice ap k cp/\cH w1.heap.size wx ae k ((aD G.ops J k).1.map (List.drop k))/\NS w1 wx);case first =>
  go_region_law ((first
   | (go_simp;go_at_call 213;((with_reducible refine (Hcl.out _ (I1 _ _).drew).mono ?_);rintro e w4 ⟨a4,c4,R4,rfl,hO4,hb4⟩;obtain ⟨k0,k1⟩:=HS.out w4 (Nh (I1 _ _).drew hb4)))
   | (go_simp;go_at_call 214;((with_reducible refine (Hel.out _ w4 a4 c4 R4 (I1 _ _).drew hO4 hb4 _ (by first | exact I1 _ _ | exact (I1 _ _).drew)).mono ?_);rintro e w5 ⟨ap,cp,d,rfl,hM5,hb5⟩))))
  all_goals (
   go_wp2_with fail
   go_meet
   exact ⟨ap,cp,rfl,hM5,hb5⟩)
 obtain ⟨ap,cp,rfl,hM,hbc⟩:=hcut;generalize wc=U at *;have r2:=HX.out.1.aa (Nh HbW1.out.1 hbc);have k0':=r2.cell 0 rfl;have z6:=HX.out.2.aa (Nh HbW1.out.1 hbc);have z0:=z6.cell 0 rfl;have z1:=z6.cell 1 rfl;have f0:=z6.frozen 0;have f1:=z6.frozen 1;have hs:=HsW.out;have hs1:=HbW1.out.1.size;have HF:=Z5 (Jg (((hM.setCell (p:=⟨w.heap.size+1+1,0,none⟩) (by simp;omega) (.int .i64 k)).setCell (p:=⟨w.heap.size+1+1,1,none⟩) (by simp;omega) (.slice ae k ce)).mono (show w.heap.size<=w1.heap.size by omega))
  (((Nh HbW1.out.2 hbc).setCell (p:=⟨w.heap.size+1+1,0,none⟩) (by simp;omega) (.int .i64 k)).setCell (p:=⟨w.heap.size+1+1,1,none⟩) (by simp;omega) (.slice ae k ce)))
 clear hM z6 r2 k0 k1 HS Hcl Hel;go_wp2_with fail;exact bodyPost_ret (v:=.tuple #[.agg #[.int .i64 k,.slice ae k ce],.int .i64 0]) (by simp [results,results168,go_sem,z0,z1]) rfl ⟨ae,ce,rfl,HF.out.1,HF.out.2⟩
section
open Go.RowKit
end
def pG (O : aS) (L : Ll) (Q : Lz) : Bool:=decide (Q.length=L.length) && decide ((gD O L Q).length=Q.length)
theorem nQ {b : Bool} {U V : Lz} (h : ∀x,x ∈ U ↔ x ∈ V) : ∀k,bz b U k=bz b V k
 | 0=>rfl
 | k+1=>by
  rw [bz,bz,nQ h k];by_cases h1 : (k : Int) ∈ U
  ·simp [h1,(h k).1 h1]
  ·have h2 : ¬ (k : Int) ∈ V:=λh2=>h1 ((h k).2 h2);simp [h1,h2]
theorem CV {m : Nat} {U V : Lz} (h : ∀x,x ∈ U ↔ x ∈ V) : eB m U=eB m V:=by rw [eB,eB,nQ h,nQ h]
theorem wK {U V : Lz} (h : ∀x,x ∈ U ↔ x ∈ V) (S : Lz) : ∀k,dn U S k=dn V S k
 | 0=>rfl
 | k+1=>by
  rw [dn,dn,wK h S k];by_cases h1 : nth S k ∈ U
  ·rw [I6 h1,I6 ((h _).1 h1)]
  ·rw [I5 h1,I5 λh2=>h1 ((h _).2 h2)]
theorem DW {O : aS} {L : Ll} {m : Nat} {U V : Lz} (h : ∀x,x ∈ U ↔ x ∈ V) : cG O L m U=cG O L m V:=by rw [cG,cG,CV h]
theorem sU {O : aS} {L : Ll} {m : Nat} : ∀(f : Nat) {U V : Lz} (_ : ∀x,x ∈ U ↔ x ∈ V) (T : List (Lz × Int)),ga O L m f U T=ga O L m f V T
 | 0,_,_,_,_=>rfl
 | f+1,U,V,h,T=>by
  rw [ga,ga,DW h,wK h];split
  ·rfl
  ·exact sU f (λx=>by rw [JM,JM,h x]) _
theorem i9 (U S : Lz) : ∀k,k<=S.length->dn U S k=((S.take k).countP λx=>decide (¬ x ∈ U) : Nat)
 | 0,_=>by simp [dn]
 | k+1,h=>by
  rw [dn,i9 U S k (by omega),Ja (by omega),KL,ai (by omega)];by_cases h1 : S[k] ∈ U
  ·simp [h1]
  ·simp [h1]
theorem tE {U S S' : Lz} (h : S.Perm S') : dn U S S.length=dn U S' S'.length:=by rw [i9 _ _ _ (IZ _),i9 _ _ _ (IZ _),I8 (IZ _),I8 (IZ _),h.countP_eq]
theorem CC (U S : Lz) : dn U (bA S) S.length=dn U S S.length:=by have h:=tE (U:=U) (dc S);rwa [dy] at h
def eT (U S : Lz) : Nat->Lz
 | 0=>U
 | k+1=>if nth S k ∈ eT U S k then eT U S k else eT U S k ++ [nth S k]
theorem lr {U S : Lz} {x : Int} : ∀k,k<=S.length->(x ∈ eT U S k ↔ x ∈ U\/x ∈ S.take k)
 | 0,_=>by simp [eT]
 | k+1,h=>by
  have ih:=lr (U:=U) (S:=S) (x:=x) k (by omega);have e : S.take (k+1)=S.take k ++ [nth S k]:=by rw [Ja (by omega),ai (by omega)]
  rw [eT,e];split
  ·rename_i h1;rw [ih,JM,JN];constructor
   ·rintro (h2 | h2)
    ·exact .inl h2
    ·exact .inr (.inl h2)
   ·rintro (h2 | h2 | h2)
    ·exact .inl h2
    ·exact .inr h2
    ·rw [h2];exact (lr k (by omega)).1 h1
  ·rw [JM,ih,JM];constructor
   ·rintro ((h2 | h2) | h2)
    ·exact .inl h2
    ·exact .inr (.inl h2)
    ·exact .inr (.inr h2)
   ·rintro (h2 | h2 | h2)
    ·exact .inl (.inl h2)
    ·exact .inl (.inr h2)
    ·exact .inr h2
theorem oY {U S : Lz} (hU : U.Nodup) : ∀k,(eT U S k).Nodup
 | 0=>hU
 | k+1=>by
  have ih:=oY (S:=S) hU k;rw [eT];split
  ·exact ih
  ·rename_i h;rw [J2];exact ⟨ih,by simp,λx hx y hy=>by rw [JN] at hy;subst hy;exact λe=>h (e ▸ hx)⟩
theorem Ci {U S : Lz} {x : Int} : x ∈ eT U S S.length ↔ x ∈ U\/x ∈ S:=by rw [lr _ (IZ _),I8 (IZ _)]
theorem jW (b : Bool) (U : Lz) : ∀k,(bz b U k).Pairwise (λx y=>x<y)
 | 0=>List.Pairwise.nil
 | k+1=>by
  have ih:=jW b U k;rw [bz];split
  ·rw [List.pairwise_append];refine ⟨ih,by simp,λx hx y hy=>?_⟩;rw [JN] at hy;obtain ⟨j,hj,rfl,_⟩:=(ew k).1 hx;omega
  ·exact ih
theorem tw {m : Nat} {U : Lz} (hn : U.Nodup) (hU : ∀x ∈ U,0<=x/\x<(m : Int)) : bA U=bz true U m:=by
 have h:=jW true U m;refine (j5 (h.imp λh=>by omega) ((KU (h.imp λh=>by omega) hn).2 λx=>?_)).symm;rw [ew];constructor
 ·rintro ⟨j,_,rfl,h1⟩;simpa using h1
 ·intro hx;have h1:=hU x hx;exact ⟨x.toNat,by omega,by omega,by rw [show ((x.toNat : Nat) : Int)=x by omega];simpa using hx⟩
theorem jf {m : Nat} {U : Lz} (hn : U.Nodup) (hU : ∀x ∈ U,0<=x/\x<(m : Int)) : U.length<=m:=by rw [<- dy,tw hn hU];exact gk _ _ _
theorem kR {N : Int} {A : Lz} (h : cF N A=true) : A.Nodup:=by
 refine sq λi j hij hj=>?_;have key : ∀d i,i+d<A.length->0<d->nth A i<nth A (i+d):=λd=>by
  induction d with
  | zero=>intro i _ h0;omega
  | succ d ih =>
   intro i hi _
   have h1:=(fC h hi).2.2 (by omega)
   rw [show i+(d+1) - 1=i+d by omega] at h1
   by_cases h0 : d=0
   ·subst h0;exact h1
   ·have:=ih i (by omega) (by omega);omega
 have:=key (j - i) i (by omega) (by omega);rw [show i+(j - i)=j by omega] at this;omega
section
variable {O : aS} {El : Int->Prop} {m : Nat} {L : Ll}
theorem Eg (F : dw O El) (hL : cw El m L) {Q Q' : Lz} (h : Q.Perm Q') : pG O L Q=pG O L Q':=by have h1:=Dl F hL h;unfold pN at h1;rw [pG,pG,h1,h.length_eq]
end
theorem tf (U : Lz) (k : Nat) : bz false U (k+1)=if decide ((k : Int) ∈ U)=false then bz false U k ++ [(k : Int)] else bz false U k:=rfl
theorem sF (pb m : Nat) (sa : OA) (ns cs : Nat) (s : Lz) (az : OA) (nz cz : Nat) (z : Lz) (w : World) (p4 : w.cell? ⟨pb,4,none⟩=some (.int .i64 m)) (hs : Ints w sa ns s) (hz : Ints w az nz z)
  (hnz : nz<=1000000) (hm : m<=1000) :
  Calls prog 262 #[.pointer (some ⟨pb,0,none⟩),.slice sa ns cs,.slice az nz cz] w (dh w (iz m s z)):=by
 have Hzl:=Z5 hz.len;have HP:=Z5 (λ(V : World) (hV : NS w V)=>aB hV p4);go_enter func262,ntmps262;go_wp2_with fail;refine (Ak az nz cz w).mono ?_;rintro e w1 ⟨rfl,rfl⟩;have hb1 : NS w (w.alloc (.cells #[.slice az nz cz] 22)):=aw _ _;have HSo:=Z5 (yV w.heap.size az nz cz z hnz (w.alloc (.cells #[.slice az nz cz] 22)) (by simp) (aG _ _ _ rfl 0) (hz.aa hb1));have hsz1 : w.heap.size<=(w.alloc (.cells #[.slice az nz cz] 22)).heap.size:=hb1.size;generalize w.alloc (.cells #[.slice az nz cz] 22)=w1 at *;go_wp2_with fail;refine HSo.out.mono ?_;rintro e w2 ⟨a2,c2,rfl,hown2,hb2⟩;have hbw2:=Nh hb1 hb2;have p4':=HP.out w2 hbw2;have hO2 : w2.ownsRow w.heap.size 3 1 (.slice a2 nz c2) nz ((bA z).map (Value.int .i64)):=aU hown2 hsz1;clear hown2 p4;go_wp2_with fail;go_loopw [7,17] (λqv iv wr=>∃(k : Nat) (aq : OA) (cq : Nat) (out : Lz),k<=m/\iv = .int .i64 k/\qv = .slice aq out.length cq/\Hid (out=bA z ++ bz false (s ++ z) k)/\Hid (out.length<=nz+k) /\
   wr.ownsRow w.heap.size 3 1 (.slice aq out.length cq) out.length (out.map (Value.int .i64))/\NS w wr)
  (λ_ iv _=>m - (intOf iv).toNat)
 case atStart =>
  refine ⟨0,a2,c2,bA z,I7 _,rfl,?_,?_,?_,?_,hbw2⟩
  ·rw [dy,Hzl.out]
  ·show _=_;simp [bz]
  ·show _<=_;rw [dy,Hzl.out];omega
  ·rw [dy,Hzl.out];exact hO2
 case round =>
  obtain ⟨k,aq,cq,out,hk,rfl,rfl,hst,hln,hop,hbr⟩:=hrel
  generalize wr=U at *
  by_cases hlt : k<m
  ·have hsU:=hs.aa hbr
   have hzU:=hz.aa hbr
   have hlen:=hln.out
   have Hskip : Hid (((k : Int) ∈ s ++ z)->out=bA z ++ bz false (s ++ z) (k+1)):=λhmem=>by rw [tf,I5 (by rw [Jm hmem];decide)];exact hst.out
   have Htake : Hid (¬ ((k : Int) ∈ s ++ z)->out ++ [(k : Int)]=bA z ++ bz false (s ++ z) (k+1)):=λhmem=>by rw [tf,I6 (by rw [Jn hmem]),<- JQ,<- hst.out]
   by_cases h1 : (k : Int) ∈ s
   ·have hmd : decide ((k : Int) ∈ s)=true:=by simpa using h1
    have HcA:=Z5 (cN sa ns cs s k U hsU)
    rw [hmd] at HcA
    have Hst : Hid (out=bA z ++ bz false (s ++ z) (k+1)):=Hskip.out (List.mem_append.2 (.inl h1))
    clear h1 hmd
    go_wp2_with fail
    refine HcA.out.mono ?_
    rintro e w6 ⟨rfl,rfl⟩
    go_wp2_with fail
    go_roundw
    case rel=>exact ⟨k+1,aq,cq,out,by omega,by go_num,rfl,Hst.out,(show _<=_ by omega),hop,hbr⟩
    case measure=>simp [intOf] <;> omega
   ·have hmd : decide ((k : Int) ∈ s)=false:=by simpa using h1
    have HcA:=Z5 (cN sa ns cs s k U hsU)
    rw [hmd] at HcA
    by_cases h2 : (k : Int) ∈ z
    ·have hmd2 : decide ((k : Int) ∈ z)=true:=by simpa using h2
     have HcB:=Z5 (cN az nz cz z k U hzU)
     rw [hmd2] at HcB
     have Hst : Hid (out=bA z ++ bz false (s ++ z) (k+1)):=Hskip.out (List.mem_append.2 (.inr h2))
     clear h1 hmd h2 hmd2
     go_wp2_with fail
     refine HcA.out.mono ?_
     rintro e w6 ⟨rfl,rfl⟩
     go_wp2_with fail
     refine HcB.out.mono ?_
     rintro e w7 ⟨rfl,rfl⟩
     go_wp2_with fail
     go_roundw
     case rel=>exact ⟨k+1,aq,cq,out,by omega,by go_num,rfl,Hst.out,(show _<=_ by omega),hop,hbr⟩
     case measure=>simp [intOf] <;> omega
    ·have hmd2 : decide ((k : Int) ∈ z)=false:=by simpa using h2
     have HcB:=Z5 (cN az nz cz z k U hzU)
     rw [hmd2] at HcB
     have Hst : Hid (out ++ [(k : Int)]=bA z ++ bz false (s ++ z) (k+1)):=Htake.out λh=>by
      rcases List.mem_append.1 h with h | h
      ·exact h1 h
      ·exact h2 h
     have hcn:=bk U (.int .i64 k) 3
     have hbn:=aw U (.cells #[.int .i64 k] 3)
     have hszU:=hbr.size
     clear h1 hmd h2 hmd2
     go_wp2_with fail
     refine HcA.out.mono ?_
     rintro e w6 ⟨rfl,rfl⟩
     go_wp2_with fail
     refine HcB.out.mono ?_
     rintro e w7 ⟨rfl,rfl⟩
     go_wp2_with (at_builtin;refine bg rfl _ _ 22 3 rfl (.int .i64 0) 8 underlying22 ba rfl w.heap.size aq out.length cq _ rfl (hop.alloc _) ⟨w7.heap.size,0,none⟩ 1 (.int .i64 k) rfl hcn rfl (by omega) (by unfold maxLen;omega) (by simp;omega) ?_;intro a5 c5 w5 hown5 hgr5 hap5)
     go_roundw
     case rel =>
      have hb5 : NS w w5:=Nk (Ju hbr (hbn.mono hszU)) (hop.alloc _) hgr5 (IZ _) (Ji hszU hbn.size)
      refine ⟨k+1,a5,c5,out ++ [(k : Int)],by omega,by go_num,by simp,Hst.out,(show _<=_ by rw [Jh,Js];omega),?_,hb5⟩
      simpa using hown5
     case measure=>simp [intOf] <;> omega
  ·obtain rfl : k=m:=by omega
   have Ho : Hid (iz k s z=out):=by show _=_;rw [iz,hst.out]
   go_wp2_with fail
   go_ret
   exact ⟨aq,cq,by rw [Ho.out];rfl,by rw [Ho.out];exact hop,hbr⟩
section
variable {O : aS} {L : Ll} {m : Nat} {C : jg}
theorem wm {B : Lz->Lz->Ll->Int × Ll} {F : Lz->Lz->Ll->Option Ll} {s : Lz}
  (hBF : ∀s' z T T',B s' z T=(0,T')->∃X,T'=T ++ X/\∀rest,F s' z (X ++ rest)=some rest) : ∀(ks z : Lz) (T T' : Ll),eS B s z ks T=(0,T')->∃X,T'=T ++ X/\∀rest,wi F s z ks (X ++ rest)=some rest
 | [],z,T,T',h=>by
  rw [eS] at h;cases h
  exact ⟨[],by simp,λrest=>rfl⟩
 | k :: ks,z,T,T',h=>by
  rw [eS] at h;by_cases h0 : (B (s ++ [k]) z T).1=0
  ·rw [I6 h0] at h;obtain ⟨X,hX,hF⟩:=hBF (s ++ [k]) z T (B (s ++ [k]) z T).2 (by rw [<- h0]);obtain ⟨Y,hY,hK⟩:=wm hBF ks (z ++ [k]) _ T' h;refine ⟨X ++ Y,by rw [hY,hX,JQ],λrest=>?_⟩;rw [wi,JQ,hF];exact hK rest
  ·rw [I5 h0] at h;have:=congrArg Prod.fst h;exact absurd this h0
theorem AL : ∀(d : Nat) (s z : Lz) (T T' : Ll),gn O L m C d s z T=(0,T')->∃X,T'=T ++ X/\∀rest,jh O L m C d s z (X ++ rest)=some rest
 | 0,s,z,T,T',h=>by
  rw [gn] at h;split at h
  ·rename_i hr;split at h
   ·cases h
   ·cases h
    exact ⟨_,rfl,λrest=>by rw [Mo,jh,I6 hr]⟩
  ·cases h
 | d+1,s,z,T,T',h=>by
  rw [gn] at h;split at h
  ·rename_i hr;split at h
   ·cases h
   ·obtain ⟨X,hX,hF⟩:=wm (AL d) _ _ _ _ h;exact ⟨eg O L m C s z :: X,by rw [hX];simp,λrest=>by rw [Kn,jh];(try dsimp only);rw [I6 hr];exact hF rest⟩
  ·cases h
theorem Co {T : Ll} (h : qJ O L m C=(0,T)) : sV O L m C T=0:=by obtain ⟨X,hX,hF⟩:=AL _ _ _ _ _ h;have h1:=hF [];rw [KC] at h1;rw [JL] at hX;unfold sV;rw [hX,h1]
end
theorem aA.mY {w V V' : World} {I I' : Nat->Prop} (h : aA w V I I') (g : Below w.heap.size V V') : aA w V' I I' :=
 ⟨g.os.trans h.os,g.tape.trans h.tape,g.output.trans h.output,Ji h.size g.size,λb hb hi=>(g.block b hb).trans (h.block b hb hi),h.grow⟩
theorem aA.grown {w w' : World} {K : Nat->Prop} {a : OA} {n c : Nat} (hg : w.grownBy w' (Value.slice a n c).ownBlock) (hK : a ≠ none->K (aj a)) : aA w w' K K :=
 ⟨hg.os,hg.tape,hg.output,hg.size,λb hb hi=>hg.block b hb λe=>by
  cases a with
  | none=>cases e
  | some ad =>
   have h1 : b=ad.block:=by simpa [Value.ownBlock] using e
   exact hi (h1 ▸ hK (by simp)),λb hb=>.inl hb⟩
theorem Ints.bQ {w w' : World} {I I' : Nat->Prop} {a : OA} {n : Nat} {l : Lz} (h : Ints w a n l) (hM : aA w w' I I') (hI : 0<n->¬ I (aj a)) : Ints w' a n l :=
 h.of_block λhn=>hM.block _ (h.lt hn) (hI hn)
theorem aZ.bQ {w w' : World} {I I' : Nat->Prop} {b : Nat} {cs : List Value} (h : aZ w b cs) (hM : aA w w' I I') (hI : ¬ I b) : aZ w' b cs:=by have hb:=hM.block b h.1 hI;refine ⟨Jv h.1 hM.size,λi v hv=>(JG (w:=w) (a:=⟨b,i,none⟩) hb).trans (h.2.1 i v hv),λi=>?_⟩;rw [<- h.2.2 i];unfold World.frozen?;simp only [hb]
theorem aA.put (w : World) (b i : Nat) (v : Value) : aA w (w.setCell ⟨b,i,none⟩ v) (λx=>x=b) (λx=>x=b):=by have hb0 : Below 0 w (w.setCell ⟨b,i,none⟩ v):=(I1 0 w).setCell (I7 _) v;exact ⟨hb0.os,hb0.tape,hb0.output,hb0.size,λx hx hI=>Jr _ _ _ _ λe=>hI e,λx hx=>.inl hx⟩
theorem pC {σ : Type} (I : World->σ->Prop) (J : σ->Nat->Prop) (val : σ->Ll) (F : Lz->Lz->Ll->Int × Ll) (pb W : Nat)
  (sa : OA) (ns cs : Nat) (s : Lz) (az : OA) (nz cz : Nat) (z : Lz) (at' : OA) (nt ct : Nat) (t : Lz) (w : World) (σ0 : σ)
  (hI0 : I w σ0) (hIb : ∀V V' σ,I V σ->aA V V' (λb=>w.heap.size<=b/\¬ J σ b) (λb=>w.heap.size<=b/\¬ J σ b)->I V' σ) (hp : w.cell? ⟨pb,9,none⟩=some (.int .i64 W)) (hS : ∀V σ,I V σ->Ints V sa ns s/\Ints V at' nt t)
  (hJ : ∀V σ x,I V σ->J σ x->x<V.heap.size) (hz : Ints w az nz z) (htn : t.Nodup) (hns : ns<=1000) (hnz : nz<=1000) (hnt : nt<=1000) (hWs : ns<=W)
  (hF : ns<W->∀(V : World) (σ : σ) (a1 : OA) (c1 : Nat) (a2 : OA) (c2 k : Nat) (zc : Lz),k<nt->zc=z ++ (t.take k).filter (λx=>decide (¬ x ∈ z))->¬ nth t k ∈ z->I V σ->aA w V (J σ0) (J σ) ->
   Ints V a1 (ns+1) (s ++ [nth t k])->Ints V a2 zc.length zc->¬ J σ (aj a1)->(a2 ≠ none->¬ J σ (aj a2)) ->
   Calls prog 235 #[.pointer (some ⟨pb,0,none⟩),.slice a1 (ns+1) c1,.slice a2 zc.length c2] V
    λe V'=>∃σ',I V' σ'/\aA V V' (J σ) (J σ')/\e = .returned (.int .i64 (F (s ++ [nth t k]) zc (val σ)).1)/\((F (s ++ [nth t k]) zc (val σ)).1=0->val σ'=(F (s ++ [nth t k]) zc (val σ)).2)) :
  Calls prog 264 #[.pointer (some ⟨pb,0,none⟩),.slice sa ns cs,.slice az nz cz,.slice at' nt ct,.func (.func 235) #[.pointer (some ⟨pb,0,none⟩)] #[]] w
   λe w'=>∃σ',I w' σ'/\aA w w' (J σ0) (J σ')/\e = .returned (.int .i64 (eS F s z (if ns<W then t.filter (λx=>decide (¬ x ∈ z)) else []) (val σ0)).1) /\
    ((eS F s z (if ns<W then t.filter (λx=>decide (¬ x ∈ z)) else []) (val σ0)).1=0->val σ'=(eS F s z (if ns<W then t.filter (λx=>decide (¬ x ∈ z)) else []) (val σ0)).2):=by
 obtain ⟨KB,hKB⟩ : ∃KB,eS F s z (if ns<W then t.filter (λx=>decide (¬ x ∈ z)) else []) (val σ0)=KB:=⟨_,rfl⟩
 rw [hKB];have HKB:=Z5 hKB;clear hKB;have Hzl:=Z5 hz.len;have Htl:=Z5 (hS w σ0 hI0).2.len;have Hsl:=Z5 (hS w σ0 hI0).1.len;have hplt:=(hS w σ0 hI0).2.pl;have HS:=Z5 hS;have HI0:=Z5 hI0;have HIb:=Z5 hIb;have HJ:=Z5 hJ;have Htn:=Z5 htn;have HF:=Z5 hF;clear hS hI0 hIb hJ htn hF;by_cases hW : ns=W
 ·have hd : ((ns : Int) == (W : Int))=true:=by simp;omega
  have Hk : Hid (KB=(0,val σ0)):=by show _=_;rw [<- HKB.out,I5 (by omega)];rfl
  go_enter func264,ntmps264;clear hW;go_wp2_with fail;go_ret;exact ⟨σ0,HI0.out,Ns _ _,by rw [Hk.out];rfl,λ_=>by rw [Hk.out]⟩
 have hd : ((ns : Int) == (W : Int))=false:=by simp;omega
 have hlW : ns<W:=by omega
 have HKB : Hid (KB=eS F s z (t.filter (λx=>decide (¬ x ∈ z))) (val σ0)):=by show _=_;rw [<- HKB.out,I6 hlW]
 have HF:=Z5 (HF.out hlW);clear hlW hW;go_enter func264,ntmps264;go_wp2_with fail;refine (eG az nz cz z hz (by omega)).mono ?_;rintro e w1 ⟨a0,c0,rfl,hown0,hb1⟩;have hI1:=HIb.out w w1 σ0 HI0.out (Nn hb1 _);go_wp2_with fail;go_loopw [2,25] (λzv iv wr=>∃(k : Nat) (aq : OA) (cq : Nat) (zc : Lz) (σ : σ),k<=nt/\iv = .int .i64 k/\zv = .slice aq zc.length cq/\Hid (zc=z ++ (t.take k).filter (λx=>decide (¬ x ∈ z))) /\
   wr.ownsRow w.heap.size 3 1 (.slice aq zc.length cq) zc.length (zc.map (Value.int .i64))/\Hid (I wr σ)/\Hid (aA w wr (J σ0) (J σ))/\Hid (aq ≠ none->¬ J σ (aj aq)) /\
   Hid (KB=eS F s zc ((t.drop k).filter (λx=>decide (¬ x ∈ z))) (val σ))/\zc.length<=nz+k)
  (λ_ iv _=>nt - (intOf iv).toNat)
 case atStart =>
  refine ⟨0,a0,c0,z,σ0,I7 _,rfl,rfl,?_,hown0,hI1,Nn hb1 _,?_,?_,by rw [Hzl.out];omega⟩
  ·show _=_;simp
  ·show a0 ≠ none->_
   intro ha hj
   have h1:=HJ.out w σ0 _ HI0.out hj
   have h2:=(aM hown0 ha).1
   omega
  ·show _=_;rw [Kx];exact HKB.out
 case round =>
  obtain ⟨k,aq,cq,zc,σ,hk,rfl,rfl,hzc,hop,hI,hM,hap,hkb,hzn⟩:=hrel
  generalize wr=U at *
  by_cases hlt : k<nt
  ·have htU:=(HS.out U σ hI.out).2
   have hsU:=(HS.out U σ hI.out).1
   have ck:=htU.cell k hlt
   obtain ⟨hzi,_⟩:=Ni hop
   have hktl : k<t.length:=by rw [Htl.out];exact hlt
   have Htk:=Z5 (show t.take (k+1)=t.take k ++ [nth t k] from nN t hktl)
   have Hdk:=Z5 (show t.drop k=nth t k :: t.drop (k+1) by rw [ai hktl];exact Jt hktl)
   have Hzm : Hid (nth t k ∈ zc ↔ nth t k ∈ z):=by
    show _ ↔ _;rw [hzc.out,JM,K7];constructor
    ·rintro (h | h)
     ·exact h
     ·exfalso;have hn : (t.take k ++ t.drop k).Nodup:=by rw [Lt];exact Htn.out
      rw [J2] at hn;exact hn.2.2 _ h.1 (nth t k) (by rw [Hdk.out];simp) rfl
    ·exact .inl
   by_cases hmz : nth t k ∈ z
   ·have hmd : decide (nth t k ∈ zc)=true:=by simpa using Hzm.out.2 hmz
    have HcA:=Z5 (cN aq zc.length cq zc (nth t k) U hzi)
    rw [hmd] at HcA
    have Hzc2 : Hid (zc=z ++ (t.take (k+1)).filter (λx=>decide (¬ x ∈ z))):=by show _=_;rw [Htk.out,Lc,Kr (by simpa using hmz),KQ,KC];exact hzc.out
    have Hkb2 : Hid (KB=eS F s zc ((t.drop (k+1)).filter (λx=>decide (¬ x ∈ z))) (val σ)):=by show _=_;rw [hkb.out,Hdk.out,Kr (by simpa using hmz)]
    clear hmz hmd
    go_wp2_with fail
    refine HcA.out.mono ?_
    rintro e w6 ⟨rfl,rfl⟩
    go_wp2_with fail
    go_roundw
    case rel=>exact ⟨k+1,aq,cq,zc,σ,by omega,by go_num,rfl,Hzc2.out,hop,hI.out,hM.out,hap.out,Hkb2.out,by omega⟩
    case measure=>simp [intOf] <;> omega
   ·have hmd : decide (nth t k ∈ zc)=false:=by simpa using λh=>hmz (Hzm.out.1 h)
    have HcA:=Z5 (cN aq zc.length cq zc (nth t k) U hzi)
    rw [hmd] at HcA
    have Hzc2 : Hid (zc ++ [nth t k]=z ++ (t.take (k+1)).filter (λx=>decide (¬ x ∈ z))):=by show _=_;rw [Htk.out,Lc,Ks (by simpa using hmz),KQ,<- JQ,<- hzc.out]
    have Hkb2 : Hid (KB=if (F (s ++ [nth t k]) zc (val σ)).1=0 then eS F s (zc ++ [nth t k]) ((t.drop (k+1)).filter (λx=>decide (¬ x ∈ z))) (F (s ++ [nth t k]) zc (val σ)).2 else ((F (s ++ [nth t k]) zc (val σ)).1,[])):=by show _=_;rw [hkb.out,Hdk.out,Ks (by simpa using hmz),eS]
    have HFk:=Z5 (λV σ a1 c1 a2 c2=>HF.out V σ a1 c1 a2 c2 k zc hlt hzc.out hmz)
    have hszU:=hM.out.size
    clear hmz hmd
    go_wp2_with fail
    refine HcA.out.mono ?_
    rintro e w6 ⟨rfl,rfl⟩
    go_wp2_with fail
    refine (eG sa ns cs s hsU (by omega)).mono ?_
    rintro e w7 ⟨a7,c7,rfl,hown7,hb7⟩
    rw [Hsl.out] at hown7
    rw [Hsl.out]
    obtain ⟨x,hx⟩ : ∃x,nth t k=x:=⟨_,rfl⟩
    rw [hx] at ck Hzc2 Hkb2 HFk Htk Hdk Hzm HcA ⊢
    have hcn:=bk w7 (.int .i64 x) 3
    have hbn:=aw w7 (.cells #[.int .i64 x] 3)
    go_wp2_with (at_builtin;refine bg rfl _ _ 22 3 rfl (.int .i64 0) 8 underlying22 ba rfl w6.heap.size a7 ns c7 _ rfl (hown7.alloc _) ⟨w7.heap.size,0,none⟩ 1 (.int .i64 x) rfl hcn rfl (by omega) (by unfold maxLen;omega) (Ji hb7.size hbn.size) ?_;intro a8 c8 w8 hown8 hgr8 hap8)
    have hb68 : NS w6 w8:=Nk (Nh hb7 hbn) (hown7.alloc _) hgr8 (IZ _) (Ji hb7.size hbn.size)
    have own8 : w8.ownsRow w6.heap.size 3 1 (.slice a8 (ns+1) c8) (ns+1) ((s ++ [x]).map (Value.int .i64)):=by simpa using hown8
    have hz8:=hzi.aa hb68
    clear hown7 hown8 hgr8 hap8 hcn hbn
    go_wp2_with fail
    refine (eG aq zc.length cq zc hz8 (by omega)).mono ?_
    rintro e w9 ⟨a9,c9,rfl,hown9,hb9⟩
    have hb69:=Nh hb68 hb9
    have hI9:=HIb.out w6 w9 σ hI.out (Nn hb69 _)
    have hM9 : aA w w9 (J σ0) (J σ):=hM.out.mY (hb69.mono hszU)
    have hs9:=(Ni own8).1.aa hb9
    have hz9:=(Ni hown9).1
    have hn8 : ¬ J σ (aj a8):=λhj=>by have h1:=HJ.out w6 σ _ hI.out hj;have h2:=(fB own8 (by omega)).1;omega
    have hn9 : a9 ≠ none->¬ J σ (aj a9):=λha hj=>by have h1:=HJ.out w6 σ _ hI.out hj;have h2:=(aM hown9 ha).1;have h3:=hb68.size;omega
    have hopz:=aX hop hb69
    have HCall:=Z5 (HFk.out w9 σ a8 c8 a9 c9 hI9 hM9 hs9 hz9 hn8 hn9)
    clear HFk hI9 hs9 hz9 hn8 hn9 hz8 own8 hown9
    generalize F (s ++ [x]) zc (val σ)=FR at *
    obtain ⟨fe,fv⟩:=FR
    dsimp only at HCall Hkb2
    go_wp2_with fail
    refine HCall.out.mono ?_
    rintro e w10 ⟨σ',hI',hM',rfl,hval⟩
    have hM10:=Z5 (hM9.trans hM')
    have hapz : aq ≠ none->¬ J σ' (aj aq):=λha=>hM'.not (aM hopz ha).2 (hap.out ha)
    have hopq:=hM'.own hopz hap.out
    have Hapz:=Z5 hapz
    have HI':=Z5 hI'
    clear HCall hM9 hM' hapz hI' hopz
    by_cases hfe : fe=0
    ·have Hval : Hid (val σ'=fv):=hval hfe
     subst hfe
     rw [I6 rfl] at Hkb2
     have hcn:=bk w10 (.int .i64 x) 3
     have hbn:=aw w10 (.cells #[.int .i64 x] 3)
     have hsz10:=hM10.out.size
     clear hval
     go_wp2_with (at_builtin;refine bg rfl _ _ 22 3 rfl (.int .i64 0) 8 underlying22 ba rfl w.heap.size aq zc.length cq _ rfl (hopq.alloc _) ⟨w10.heap.size,0,none⟩ 1 (.int .i64 x) rfl hcn rfl (by omega) (by unfold maxLen;omega) (Ji hsz10 hbn.size) ?_;intro a11 c11 w11 hown11 hgr11 hap11)
     go_roundw
     case rel =>
      have hb11 : Below w.heap.size w10 w11:=Nk (hbn.mono hsz10) (hopq.alloc _) hgr11 (IZ _) (Ji hsz10 hbn.size)
      have hK : aA w10 w11 (λb=>w.heap.size<=b/\¬ J σ' b) (λb=>w.heap.size<=b/\¬ J σ' b):=(Nn hbn _).trans (aA.grown hgr11 λha=>⟨(aM hopq ha).1,Hapz.out ha⟩)
      refine ⟨k+1,a11,c11,zc ++ [x],σ',by omega,by go_num,by simp,Hzc2.out,by simpa using hown11,HIb.out w10 w11 σ' HI'.out hK,hM10.out.mY hb11,?_,?_,by simp;omega⟩
      ·show a11 ≠ none->_
       intro ha hj
       have h1:=HJ.out w10 σ' _ HI'.out hj
       have h2 : cJ aq (aj a11):=by
        by_cases h0 : aq=none
        ·exact .inl h0
        ·exact .inr λe=>Hapz.out h0 (by rw [e];exact hj)
       rcases hap11 _ (Jv h1 hbn.size) h2 with h3 | h3
       ·exact ha h3
       ·exact h3 rfl
      ·show _=_
       rw [Hkb2.out,Hval.out]
     case measure=>simp [intOf] <;> omega
    ·have hfe' : (fe != 0)=true:=by simpa using hfe
     have Hk2 : Hid (KB=(fe,[])):=by show _=_;rw [Hkb2.out,I5 hfe]
     have Hfe:=Z5 hfe
     clear hfe hval
     go_wp2_with fail
     go_ret
     exact ⟨σ',HI'.out,hM10.out,by rw [Hk2.out];rfl,λh0=>absurd (by rw [Hk2.out] at h0;exact h0) Hfe.out⟩
  ·obtain rfl : k=nt:=by omega
   have Hf : Hid (KB=(0,val σ)):=by show _=_;rw [hkb.out,JD (by rw [Htl.out];exact IZ _),KQ,eS]
   go_wp2_with fail
   go_ret
   exact ⟨σ,hI.out,hM.out,by rw [Hf.out];rfl,λ_=>by rw [Hf.out]⟩
section
variable {O : aS} {El : Int->Prop} {m : Nat} {L : Ll}
variable {C : jg}
structure ID (O : aS) (L : Ll) (m : Nat) (C : jg) (s z : Lz) : Prop where
 sn : s.Nodup
 sb : ∀x ∈ s,0<=x/\x<(m : Int)
 zn : z.Nodup
 zb : ∀x ∈ z,0<=x/\x<(m : Int)
 sz : ∀x ∈ z,¬ x ∈ s
 zi : pN O L z=z.length
 zk : ¬ C.cos=true->z.length<=C.M
theorem Ck {s z : Lz} (hz : z.Nodup) : (iz m s z).Nodup:=by
 unfold iz;rw [J2];refine ⟨(dc z).nodup_iff.2 hz,(jW false (s ++ z) m).imp λh=>by omega,λa ha b hb e=>?_⟩;obtain ⟨j,hj,rfl,hd⟩:=(ew m).1 hb;have hn : ¬ (j : Int) ∈ s ++ z:=by simpa using hd
 exact hn (List.mem_append.2 (.inr ((dc z).mem_iff.1 (e ▸ ha))))
theorem wC {s z : Lz} {x : Int} : x ∈ eg O L m C s z ↔ x ∈ sl O L (iz m s z) (if C.cos=true then m else C.M):=(dc _).mem_iff
theorem qV {s z : Lz} (hz : z.Nodup) : (eg O L m C s z).Nodup:=by unfold eg;refine (dc _).nodup_iff.2 ?_;unfold sl;refine KM (KS _ _) ?_;exact gr_nodup (Ck hz)
where gr_nodup {Q : Lz} (hQ : Q.Nodup) : (gD O L Q).Nodup := KM (gr_sub Q Q.length (IZ _)) (by rw [MW]; exact hQ)
      gr_sub (Q : Lz) : ∀k,k<=Q.length->((bU O L Q k).2).Sublist (Q.take k)
 | 0,_=>by simp [bU]
 | k+1,h=>by
  have ih:=gr_sub Q k (by omega);rw [bU,Ja (by omega)];split
  ·rw [ai (show k<Q.length by omega)];exact ih.append (List.Sublist.refl _)
  ·exact ih.trans (List.sublist_append_left _ _)
end
def mz (b : Nat) (P M : Int) (am : OA) (mn cm : Nat) (m : Nat) (a : OA) (n c : Nat) (ay : OA) (ny cy : Nat) (C : jg) (sv : Value) (k : Nat) : List Value :=
 [.pointer (some ⟨b,0,none⟩),.int .i64 P,.int .i64 M,.slice am mn cm,.int .i64 m,.slice a n c,.slice ay ny cy,.bool C.cos,.int .i64 C.M,.int .i64 C.W,sv,.int .i64 k]
structure Ab (w0 : World) (b : Nat) (G : cW) (a : OA) (n : Nat) (L : Ll) (m : Nat) (ay : OA) (ny : Nat) (C : jg) : Prop where
 g : dT w0 b G
 l7 : ch w0 a n L
 rws : cw G.El m L
 n6 : n<=1000000
 m6 : m<=64
 w6 : C.W<=64
 c0 : C.cos=false
theorem aZ.setCell {w : World} {b : Nat} {cs : List Value} (h : aZ w b cs) (i : Nat) (v : Value) : aZ (w.setCell ⟨b,i,none⟩ v) b (cs.set i v):=by
 refine ⟨by simpa using h.1,λj u hu=>?_,λj=>by rw [J8];exact h.2.2 j⟩;by_cases e : j=i
 ·subst e;by_cases hl : j<cs.length
  ·rw [Mi hl] at hu;cases hu
   exact Jk _ _ _ (h.2.1 j cs[j] (JI hl))
  ·rw [KH (by omega),JZ (by omega)] at hu;cases hu
 ·rw [Mu (by omega)] at hu;rw [Jw _ _ _ _ (by simp <;> omega)];exact h.2.1 j u hu
theorem lu {m : Nat} {t : Lz} (h : cF m t=true) : ∀k,k<t.length->0<=nth t k/\nth t k<m:=λ_ hk=>⟨(fC h hk).1,(fC h hk).2.1⟩
theorem gG (f : Lz->Lz) (hf : f []=[]) (L : Ll) (i : Nat) : an (L.map f) i=f (an L i):=by
 by_cases h : i<L.length
 ·exact bL f L h
 ·rw [kX (by simpa using h),kX (by omega),hf]
section
variable {O : aS} {k : Nat}
theorem pc {J : Ll} {c : Nat} (hc : c<k) : ∀f i,en (J.map (List.take k)) c i f=en J c i f
 | 0,i=>rfl
 | f+1,i=>by rw [en,en,gG _ K4,iS _ hc,pc hc f (i+1)]
theorem u7 {J : Ll} {c : Nat} (hc : c<k) (i : Nat) : bn (J.map (List.take k)) c i=bn J c i:=by unfold bn;rw [Jl,pc hc]
theorem sL {pv r : Lz} {c : Nat} (hc : c<k) : bY O (pv.take k) c (r.take k)=(bY O pv c r).take k:=by
 unfold bY;rw [iS _ hc];split
 ·rfl
 ·rw [oT]
theorem nM {J : Ll} {t c : Nat} (hc : c<k) : ∀i,aR O t c (J.map (List.take k)) i=(aR O t c J i).map (List.take k)
 | 0=>rfl
 | i+1=>by
  rw [aR,aR,nM hc i];split
  ·rfl
  ·rw [gG _ K4,gG _ K4,sL hc,Jq]
theorem uq {J : Ll} {t c : Nat} (hc : c<k) : bm O (J.map (List.take k)) t c=(bm O J t c).map (List.take k):=by
 unfold bm;rw [gG _ K4,iS _ hc];split
 ·rfl
 ·rw [Jq,List.map_take]
theorem uM {J : Ll} {t i : Nat} : bh (J.map (List.take k)) t i=(bh J t i).map (List.take k):=by unfold bh;rw [gG _ K4,gG _ K4,Jq,Jq]
theorem wj {J : Ll} {t i c : Nat} (hc : c<k) : ed O (J.map (List.take k)) t i c=(ed O J t i c).map (List.take k):=by
 have h : ∀J : Ll,aR O t c (bm O (J.map (List.take k)) t c) (bm O (J.map (List.take k)) t c).length=(aR O t c (bm O J t c) (bm O J t c).length).map (List.take k):=λJ=>by rw [uq hc,Jl,nM hc]
 unfold ed;split
 ·exact h J
 ·rw [uM];exact h _
theorem pa {J : Ll} : ∀c,c<=k->(aD O (J.map (List.take k)) c).1=(aD O J c).1.map (List.take k)/\(aD O (J.map (List.take k)) c).2=(aD O J c).2
 | 0,_=>⟨rfl,rfl⟩
 | c+1,h=>by
  obtain ⟨h1,h2⟩:=pa (J:=J) c (by omega);simp only [aD];rw [h1,h2,Jl,u7 (by omega)];split
  ·split
   ·exact ⟨h1,h2⟩
   ·exact ⟨wj (by omega),rfl⟩
  ·exact ⟨h1,h2⟩
end
section
variable {O : aS} {El : Int->Prop} {m : Nat}
theorem uo (F : dw O El) {L : Ll} (hL : cw El m L) {Q : Lz} (hQ : pA m Q) : (aD O (L.map (aQ Q)) Q.length).2.length=(gD O L Q).length:=by
 refine Rk.same (iL F hL) (F4 F hL hQ) (Ds F hL Q) λx=>?_;rw [gQ,Lj];constructor
 ·rintro ⟨j,hj,rfl⟩;exact ⟨j,List.mem_range.1 hj,rfl⟩
 ·rintro ⟨j,hj,e⟩;exact ⟨j,List.mem_range.2 hj,e⟩
theorem Eb (F : dw O El) {L : Ll} (hL : cw El m L) {Q : Lz} (hQ : pA m Q) (hl : Q.length=L.length) (hg : (gD O L Q).length=Q.length) :
  (aD O (eD (L.map (aQ Q)) (dH Q.length)) Q.length).2.length=Q.length:=by have hJ:=kn (k:=Q.length) (D:=L.map (aQ Q)) (U:=dH Q.length) (by rw [Jl,bV];omega) (λr hr=>by obtain ⟨s,_,rfl⟩:=List.mem_map.1 hr;simp [aQ]);have h:=(pa (O:=O) (k:=Q.length) (J:=eD (L.map (aQ Q)) (dH Q.length)) Q.length (IZ _)).2;rw [hJ] at h;rw [<- h,uo F hL hQ,hg]
end
section
variable {w : World} {b : Nat} {G : cW}
end
section
variable {w : World} {b : Nat} {G : cW}
end
section
open Go.RowKit
end
theorem rN (N : Int) (a : OA) (n c : Nat) (l : Lz) (w : World) (hi : Ints w a n l) :
  Calls prog 33 #[.slice a n c,.int .i64 N] w (jR w (cF N l)):=by
 have Hlen:=Z5 hi.len;have hpl:=hi.pl;have hmax:=hi.max;unfold maxLen at hmax;go_enter func33,ntmps33;go_wp2_with fail;go_loopw [5] (λiv wr=>∃k : Nat,k<=n/\iv = .int .i64 k/\Hid (mS N l k=true)/\bf w wr) (λiv _=>n - (intOf iv).toNat);case atStart=>exact ⟨0,I7 _,rfl,by show _=_;simp [mS],No _⟩
 case round =>
  obtain ⟨j,hj,rfl,hok,hd⟩:=hrel
  have hir:=hi.drawn hd
  by_cases hlt2 : j<n
  ·have cj:=hir.cell j hlt2
   have hjj : (j : Int)<n:=by omega
   have hbad : gg N l j=false->cF N l=false:=λhb=>uk (by rw [Hlen.out];exact hlt2) hb
   have Hbad:=Z5 hbad
   clear hbad
   by_cases h0 : 0<=nth l j
   ·have d1 : decide (nth l j<0)=false:=by simp;omega
    by_cases h1 : nth l j<N
    ·have d2 : decide (N<=nth l j)=false:=by simp;omega
     by_cases hj0 : j=0
     ·have Hgood : Hid (gg N l j=true):=by show _=_;unfold gg;rw [Jm h0,Jm h1];simp [hj0]
      have d3 : decide (0<j)=false:=by simp;omega
      clear hj0
      go_wp2_with fail
      go_quiet (fail)
      go_wp2
      go_roundw
      case rel=>exact ⟨j+1,by omega,by go_num,gC hok.out Hgood.out,hd.drewN _⟩
      case measure=>simp [intOf] <;> omega
     ·have cp:=hir.cell (j - 1) (by omega)
      have e1 : ((j : Int) - 1).toNat=j - 1:=by omega
      have d3 : decide (0<j)=true:=by simp;omega
      have d4 : (0 : Int)<=(j : Int) - 1:=by omega
      have d5 : (1 : Int)<=(j : Int):=by omega
      have d6 : (j : Int) - 1<n:=by omega
      have kw : IntKind.i64.wrap ((j : Int) - 1)=(j : Int) - 1:=Jj _ (by omega)
      by_cases h2 : nth l (j - 1)<nth l j
      ·have Hgood : Hid (gg N l j=true):=by show _=_;unfold gg;simp [h0,h1,h2]
       have h2' : decide (nth l j<=nth l (j - 1))=false:=by simp;omega
       clear hj0
       go_wp2_with fail
       go_quiet (fail)
       go_wp2
       go_roundw
       case rel=>exact ⟨j+1,by omega,by go_num,gC hok.out Hgood.out,hd.drewN _⟩
       case measure=>simp [intOf] <;> omega
      ·have Hb : Hid (cF N l=false):=Hbad.out (by unfold gg;simp [h2,hj0])
       have h2' : decide (nth l j<=nth l (j - 1))=true:=by simp;omega
       clear hj0
       go_wp2_with fail
       go_quiet (fail)
       go_wp2
       go_ret
       exact ⟨by rw [Hb.out];rfl,hd.drewN _⟩
    ·have Hb : Hid (cF N l=false):=Hbad.out (by unfold gg;simp [h1])
     have d2 : decide (N<=nth l j)=true:=by simp;omega
     go_wp2_with fail
     go_quiet (fail)
     go_wp2
     go_ret
     exact ⟨by rw [Hb.out];rfl,hd.drewN _⟩
   ·have Hb : Hid (cF N l=false):=Hbad.out (by unfold gg;simp [h0])
    have d1 : decide (nth l j<0)=true:=by simp;omega
    go_wp2_with fail
    go_quiet (fail)
    go_wp2
    go_ret
    exact ⟨by rw [Hb.out];rfl,hd.drewN _⟩
  ·obtain rfl : j=n:=by omega
   have Hg : Hid (cF N l=true):=by show _=_;rw [cF,Hlen.out];exact hok.out
   go_wp2_with fail
   go_ret
   exact ⟨by rw [Hg.out];rfl,hd⟩
def gz (O : aS) (u : Lz) (a : Int) (r : Lz) : Lz:=if a=0 then u else List.zipWith (λy x=>if x=0 then y else O.add y (O.mul a x)) u r
theorem kY (O : aS) (u : Lz) (a : Int) (r : Lz) (h : r.length=u.length) : (gz O u a r).length=u.length:=by unfold gz;split <;> simp [h]
theorem xl (O : aS) (u : Lz) (a : Int) (r : Lz) (j : Nat) (h : r.length=u.length) (hj : j<u.length) (h0 : a ≠ 0) :
  nth (gz O u a r) j=if nth r j=0 then nth u j else O.add (nth u j) (O.mul a (nth r j)):=by unfold gz;rw [I5 h0,ai (show j<_ by simp [h];omega),ai hj,ai (show j<r.length by omega)];simp
theorem FZ {O : aS} {El : Int->Prop} (hO : vO O El) {u r : Lz} {a : Int} (hu : ∀x ∈ u,El x) (hr : ∀x ∈ r,El x) (ha : El a) (hl : r.length=u.length) : ∀x ∈ gz O u a r,El x:=by
 intro x hx;by_cases h0 : a=0
 ·unfold gz at hx;rw [I6 h0] at hx;exact hu x hx
 ·obtain ⟨j,hj,rfl⟩:=List.mem_iff_getElem.1 hx;rw [kY O u a r hl] at hj;have h1:=xl O u a r j hl hj h0;rw [ai (show j<(gz O u a r).length by rw [kY O u a r hl];exact hj)] at h1;rw [h1];split
  ·exact hu _ (aK hj)
  ·exact hO.add _ _ (hu _ (aK hj)) (hO.mul _ _ ha (hr _ (aK (by omega))))
section
open Go.RowKit
end
def Nu:=@aA.grown
def NF:=@aA.put
end Go.Proofs.YtcfmiocdlcapoaaGreat
