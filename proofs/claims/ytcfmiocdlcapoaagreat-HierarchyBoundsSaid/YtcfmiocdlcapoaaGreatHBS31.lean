import Derived.Test.YtcfmiocdlcapoaaGreatHBS29
namespace Go.Proofs.YtcfmiocdlcapoaaGreat
set_option linter.all false
set_option maxRecDepth 100000
set_option maxHeartbeats 4000000
open Go.RowKit Go.Proofs.Tryz
section
variable {O : aJ} {El : Int->Prop} {m : Nat} {L : ZZ}
theorem vB (x m : Nat) : ∀k,k<=m->aL false (aQ x m) k=ky x k
 | 0,_=>rfl
 | k+1,hk=>by
  have e : decide ((k : Int) ∈ aQ x m)=x.testBit k:=by
   rw [QL,MG,jM];constructor
   ·rintro ⟨j,_,h2,h3⟩;have : j=k:=by omega
    rw [<- this];exact h3
   ·intro h;exact ⟨k,by omega,rfl,h⟩
  rw [aL,ky,e,vB x m k (by omega)];cases x.testBit k <;> rfl
theorem kR (F : bR O El) (hL : bx El m L) {x : Nat} (hx : x<2 ^ m) : fQ O L m (aQ x m)=nth (fy O m L) x:=by have h:=z8 F hL x;rw [sO F hL hx,fQ,vB x m m (Mf m)];omega
theorem Jw (F : bR O El) (hL : bx El m L) {x : Nat} (hx : x<2 ^ m) : 0<=nth (fy O m L) x/\nth (fy O m L) x<=L.length:=by rw [sO F hL hx];omega
theorem IM (F : bR O El) (hL : bx El m L) (hm : m<=64) (r : Int) : zH O m L r=dM O L m r:=by refine (DL (l:=fy O m L) (n:=m) hm (r:=r) (p:=pD O L m r) λx hx=>?_).1;unfold pD;rw [MG,kR F hL hx];omega
theorem iP (F : bR O El) (hL : bx El m L) (hm : m<=64) {r : Int} (hr : r<=L.length) : ue 0 m (dM O L m r)/\r<=fQ O L m (dM O L m r)/\∀t,ue 0 m t->r<=fQ O L m t->(dM O L m r).length<=t.length:=by
 have hfull : aQ (2 ^ m - 1) m ∈ pM m:=jC.2 (l4 _ _);have hp2 : 0<2 ^ m:=PV m;have hd : pD O L m r (aQ (2 ^ m - 1) m)=true:=by
  unfold pD;rw [MG,kR F hL (by omega),sO F hL (by omega)];have e : ky (2 ^ m - 1) m=[]:=by refine List.eq_nil_iff_forall_not_mem.2 λy hy=>?_;obtain ⟨j,h1,_,h3⟩:=po.1 hy;rw [Pk] at h3;simp at h3;omega
  rw [e];have:=BG O L [];simp at this;omega
 cases hf : (pM m).find? (pD O L m r) with
 | none=>exact absurd hd (List.find?_eq_none.1 hf _ hfull)
 | some t =>
  have e : dM O L m r=t:=by unfold dM;rw [hf];rfl
  obtain ⟨k1,k2,k3⟩:=nR (uL m) hf
  rw [e]
  refine ⟨jC.1 k2,by unfold pD at k1;simpa using k1,λu hu hru=>?_⟩
  rcases k3 u (jC.2 hu) (by unfold pD;exact MO hru) with h | h
  ·rw [h];exact Mf _
  ·rw [ga] at h;omega
theorem zO (l : Lz) (n : Nat) {i : Nat} (hi : i<=n) : ∀k,k<=2 ^ n->(0<=nth (dJ l n k) i)/\(∀x,x<k->(aQ x n).length=i->nth l x<=nth (dJ l n k) i)/\(nth (dJ l n k) i=0\/∃x,x<k/\(aQ x n).length=i/\nth (dJ l n k) i=nth l x)
 | 0,_=>by
  have e : nth (dJ l n 0) i=0:=by rw [dJ];simp [nth,Mk,MN];split <;> rfl
  rw [e];exact ⟨Ob _,λx hx=>by omega,.inl rfl⟩
 | k+1,hk=>by
  obtain ⟨h1,h2,h3⟩:=zO l n hi k (by omega);have hbl:=lk k n;have e : nth (dJ l n (k+1)) i=if i=(aQ k n).length then max (nth (dJ l n k) (aQ k n).length) (nth l k) else nth (dJ l n k) i:=by rw [dJ,dD _ _ _ _ (by rw [nQ];omega)]
  rw [e];by_cases hc : i=(aQ k n).length
  ·rw [Mg hc,<- hc];refine ⟨by omega,λx hx hxl=>?_,?_⟩
   ·by_cases e2 : x=k
    ·subst e2;omega
    ·have:=h2 x (by omega) hxl;omega
   ·by_cases h4 : nth l k<=nth (dJ l n k) i
    ·rw [QM h4];rcases h3 with h3 | ⟨x,a1,a2,a3⟩
     ·exact .inl h3
     ·exact .inr ⟨x,by omega,a2,a3⟩
    ·rw [QC (by omega)];exact .inr ⟨k,by omega,hc.symm,rfl⟩
  ·rw [Mh hc];refine ⟨h1,λx hx hxl=>?_,?_⟩
   ·by_cases e2 : x=k
    ·subst e2;exact absurd hxl.symm hc
    ·exact h2 x (by omega) hxl
   ·rcases h3 with h3 | ⟨x,a1,a2,a3⟩
    ·exact .inl h3
    ·exact .inr ⟨x,by omega,a2,a3⟩
def y4 (f : Lz->Int) (T : ZZ) : Nat->Int
 | 0=>0
 | j+1=>max (y4 f T j) (f (ai T j))
def gT (O : aJ) (L : ZZ) (m i : Nat) : Int:=y4 (fQ O L m) (gS m i 0) (gS m i 0).length
theorem sP (f : Lz->Int) (T : ZZ) : ∀k,0<=y4 f T k/\(∀j,j<k->f (ai T j)<=y4 f T k)/\(y4 f T k=0\/∃j,j<k/\y4 f T k=f (ai T j))
 | 0=>⟨Ob _,λj hj=>by omega,.inl rfl⟩
 | k+1=>by
  obtain ⟨h1,h2,h3⟩:=sP f T k;rw [y4];refine ⟨by omega,λj hj=>?_,?_⟩
  ·by_cases e : j=k
   ·subst e;omega
   ·have:=h2 j (by omega);omega
  ·by_cases h4 : f (ai T k)<=y4 f T k
   ·rw [QM h4];rcases h3 with h3 | ⟨j,a1,a2⟩
    ·exact .inl h3
    ·exact .inr ⟨j,by omega,a2⟩
   ·rw [QC (by omega)];exact .inr ⟨k,by omega,rfl⟩
theorem Dm (F : bR O El) (hL : bx El m L) (hm : m<=64) {i : Nat} (hi : i<=m) : nth (mh (fy O m L) m) i=gT O L m i:=by
 unfold mh gT;obtain ⟨h1,h2,h3⟩:=zO (fy O m L) m hi (2 ^ m) (Mf _);obtain ⟨g1,g2,g3⟩:=sP (fQ O L m) (gS m i 0) (gS m i 0).length;apply Int.le_antisymm
 ·rcases h3 with h3 | ⟨x,a1,a2,a3⟩
  ·rw [h3];exact g1
  ·rw [a3,<- kR F hL a1];obtain ⟨j,hj,e⟩:=fJ (dC.2 ⟨a2,l4 x m⟩);rw [<- e];exact g2 j hj
 ·rcases g3 with g3 | ⟨j,a1,a2⟩
  ·rw [g3];exact h1
  ·obtain ⟨b1,b2⟩:=dC.1 (dj a1);obtain ⟨x,hx,e⟩:=oJ hm b2;rw [a2,<- e,kR F hL hx];exact h2 x hx (by rw [e];exact b1)
def lu (O : aJ) (L : ZZ) (m k : Nat) : Lz:=(List.range k).map λ(i : Nat)=>((dM O L m ((i : Int)+1)).length : Int)
theorem Kv (F : bR O El) (hL : bx El m L) (hm : m<=64) {r : Int} (h1 : 1<=r) (hr : r<=L.length) : sR (mh (fy O m L) m) r=((dM O L m r).length : Int):=by
 obtain ⟨a1,a2,a3⟩:=iP F hL hm hr;have hlen : (mh (fy O m L) m).length=m+1:=nQ _ _ _;have hal:=kb a1 (Mj m);have h:=wU r (mh (fy O m L) m) (dM O L m r).length 0 (by omega) (λj hj=>?_) ?_
 ·unfold sR;rw [h];simp
 ·rw [Dm F hL hm (by omega)];obtain ⟨g1,g2,g3⟩:=sP (fQ O L m) (gS m j 0) (gS m j 0).length;unfold gT;rcases g3 with g3 | ⟨q,b1,b2⟩
  ·omega
  ·obtain ⟨c1,c2⟩:=dC.1 (dj b1);rw [b2];rcases Qx (fQ O L m (ai (gS m j 0) q)) r with h | h
   ·exact h
   ·have:=a3 _ c2 h;omega
 ·rw [Dm F hL hm (by omega)];obtain ⟨g1,g2,g3⟩:=sP (fQ O L m) (gS m (dM O L m r).length 0) (gS m (dM O L m r).length 0).length;obtain ⟨q,hq,e⟩:=fJ (dC.2 ⟨rfl,a1⟩);have:=g2 q hq;rw [e] at this;unfold gT;omega
theorem Ko (F : bR O El) (hL : bx El m L) (hm : m<=64) : AS O m L=lu O L m L.length:=by unfold AS lD lu;refine M7 λi hi=>?_;rw [M8] at hi;exact Kv F hL hm (by omega) (by omega)
end
theorem lits (V : World) (l : Lz) (cs : Array Value) (h : cs=(l.map (Value.int .i64)).toArray) (hl : l.length<=1000) {g : Nat} (hg : g=V.heap.size) : Ints (V.alloc (.cells cs 3)) (some ⟨g,0,none⟩) l.length l:=by subst h;refine ⟨rfl,λ_=>rfl,by unfold maxLen;omega,λi hi=>?_⟩;have h1:=aE V ((l.map (Value.int .i64)).toArray) 3 hg i;rw [aj hi];simpa [an,aP,hi] using h1
theorem Lm (V : World) {p : Addr} {n1 c1 : Nat} {l1 : Lz} (h1 : Ints V (some p) n1 l1) {g : Nat} (hg : g=V.heap.size) : cU (V.alloc (.cells #[.slice (some p) n1 c1] 22)) (some ⟨g,0,none⟩) 1 [l1] :=
 ⟨rfl,λ_=>rfl,by unfold maxLen;omega,λk hk=>by
  have h:=aE V #[.slice (some p) n1 c1] 22 hg k;match k,hk with
  | 0,_=>exact ⟨some p,n1,c1,h,h1.ah (aB _ _)⟩⟩
theorem Ld (V : World) {p q : Addr} {n1 n2 c1 c2 : Nat} {l1 l2 : Lz} (h1 : Ints V (some p) n1 l1) (h2 : Ints V (some q) n2 l2) {g : Nat} (hg : g=V.heap.size) : cU (V.alloc (.cells #[.slice (some p) n1 c1,.slice (some q) n2 c2] 22)) (some ⟨g,0,none⟩) 2 [l1,l2] :=
 ⟨rfl,λ_=>rfl,by unfold maxLen;omega,λk hk=>by
  have h:=aE V #[.slice (some p) n1 c1,.slice (some q) n2 c2] 22 hg k;match k,hk with
  | 0,_=>exact ⟨some p,n1,c1,h,h1.ah (aB _ _)⟩
  | 1,_=>exact ⟨some q,n2,c2,h,h2.ah (aB _ _)⟩⟩
theorem Lb (V : World) {p q r : Addr} {n1 n2 n3 c1 c2 c3 : Nat} {l1 l2 l3 : Lz} (h1 : Ints V (some p) n1 l1) (h2 : Ints V (some q) n2 l2) (h3 : Ints V (some r) n3 l3) {g : Nat} (hg : g=V.heap.size) :
  cU (V.alloc (.cells #[.slice (some p) n1 c1,.slice (some q) n2 c2,.slice (some r) n3 c3] 22)) (some ⟨g,0,none⟩) 3 [l1,l2,l3] :=
 ⟨rfl,λ_=>rfl,by unfold maxLen;omega,λk hk=>by
  have h:=aE V #[.slice (some p) n1 c1,.slice (some q) n2 c2,.slice (some r) n3 c3] 22 hg k;match k,hk with
  | 0,_=>exact ⟨some p,n1,c1,h,h1.ah (aB _ _)⟩
  | 1,_=>exact ⟨some q,n2,c2,h,h2.ah (aB _ _)⟩
  | 2,_=>exact ⟨some r,n3,c3,h,h3.ah (aB _ _)⟩⟩
theorem LU (V : World) (x1 y1 x2 y2 x3 y3 : Int) : cU ((((V.alloc (.cells #[.int .i64 x1,.int .i64 y1] 3)).alloc (.cells #[.int .i64 x2,.int .i64 y2] 3)).alloc (.cells #[.int .i64 x3,.int .i64 y3] 3)).alloc
  (.cells #[.slice (some ⟨V.heap.size,0,none⟩) 2 2,.slice (some ⟨V.heap.size+1,0,none⟩) 2 2,.slice (some ⟨V.heap.size+1+1,0,none⟩) 2 2] 22)) (some ⟨V.heap.size+1+1+1,0,none⟩) 3 [[x1,y1],[x2,y2],[x3,y3]]:=by have i1:=lits V [x1,y1] #[.int .i64 x1,.int .i64 y1] rfl (by simp) rfl;have i2:=lits (V.alloc (.cells #[.int .i64 x1,.int .i64 y1] 3)) [x2,y2] #[.int .i64 x2,.int .i64 y2] rfl (by simp) (g:=V.heap.size+1) (by simp);have i3:=lits ((V.alloc (.cells #[.int .i64 x1,.int .i64 y1] 3)).alloc (.cells #[.int .i64 x2,.int .i64 y2] 3)) [x3,y3] #[.int .i64 x3,.int .i64 y3] rfl (by simp) (g:=V.heap.size+1+1) (by simp);exact Lb _ ((i1.ah (aB _ _)).ah (aB _ _)) (i2.ah (aB _ _)) i3 (by simp)
theorem A2 (w : World) (o1 o2 o3 o4 : Obj) : Rs w ((((w.alloc o1).alloc o2).alloc o3).alloc o4):=QQ (tu w o1 o2 o3) (aB _ _)
theorem KJ (w : World) (o1 o2 o3 o4 o5 : Obj) : Rs w (((((w.alloc o1).alloc o2).alloc o3).alloc o4).alloc o5):=QQ (A2 w o1 o2 o3 o4) (aB _ _)
section
open Go.RowKit
end
section
open Go.RowKit
end
theorem yT {N : Int} {l : Lz} : ∀k,(∀i,i<k->gq N l i=true)->nc N l k=true
 | 0,_=>rfl
 | k+1,h=>gL (yT k λi hi=>h i (by omega)) (h k (by omega))
theorem Ct (b : Bool) (U : Lz) (m : Nat) : bG m (aL b U m)=true:=by
 unfold bG;refine yT _ λi hi=>?_;have h1:=(bh m).1 (aN hi);obtain ⟨j,hj,e,_⟩:=h1;have hp:=eK b U m;rw [Nz] at hp;unfold gq;have h2 : 0<i->nth (aL b U m) (i - 1)<nth (aL b U m) i:=λh0=>by rw [aj hi,aj (show i - 1<_ by omega)];exact hp (i - 1) i (by omega) hi (by omega)
 rw [e] at h2 ⊢;simp;omega
abbrev uY (n : Int) (l : Lz) (i : Nat) : Prop:=1<=nth l i/\nth l i<=n/\(i=0\/nth l (i - 1)<nth l i)
def qR (l : Lz) (n : Int) : Int:=if 1<=n/\n<=64/\∀i,i<l.length->uY n l i then 0 else 6
def iK (l : Lz) (n : Nat) : Nat->Lz
 | 0=>[]
 | k+1=>if ((n - k : Nat) : Int) ∈ l then iK l n k else iK l n k ++ [(k : Int)+1]
def EF (l : Lz) (n : Nat) : Lz:=iK l n n
theorem vq (l : Lz) (n : Nat) : ∀k,(iK l n k).length<=k
 | 0=>Mf _
 | k+1=>by have:=vq l n k;rw [iK];split <;> simp <;> omega
def JP (l : Lz) (n : Int) (w : World) (e : Ending) (w' : World) : Prop :=
 Rs w w'/\((qR l n ≠ 0/\e = .returned (.tuple #[.slice none 0 0,.int .i64 (qR l n)])) \/
  (qR l n=0/\∃a c,e = .returned (.tuple #[.slice a (EF l n.toNat).length c,.int .i64 0])/\w'.ownsRow w.heap.size 3 1 (.slice a (EF l n.toNat).length c) (EF l n.toNat).length ((EF l n.toNat).map (Value.int .i64))))
theorem yK (a : OA) (n c : Nat) (l : Lz) (N : Int) (w : World) (hi : Ints w a n l) :
  Calls prog 93 #[.slice a n c,.int .i64 N] w (JP l N w):=by
 have Hl:=Z5 hi.len;have hpl:=hi.pl;have hmax:=hi.max;unfold maxLen at hmax;go_enter func93,ntmps93;by_cases h1 : N<1
 ·have HE : Hid (qR l N=6):=by show _=_;rw [qR,Mh λh=>by omega]
  have d1 : decide (N<1)=true:=by simpa using h1
  clear h1;go_wp2_with fail;go_ret2;exact ⟨Mi _ _,.inl ⟨by rw [HE.out];decide,by rw [HE.out];rfl⟩⟩
 have d1 : decide (N<1)=false:=by simpa using h1
 by_cases h2 : 64<N
 ·have HE : Hid (qR l N=6):=by show _=_;rw [qR,Mh λh=>by omega]
  have d2 : decide (64<N)=true:=by simpa using h2
  clear h1 h2;go_wp2_with fail;go_ret2;exact ⟨Mi _ _,.inl ⟨by rw [HE.out];decide,by rw [HE.out];rfl⟩⟩
 have d2 : decide (64<N)=false:=by simpa using h2
 obtain ⟨m,rfl⟩ : ∃m : Nat,N=m:=⟨N.toNat,by omega⟩
 have hm1 : 1<=m:=by omega
 have hm64 : m<=64:=by omega
 clear h1 h2;go_wp2_with fail;go_loop [18] (λiv=>∃k : Nat,k<=n/\iv = .int .i64 k/\Hid (∀j,j<k->uY m l j)) (λiv=>n - (intOf iv).toNat);case atStart=>exact ⟨0,Mj _,rfl,λj hj=>by omega⟩
 case round =>
  obtain ⟨k,hk,rfl,hall⟩:=hrel
  by_cases hlt : k<n
  ·have ck:=hi.cell k hlt
   by_cases hg : uY m l k
   ·have Hall : Hid (∀j,j<k+1->uY m l j):=λj hj=>by
     rcases MU j k with h | h
     ·exact hall.out j h
     ·rw [show j=k by omega];exact hg
    obtain ⟨g1,g2,g3⟩:=hg
    have b1 : decide (nth l k<1)=false:=by simp;omega
    have b2 : decide ((m : Int)<nth l k)=false:=by simp;omega
    by_cases h0 : k=0
    ·subst h0
     rw [Pm] at ck
     clear g3
     go_wp2_with fail
     go_round
     case rel=>exact ⟨1,by omega,by go_num,Hall.out⟩
     case measure=>simp [intOf] <;> omega
    ·have b3 : decide ((0 : Int)<(k : Int))=true:=by simp;omega
     have ck1:=hi.cell (k - 1) (by omega)
     have e1 : ((k : Int) - 1).toNat=k - 1:=by omega
     have d4 : (0 : Int)<=(k : Int) - 1:=by omega
     have d5 : (1 : Int)<=(k : Int):=by omega
     have d6 : (k : Int) - 1<n:=by omega
     have b4 : decide (nth l k<=nth l (k - 1))=false:=by simp;omega
     clear h0 g3 e1
     go_wp2_with fail
     go_round
     case rel=>exact ⟨k+1,by omega,by go_num,Hall.out⟩
     case measure=>simp [intOf] <;> omega
   ·have HE : Hid (qR l m=6):=by show _=_;rw [qR,Mh λh=>hg (h.2.2 k (by rw [Hl.out];exact hlt))]
    unfold uY at hg
    by_cases q1 : nth l k<1
    ·have b1 : decide (nth l k<1)=true:=by simpa using q1
     clear hg q1
     go_wp2_with fail
     go_ret2
     exact ⟨Mi _ _,.inl ⟨by rw [HE.out];decide,by rw [HE.out];rfl⟩⟩
    have b1 : decide (nth l k<1)=false:=by simpa using q1
    by_cases q2 : (m : Int)<nth l k
    ·have b2 : decide ((m : Int)<nth l k)=true:=by simpa using q2
     clear hg q1 q2
     go_wp2_with fail
     go_ret2
     exact ⟨Mi _ _,.inl ⟨by rw [HE.out];decide,by rw [HE.out];rfl⟩⟩
    have b2 : decide ((m : Int)<nth l k)=false:=by simpa using q2
    have h0 : k ≠ 0:=λh=>hg ⟨by omega,by omega,.inl h⟩
    have hle : nth l k<=nth l (k - 1):=by
     rcases Qx (nth l (k - 1)) (nth l k) with h | h
     ·exact absurd ⟨by omega,by omega,.inr h⟩ hg
     ·exact h
    have b3 : decide ((0 : Int)<(k : Int))=true:=by simp;omega
    have ck1:=hi.cell (k - 1) (by omega)
    have e1 : ((k : Int) - 1).toNat=k - 1:=by omega
    have d4 : (0 : Int)<=(k : Int) - 1:=by omega
    have d5 : (1 : Int)<=(k : Int):=by omega
    have d6 : (k : Int) - 1<n:=by omega
    have b4 : decide (nth l k<=nth l (k - 1))=true:=by simpa using hle
    clear hg q1 q2 hle e1 h0
    go_wp2_with fail
    go_ret2
    exact ⟨Mi _ _,.inl ⟨by rw [HE.out];decide,by rw [HE.out];rfl⟩⟩
  ·obtain rfl : k=n:=by omega
   have HE : Hid (qR l m=0):=by show _=_;rw [qR,Mg ⟨by omega,by omega,λi hi=>hall.out i (by rw [<- Hl.out];exact hi)⟩]
   go_wp2_with fail
   go_loopw [8,9] (λsv iv wr=>∃(t : Nat) (aq : OA) (cq : Nat),t<=m/\iv = .int .i64 ((m - t : Nat) : Int)/\sv = .slice aq (iK l m t).length cq/\wr.ownsRow w.heap.size 3 1 (.slice aq (iK l m t).length cq) (iK l m t).length ((iK l m t).map (Value.int .i64))/\Rs w wr)
    (λ_ iv _=>(intOf iv).toNat)
   case atStart=>exact ⟨0,none,0,Mj _,rfl,rfl,bP,Mi _ _⟩
   case round =>
    obtain ⟨t,aq,cq,ht,rfl,rfl,hop,hbr⟩:=hrel
    have hlen:=vq l m t
    by_cases htm : t<m
    ·obtain ⟨x,hx⟩ : ∃x : Nat,m - t=x:=⟨_,rfl⟩
     have hx1 : 1<=x:=by omega
     have e1 : (m : Int)+1 - (x : Int)=((t : Int)+1):=by omega
     have e2 : (x : Int) - 1=((m - (t+1) : Nat) : Int):=by omega
     rw [hx]
     by_cases hm : (x : Int) ∈ l
     ·have Hst : Hid (iK l m (t+1)=iK l m t):=by show _=_;rw [iK,hx,Mg hm]
      have hc:=bI a k c l x wr (hi.ah hbr)
      rw [show decide ((x : Int) ∈ l)=true by simpa using hm] at hc
      have Hc:=Z5 hc
      clear hm hc
      generalize iK l m t=out at *
      go_wp2_with (go_at_call 68;refine Hc.out.mono ?_;rintro e w' ⟨rfl,rfl⟩)
      go_roundw
      case rel=>exact ⟨t+1,aq,cq,by omega,by rw [<- e2],by rw [Hst.out],by rw [Hst.out];exact hop,hbr⟩
      case measure=>simp [intOf] <;> omega
     ·have Hst : Hid (iK l m (t+1)=iK l m t ++ [(t : Int)+1]):=by show _=_;rw [iK,hx,Mh hm]
      have hc:=bI a k c l x wr (hi.ah hbr)
      rw [show decide ((x : Int) ∈ l)=false by simpa using hm] at hc
      have Hc:=Z5 hc
      clear hm hc
      generalize iK l m t=out at *
      have hcn:=bm wr (.int .i64 ((t : Int)+1)) 3
      have hbn:=aB wr (.cells #[.int .i64 ((t : Int)+1)] 3)
      have hsz:=hbr.size
      go_wp2_with fail
      refine Hc.out.mono ?_
      rintro e w2 ⟨rfl,hw2⟩
      rw [hw2]
      clear hw2
      go_wp2_with (at_builtin;refine bj rfl _ _ 22 3 rfl (.int .i64 0) 8 underlying22 bt rfl w.heap.size aq out.length cq _ rfl (hop.alloc _) ⟨wr.heap.size,0,none⟩ 1 (.int .i64 ((t : Int)+1)) rfl hcn rfl (by omega) (by unfold maxLen;omega) (by simp;omega) ?_;intro a5 c5 w5 hown5 hgr5 hap5)
      go_roundw
      case rel =>
       refine ⟨t+1,a5,c5,by omega,by rw [<- e2],by rw [Hst.out];simp,?_,QT (MS hbr (hbn.mono hsz)) (hop.alloc _) hgr5 (Mf _) (Mt hsz hbn.size)⟩
       rw [Hst.out];simpa using hown5
      case measure=>simp [intOf] <;> omega
    ·obtain rfl : t=m:=by omega
     rw [NS]
     go_wp2_with fail
     go_ret2
     exact ⟨hbr,.inr ⟨HE.out,aq,cq,rfl,hop⟩⟩
def E6 (P M : Int) (mod : Lz) (N : Int) (L : ZZ) (S : Lz) : Int:=if aH P M mod N L=0 then (if bG N S=true then 0 else 6) else aH P M mod N L
def Cb (P M : Int) (mod : Lz) (N : Int) (L : ZZ) (S : Lz) (w : World) (e : Ending) (w' : World) : Prop :=
 Rs w w'/\((E6 P M mod N L S ≠ 0/\e = .returned (.tuple #[.agg #[.int .i64 0,.int .i64 0,.slice none 0 0,.int .i64 0,.slice none 0 0],.int .i64 (E6 P M mod N L S)])) \/
  (E6 P M mod N L S=0/\∃a1 c1 a2 c2,e = .returned (.tuple #[.agg #[.int .i64 P,.int .i64 M,.slice a1 mod.length c1,.int .i64 N,.slice a2 (fI (aa P M.toNat mod) N.toNat L S).length c2],.int .i64 0])/\cA w.heap.size w' a1 mod.length mod /\
   bX w.heap.size w' a2 (fI (aa P M.toNat mod) N.toNat L S).length (fI (aa P M.toNat mod) N.toNat L S)))
theorem pc {P M : Int} {mod : Lz} {m : Nat} {L : ZZ} (hE : aH P M mod m L=0) (S : Lz) :
  bx (aa P M.toNat mod).El m (fI (aa P M.toNat mod) m L S)/\(fI (aa P M.toNat mod) m L S).length<=m/\eW (aa P M.toNat mod) (fI (aa P M.toNat mod) m L S) m=fI (aa P M.toNat mod) m L S /\
   K6 (aa P M.toNat mod) m L S=fI (aa P M.toNat mod) m L S:=by
 obtain ⟨N',em,hm1,hm64,F,hR⟩:=aS hE;obtain rfl : m=N':=by omega
 have hT:=mO (Z:=aL false S m) F hR;have hMr:=my (O:=(aa P M.toNat mod).ops) F hR (jn F hT);refine ⟨F6 F hR,?_,uP F hMr,?_⟩
 ·have h1:=bY F hMr;have h2:=(fH (aa P M.toNat mod).ops (pC (aa P M.toNat mod).ops m (iO (aa P M.toNat mod).ops L.length ((List.range (aL false S m).length).map (aK (L.map (aO (aL false S m)))))) L) m).1;show (dX (aa P M.toNat mod).ops m _).length<=m;omega
 ·rw [Jh];exact (DG F hR λz hz=>by obtain ⟨i,h1,h2,_⟩:=(bh m).1 hz;omega).symm
theorem Et {P M : Int} {mod : Lz} {N : Int} {L : ZZ} (h : aH P M mod N L=0) : ∃m : Nat,N=m:=by obtain ⟨m,e,_⟩:=aS h;exact ⟨m,e⟩
theorem rG (P M : Int) (am : OA) (mn cm : Nat) (mod : Lz) (N : Int) (a : OA) (n c : Nat) (L : ZZ) (as' : OA) (ns cs : Nat) (S : Lz) (w : World) (hmod : Ints w am mn mod) (hi : cU w a n L) (hs : Ints w as' ns S) :
  Calls prog 94 #[.agg #[.int .i64 P,.int .i64 M,.slice am mn cm,.int .i64 N,.slice a n c],.slice as' ns cs] w (Cb P M mod N L S w):=by
 go_enter func94,ntmps94;go_wp2_with fail;obtain ⟨W,hW⟩ : ∃W : World,W=(w.alloc (.cells #[.int .i64 P,.int .i64 M,.slice am mn cm,.int .i64 N,.slice a n c] 27)).alloc (.cells #[.int .i64 0,.int .i64 0,.slice none 0 0,.int .i64 0,.slice none 0 0] 27):=⟨_,rfl⟩
 rw [<- hW];have hbW : Rs w W:=by rw [hW];exact iD _ _ _
 have hsW : W.heap.size=w.heap.size+2:=by rw [hW];simp
 have x0 : bf W w.heap.size [.int .i64 P,.int .i64 M,.slice am mn cm,.int .i64 N,.slice a n c]:=by rw [hW];exact (QS _ _ _ rfl).alloc _
 have z0 : bf W (w.heap.size+1) [.int .i64 0,.int .i64 0,.slice none 0 0,.int .i64 0,.slice none 0 0]:=by rw [hW];exact QS _ _ _ (by simp)
 clear hW;refine (ez P M am mn cm mod N a n c L W (hmod.ah hbW) (hi.ah hbW)).mono ?_;rintro e w1 ⟨rfl,hb1⟩;have HbW:=Z5 hbW;have HErr : Hid (∀V er,E6 P M mod N L S=er->er ≠ 0->Rs W V->Cb P M mod N L S w (.returned (.tuple #[.agg #[.int .i64 0,.int .i64 0,.slice none 0 0,.int .i64 0,.slice none 0 0],.int .i64 er])) (((((V.setCell ⟨w.heap.size+1,0,none⟩ (.int .i64 0)).setCell ⟨w.heap.size+1,1,none⟩ (.int .i64 0)).setCell ⟨w.heap.size+1,2,none⟩ (.slice none 0 0)).setCell ⟨w.heap.size+1,3,none⟩ (.int .i64 0)).setCell ⟨w.heap.size+1,4,none⟩ (.slice none 0 0))):=λV er h1 h2 hV =>
  ⟨(((((QQ hbW hV).setCell (p:=⟨w.heap.size+1,0,none⟩) (by simp) _).setCell (p:=⟨w.heap.size+1,1,none⟩) (by simp) _).setCell (p:=⟨w.heap.size+1,2,none⟩) (by simp) _).setCell (p:=⟨w.heap.size+1,3,none⟩) (by simp) _).setCell (p:=⟨w.heap.size+1,4,none⟩) (by simp) _,.inl ⟨by rw [h1];exact h2,by rw [h1]⟩⟩
 have HS : Hid (∀V,Rs W V->V.cell? ⟨w.heap.size,0,none⟩=some (.int .i64 P)/\V.cell? ⟨w.heap.size,1,none⟩=some (.int .i64 M)/\V.cell? ⟨w.heap.size,2,none⟩=some (.slice am mn cm)/\V.cell? ⟨w.heap.size,3,none⟩=some (.int .i64 N)/\V.cell? ⟨w.heap.size,4,none⟩=some (.slice a n c) /\
   bf V (w.heap.size+1) [.int .i64 0,.int .i64 0,.slice none 0 0,.int .i64 0,.slice none 0 0]):=λV hV=>by have x1:=x0.ah hV;exact ⟨x1.cell 0 rfl,x1.cell 1 rfl,x1.cell 2 rfl,x1.cell 3 rfl,x1.cell 4 rfl,z0.ah hV⟩
 have HsW:=Z5 hsW;clear x0 z0 hsW;by_cases hE : aH P M mod N L=0;rotate_left
 ·obtain ⟨c0,c1,c2,c3,c4,zz⟩:=HS.out w1 hb1;have z0:=zz.cell 0 rfl;have z1:=zz.cell 1 rfl;have z2:=zz.cell 2 rfl;have z3:=zz.cell 3 rfl;have z4:=zz.cell 4 rfl;have f0:=zz.frozen 0;have f1:=zz.frozen 1;have f2:=zz.frozen 2;have f3:=zz.frozen 3;have f4:=zz.frozen 4;have HR:=Z5 (HErr.out w1 _ (Mh hE) hE hb1);have hE' : (aH P M mod N L != 0)=true:=by simpa using hE
  clear hE zz;generalize aH P M mod N L=er at *;go_wp2_with fail;exact bodyPost_ret (v:=.tuple #[.agg #[.int .i64 0,.int .i64 0,.slice none 0 0,.int .i64 0,.slice none 0 0],.int .i64 er]) (by simp [results,results94,go_sem,z0,z1,z2,z3,z4]) rfl HR.out
 obtain ⟨m,rfl⟩:=Et hE;obtain ⟨hB,hm1,hm64,_⟩:=bL hE;have hmn : mn<=1000000:=by have h:=JR hB;rw [hmod.len] at h;omega
 obtain ⟨u1,u2,u3,_⟩:=pc hE S;have hbw1:=QQ hbW hb1;have HSp : Hid (Calls prog 84 #[.agg #[.int .i64 P,.int .i64 M,.slice am mn cm],.agg #[.int .i64 m,.slice a n c],.slice as' ns cs] w1 (nm P M mod m L S w1)):=uc P M am mn cm mod m a n c L as' ns cs S w1 (hmod.ah hbw1) (hi.ah hbw1) (hs.ah hbw1) hE;have HNw : Hid (∀V a1 c1,Rs w V->cU V a1 (fI (aa P M.toNat mod) m L S).length (fI (aa P M.toNat mod) m L S)->Calls prog 90 #[.agg #[.int .i64 P,.int .i64 M,.slice am mn cm],.agg #[.int .i64 m,.slice a1 (fI (aa P M.toNat mod) m L S).length c1]] V λe w' =>
   ∃a1 c1 a2 c2,e = .returned (.tuple #[.agg #[.int .i64 P,.int .i64 M,.slice a1 mod.length c1,.int .i64 m,.slice a2 (fI (aa P M.toNat mod) m L S).length c2],.int .i64 0])/\cA V.heap.size w' a1 mod.length mod /\
    bX V.heap.size w' a2 (fI (aa P M.toNat mod) m L S).length (fI (aa P M.toNat mod) m L S)/\Rs V w'):=λV a1 c1 hV h1=>by have h:=zB P M am mn cm mod m a1 _ c1 _ V (hmod.ah hV) h1 (qV hB u1 (by omega) (by omega)) (by omega) (by omega) hmn;unfold tM at h;rw [u3] at h;exact h
 have HE0 : Hid (bG m S=true->E6 P M mod m L S=0):=λh=>by show E6 _ _ _ _ _ _=0;unfold E6;rw [Mg hE,Mg h]
 have HE6 : Hid (bG m S=false->E6 P M mod m L S=6):=λh=>by show E6 _ _ _ _ _ _=6;unfold E6;rw [Mg hE,Mh (by rw [h];decide)]
 have HPost : Hid (∀a1 c1 a2 c2 w',E6 P M mod m L S=0->cA w.heap.size w' a1 mod.length mod->bX w.heap.size w' a2 (fI (aa P M.toNat mod) m L S).length (fI (aa P M.toNat mod) m L S)->Rs w w' ->
   Cb P M mod m L S w (.returned (.tuple #[.agg #[.int .i64 P,.int .i64 M,.slice a1 mod.length c1,.int .i64 m,.slice a2 (fI (aa P M.toNat mod) m L S).length c2],.int .i64 0])) w'):=λa1 c1 a2 c2 w' h0 h1 h2 h3=>⟨h3,.inr ⟨h0,a1,c1,a2,c2,by rw [Mm],h1,by rw [Mm];exact h2⟩⟩
 unfold nm at HSp;rw [hE];obtain ⟨D,hD⟩ : ∃D,fI (aa P M.toNat mod) m L S=D:=⟨_,rfl⟩
 rw [hD] at HSp HNw HPost;obtain ⟨d,hd⟩ : ∃d,D.length=d:=⟨_,rfl⟩
 rw [hd] at HSp HNw HPost;clear hE hD hd hB u1 u2 u3;obtain ⟨c0,c1,c2,c3,c4,_⟩:=HS.out w1 hb1;go_wp2_with fail;refine HSp.out.mono ?_;rintro e w2 ⟨hb2,⟨hok,rfl⟩ | ⟨hok,a2,c2',rfl,hN2⟩⟩
 ·have hb3 : Rs W (w2.alloc (.cells #[.int .i64 0,.slice none 0 0] 82)):=QQ (QQ hb1 hb2) (aB _ _);have HR:=Z5 (HErr.out _ _ (HE6.out hok) (by decide) hb3);obtain ⟨_,_,_,_,_,zz⟩:=HS.out _ hb3;clear c0 c1 c2 c3 c4;go_upto_region 5 with fail;obtain ⟨V,hV⟩ : ∃V,w2.alloc (.cells #[.int .i64 0,.slice none 0 0] 82)=V:=⟨_,rfl⟩
  rw [hV] at HR zz ⊢;clear hV;have z0:=zz.cell 0 rfl;have z1:=zz.cell 1 rfl;have z2:=zz.cell 2 rfl;have z3:=zz.cell 3 rfl;have z4:=zz.cell 4 rfl;have f0:=zz.frozen 0;have f1:=zz.frozen 1;have f2:=zz.frozen 2;have f3:=zz.frozen 3;have f4:=zz.frozen 4;clear zz;go_wp2_with fail;exact bodyPost_ret (v:=.tuple #[.agg #[.int .i64 0,.int .i64 0,.slice none 0 0,.int .i64 0,.slice none 0 0],.int .i64 6]) (by simp [results,results94,go_sem,z0,z1,z2,z3,z4]) rfl HR.out
 ·have hb3 : Rs W (w2.alloc (.cells #[.int .i64 m,.slice a2 d c2'] 82)):=QQ (QQ hb1 hb2) (aB _ _);have hBx : bf (w2.alloc (.cells #[.int .i64 m,.slice a2 d c2'] 82)) w2.heap.size [.int .i64 m,.slice a2 d c2']:=QS _ _ _ rfl;have hN3:=hN2.ah (aB w2 (.cells #[.int .i64 m,.slice a2 d c2'] 82));have HNV:=Z5 (HNw.out _ a2 c2' (QQ hbW hb3) hN3.rC);obtain ⟨g,hg⟩ : ∃g,w2.heap.size=g:=⟨_,rfl⟩
  clear c0 c1 c2 c3 c4 hN2 hN3;go_upto_region 5 with fail;obtain ⟨V,hV⟩ : ∃V,w2.alloc (.cells #[.int .i64 m,.slice a2 d c2'] 82)=V:=⟨_,rfl⟩
  rw [hV] at HNV hBx hb3 ⊢;rw [hg] at hBx;clear hV hg hb2;obtain ⟨c0,c1,c2,c3,c4,_⟩:=HS.out V hb3;have g0:=hBx.cell 0 rfl;have g1:=hBx.cell 1 rfl;go_wp2_with fail;refine HNV.out.mono ?_;rintro e w6 ⟨a6,c6,a5,c5,rfl,hN6,hM6,hb6⟩;clear c0 c1 c2 c3 c4 g0 g1;obtain ⟨_,_,_,_,_,zz6⟩:=HS.out w6 (QQ hb3 hb6);have z0:=zz6.cell 0 rfl;have z1:=zz6.cell 1 rfl;have z2:=zz6.cell 2 rfl;have z3:=zz6.cell 3 rfl;have z4:=zz6.cell 4 rfl;have f0:=zz6.frozen 0;have f1:=zz6.frozen 1;have f2:=zz6.frozen 2;have f3:=zz6.frozen 3;have f4:=zz6.frozen 4;have hbF:=QQ HbW.out (QQ hb3 hb6);have hs':=HsW.out;have hs2:=hb3.size;have hFin:=HPost.out a6 c6 a5 c5 (((((w6.setCell ⟨w.heap.size+1,0,none⟩ (.int .i64 P)).setCell ⟨w.heap.size+1,1,none⟩ (.int .i64 M)).setCell ⟨w.heap.size+1,2,none⟩ (.slice a6 mod.length c6)).setCell ⟨w.heap.size+1,3,none⟩ (.int .i64 m)).setCell ⟨w.heap.size+1,4,none⟩ (.slice a5 d c5)) (HE0.out hok)
   ((((((hN6.setCell (p:=⟨w.heap.size+1,0,none⟩) (by simp;omega) _).setCell (p:=⟨w.heap.size+1,1,none⟩) (by simp;omega) _).setCell (p:=⟨w.heap.size+1,2,none⟩) (by simp;omega) _).setCell (p:=⟨w.heap.size+1,3,none⟩) (by simp;omega) _).setCell (p:=⟨w.heap.size+1,4,none⟩) (by simp;omega) _).mono (by omega))
   ((((((hM6.setCell (p:=⟨w.heap.size+1,0,none⟩) (by simp;omega) _).setCell (p:=⟨w.heap.size+1,1,none⟩) (by simp;omega) _).setCell (p:=⟨w.heap.size+1,2,none⟩) (by simp;omega) _).setCell (p:=⟨w.heap.size+1,3,none⟩) (by simp;omega) _).setCell (p:=⟨w.heap.size+1,4,none⟩) (by simp;omega) _).mono (by omega))
   (((((hbF.setCell (p:=⟨w.heap.size+1,0,none⟩) (by simp) _).setCell (p:=⟨w.heap.size+1,1,none⟩) (by simp) _).setCell (p:=⟨w.heap.size+1,2,none⟩) (by simp) _).setCell (p:=⟨w.heap.size+1,3,none⟩) (by simp) _).setCell (p:=⟨w.heap.size+1,4,none⟩) (by simp) _)
  have HFin:=Z5 hFin;clear hFin hM6 hN6 zz6;go_wp2_with fail;exact bodyPost_ret (v:=.tuple #[.agg #[.int .i64 P,.int .i64 M,.slice a6 mod.length c6,.int .i64 m,.slice a5 d c5],.int .i64 0]) (by simp [results,results94,go_sem,z0,z1,z2,z3,z4]) rfl HFin.out
section
variable {O : aJ} {El : Int->Prop} {m : Nat} {L : ZZ}
theorem nU (t : Lz) : ue 0 m (aL false t m):=⟨eK false t m,λx hx=>by obtain ⟨j,hj,rfl,_⟩:=(bh m).1 hx;omega⟩
theorem vl {t : Lz} (ht : ue 0 m t) : aL false (aL false t m) m=t:=by
 refine oD (eK false _ m) ht.1 λv=>?_;rw [bh];constructor
 ·rintro ⟨j,hj,rfl,h⟩;rw [decide_eq_false_iff_not] at h;refine Mv λhn=>h ((bh m).2 ⟨j,hj,rfl,by simpa using hn⟩)
 ·intro hv;have h1:=ht.2 v hv;refine ⟨v.toNat,by omega,by omega,?_⟩;rw [decide_eq_false_iff_not];intro h2;obtain ⟨j,hj,e,h3⟩:=(bh m).1 h2;rw [decide_eq_false_iff_not] at h3;refine h3 ?_;have : (j : Int)=v:=by omega
  rw [this];exact hv
theorem Fv {t : Lz} (ht : ue 0 m t) : aL true t m=t:=by
 refine oD (eK true _ m) ht.1 λv=>?_;rw [bh];constructor
 ·rintro ⟨j,hj,rfl,h⟩;exact OL h
 ·intro hv;have h1:=ht.2 v hv;refine ⟨v.toNat,by omega,by omega,?_⟩;rw [MG];have : (v.toNat : Int)=v:=by omega
  rw [this];exact hv
theorem ou {t : Lz} (ht : ue 0 m t) : (aL false t m).length+t.length=m:=by have h:=sd t m;rw [Fv ht] at h;exact h
theorem en (F : bR O El) (hL : bx El m L) (hm : m<=64) {i : Nat} (hi : i<=m) : (∀t,ue 0 m t->t.length=i->fQ O L m t<=gT O L m i)/\∃t,ue 0 m t/\t.length=i/\gT O L m i=fQ O L m t:=by
 obtain ⟨g1,g2,g3⟩:=sP (fQ O L m) (gS m i 0) (gS m i 0).length;have hA : ∀t,ue 0 m t->t.length=i->fQ O L m t<=gT O L m i:=λt ht hl=>by obtain ⟨q,hq,e⟩:=fJ (dC.2 ⟨hl,ht⟩);have:=g2 q hq;rw [e] at this;exact this
 refine ⟨hA,?_⟩;rcases g3 with g3 | ⟨j,a1,a2⟩
 ·obtain ⟨t,ht,hl⟩ : ∃t,ue 0 m t/\t.length=i:=by
   have h0 : ue 0 m (aL true ((List.range i).map λ(x : Nat)=>(x : Int)) m):=⟨eK true _ m,λx hx=>by obtain ⟨j,hj,rfl,_⟩:=(bh m).1 hx;omega⟩
   have h1 : aL true ((List.range i).map λ(x : Nat)=>(x : Int)) m=(List.range i).map λ(x : Nat)=>(x : Int):=by
    refine oD (eK true _ m) ?_ λv=>?_
    ·rw [Nr];exact List.pairwise_lt_range.imp λh=>by omega
    ·rw [bh];constructor
     ·rintro ⟨j,hj,rfl,h⟩;exact OL h
     ·intro hv;obtain ⟨j,hj,rfl⟩:=List.mem_map.1 hv;rw [M8] at hj;exact ⟨j,by omega,rfl,by rw [MG];exact hv⟩
   rw [h1] at h0;exact ⟨_,h0,by simp⟩
  refine ⟨t,ht,hl,?_⟩;have h1:=hA t ht hl;obtain ⟨x,hx,e⟩:=oJ hm ht;have h2:=(Jw F hL hx).1;rw [<- kR F hL hx,e] at h2;have : gT O L m i=0:=g3;omega
 ·obtain ⟨b1,b2⟩:=dC.1 (dj a1);exact ⟨_,b2,b1,a2⟩
theorem tG (F : bR O El) (hL : bx El m L) (hm : m<=64) {i : Nat} (hi : i<m) : gT O L m (i+1)<=gT O L m i+1:=by
 obtain ⟨t,ht,hl,e⟩:=(en F hL hm (show i+1<=m by omega)).2;obtain ⟨s,x,rfl⟩ : ∃s x,t=s ++ [x]:=by
  rcases List.eq_nil_or_concat t with h | ⟨s,x,h⟩
  ·rw [h] at hl;simp at hl
  ·exact ⟨s,x,by simpa using h⟩
 have hs : ue 0 m s:=⟨(List.pairwise_append.1 ht.1).1,λy hy=>ht.2 y (by simp [hy])⟩
 have h1:=(en F hL hm (show i<=m by omega)).1 s hs (by simp at hl;omega);have h2 : jI O L (aL false s m)<=jI O L (aL false (s ++ [x]) m ++ [x]):=sH F hL λy hy=>by
  obtain ⟨j,hj,rfl,h⟩:=(bh m).1 hy;rw [decide_eq_false_iff_not] at h;by_cases hx : (j : Int)=x
  ·rw [hx];simp
  ·exact List.mem_append.2 (.inl ((bh m).2 ⟨j,hj,rfl,by simp [h,hx]⟩))
 have h3:=ma F hL (aL false (s ++ [x]) m) x;unfold fQ at h1 e;omega
end
section
variable {P M : Int} {mod : Lz} {m : Nat} {L : ZZ}
theorem An (hE : aH P M mod m L=0) {t : Lz} (ht : ue 0 m t) :
  fQ (aa P M.toNat mod).ops (ei (aa P M.toNat mod) L m) m t=t.length - L.length+fQ (aa P M.toNat mod).ops L m (aL false t m):=by
 obtain ⟨N',e,hm1,hm64,F,hR⟩:=aS hE;obtain rfl : m=N':=by omega
 obtain ⟨hKR,hO,hlm,hrk⟩:=nB hE;have hfull:=gg hE;have hc:=nU (m:=m) t;have hcl:=ou ht;have h1:=wM F hR hKR hO hlm hfull hrk (S:=gA (aL false t m)) (C:=gA t) (λx hx=>by
  obtain ⟨y,hy,rfl⟩:=dp.1 hx;have:=hc.2 y hy;omega) (λx hx=>by
  obtain ⟨y,hy,rfl⟩:=dp.1 hx;have:=ht.2 y hy;omega) (λp hpm=>by
  by_cases hpA : (p : Int) ∈ t
  ·exact .inr (dp.2 ⟨_,hpA,by simp⟩)
  ·exact .inl (dp.2 ⟨(p : Int),(bh m).2 ⟨p,hpm,rfl,by simpa using hpA⟩,by simp⟩)) (by rw [Cw,Cw];exact hcl) (dP F hR t) (dP F hKR (aL false t m))
 rw [Cw] at h1;unfold fQ;rw [vl ht];omega
theorem sG (hE : aH P M mod m L=0) {i : Nat} (hi : i<=m) :
  gT (aa P M.toNat mod).ops (ei (aa P M.toNat mod) L m) m i=i - L.length+gT (aa P M.toNat mod).ops L m (m - i):=by
 obtain ⟨N',e,hm1,hm64,F,hR⟩:=aS hE;obtain rfl : m=N':=by omega
 obtain ⟨hKR,_,_,_⟩:=nB hE;obtain ⟨a1,t,a2,a3,a4⟩:=en F hKR hm64 hi;obtain ⟨b1,s,b2,b3,b4⟩:=en F hR hm64 (show m - i<=m by omega);have h1:=b1 (aL false t m) (nU t) (by have:=ou a2;omega);have h2:=An hE a2;have h3:=a1 (aL false s m) (nU s) (by have:=ou b2;omega);have h4:=An hE (nU (m:=m) s);rw [vl b2] at h4;have h5:=ou b2;rw [a3] at h2;omega
theorem kO (hE : aH P M mod m L=0) : ∀(d i : Nat),i+d<=m->gT (aa P M.toNat mod).ops L m i<=gT (aa P M.toNat mod).ops L m (i+d)
 | 0,i,_=>Ob _
 | d+1,i,hi=>by
  obtain ⟨N',e,hm1,hm64,F,hR⟩:=aS hE;obtain rfl : m=N':=by omega
  have ih:=kO hE d i (by omega);have h1:=tG F (nB hE).1 hm64 (show m - (i+d) - 1<m by omega);rw [show m - (i+d) - 1+1=m - (i+d) by omega,sG hE (by omega),sG hE (by omega)] at h1;rw [show m - (m - (i+d))=i+d by omega,show m - (m - (i+d) - 1)=i+(d+1) by omega] at h1;omega
theorem xZ (hE : aH P M mod m L=0) : gT (aa P M.toNat mod).ops L m 0=0:=by
 obtain ⟨N',e,hm1,hm64,F,hR⟩:=aS hE;obtain rfl : m=N':=by omega
 obtain ⟨_,t,a2,a3,a4⟩:=en F hR hm64 (Mj m);obtain rfl : t=[]:=List.length_eq_zero_iff.1 a3;have h1:=Q9 (da F hR) (gg hE) (dP F hR (aL false [] m)) λx=>by
  rw [M8,dp];constructor
  ·intro hx;exact ⟨(x : Int),(bh m).2 ⟨x,hx,rfl,by simp⟩,by simp⟩
  ·rintro ⟨y,hy,rfl⟩;obtain ⟨j,hj,rfl,_⟩:=(bh m).1 hy;simpa using hj
 rw [a4];unfold fQ;omega
theorem AF (hE : aH P M mod m L=0) : gT (aa P M.toNat mod).ops L m 0=0/\gT (aa P M.toNat mod).ops L m m=L.length:=by refine ⟨xZ hE,?_⟩;have h1:=xZ (ER hE).1;rw [sG hE (Mj m)] at h1;rw [OS] at h1;omega
theorem J2 (hE : aH P M mod m L=0) {v : Int} : v ∈ lu (aa P M.toNat mod).ops L m L.length ↔ ∃i : Nat,i<m/\v=(i : Int)+1/\gT (aa P M.toNat mod).ops L m (i+1)=gT (aa P M.toNat mod).ops L m i+1:=by
 obtain ⟨N',e,hm1,hm64,F,hR⟩:=aS hE;obtain rfl : m=N':=by omega
 obtain ⟨p0,pm⟩:=AF hE;have hfir : ∀r : Int,1<=r->r<=L.length->∃d : Nat,(dM (aa P M.toNat mod).ops L m r).length=d+1/\d<m/\gT (aa P M.toNat mod).ops L m (d+1)=r/\gT (aa P M.toNat mod).ops L m d=r - 1:=λr h1 h2=>by
  obtain ⟨a1,a2,a3⟩:=iP F hR hm64 h2;have hl:=kb a1 (Mj m);obtain ⟨b1,_⟩:=en F hR hm64 (show (dM (aa P M.toNat mod).ops L m r).length<=m by omega);have h3:=b1 _ a1 rfl;have hne : (dM (aa P M.toNat mod).ops L m r).length ≠ 0:=λh=>by rw [h] at h3;omega
  obtain ⟨d,hd⟩ : ∃d,(dM (aa P M.toNat mod).ops L m r).length=d+1:=⟨(dM (aa P M.toNat mod).ops L m r).length - 1,by omega⟩
  rw [hd] at h3 hl;have h4:=tG F hR hm64 (show d<m by omega);obtain ⟨_,t,c1,c2,c3⟩:=en F hR hm64 (show d<=m by omega);have h5 : gT (aa P M.toNat mod).ops L m d<r:=by
   rcases Qx (gT (aa P M.toNat mod).ops L m d) r with h | h
   ·exact h
   ·have:=a3 t c1 (by rw [<- c3];exact h);omega
  exact ⟨d,hd,by omega,by omega,by omega⟩
 unfold lu;rw [Oc];constructor
 ·rintro ⟨r,hr,rfl⟩;rw [M8] at hr;obtain ⟨d,h1,h2,h3,h4⟩:=hfir ((r : Int)+1) (by omega) (by omega);exact ⟨d,h2,by rw [h1];omega,by omega⟩
 ·rintro ⟨i,hi,rfl,h⟩;have q0:=kO hE i 0 (by omega);have qm:=kO hE (m - (i+1)) (i+1) (by omega);rw [OP,p0] at q0;rw [show i+1+(m - (i+1))=m by omega,pm] at qm;refine ⟨(gT (aa P M.toNat mod).ops L m i).toNat,by rw [M8];omega,?_⟩;have e1 : (((gT (aa P M.toNat mod).ops L m i).toNat : Nat) : Int)+1=gT (aa P M.toNat mod).ops L m (i+1):=by omega
  rw [e1];obtain ⟨d,h1,h2,h3,h4⟩:=hfir (gT (aa P M.toNat mod).ops L m (i+1)) (by omega) (by omega);rw [h1];have : d=i:=by
   rcases Pz d i with h5 | h5 | h5
   ·have:=kO hE (i - (d+1)) (d+1) (by omega);rw [show d+1+(i - (d+1))=i by omega] at this;omega
   ·exact h5
   ·have:=kO hE (d - (i+1)) (i+1) (by omega);rw [show i+1+(d - (i+1))=d by omega] at this;omega
  omega
theorem CC (hE : aH P M mod m L=0) : (lu (aa P M.toNat mod).ops L m L.length).Pairwise (· < ·):=by
 obtain ⟨N',e,hm1,hm64,F,hR⟩:=aS hE;obtain rfl : m=N':=by omega
 unfold lu;rw [Nr];refine List.pairwise_lt_range.imp_of_mem λ{r s} hr hs h=>?_;rw [M8] at hr hs;obtain ⟨a1,a2,a3⟩:=iP F hR hm64 (show (r : Int)+1<=L.length by omega);obtain ⟨b1,b2,b3⟩:=iP F hR hm64 (show (s : Int)+1<=L.length by omega);have h1:=a3 _ b1 (by omega);have hl:=kb a1 (Mj m);have hl2:=kb b1 (Mj m);obtain ⟨p0,_⟩:=AF hE;have c1:=(en F hR hm64 (show (dM (aa P M.toNat mod).ops L m ((s : Int)+1)).length<=m by omega)).1 _ b1 rfl;have hne : (dM (aa P M.toNat mod).ops L m ((s : Int)+1)).length ≠ 0:=λh=>by rw [h] at c1;omega
 obtain ⟨d,hd⟩ : ∃d,(dM (aa P M.toNat mod).ops L m ((s : Int)+1)).length=d+1:=⟨(dM (aa P M.toNat mod).ops L m ((s : Int)+1)).length - 1,by omega⟩
 rw [hd] at c1 h1 hl2;have h4:=tG F hR hm64 (show d<m by omega);obtain ⟨_,t,t1,t2,t3⟩:=en F hR hm64 (show d<=m by omega);have:=a3 t t1 (by omega);rw [hd];omega
theorem FU (hE : aH P M mod m L=0) : ∀i,i<(lu (aa P M.toNat mod).ops L m L.length).length->uY m (lu (aa P M.toNat mod).ops L m L.length) i:=λi hi=>by
 obtain ⟨j,hj,e,_⟩:=(J2 hE).1 (aN hi);refine ⟨by omega,by omega,?_⟩;rcases Na i with h0 | h0
 ·exact .inl h0
 ·refine .inr ?_;have h3:=List.pairwise_iff_getElem.1 (CC hE) (i - 1) i (by omega) hi (by omega);rw [aj hi,aj (show i - 1<(lu (aa P M.toNat mod).ops L m L.length).length by omega)];exact h3
end
section
open Go.RowKit
end
section
variable {P M : Int} {mod : Lz} {m : Nat} {L : ZZ}
theorem GQ (hE : aH P M mod m L=0) {Q : Lz} (hr : jI (aa P M.toNat mod).ops L Q<L.length) (hQ : ∀x ∈ Q,0<=x/\x<(m : Int)) :
  ∃v : Lz,v.length=L.length/\(∀x ∈ v,(aa P M.toNat mod).El x)/\cw v ≠ 0/\∀x ∈ Q,nth (bK (aa P M.toNat mod).ops m v L L.length) x.toNat=0:=by
 obtain ⟨N',e,hm1,hm64,F,hR⟩:=aS hE;obtain rfl : m=N':=by omega
 obtain ⟨y,hy,hn⟩ : ∃y,y<m/\¬ ie (aa P M.toNat mod).ops (aa P M.toNat mod).El L.length (aK L) (gA Q) y:=by
  refine Mv λhno=>?_;have h1:=Rm (da F hR) (gg hE) (dP F hR Q) λy hy=>by refine Mv λhn=>hno ⟨y,List.mem_range.1 hy,hn⟩
  omega
 obtain ⟨φ,hφ,h0,h1⟩ : ∃φ,ja (aa P M.toNat mod).ops (aa P M.toNat mod).El L.length φ/\(∀z ∈ gA Q,φ (aK L z)=0)/\φ (aK L y) ≠ 0:=by refine Mv λhno=>hn λφ hφ h0=>?_;refine Mv λh1=>hno ⟨φ,hφ,h0,h1⟩
 obtain ⟨v,hv⟩ : ∃v,v=(List.range L.length).map λt=>φ (fi L.length t):=⟨_,rfl⟩
 have hvl : v.length=L.length:=by rw [hv];simp
 have hvn : ∀t,t<L.length->nth v t=φ (fi L.length t):=λt ht=>by rw [aj (by omega)];simp [hv]
 have hve : ∀x ∈ v,(aa P M.toNat mod).El x:=λx hx=>by rw [hv] at hx;obtain ⟨t,_,rfl⟩:=List.mem_map.1 hx;exact hφ.el _ (iM F _ _)
 have hval : ∀z,z<m->nth (bK (aa P M.toNat mod).ops m v L L.length) z=φ (aK L z):=λz hz=>by rw [fV F hR (λk hk=>hve _ (aN (by omega))) hz _ (Mf _),jt F hφ (ch hR F.zero z)];exact cT _ λp hp=>⟨hvn p hp,(bM L z p hp).symm⟩
 refine ⟨v,hvl,hve,λhz=>h1 ?_,λx hx=>?_⟩
 ·rw [jt F hφ (ch hR F.zero y)];refine o6 F _ λp hp=>?_;rw [<- hvn p hp,oB.1 hz p (by omega)];exact F.kj (by rw [bM L y p hp];exact (hR _ (dj hp)).2 _ (aN (by rw [(hR _ (dj hp)).1];exact hy)))
 ·have:=hQ x hx;rw [hval _ (by omega)];exact h0 _ (dp.2 ⟨x,hx,rfl⟩)
end
section
variable {O : aJ} {El : Int->Prop} {m : Nat} {L : ZZ}
structure Ma (O : aJ) (El : Int->Prop) (m : Nat) (L : ZZ) (y t : Lz) (k : Nat) (st : LS) : Prop where
 rws : bx El m st.rows
 len : st.rows.length=L.length
 vc : Vc El m st.sum
 top : st.top=k
 kl : k<=L.length
 sup : gF O El m L st.rows
 sub : gF O El m st.rows L
 cos : ∃f,RS O El m L f/\(∀x,x<m->El (f x))/\∀x,x<m->nth st.sum x=O.add (nth y x) (f x)
 one : ∀i,i<k->nth (ai st.rows i) (nth t i).toNat=1
 zero : ∀j i,j<k->j<i->i<L.length->nth (ai st.rows i) (nth t j).toNat=0
 sz : ∀j,j<k->nth st.sum (nth t j).toNat=0
end
section
variable {P M : Int} {mod : Lz} {m : Nat} {L : ZZ}
end
section
open Go.RowKit
end
section
open Go.RowKit
end
end Go.Proofs.YtcfmiocdlcapoaaGreat
