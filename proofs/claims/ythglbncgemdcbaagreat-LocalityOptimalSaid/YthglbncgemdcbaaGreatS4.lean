import Derived.Test.YthglbncgemdcbaaGreatS3
import Derived.Lib.LazyBuf
namespace Go.Proofs.YthglbncgemdcbaaGreat
set_option linter.all false
set_option maxRecDepth 100000
set_option maxHeartbeats 1600000
open Go.RowKit Go.Proofs.Tryz
theorem aP {k : IntKind} {a b : Int} (h : a=b) : Ending.returned (.int k a) = .returned (.int k b):=by rw [h]
theorem aZ {a b : Bool} (h : a=b) : Ending.returned (.bool a) = .returned (.bool b):=by rw [h]
def aJ (p m : Int) : Int :=
 if p<2\/256<p\/m<1\/8<m then 0 else if p ^ m.toNat<=256 then p ^ m.toNat else 0
theorem lD {p m : Int} (h : p<2\/256<p\/m<1\/8<m) : aJ p m=0:=by rw [aJ,Nd h]
theorem rh {p m : Int} (h : ¬ p ^ m.toNat<=256) : aJ p m=0:=by simp [aJ,h]
theorem qg {p m : Int} (h : ¬ (p<2\/256<p\/m<1\/8<m)) (h2 : p ^ m.toNat<=256) : aJ p m=p ^ m.toNat:=by rw [aJ,Nf h,Nd h2]
theorem jW (p m : Int) (w : World) :
  Calls prog 109 #[.int .i64 p,.int .i64 m] w λe w'=>e = .returned (.int .i64 (aJ p m))/\w=w':=by
 by_cases ho : p<2\/256<p\/m<1\/8<m
 ·have Ho:=Z5 (lD ho);by_cases h1 : p<2
  ·go_enter func109,ntmps109;go_wp2;go_ret;exact ⟨aP Ho.out.symm,rfl⟩
  by_cases h2 : 256<p
  ·go_enter func109,ntmps109;go_wp2;go_ret;exact ⟨aP Ho.out.symm,rfl⟩
  by_cases h3 : m<1
  ·go_enter func109,ntmps109;go_wp2;go_ret;exact ⟨aP Ho.out.symm,rfl⟩
  have h4 : 8<m:=by omega
  clear ho;go_enter func109,ntmps109;go_wp2;go_ret;exact ⟨aP Ho.out.symm,rfl⟩
 ·obtain ⟨n,rfl⟩ : ∃n : Nat,m=n:=⟨m.toNat,by omega⟩
  have h1 : 2<=p:=by omega
  have h2 : p<=256:=by omega
  have h3 : 1<=(n : Int):=by omega
  have h4 : (n : Int)<=8:=by omega
  have Ho:=Z5 ho;clear ho;go_enter func109,ntmps109;go_wp2;go_loop [5,21] (λqv iv=>∃k : Nat,k<=n/\iv = .int .i64 k/\qv = .int .i64 (p ^ k)/\p ^ k<=256/\1<=p ^ k) (λ_ i=>n - (intOf i).toNat);case atStart=>exact ⟨0,Ni _,rfl,by simp,by simp,by simp⟩
  case round =>
   obtain ⟨k,hk,rfl,rfl,hb,hb1⟩:=hrel
   by_cases hlt : k<n
   ·have e1 : p ^ (k+1)=p ^ k * p:=N4 _ _
    have e2 : p ^ k * p<=256 * 256:=OR hb h2 (by omega) (by omega)
    have e3 : 1 * 1<=p ^ k * p:=OR hb1 (by omega) (by omega) (by omega)
    by_cases h5 : p ^ k * p<=256
    ·have E1:=Z5 e1
     clear e1
     go_wp2
     go_round
     case rel=>exact ⟨k+1,by omega,by go_num,by rw [E1.out],by rw [E1.out];exact h5,by rw [E1.out];omega⟩
     case measure=>simp [intOf] <;> omega
    ·have hbig : aJ p n=0:=rh (by intro h;have:=dy (show 1<=p by omega) (show k+1<=n by omega);rw [Nb] at h;omega)
     have Hb:=Z5 hbig
     clear e1 hbig
     go_wp2
     go_ret
     exact ⟨aP Hb.out.symm,rfl⟩
   ·obtain rfl : k=n:=by omega
    have Hb:=Z5 (qg Ho.out (by simpa using hb))
    go_wp2
    go_ret
    exact ⟨aP (by rw [Hb.out];simp),rfl⟩
def js (n : Nat) : Bool:=(List.range n).all λd=>d<2 || n % d != 0
theorem yX {n d : Nat} (h2 : 2<=d) (hd : d<n) (h : n % d=0) : js n=false:=by unfold js;rw [OU];exact ⟨d,List.mem_range.2 hd,by simp [h];omega⟩
theorem xB {n : Nat} (h : ∀d,2<=d->d<n->n % d ≠ 0) : js n=true:=by
 unfold js;rw [NW];intro d hd;have:=List.mem_range.1 hd;by_cases h2 : d<2
 ·simp [h2]
 ·simp [h d (by omega) this]
theorem BB {n D : Nat} (h : ∀d,2<=d->d<D->n % d ≠ 0) (hD : n<D * D) : js n=true:=by
 refine xB λd h2 hd h0=>?_;rcases N3 d D with h1 | h1
 ·exact h d h2 h1 h0
 ·obtain ⟨e,he⟩:=QU h0;have he2 : 2<=e:=by
   rcases N3 e 2 with h3 | h3
   ·have : e=0\/e=1:=by omega
    rcases this with rfl | rfl <;> omega
   ·exact h3
  have heD : e<D:=by
   rcases N3 e D with h3 | h3
   ·exact h3
   ·have:=PU h1 h3;omega
  exact h e he2 heD (by rw [he];exact Nat.mul_mod_left d e)
theorem l8 (n : Nat) (w : World) (h2 : 2<=n) (h256 : n<=256) :
  Calls prog 163 #[.int .i64 n] w λe w'=>e = .returned (.bool (js n))/\w=w':=by
 go_enter func163,ntmps163;go_wp2;go_loop [3] (λdv=>∃d : Nat,2<=d/\d<=n/\dv = .int .i64 d/\Hid (∀e,2<=e->e<d->n % e ≠ 0)) (λd=>n+1 - (intOf d).toNat);case atStart=>exact ⟨2,Na _,h2,rfl,λe he he2=>by omega⟩
 case round =>
  obtain ⟨d,hd2,hdn,rfl,hno⟩:=hrel
  have hd0 : (d : Int) ≠ 0:=by omega
  by_cases hs : d * d<=n
  ·have hs' : (d : Int) * d<=n:=by exact_mod_cast hs
   have hdd : d * 2<=d * d:=OW d hd2
   have b0 : (0 : Int)<=(d : Int) * d:=by exact_mod_cast Ni (d * d)
   have hdlt : d<n:=by omega
   by_cases hm : n % d=0
   ·have hm' : ((n : Int) % d == 0)=true:=by simp;exact_mod_cast hm
    have Hf:=Z5 (yX hd2 hdlt hm)
    clear hm hs hdd
    go_wp2
    go_ret
    exact ⟨aZ Hf.out.symm,rfl⟩
   ·have hm' : ((n : Int) % d == 0)=false:=by simp;exact_mod_cast hm
    have Hm:=Z5 hm
    clear hm hs hdd
    go_wp2
    go_round
    case rel =>
     refine ⟨d+1,by omega,by omega,by go_num,λe he he2=>?_⟩
     rcases N3 e d with h | h
     ·exact hno.out e he h
     ·rw [show e=d from by omega];exact Hm.out
    case measure=>simp [intOf] <;> omega
  ·have hs' : ¬ (d : Int) * d<=n:=by intro h;exact hs (by exact_mod_cast h)
   have b1 : (d : Int) * d<=65536:=(pX (by omega) (by omega) (by omega) (by omega)).2
   have b0 : (0 : Int)<=(d : Int) * d:=by exact_mod_cast Ni (d * d)
   have Hf:=Z5 (BB hno.out (by omega))
   have b2 : (2 : Int)<=n:=by omega
   clear hs
   go_wp2
   go_ret
   exact ⟨aZ (by rw [Hf.out]),rfl⟩
def dg (P M : Int) (mod : Lz) : Bool :=
 aJ P M != 0 && js P.toNat && (if M=1 then mod.length == 0 else decide ((mod.length : Int)=M) && mod.all λc=>decide (0<=c) && decide (c<P))
theorem gX {p m : Int} (h : aJ p m ≠ 0) : 2<=p/\p<=256/\1<=m/\m<=8/\p ^ m.toNat<=256/\aJ p m=p ^ m.toNat:=by
 by_cases ho : p<2\/256<p\/m<1\/8<m
 ·exact absurd (lD ho) h
 by_cases hb : p ^ m.toNat<=256
 ·exact ⟨by omega,by omega,by omega,by omega,hb,qg ho hb⟩
 ·exact absurd (rh hb) h
theorem tG (P M : Int) (am : OA) (mn cm : Nat) (mod : Lz) (w : World) (hmod : Ints w am mn mod) :
  Calls prog 108 #[.agg #[.int .i64 P,.int .i64 M,.slice am mn cm]] w λe w' =>
   e = .returned (.bool (dg P M mod))/\SW w w':=by
 have hend : SW w (w.alloc (.cells #[.int .i64 P,.int .i64 M,.slice am mn cm] 24)):=(Nc _ _).alloc (Na _) _;by_cases h0 : aJ P M=0
 ·have Hf:=Z5 (show dg P M mod=false by simp [dg,h0]);have h0' : (aJ P M == 0)=true:=by simp [h0]
  clear h0;go_enter func108,ntmps108;go_wp2_with (go_at_call 109;refine (jW _ _ _).mono ?_;rintro e w' ⟨rfl,rfl⟩);go_ret;exact ⟨aZ Hf.out.symm,hend⟩
 obtain ⟨b1,b2,b3,b4,-,-⟩:=gX h0;have h0' : (aJ P M == 0)=false:=by simp [h0]
 obtain ⟨p,rfl⟩ : ∃p : Nat,P=p:=⟨P.toNat,by omega⟩
 by_cases h1 : js p=true;case neg =>
  have Hf:=Z5 (show dg p M mod=false by simp [dg,h1])
  have h1' : js p=false:=by simpa using h1
  clear h0 h1
  go_enter func108,ntmps108
  go_wp2_with (first | (go_at_call 109;refine (jW _ _ _).mono ?_;rintro e w' ⟨rfl,rfl⟩) | (go_at_call 163;refine (l8 _ _ (by omega) (by omega)).mono ?_;rintro e w' ⟨rfl,rfl⟩))
  go_ret
  exact ⟨aZ Hf.out.symm,hend⟩
 by_cases h2 : M=1
 ·subst h2;have Hf:=Z5 (show dg p 1 mod=((mn : Int) == 0) by rw [<- hmod.len,Bool.eq_iff_iff];simp [dg,h1,h0]);clear h0;go_enter func108,ntmps108;go_wp2_with (first | (go_at_call 109;refine (jW _ _ _).mono ?_;rintro e w' ⟨rfl,rfl⟩) | (go_at_call 163;refine (l8 _ _ (by omega) (by omega)).mono ?_;rintro e w' ⟨rfl,rfl⟩));go_ret;exact ⟨aZ Hf.out.symm,hend⟩
 by_cases h3 : (mn : Int)=M;case neg =>
  have Hf:=Z5 (show dg p M mod=false by simp [dg,h2,hmod.len,h3])
  have h2' : (M == 1)=false:=by simpa using h2
  have h3' : ((mn : Int) != M)=true:=by simpa using h3
  clear h0 h2 h3
  go_enter func108,ntmps108
  go_wp2_with (first | (go_at_call 109;refine (jW _ _ _).mono ?_;rintro e w' ⟨rfl,rfl⟩) | (go_at_call 163;refine (l8 _ _ (by omega) (by omega)).mono ?_;rintro e w' ⟨rfl,rfl⟩))
  go_ret
  exact ⟨aZ Hf.out.symm,hend⟩
 subst h3;have h2' : ((mn : Int) == 1)=false:=by simpa using h2
 have hs : ∀b : Bool,(mod.all (λc=>decide (0<=c) && decide (c<(p : Int)))=b)->dg p mn mod=b:=by intro b hb;simp [dg,h0,h1,h2,hmod.len,<- hb]
 have Hs:=Z5 hs;have hpl:=hmod.pl;have hlen:=hmod.len;have hmax:=hmod.max;unfold maxLen at hmax;clear h0 h2 hs;go_enter func108,ntmps108;go_wp2_with (first | (go_at_call 109;refine (jW _ _ _).mono ?_;rintro e w' ⟨rfl,rfl⟩) | (go_at_call 163;refine (l8 _ _ (by omega) (by omega)).mono ?_;rintro e w' ⟨rfl,rfl⟩));have hcells:=hmod.ah hend;go_loop [33] (λiv=>∃k : Nat,k<=mn/\iv = .int .i64 k/\Hid (∀j,j<k->0<=nth mod j/\nth mod j<p)) (λi=>mn - (intOf i).toNat);case atStart=>exact ⟨0,Ni _,rfl,λj hj=>by omega⟩
 case round =>
  obtain ⟨k,hk,rfl,hall⟩:=hrel
  by_cases hlt : k<mn
  ·have hc:=hcells.cell k hlt
   by_cases hg : 0<=nth mod k/\nth mod k<p
   ·obtain ⟨g1,g2⟩:=hg
    go_wp2
    go_round
    case rel =>
     refine ⟨k+1,by omega,by go_num,λj hj=>?_⟩
     rcases N3 j k with h | h
     ·exact hall.out j h
     ·rw [show j=k from by omega];exact ⟨g1,g2⟩
    case measure=>simp [intOf] <;> omega
   ·have Hf:=Z5 (Hs.out false (by rw [OU];refine ⟨nth mod k,aH (by omega),?_⟩;simp;omega))
    rcases (show nth mod k<0\/(0<=nth mod k/\p<=nth mod k) by omega) with g | ⟨g,g'⟩
    all_goals
     clear hg
     go_wp2
     go_ret
     exact ⟨aZ Hf.out.symm,hend⟩
  ·obtain rfl : k=mn:=by omega
   have Hf:=Z5 (Hs.out true (by rw [NW];intro c hc;obtain ⟨j,hj,rfl⟩:=List.getElem_of_mem hc;have:=hall.out j (by omega);rw [aj hj] at this;simp [this]))
   go_wp2
   go_ret
   exact ⟨aZ Hf.out.symm,hend⟩
theorem CA : (prog.info? 4).map (λi=>(i.zero,i.size,i.bytes))=some (some (.bool false),1,1):=by kernel_rfl
def wA (S : List Bool) (l : Lz) : Prop:=∀i : Nat,i<S.length->(uJ S i=true ↔ (i : Int) ∈ l)
theorem wA.snoc {S : List Bool} {l : Lz} (h : wA S l) (i : Nat) (hi : i<S.length) : wA (S.set i true) (l ++ [(i : Int)]):=by
 intro j hj;rw [N9] at hj;rw [Bq _ _ _ _ hi];by_cases e : j=i
 ·subst e;simp
 ·rw [Nf e,h j hj];simp;omega
theorem uU.ah {w w' : World} {P : Int} {M mn : Nat} {am : OA} {mod : Lz} (h : uU w P M mn am mod) (hb : SW w w') : uU w' P M mn am mod :=
 ⟨h.p2,h.p256,h.m1,h.m8,h.pw,h.low,h.ints.ah hb,h.dig⟩
def lenVal : Value->Nat | .slice _ n _=>n | _=>0
def KE (P : Int) (M : Nat) (mod : Lz) (q : Nat) (x : Int) (w : World) (e : Ending) (w' : World) : Prop :=
 ∃a c,e = .returned (.slice a (gV P M mod q x).length c)/\w'.ownsRow w.heap.size 3 1 (.slice a (gV P M mod q x).length c) (gV P M mod q x).length ((gV P M mod q x).map (Value.int .i64))/\SW w w'
theorem DV (P : Int) (m : Nat) (am : OA) (mn cm : Nat) (mod : Lz) (q : Nat) (x : Int) (w : World) (hd : uU w P m mn am mod)
  (hq : (q : Int)=P ^ m) (hx : 0<=x) (hx2 : x<q) :
  Calls prog 164 #[.agg #[.int .i64 P,.int .i64 m,.slice am mn cm],.int .i64 q,.int .i64 x] w (KE P m mod q x w):=by
 have hq2 : 2<=q:=by have h1:=dy (show 1<=P by have:=hd.p2;omega) hd.m1;have h2:=hd.p2;rw [show (1 : Nat)=0+1 from rfl,N4,OT,Pq] at h1;omega
 have hq256 : q<=256:=by have:=hd.pw;omega
 have hPp : 0<P:=by have:=hd.p2;omega
 have Hq:=Z5 hq;clear hq;go_enter func164,ntmps164;have hq2' : (1 : Int)<q:=by omega
 have hbox : ∀w' : World,Below (w.heap.size+1) (w.alloc (.cells #[.int .i64 P,.int .i64 m,.slice am mn cm] 24)) w' ->
   w'.cell? ⟨w.heap.size,0,none⟩=some (.int .i64 P)/\w'.cell? ⟨w.heap.size,1,none⟩=some (.int .i64 m)/\w'.cell? ⟨w.heap.size,2,none⟩=some (.slice am mn cm)/\SW w w':=by intro w' h;refine ⟨(h.cell (by simp)).trans (by simp),(h.cell (by simp)).trans (by simp),(h.cell (by simp)).trans (by simp),((Nc _ _).alloc (Na _) _).trans (h.mono (by omega))⟩
 have Hbox:=Z5 hbox;clear hbox;go_wp2_with (at_make;refine bS rfl _ _ 90 4 rfl (.bool false) 1 underlying90 CA rfl q rfl rfl (by omega) (by unfold maxLen;omega) ?_;intro a w1 hown hbel hge hlt;obtain ⟨hb1,hm1⟩:=SQ (l:=List.replicate q false) (by simpa using hown);have hc1:=hb1.cell 1 (by omega);have hf1:=(hm1 (by omega)).2 1 (by omega);have hp1:=hb1.pl);generalize hW0 : w.alloc (.cells #[.int .i64 P,.int .i64 m,.slice am mn cm] 24)=W0 at *;have hW0s : W0.heap.size=w.heap.size+1:=by rw [<- hW0];simp
 have HW0:=Z5 hW0;clear hW0;have hbel2 : Below (w.heap.size+1) W0 w1:=((Nc _ _).alloc (by omega) _).trans (hbel.mono (by simp;omega));have hown1:=bd (CU W0 [1] 3 (B:=w.heap.size+1) (by omega) (by simp [maxLen])) hbel;have hown2:=bK hown 1 (by omega) (.bool true);have hown3:=fU hown1 (p:=⟨ablk a,aK a+1,none⟩) (.bool true) (.inr (by have:=hge;simp at this;show W0.heap.size ≠ ablk a;omega));have hbel3:=hbel2.setCell (p:=⟨ablk a,aK a+1,none⟩) (by have:=hge;simp at this;show w.heap.size+1<=ablk a;omega) (.bool true);have hageW : W0.heap.size+1<=ablk a:=by simpa using hge
 clear hown hown1 hbel hbel2 hb1 hm1 hc1 hf1 hge;generalize w1.setCell ⟨ablk a,aK a+1,none⟩ (.bool true)=w2 at *;rw [hW0s] at hown3;go_loopw [7,9] (λov yv wr=>∃(l : Lz) (y : Nat) (S : List Bool) (ao : OA) (c n : Nat),ov = .slice ao l.length c/\yv = .int .i64 y/\y<q /\
   wr.ownsRow (w.heap.size+1) 3 1 (.slice ao l.length c) l.length (l.map (Value.int .i64))/\wr.ownsRow (w.heap.size+1) 4 1 (.slice a q q) q (S.map Value.bool)/\gE ao (ablk a) /\
   Hid (wA S l)/\l.length+cntF S=q/\cntF S<=n/\Hid (gV P m mod q x=powTo (λy=>dQ P m mod y x) n l y)/\Below (w.heap.size+1) W0 wr)
  (λov _ _=>q - lenVal ov)
 case atStart =>
  obtain ⟨xn,rfl⟩ : ∃xn : Nat,x=xn:=⟨x.toNat,by omega⟩
  have hc:=xx (List.replicate q false) 1 (by rw [NI,Nd (by omega)])
  rw [vy] at hc
  refine ⟨[1],xn,(List.replicate q false).set 1 true,_,1,q,rfl,rfl,by omega,hown3,?_,.inr (by simp;omega),?_,?_,?_,rfl,hbel3⟩
  ·have:=aX hown2 (B':=w.heap.size+1) (by simp;omega)
   simpa [NF] using this
  ·intro j hj
   rw [Bq _ _ _ _ (by simp;omega)]
   simp only [N9,Qg] at hj
   by_cases e : j=1
   ·subst e;simp
   ·rw [Nf e];simp [uJ,hj];omega
  ·simp;omega
  ·omega
 case round =>
  obtain ⟨l,y,S,ao,c,n,rfl,rfl,hy,hownO,hownS,hapt,hsn,hcnt,hn,hfin,hbr⟩:=hrel
  obtain ⟨hbS,hmS⟩:=SQ hownS
  have hlS : S.length=q:=hbS.len
  obtain ⟨q0,q1,q2,hbw⟩:=Hbox.out wr hbr
  have hpS:=hbS.pl
  have hcy:=hbS.cell y hy
  have hyq : (y : Int)<q:=by omega
  by_cases hy0 : y=0
  ·have hstop : gV P m mod q x=l:=by rw [hfin.out];exact lA _ _ _ _ (.inl (by omega))
   have hyz : ((y : Int) != 0)=false:=by simp;omega
   have Hstop:=Z5 hstop
   clear hstop hy0
   go_wp2_with fail
   go_ret
   refine ⟨ao,c,by rw [Hstop.out];rfl,by rw [Hstop.out];exact aX hownO (by omega),hbw⟩
  have hyz : ((y : Int) != 0)=true:=by simp;omega
  have hmem:=hsn.out y (by omega)
  by_cases hyS : uJ S y=true
  ·have hstop : gV P m mod q x=l:=by rw [hfin.out];exact lA _ _ _ _ (.inr (hmem.1 hyS))
   have Hstop:=Z5 hstop
   clear hstop hmem hy0
   go_wp2_with fail
   go_ret
   refine ⟨ao,c,by rw [Hstop.out];rfl,by rw [Hstop.out];exact aX hownO (by omega),hbw⟩
  have hyF : uJ S y=false:=by simpa using hyS
  have hSy : S[y]? = some false:=by rw [NQ (by omega),<- sD (by omega),hyF]
  have hcs:=xx S y hSy
  obtain ⟨n',rfl⟩ : ∃n',n=n'+1:=⟨n - 1,by omega⟩
  have hgo : gV P m mod q x=powTo (λy=>dQ P m mod y x) n' (l ++ [(y : Int)]) (dQ P m mod y x):=by rw [hfin.out];exact vq _ _ _ _ (λh=>h.elim (λh=>by omega) (λh=>hyS (hmem.2 h)))
  have Hgo:=Z5 hgo
  have hsn2 : Hid (wA (S.set y true) (l ++ [(y : Int)])):=hsn.out.snoc y (by omega)
  have hfy:=(hmS (by omega)).2 y hy
  clear hgo hmem hy0 hyS hSy hsn hfin
  have hO2:=fU hownO (p:=⟨ablk a,aK a+y,none⟩) (.bool true) hapt
  have hS2:=bK hownS y hy (.bool true)
  rw [<- NF] at hS2
  have hB2:=hbr.setCell (p:=⟨ablk a,aK a+y,none⟩) (show w.heap.size+1<=ablk a by omega) (.bool true)
  have hzs : (wr.setCell ⟨ablk a,aK a+y,none⟩ (.bool true)).heap.size=wr.heap.size:=by simp
  have hcn : ((wr.setCell ⟨ablk a,aK a+y,none⟩ (.bool true)).alloc (.cells #[.int .i64 y] 3)).cell? ⟨wr.heap.size,0,none⟩=some (.int .i64 y):=by have h:=Q0 (wr.setCell ⟨ablk a,aK a+y,none⟩ (.bool true)) #[.int .i64 y] 3 0;rw [hzs] at h;exact h
  have hWr : W0.heap.size<=wr.heap.size:=hbr.size
  have hl256 : l.length<=256:=by omega
  have hBs : w.heap.size+1<=((wr.setCell ⟨ablk a,aK a+y,none⟩ (.bool true)).alloc (.cells #[.int .i64 y] 3)).heap.size:=by rw [Pb,hzs];omega
  go_wp2_with (at_builtin;refine aO rfl _ _ 22 3 rfl (.int .i64 0) 8 underlying22 aU rfl (w.heap.size+1) ao l.length c _ rfl (hO2.alloc _) ⟨wr.heap.size,0,none⟩ 1 (.int .i64 y) rfl hcn rfl (by omega) (by unfold maxLen;omega) hBs ?_;intro a3 c3 w3 hown3 hgr hap3;have hB3:=Sa (hB2.alloc (by rw [hzs];omega) _) (hO2.alloc _) hgr (Na _) hBs;obtain ⟨r0,r1,r2,hbw3⟩:=Hbox.out w3 hB3)
  have hmb:=zX hPp m mod y x
  rw [<- Hq.out] at hmb
  refine (sl P m am mn cm mod y x w3 (hd.ah hbw3) (by omega) (by omega) hx (by omega)).mono ?_
  rintro e w4 ⟨rfl,hb4⟩
  have hS3:=gO (hS2.alloc _) hgr hapt
  have hap4:=hap3 (ablk a) (by have h:=(eA hS2 (by omega)).2;rw [Pb];omega) hapt
  have hown4:=bd hown3 hb4
  have hS4:=bd hS3 hb4
  have hB4 : Below (w.heap.size+1) W0 w4:=hB3.trans (hb4.mono (by have:=hB3.size;omega))
  obtain ⟨y2,hy2⟩ : ∃y2 : Nat,dQ P m mod y x=y2:=⟨(dQ P m mod y x).toNat,by omega⟩
  rw [hy2] at hmb
  clear hown3 hS3 hB3 hb4 hgr hO2 hS2 hB2 hownO hownS hown2 hcn r0 r1 r2 hap3
  go_wp2_with fail
  go_roundw
  case rel =>
   refine ⟨l ++ [(y : Int)],y2,S.set y true,a3,c3,n',by simp,rfl,by omega,by simpa using hown4,hS4,hap4,hsn2,by simp;omega,by omega,?_,hB4⟩
   have:=Hgo.out
   rw [hy2] at this
   exact this
  case measure=>simp [lenVal] <;> omega
def uW (P : Int) (M : Nat) (mod : Lz) (q : Nat) (w : World) (e : Ending) (w' : World) : Prop :=
 ∃a c,e = .returned (.slice a (ji P M mod q).length c)/\w'.ownsRow w.heap.size 3 1 (.slice a (ji P M mod q).length c) (ji P M mod q).length ((ji P M mod q).map (Value.int .i64)) /\
  (ji P M mod q=[]->a=none/\c=0)/\SW w w'
theorem Gx {P : Int} {M : Nat} {mod : Lz} {q : Nat} {x : Int} (h : (gV P M mod q x).length ≠ q - 1) : je P M mod q x=false:=by simp [je,h]
theorem qS (P : Int) (m : Nat) (am : OA) (mn cm : Nat) (mod : Lz) (q : Nat) (w : World) (hd : uU w P m mn am mod)
  (hq : (q : Int)=P ^ m) :
  Calls prog 110 #[.agg #[.int .i64 P,.int .i64 m,.slice am mn cm],.int .i64 q] w (uW P m mod q w):=by
 have hq2 : 2<=q:=by have h1:=dy (show 1<=P by have:=hd.p2;omega) hd.m1;have h2:=hd.p2;rw [show (1 : Nat)=0+1 from rfl,N4,OT,Pq] at h1;omega
 have hq256 : q<=256:=by have:=hd.pw;omega
 have hPp : 0<P:=by have:=hd.p2;omega
 have Hq:=Z5 hq;clear hq;have hbox : ∀w' : World,Below (w.heap.size+1) (w.alloc (.cells #[.int .i64 P,.int .i64 m,.slice am mn cm] 24)) w' ->
   w'.cell? ⟨w.heap.size,0,none⟩=some (.int .i64 P)/\w'.cell? ⟨w.heap.size,1,none⟩=some (.int .i64 m)/\w'.cell? ⟨w.heap.size,2,none⟩=some (.slice am mn cm)/\SW w w':=by intro w' h;refine ⟨(h.cell (by simp)).trans (by simp),(h.cell (by simp)).trans (by simp),(h.cell (by simp)).trans (by simp),((Nc _ _).alloc (Na _) _).trans (h.mono (by omega))⟩
 have Hbox:=Z5 hbox;clear hbox;have hq2' : (1 : Int)<q:=by omega
 go_enter func110,ntmps110;go_wp2;generalize hW0 : w.alloc (.cells #[.int .i64 P,.int .i64 m,.slice am mn cm] 24)=W0 at *;have hW0s : W0.heap.size=w.heap.size+1:=by rw [<- hW0];simp
 clear hW0;go_loopw [5] (λxv wr=>∃x : Nat,1<=x/\x<=q/\xv = .int .i64 x/\Hid (ji P m mod q=genTo P m mod q (q - x) x)/\Below (w.heap.size+1) W0 wr) (λxv _=>q - (intOf xv).toNat);case atStart=>exact ⟨1,Na _,by omega,rfl,rfl,Nc _ _⟩
 case round =>
  obtain ⟨x,hx1,hxq,rfl,hgen,hbr⟩:=hrel
  obtain ⟨q0,q1,q2,hbw⟩:=Hbox.out wr hbr
  by_cases hlt : x<q
  ·have hxi : (x : Int)<q:=by omega
   go_wp2_with fail
   refine (DV P m am mn cm mod q x wr (hd.ah hbw) Hq.out (by omega) hxi).mono ?_
   rintro e w1 ⟨a1,c1,rfl,hown1,hb1⟩
   obtain ⟨hi1,hm1⟩:=R6 hown1
   have hB1 : Below (w.heap.size+1) W0 w1:=hbr.trans (hb1.mono (by have:=hbr.size;omega))
   obtain ⟨r0,r1,r2,hbw1⟩:=Hbox.out w1 hB1
   have hgs : genTo P m mod q (q - x) x=if je P m mod q x then gV P m mod q x else genTo P m mod q (q - (x+1)) (x+1):=by rw [show q - x=(q - (x+1))+1 from by omega,genTo]
   rw [hgs] at hgen
   by_cases hlen : (gV P m mod q x).length=q - 1
   ·have hl1 : ((gV P m mod q x).length : Int)=(q : Int) - 1:=by omega
    have hle : (((gV P m mod q x).length : Int) == (q : Int) - 1)=true:=by rw [hl1];simp
    have hcl:=hi1.cell (q - 2) (by omega)
    have hpb:=hi1.pl
    have hib0 : (0 : Int)<=(q : Int) - 2:=by omega
    have hib2 : (2 : Int)<=(q : Int):=by omega
    have hib1 : (q : Int) - 2<((gV P m mod q x).length : Int):=by omega
    have hlb:=uz hPp m mod q x Hq.out hq2 (by omega) hxi (q - 2)
    have hdd : uU w1.drew P m mn am mod:=hd.ah hbw1.drew
    have hw1 : IntKind.i64.wrap ((q : Int) - 1)=(q : Int) - 1:=Ns _ (by omega)
    have hw2 : IntKind.i64.wrap ((q : Int) - 2)=(q : Int) - 2:=Ns _ (by omega)
    have hw3 : ((q : Int) - 2).toNat=q - 2:=by omega
    have HLn:=Z5 hlen
    clear hl1 hlen
    go_wp2_with fail
    go_region_held3 (λw'=>w'.cell? ⟨w.heap.size,0,none⟩=some (.int .i64 P)/\w'.cell? ⟨w.heap.size,1,none⟩=some (.int .i64 m)/\w'.cell? ⟨w.heap.size,2,none⟩=some (.slice am mn cm)/\w'.cell? ⟨ablk a1,aK a1+(q - 2),none⟩=some (.int .i64 (nth (gV P m mod q x) (q - 2)))/\SW w1 w')
     (first | exact ⟨r0,r1,r2,hcl,(Nc _ _).drew⟩ | (go_split_ands;exact ⟨aB (by assumption) (by assumption),aB (by assumption) (by assumption),aB (by assumption) (by assumption),aB (by assumption) (by assumption),RZ (by assumption) (by assumption)⟩))
     (first | (go_at_call 165;((with_reducible refine (sl P m am mn cm mod (nth (gV P m mod q x) (q - 2)) x _ hdd (by omega) (by omega) (by omega) (by omega)).mono ?_);rintro e w4 ⟨rfl,hb4⟩)))
    obtain ⟨_,_,_,hcl4,hbd4⟩ : w4.cell? ⟨w.heap.size,0,none⟩=some (.int .i64 P)/\w4.cell? ⟨w.heap.size,1,none⟩=some (.int .i64 m)/\w4.cell? ⟨w.heap.size,2,none⟩=some (.slice am mn cm)/\w4.cell? ⟨ablk a1,aK a1+(q - 2),none⟩=some (.int .i64 (nth (gV P m mod q x) (q - 2)))/\SW w1 w4:=by assumption
    have hB4 : Below (w.heap.size+1) W0 w4:=hB1.trans (hbd4.mono (by have:=hB1.size;omega))
    clear hw1 hw2 hw3 hdd
    by_cases hone : dQ P m mod (nth (gV P m mod q x) (q - 2)) x=1
    ·have hig : je P m mod q x=true:=by simp [je,hone,HLn.out]
     rw [hig] at hgen
     have hfin : ji P m mod q=gV P m mod q x:=hgen.out
     have Hfin:=Z5 hfin
     have h1b : (dQ P m mod (nth (gV P m mod q x) (q - 2)) x == 1)=true:=by rw [hone];rfl
     clear hfin hig hone hgen
     go_wp2_with fail
     go_ret
     refine ⟨a1,c1,by rw [Hfin.out];rfl,by rw [Hfin.out];exact aX (bd hown1 hbd4) (by have:=hbr.size;omega),?_,(Hbox.out w4 hB4).2.2.2⟩
     rw [Hfin.out]
     intro h
     have h2:=HLn.out
     rw [h] at h2
     simp at h2
     omega
    ·have hig : je P m mod q x=false:=by simp [je,hone]
     rw [hig] at hgen
     have h1b : (dQ P m mod (nth (gV P m mod q x) (q - 2)) x == 1)=false:=by simpa using hone
     clear hig hone hcl4
     go_wp2_with fail
     go_roundw
     case rel=>exact ⟨x+1,by omega,by omega,by go_num,hgen,hB4⟩
     case measure=>simp [intOf] <;> omega
   ·rw [Gx hlen] at hgen
    have hle : (((gV P m mod q x).length : Int) == (q : Int) - 1)=false:=by rw [beq_eq_false_iff_ne];omega
    have hw1 : IntKind.i64.wrap ((q : Int) - 1)=(q : Int) - 1:=Ns _ (by omega)
    clear hlen
    go_wp2_with fail
    go_quiet (fail)
    clear hw1
    go_wp2_with fail
    go_roundw
    case rel=>exact ⟨x+1,by omega,by omega,by go_num,hgen,below_drewN hB1 _⟩
    case measure=>simp [intOf] <;> omega
  ·obtain rfl : x=q:=by omega
   have hg0 : ji P m mod x=[]:=by rw [hgen.out,P9];rfl
   have Hg0:=Z5 hg0
   clear hg0
   go_wp2_with fail
   go_ret
   refine ⟨none,0,by rw [Hg0.out];rfl,by rw [Hg0.out];exact bV,λ_=>⟨rfl,rfl⟩,hbw⟩
theorem DN {w : World} {B : Nat} {e : TypeId} {a : OA} {c n : Nat} {xs : List Value} (h : w.ownsRow B e 1 (.slice a n c) n xs) (hn : 0<n) : a.isNone=false:=by
 obtain ⟨_,_,hv,hp⟩:=Sv h;cases hv
 rw [hp hn];rfl
theorem uW.isNone {a : OA} {l : Lz} {c : Nat} {w : World} {B : Nat} {e : TypeId} (h : w.ownsRow B e 1 (.slice a l.length c) l.length (l.map (Value.int .i64))) (h0 : l=[]->a=none/\c=0) : a.isNone=l.isEmpty:=by
 cases l with
 | nil=>rw [(h0 rfl).1];rfl
 | cons x l=>exact DN h (by simp)
def bA (P M : Int) (mod : Lz) : Bool:=dg P M mod && !(ji P M.toNat mod (aJ P M).toNat).isEmpty
def dF (b : Bool) : Int:=if b then 0 else 1
theorem ur {w : World} {P M : Int} {am : OA} {mn : Nat} {mod : Lz} (hm : Ints w am mn mod) (h : dg P M mod=true) :
  ∃m : Nat,M=m/\uU w P m mn am mod/\aJ P M=P ^ m/\((aJ P M).toNat : Int)=P ^ m:=by
 simp only [dg,NK,bne_iff_ne,ne_eq] at h;obtain ⟨⟨h0,h1⟩,h2⟩:=h;obtain ⟨b1,b2,b3,b4,b5,b6⟩:=gX h0;refine ⟨M.toNat,by omega,⟨b1,b2,by omega,by omega,b5,?_,hm,?_⟩,b6,?_⟩
 ·intro h3;rw [Nf (by omega)] at h2;simp only [NK,N8] at h2;have:=hm.len;omega
 ·refine SI (by omega) λx hx=>?_;by_cases hM : M=1
  ·rw [Nd hM] at h2;have h3 : mod.length=0:=by simpa using h2
   rw [NL h3] at hx;cases hx
  ·rw [Nf hM] at h2;simp only [NK,N8,NW] at h2;exact h2.2 x hx
 ·rw [b6];have:=dy (show 1<=P by omega) (Ni M.toNat);rw [OT] at this;omega
theorem xH (P M : Int) (am : OA) (mn cm : Nat) (mod : Lz) (w : World) (hmod : Ints w am mn mod) :
  Calls prog 142 #[.agg #[.int .i64 P,.int .i64 M,.slice am mn cm]] w λe w' =>
   e = .returned (.int .i64 (dF (bA P M mod)))/\SW w w':=by
 have hbox : ∀w' : World,Below (w.heap.size+1) (w.alloc (.cells #[.int .i64 P,.int .i64 M,.slice am mn cm] 24)) w' ->
   w'.cell? ⟨w.heap.size,0,none⟩=some (.int .i64 P)/\w'.cell? ⟨w.heap.size,1,none⟩=some (.int .i64 M)/\w'.cell? ⟨w.heap.size,2,none⟩=some (.slice am mn cm)/\SW w w':=by intro w' h;refine ⟨(h.cell (by simp)).trans (by simp),(h.cell (by simp)).trans (by simp),(h.cell (by simp)).trans (by simp),((Nc _ _).alloc (Na _) _).trans (h.mono (by omega))⟩
 have Hbox:=Z5 hbox;clear hbox;go_enter func142,ntmps142;go_wp2;generalize hW0 : w.alloc (.cells #[.int .i64 P,.int .i64 M,.slice am mn cm] 24)=W0 at *;have hW0s : W0.heap.size=w.heap.size+1:=by rw [<- hW0];simp
 obtain ⟨q0,q1,q2,hbw⟩:=Hbox.out W0 (Nc _ _);clear hW0;by_cases hs : dg P M mod=true
 ·obtain ⟨m,rfl,hd,ho,hq⟩:=ur hmod hs;have hoq : aJ P m=((aJ P m).toNat : Int):=by rw [hq,ho]
  have hfin : dF (bA P m mod)=if (ji P m mod (aJ P m).toNat).isEmpty then 1 else 0:=by simp [bA,hs,dF]
  have Hfin:=Z5 hfin;have Hoq:=Z5 hoq;have hd0 : uU W0 P m mn am mod:=hd.ah hbw;have heq:=λ(w : World) (a : OA) (l c : Nat)=>Go.run_eql_slice_nil (P:=prog) w 22 3 a l c underlying22;generalize (aJ P m).toNat=q at *;have Hq:=Z5 hq;clear hfin hoq ho hq;go_region_held3 (λw'=>w'.cell? ⟨w.heap.size,0,none⟩=some (.int .i64 P)/\w'.cell? ⟨w.heap.size,1,none⟩=some (.int .i64 m)/\w'.cell? ⟨w.heap.size,2,none⟩=some (.slice am mn cm)/\uU w' P m mn am mod/\SW W0 w')
   (first | exact ⟨q0,q1,q2,hd0.ah (Nc _ _).drew,(Nc _ _).drew⟩ | assumption | (go_split_ands;exact ⟨aB (by assumption) (by assumption),aB (by assumption) (by assumption),aB (by assumption) (by assumption),uU.ah (by assumption) (by assumption),RZ (by assumption) (by assumption)⟩))
   (first | (go_at_call 108; ((with_reducible refine (tG P m am mn cm mod _ (hd0.ints.ah (Nc _ _).drew)).mono ?_); rw [hs]; rintro e w4 ⟨rfl, hb4⟩))
          | (go_at_call 109;((with_reducible refine (jW _ _ _).mono ?_);rw [Hoq.out];rintro e w4 ⟨rfl,rfl⟩))
          | (go_at_call 110;go_split_ands;((with_reducible refine (qS P m am mn cm mod q _ (by assumption) Hq.out).mono ?_);rintro e w4 ⟨a4,c4,rfl,hown4,hnil4,hb4⟩;have hin4:=uW.isNone hown4 hnil4)))
  obtain ⟨_,_,_,_,hbl⟩ : w4.cell? ⟨w.heap.size,0,none⟩=some (.int .i64 P)/\w4.cell? ⟨w.heap.size,1,none⟩=some (.int .i64 m)/\w4.cell? ⟨w.heap.size,2,none⟩=some (.slice am mn cm)/\uU w4 P m mn am mod/\SW W0 w4:=by assumption
  cases hge : (ji P m mod q).isEmpty
  all_goals
   go_wp2_with fail
   go_ret
   exact ⟨aP (by rw [Hfin.out,hge];rfl),RZ hbw hbl⟩
 ·have hs' : dg P M mod=false:=by simpa using hs
  have Hf:=Z5 (show dF (bA P M mod)=1 by simp [bA,hs',dF]);clear hs;refine wp_region_held_drew (S:=(λw'=>w'.cell? ⟨w.heap.size,0,none⟩=some (.int .i64 P)/\w'.cell? ⟨w.heap.size,1,none⟩=some (.int .i64 M)/\w'.cell? ⟨w.heap.size,2,none⟩=some (.slice am mn cm)/\SW W0 w')) (by kernel_rfl) ?_ (λhHeld=>?_)
  ·exact ⟨q0,q1,q2,(Nc _ _).drew⟩
  refine wpAnyH_take (i:=0) (v:=?_) (by simp only [Nx,Nu,Nv];rfl) (by kernel_rfl) (by kernel_rfl) (by kernel_rfl) (by exact λ_ _ _ h=>h) (Od ⟨by rfl,?_⟩) (by assumption) ?_;rotate_left
  ·(intro w hSw;(try dsimp only at hSw);go_simp;first | done | with_reducible rfl)
  try simp only [Act.put,Nh,Nk,Nn]
  refine wpAnyH_ready (rs:=[1]) (by kernel_rfl) (by simp) ?_;refine AllReadyH.cons rfl (λK hK=>?_) AllReadyH.nil;go_simp;refine (tG P M am mn cm mod _ (hmod.ah hbw.drew)).mono ?_;rintro e w4 ⟨rfl,hb4⟩;go_wp2_with fail;refine hK.out _ _ ?_ (λhHeld=>?_)
  ·exact ⟨aB hb4 q0,aB hb4 q1,aB hb4 q2,RZ (Nc _ _).drew hb4⟩
  clear hK K;try simp only [Act.put,Nh,Nk,Nn]
  refine wpAnyH_take (i:=2) (v:=?_) (by simp only [Nx,Nu,Nv];rfl) (by kernel_rfl) (by kernel_rfl) (by kernel_rfl) (by exact λ_ _ _ h=>h) (Od ⟨by rfl,?_⟩) (by assumption) ?_;rotate_left
  ·(intro w hSw;(try dsimp only at hSw);go_simp;first | done | with_reducible rfl)
  try simp only [Act.put,Nh,Nk,Nn]
  refine wpAnyH_take (i:=3) (v:=?_) (by simp only [Nx,Nu,Nv];rfl) (by kernel_rfl) (by kernel_rfl) (by kernel_rfl) (by exact λ_ _ _ h=>h) (Od ⟨by rfl,?_⟩) (by assumption) ?_;rotate_left
  ·(intro w hSw;(try dsimp only at hSw);go_simp;first | done | with_reducible rfl)
  try simp only [Act.put,Nh,Nk,Nn]
  refine wpAnyH_take (i:=4) (v:=undef) (by simp only [Nx,Nu,Nv];rfl) (by kernel_rfl) (by kernel_rfl) (by kernel_rfl) (by exact λ_ _ _ h=>h) (PE ⟨by rfl,rfl⟩) (by assumption) ?_;try simp only [Act.put,Nh,Nk,Nn]
  refine wpAnyH_take (i:=5) (v:=undef) (by simp only [Nx,Nu,Nv];rfl) (by kernel_rfl) (by kernel_rfl) (by kernel_rfl) (by exact λ_ _ _ h=>h) (PE ⟨by rfl,rfl⟩) (by assumption) ?_;try simp only [Act.put,Nh,Nk,Nn]
  refine wpAnyH_take (i:=6) (v:=undef) (by simp only [Nx,Nu,Nv];rfl) (by kernel_rfl) (by kernel_rfl) (by kernel_rfl) (by exact λ_ _ _ h=>h) (PE ⟨by rfl,rfl⟩) (by assumption) ?_;try simp only [Act.put,Nh,Nk,Nn]
  refine wpAnyH_take (i:=7) (v:=undef) (by simp only [Nx,Nu,Nv];rfl) (by kernel_rfl) (by kernel_rfl) (by kernel_rfl) (by exact λ_ _ _ h=>h) (PE ⟨by rfl,rfl⟩) (by assumption) ?_;try simp only [Act.put,Nh,Nk,Nn]
  refine wpAnyH_take (i:=8) (v:=undef) (by simp only [Nx,Nu,Nv];rfl) (by kernel_rfl) (by kernel_rfl) (by kernel_rfl) (by exact λ_ _ _ h=>h) (PE ⟨by rfl,rfl⟩) (by assumption) ?_;try simp only [Act.put,Nh,Nk,Nn]
  refine wpAnyH_take (i:=9) (v:=undef) (by simp only [Nx,Nu,Nv];rfl) (by kernel_rfl) (by kernel_rfl) (by kernel_rfl) (by exact λ_ _ _ h=>h) (PE ⟨by rfl,rfl⟩) (by assumption) ?_;try simp only [Act.put,Nh,Nk,Nn]
  refine wpAnyH_take (i:=10) (v:=undef) (by simp only [Nx,Nu,Nv];rfl) (by kernel_rfl) (by kernel_rfl) (by kernel_rfl) (by exact λ_ _ _ h=>h) (PE ⟨by rfl,rfl⟩) (by assumption) ?_;try simp only [Act.put,Nh,Nk,Nn]
  refine wpAnyH_take (i:=11) (v:=undef) (by simp only [Nx,Nu,Nv];rfl) (by kernel_rfl) (by kernel_rfl) (by kernel_rfl) (by exact λ_ _ _ h=>h) (PE ⟨by rfl,rfl⟩) (by assumption) ?_;try simp only [Act.put,Nh,Nk,Nn]
  refine wpAnyH_take (i:=12) (v:=?_) (by simp only [Nx,Nu,Nv];rfl) (by kernel_rfl) (by kernel_rfl) (by kernel_rfl) (by exact λ_ _ _ h=>h) (Od ⟨by rfl,?_⟩) (by assumption) ?_;rotate_left
  ·(intro w hSw;(try dsimp only at hSw);go_simp;first | done | with_reducible rfl)
  try simp only [Act.put,Nh,Nk,Nn]
  refine wpAnyH_done (by kernel_rfl) ?_ _;go_wp2_with fail;go_ret;exact ⟨aP Hf.out.symm,RZ hbw hHeld.2.2.2⟩
section
structure A7 (w : World) (b : Nat) (P : Int) (M q : Nat) (ex lg : Lz) : Prop where
 p2 : 2<=P
 m1 : 1<=M
 m8 : M<=8
 pw : (q : Int)=P ^ M
 p256 : P<=256
 q2 : 2<=q
 q256 : q<=256
 cp : w.cell? ⟨b,0,none⟩=some (.int .i64 P)
 cq : w.cell? ⟨b,3,none⟩=some (.int .i64 q)
 ce : ∃a c,w.cell? ⟨b,4,none⟩=some (.slice a (q - 1) c)/\Ints w a (q - 1) ex
 cl : ∃a c,w.cell? ⟨b,5,none⟩=some (.slice a q c)/\Ints w a q lg
 eb : ∀i,i<q - 1->0<=nth ex i/\nth ex i<q
 lb : ∀i,i<q->0<=nth lg i/\nth lg i<q - 1
theorem A7.ah {w w' : World} {b : Nat} {P : Int} {M q : Nat} {ex lg : Lz} (h : A7 w b P M q ex lg) (hb : SW w w') : A7 w' b P M q ex lg:=by obtain ⟨a,c,h1,h2⟩:=h.ce;obtain ⟨a',c',h3,h4⟩:=h.cl;exact ⟨h.p2,h.m1,h.m8,h.pw,h.p256,h.q2,h.q256,aB hb h.cp,aB hb h.cq,⟨a,c,aB hb h1,h2.ah hb⟩,⟨a',c',aB hb h3,h4.ah hb⟩,h.eb,h.lb⟩
def wW (q : Nat) (ex lg : Lz) (x y : Int) : Int :=
 if x=0\/y=0 then 0 else nth ex ((nth lg x.toNat+nth lg y.toNat) % ((q : Int) - 1)).toNat
def BX (q : Nat) (ex lg : Lz) (x : Int) : Int:=nth ex (((q : Int) - 1 - nth lg x.toNat) % ((q : Int) - 1)).toNat
variable {w : World} {b : Nat} {P : Int} {M q : Nat} {ex lg : Lz}
theorem Cf (x : Int) (h : A7 w b P M q ex lg) :
  Calls prog 55 #[.pointer (some ⟨b,0,none⟩),.int .i64 x] w λe w'=>e = .returned (.bool (decide (0<=x) && decide (x<q)))/\w=w':=by
 have hc:=h.cq;by_cases h0 : 0<=x
 ·have h0' : decide (0<=x)=true:=by simpa using h0
  go_enter func55,ntmps55;go_wp2;go_ret;exact ⟨by simp [h0],rfl⟩
 ·have h0' : decide (0<=x)=false:=by simpa using h0
  go_enter func55,ntmps55;go_wp2;go_ret;exact ⟨by simp [h0],rfl⟩
theorem gx (x : Int) (h : A7 w b P M q ex lg) (h0 : 0<=x) (h1 : x<q) :
  Calls prog 112 #[.pointer (some ⟨b,0,none⟩),.int .i64 x] w λe w'=>e = .returned (.int .i64 x)/\w=w':=by
 have h0' : decide (0<=x)=true:=by simpa using h0
 have h1' : decide (x<q)=true:=by simpa using h1
 go_enter func112,ntmps112;go_wp2_with (go_at_call 55;refine (Cf x h).mono ?_;rintro e w' ⟨rfl,rfl⟩);go_ret;exact ⟨rfl,rfl⟩
theorem GU (x y : Int) (h : A7 w b P M q ex lg) (hx0 : 0<=x) (hx1 : x<q) (hy0 : 0<=y) (hy1 : y<q) :
  Calls prog 57 #[.pointer (some ⟨b,0,none⟩),.int .i64 x,.int .i64 y] w λe w'=>∃n,e = .returned (.int .i64 (wW q ex lg x y))/\w'=w.drewN n:=by
 obtain ⟨ae,ce,hce,hie⟩:=h.ce;obtain ⟨al,cl,hcl,hil⟩:=h.cl;have hcq:=h.cq;by_cases hx : x=0
 ·have hx' : (x == 0)=true:=by simpa using hx
  have Hf:=Z5 (show wW q ex lg x y=0 by simp [wW,hx]);clear hx;go_enter func57,ntmps57;go_wp2_with (first | (go_at_call 112;(with_reducible refine (gx x h hx0 hx1).mono ?_);rintro e w' ⟨rfl,rfl⟩) | (go_at_call 112;(with_reducible refine (gx y h hy0 hy1).mono ?_);rintro e w' ⟨rfl,rfl⟩));go_ret;exact ⟨0,aP Hf.out.symm,rfl⟩
 have hx' : (x == 0)=false:=by simpa using hx
 by_cases hy : y=0
 ·have hy' : (y == 0)=true:=by simpa using hy
  have Hf:=Z5 (show wW q ex lg x y=0 by simp [wW,hy]);clear hx hy;go_enter func57,ntmps57;go_wp2_with (first | (go_at_call 112;(with_reducible refine (gx x h hx0 hx1).mono ?_);rintro e w' ⟨rfl,rfl⟩) | (go_at_call 112;(with_reducible refine (gx y h hy0 hy1).mono ?_);rintro e w' ⟨rfl,rfl⟩));go_ret;exact ⟨0,aP Hf.out.symm,rfl⟩
 have hy' : (y == 0)=false:=by simpa using hy
 obtain ⟨xn,rfl⟩ : ∃n : Nat,x=n:=⟨x.toNat,by omega⟩
 obtain ⟨yn,rfl⟩ : ∃n : Nat,y=n:=⟨y.toNat,by omega⟩
 have lx:=h.lb xn (by omega);have ly:=h.lb yn (by omega);have cx:=hil.cell xn (by omega);have cy:=hil.cell yn (by omega);have hpe:=hie.pl;have hpl:=hil.pl;have hq2:=h.q2;have hq256:=h.q256;have hm0:=Oa (nth lg xn+nth lg yn) (show (q : Int) - 1 ≠ 0 by omega);have hm1:=N0 (nth lg xn+nth lg yn) (show 0<(q : Int) - 1 by omega);obtain ⟨k,hk⟩ : ∃k : Nat,(nth lg xn+nth lg yn) % ((q : Int) - 1)=k:=⟨((nth lg xn+nth lg yn) % ((q : Int) - 1)).toNat,by omega⟩
 have hf : wW q ex lg xn yn=nth ex k:=by unfold wW;rw [Nf (by omega)];simp only [Nb,hk]
 have ck:=hie.cell k (by omega);have r1 : IntKind.i64.wrap (nth lg xn+nth lg yn)=nth lg xn+nth lg yn:=Ns _ (by omega);have r2 : IntKind.i64.wrap ((q : Int) - 1)=(q : Int) - 1:=Ns _ (by omega);have r3 : (nth lg xn+nth lg yn).tmod ((q : Int) - 1)=k:=by rw [Ox _ _ (by omega),hk]
 have r4 : ¬ (q : Int) - 1=0:=by omega
 have r5 : (k : Int)<((q - 1 : Nat) : Int):=by omega
 have r6 : (xn : Int)<q:=by omega
 have r7 : (yn : Int)<q:=by omega
 have Hf:=Z5 hf;clear hx hy hf hk hm0 hm1;go_enter func57,ntmps57;go_wp2_with (first | (go_at_call 112;(with_reducible refine (gx xn h hx0 hx1).mono ?_);rintro e w' ⟨rfl,rfl⟩) | (go_at_call 112;(with_reducible refine (gx yn h hy0 hy1).mono ?_);rintro e w' ⟨rfl,rfl⟩));go_quiet (fail);go_wp2;go_ret;exact ⟨_,aP Hf.out.symm,rfl⟩
end
section
theorem q9 (a b : Nat) (ha : a<256) (hb : b<256) : bits .xor .i64 (a : Int) (b : Int)=((a ^^^ b : Nat) : Int):=by
 have hx : a ^^^ b<2 ^ 8:=Nat.xor_lt_two_pow (by omega) (by omega);have h1 : (BitVec.ofInt 64 (a : Int)).toNat=a:=by rw [Rf,Rp];exact PX (by omega)
 have h2 : (BitVec.ofInt 64 (b : Int)).toNat=b:=by rw [Rf,Rp];exact PX (by omega)
 show IntKind.i64.wrap ((BitVec.ofInt 64 (a : Int) ^^^ BitVec.ofInt 64 (b : Int)).toNat : Int)=_;rw [BitVec.toNat_xor,h1,h2];exact Ns _ (by omega)
variable {w : World} {b : Nat} {P : Int} {M q : Nat} {ex lg : Lz}
def lu (w : World) (z : Int) (e : Ending) (w' : World) : Prop:=∃n,e = .returned (.int .i64 z)/\w'=w.drewN n
theorem so {w wr : World} {n : Nat} (h : wr=w.drewN n) (m : Nat) : ∃k,wr.drewN m=w.drewN k:=⟨n+m,by rw [h,World.drewN_drewN]⟩
theorem step_eq (P s t D r : Int) (k : Nat) : s+P ^ k * (t+P * r)=s+t * P ^ k+P ^ (k+1) * r:=by rw [N4,O2,OV (P ^ k) t,OH,Int.add_assoc]
theorem ym (x y : Int) (h : A7 w b P M q ex lg) (hx0 : 0<=x) (hx1 : x<q) (hy0 : 0<=y) (hy1 : y<q) :
  Calls prog 56 #[.pointer (some ⟨b,0,none⟩),.int .i64 x,.int .i64 y] w (lu w (fsum P M x y)):=by
 have hcp:=h.cp;have hp2:=h.p2;have hp256:=h.p256;have hq256:=h.q256;by_cases hP : P=2
 ·obtain ⟨xn,rfl⟩ : ∃n : Nat,x=n:=⟨x.toNat,by omega⟩
  obtain ⟨yn,rfl⟩ : ∃n : Nat,y=n:=⟨y.toNat,by omega⟩
  subst hP;have hpw:=h.pw;have hq2 : q=2 ^ M:=by exact_mod_cast hpw
  have hxor : bits .xor .i64 (xn : Int) (yn : Int)=fsum 2 M xn yn:=by rw [q9 _ _ (by omega) (by omega),Cl M xn yn (by omega) (by omega)]
  clear hpw hq2;go_enter func56,ntmps56;go_wp2_with (first | (go_at_call 112;(with_reducible refine (gx xn h hx0 hx1).mono ?_);rintro e w' ⟨rfl,rfl⟩) | (go_at_call 112;(with_reducible refine (gx yn h hy0 hy1).mono ?_);rintro e w' ⟨rfl,rfl⟩));go_ret;exact ⟨0,rfl,rfl⟩
 ·have hP' : (P == 2)=false:=by simpa using hP
  have HPw:=Z5 h.pw;clear hP;go_enter func56,ntmps56;go_wp2_with (first | (go_at_call 112;(with_reducible refine (gx x h hx0 hx1).mono ?_);rintro e w' ⟨rfl,rfl⟩) | (go_at_call 112;(with_reducible refine (gx y h hy0 hy1).mono ?_);rintro e w' ⟨rfl,rfl⟩));go_loopw [1,2,7,8] (λxv yv sv pv wr=>∃(k : Nat) (X Y s p : Int),k<=M/\xv = .int .i64 X/\yv = .int .i64 Y/\sv = .int .i64 s/\pv = .int .i64 p/\Hid (p=P ^ k)/\1<=p/\p<=256 /\
    0<=X/\X<=256/\0<=Y/\Y<=256/\0<=s/\s<p/\Hid (X=l7 x P k)/\Hid (Y=l7 y P k)/\Hid (s+P ^ k * fsum P (M - k) X Y=fsum P M x y)/\∃n,wr=w.drewN n)
   (λxv yv _ _ _=>(intOf xv+intOf yv).toNat)
  case atStart =>
   exact ⟨0,x,y,0,1,by omega,rfl,rfl,rfl,rfl,by show (1 : Int)=P ^ 0;simp,by omega,by omega,hx0,by omega,hy0,by omega,by omega,by omega,rfl,rfl,by show 0+P ^ 0 * fsum P (M - 0) x y=_;simp,0,rfl⟩
  case round =>
   obtain ⟨k,X,Y,s,p,hkM,rfl,rfl,rfl,rfl,hp,hp1,hp2',hX0,hX1,hY0,hY1,hs0,hs1,hX,hY,hinv,n,hwr⟩:=hrel
   have hcpr : wr.cell? ⟨b,0,none⟩=some (.int .i64 P):=by rw [hwr];exact hcp
   have Hwr:=Z5 hwr
   clear hwr
   by_cases hz : X=0/\Y=0
   ·obtain ⟨rfl,rfl⟩:=hz
    have hfin : s=fsum P M x y:=by have:=hinv.out;rw [yH] at this;omega
    have Hfin:=Z5 hfin
    clear hfin
    go_wp2
    go_ret
    exact ⟨n,aP Hfin.out,Hwr.out⟩
   ·have hkM' : k<M:=by
     rcases N3 k M with h1 | h1
     ·exact h1
     ·exfalso;obtain rfl : k=M:=by omega
      have e1:=rY P (by omega) k x hx0 (by rw [<- HPw.out];exact hx1);have e2:=rY P (by omega) k y hy0 (by rw [<- HPw.out];exact hy1);exact hz ⟨by rw [hX.out];exact e1,by rw [hY.out];exact e2⟩
    have hmeas : X / P+Y / P<X+Y:=by
     have h1:=OC P hX0;have h2:=OC P hY0;rcases (show 0<X\/0<Y by omega) with h3 | h3
     ·have : X / P<X:=Pn (by omega) (by have:=NU hp2 hX0;omega);omega
     ·have : Y / P<Y:=Pn (by omega) (by have:=NU hp2 hY0;omega);omega
    have hXd:=OB hX0 (show 0<=P by omega)
    have hYd:=OB hY0 (show 0<=P by omega)
    have hXd2:=OC P hX0
    have hYd2:=OC P hY0
    have m1:=Oa X (show P ≠ 0 by omega)
    have m2:=N0 X (show 0<P by omega)
    have m3:=Oa Y (show P ≠ 0 by omega)
    have m4:=N0 Y (show 0<P by omega)
    have m5:=Oa (X+Y) (show P ≠ 0 by omega)
    have m6:=N0 (X+Y) (show 0<P by omega)
    have hpp : p * P=P ^ (k+1):=by rw [hp.out,N4]
    have hpM : P ^ (k+1)<=256:=by have h1:=dy (show 1<=P by omega) (show k+1<=M by omega);have h2:=HPw.out;omega
    have m7 : 0<=(X+Y) % P * p:=Py m5 (by omega)
    have m8 : (X+Y) % P * p+p<=p * P:=by have:=NU (show (X+Y) % P+1<=P by omega) (show 0<=p by omega);rw [O2] at this;rw [OV _ p];omega
    have m9 : p * 1<=p * P:=NU (by omega) (by omega)
    have hinv2 : s+(X+Y) % P * p+P ^ (k+1) * fsum P (M - (k+1)) (X / P) (Y / P)=fsum P M x y:=by rw [<- hinv.out,show M - k=(M - (k+1))+1 from by omega,fsum,step_eq P s _ 0,hp.out]
    have hP0 : P ≠ 0:=by omega
    have r1 : X.tmod P=X % P:=Ox _ _ hX0
    have r2 : Y.tmod P=Y % P:=Ox _ _ hY0
    have r3 : IntKind.i64.wrap (X % P+Y % P)=X % P+Y % P:=Ns _ (by omega)
    have r4 : (X % P+Y % P).tmod P=(X+Y) % P:=by rw [Ox _ _ (by omega),Int.emod_add_emod,Int.add_emod_emod]
    have r5 : IntKind.i64.wrap ((X+Y) % P * p)=(X+Y) % P * p:=Ns _ (by omega)
    have r6 : IntKind.i64.wrap (s+(X+Y) % P * p)=s+(X+Y) % P * p:=Ns _ (by omega)
    have hpl : p * P<=256:=by rw [hpp];exact hpM
    have Hinv2:=Z5 hinv2
    have Hpp:=Z5 hpp
    have Hmeas:=Z5 hmeas
    clear hinv2 hpp hmeas
    rcases (show 0<X\/(decide (0<X)=false/\0<Y) by simp;omega) with hg | ⟨hgx,hg⟩
    all_goals
     go_wp2_with fail
     go_quiet (fail)
     clear r1 r2 r3 r4 r5 r6
     go_wp2
     go_roundw
     case rel =>
      refine ⟨k+1,_,_,_,_,by omega,rfl,rfl,rfl,rfl,Hpp.out,by omega,by have:=Hpp.out;omega,by omega,by omega,by omega,by omega,by omega,by omega,?_,?_,Hinv2.out,so Hwr.out _⟩
      ·show _=l7 x P (k+1);rw [l7,<- hX.out]
      ·show _=l7 y P (k+1);rw [l7,<- hY.out]
     case measure=>have:=Hmeas.out;simp [intOf] <;> omega
end
section
variable {w : World} {b : Nat} {P : Int} {M q : Nat} {ex lg : Lz}
theorem A7.drewN (h : A7 w b P M q ex lg) (n : Nat) : A7 (w.drewN n) b P M q ex lg:=h.ah (below_drewN (Nc _ _) n)
theorem yr (x : Int) (h : A7 w b P M q ex lg) (hx0 : 0<=x) (hx1 : x<q) :
  Calls prog 103 #[.pointer (some ⟨b,0,none⟩),.int .i64 x] w (lu w (fneg P M x)):=by
 have hcp:=h.cp;have hp2:=h.p2;have hp256:=h.p256;have hq256:=h.q256;have HPw:=Z5 h.pw;go_enter func103,ntmps103;go_wp2_with (go_at_call 112;(with_reducible refine (gx x h hx0 hx1).mono ?_);rintro e w' ⟨rfl,rfl⟩);go_loopw [1,5,6] (λxv sv pv wr=>∃(k : Nat) (X s p : Int),k<=M/\xv = .int .i64 X/\sv = .int .i64 s/\pv = .int .i64 p/\Hid (p=P ^ k)/\1<=p/\p<=256 /\
   0<=X/\X<=256/\0<=s/\s<p/\Hid (X=l7 x P k)/\Hid (s+P ^ k * fneg P (M - k) X=fneg P M x)/\∃n,wr=w.drewN n)
  (λxv _ _ _=>(intOf xv).toNat)
 case atStart =>
  exact ⟨0,x,0,1,by omega,rfl,rfl,rfl,by show (1 : Int)=P ^ 0;simp,by omega,by omega,hx0,by omega,by omega,by omega,rfl,by show 0+P ^ 0 * fneg P (M - 0) x=_;simp,0,rfl⟩
 case round =>
  obtain ⟨k,X,s,p,hkM,rfl,rfl,rfl,hp,hp1,hp2',hX0,hX1,hs0,hs1,hX,hinv,n,hwr⟩:=hrel
  have hcpr : wr.cell? ⟨b,0,none⟩=some (.int .i64 P):=by rw [hwr];exact hcp
  have Hwr:=Z5 hwr
  clear hwr
  by_cases hz : X=0
  ·subst hz
   have hfin : s=fneg P M x:=by have:=hinv.out;rw [yI] at this;omega
   have Hfin:=Z5 hfin
   clear hfin
   go_wp2
   go_ret
   exact ⟨n,aP Hfin.out,Hwr.out⟩
  ·have hkM' : k<M:=by
    rcases N3 k M with h1 | h1
    ·exact h1
    ·exfalso;obtain rfl : k=M:=by omega
     have e1:=rY P (by omega) k x hx0 (by rw [<- HPw.out];exact hx1);exact hz (by rw [hX.out];exact e1)
   have hmeas : X / P<X:=Pn (by omega) (by have:=NU hp2 hX0;omega)
   have hXd:=OB hX0 (show 0<=P by omega)
   have m1:=Oa X (show P ≠ 0 by omega)
   have m2:=N0 X (show 0<P by omega)
   have m5:=Oa (P - X % P) (show P ≠ 0 by omega)
   have m6:=N0 (P - X % P) (show 0<P by omega)
   have hpp : p * P=P ^ (k+1):=by rw [hp.out,N4]
   have hpM : P ^ (k+1)<=256:=by have h1:=dy (show 1<=P by omega) (show k+1<=M by omega);have h2:=HPw.out;omega
   have m7 : 0<=(P - X % P) % P * p:=Py m5 (by omega)
   have m8 : (P - X % P) % P * p+p<=p * P:=by have:=NU (show (P - X % P) % P+1<=P by omega) (show 0<=p by omega);rw [O2] at this;rw [OV _ p];omega
   have m9 : p * 1<=p * P:=NU (by omega) (by omega)
   have hinv2 : s+(P - X % P) % P * p+P ^ (k+1) * fneg P (M - (k+1)) (X / P)=fneg P M x:=by rw [<- hinv.out,show M - k=(M - (k+1))+1 from by omega,fneg,step_eq P s _ 0,hp.out]
   have hP0 : P ≠ 0:=by omega
   have hg : 0<X:=by omega
   obtain ⟨D,hD⟩ : ∃D,D=(P - X % P) % P:=⟨_,rfl⟩
   rw [<- hD] at m5 m6 m7 m8 hinv2
   have r1 : X.tmod P=X % P:=Ox _ _ hX0
   have r3 : IntKind.i64.wrap (P - X % P)=P - X % P:=Ns _ (by omega)
   have r4 : (P - X % P).tmod P=D:=by rw [Ox _ _ (by omega),hD]
   have r5 : IntKind.i64.wrap (D * p)=D * p:=Ns _ (by omega)
   have r6 : IntKind.i64.wrap (s+D * p)=s+D * p:=Ns _ (by omega)
   have hpl : p * P<=256:=by rw [hpp];exact hpM
   have Hinv2:=Z5 hinv2
   have Hpp:=Z5 hpp
   have Hmeas:=Z5 hmeas
   clear hinv2 hpp hmeas hD
   go_wp2_with fail
   go_quiet (fail)
   clear r1 r3 r4 r5 r6
   go_wp2
   go_roundw
   case rel =>
    refine ⟨k+1,_,_,_,by omega,rfl,rfl,rfl,Hpp.out,by omega,by omega,by omega,by have:=Hmeas.out;omega,by omega,by omega,?_,Hinv2.out,so Hwr.out _⟩
    show _=l7 x P (k+1);rw [l7,<- hX.out]
   case measure=>have:=Hmeas.out;simp [intOf] <;> omega
def MC (P : Int) (M : Nat) (x y : Int) : Int:=fsum P M x (fneg P M y)
theorem FX (x y : Int) (h : A7 w b P M q ex lg) (hx0 : 0<=x) (hx1 : x<q) (hy0 : 0<=y) (hy1 : y<q) :
  Calls prog 199 #[.pointer (some ⟨b,0,none⟩),.int .i64 x,.int .i64 y] w (lu w (MC P M x y)):=by
 have hn:=u3 (show 0<P by have:=h.p2;omega) M y;have hn2 : fneg P M y<q:=by rw [h.pw];exact hn.2
 have hn1:=hn.1;clear hn;go_enter func199,ntmps199;go_wp2_with fail;refine (yr y h hy0 hy1).mono ?_;rintro e w1 ⟨n,rfl,rfl⟩;go_wp2_with fail;refine (ym x _ (h.drewN n) hx0 hx1 hn1 hn2).mono ?_;rintro e w1 ⟨n2,rfl,rfl⟩;go_wp2_with fail;go_ret;exact ⟨_,rfl,rfl⟩
theorem GX (x : Int) (h : A7 w b P M q ex lg) (hx0 : 0<x) (hx1 : x<q) :
  Calls prog 201 #[.pointer (some ⟨b,0,none⟩),.int .i64 x] w λe w'=>∃n,e = .returned (.tuple #[.int .i64 (BX q ex lg x),.int .i64 0])/\w'=w.drewN n:=by
 obtain ⟨ae,ce,hce,hie⟩:=h.ce;obtain ⟨al,cl,hcl,hil⟩:=h.cl;have hcq:=h.cq;have hx' : (x == 0)=false:=by rw [beq_eq_false_iff_ne];omega
 obtain ⟨xn,rfl⟩ : ∃n : Nat,x=n:=⟨x.toNat,by omega⟩
 have lx:=h.lb xn (by omega);have cx:=hil.cell xn (by omega);have hpe:=hie.pl;have hpl:=hil.pl;have hq2:=h.q2;have hq256:=h.q256;have hm0:=Oa ((q : Int) - 1 - nth lg xn) (show (q : Int) - 1 ≠ 0 by omega);have hm1:=N0 ((q : Int) - 1 - nth lg xn) (show 0<(q : Int) - 1 by omega);obtain ⟨k,hk⟩ : ∃k : Nat,((q : Int) - 1 - nth lg xn) % ((q : Int) - 1)=k:=⟨(((q : Int) - 1 - nth lg xn) % ((q : Int) - 1)).toNat,by omega⟩
 have hf : BX q ex lg xn=nth ex k:=by unfold BX;simp only [Nb,hk]
 have ck:=hie.cell k (by omega);have r2 : IntKind.i64.wrap ((q : Int) - 1)=(q : Int) - 1:=Ns _ (by omega);have r1 : IntKind.i64.wrap ((q : Int) - 1 - nth lg xn)=(q : Int) - 1 - nth lg xn:=Ns _ (by omega);have r3 : ((q : Int) - 1 - nth lg xn).tmod ((q : Int) - 1)=k:=by rw [Ox _ _ (by omega),hk]
 have r4 : ¬ (q : Int) - 1=0:=by omega
 have r5 : (k : Int)<((q - 1 : Nat) : Int):=by omega
 have r6 : (xn : Int)<q:=by omega
 have Hf:=Z5 hf;clear hf hk hm0 hm1;go_enter func201,ntmps201;go_wp2_with (first | (go_at_call 112;(with_reducible refine (gx xn h (by omega) hx1).mono ?_);rintro e w' ⟨rfl,rfl⟩));go_quiet (fail);go_wp2;go_ret2;exact ⟨_,by rw [Hf.out];rfl,rfl⟩
structure dn where
 P : Int
 M : Nat
 q : Nat
 ex : Lz
 lg : Lz
def dn.add (G : dn) (x y : Int) : Int:=fsum G.P G.M x y
def dn.neg (G : dn) (x : Int) : Int:=fneg G.P G.M x
def dn.sub (G : dn) (x y : Int) : Int:=MC G.P G.M x y
def dn.mul (G : dn) (x y : Int) : Int:=wW G.q G.ex G.lg x y
def dn.inv (G : dn) (x : Int) : Int:=BX G.q G.ex G.lg x
def dn.El (G : dn) (x : Int) : Prop:=0<=x/\x<G.q
def ew (w : World) (b : Nat) (G : dn) : Prop:=A7 w b G.P G.M G.q G.ex G.lg
theorem ew.ah {w w' : World} {b : Nat} {G : dn} (h : ew w b G) (hb : SW w w') : ew w' b G:=A7.ah h hb
theorem ew.drewN {w : World} {b : Nat} {G : dn} (h : ew w b G) (n : Nat) : ew (w.drewN n) b G:=A7.drewN h n
variable {G : dn}
theorem dn.Jd (h : ew w b G) (x y : Int) : G.El (G.add x y):=by have:=zD (show 0<G.P by have:=h.p2;omega) G.M x y;exact ⟨this.1,by rw [h.pw];exact this.2⟩
theorem dn.zF (h : ew w b G) (x : Int) : G.El (G.neg x):=by have:=u3 (show 0<G.P by have:=h.p2;omega) G.M x;exact ⟨this.1,by rw [h.pw];exact this.2⟩
theorem dn.y9 (h : ew w b G) (k : Int) (h0 : 0<=k) (h1 : k<(G.q : Int) - 1) : G.El (nth G.ex k.toNat):=h.eb _ (by omega)
theorem dn.mB (h : ew w b G) (x y : Int) : G.El (G.mul x y):=by
 unfold dn.mul wW;have hq:=h.q2;split
 ·exact ⟨Q7 _,by omega⟩
 ·exact dn.y9 h _ (Oa _ (by omega)) (N0 _ (by omega))
theorem dn.xz (h : ew w b G) (x : Int) : G.El (G.inv x):=by have hq:=h.q2;exact dn.y9 h _ (Oa _ (by omega)) (N0 _ (by omega))
theorem LJ (x y : Int) (h : ew w b G) (hx : G.El x) (hy : G.El y) :
  Calls prog 56 #[.pointer (some ⟨b,0,none⟩),.int .i64 x,.int .i64 y] w (lu w (G.add x y)):=ym x y h hx.1 hx.2 hy.1 hy.2
theorem Kv (x : Int) (h : ew w b G) (hx : G.El x) :
  Calls prog 103 #[.pointer (some ⟨b,0,none⟩),.int .i64 x] w (lu w (G.neg x)):=yr x h hx.1 hx.2
theorem Lj (x y : Int) (h : ew w b G) (hx : G.El x) (hy : G.El y) :
  Calls prog 199 #[.pointer (some ⟨b,0,none⟩),.int .i64 x,.int .i64 y] w (lu w (G.sub x y)):=FX x y h hx.1 hx.2 hy.1 hy.2
theorem qF (x y : Int) (h : ew w b G) (hx : G.El x) (hy : G.El y) :
  Calls prog 57 #[.pointer (some ⟨b,0,none⟩),.int .i64 x,.int .i64 y] w (lu w (G.mul x y)) :=
 (GU x y h hx.1 hx.2 hy.1 hy.2).mono λ_ _ ⟨n,h1,h2⟩=>⟨n,h1,h2⟩
theorem Jt (x : Int) (h : ew w b G) (hx : G.El x) (hx0 : x ≠ 0) :
  Calls prog 201 #[.pointer (some ⟨b,0,none⟩),.int .i64 x] w λe w'=>∃n,e = .returned (.tuple #[.int .i64 (G.inv x),.int .i64 0])/\w'=w.drewN n :=
 GX x h (by have:=hx.1;omega) hx.2
theorem Mn (x : Int) (h : ew w b G) :
  Calls prog 55 #[.pointer (some ⟨b,0,none⟩),.int .i64 x] w λe w'=>e = .returned (.bool (decide (0<=x) && decide (x<G.q)))/\w=w':=Cf x h
def dn.Ec (G : dn) (l : Lz) : Prop:=∀x ∈ l,G.El x
theorem dn.Ec.nth {l : Lz} (h : G.Ec l) {i : Nat} (hi : i<l.length) : G.El (nth l i):=h _ (aH hi)
def b8 (w : World) (l : Lz) (e : Ending) (w' : World) : Prop :=
 ∃a c,e = .returned (.slice a l.length c)/\w'.ownsRow w.heap.size 3 1 (.slice a l.length c) l.length (l.map (Value.int .i64))/\SW w w'
theorem xj (s : Int) (a : OA) (n c : Nat) (l : Lz) (h : ew w b G) (hs : G.El s) (hi : Ints w a n l) (hl : G.Ec l) (hn : n<=1000000) :
  Calls prog 66 #[.pointer (some ⟨b,0,none⟩),.int .i64 s,.slice a n c] w (b8 w (l.map (G.mul s))):=by
 have hlen:=hi.len;have hpl:=hi.pl;go_enter func66,ntmps66;go_wp2_with (at_make;refine bS rfl _ _ 22 3 rfl (.int .i64 0) 8 underlying22 aU rfl n rfl rfl (by omega) (by unfold maxLen;omega) ?_;intro a1 w1 hown hbel hge hlt);go_loopw [15] (λiv wr=>∃k : Nat,k<=n/\iv = .int .i64 k /\
   wr.ownsRow w.heap.size 3 1 (.slice a1 n n) n ((dC ((l.take k).map (G.mul s)) k n).map (Value.int .i64))/\SW w wr)
  (λi _=>n - (intOf i).toNat)
 case atStart=>exact ⟨0,Ni _,rfl,by simpa [dC] using hown,hbel⟩
 case round =>
  obtain ⟨k,hk,rfl,hown,hbel⟩:=hrel
  obtain ⟨hints,hmine⟩:=R6 hown
  have hpl1:=hints.pl
  by_cases hlt : k<n
  ·have hc:=(hi.ah hbel).cell k hlt
   have hel:=hl.nth (i:=k) (by omega)
   have hf:=(hmine (by omega)).2 k hlt
   have hc2:=hints.cell k hlt
   have hB:=(hmine (by omega)).1
   go_wp2_with fail
   refine (qF s (nth l k) (h.ah hbel) hs hel).mono ?_
   rintro e w2 ⟨m,rfl,rfl⟩
   go_wp2_with fail
   go_roundw
   case rel =>
    refine ⟨k+1,by omega,by go_num,?_,(below_drewN hbel m).setCell hB _⟩
    have h:=bK (w:=wr.drewN m) hown k hlt (.int .i64 (G.mul s (nth l k)))
    rw [<- NF,fW _ _ _ _ (by simp;omega) hlt] at h
    rw [Nj (by omega),NM]
    rw [aj (by omega)] at h ⊢
    exact h
   case measure=>simp [intOf] <;> omega
  ·obtain rfl : k=n:=by omega
   have hfin : dC ((l.take k).map (G.mul s)) k k=l.map (G.mul s):=by rw [gS,No (by omega)]
   rw [hfin] at hown
   have hl2 : (l.map (G.mul s)).length=k:=by simp [hlen]
   have Hl2:=Z5 hl2
   clear hl2 hfin
   go_wp2_with fail
   go_ret
   exact ⟨a1,k,by rw [Hl2.out];rfl,by rw [Hl2.out];exact hown,hbel⟩
end
def logTo (q : Nat) (ex : Lz) : Nat->Lz
 | 0=>List.replicate q 0
 | k+1=>(logTo q ex k).set (nth ex k).toNat k
theorem kZ (q : Nat) (ex : Lz) : ∀k,(logTo q ex k).length=q
 | 0=>by simp [logTo]
 | k+1=>by simp [logTo,kZ q ex k]
theorem B6 (q : Nat) (ex : Lz) (hq : 2<=q) : ∀k,k<=q - 1->∀i,0<=nth (logTo q ex k) i/\nth (logTo q ex k) i<(q : Int) - 1
 | 0,_,i=>by
  have : nth (logTo q ex 0) i=0:=by simp only [logTo,nth,Ng,NI];split <;> rfl
  omega
 | k+1,hk,i=>by
  have ih:=B6 q ex hq k (by omega) i;by_cases h : (nth ex k).toNat<q
  ·rw [logTo,eh _ _ _ _ (by rw [kZ];exact h)];split <;> omega
  ·rw [logTo,Pw (by rw [kZ];omega)];exact ih
theorem vl (P : Int) (M : Nat) (mod : Lz) (q : Nat) : ∀(n x : Nat),genTo P M mod q n x ≠ []->∃y : Nat,x<=y/\y<x+n/\je P M mod q y=true/\genTo P M mod q n x=gV P M mod q y
 | 0,x,h=>absurd rfl h
 | n+1,x,h=>by
  rw [genTo] at h ⊢;by_cases hg : je P M mod q x=true
  ·rw [Nd hg];exact ⟨x,Na _,by omega,hg,rfl⟩
  ·rw [Nf hg] at h ⊢;obtain ⟨y,h1,h2,h3,h4⟩:=vl P M mod q n (x+1) h;exact ⟨y,by omega,by omega,h3,h4⟩
theorem tR {P : Int} {M : Nat} {mod : Lz} {q : Nat} (h : ji P M mod q ≠ []) : ∃y : Nat,1<=y/\y<q/\je P M mod q y=true/\ji P M mod q=gV P M mod q y:=by obtain ⟨y,h1,h2,h3,h4⟩:=vl P M mod q (q - 1) 1 h;exact ⟨y,h1,by omega,h3,h4⟩
def af (P : Int) (M : Nat) (mod : Lz) : dn :=
 { P:=P,M:=M,q:=(aJ P M).toNat,ex:=ji P M mod (aJ P M).toNat,lg:=logTo (aJ P M).toNat (ji P M mod (aJ P M).toNat) ((aJ P M).toNat - 1) }
theorem GQ {w : World} {P M : Int} {am : OA} {mn : Nat} {mod : Lz} (hm : Ints w am mn mod) (h : dg P M mod=true) : mn<=8:=by
 simp only [dg,NK,bne_iff_ne,ne_eq] at h;obtain ⟨⟨h0,h1⟩,h2⟩:=h;obtain ⟨b1,b2,b3,b4,b5,b6⟩:=gX h0;have hl:=hm.len;by_cases hM : M=1
 ·rw [Nd hM] at h2;have h3 : mod.length=0:=by simpa using h2
  omega
 ·rw [Nf hM] at h2;simp only [NK,N8] at h2;omega
def BT (B : Nat) (w : World) (b : Nat) (G : dn) : Prop:=∀V : World,(∀k,B<=k->k<w.heap.size->V.heap[k]? = w.heap[k]?)->ew V b G
theorem BT.gf {B : Nat} {w : World} {b : Nat} {G : dn} (h : BT B w b G) : ew w b G:=h w λ_ _ _=>rfl
theorem BT.mono {B B' : Nat} {w : World} {b : Nat} {G : dn} (h : BT B w b G) (hB : B'<=B) : BT B' w b G:=λV hV=>h V λk h1 h2=>hV k (Nr hB h1) h2
theorem BT.ah {B : Nat} {w w' : World} {b : Nat} {G : dn} (h : BT B w b G) (hb : SW w w') : BT B w' b G:=λV hV=>h V λk h1 h2=>(hV k h1 (NR h2 hb.size)).trans (hb.block k h2)
theorem BT.setCell {B : Nat} {w : World} {b : Nat} {G : dn} (h : BT B w b G) {p : Addr} (hp : p.block<B) (v : Value) : BT B (w.setCell p v) b G:=λV hV=>h V λk h1 h2 =>
 (hV k h1 (by have:=((Nc 0 w).setCell (p:=p) (Ni _) v).size;omega)).trans (Nz _ _ _ _ (by omega))
def E2 (P M : Int) (mod : Lz) (w : World) (e : Ending) (w' : World) : Prop :=
 (bA P M mod=false/\e = .returned (.tuple #[.pointer none,.int .i64 1])/\SW w w') \/
 (bA P M mod=true/\∃b,e = .returned (.tuple #[.pointer (some ⟨b,0,none⟩),.int .i64 0])/\BT w.heap.size w' b (af P M.toNat mod)/\w.heap.size<=b/\SW w w')
theorem ef (P M : Int) (am : OA) (mn cm : Nat) (mod : Lz) (w : World) (hmod : Ints w am mn mod) :
  Calls prog 52 #[.agg #[.int .i64 P,.int .i64 M,.slice am mn cm]] w (E2 P M mod w):=by
 have hbox : ∀w' : World,Below (w.heap.size+1) (w.alloc (.cells #[.int .i64 P,.int .i64 M,.slice am mn cm] 24)) w' ->
   w'.cell? ⟨w.heap.size,0,none⟩=some (.int .i64 P)/\w'.cell? ⟨w.heap.size,1,none⟩=some (.int .i64 M)/\w'.cell? ⟨w.heap.size,2,none⟩=some (.slice am mn cm)/\SW w w':=by intro w' h;refine ⟨(h.cell (by simp)).trans (by simp),(h.cell (by simp)).trans (by simp),(h.cell (by simp)).trans (by simp),((Nc _ _).alloc (Na _) _).trans (h.mono (by omega))⟩
 have Hbox:=Z5 hbox;clear hbox;go_enter func52,ntmps52;go_wp2_with fail;generalize hW0 : w.alloc (.cells #[.int .i64 P,.int .i64 M,.slice am mn cm] 24)=W0 at *;have hW0s : W0.heap.size=w.heap.size+1:=by rw [<- hW0];simp
 obtain ⟨q0,q1,q2,hbw⟩:=Hbox.out W0 (Nc _ _);clear hW0;refine (tG P M am mn cm mod W0 (hmod.ah hbw)).mono ?_;rintro e w1 ⟨rfl,hb1⟩;have hB1 : Below (w.heap.size+1) W0 w1:=hb1.mono (by omega);obtain ⟨q0,q1,q2,hbw⟩:=Hbox.out w1 hB1;by_cases hs : dg P M mod=true;case neg =>
  have hs' : dg P M mod=false:=by simpa using hs
  have Hf:=Z5 (show bA P M mod=false by simp [bA,hs'])
  clear hs
  go_wp2_with fail
  go_ret2
  exact .inl ⟨Hf.out,rfl,hbw⟩
 have hmn:=GQ hmod hs;obtain ⟨m,rfl,hd,ho,hq⟩:=ur hmod hs;go_wp2_with fail;refine (jW _ _ _).mono ?_;rintro e w2 ⟨rfl,rfl⟩;have hoq : aJ P m=((aJ P m).toNat : Int):=by rw [hq,ho]
 have hfB : bA P m mod = !(ji P m mod (aJ P m).toNat).isEmpty:=by simp [bA,hs]
 have hT : af P ((m : Int).toNat) mod = { P:=P,M:=m,q:=(aJ P m).toNat,ex:=ji P m mod (aJ P m).toNat,lg:=logTo (aJ P m).toNat (ji P m mod (aJ P m).toNat) ((aJ P m).toNat - 1) }:=rfl;have HT:=Z5 hT;have HfB:=Z5 hfB;rw [hoq];generalize (aJ P m).toNat=q at *;have Hq:=Z5 hq;clear hoq hfB ho hT hq hs;go_wp2_with fail;refine (qS P m am mn cm mod q w1 (hd.ah hbw) Hq.out).mono ?_;rintro e w2 ⟨a2,c2,rfl,hown2,hnil2,hb2⟩;have hin2:=uW.isNone hown2 hnil2;have hB2 : Below (w.heap.size+1) W0 w2:=hB1.trans (hb2.mono (by have:=hB1.size;omega));obtain ⟨r0,r1,r2,hbw2⟩:=Hbox.out w2 hB2;have heq:=λ(w : World) (a : OA) (l c : Nat)=>Go.run_eql_slice_nil (P:=prog) w 22 3 a l c underlying22;by_cases hge : ji P m mod q=[]
 ·have hf : bA P m mod=false:=by rw [HfB.out,hge];rfl
  rw [hge] at hin2;have hin3 : a2.isNone=true:=hin2;have Hf:=Z5 hf;clear hf hge hin2;go_wp2_with fail;go_ret2;exact .inl ⟨Hf.out,rfl,hbw2⟩
 ·have hin3 : a2.isNone=false:=by
   rw [hin2];cases h : ji P m mod q with
   | nil=>exact absurd h hge
   | cons x l=>rfl
  obtain ⟨y,hy1,hy2,hgy,hpy⟩:=tR hge;have hP0 : 0<P:=by have:=hd.p2;omega
  have hq2 : 2<=q:=by omega
  have hq256 : q<=256:=by have:=hd.pw;have:=Hq.out;omega
  have hlen : (ji P m mod q).length=q - 1:=by rw [hpy];simp only [je,NK,beq_iff_eq] at hgy;exact hgy.1
  have hexb : ∀i,0<=nth (ji P m mod q) i/\nth (ji P m mod q) i<q:=by intro i;rw [hpy];exact uz hP0 m mod q y Hq.out hq2 (by omega) (by omega) i
  have hf : bA P m mod=true:=by
   rw [HfB.out];cases h : ji P m mod q with
   | nil=>exact absurd h hge
   | cons x l=>rfl
  have Hf:=Z5 hf;have Hexb:=Z5 hexb;rw [hlen] at hown2;rw [hlen];have HLn:=Z5 hlen;have hi2:=(R6 hown2).1;have hmod2:=hmod.ah hbw2;clear hin2 hge hf hexb hlen hpy hgy hnil2;generalize ji P m mod q=ex at *;have hmk:=run_mk (P:=prog) 22 3 (.int .i64 0) 8 underlying22 aU rfl q (by omega) (by omega);go_upto_region 7 with fail;go_cut [6] (λv wx=>∃(gb : Nat) (al : OA),v = .pointer (some ⟨gb,0,none⟩)/\w2.heap.size<=gb/\w2.heap.size<=ablk al/\ablk al ≠ gb /\
   wx.cell? ⟨gb,0,none⟩=some (.int .i64 P)/\wx.cell? ⟨gb,3,none⟩=some (.int .i64 q)/\wx.cell? ⟨gb,4,none⟩=some (.slice a2 (q - 1) c2)/\wx.cell? ⟨gb,5,none⟩=some (.slice al q q) /\
   wx.ownsRow w2.heap.size 3 1 (.slice al q q) q (List.replicate q (.int .i64 0))/\SW w2 wx)
  case first =>
   have hO:=fA w2 3
   have hO2 : ((w2.alloc (.cells (Array.replicate q (.int .i64 0)) 3)).alloc (.cells #[] 3)).ownsRow w2.heap.size 3 1 (.slice (some ⟨w2.heap.size+1,0,none⟩) 0 0) 0 []:=by have h:=aX (fA (w2.alloc (.cells (Array.replicate q (.int .i64 0)) 3)) 3) (B':=w2.heap.size) (by simp);rwa [Pb] at h
   have hS : ∀W,SW w2 W->W.cell? ⟨w.heap.size,0,none⟩=some (.int .i64 P)/\W.cell? ⟨w.heap.size,1,none⟩=some (.int .i64 m)/\W.cell? ⟨w.heap.size,2,none⟩=some (.slice am mn cm)/\Ints W am mn mod/\SW w2 W :=
    λW hb=>⟨aB hb r0,aB hb r1,aB hb r2,hmod2.ah hb,hb⟩
   have HS:=Z5 hS
   clear hS
   go_region_held3 (λw'=>w'.cell? ⟨w.heap.size,0,none⟩=some (.int .i64 P)/\w'.cell? ⟨w.heap.size,1,none⟩=some (.int .i64 m)/\w'.cell? ⟨w.heap.size,2,none⟩=some (.slice am mn cm)/\Ints w' am mn mod/\SW w2 w')
    ((refine HS.out _ ?_;first | exact (Nc _ _).drew | exact ((Nc _ _).alloc (Na _) _).drew | exact hbA3 | (go_split_ands;exact Sb (by assumption) _)))
    (first | (obtain ⟨_,_,_,hI9,hB9⟩:=(by assumption : _/\_/\_/\Ints _ am mn mod/\SW w2 _);refine dE (by rfl) (.tmp 26) (.tmp 28) 22 3 (by rfl) (.int .i64 0) 8 underlying22 aU (by rfl) w2.heap.size _ 0 0 [] (by rfl) (by first | exact hO | exact hO.alloc _ | exact hO2) am mn cm (mod.map (Value.int .i64)) (by rfl) hmod2.pl (by simp [hmod2.len]) (Si hI9) (ints_oneCell _ _) (by omega) (by unfold maxLen;omega) (Om hB9) ?_;intro a3 c3 w3 hown3 hgr3 hap3;have hbA3 : SW w2 w3:=Sa (B:=w2.heap.size) (e:=3) (xs:=[]) hB9 (by first | exact hO | exact hO.alloc _ | exact hO2) hgr3 (Na _) (Om hB9)))
   all_goals (go_step;go_step;go_meet)
   ·have hsz:=hbA3.size
    refine ⟨w3.heap.size+1,some ⟨w3.heap.size,0,none⟩,rfl,by omega,hsz,by simp,aI _ _ _ (by simp) 0,aI _ _ _ (by simp) 3,aI _ _ _ (by simp) 4,aI _ _ _ (by simp) 5,?_,Sb (Sb hbA3 _) _⟩
    exact World.ownsRow.alloc (qA w3 3 (.int .i64 0) q rfl hsz (by unfold maxLen;omega)) _
   ·have hsz:=hbA3.size
    have hsz2:=hgr3.size
    simp at hsz2
    refine ⟨w3.heap.size,some ⟨w2.heap.size+1,0,none⟩,rfl,hsz,by simp,by simp;omega,aI _ _ _ rfl 0,aI _ _ _ rfl 3,aI _ _ _ rfl 4,aI _ _ _ rfl 5,?_,Sb hbA3 _⟩
    exact World.ownsRow.alloc (gO (qA (w2.alloc (.cells #[] 3)) 3 (.int .i64 0) q (by simp) (by simp) (by unfold maxLen;omega)) (te hgr3) (.inr (by simp))) _
   ·have hsz:=hbA3.size
    have hsz2:=hgr3.size
    simp at hsz2
    refine ⟨w3.heap.size,some ⟨w2.heap.size,0,none⟩,rfl,hsz,by simp,by simp;omega,aI _ _ _ rfl 0,aI _ _ _ rfl 3,aI _ _ _ rfl 4,aI _ _ _ rfl 5,?_,Sb hbA3 _⟩
    exact World.ownsRow.alloc (gO ((qA w2 3 (.int .i64 0) q rfl (Na _) (by unfold maxLen;omega)).alloc _) (te hgr3) (.inr (by simp))) _
  obtain ⟨gb,al,rfl,hgb,hal,hne,g0,g3,g4,g5,hownL,hbc⟩:=hcut;have hi2c:=hi2.ah hbc;have hpe:=hi2.pl;have HLt : Hid (List.replicate q (Value.int .i64 0)=(logTo q ex 0).map (Value.int .i64)):=by show _=_;simp [logTo]
  go_wp2_with fail;go_loopw [39] (λiv wr=>∃k : Nat,k<=q - 1/\iv = .int .i64 k/\wr.ownsRow w2.heap.size 3 1 (.slice al q q) q ((logTo q ex k).map (Value.int .i64)) /\
    (∀b,b ≠ ablk al->b<wc.heap.size->wr.heap[b]? = wc.heap[b]?)/\SW w2 wr)
   (λiv _=>q - (intOf iv).toNat)
  case atStart=>exact ⟨0,Ni _,rfl,by rw [<- HLt.out];exact hownL,λ_ _ _=>rfl,hbc⟩
  case round =>
   obtain ⟨k,hk,rfl,hownL,hsame,hbr⟩:=hrel
   have HS:=Z5 hsame
   have hgl : gb<wc.heap.size:=Nt wc _ g0
   have hblk:=hsame gb (λh=>hne h.symm) hgl
   have g0r : wr.cell? ⟨gb,0,none⟩=some (.int .i64 P):=(NT (w:=wc) hblk).trans g0
   have g3r : wr.cell? ⟨gb,3,none⟩=some (.int .i64 q):=(NT (w:=wc) hblk).trans g3
   have g4r : wr.cell? ⟨gb,4,none⟩=some (.slice a2 (q - 1) c2):=(NT (w:=wc) hblk).trans g4
   have g5r : wr.cell? ⟨gb,5,none⟩=some (.slice al q q):=(NT (w:=wc) hblk).trans g5
   have hi2r:=hi2.ah hbr
   obtain ⟨hiL,hmL⟩:=R6 hownL
   have hpL:=hiL.pl
   clear hsame hblk
   by_cases hlt : k<q - 1
   ·have ck:=hi2r.cell k hlt
    have hb:=Hexb.out k
    obtain ⟨xn,hxn⟩ : ∃xn : Nat,nth ex k=xn:=⟨(nth ex k).toNat,by omega⟩
    have hnx : logTo q ex (k+1)=(logTo q ex k).set xn k:=by rw [logTo,hxn];rfl
    rw [hxn] at ck hb
    have cL:=hiL.cell xn (by omega)
    have fL:=(hmL (by omega)).2 xn (by omega)
    have BL:=(hmL (by omega)).1
    have Hnx:=Z5 hnx
    clear hnx hxn
    go_wp2_with fail
    go_roundw
    case rel =>
     refine ⟨k+1,by omega,by go_num,?_,λb hb hl=>?_,hbr.setCell BL _⟩
     ·rw [Hnx.out,NF];exact bK hownL xn (by omega) _
     ·rw [Nz _ _ _ _ hb];exact HS.out b hb hl
    case measure=>simp [intOf] <;> omega
   ·obtain rfl : k=q - 1:=by omega
    go_wp2_with fail
    go_ret2
    refine .inr ⟨Hf.out,gb,rfl,?_,by have:=hbw2.size;omega,RZ hbw2 hbr⟩
    rw [HT.out]
    intro V hV
    have hB:=hbw2.size
    have hB2:=hb2.size
    have hB1:=hbw.size
    have cV : ∀i v,wr.cell? ⟨gb,i,none⟩=some v->V.cell? ⟨gb,i,none⟩=some v:=λi v hv=>(NT (w:=wr) (a:=⟨gb,i,none⟩) (hV gb (by omega) (Nt wr _ g0r))).trans hv
    refine ⟨hd.p2,hd.m1,hd.m8,Hq.out,hd.p256,hq2,hq256,cV _ _ g0r,cV _ _ g3r,⟨a2,c2,cV _ _ g4r,?_⟩,⟨al,q,cV _ _ g5r,?_⟩,λi _=>Hexb.out i,λi _=>B6 q ex hq2 _ (Na _) i⟩
    ·refine hi2r.of_block λhn=>hV _ ?_ (hi2r.lt hn)
     have:=(eA hown2 hn).1
     omega
    ·refine hiL.of_block λhn=>hV _ ?_ (hiL.lt hn)
     have:=(eA hownL hn).1
     omega
def SE:=@dn.mB
def SV:=@dn.xz
end Go.Proofs.YthglbncgemdcbaaGreat
