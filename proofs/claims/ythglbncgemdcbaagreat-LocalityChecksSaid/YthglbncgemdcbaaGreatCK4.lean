import Derived.Test.YthglbncgemdcbaaGreatCK3
import Derived.Lib.LazyBuf
namespace Go.Proofs.YthglbncgemdcbaaGreat
set_option linter.all false
set_option maxRecDepth 100000
set_option maxHeartbeats 1600000
open Go.RowKit Go.Proofs.Tryz
theorem aK {k : IntKind} {a b : Int} (h : a=b) : Ending.returned (.int k a) = .returned (.int k b):=by rw [h]
theorem aU {a b : Bool} (h : a=b) : Ending.returned (.bool a) = .returned (.bool b):=by rw [h]
def aH (p m : Int) : Int :=
 if p<2\/256<p\/m<1\/8<m then 0 else if p ^ m.toNat<=256 then p ^ m.toNat else 0
theorem iP {p m : Int} (h : p<2\/256<p\/m<1\/8<m) : aH p m=0:=by rw [aH,JT h]
theorem l6 {p m : Int} (h : ¬ p ^ m.toNat<=256) : aH p m=0:=by simp [aH,h]
theorem lf {p m : Int} (h : ¬ (p<2\/256<p\/m<1\/8<m)) (h2 : p ^ m.toNat<=256) : aH p m=p ^ m.toNat:=by rw [aH,JR h,JT h2]
theorem gu (p m : Int) (w : World) :
  Calls prog 109 #[.int .i64 p,.int .i64 m] w λe w'=>e = .returned (.int .i64 (aH p m))/\w=w':=by
 by_cases X : p<2\/256<p\/m<1\/8<m
 ·have Y:=Z5 (iP X);by_cases h1 : p<2
  ·go_enter func109,ntmps109;go_wp2;go_ret;exact ⟨aK Y.out.symm,rfl⟩
  by_cases h2 : 256<p
  ·go_enter func109,ntmps109;go_wp2;go_ret;exact ⟨aK Y.out.symm,rfl⟩
  by_cases h3 : m<1
  ·go_enter func109,ntmps109;go_wp2;go_ret;exact ⟨aK Y.out.symm,rfl⟩
  have N : 8<m:=by omega
  clear X;go_enter func109,ntmps109;go_wp2;go_ret;exact ⟨aK Y.out.symm,rfl⟩
 ·obtain ⟨n,rfl⟩ : ∃n : Nat,m=n:=⟨m.toNat,by omega⟩
  have h1 : 2<=p:=by omega
  have h2 : p<=256:=by omega
  have h3 : 1<=(n : Int):=by omega
  have N : (n : Int)<=8:=by omega
  have Y:=Z5 X;clear X;go_enter func109,ntmps109;go_wp2;go_loop [5,21] (λH O=>∃k : Nat,k<=n/\O = .int .i64 k/\H = .int .i64 (p ^ k)/\p ^ k<=256/\1<=p ^ k) (λ_ i=>n - (intOf i).toNat);case atStart=>exact ⟨0,JU _,rfl,by simp,by simp,by simp⟩
  case round =>
   obtain ⟨k,E,rfl,rfl,hb,S⟩:=hrel
   by_cases K : k<n
   ·have e1 : p ^ (k+1)=p ^ k * p:=KH _ _
    have D : p ^ k * p<=256 * 256:=L3 hb h2 (by omega) (by omega)
    have F : 1 * 1<=p ^ k * p:=L3 S (by omega) (by omega) (by omega)
    by_cases Q : p ^ k * p<=256
    ·have V:=Z5 e1
     clear e1
     go_wp2
     go_round
     case rel=>exact ⟨k+1,by omega,by go_num,by rw [V.out],by rw [V.out];exact Q,by rw [V.out];omega⟩
     case measure=>simp [intOf] <;> omega
    ·have Z : aH p n=0:=l6 (by intro h;have:=dS (show 1<=p by omega) (show k+1<=n by omega);rw [JQ] at h;omega)
     have U:=Z5 Z
     clear e1 Z
     go_wp2
     go_ret
     exact ⟨aK U.out.symm,rfl⟩
   ·obtain rfl : k=n:=by omega
    have U:=Z5 (lf Y.out (by simpa using hb))
    go_wp2
    go_ret
    exact ⟨aK (by rw [U.out];simp),rfl⟩
def fP (n : Nat) : Bool:=(List.range n).all λd=>d<2 || n % d != 0
theorem tL {n d : Nat} (h2 : 2<=d) (hd : d<n) (h : n % d=0) : fP n=false:=by unfold fP;rw [Le];exact ⟨d,List.mem_range.2 hd,by simp [h];omega⟩
theorem qK {n : Nat} (h : ∀d,2<=d->d<n->n % d ≠ 0) : fP n=true:=by
 unfold fP;rw [Ky];intro d hd;have:=List.mem_range.1 hd;by_cases h2 : d<2
 ·simp [h2]
 ·simp [h d (by omega) this]
theorem wk {n D : Nat} (h : ∀d,2<=d->d<D->n % d ≠ 0) (X : n<D * D) : fP n=true:=by
 refine qK λd h2 hd h0=>?_;rcases Kz d D with h1 | h1
 ·exact h d h2 h1 h0
 ·obtain ⟨e,he⟩:=MY h0;have Y : 2<=e:=by
   rcases Kz e 2 with h3 | h3
   ·have : e=0\/e=1:=by omega
    rcases this with rfl | rfl <;> omega
   ·exact h3
  have Z : e<D:=by
   rcases Kz e D with h3 | h3
   ·exact h3
   ·have:=LY h1 h3;omega
  exact h e Y Z (by rw [he];exact Nat.mul_mod_left d e)
theorem i9 (n : Nat) (w : World) (h2 : 2<=n) (K : n<=256) :
  Calls prog 163 #[.int .i64 n] w λe w'=>e = .returned (.bool (fP n))/\w=w':=by
 go_enter func163,ntmps163;go_wp2;go_loop [3] (λE=>∃d : Nat,2<=d/\d<=n/\E = .int .i64 d/\Hid (∀e,2<=e->e<d->n % e ≠ 0)) (λd=>n+1 - (intOf d).toNat);case atStart=>exact ⟨2,JO _,h2,rfl,λe he S=>by omega⟩
 case round =>
  obtain ⟨d,V,C,rfl,U⟩:=hrel
  have H : (d : Int) ≠ 0:=by omega
  by_cases Z : d * d<=n
  ·have O : (d : Int) * d<=n:=by exact_mod_cast Z
   have X : d * 2<=d * d:=K4 d V
   have F : (0 : Int)<=(d : Int) * d:=by exact_mod_cast JU (d * d)
   have Y : d<n:=by omega
   by_cases hm : n % d=0
   ·have N : ((n : Int) % d == 0)=true:=by simp;exact_mod_cast hm
    have Q:=Z5 (tL V Y hm)
    clear hm Z X
    go_wp2
    go_ret
    exact ⟨aU Q.out.symm,rfl⟩
   ·have N : ((n : Int) % d == 0)=false:=by simp;exact_mod_cast hm
    have D:=Z5 hm
    clear hm Z X
    go_wp2
    go_round
    case rel =>
     refine ⟨d+1,by omega,by omega,by go_num,λe he S=>?_⟩
     rcases Kz e d with h | h
     ·exact U.out e he h
     ·rw [show e=d from by omega];exact D.out
    case measure=>simp [intOf] <;> omega
  ·have O : ¬ (d : Int) * d<=n:=by intro h;exact Z (by exact_mod_cast h)
   have A : (d : Int) * d<=65536:=(kJ (by omega) (by omega) (by omega) (by omega)).2
   have F : (0 : Int)<=(d : Int) * d:=by exact_mod_cast JU (d * d)
   have Q:=Z5 (wk U.out (by omega))
   have z : (2 : Int)<=n:=by omega
   clear Z
   go_wp2
   go_ret
   exact ⟨aU (by rw [Q.out]),rfl⟩
def cB (P M : Int) (mod : LI) : Bool :=
 aH P M != 0 && fP P.toNat && (if M=1 then mod.length == 0 else decide ((mod.length : Int)=M) && mod.all λc=>decide (0<=c) && decide (c<P))
theorem iD {p m : Int} (h : aH p m ≠ 0) : 2<=p/\p<=256/\1<=m/\m<=8/\p ^ m.toNat<=256/\aH p m=p ^ m.toNat:=by
 by_cases Z : p<2\/256<p\/m<1\/8<m
 ·exact absurd (iP Z) h
 by_cases hb : p ^ m.toNat<=256
 ·exact ⟨by omega,by omega,by omega,by omega,hb,lf Z hb⟩
 ·exact absurd (l6 hb) h
theorem oC (P M : Int) (am : OA) (X cm : Nat) (mod : LI) (w : World) (Z : Ints w am X mod) :
  Calls prog 108 #[.agg #[.int .i64 P,.int .i64 M,.slice am X cm]] w λe w' =>
   e = .returned (.bool (cB P M mod))/\OC w w':=by
 have Y : OC w (w.alloc (.cells #[.int .i64 P,.int .i64 M,.slice am X cm] 24)):=(JP _ _).alloc (JO _) _;by_cases h0 : aH P M=0
 ·have V:=Z5 (show cB P M mod=false by simp [cB,h0]);have H : (aH P M == 0)=true:=by simp [h0]
  clear h0;go_enter func108,ntmps108;go_wp2_with (go_at_call 109;refine (gu _ _ _).mono ?_;rintro e w' ⟨rfl,rfl⟩);go_ret;exact ⟨aU V.out.symm,Y⟩
 obtain ⟨b1,b2,b3,b4,-,-⟩:=iD h0;have H : (aH P M == 0)=false:=by simp [h0]
 obtain ⟨p,rfl⟩ : ∃p : Nat,P=p:=⟨P.toNat,by omega⟩
 by_cases h1 : fP p=true;case neg =>
  have V:=Z5 (show cB p M mod=false by simp [cB,h1])
  have r : fP p=false:=by simpa using h1
  clear h0 h1
  go_enter func108,ntmps108
  go_wp2_with (first | (go_at_call 109;refine (gu _ _ _).mono ?_;rintro e w' ⟨rfl,rfl⟩) | (go_at_call 163;refine (i9 _ _ (by omega) (by omega)).mono ?_;rintro e w' ⟨rfl,rfl⟩))
  go_ret
  exact ⟨aU V.out.symm,Y⟩
 by_cases h2 : M=1
 ·subst h2;have V:=Z5 (show cB p 1 mod=((X : Int) == 0) by rw [<- Z.len,Bool.eq_iff_iff];simp [cB,h1,h0]);clear h0;go_enter func108,ntmps108;go_wp2_with (first | (go_at_call 109;refine (gu _ _ _).mono ?_;rintro e w' ⟨rfl,rfl⟩) | (go_at_call 163;refine (i9 _ _ (by omega) (by omega)).mono ?_;rintro e w' ⟨rfl,rfl⟩));go_ret;exact ⟨aU V.out.symm,Y⟩
 by_cases h3 : (X : Int)=M;case neg =>
  have V:=Z5 (show cB p M mod=false by simp [cB,h2,Z.len,h3])
  have O : (M == 1)=false:=by simpa using h2
  have A : ((X : Int) != M)=true:=by simpa using h3
  clear h0 h2 h3
  go_enter func108,ntmps108
  go_wp2_with (first | (go_at_call 109;refine (gu _ _ _).mono ?_;rintro e w' ⟨rfl,rfl⟩) | (go_at_call 163;refine (i9 _ _ (by omega) (by omega)).mono ?_;rintro e w' ⟨rfl,rfl⟩))
  go_ret
  exact ⟨aU V.out.symm,Y⟩
 subst h3;have O : ((X : Int) == 1)=false:=by simpa using h2
 have E : ∀b : Bool,(mod.all (λc=>decide (0<=c) && decide (c<(p : Int)))=b)->cB p X mod=b:=by intro b hb;simp [cB,h0,h1,h2,Z.len,<- hb]
 have C:=Z5 E;have hpl:=Z.pl;have hlen:=Z.len;have Q:=Z.max;unfold maxLen at Q;clear h0 h2 E;go_enter func108,ntmps108;go_wp2_with (first | (go_at_call 109;refine (gu _ _ _).mono ?_;rintro e w' ⟨rfl,rfl⟩) | (go_at_call 163;refine (i9 _ _ (by omega) (by omega)).mono ?_;rintro e w' ⟨rfl,rfl⟩));have U:=Z.af Y;go_loop [33] (λz=>∃k : Nat,k<=X/\z = .int .i64 k/\Hid (∀j,j<k->0<=nth mod j/\nth mod j<p)) (λi=>X - (intOf i).toNat);case atStart=>exact ⟨0,JU _,rfl,λj K=>by omega⟩
 case round =>
  obtain ⟨k,hk,rfl,S⟩:=hrel
  by_cases N : k<X
  ·have F:=U.cell k N
   by_cases D : 0<=nth mod k/\nth mod k<p
   ·obtain ⟨g1,g2⟩:=D
    go_wp2
    go_round
    case rel =>
     refine ⟨k+1,by omega,by go_num,λj K=>?_⟩
     rcases Kz j k with h | h
     ·exact S.out j h
     ·rw [show j=k from by omega];exact ⟨g1,g2⟩
    case measure=>simp [intOf] <;> omega
   ·have V:=Z5 (C.out false (by rw [Le];refine ⟨nth mod k,aI (by omega),?_⟩;simp;omega))
    rcases (show nth mod k<0\/(0<=nth mod k/\p<=nth mod k) by omega) with g | ⟨g,g'⟩
    all_goals
     clear D
     go_wp2
     go_ret
     exact ⟨aU V.out.symm,Y⟩
  ·obtain rfl : k=X:=by omega
   have V:=Z5 (C.out true (by rw [Ky];intro c F;obtain ⟨j,K,rfl⟩:=List.getElem_of_mem F;have:=S.out j (by omega);rw [aj K] at this;simp [this]))
   go_wp2
   go_ret
   exact ⟨aU V.out.symm,Y⟩
theorem wI : (prog.info? 4).map (λi=>(i.zero,i.size,i.bytes))=some (some (.bool false),1,1):=by kernel_rfl
def ry (S : List Bool) (l : LI) : Prop:=∀i : Nat,i<S.length->(pJ S i=true ↔ (i : Int) ∈ l)
theorem ry.snoc {S : List Bool} {l : LI} (h : ry S l) (i : Nat) (hi : i<S.length) : ry (S.set i true) (l ++ [(i : Int)]):=by
 intro j Z;rw [KG] at Z;rw [wB _ _ _ _ hi];by_cases e : j=i
 ·subst e;simp
 ·rw [JR e,h j Z];simp;omega
theorem pM.af {w w' : World} {P : Int} {M Z : Nat} {am : OA} {mod : LI} (h : pM w P M Z am mod) (hb : OC w w') : pM w' P M Z am mod :=
 ⟨h.p2,h.p256,h.m1,h.m8,h.pw,h.low,h.ints.af hb,h.dig⟩
def lenVal : Value->Nat | .slice _ n _=>n | _=>0
def FA (P : Int) (M : Nat) (mod : LI) (q : Nat) (x : Int) (w : World) (e : Ending) (w' : World) : Prop :=
 ∃a c,e = .returned (.slice a (eK P M mod q x).length c)/\w'.ownsRow w.heap.size 3 1 (.slice a (eK P M mod q x).length c) (eK P M mod q x).length ((eK P M mod q x).map (Value.int .i64))/\OC w w'
theorem Ab (P : Int) (m : Nat) (am : OA) (mn cm : Nat) (mod : LI) (q : Nat) (x : Int) (w : World) (hd : pM w P m mn am mod)
  (hq : (q : Int)=P ^ m) (hx : 0<=x) (hx2 : x<q) :
  Calls prog 164 #[.agg #[.int .i64 P,.int .i64 m,.slice am mn cm],.int .i64 q,.int .i64 x] w (FA P m mod q x w):=by
 have hq2 : 2<=q:=by have h1:=dS (show 1<=P by have:=hd.p2;omega) hd.m1;have h2:=hd.p2;rw [show (1 : Nat)=0+1 from rfl,KH,LK,Mo] at h1;omega
 have hq256 : q<=256:=by have:=hd.pw;omega
 have hPp : 0<P:=by have:=hd.p2;omega
 have Hq:=Z5 hq;clear hq;go_enter func164,ntmps164;have hq2' : (1 : Int)<q:=by omega
 have hbox : ∀w' : World,Below (w.heap.size+1) (w.alloc (.cells #[.int .i64 P,.int .i64 m,.slice am mn cm] 24)) w' ->
   w'.cell? ⟨w.heap.size,0,none⟩=some (.int .i64 P)/\w'.cell? ⟨w.heap.size,1,none⟩=some (.int .i64 m)/\w'.cell? ⟨w.heap.size,2,none⟩=some (.slice am mn cm)/\OC w w':=by intro w' h;refine ⟨(h.cell (by simp)).trans (by simp),(h.cell (by simp)).trans (by simp),(h.cell (by simp)).trans (by simp),((JP _ _).alloc (JO _) _).trans (h.mono (by omega))⟩
 have Hbox:=Z5 hbox;clear hbox;go_wp2_with (at_make;refine ch rfl _ _ 90 4 rfl (.bool false) 1 underlying90 wI rfl q rfl rfl (by omega) (by unfold maxLen;omega) ?_;intro a w1 H N A hlt;obtain ⟨hb1,hm1⟩:=Oy (l:=List.replicate q false) (by simpa using H);have hc1:=hb1.cell 1 (by omega);have hf1:=(hm1 (by omega)).2 1 (by omega);have hp1:=hb1.pl);generalize hW0 : w.alloc (.cells #[.int .i64 P,.int .i64 m,.slice am mn cm] 24)=W0 at *;have hW0s : W0.heap.size=w.heap.size+1:=by rw [<- hW0];simp
 have HW0:=Z5 hW0;clear hW0;have K : Below (w.heap.size+1) W0 w1:=((JP _ _).alloc (by omega) _).trans (N.mono (by simp;omega));have F:=bp (yh W0 [1] 3 (B:=w.heap.size+1) (by omega) (by simp [maxLen])) N;have E:=bC H 1 (by omega) (.bool true);have Y:=dP F (p:=⟨ablk a,aL a+1,none⟩) (.bool true) (.inr (by have:=A;simp at this;show W0.heap.size ≠ ablk a;omega));have hbel3:=K.setCell (p:=⟨ablk a,aL a+1,none⟩) (by have:=A;simp at this;show w.heap.size+1<=ablk a;omega) (.bool true);have hageW : W0.heap.size+1<=ablk a:=by simpa using A
 clear H F N K hb1 hm1 hc1 hf1 A;generalize w1.setCell ⟨ablk a,aL a+1,none⟩ (.bool true)=w2 at *;rw [hW0s] at Y;go_loopw [7,9] (λov yv wr=>∃(l : LI) (y : Nat) (S : List Bool) (ao : OA) (c n : Nat),ov = .slice ao l.length c/\yv = .int .i64 y/\y<q /\
   wr.ownsRow (w.heap.size+1) 3 1 (.slice ao l.length c) l.length (l.map (Value.int .i64))/\wr.ownsRow (w.heap.size+1) 4 1 (.slice a q q) q (S.map Value.bool)/\eX ao (ablk a) /\
   Hid (ry S l)/\l.length+cntF S=q/\cntF S<=n/\Hid (eK P m mod q x=powTo (λy=>dh P m mod y x) n l y)/\Below (w.heap.size+1) W0 wr)
  (λov _ _=>q - lenVal ov)
 case atStart =>
  obtain ⟨xn,rfl⟩ : ∃xn : Nat,x=xn:=⟨x.toNat,by omega⟩
  have hc:=rX (List.replicate q false) 1 (by rw [Ke,JT (by omega)])
  rw [rz] at hc
  refine ⟨[1],xn,(List.replicate q false).set 1 true,_,1,q,rfl,rfl,by omega,Y,?_,.inr (by simp;omega),?_,?_,?_,rfl,hbel3⟩
  ·have:=bd E (B':=w.heap.size+1) (by simp;omega)
   simpa [Kh] using this
  ·intro j hj
   rw [wB _ _ _ _ (by simp;omega)]
   simp only [KG,List.length_replicate] at hj
   by_cases e : j=1
   ·subst e;simp
   ·rw [JR e];simp [pJ,hj];omega
  ·simp;omega
  ·omega
 case round =>
  obtain ⟨l,y,S,ao,c,n,rfl,rfl,hy,V,U,D,hsn,hcnt,hn,O,hbr⟩:=hrel
  obtain ⟨hbS,hmS⟩:=Oy U
  have hlS : S.length=q:=hbS.len
  obtain ⟨q0,q1,q2,hbw⟩:=Hbox.out wr hbr
  have hpS:=hbS.pl
  have hcy:=hbS.cell y hy
  have hyq : (y : Int)<q:=by omega
  by_cases hy0 : y=0
  ·have X : eK P m mod q x=l:=by rw [O.out];exact iQ _ _ _ _ (.inl (by omega))
   have hyz : ((y : Int) != 0)=false:=by simp;omega
   have Z:=Z5 X
   clear X hy0
   go_wp2_with fail
   go_ret
   refine ⟨ao,c,by rw [Z.out];rfl,by rw [Z.out];exact bd V (by omega),hbw⟩
  have hyz : ((y : Int) != 0)=true:=by simp;omega
  have Q:=hsn.out y (by omega)
  by_cases r : pJ S y=true
  ·have X : eK P m mod q x=l:=by rw [O.out];exact iQ _ _ _ _ (.inr (Q.1 r))
   have Z:=Z5 X
   clear X Q hy0
   go_wp2_with fail
   go_ret
   refine ⟨ao,c,by rw [Z.out];rfl,by rw [Z.out];exact bd V (by omega),hbw⟩
  have hyF : pJ S y=false:=by simpa using r
  have hSy : S[y]? = some false:=by rw [Km (by omega),<- mZ (by omega),hyF]
  have hcs:=rX S y hSy
  obtain ⟨n',rfl⟩ : ∃n',n=n'+1:=⟨n - 1,by omega⟩
  have hgo : eK P m mod q x=powTo (λy=>dh P m mod y x) n' (l ++ [(y : Int)]) (dh P m mod y x):=by rw [O.out];exact qZ _ _ _ _ (λh=>h.elim (λh=>by omega) (λh=>r (Q.2 h)))
  have Hgo:=Z5 hgo
  have hsn2 : Hid (ry (S.set y true) (l ++ [(y : Int)])):=hsn.out.snoc y (by omega)
  have hfy:=(hmS (by omega)).2 y hy
  clear hgo Q hy0 r hSy hsn O
  have hO2:=dP V (p:=⟨ablk a,aL a+y,none⟩) (.bool true) D
  have C:=bC U y hy (.bool true)
  rw [<- Kh] at C
  have hB2:=hbr.setCell (p:=⟨ablk a,aL a+y,none⟩) (show w.heap.size+1<=ablk a by omega) (.bool true)
  have hzs : (wr.setCell ⟨ablk a,aL a+y,none⟩ (.bool true)).heap.size=wr.heap.size:=by simp
  have hcn : ((wr.setCell ⟨ablk a,aL a+y,none⟩ (.bool true)).alloc (.cells #[.int .i64 y] 3)).cell? ⟨wr.heap.size,0,none⟩=some (.int .i64 y):=by have h:=M7 (wr.setCell ⟨ablk a,aL a+y,none⟩ (.bool true)) #[.int .i64 y] 3 0;rw [hzs] at h;exact h
  have hWr : W0.heap.size<=wr.heap.size:=hbr.size
  have hl256 : l.length<=256:=by omega
  have hBs : w.heap.size+1<=((wr.setCell ⟨ablk a,aL a+y,none⟩ (.bool true)).alloc (.cells #[.int .i64 y] 3)).heap.size:=by rw [L6,hzs];omega
  go_wp2_with (at_builtin;refine aS rfl _ _ 22 3 rfl (.int .i64 0) 8 underlying22 aV rfl (w.heap.size+1) ao l.length c _ rfl (hO2.alloc _) ⟨wr.heap.size,0,none⟩ 1 (.int .i64 y) rfl hcn rfl (by omega) (by unfold maxLen;omega) hBs ?_;intro a3 c3 w3 Y hgr hap3;have z:=N0 (hB2.alloc (by rw [hzs];omega) _) (hO2.alloc _) hgr (JO _) hBs;obtain ⟨r0,r1,r2,hbw3⟩:=Hbox.out w3 z)
  have hmb:=u2 hPp m mod y x
  rw [<- Hq.out] at hmb
  refine (nf P m am mn cm mod y x w3 (hd.af hbw3) (by omega) (by omega) hx (by omega)).mono ?_
  rintro e w4 ⟨rfl,hb4⟩
  have hS3:=il (C.alloc _) hgr D
  have hap4:=hap3 (ablk a) (by have h:=(dT C (by omega)).2;rw [L6];omega) D
  have hown4:=bp Y hb4
  have hS4:=bp hS3 hb4
  have hB4 : Below (w.heap.size+1) W0 w4:=z.trans (hb4.mono (by have:=z.size;omega))
  obtain ⟨y2,hy2⟩ : ∃y2 : Nat,dh P m mod y x=y2:=⟨(dh P m mod y x).toNat,by omega⟩
  rw [hy2] at hmb
  clear Y hS3 z hb4 hgr hO2 C hB2 V U E hcn r0 r1 r2 hap3
  go_wp2_with fail
  go_roundw
  case rel =>
   refine ⟨l ++ [(y : Int)],y2,S.set y true,a3,c3,n',by simp,rfl,by omega,by simpa using hown4,hS4,hap4,hsn2,by simp;omega,by omega,?_,hB4⟩
   have:=Hgo.out
   rw [hy2] at this
   exact this
  case measure=>simp [lenVal] <;> omega
def pP (P : Int) (M : Nat) (mod : LI) (q : Nat) (w : World) (e : Ending) (w' : World) : Prop :=
 ∃a c,e = .returned (.slice a (fG P M mod q).length c)/\w'.ownsRow w.heap.size 3 1 (.slice a (fG P M mod q).length c) (fG P M mod q).length ((fG P M mod q).map (Value.int .i64)) /\
  (fG P M mod q=[]->a=none/\c=0)/\OC w w'
theorem CV {P : Int} {M : Nat} {mod : LI} {q : Nat} {x : Int} (h : (eK P M mod q x).length ≠ q - 1) : fM P M mod q x=false:=by simp [fM,h]
theorem lS (P : Int) (m : Nat) (am : OA) (Q cm : Nat) (mod : LI) (q : Nat) (w : World) (hd : pM w P m Q am mod)
  (hq : (q : Int)=P ^ m) :
  Calls prog 110 #[.agg #[.int .i64 P,.int .i64 m,.slice am Q cm],.int .i64 q] w (pP P m mod q w):=by
 have hq2 : 2<=q:=by have h1:=dS (show 1<=P by have:=hd.p2;omega) hd.m1;have h2:=hd.p2;rw [show (1 : Nat)=0+1 from rfl,KH,LK,Mo] at h1;omega
 have hq256 : q<=256:=by have:=hd.pw;omega
 have hPp : 0<P:=by have:=hd.p2;omega
 have Hq:=Z5 hq;clear hq;have K : ∀w' : World,Below (w.heap.size+1) (w.alloc (.cells #[.int .i64 P,.int .i64 m,.slice am Q cm] 24)) w' ->
   w'.cell? ⟨w.heap.size,0,none⟩=some (.int .i64 P)/\w'.cell? ⟨w.heap.size,1,none⟩=some (.int .i64 m)/\w'.cell? ⟨w.heap.size,2,none⟩=some (.slice am Q cm)/\OC w w':=by intro w' h;refine ⟨(h.cell (by simp)).trans (by simp),(h.cell (by simp)).trans (by simp),(h.cell (by simp)).trans (by simp),((JP _ _).alloc (JO _) _).trans (h.mono (by omega))⟩
 have V:=Z5 K;clear K;have hq2' : (1 : Int)<q:=by omega
 go_enter func110,ntmps110;go_wp2;generalize hW0 : w.alloc (.cells #[.int .i64 P,.int .i64 m,.slice am Q cm] 24)=W0 at *;have hW0s : W0.heap.size=w.heap.size+1:=by rw [<- hW0];simp
 clear hW0;go_loopw [5] (λxv wr=>∃x : Nat,1<=x/\x<=q/\xv = .int .i64 x/\Hid (fG P m mod q=genTo P m mod q (q - x) x)/\Below (w.heap.size+1) W0 wr) (λxv _=>q - (intOf xv).toNat);case atStart=>exact ⟨1,JO _,by omega,rfl,rfl,JP _ _⟩
 case round =>
  obtain ⟨x,hx1,hxq,rfl,Z,O⟩:=hrel
  obtain ⟨q0,q1,q2,j⟩:=V.out wr O
  by_cases hlt : x<q
  ·have hxi : (x : Int)<q:=by omega
   go_wp2_with fail
   refine (Ab P m am Q cm mod q x wr (hd.af j) Hq.out (by omega) hxi).mono ?_
   rintro e z ⟨a1,c1,rfl,U,hb1⟩
   obtain ⟨r,hm1⟩:=NZ U
   have N : Below (w.heap.size+1) W0 z:=O.trans (hb1.mono (by have:=O.size;omega))
   obtain ⟨r0,r1,r2,hbw1⟩:=V.out z N
   have hgs : genTo P m mod q (q - x) x=if fM P m mod q x then eK P m mod q x else genTo P m mod q (q - (x+1)) (x+1):=by rw [show q - x=(q - (x+1))+1 from by omega,genTo]
   rw [hgs] at Z
   by_cases hlen : (eK P m mod q x).length=q - 1
   ·have hl1 : ((eK P m mod q x).length : Int)=(q : Int) - 1:=by omega
    have hle : (((eK P m mod q x).length : Int) == (q : Int) - 1)=true:=by rw [hl1];simp
    have hcl:=r.cell (q - 2) (by omega)
    have hpb:=r.pl
    have hib0 : (0 : Int)<=(q : Int) - 2:=by omega
    have hib2 : (2 : Int)<=(q : Int):=by omega
    have hib1 : (q : Int) - 2<((eK P m mod q x).length : Int):=by omega
    have hlb:=ph hPp m mod q x Hq.out hq2 (by omega) hxi (q - 2)
    have hdd : pM z.drew P m Q am mod:=hd.af hbw1.drew
    have E : IntKind.i64.wrap ((q : Int) - 1)=(q : Int) - 1:=J3 _ (by omega)
    have hw2 : IntKind.i64.wrap ((q : Int) - 2)=(q : Int) - 2:=J3 _ (by omega)
    have hw3 : ((q : Int) - 2).toNat=q - 2:=by omega
    have HLn:=Z5 hlen
    clear hl1 hlen
    go_wp2_with fail
    go_region_held3 (λw'=>w'.cell? ⟨w.heap.size,0,none⟩=some (.int .i64 P)/\w'.cell? ⟨w.heap.size,1,none⟩=some (.int .i64 m)/\w'.cell? ⟨w.heap.size,2,none⟩=some (.slice am Q cm)/\w'.cell? ⟨ablk a1,aL a1+(q - 2),none⟩=some (.int .i64 (nth (eK P m mod q x) (q - 2)))/\OC z w')
     (first | exact ⟨r0,r1,r2,hcl,(JP _ _).drew⟩ | (go_split_ands;exact ⟨aB (by assumption) (by assumption),aB (by assumption) (by assumption),aB (by assumption) (by assumption),aB (by assumption) (by assumption),NX (by assumption) (by assumption)⟩))
     (first | (go_at_call 165;((with_reducible refine (nf P m am Q cm mod (nth (eK P m mod q x) (q - 2)) x _ hdd (by omega) (by omega) (by omega) (by omega)).mono ?_);rintro e D ⟨rfl,hb4⟩)))
    obtain ⟨_,_,_,C,F⟩ : D.cell? ⟨w.heap.size,0,none⟩=some (.int .i64 P)/\D.cell? ⟨w.heap.size,1,none⟩=some (.int .i64 m)/\D.cell? ⟨w.heap.size,2,none⟩=some (.slice am Q cm)/\D.cell? ⟨ablk a1,aL a1+(q - 2),none⟩=some (.int .i64 (nth (eK P m mod q x) (q - 2)))/\OC z D:=by assumption
    have hB4 : Below (w.heap.size+1) W0 D:=N.trans (F.mono (by have:=N.size;omega))
    clear E hw2 hw3 hdd
    by_cases Y : dh P m mod (nth (eK P m mod q x) (q - 2)) x=1
    ·have S : fM P m mod q x=true:=by simp [fM,Y,HLn.out]
     rw [S] at Z
     have H : fG P m mod q=eK P m mod q x:=Z.out
     have X:=Z5 H
     have h1b : (dh P m mod (nth (eK P m mod q x) (q - 2)) x == 1)=true:=by rw [Y];rfl
     clear H S Y Z
     go_wp2_with fail
     go_ret
     refine ⟨a1,c1,by rw [X.out];rfl,by rw [X.out];exact bd (bp U F) (by have:=O.size;omega),?_,(V.out D hB4).2.2.2⟩
     rw [X.out]
     intro h
     have h2:=HLn.out
     rw [h] at h2
     simp at h2
     omega
    ·have S : fM P m mod q x=false:=by simp [fM,Y]
     rw [S] at Z
     have h1b : (dh P m mod (nth (eK P m mod q x) (q - 2)) x == 1)=false:=by simpa using Y
     clear S Y C
     go_wp2_with fail
     go_roundw
     case rel=>exact ⟨x+1,by omega,by omega,by go_num,Z,hB4⟩
     case measure=>simp [intOf] <;> omega
   ·rw [CV hlen] at Z
    have hle : (((eK P m mod q x).length : Int) == (q : Int) - 1)=false:=by rw [beq_eq_false_iff_ne];omega
    have E : IntKind.i64.wrap ((q : Int) - 1)=(q : Int) - 1:=J3 _ (by omega)
    clear hlen
    go_wp2_with fail
    go_quiet (fail)
    clear E
    go_wp2_with fail
    go_roundw
    case rel=>exact ⟨x+1,by omega,by omega,by go_num,Z,below_drewN N _⟩
    case measure=>simp [intOf] <;> omega
  ·obtain rfl : x=q:=by omega
   have hg0 : fG P m mod x=[]:=by rw [Z.out,MS];rfl
   have A:=Z5 hg0
   clear hg0
   go_wp2_with fail
   go_ret
   refine ⟨none,0,by rw [A.out];rfl,by rw [A.out];exact cF,λ_=>⟨rfl,rfl⟩,j⟩
theorem Aj {w : World} {B : Nat} {e : TypeId} {a : OA} {c n : Nat} {xs : List Value} (h : w.ownsRow B e 1 (.slice a n c) n xs) (Z : 0<n) : a.isNone=false:=by
 obtain ⟨_,_,Y,X⟩:=Od h;cases Y
 rw [X Z];rfl
theorem pP.isNone {a : OA} {l : LI} {c : Nat} {w : World} {B : Nat} {e : TypeId} (h : w.ownsRow B e 1 (.slice a l.length c) l.length (l.map (Value.int .i64))) (h0 : l=[]->a=none/\c=0) : a.isNone=l.isEmpty:=by
 cases l with
 | nil=>rw [(h0 rfl).1];rfl
 | cons x l=>exact Aj h (by simp)
def bq (P M : Int) (mod : LI) : Bool:=cB P M mod && !(fG P M.toNat mod (aH P M).toNat).isEmpty
def cU (b : Bool) : Int:=if b then 0 else 1
theorem pD {w : World} {P M : Int} {am : OA} {X : Nat} {mod : LI} (hm : Ints w am X mod) (h : cB P M mod=true) :
  ∃m : Nat,M=m/\pM w P m X am mod/\aH P M=P ^ m/\((aH P M).toNat : Int)=P ^ m:=by
 simp only [cB,J9,bne_iff_ne,ne_eq] at h;obtain ⟨⟨h0,h1⟩,h2⟩:=h;obtain ⟨U,S,N,O,Q,V⟩:=iD h0;refine ⟨M.toNat,by omega,⟨U,S,by omega,by omega,Q,?_,hm,?_⟩,V,?_⟩
 ·intro h3;rw [JR (by omega)] at h2;simp only [J9,Kt] at h2;have:=hm.len;omega
 ·refine Oo (by omega) λx Z=>?_;by_cases Y : M=1
  ·rw [JT Y] at h2;have h3 : mod.length=0:=by simpa using h2
   rw [Kd h3] at Z;cases Z
  ·rw [JR Y] at h2;simp only [J9,Kt,Ky] at h2;exact h2.2 x Z
 ·rw [V];have:=dS (show 1<=P by omega) (JU M.toNat);rw [LK] at this;omega
theorem rS (P M : Int) (am : OA) (Y cm : Nat) (mod : LI) (w : World) (V : Ints w am Y mod) :
  Calls prog 142 #[.agg #[.int .i64 P,.int .i64 M,.slice am Y cm]] w λe w' =>
   e = .returned (.int .i64 (cU (bq P M mod)))/\OC w w':=by
 have U : ∀w' : World,Below (w.heap.size+1) (w.alloc (.cells #[.int .i64 P,.int .i64 M,.slice am Y cm] 24)) w' ->
   w'.cell? ⟨w.heap.size,0,none⟩=some (.int .i64 P)/\w'.cell? ⟨w.heap.size,1,none⟩=some (.int .i64 M)/\w'.cell? ⟨w.heap.size,2,none⟩=some (.slice am Y cm)/\OC w w':=by intro w' h;refine ⟨(h.cell (by simp)).trans (by simp),(h.cell (by simp)).trans (by simp),(h.cell (by simp)).trans (by simp),((JP _ _).alloc (JO _) _).trans (h.mono (by omega))⟩
 have z:=Z5 U;clear U;go_enter func142,ntmps142;go_wp2;generalize C : w.alloc (.cells #[.int .i64 P,.int .i64 M,.slice am Y cm] 24)=W0 at *;have hW0s : W0.heap.size=w.heap.size+1:=by rw [<- C];simp
 obtain ⟨q0,q1,q2,X⟩:=z.out W0 (JP _ _);clear C;by_cases F : cB P M mod=true
 ·obtain ⟨m,rfl,hd,ho,j⟩:=pD V F;have A : aH P m=((aH P m).toNat : Int):=by rw [j,ho]
  have Q : cU (bq P m mod)=if (fG P m mod (aH P m).toNat).isEmpty then 1 else 0:=by simp [bq,F,cU]
  have E:=Z5 Q;have Hoq:=Z5 A;have D : pM W0 P m Y am mod:=hd.af X;have heq:=λ(w : World) (a : OA) (l c : Nat)=>Go.run_eql_slice_nil (P:=prog) w 22 3 a l c underlying22;generalize (aH P m).toNat=q at *;have Hq:=Z5 j;clear Q A ho j;go_region_held3 (λw'=>w'.cell? ⟨w.heap.size,0,none⟩=some (.int .i64 P)/\w'.cell? ⟨w.heap.size,1,none⟩=some (.int .i64 m)/\w'.cell? ⟨w.heap.size,2,none⟩=some (.slice am Y cm)/\pM w' P m Y am mod/\OC W0 w')
   (first | exact ⟨q0,q1,q2,D.af (JP _ _).drew,(JP _ _).drew⟩ | assumption | (go_split_ands;exact ⟨aB (by assumption) (by assumption),aB (by assumption) (by assumption),aB (by assumption) (by assumption),pM.af (by assumption) (by assumption),NX (by assumption) (by assumption)⟩))
   (first | (go_at_call 108; ((with_reducible refine (oC P m am Y cm mod _ (D.ints.af (JP _ _).drew)).mono ?_); rw [F]; rintro e O ⟨rfl, hb4⟩))
          | (go_at_call 109;((with_reducible refine (gu _ _ _).mono ?_);rw [Hoq.out];rintro e O ⟨rfl,rfl⟩))
          | (go_at_call 110;go_split_ands;((with_reducible refine (lS P m am Y cm mod q _ (by assumption) Hq.out).mono ?_);rintro e O ⟨a4,c4,rfl,N,H,hb4⟩;have hin4:=pP.isNone N H)))
  obtain ⟨_,_,_,_,r⟩ : O.cell? ⟨w.heap.size,0,none⟩=some (.int .i64 P)/\O.cell? ⟨w.heap.size,1,none⟩=some (.int .i64 m)/\O.cell? ⟨w.heap.size,2,none⟩=some (.slice am Y cm)/\pM O P m Y am mod/\OC W0 O:=by assumption
  cases hge : (fG P m mod q).isEmpty
  all_goals
   go_wp2_with fail
   go_ret
   exact ⟨aK (by rw [E.out,hge];rfl),NX X r⟩
 ·have hs' : cB P M mod=false:=by simpa using F
  have Hf:=Z5 (show cU (bq P M mod)=1 by simp [bq,hs',cU]);clear F;refine wp_region_held_drew (S:=(λw'=>w'.cell? ⟨w.heap.size,0,none⟩=some (.int .i64 P)/\w'.cell? ⟨w.heap.size,1,none⟩=some (.int .i64 M)/\w'.cell? ⟨w.heap.size,2,none⟩=some (.slice am Y cm)/\OC W0 w')) (by kernel_rfl) ?_ (λhHeld=>?_)
  ·exact ⟨q0,q1,q2,(JP _ _).drew⟩
  refine wpAnyH_take (i:=0) (v:=?_) (by simp only [KC,Kq,Kv];rfl) (by kernel_rfl) (by kernel_rfl) (by kernel_rfl) (by exact λ_ _ _ h=>h) (KR ⟨by rfl,?_⟩) (by assumption) ?_;rotate_left
  ·(intro w Z;(try dsimp only at Z);go_simp;first | done | with_reducible rfl)
  try simp only [Act.put,JV,JY,J1]
  refine wpAnyH_ready (rs:=[1]) (by kernel_rfl) (by simp) ?_;refine AllReadyH.cons rfl (λK hK=>?_) AllReadyH.nil;go_simp;refine (oC P M am Y cm mod _ (V.af X.drew)).mono ?_;rintro e O ⟨rfl,hb4⟩;go_wp2_with fail;refine hK.out _ _ ?_ (λhHeld=>?_)
  ·exact ⟨aB hb4 q0,aB hb4 q1,aB hb4 q2,NX (JP _ _).drew hb4⟩
  clear hK K;try simp only [Act.put,JV,JY,J1]
  refine wpAnyH_take (i:=2) (v:=?_) (by simp only [KC,Kq,Kv];rfl) (by kernel_rfl) (by kernel_rfl) (by kernel_rfl) (by exact λ_ _ _ h=>h) (KR ⟨by rfl,?_⟩) (by assumption) ?_;rotate_left
  ·(intro w Z;(try dsimp only at Z);go_simp;first | done | with_reducible rfl)
  try simp only [Act.put,JV,JY,J1]
  refine wpAnyH_take (i:=3) (v:=?_) (by simp only [KC,Kq,Kv];rfl) (by kernel_rfl) (by kernel_rfl) (by kernel_rfl) (by exact λ_ _ _ h=>h) (KR ⟨by rfl,?_⟩) (by assumption) ?_;rotate_left
  ·(intro w Z;(try dsimp only at Z);go_simp;first | done | with_reducible rfl)
  try simp only [Act.put,JV,JY,J1]
  refine wpAnyH_take (i:=4) (v:=undef) (by simp only [KC,Kq,Kv];rfl) (by kernel_rfl) (by kernel_rfl) (by kernel_rfl) (by exact λ_ _ _ h=>h) (Nt ⟨by rfl,rfl⟩) (by assumption) ?_;try simp only [Act.put,JV,JY,J1]
  refine wpAnyH_take (i:=5) (v:=undef) (by simp only [KC,Kq,Kv];rfl) (by kernel_rfl) (by kernel_rfl) (by kernel_rfl) (by exact λ_ _ _ h=>h) (Nt ⟨by rfl,rfl⟩) (by assumption) ?_;try simp only [Act.put,JV,JY,J1]
  refine wpAnyH_take (i:=6) (v:=undef) (by simp only [KC,Kq,Kv];rfl) (by kernel_rfl) (by kernel_rfl) (by kernel_rfl) (by exact λ_ _ _ h=>h) (Nt ⟨by rfl,rfl⟩) (by assumption) ?_;try simp only [Act.put,JV,JY,J1]
  refine wpAnyH_take (i:=7) (v:=undef) (by simp only [KC,Kq,Kv];rfl) (by kernel_rfl) (by kernel_rfl) (by kernel_rfl) (by exact λ_ _ _ h=>h) (Nt ⟨by rfl,rfl⟩) (by assumption) ?_;try simp only [Act.put,JV,JY,J1]
  refine wpAnyH_take (i:=8) (v:=undef) (by simp only [KC,Kq,Kv];rfl) (by kernel_rfl) (by kernel_rfl) (by kernel_rfl) (by exact λ_ _ _ h=>h) (Nt ⟨by rfl,rfl⟩) (by assumption) ?_;try simp only [Act.put,JV,JY,J1]
  refine wpAnyH_take (i:=9) (v:=undef) (by simp only [KC,Kq,Kv];rfl) (by kernel_rfl) (by kernel_rfl) (by kernel_rfl) (by exact λ_ _ _ h=>h) (Nt ⟨by rfl,rfl⟩) (by assumption) ?_;try simp only [Act.put,JV,JY,J1]
  refine wpAnyH_take (i:=10) (v:=undef) (by simp only [KC,Kq,Kv];rfl) (by kernel_rfl) (by kernel_rfl) (by kernel_rfl) (by exact λ_ _ _ h=>h) (Nt ⟨by rfl,rfl⟩) (by assumption) ?_;try simp only [Act.put,JV,JY,J1]
  refine wpAnyH_take (i:=11) (v:=undef) (by simp only [KC,Kq,Kv];rfl) (by kernel_rfl) (by kernel_rfl) (by kernel_rfl) (by exact λ_ _ _ h=>h) (Nt ⟨by rfl,rfl⟩) (by assumption) ?_;try simp only [Act.put,JV,JY,J1]
  refine wpAnyH_take (i:=12) (v:=?_) (by simp only [KC,Kq,Kv];rfl) (by kernel_rfl) (by kernel_rfl) (by kernel_rfl) (by exact λ_ _ _ h=>h) (KR ⟨by rfl,?_⟩) (by assumption) ?_;rotate_left
  ·(intro w Z;(try dsimp only at Z);go_simp;first | done | with_reducible rfl)
  try simp only [Act.put,JV,JY,J1]
  refine wpAnyH_done (by kernel_rfl) ?_ _;go_wp2_with fail;go_ret;exact ⟨aK Hf.out.symm,NX X hHeld.2.2.2⟩
section
structure ya (w : World) (b : Nat) (P : Int) (M q : Nat) (ex lg : LI) : Prop where
 p2 : 2<=P
 m1 : 1<=M
 m8 : M<=8
 pw : (q : Int)=P ^ M
 p256 : P<=256
 q2 : 2<=q
 q256 : q<=256
 cp : w.cell? ⟨b,0,none⟩=some (.int .i64 P)
 cq : w.cell? ⟨b,3,none⟩=some (.int .i64 q)
 ce : ∃a c,w.cell? ⟨b,4,none⟩=some (.slice a (q - 1) c)/\Ints w a (q - 1) ex
 cl : ∃a c,w.cell? ⟨b,5,none⟩=some (.slice a q c)/\Ints w a q lg
 eb : ∀i,i<q - 1->0<=nth ex i/\nth ex i<q
 lb : ∀i,i<q->0<=nth lg i/\nth lg i<q - 1
theorem ya.af {w w' : World} {b : Nat} {P : Int} {M q : Nat} {ex lg : LI} (h : ya w b P M q ex lg) (hb : OC w w') : ya w' b P M q ex lg:=by obtain ⟨a,c,h1,h2⟩:=h.ce;obtain ⟨a',Y,h3,Z⟩:=h.cl;exact ⟨h.p2,h.m1,h.m8,h.pw,h.p256,h.q2,h.q256,aB hb h.cp,aB hb h.cq,⟨a,c,aB hb h1,h2.af hb⟩,⟨a',Y,aB hb h3,Z.af hb⟩,h.eb,h.lb⟩
def r8 (q : Nat) (ex lg : LI) (x y : Int) : Int :=
 if x=0\/y=0 then 0 else nth ex ((nth lg x.toNat+nth lg y.toNat) % ((q : Int) - 1)).toNat
def wm (q : Nat) (ex lg : LI) (x : Int) : Int:=nth ex (((q : Int) - 1 - nth lg x.toNat) % ((q : Int) - 1)).toNat
variable {w : World} {b : Nat} {P : Int} {M q : Nat} {ex lg : LI}
theorem wW (x : Int) (h : ya w b P M q ex lg) :
  Calls prog 55 #[.pointer (some ⟨b,0,none⟩),.int .i64 x] w λe w'=>e = .returned (.bool (decide (0<=x) && decide (x<q)))/\w=w':=by
 have Y:=h.cq;by_cases h0 : 0<=x
 ·have Z : decide (0<=x)=true:=by simpa using h0
  go_enter func55,ntmps55;go_wp2;go_ret;exact ⟨by simp [h0],rfl⟩
 ·have Z : decide (0<=x)=false:=by simpa using h0
  go_enter func55,ntmps55;go_wp2;go_ret;exact ⟨by simp [h0],rfl⟩
theorem ek (x : Int) (h : ya w b P M q ex lg) (h0 : 0<=x) (h1 : x<q) :
  Calls prog 112 #[.pointer (some ⟨b,0,none⟩),.int .i64 x] w λe w'=>e = .returned (.int .i64 x)/\w=w':=by
 have Z : decide (0<=x)=true:=by simpa using h0
 have Y : decide (x<q)=true:=by simpa using h1
 go_enter func112,ntmps112;go_wp2_with (go_at_call 55;refine (wW x h).mono ?_;rintro e w' ⟨rfl,rfl⟩);go_ret;exact ⟨rfl,rfl⟩
theorem CM (x y : Int) (h : ya w b P M q ex lg) (S : 0<=x) (X : x<q) (V : 0<=y) (U : y<q) :
  Calls prog 57 #[.pointer (some ⟨b,0,none⟩),.int .i64 x,.int .i64 y] w λe w'=>∃n,e = .returned (.int .i64 (r8 q ex lg x y))/\w'=w.drewN n:=by
 obtain ⟨ae,ce,hce,H⟩:=h.ce;obtain ⟨al,cl,j,Q⟩:=h.cl;have hcq:=h.cq;by_cases O : x=0
 ·have z : (x == 0)=true:=by simpa using O
  have K:=Z5 (show r8 q ex lg x y=0 by simp [r8,O]);clear O;go_enter func57,ntmps57;go_wp2_with (first | (go_at_call 112;(with_reducible refine (ek x h S X).mono ?_);rintro e w' ⟨rfl,rfl⟩) | (go_at_call 112;(with_reducible refine (ek y h V U).mono ?_);rintro e w' ⟨rfl,rfl⟩));go_ret;exact ⟨0,aK K.out.symm,rfl⟩
 have z : (x == 0)=false:=by simpa using O
 by_cases N : y=0
 ·have E : (y == 0)=true:=by simpa using N
  have K:=Z5 (show r8 q ex lg x y=0 by simp [r8,N]);clear O N;go_enter func57,ntmps57;go_wp2_with (first | (go_at_call 112;(with_reducible refine (ek x h S X).mono ?_);rintro e w' ⟨rfl,rfl⟩) | (go_at_call 112;(with_reducible refine (ek y h V U).mono ?_);rintro e w' ⟨rfl,rfl⟩));go_ret;exact ⟨0,aK K.out.symm,rfl⟩
 have E : (y == 0)=false:=by simpa using N
 obtain ⟨Z,rfl⟩ : ∃n : Nat,x=n:=⟨x.toNat,by omega⟩
 obtain ⟨Y,rfl⟩ : ∃n : Nat,y=n:=⟨y.toNat,by omega⟩
 have lx:=h.lb Z (by omega);have ly:=h.lb Y (by omega);have cx:=Q.cell Z (by omega);have cy:=Q.cell Y (by omega);have hpe:=H.pl;have hpl:=Q.pl;have hq2:=h.q2;have C:=h.q256;have D:=Kw (nth lg Z+nth lg Y) (show (q : Int) - 1 ≠ 0 by omega);have A:=Kn (nth lg Z+nth lg Y) (show 0<(q : Int) - 1 by omega);obtain ⟨k,F⟩ : ∃k : Nat,(nth lg Z+nth lg Y) % ((q : Int) - 1)=k:=⟨((nth lg Z+nth lg Y) % ((q : Int) - 1)).toNat,by omega⟩
 have r : r8 q ex lg Z Y=nth ex k:=by unfold r8;rw [JR (by omega)];simp only [JQ,F]
 have ck:=H.cell k (by omega);have r1 : IntKind.i64.wrap (nth lg Z+nth lg Y)=nth lg Z+nth lg Y:=J3 _ (by omega);have r2 : IntKind.i64.wrap ((q : Int) - 1)=(q : Int) - 1:=J3 _ (by omega);have r3 : (nth lg Z+nth lg Y).tmod ((q : Int) - 1)=k:=by rw [KP _ _ (by omega),F]
 have r4 : ¬ (q : Int) - 1=0:=by omega
 have r5 : (k : Int)<((q - 1 : Nat) : Int):=by omega
 have r6 : (Z : Int)<q:=by omega
 have r7 : (Y : Int)<q:=by omega
 have K:=Z5 r;clear O N r F D A;go_enter func57,ntmps57;go_wp2_with (first | (go_at_call 112;(with_reducible refine (ek Z h S X).mono ?_);rintro e w' ⟨rfl,rfl⟩) | (go_at_call 112;(with_reducible refine (ek Y h V U).mono ?_);rintro e w' ⟨rfl,rfl⟩));go_quiet (fail);go_wp2;go_ret;exact ⟨_,aK K.out.symm,rfl⟩
end
section
theorem l9 (a b : Nat) (ha : a<256) (hb : b<256) : bits .xor .i64 (a : Int) (b : Int)=((a ^^^ b : Nat) : Int):=by
 have Z : a ^^^ b<2 ^ 8:=Nat.xor_lt_two_pow (by omega) (by omega);have h1 : (BitVec.ofInt 64 (a : Int)).toNat=a:=by rw [Nn,Nu];exact MR (by omega)
 have h2 : (BitVec.ofInt 64 (b : Int)).toNat=b:=by rw [Nn,Nu];exact MR (by omega)
 show IntKind.i64.wrap ((BitVec.ofInt 64 (a : Int) ^^^ BitVec.ofInt 64 (b : Int)).toNat : Int)=_;rw [BitVec.toNat_xor,h1,h2];exact J3 _ (by omega)
variable {w : World} {b : Nat} {P : Int} {M q : Nat} {ex lg : LI}
def iL (w : World) (z : Int) (e : Ending) (w' : World) : Prop:=∃n,e = .returned (.int .i64 z)/\w'=w.drewN n
theorem mG {w wr : World} {n : Nat} (h : wr=w.drewN n) (m : Nat) : ∃k,wr.drewN m=w.drewN k:=⟨n+m,by rw [h,World.drewN_drewN]⟩
theorem step_eq (P s t D r : Int) (k : Nat) : s+P ^ k * (t+P * r)=s+t * P ^ k+P ^ (k+1) * r:=by rw [KH,K9,K1 (P ^ k) t,KV,Int.add_assoc]
theorem te (x y : Int) (h : ya w b P M q ex lg) (Q : 0<=x) (A : x<q) (O : 0<=y) (H : y<q) :
  Calls prog 56 #[.pointer (some ⟨b,0,none⟩),.int .i64 x,.int .i64 y] w (iL w (fsum P M x y)):=by
 have hcp:=h.cp;have j:=h.p2;have hp256:=h.p256;have hq256:=h.q256;by_cases hP : P=2
 ·obtain ⟨xn,rfl⟩ : ∃n : Nat,x=n:=⟨x.toNat,by omega⟩
  obtain ⟨yn,rfl⟩ : ∃n : Nat,y=n:=⟨y.toNat,by omega⟩
  subst hP;have hpw:=h.pw;have hq2 : q=2 ^ M:=by exact_mod_cast hpw
  have hxor : bits .xor .i64 (xn : Int) (yn : Int)=fsum 2 M xn yn:=by rw [l9 _ _ (by omega) (by omega),xB M xn yn (by omega) (by omega)]
  clear hpw hq2;go_enter func56,ntmps56;go_wp2_with (first | (go_at_call 112;(with_reducible refine (ek xn h Q A).mono ?_);rintro e w' ⟨rfl,rfl⟩) | (go_at_call 112;(with_reducible refine (ek yn h O H).mono ?_);rintro e w' ⟨rfl,rfl⟩));go_ret;exact ⟨0,rfl,rfl⟩
 ·have hP' : (P == 2)=false:=by simpa using hP
  have E:=Z5 h.pw;clear hP;go_enter func56,ntmps56;go_wp2_with (first | (go_at_call 112;(with_reducible refine (ek x h Q A).mono ?_);rintro e w' ⟨rfl,rfl⟩) | (go_at_call 112;(with_reducible refine (ek y h O H).mono ?_);rintro e w' ⟨rfl,rfl⟩));go_loopw [1,2,7,8] (λxv yv sv pv wr=>∃(k : Nat) (X Y s p : Int),k<=M/\xv = .int .i64 X/\yv = .int .i64 Y/\sv = .int .i64 s/\pv = .int .i64 p/\Hid (p=P ^ k)/\1<=p/\p<=256 /\
    0<=X/\X<=256/\0<=Y/\Y<=256/\0<=s/\s<p/\Hid (X=iX x P k)/\Hid (Y=iX y P k)/\Hid (s+P ^ k * fsum P (M - k) X Y=fsum P M x y)/\∃n,wr=w.drewN n)
   (λxv yv _ _ _=>(intOf xv+intOf yv).toNat)
  case atStart =>
   exact ⟨0,x,y,0,1,by omega,rfl,rfl,rfl,rfl,by show (1 : Int)=P ^ 0;simp,by omega,by omega,Q,by omega,O,by omega,by omega,by omega,rfl,rfl,by show 0+P ^ 0 * fsum P (M - 0) x y=_;simp,0,rfl⟩
  case round =>
   obtain ⟨k,X,Y,s,p,hkM,rfl,rfl,rfl,rfl,hp,hp1,hp2',U,hX1,S,hY1,hs0,hs1,hX,hY,hinv,n,K⟩:=hrel
   have hcpr : wr.cell? ⟨b,0,none⟩=some (.int .i64 P):=by rw [K];exact hcp
   have Hwr:=Z5 K
   clear K
   by_cases hz : X=0/\Y=0
   ·obtain ⟨rfl,rfl⟩:=hz
    have N : s=fsum P M x y:=by have:=hinv.out;rw [ua] at this;omega
    have r:=Z5 N
    clear N
    go_wp2
    go_ret
    exact ⟨n,aK r.out,Hwr.out⟩
   ·have hkM' : k<M:=by
     rcases Kz k M with h1 | h1
     ·exact h1
     ·exfalso;obtain rfl : k=M:=by omega
      have e1:=mx P (by omega) k x Q (by rw [<- E.out];exact A);have e2:=mx P (by omega) k y O (by rw [<- E.out];exact H);exact hz ⟨by rw [hX.out];exact e1,by rw [hY.out];exact e2⟩
    have V : X / P+Y / P<X+Y:=by
     have h1:=Lo P U;have h2:=Lo P S;rcases (show 0<X\/0<Y by omega) with h3 | h3
     ·have : X / P<X:=Lu (by omega) (by have:=Kk j U;omega);omega
     ·have : Y / P<Y:=Lu (by omega) (by have:=Kk j S;omega);omega
    have hXd:=Lf U (show 0<=P by omega)
    have hYd:=Lf S (show 0<=P by omega)
    have hXd2:=Lo P U
    have hYd2:=Lo P S
    have m1:=Kw X (show P ≠ 0 by omega)
    have m2:=Kn X (show 0<P by omega)
    have m3:=Kw Y (show P ≠ 0 by omega)
    have m4:=Kn Y (show 0<P by omega)
    have m5:=Kw (X+Y) (show P ≠ 0 by omega)
    have m6:=Kn (X+Y) (show 0<P by omega)
    have C : p * P=P ^ (k+1):=by rw [hp.out,KH]
    have hpM : P ^ (k+1)<=256:=by have h1:=dS (show 1<=P by omega) (show k+1<=M by omega);have h2:=E.out;omega
    have m7 : 0<=(X+Y) % P * p:=LG m5 (by omega)
    have m8 : (X+Y) % P * p+p<=p * P:=by have:=Kk (show (X+Y) % P+1<=P by omega) (show 0<=p by omega);rw [K9] at this;rw [K1 _ p];omega
    have m9 : p * 1<=p * P:=Kk (by omega) (by omega)
    have Z : s+(X+Y) % P * p+P ^ (k+1) * fsum P (M - (k+1)) (X / P) (Y / P)=fsum P M x y:=by rw [<- hinv.out,show M - k=(M - (k+1))+1 from by omega,fsum,step_eq P s _ 0,hp.out]
    have hP0 : P ≠ 0:=by omega
    have r1 : X.tmod P=X % P:=KP _ _ U
    have r2 : Y.tmod P=Y % P:=KP _ _ S
    have r3 : IntKind.i64.wrap (X % P+Y % P)=X % P+Y % P:=J3 _ (by omega)
    have r4 : (X % P+Y % P).tmod P=(X+Y) % P:=by rw [KP _ _ (by omega),Int.emod_add_emod,Int.add_emod_emod]
    have r5 : IntKind.i64.wrap ((X+Y) % P * p)=(X+Y) % P * p:=J3 _ (by omega)
    have r6 : IntKind.i64.wrap (s+(X+Y) % P * p)=s+(X+Y) % P * p:=J3 _ (by omega)
    have hpl : p * P<=256:=by rw [C];exact hpM
    have D:=Z5 Z
    have z:=Z5 C
    have F:=Z5 V
    clear Z C V
    rcases (show 0<X\/(decide (0<X)=false/\0<Y) by simp;omega) with hg | ⟨hgx,hg⟩
    all_goals
     go_wp2_with fail
     go_quiet (fail)
     clear r1 r2 r3 r4 r5 r6
     go_wp2
     go_roundw
     case rel =>
      refine ⟨k+1,_,_,_,_,by omega,rfl,rfl,rfl,rfl,z.out,by omega,by have:=z.out;omega,by omega,by omega,by omega,by omega,by omega,by omega,?_,?_,D.out,mG Hwr.out _⟩
      ·show _=iX x P (k+1);rw [iX,<- hX.out]
      ·show _=iX y P (k+1);rw [iX,<- hY.out]
     case measure=>have:=F.out;simp [intOf] <;> omega
end
section
variable {w : World} {b : Nat} {P : Int} {M q : Nat} {ex lg : LI}
theorem ya.drewN (h : ya w b P M q ex lg) (n : Nat) : ya (w.drewN n) b P M q ex lg:=h.af (below_drewN (JP _ _) n)
theorem tR (x : Int) (h : ya w b P M q ex lg) (Q : 0<=x) (E : x<q) :
  Calls prog 103 #[.pointer (some ⟨b,0,none⟩),.int .i64 x] w (iL w (fneg P M x)):=by
 have j:=h.cp;have z:=h.p2;have hp256:=h.p256;have hq256:=h.q256;have F:=Z5 h.pw;go_enter func103,ntmps103;go_wp2_with (go_at_call 112;(with_reducible refine (ek x h Q E).mono ?_);rintro e w' ⟨rfl,rfl⟩);go_loopw [1,5,6] (λxv sv pv wr=>∃(k : Nat) (X s p : Int),k<=M/\xv = .int .i64 X/\sv = .int .i64 s/\pv = .int .i64 p/\Hid (p=P ^ k)/\1<=p/\p<=256 /\
   0<=X/\X<=256/\0<=s/\s<p/\Hid (X=iX x P k)/\Hid (s+P ^ k * fneg P (M - k) X=fneg P M x)/\∃n,wr=w.drewN n)
  (λxv _ _ _=>(intOf xv).toNat)
 case atStart =>
  exact ⟨0,x,0,1,by omega,rfl,rfl,rfl,by show (1 : Int)=P ^ 0;simp,by omega,by omega,Q,by omega,by omega,by omega,rfl,by show 0+P ^ 0 * fneg P (M - 0) x=_;simp,0,rfl⟩
 case round =>
  obtain ⟨k,X,s,p,hkM,rfl,rfl,rfl,hp,hp1,hp2',N,hX1,hs0,hs1,hX,hinv,n,S⟩:=hrel
  have hcpr : wr.cell? ⟨b,0,none⟩=some (.int .i64 P):=by rw [S];exact j
  have C:=Z5 S
  clear S
  by_cases hz : X=0
  ·subst hz
   have U : s=fneg P M x:=by have:=hinv.out;rw [tW] at this;omega
   have H:=Z5 U
   clear U
   go_wp2
   go_ret
   exact ⟨n,aK H.out,C.out⟩
  ·have hkM' : k<M:=by
    rcases Kz k M with h1 | h1
    ·exact h1
    ·exfalso;obtain rfl : k=M:=by omega
     have e1:=mx P (by omega) k x Q (by rw [<- F.out];exact E);exact hz (by rw [hX.out];exact e1)
   have V : X / P<X:=Lu (by omega) (by have:=Kk z N;omega)
   have hXd:=Lf N (show 0<=P by omega)
   have m1:=Kw X (show P ≠ 0 by omega)
   have m2:=Kn X (show 0<P by omega)
   have m5:=Kw (P - X % P) (show P ≠ 0 by omega)
   have m6:=Kn (P - X % P) (show 0<P by omega)
   have K : p * P=P ^ (k+1):=by rw [hp.out,KH]
   have hpM : P ^ (k+1)<=256:=by have h1:=dS (show 1<=P by omega) (show k+1<=M by omega);have h2:=F.out;omega
   have m7 : 0<=(P - X % P) % P * p:=LG m5 (by omega)
   have m8 : (P - X % P) % P * p+p<=p * P:=by have:=Kk (show (P - X % P) % P+1<=P by omega) (show 0<=p by omega);rw [K9] at this;rw [K1 _ p];omega
   have m9 : p * 1<=p * P:=Kk (by omega) (by omega)
   have Z : s+(P - X % P) % P * p+P ^ (k+1) * fneg P (M - (k+1)) (X / P)=fneg P M x:=by rw [<- hinv.out,show M - k=(M - (k+1))+1 from by omega,fneg,step_eq P s _ 0,hp.out]
   have hP0 : P ≠ 0:=by omega
   have hg : 0<X:=by omega
   obtain ⟨D,r⟩ : ∃D,D=(P - X % P) % P:=⟨_,rfl⟩
   rw [<- r] at m5 m6 m7 m8 Z
   have r1 : X.tmod P=X % P:=KP _ _ N
   have r3 : IntKind.i64.wrap (P - X % P)=P - X % P:=J3 _ (by omega)
   have r4 : (P - X % P).tmod P=D:=by rw [KP _ _ (by omega),r]
   have r5 : IntKind.i64.wrap (D * p)=D * p:=J3 _ (by omega)
   have r6 : IntKind.i64.wrap (s+D * p)=s+D * p:=J3 _ (by omega)
   have hpl : p * P<=256:=by rw [K];exact hpM
   have O:=Z5 Z
   have A:=Z5 K
   have Y:=Z5 V
   clear Z K V r
   go_wp2_with fail
   go_quiet (fail)
   clear r1 r3 r4 r5 r6
   go_wp2
   go_roundw
   case rel =>
    refine ⟨k+1,_,_,_,by omega,rfl,rfl,rfl,A.out,by omega,by omega,by omega,by have:=Y.out;omega,by omega,by omega,?_,O.out,mG C.out _⟩
    show _=iX x P (k+1);rw [iX,<- hX.out]
   case measure=>have:=Y.out;simp [intOf] <;> omega
def Jl (P : Int) (M : Nat) (x y : Int) : Int:=fsum P M x (fneg P M y)
theorem C0 (x y : Int) (h : ya w b P M q ex lg) (S : 0<=x) (Z : x<q) (X : 0<=y) (Q : y<q) :
  Calls prog 199 #[.pointer (some ⟨b,0,none⟩),.int .i64 x,.int .i64 y] w (iL w (Jl P M x y)):=by
 have Y:=pS (show 0<P by have:=h.p2;omega) M y;have V : fneg P M y<q:=by rw [h.pw];exact Y.2
 have U:=Y.1;clear Y;go_enter func199,ntmps199;go_wp2_with fail;refine (tR y h X Q).mono ?_;rintro e O ⟨n,rfl,rfl⟩;go_wp2_with fail;refine (te x _ (h.drewN n) S Z U V).mono ?_;rintro e O ⟨N,rfl,rfl⟩;go_wp2_with fail;go_ret;exact ⟨_,rfl,rfl⟩
theorem Cx (x : Int) (h : ya w b P M q ex lg) (A : 0<x) (U : x<q) :
  Calls prog 201 #[.pointer (some ⟨b,0,none⟩),.int .i64 x] w λe w'=>∃n,e = .returned (.tuple #[.int .i64 (wm q ex lg x),.int .i64 0])/\w'=w.drewN n:=by
 obtain ⟨ae,ce,E,X⟩:=h.ce;obtain ⟨al,cl,K,Y⟩:=h.cl;have C:=h.cq;have z : (x == 0)=false:=by rw [beq_eq_false_iff_ne];omega
 obtain ⟨Z,rfl⟩ : ∃n : Nat,x=n:=⟨x.toNat,by omega⟩
 have lx:=h.lb Z (by omega);have cx:=Y.cell Z (by omega);have F:=X.pl;have r:=Y.pl;have H:=h.q2;have Q:=h.q256;have S:=Kw ((q : Int) - 1 - nth lg Z) (show (q : Int) - 1 ≠ 0 by omega);have O:=Kn ((q : Int) - 1 - nth lg Z) (show 0<(q : Int) - 1 by omega);obtain ⟨k,V⟩ : ∃k : Nat,((q : Int) - 1 - nth lg Z) % ((q : Int) - 1)=k:=⟨(((q : Int) - 1 - nth lg Z) % ((q : Int) - 1)).toNat,by omega⟩
 have N : wm q ex lg Z=nth ex k:=by unfold wm;simp only [JQ,V]
 have ck:=X.cell k (by omega);have r2 : IntKind.i64.wrap ((q : Int) - 1)=(q : Int) - 1:=J3 _ (by omega);have r1 : IntKind.i64.wrap ((q : Int) - 1 - nth lg Z)=(q : Int) - 1 - nth lg Z:=J3 _ (by omega);have j : ((q : Int) - 1 - nth lg Z).tmod ((q : Int) - 1)=k:=by rw [KP _ _ (by omega),V]
 have r4 : ¬ (q : Int) - 1=0:=by omega
 have r5 : (k : Int)<((q - 1 : Nat) : Int):=by omega
 have r6 : (Z : Int)<q:=by omega
 have D:=Z5 N;clear N V S O;go_enter func201,ntmps201;go_wp2_with (first | (go_at_call 112;(with_reducible refine (ek Z h (by omega) U).mono ?_);rintro e w' ⟨rfl,rfl⟩));go_quiet (fail);go_wp2;go_ret2;exact ⟨_,by rw [D.out];rfl,rfl⟩
structure cX where
 P : Int
 M : Nat
 q : Nat
 ex : LI
 lg : LI
def cX.add (G : cX) (x y : Int) : Int:=fsum G.P G.M x y
def cX.neg (G : cX) (x : Int) : Int:=fneg G.P G.M x
def cX.sub (G : cX) (x y : Int) : Int:=Jl G.P G.M x y
def cX.mul (G : cX) (x y : Int) : Int:=r8 G.q G.ex G.lg x y
def cX.inv (G : cX) (x : Int) : Int:=wm G.q G.ex G.lg x
def cX.El (G : cX) (x : Int) : Prop:=0<=x/\x<G.q
def ee (w : World) (b : Nat) (G : cX) : Prop:=ya w b G.P G.M G.q G.ex G.lg
theorem ee.af {w w' : World} {b : Nat} {G : cX} (h : ee w b G) (hb : OC w w') : ee w' b G:=ya.af h hb
theorem ee.drewN {w : World} {b : Nat} {G : cX} (h : ee w b G) (n : Nat) : ee (w.drewN n) b G:=ya.drewN h n
variable {G : cX}
theorem cX.DP (h : ee w b G) (x y : Int) : G.El (G.add x y):=by have:=u6 (show 0<G.P by have:=h.p2;omega) G.M x y;exact ⟨this.1,by rw [h.pw];exact this.2⟩
theorem cX.uX (h : ee w b G) (x : Int) : G.El (G.neg x):=by have:=pS (show 0<G.P by have:=h.p2;omega) G.M x;exact ⟨this.1,by rw [h.pw];exact this.2⟩
theorem cX.tG (h : ee w b G) (k : Int) (h0 : 0<=k) (h1 : k<(G.q : Int) - 1) : G.El (nth G.ex k.toNat):=h.eb _ (by omega)
theorem cX.mi (h : ee w b G) (x y : Int) : G.El (G.mul x y):=by
 unfold cX.mul r8;have Z:=h.q2;split
 ·exact ⟨Nb _,by omega⟩
 ·exact cX.tG h _ (Kw _ (by omega)) (Kn _ (by omega))
theorem cX.y9 (h : ee w b G) (x : Int) : G.El (G.inv x):=by have Z:=h.q2;exact cX.tG h _ (Kw _ (by omega)) (Kn _ (by omega))
theorem Ij (x y : Int) (h : ee w b G) (Y : G.El x) (Z : G.El y) :
  Calls prog 56 #[.pointer (some ⟨b,0,none⟩),.int .i64 x,.int .i64 y] w (iL w (G.add x y)):=te x y h Y.1 Y.2 Z.1 Z.2
theorem FT (x : Int) (h : ee w b G) (Z : G.El x) :
  Calls prog 103 #[.pointer (some ⟨b,0,none⟩),.int .i64 x] w (iL w (G.neg x)):=tR x h Z.1 Z.2
theorem Je (x y : Int) (h : ee w b G) (Y : G.El x) (Z : G.El y) :
  Calls prog 199 #[.pointer (some ⟨b,0,none⟩),.int .i64 x,.int .i64 y] w (iL w (G.sub x y)):=C0 x y h Y.1 Y.2 Z.1 Z.2
theorem pL (x y : Int) (h : ee w b G) (Y : G.El x) (Z : G.El y) :
  Calls prog 57 #[.pointer (some ⟨b,0,none⟩),.int .i64 x,.int .i64 y] w (iL w (G.mul x y)) :=
 (CM x y h Y.1 Y.2 Z.1 Z.2).mono λ_ _ ⟨n,h1,h2⟩=>⟨n,h1,h2⟩
theorem Iq (x : Int) (h : ee w b G) (Z : G.El x) (Y : x ≠ 0) :
  Calls prog 201 #[.pointer (some ⟨b,0,none⟩),.int .i64 x] w λe w'=>∃n,e = .returned (.tuple #[.int .i64 (G.inv x),.int .i64 0])/\w'=w.drewN n :=
 Cx x h (by have:=Z.1;omega) Z.2
theorem I1 (x : Int) (h : ee w b G) :
  Calls prog 55 #[.pointer (some ⟨b,0,none⟩),.int .i64 x] w λe w'=>e = .returned (.bool (decide (0<=x) && decide (x<G.q)))/\w=w':=wW x h
def cX.DU (G : cX) (l : LI) : Prop:=∀x ∈ l,G.El x
theorem cX.DU.nth {l : LI} (h : G.DU l) {i : Nat} (hi : i<l.length) : G.El (nth l i):=h _ (aI hi)
def db (w : World) (l : LI) (e : Ending) (w' : World) : Prop :=
 ∃a c,e = .returned (.slice a l.length c)/\w'.ownsRow w.heap.size 3 1 (.slice a l.length c) l.length (l.map (Value.int .i64))/\OC w w'
theorem yI (s : Int) (a : OA) (n c : Nat) (l : LI) (h : ee w b G) (F : G.El s) (hi : Ints w a n l) (H : G.DU l) (hn : n<=1000000) :
  Calls prog 66 #[.pointer (some ⟨b,0,none⟩),.int .i64 s,.slice a n c] w (db w (l.map (G.mul s))):=by
 have hlen:=hi.len;have A:=hi.pl;go_enter func66,ntmps66;go_wp2_with (at_make;refine ch rfl _ _ 22 3 rfl (.int .i64 0) 8 underlying22 aV rfl n rfl rfl (by omega) (by unfold maxLen;omega) ?_;intro a1 w1 Y Z E X);go_loopw [15] (λC wr=>∃k : Nat,k<=n/\C = .int .i64 k /\
   wr.ownsRow w.heap.size 3 1 (.slice a1 n n) n ((dk ((l.take k).map (G.mul s)) k n).map (Value.int .i64))/\OC w wr)
  (λi _=>n - (intOf i).toNat)
 case atStart=>exact ⟨0,JU _,rfl,by simpa [dk] using Y,Z⟩
 case round =>
  obtain ⟨k,r,rfl,Y,Z⟩:=hrel
  obtain ⟨hints,V⟩:=NZ Y
  have N:=hints.pl
  by_cases X : k<n
  ·have z:=(hi.af Z).cell k X
   have O:=H.nth (i:=k) (by omega)
   have j:=(V (by omega)).2 k X
   have K:=hints.cell k X
   have D:=(V (by omega)).1
   go_wp2_with fail
   refine (pL s (nth l k) (h.af Z) F O).mono ?_
   rintro e w2 ⟨m,rfl,rfl⟩
   go_wp2_with fail
   go_roundw
   case rel =>
    refine ⟨k+1,by omega,by go_num,?_,(below_drewN Z m).setCell D _⟩
    have h:=bC (w:=wr.drewN m) Y k X (.int .i64 (G.mul s (nth l k)))
    rw [<- Kh,fo _ _ _ _ (by simp;omega) X] at h
    rw [JW (by omega),Ko]
    rw [aj (by omega)] at h ⊢
    exact h
   case measure=>simp [intOf] <;> omega
  ·obtain rfl : k=n:=by omega
   have U : dk ((l.take k).map (G.mul s)) k k=l.map (G.mul s):=by rw [fR,JX (by omega)]
   rw [U] at Y
   have Q : (l.map (G.mul s)).length=k:=by simp [hlen]
   have S:=Z5 Q
   clear Q U
   go_wp2_with fail
   go_ret
   exact ⟨a1,k,by rw [S.out];rfl,by rw [S.out];exact Y,Z⟩
end
def logTo (q : Nat) (ex : LI) : Nat->LI
 | 0=>List.replicate q 0
 | k+1=>(logTo q ex k).set (nth ex k).toNat k
theorem ib (q : Nat) (ex : LI) : ∀k,(logTo q ex k).length=q
 | 0=>by simp [logTo]
 | k+1=>by simp [logTo,ib q ex k]
theorem xw (q : Nat) (ex : LI) (Y : 2<=q) : ∀k,k<=q - 1->∀i,0<=nth (logTo q ex k) i/\nth (logTo q ex k) i<(q : Int) - 1
 | 0,_,i=>by
  have : nth (logTo q ex 0) i=0:=by simp only [logTo,nth,JS,Ke];split <;> rfl
  omega
 | k+1,X,i=>by
  have Z:=xw q ex Y k (by omega) i;by_cases h : (nth ex k).toNat<q
  ·rw [logTo,eh _ _ _ _ (by rw [ib];exact h)];split <;> omega
  ·rw [logTo,LF (by rw [ib];omega)];exact Z
theorem qD (P : Int) (M : Nat) (mod : LI) (q : Nat) : ∀(n x : Nat),genTo P M mod q n x ≠ []->∃y : Nat,x<=y/\y<x+n/\fM P M mod q y=true/\genTo P M mod q n x=eK P M mod q y
 | 0,x,h=>absurd rfl h
 | n+1,x,h=>by
  rw [genTo] at h ⊢;by_cases Z : fM P M mod q x=true
  ·rw [JT Z];exact ⟨x,JO _,by omega,Z,rfl⟩
  ·rw [JR Z] at h ⊢;obtain ⟨y,h1,h2,h3,Y⟩:=qD P M mod q n (x+1) h;exact ⟨y,by omega,by omega,h3,Y⟩
theorem oe {P : Int} {M : Nat} {mod : LI} {q : Nat} (h : fG P M mod q ≠ []) : ∃y : Nat,1<=y/\y<q/\fM P M mod q y=true/\fG P M mod q=eK P M mod q y:=by obtain ⟨y,h1,h2,h3,Z⟩:=qD P M mod q (q - 1) 1 h;exact ⟨y,h1,by omega,h3,Z⟩
def ah (P : Int) (M : Nat) (mod : LI) : cX :=
 { P:=P,M:=M,q:=(aH P M).toNat,ex:=fG P M mod (aH P M).toNat,lg:=logTo (aH P M).toNat (fG P M mod (aH P M).toNat) ((aH P M).toNat - 1) }
theorem CJ {w : World} {P M : Int} {am : OA} {Y : Nat} {mod : LI} (hm : Ints w am Y mod) (h : cB P M mod=true) : Y<=8:=by
 simp only [cB,J9,bne_iff_ne,ne_eq] at h;obtain ⟨⟨h0,h1⟩,h2⟩:=h;obtain ⟨X,U,N,O,S,Q⟩:=iD h0;have V:=hm.len;by_cases Z : M=1
 ·rw [JT Z] at h2;have h3 : mod.length=0:=by simpa using h2
  omega
 ·rw [JR Z] at h2;simp only [J9,Kt] at h2;omega
def xG (B : Nat) (w : World) (b : Nat) (G : cX) : Prop:=∀V : World,(∀k,B<=k->k<w.heap.size->V.heap[k]? = w.heap[k]?)->ee V b G
theorem xG.gf {B : Nat} {w : World} {b : Nat} {G : cX} (h : xG B w b G) : ee w b G:=h w λ_ _ _=>rfl
theorem xG.mono {B B' : Nat} {w : World} {b : Nat} {G : cX} (h : xG B w b G) (Z : B'<=B) : xG B' w b G:=λV Y=>h V λk h1 h2=>Y k (J4 Z h1) h2
theorem xG.af {B : Nat} {w w' : World} {b : Nat} {G : cX} (h : xG B w b G) (hb : OC w w') : xG B w' b G:=λV Z=>h V λk h1 h2=>(Z k h1 (Kl h2 hb.size)).trans (hb.block k h2)
theorem xG.setCell {B : Nat} {w : World} {b : Nat} {G : cX} (h : xG B w b G) {p : Addr} (Y : p.block<B) (v : Value) : xG B (w.setCell p v) b G:=λV Z=>h V λk h1 h2 =>
 (Z k h1 (by have:=((JP 0 w).setCell (p:=p) (JU _) v).size;omega)).trans (J6 _ _ _ _ (by omega))
def BD (P M : Int) (mod : LI) (w : World) (e : Ending) (w' : World) : Prop :=
 (bq P M mod=false/\e = .returned (.tuple #[.pointer none,.int .i64 1])/\OC w w') \/
 (bq P M mod=true/\∃b,e = .returned (.tuple #[.pointer (some ⟨b,0,none⟩),.int .i64 0])/\xG w.heap.size w' b (ah P M.toNat mod)/\w.heap.size<=b/\OC w w')
theorem dB (P M : Int) (am : OA) (A cm : Nat) (mod : LI) (w : World) (D : Ints w am A mod) :
  Calls prog 52 #[.agg #[.int .i64 P,.int .i64 M,.slice am A cm]] w (BD P M mod w):=by
 have hbox : ∀w' : World,Below (w.heap.size+1) (w.alloc (.cells #[.int .i64 P,.int .i64 M,.slice am A cm] 24)) w' ->
   w'.cell? ⟨w.heap.size,0,none⟩=some (.int .i64 P)/\w'.cell? ⟨w.heap.size,1,none⟩=some (.int .i64 M)/\w'.cell? ⟨w.heap.size,2,none⟩=some (.slice am A cm)/\OC w w':=by intro w' h;refine ⟨(h.cell (by simp)).trans (by simp),(h.cell (by simp)).trans (by simp),(h.cell (by simp)).trans (by simp),((JP _ _).alloc (JO _) _).trans (h.mono (by omega))⟩
 have r:=Z5 hbox;clear hbox;go_enter func52,ntmps52;go_wp2_with fail;generalize hW0 : w.alloc (.cells #[.int .i64 P,.int .i64 M,.slice am A cm] 24)=W0 at *;have hW0s : W0.heap.size=w.heap.size+1:=by rw [<- hW0];simp
 obtain ⟨q0,q1,q2,j⟩:=r.out W0 (JP _ _);clear hW0;refine (oC P M am A cm mod W0 (D.af j)).mono ?_;rintro e w1 ⟨rfl,hb1⟩;have hB1 : Below (w.heap.size+1) W0 w1:=hb1.mono (by omega);obtain ⟨q0,q1,q2,j⟩:=r.out w1 hB1;by_cases hs : cB P M mod=true;case neg =>
  have hs' : cB P M mod=false:=by simpa using hs
  have Hf:=Z5 (show bq P M mod=false by simp [bq,hs'])
  clear hs
  go_wp2_with fail
  go_ret2
  exact .inl ⟨Hf.out,rfl,j⟩
 have hmn:=CJ D hs;obtain ⟨m,rfl,hd,ho,hq⟩:=pD D hs;go_wp2_with fail;refine (gu _ _ _).mono ?_;rintro e Z ⟨rfl,rfl⟩;have hoq : aH P m=((aH P m).toNat : Int):=by rw [hq,ho]
 have hfB : bq P m mod = !(fG P m mod (aH P m).toNat).isEmpty:=by simp [bq,hs]
 have hT : ah P ((m : Int).toNat) mod = { P:=P,M:=m,q:=(aH P m).toNat,ex:=fG P m mod (aH P m).toNat,lg:=logTo (aH P m).toNat (fG P m mod (aH P m).toNat) ((aH P m).toNat - 1) }:=rfl;have HT:=Z5 hT;have HfB:=Z5 hfB;rw [hoq];generalize (aH P m).toNat=q at *;have Hq:=Z5 hq;clear hoq hfB ho hT hq hs;go_wp2_with fail;refine (lS P m am A cm mod q w1 (hd.af j) Hq.out).mono ?_;rintro e Z ⟨a2,c2,rfl,U,z,hb2⟩;have K:=pP.isNone U z;have hB2 : Below (w.heap.size+1) W0 Z:=hB1.trans (hb2.mono (by have:=hB1.size;omega));obtain ⟨r0,r1,r2,Q⟩:=r.out Z hB2;have heq:=λ(w : World) (a : OA) (l c : Nat)=>Go.run_eql_slice_nil (P:=prog) w 22 3 a l c underlying22;by_cases H : fG P m mod q=[]
 ·have hf : bq P m mod=false:=by rw [HfB.out,H];rfl
  rw [H] at K;have hin3 : a2.isNone=true:=K;have Hf:=Z5 hf;clear hf H K;go_wp2_with fail;go_ret2;exact .inl ⟨Hf.out,rfl,Q⟩
 ·have hin3 : a2.isNone=false:=by
   rw [K];cases h : fG P m mod q with
   | nil=>exact absurd h H
   | cons x l=>rfl
  obtain ⟨y,hy1,hy2,hgy,hpy⟩:=oe H;have hP0 : 0<P:=by have:=hd.p2;omega
  have hq2 : 2<=q:=by omega
  have hq256 : q<=256:=by have:=hd.pw;have:=Hq.out;omega
  have hlen : (fG P m mod q).length=q - 1:=by rw [hpy];simp only [fM,J9,beq_iff_eq] at hgy;exact hgy.1
  have hexb : ∀i,0<=nth (fG P m mod q) i/\nth (fG P m mod q) i<q:=by intro i;rw [hpy];exact ph hP0 m mod q y Hq.out hq2 (by omega) (by omega) i
  have hf : bq P m mod=true:=by
   rw [HfB.out];cases h : fG P m mod q with
   | nil=>exact absurd h H
   | cons x l=>rfl
  have Hf:=Z5 hf;have Hexb:=Z5 hexb;rw [hlen] at U;rw [hlen];have HLn:=Z5 hlen;have hi2:=(NZ U).1;have E:=D.af Q;clear K H hf hexb hlen hpy hgy z;generalize fG P m mod q=ex at *;have hmk:=run_mk (P:=prog) 22 3 (.int .i64 0) 8 underlying22 aV rfl q (by omega) (by omega);go_upto_region 7 with fail;go_cut [6] (λv wx=>∃(S : Nat) (al : OA),v = .pointer (some ⟨S,0,none⟩)/\Z.heap.size<=S/\Z.heap.size<=ablk al/\ablk al ≠ S /\
   wx.cell? ⟨S,0,none⟩=some (.int .i64 P)/\wx.cell? ⟨S,3,none⟩=some (.int .i64 q)/\wx.cell? ⟨S,4,none⟩=some (.slice a2 (q - 1) c2)/\wx.cell? ⟨S,5,none⟩=some (.slice al q q) /\
   wx.ownsRow Z.heap.size 3 1 (.slice al q q) q (List.replicate q (.int .i64 0))/\OC Z wx)
  case first =>
   have hO:=gg Z 3
   have hO2 : ((Z.alloc (.cells (Array.replicate q (.int .i64 0)) 3)).alloc (.cells #[] 3)).ownsRow Z.heap.size 3 1 (.slice (some ⟨Z.heap.size+1,0,none⟩) 0 0) 0 []:=by have h:=bd (gg (Z.alloc (.cells (Array.replicate q (.int .i64 0)) 3)) 3) (B':=Z.heap.size) (by simp);rwa [L6] at h
   have hS : ∀W,OC Z W->W.cell? ⟨w.heap.size,0,none⟩=some (.int .i64 P)/\W.cell? ⟨w.heap.size,1,none⟩=some (.int .i64 m)/\W.cell? ⟨w.heap.size,2,none⟩=some (.slice am A cm)/\Ints W am A mod/\OC Z W :=
    λW hb=>⟨aB hb r0,aB hb r1,aB hb r2,E.af hb,hb⟩
   have HS:=Z5 hS
   clear hS
   go_region_held3 (λw'=>w'.cell? ⟨w.heap.size,0,none⟩=some (.int .i64 P)/\w'.cell? ⟨w.heap.size,1,none⟩=some (.int .i64 m)/\w'.cell? ⟨w.heap.size,2,none⟩=some (.slice am A cm)/\Ints w' am A mod/\OC Z w')
    ((refine HS.out _ ?_;first | exact (JP _ _).drew | exact ((JP _ _).alloc (JO _) _).drew | exact Y | (go_split_ands;exact N1 (by assumption) _)))
    (first | (obtain ⟨_,_,_,hI9,hB9⟩:=(by assumption : _/\_/\_/\Ints _ am A mod/\OC Z _);refine fg (by rfl) (.tmp 26) (.tmp 28) 22 3 (by rfl) (.int .i64 0) 8 underlying22 aV (by rfl) Z.heap.size _ 0 0 [] (by rfl) (by first | exact hO | exact hO.alloc _ | exact hO2) am A cm (mod.map (Value.int .i64)) (by rfl) E.pl (by simp [E.len]) (N7 hI9) (ints_oneCell _ _) (by omega) (by unfold maxLen;omega) (K8 hB9) ?_;intro a3 c3 w3 hown3 N hap3;have Y : OC Z w3:=N0 (B:=Z.heap.size) (e:=3) (xs:=[]) hB9 (by first | exact hO | exact hO.alloc _ | exact hO2) N (JO _) (K8 hB9)))
   all_goals (go_step;go_step;go_meet)
   ·have C:=Y.size
    refine ⟨w3.heap.size+1,some ⟨w3.heap.size,0,none⟩,rfl,by omega,C,by simp,aF _ _ _ (by simp) 0,aF _ _ _ (by simp) 3,aF _ _ _ (by simp) 4,aF _ _ _ (by simp) 5,?_,N1 (N1 Y _) _⟩
    exact World.ownsRow.alloc (lA w3 3 (.int .i64 0) q rfl C (by unfold maxLen;omega)) _
   ·have C:=Y.size
    have hsz2:=N.size
    simp at hsz2
    refine ⟨w3.heap.size,some ⟨Z.heap.size+1,0,none⟩,rfl,C,by simp,by simp;omega,aF _ _ _ rfl 0,aF _ _ _ rfl 3,aF _ _ _ rfl 4,aF _ _ _ rfl 5,?_,N1 Y _⟩
    exact World.ownsRow.alloc (il (lA (Z.alloc (.cells #[] 3)) 3 (.int .i64 0) q (by simp) (by simp) (by unfold maxLen;omega)) (nL N) (.inr (by simp))) _
   ·have C:=Y.size
    have hsz2:=N.size
    simp at hsz2
    refine ⟨w3.heap.size,some ⟨Z.heap.size,0,none⟩,rfl,C,by simp,by simp;omega,aF _ _ _ rfl 0,aF _ _ _ rfl 3,aF _ _ _ rfl 4,aF _ _ _ rfl 5,?_,N1 Y _⟩
    exact World.ownsRow.alloc (il ((lA Z 3 (.int .i64 0) q rfl (JO _) (by unfold maxLen;omega)).alloc _) (nL N) (.inr (by simp))) _
  obtain ⟨S,al,rfl,hgb,hal,hne,g0,g3,g4,g5,X,hbc⟩:=hcut;have hi2c:=hi2.af hbc;have hpe:=hi2.pl;have HLt : Hid (List.replicate q (Value.int .i64 0)=(logTo q ex 0).map (Value.int .i64)):=by show _=_;simp [logTo]
  go_wp2_with fail;go_loopw [39] (λiv wr=>∃k : Nat,k<=q - 1/\iv = .int .i64 k/\wr.ownsRow Z.heap.size 3 1 (.slice al q q) q ((logTo q ex k).map (Value.int .i64)) /\
    (∀b,b ≠ ablk al->b<wc.heap.size->wr.heap[b]? = wc.heap[b]?)/\OC Z wr)
   (λiv _=>q - (intOf iv).toNat)
  case atStart=>exact ⟨0,JU _,rfl,by rw [<- HLt.out];exact X,λ_ _ _=>rfl,hbc⟩
  case round =>
   obtain ⟨k,hk,rfl,X,F,hbr⟩:=hrel
   have HS:=Z5 F
   have hgl : S<wc.heap.size:=J2 wc _ g0
   have O:=F S (λh=>hne h.symm) hgl
   have g0r : wr.cell? ⟨S,0,none⟩=some (.int .i64 P):=(Kj (w:=wc) O).trans g0
   have g3r : wr.cell? ⟨S,3,none⟩=some (.int .i64 q):=(Kj (w:=wc) O).trans g3
   have g4r : wr.cell? ⟨S,4,none⟩=some (.slice a2 (q - 1) c2):=(Kj (w:=wc) O).trans g4
   have g5r : wr.cell? ⟨S,5,none⟩=some (.slice al q q):=(Kj (w:=wc) O).trans g5
   have hi2r:=hi2.af hbr
   obtain ⟨hiL,hmL⟩:=NZ X
   have hpL:=hiL.pl
   clear F O
   by_cases hlt : k<q - 1
   ·have ck:=hi2r.cell k hlt
    have hb:=Hexb.out k
    obtain ⟨xn,hxn⟩ : ∃xn : Nat,nth ex k=xn:=⟨(nth ex k).toNat,by omega⟩
    have hnx : logTo q ex (k+1)=(logTo q ex k).set xn k:=by rw [logTo,hxn];rfl
    rw [hxn] at ck hb
    have cL:=hiL.cell xn (by omega)
    have fL:=(hmL (by omega)).2 xn (by omega)
    have BL:=(hmL (by omega)).1
    have Hnx:=Z5 hnx
    clear hnx hxn
    go_wp2_with fail
    go_roundw
    case rel =>
     refine ⟨k+1,by omega,by go_num,?_,λb hb hl=>?_,hbr.setCell BL _⟩
     ·rw [Hnx.out,Kh];exact bC X xn (by omega) _
     ·rw [J6 _ _ _ _ hb];exact HS.out b hb hl
    case measure=>simp [intOf] <;> omega
   ·obtain rfl : k=q - 1:=by omega
    go_wp2_with fail
    go_ret2
    refine .inr ⟨Hf.out,S,rfl,?_,by have:=Q.size;omega,NX Q hbr⟩
    rw [HT.out]
    intro V hV
    have hB:=Q.size
    have hB2:=hb2.size
    have hB1:=j.size
    have cV : ∀i v,wr.cell? ⟨S,i,none⟩=some v->V.cell? ⟨S,i,none⟩=some v:=λi v hv=>(Kj (w:=wr) (a:=⟨S,i,none⟩) (hV S (by omega) (J2 wr _ g0r))).trans hv
    refine ⟨hd.p2,hd.m1,hd.m8,Hq.out,hd.p256,hq2,hq256,cV _ _ g0r,cV _ _ g3r,⟨a2,c2,cV _ _ g4r,?_⟩,⟨al,q,cV _ _ g5r,?_⟩,λi _=>Hexb.out i,λi _=>xw q ex hq2 _ (JO _) i⟩
    ·refine hi2r.of_block λhn=>hV _ ?_ (hi2r.lt hn)
     have:=(dT U hn).1
     omega
    ·refine hiL.of_block λhn=>hV _ ?_ (hiL.lt hn)
     have:=(dT X hn).1
     omega
section
def gV (q x : Int) : Bool:=decide (0<=x) && decide (x<q)
def ez (q : Int) (l : LI) : Bool:=l.all (gV q)
def gX (q : Int) (l : LI) : Int:=if ez q l then 0 else 2
def iM (Z : Int) (L : Ll) : Bool:=L.all λr=>decide ((r.length : Int)=Z)
def fh (q Z : Int) (L : Ll) : Int :=
 if Z<0\/256<Z\/256<L.length then 3 else if iM Z L=false then 3 else if L.all (ez q) then 0 else 2
theorem dC {α : Type} {p : α->Bool} {l : List α} {k : Nat} (Z : k<l.length) (h : (l.take k).all p=true) (Y : p l[k]=true) : (l.take (k+1)).all p=true:=by rw [JW Z,Mt,h];simp [Y]
theorem dA {α : Type} {p : α->Bool} {l : List α} {k : Nat} (Z : k<l.length) (Y : p l[k]=false) : l.all p=false:=by rw [Le];exact ⟨_,Kp Z,by simp [Y]⟩
variable {w : World} {b : Nat} {G : cX}
theorem wv (a : OA) (n c : Nat) (l : LI) (h : ee w b G) (hi : Ints w a n l) :
  Calls prog 146 #[.pointer (some ⟨b,0,none⟩),.slice a n c] w λe w'=>e = .returned (.int .i64 (gX G.q l))/\w=w':=by
 have N:=hi.pl;have hlen:=hi.len;have S:=hi.max;unfold maxLen at S;have Z:=Z5 hlen;clear hlen;go_enter func146,ntmps146;go_wp2;go_loop [9] (λO=>∃k : Nat,k<=n/\O = .int .i64 k/\Hid ((l.take k).all (gV G.q)=true)) (λO=>n - (intOf O).toNat);case atStart=>exact ⟨0,JU _,rfl,by show _=_;simp⟩
 case round =>
  obtain ⟨k,F,rfl,X⟩:=hrel
  by_cases Y : k<n
  ·have H:=hi.cell k Y
   by_cases V : gV G.q (nth l k)=true
   ·have U:=V
    unfold gV at U
    have K:=Z5 V
    clear V
    go_wp2_with (first | (go_at_call 55;refine (I1 (nth l k) h).mono ?_;rintro e w' ⟨rfl,rfl⟩))
    go_round
    case rel=>exact ⟨k+1,by omega,by go_num,dC (by rw [Z.out];exact Y) X.out (by rw [<- aj (by rw [Z.out];exact Y)];exact K.out)⟩
    case measure=>simp [intOf] <;> omega
   ·have V : gV G.q (nth l k)=false:=by simpa using V
    have U:=V
    unfold gV at U
    have Q : Hid (ez G.q l=false):=dA (k:=k) (by rw [Z.out];exact Y) (by rw [<- aj (by rw [Z.out];exact Y)];exact V)
    clear V
    go_wp2_with (first | (go_at_call 55;refine (I1 (nth l k) h).mono ?_;rintro e w' ⟨rfl,rfl⟩))
    go_ret
    exact ⟨aK (by rw [gX,Q.out];rfl),rfl⟩
  ·obtain rfl : k=n:=by omega
   have Q : Hid (ez G.q l=true):=by have:=X.out;rw [JX (by rw [Z.out];exact JO _)] at this;exact this
   go_wp2
   go_ret
   exact ⟨aK (by rw [gX,Q.out];rfl),rfl⟩
theorem Cq (Z : Int) (a : OA) (n c : Nat) (L : Ll) (h : ee w b G) (hi : bu w a n L) :
  Calls prog 197 #[.pointer (some ⟨b,0,none⟩),.agg #[.int .i64 Z,.slice a n c]] w λe w'=>e = .returned (.int .i64 (fh G.q Z L))/\OC w w':=by
 have hpl:=hi.pl;have hlen:=hi.len;have z:=hi.max;unfold maxLen at z;have Y:=Z5 hlen;clear hlen;have K : ∀w' : World,Below (w.heap.size+1) (w.alloc (.cells #[.int .i64 Z,.slice a n c] 94)) w' ->
   w'.cell? ⟨w.heap.size,0,none⟩=some (.int .i64 Z)/\w'.cell? ⟨w.heap.size,1,none⟩=some (.slice a n c)/\OC w w':=by intro w' h;refine ⟨(h.cell (by simp)).trans (by simp),(h.cell (by simp)).trans (by simp),((JP _ _).alloc (JO _) _).trans (h.mono (by omega))⟩
 have Hbox:=Z5 K;clear K;have F:=Z5 ((JP w.heap.size w).alloc (JO _) (.cells #[.int .i64 Z,.slice a n c] 94));by_cases b1 : Z<0
 ·have Hf : Hid (fh G.q Z L=3):=by show _=_;rw [fh,JT (.inl b1)]
  go_enter func197,ntmps197;go_wp2_with fail;go_ret;exact ⟨aK Hf.out.symm,F.out⟩
 by_cases b2 : 256<Z
 ·have Hf : Hid (fh G.q Z L=3):=by show _=_;rw [fh,JT (.inr (.inl b2))]
  go_enter func197,ntmps197;go_wp2_with fail;go_ret;exact ⟨aK Hf.out.symm,F.out⟩
 by_cases b3 : 256<n
 ·have Hf : Hid (fh G.q Z L=3):=by show _=_;rw [fh,JT (.inr (.inr (by rw [Y.out];exact b3)))]
  have t1 : decide (Z<0)=false:=by simpa using b1
  have t2 : decide (256<Z)=false:=by simpa using b2
  have t3 : decide (256<(n : Int))=true:=by simp;omega
  go_enter func197,ntmps197;go_wp2_with fail;go_ret;exact ⟨aK Hf.out.symm,F.out⟩
 have Hm : Hid (fh G.q Z L=if iM Z L=false then 3 else if L.all (ez G.q) then 0 else 2):=by show _=_;rw [fh,JR (by rw [Y.out];omega)]
 have t1 : decide (Z<0)=false:=by simpa using b1
 have t2 : decide (256<Z)=false:=by simpa using b2
 have t3 : decide (256<(n : Int))=false:=by simp;omega
 clear b1 b2;go_enter func197,ntmps197;go_wp2_with fail;generalize hW0 : w.alloc (.cells #[.int .i64 Z,.slice a n c] 94)=W0 at *;have hW0s : W0.heap.size=w.heap.size+1:=by rw [<- hW0];simp
 obtain ⟨q0,q1,Q⟩:=Hbox.out W0 (JP _ _);have hiW:=hi.af Q;clear hW0;go_loop [27] (λC=>∃k : Nat,k<=n/\C = .int .i64 k/\Hid ((L.take k).all (λr=>decide ((r.length : Int)=Z))=true)) (λC=>n - (intOf C).toNat);case atStart=>exact ⟨0,JU _,rfl,by show _=_;simp⟩
 case round =>
  obtain ⟨k,hk,rfl,N⟩:=hrel
  by_cases V : k<n
  ·obtain ⟨ra,rn,rc,D,U⟩:=hiW.cell k V
   have H:=U.len
   have E : k<L.length:=by rw [Y.out];exact V
   rw [aE E] at H
   have Hrl:=Z5 H
   clear H
   by_cases he : (rn : Int)=Z
   ·have he' : ((rn : Int) != Z)=false:=by simpa using he
    have A : Hid (decide ((L[k].length : Int)=Z)=true):=by show _=_;rw [Hrl.out];simpa using he
    clear he
    go_wp2_with fail
    go_round
    case rel=>exact ⟨k+1,by omega,by go_num,dC E N.out A.out⟩
    case measure=>simp [intOf] <;> omega
   ·have he' : ((rn : Int) != Z)=true:=by simpa using he
    have A : Hid (fh G.q Z L=3):=by show _=_;rw [Hm.out,JT];exact dA E (by simp only [Hrl.out];simpa using he)
    clear he
    go_wp2_with fail
    go_ret
    exact ⟨aK A.out.symm,Q⟩
  ·obtain rfl : k=n:=by omega
   have Hm2 : Hid (fh G.q Z L=if L.all (ez G.q) then 0 else 2):=by have:=N.out;rw [JX (by rw [Y.out];exact JO _)] at this;show _=_;rw [Hm.out,JR (by rw [iM,this];simp)]
   have hG:=h.af Q
   go_wp2_with fail
   go_loop [40] (λC=>∃j : Nat,j<=k/\C = .int .i64 j/\Hid ((L.take j).all (ez G.q)=true)) (λC=>k - (intOf C).toNat)
   case atStart=>exact ⟨0,JU _,rfl,by show _=_;simp⟩
   case round =>
    obtain ⟨j,hj,rfl,S⟩:=hrel
    by_cases V : j<k
    ·obtain ⟨ra,rn,rc,D,U⟩:=hiW.cell j V
     have O : j<L.length:=by rw [Y.out];exact V
     go_wp2_with fail
     refine (wv ra rn rc _ hG U).mono ?_
     rintro e w' ⟨rfl,rfl⟩
     by_cases he : ez G.q (ai L j)=true
     ·have X : gX G.q (ai L j)=0:=by rw [gX,he];rfl
      rw [X]
      rw [aE O] at he
      have He:=Z5 he
      clear he X
      go_wp2_with fail
      go_round
      case rel=>exact ⟨j+1,by omega,by go_num,dC O S.out He.out⟩
      case measure=>simp [intOf] <;> omega
     ·have X : gX G.q (ai L j)=2:=by rw [gX,JR he]
      rw [X]
      rw [aE O] at he
      have A : Hid (fh G.q Z L=2):=by show _=_;rw [Hm2.out,dA O (by simpa using he)];rfl
      clear he X
      go_wp2_with fail
      go_ret
      exact ⟨aK A.out.symm,Q⟩
    ·obtain rfl : j=k:=by omega
     have A : Hid (fh G.q Z L=0):=by have:=S.out;rw [JX (by rw [Y.out];exact JO _)] at this;show _=_;rw [Hm2.out,this];rfl
     go_wp2_with fail
     go_ret
     exact ⟨aK A.out.symm,Q⟩
end
structure CY (w : World) (a : OA) (n : Nat) (l : List (Int × Ll)) : Prop where
 len : l.length=n
 pl : Pl a n
 max : n<=maxLen
 cell : ∀i (hi : i<l.length),∃b m c,w.cell? ⟨ablk a,aL a+i * 2,none⟩=some (.int .i64 l[i].1)/\w.cell? ⟨ablk a,aL a+i * 2+1,none⟩=some (.slice b m c)/\bu w b m l[i].2
theorem CY.af {w w' : World} {a : OA} {n : Nat} {l : List (Int × Ll)} (h : CY w a n l) (hb : OC w w') : CY w' a n l:=by refine ⟨h.len,h.pl,h.max,λi hi=>?_⟩;obtain ⟨b,m,c,h1,h2,h3⟩:=h.cell i hi;exact ⟨b,m,c,aB hb h1,aB hb h2,h3.af hb⟩
def matsE (q : Int) : List (Int × Ll)->Int
 | []=>0
 | m :: l=>if fh q m.1 m.2=0 then matsE q l else fh q m.1 m.2
theorem zl {q : Int} {l : List (Int × Ll)} {k : Nat} (Z : k<l.length) : matsE q (l.drop k)=if fh q l[k].1 l[k].2=0 then matsE q (l.drop (k+1)) else fh q l[k].1 l[k].2:=by rw [KA Z,matsE]
def DD (P M : Int) (mod : LI) (l : List (Int × Ll)) (w : World) (e : Ending) (w' : World) : Prop :=
 OC w w'/\(
 (bq P M mod=false/\e = .returned (.tuple #[.pointer none,.int .i64 1])) \/
 (bq P M mod=true/\∃Z,Z ≠ 0/\matsE (ah P M.toNat mod).q l=Z/\e = .returned (.tuple #[.pointer none,.int .i64 Z])) \/
 (bq P M mod=true/\matsE (ah P M.toNat mod).q l=0/\∃b,e = .returned (.tuple #[.pointer (some ⟨b,0,none⟩),.int .i64 0])/\ee w' b (ah P M.toNat mod)/\w.heap.size<=b))
theorem wK (P M : Int) (am : OA) (r cm : Nat) (mod : LI) (a : OA) (n c : Nat) (l : List (Int × Ll)) (w : World) (H : Ints w am r mod) (hl : CY w a n l) :
  Calls prog 145 #[.agg #[.int .i64 P,.int .i64 M,.slice am r cm],.slice a n c] w (DD P M mod l w):=by
 have hpl:=hl.pl;have hlen:=hl.len;have z:=hl.max;unfold maxLen at z;have Q:=Z5 hlen;clear hlen;have Hal:=Z5 ((JP w.heap.size w).alloc (JO _) (.cells #[.int .i64 P,.int .i64 M,.slice am r cm] 24));go_enter func145,ntmps145;go_wp2_with fail;have S:=Hal.out;generalize w.alloc (.cells #[.int .i64 P,.int .i64 M,.slice am r cm] 24)=W0 at *;refine (dB P M am r cm mod W0 (H.af S)).mono ?_;rintro e w1 (⟨F,rfl,K⟩ | ⟨F,b,rfl,A,hbl,K⟩)
 ·have HB:=Z5 F;clear F;have Y:=NX S K;go_wp2_with fail;go_ret2;exact ⟨Y,.inl ⟨HB.out,rfl⟩⟩
 ·have HB:=Z5 F;clear F;have Y:=NX S K;have hbb : w.heap.size<=b:=J4 S.size hbl;have hG:=A.gf;clear A;generalize hT : ah P M.toNat mod=G at *;have HT:=Z5 hT;clear hT;go_wp2_with fail;go_loopw [20] (λiv wr=>∃k : Nat,k<=n/\iv = .int .i64 k/\Hid (matsE G.q l=matsE G.q (l.drop k))/\OC w1 wr) (λiv _=>n - (intOf iv).toNat);case atStart=>exact ⟨0,JU _,rfl,by show _=_;simp,JP _ _⟩
  case round =>
   obtain ⟨k,hk,rfl,V,N⟩:=hrel
   have O:=NX Y N
   by_cases hlt : k<n
   ·have hkl : k<l.length:=by rw [Q.out];exact hlt
    have hlr:=hl.af O
    obtain ⟨rb,rm,rc,c1,c2,hM⟩:=hlr.cell k hkl
    have U:=zl (q:=G.q) hkl
    have X:=Z5 U
    clear U
    generalize l[k].1=Z at *
    generalize l[k].2=L at *
    have j:=Z5 ((JP wr.heap.size wr).alloc (JO _) (.cells #[.int .i64 Z,.slice rb rm rc] 94))
    go_wp2_with fail
    have E:=j.out
    generalize wr.alloc (.cells #[.int .i64 Z,.slice rb rm rc] 94)=W2 at *
    have D : OC w1 W2:=NX N E
    refine (Cq Z rb rm rc L (hG.af D) (hM.af E)).mono ?_
    rintro e w3 ⟨rfl,hb3⟩
    have hB3 : OC w1 w3:=NX D hb3
    by_cases he : fh G.q Z L=0
    ·have C : Hid (matsE G.q l=matsE G.q (l.drop (k+1))):=by show _=_;rw [V.out,X.out,JT he]
     rw [he]
     clear he
     go_wp2_with fail
     go_roundw
     case rel=>exact ⟨k+1,by omega,by go_num,C.out,hB3⟩
     case measure=>simp [intOf] <;> omega
    ·have C : Hid (matsE G.q l=fh G.q Z L):=by show _=_;rw [V.out,X.out,JR he]
     generalize fh G.q Z L=er at *
     have he' : (er != 0)=true:=by simpa using he
     have He : Hid (er ≠ 0):=he
     clear he
     go_wp2_with fail
     go_ret2
     exact ⟨NX Y hB3,.inr (.inl ⟨HB.out,er,He.out,by rw [HT.out];exact C.out,rfl⟩)⟩
   ·obtain rfl : k=n:=by omega
    have C : Hid (matsE G.q l=0):=by show _=_;rw [V.out,Mc (by rw [Q.out];exact JO _)];rfl
    go_wp2_with fail
    go_ret2
    exact ⟨O,.inr (.inr ⟨HB.out,by rw [HT.out];exact C.out,b,rfl,by rw [HT.out];exact hG.af N,hbb⟩)⟩
section
def kb (r : OA × Nat) (l : LI) : Value:=.slice r.1 l.length r.2
def aR (R : LA) (i : Nat) : OA × Nat:=R.getD i (none,0)
theorem fw {l : LA} {i : Nat} (h : i<l.length) : aR l i=l[i]:=by simp [aR,h]
theorem iT (l : LA) (i j : Nat) (x : OA × Nat) (hi : i<l.length) : aR (l.set i x) j=if j=i then x else aR l j:=by
 unfold aR;simp only [JS,KT];by_cases h : i=j
 ·subst h;simp [hi]
 ·rw [JR h,JR (by omega)]
theorem ei (l : Ll) (i j : Nat) (x : LI) (hi : i<l.length) : ai (l.set i x) j=if j=i then x else ai l j:=by
 unfold ai;simp only [JS,KT];by_cases h : i=j
 ·subst h;simp [hi]
 ·rw [JR h,JR (by omega)]
theorem qE (n i : Nat) : ai (List.replicate n []) i=[]:=by simp only [ai,JS,Ke];split <;> rfl
theorem iJ (n i : Nat) : aR (List.replicate n (none,0)) i=(none,0):=by simp only [aR,JS,Ke];split <;> rfl
theorem uu (R : LA) (L : Ll) (i : Nat) (r : OA × Nat) (l : LI) :
  (List.zipWith kb R L).set i (kb r l)=List.zipWith kb (R.set i r) (L.set i l):=by
 apply MH;intro j;simp only [KT,Ml,KZ];by_cases h : i=j
 ·subst h;by_cases h1 : i<R.length <;> by_cases h2 : i<L.length <;> simp [h1,h2,show ¬ (i<R.length/\i<L.length)->¬ i<min R.length L.length from by omega];exact Nat.lt_min.2 ⟨h1,h2⟩
 ·simp [h]
structure aT (w : World) (B : Nat) (a : OA) (n c : Nat) (R : LA) (L : Ll) : Prop where
 rl : R.length=n
 ll : L.length=n
 own : w.ownsRow B 22 1 (.slice a n c) n (List.zipWith kb R L)
 row : ∀i,i<n->w.ownsRow B 3 1 (.slice (aR R i).1 (ai L i).length (aR R i).2) (ai L i).length ((ai L i).map (Value.int .i64))
 sP : ∀i,i<n->eX (aR R i).1 (ablk a)
 sep : ∀i j,i<n->j<n->i ≠ j->(aR R i).1=none\/eX (aR R j).1 (ablk (aR R i).1)
def bX (a : OA) (R : LA) (b : Nat) : Prop:=(a ≠ none/\b=ablk a)\/∃i,i<R.length/\(aR R i).1 ≠ none/\b=ablk (aR R i).1
structure aD (w w' : World) (I I' : Nat->Prop) : Prop where
 os : w'.os=w.os
 tape : w'.tape=w.tape
 output : w'.output=w.output
 size : w.heap.size<=w'.heap.size
 block : ∀b,b<w.heap.size->¬ I b->w'.heap[b]? = w.heap[b]?
 grow : ∀b,I' b->I b\/w.heap.size<=b
variable {w w' w'' : World} {B : Nat} {a : OA} {n c : Nat} {R : LA} {L : Ll} {I I' I'' : Nat -> Prop}
theorem aD.refl (w : World) (I : Nat->Prop) : aD w w I I:=⟨rfl,rfl,rfl,JO _,λ_ _ _=>rfl,λ_ h=>.inl h⟩
theorem aD.trans (h : aD w w' I I') (k : aD w' w'' I' I'') : aD w w'' I I'' := by
 refine ⟨k.os.trans h.os,k.tape.trans h.tape,k.output.trans h.output,J4 h.size k.size,λb hb hI=>?_,λb hb=>?_⟩
 ·refine (k.block b (Kl hb h.size) λZ=>?_).trans (h.block b hb hI);rcases h.grow b Z with h2 | h2
  ·exact hI h2
  ·omega
 ·rcases k.grow b hb with h2 | h2
  ·exact h.grow b h2
  ·exact .inr (J4 h.size h2)
theorem aD.bg (h : OC w w') (I : Nat->Prop) : aD w w' I I:=⟨h.os,h.tape,h.output,h.size,λb hb _=>h.block b hb,λ_ h=>.inl h⟩
theorem aD.below (h : aD w w' I I') (hI : ∀b,I b->B<=b) (Z : B<=w.heap.size) : Below B w w' :=
 ⟨h.os,h.tape,h.output,h.size,λb hb=>h.block b (Kl hb Z) λhi=>by have:=hI b hi;omega⟩
theorem aD.cell (h : aD w w' I I') {p : Addr} {v : Value} (Z : w.cell? p=some v) (hI : ¬ I p.block) : w'.cell? p=some v :=
 (Kj (w:=w) (a:=p) (h.block _ (J2 w _ Z) hI)).trans Z
theorem aD.not (h : aD w w' I I') {b : Nat} (hb : b<w.heap.size) (hI : ¬ I b) : ¬ I' b:=λZ=>by
 rcases h.grow b Z with h2 | h2
 ·exact hI h2
 ·omega
theorem aD.own (h : aD w w' I I') {e : TypeId} {a : OA} {c n : Nat} {xs : List Value} (Z : w.ownsRow B e 1 (.slice a n c) n xs) (hI : a ≠ none->¬ I (ablk a)) : w'.ownsRow B e 1 (.slice a n c) n xs:=by
 rcases kF Z with ⟨rfl,rfl,rfl⟩ | ⟨_,Y⟩
 ·have V:=jZ Z;obtain rfl : xs=[]:=Kd V;exact cF
 ·by_cases ha : a=none
  ·subst ha;refine ⟨Z.1,?_⟩;rcases Z.2 with h2 | ⟨g,cap,cur,X,_⟩
   ·exact .inl h2
   ·cases X
  ·exact eS Z (h.block _ Y (hI ha))
theorem ba {w : World} {e : TypeId} {a : OA} {c n : Nat} {xs : List Value} (Z : w.ownsRow B e 1 (.slice a n c) n xs) (ha : a ≠ none) : B<=ablk a/\ablk a<w.heap.size:=by
 rcases kF Z with ⟨rfl,_⟩ | h
 ·exact absurd rfl ha
 ·exact h
namespace aT
theorem lt (h : aT w B a n c R L) (b : Nat) (hb : bX a R b) : B<=b/\b<w.heap.size:=by
 rcases hb with ⟨h1,rfl⟩ | ⟨i,hi,h1,rfl⟩
 ·exact ba h.own h1
 ·exact ba (h.row i (by rw [h.rl] at hi;exact hi)) h1
theorem new (h : aT w B a n c R L) {b : Nat} (hb : w.heap.size<=b) : ¬ bX a R b:=λZ=>by have:=h.lt b Z;omega
theorem lM (h : aT w B a n c R L) {b : Nat} (hb : b<B) : ¬ bX a R b:=λZ=>by have:=h.lt b Z;omega
theorem nh {i : Nat} (h : i<R.length) (h1 : (aR R i).1 ≠ none) : bX a R (ablk (aR R i).1):=.inr ⟨i,h,h1,rfl⟩
theorem bj (h : aT w B a n c R L) (hb : ∀b,bX a R b->w'.heap[b]? = w.heap[b]?) : aT w' B a n c R L:=by
 have key : ∀ {e : TypeId} {a' : OA} {c m : Nat} {xs : List Value},w.ownsRow B e 1 (.slice a' m c) m xs->(a' ≠ none->w'.heap[ablk a']? = w.heap[ablk a']?)->w'.ownsRow B e 1 (.slice a' m c) m xs:=by
  intro e a' c m xs Z Y;by_cases ha : a'=none
  ·subst ha;refine ⟨Z.1,?_⟩;rcases Z.2 with h2 | ⟨g,cap,cur,X,_⟩
   ·exact .inl h2
   ·cases X
  ·exact eS Z (Y ha)
 exact ⟨h.rl,h.ll,key h.own λha=>hb _ (.inl ⟨ha,rfl⟩),λi hi=>key (h.row i hi) λha=>hb _ (nh (by rw [h.rl];exact hi) ha),h.sP,h.sep⟩
theorem af (h : aT w B a n c R L) (hb : OC w w') : aT w' B a n c R L:=h.bj λb hi=>hb.block b (h.lt b hi).2
theorem mono {B' : Nat} (h : aT w B a n c R L) (Z : B'<=B) : aT w B' a n c R L:=⟨h.rl,h.ll,bd h.own Z,λi hi=>bd (h.row i hi) Z,h.sP,h.sep⟩
theorem ints (h : aT w B a n c R L) {i : Nat} (hi : i<n) : Ints w (aR R i).1 (ai L i).length (ai L i):=(NZ (h.row i hi)).1
theorem cell (h : aT w B a n c R L) {i : Nat} (hi : i<n) : w.cell? ⟨ablk a,aL a+i,none⟩=some (.slice (aR R i).1 (ai L i).length (aR R i).2):=by
 rw [(bK h.own i hi).1,Ml,Km (show i<R.length by rw [h.rl];exact hi),Km (show i<L.length by rw [h.ll];exact hi),
  fw (by rw [h.rl];exact hi),aE (by rw [h.ll];exact hi)]
 rfl
theorem frozen (h : aT w B a n c R L) {i : Nat} (hi : i<n) : w.frozen? ⟨ablk a,aL a+i,none⟩=false:=(bK h.own i hi).2.1
theorem pl (h : aT w B a n c R L) : Pl a n:=by obtain ⟨a',X,Z,Y⟩:=Od h.own;cases Z;exact Y
theorem ne (h : aT w B a n c R L) (Z : 0<n) : a ≠ none:=by intro ha;have:=h.pl Z;rw [ha] at this;cases this
theorem max (h : aT w B a n c R L) : n<=maxLen:=by
 rcases Lq n with h0 | h0
 ·subst h0;unfold maxLen;omega
 ·exact (bK h.own 0 h0).2.2.2.2
theorem je (h : aT w B a n c R L) : bu w a n L:=⟨h.ll,h.pl,h.max,λ_ hi=>⟨_,_,_,h.cell hi,h.ints hi⟩⟩
theorem setRow (h : aT w B a n c R L) {i : Nat} (hi : i<n) {r : OA} {rc : Nat} {l : LI} (N : w.ownsRow B 3 1 (.slice r l.length rc) l.length (l.map (Value.int .i64)))
  (ha : eX r (ablk a)) (S : ∀j,j<n->j ≠ i->(aR R j).1=none\/eX r (ablk (aR R j).1)) :
  aT (w.setCell ⟨ablk a,aL a+i,none⟩ (.slice r l.length rc)) B a n c (R.set i (r,rc)) (L.set i l):=by
 have Z : i<R.length:=by rw [h.rl];exact hi
 have X : i<L.length:=by rw [h.ll];exact hi
 have flip : ∀ {x y : OA},(x=none\/eX y (ablk x))->(y=none\/eX x (ablk y)):=by
  intro x y U;rcases U with rfl | rfl | h2
  ·exact .inr (.inl rfl)
  ·exact .inl rfl
  ·exact .inr (.inr λe=>h2 e.symm)
 refine ⟨by simp [h.rl],by simp [h.ll],?_,λj Y=>?_,λj Y=>?_,λj k Y Q V=>?_⟩
 ·have:=bC h.own i hi (.slice r l.length rc);rwa [show (List.zipWith kb R L).set i (.slice r l.length rc)=_ from uu R L i (r,rc) l] at this
 ·rw [iT _ _ _ _ Z,ei _ _ _ _ X];by_cases e : j=i
  ·simp only [JT e];exact dP N _ ha
  ·simp only [JR e];exact dP (h.row j Y) _ (h.sP j Y)
 ·rw [iT _ _ _ _ Z];by_cases e : j=i
  ·simp only [JT e];exact ha
  ·simp only [JR e];exact h.sP j Y
 ·rw [iT _ _ _ _ Z,iT _ _ _ _ Z];by_cases e : j=i
  ·simp only [JT e,JR (show ¬ k=i by omega)];exact flip (S k Q (by omega))
  ·simp only [JR e];by_cases O : k=i
   ·simp only [JT O];exact S j Y e
   ·simp only [JR O];exact h.sep j k Y Q V
theorem lU (h : aT w B a n c R L) {w' : World} (Y : OC w w') {i : Nat} (hi : i<n) {r : OA} {rc : Nat} (v : Value) (U : r ≠ none->bX a R (ablk r)\/w.heap.size<=ablk r) :
  aD w (w'.setCell ⟨ablk a,aL a+i,none⟩ v) (bX a R) (bX a (R.set i (r,rc))):=by
 have X : i<R.length:=by rw [h.rl];exact hi
 have Z : Below 0 w (w'.setCell ⟨ablk a,aL a+i,none⟩ v):=(Y.mono (JU _)).setCell (JU _) v;refine ⟨Z.os,Z.tape,Z.output,Z.size,λb hb hI=>(J6 _ _ _ _ λe=>hI (.inl ⟨h.ne (by omega),e⟩)).trans (Y.block b hb),λb hb=>?_⟩;rcases hb with hb | ⟨j,V,h1,rfl⟩
 ·exact .inl (.inl hb)
 ·rw [KG] at V;rw [iT _ _ _ _ X] at h1 ⊢;by_cases e : j=i
  ·simp only [JT e] at h1 ⊢;exact U h1
  ·simp only [JR e] at h1 ⊢;exact .inl (.inr ⟨j,V,h1,rfl⟩)
theorem Jk (h : aT w B a n c R L) {i : Nat} (hi : i<n) {l : LI} (V : l.length=(ai L i).length)
  (X : w'.ownsRow B 3 1 (.slice (aR R i).1 (ai L i).length (aR R i).2) (ai L i).length (l.map (Value.int .i64)))
  (Q : ∀b,b<w.heap.size->((aR R i).1=none\/b ≠ ablk (aR R i).1)->w'.heap[b]? = w.heap[b]?) : aT w' B a n c R (L.set i l):=by
 have U : i<R.length:=by rw [h.rl];exact hi
 have Z : i<L.length:=by rw [h.ll];exact hi
 have key : ∀ {e : TypeId} {a' : OA} {c m : Nat} {xs : List Value},w.ownsRow B e 1 (.slice a' m c) m xs->((aR R i).1=none\/a'=none\/ablk a' ≠ ablk (aR R i).1)->w'.ownsRow B e 1 (.slice a' m c) m xs:=by
  intro e a' c m xs X Y;by_cases ha : a'=none
  ·subst ha;refine ⟨X.1,?_⟩;rcases X.2 with h2 | ⟨g,cap,cur,O,_⟩
   ·exact .inl h2
   ·cases O
  ·exact eS X (Q _ (ba X ha).2 (by rcases Y with Y | Y | Y;exact .inl Y;exact absurd Y ha;exact .inr Y))
 refine ⟨h.rl,by simp [h.ll],?_,λj S=>?_,h.sP,h.sep⟩
 ·have e : List.zipWith kb R (L.set i l)=List.zipWith kb R L:=by
   apply MH;intro j;simp only [Ml,KT];by_cases e : i=j
   ·subst e;simp only [Z,if_true,Km U,Km Z];rw [aE Z] at V;simp [kb,V]
   ·simp [e]
  rw [e];exact key h.own (by rcases h.sP i hi with h2 | h2;exact .inl h2;exact .inr (.inr λe=>h2 e.symm))
 ·rw [ei _ _ _ _ Z];by_cases e : j=i
  ·subst e;simp only [if_true,V];exact X
  ·simp only [JR e];refine key (h.row j S) ?_;rcases h.sep i j hi S (by omega) with h2 | h2 | h2
   ·exact .inl h2
   ·exact .inr (.inl h2)
   ·exact .inr (.inr h2)
end aT
theorem C8 {w : World} {B : Nat} {a : OA} {n c : Nat} (h : w.ownsRow B 22 1 (.slice a n c) n (List.replicate n (.slice none 0 0))) :
  aT w B a n c (List.replicate n (none,0)) (List.replicate n []):=by
 refine ⟨by simp,by simp,?_,λi hi=>?_,λi hi=>?_,λi j hi Y Z=>?_⟩
 ·simpa [kb] using h
 ·rw [qE,iJ];exact cF
 ·rw [iJ];exact .inl rfl
 ·rw [iJ];exact .inl rfl
end
section
variable {w : World} {b : Nat} {G : cX}
theorem Ints.DT {w : World} {n : Nat} {l : LI} (h : Ints w none n l) : n=0/\l=[]:=by
 have h0 : n=0:=by
  rcases Lq n with h0 | h0
  ·exact h0
  ·have:=h.pl h0;cases this
 exact ⟨h0,Kd (by rw [h.len];exact h0)⟩
theorem dx (a : OA) (n c : Nat) (l : LI) (hi : Ints w a n l) (F : n<=1000000) :
  Calls prog 115 #[.slice a n c] w (db w l):=by
 have heq:=λ(w : World) (a : OA) (l c : Nat)=>Go.run_eql_slice_nil (P:=prog) w 22 3 a l c underlying22;by_cases ha : a=none
 ·subst ha;obtain ⟨rfl,rfl⟩:=hi.DT;have O : (none : OA).isNone=true:=rfl;go_enter func115,ntmps115;go_wp2_with fail;go_ret;exact ⟨none,0,rfl,cF,JP _ _⟩
 ·have O : a.isNone=false:=by cases a with | none=>exact absurd rfl ha | some x=>rfl
  have hlen:=hi.len;have X:=Z5 hlen;have K:=gg w 3;have S:=Z5 ((JP w.heap.size w).alloc (JO _) (.cells #[] 3));clear ha hlen;go_enter func115,ntmps115;go_upto_region 3 with fail;iterate 7 go_step
  have Y:=S.out;generalize w.alloc (.cells #[] 3)=W0 at *;have U:=hi.af Y;refine dY (by rfl) (.tmp 5) (.tmp 6) 22 3 (by rfl) (.int .i64 0) 8 underlying22 aV (by rfl) w.heap.size _ 0 0 [] (by rfl) K a n c (l.map (Value.int .i64)) (by rfl) U.pl (by simp [X.out]) (N7 U) (ints_oneCell _ _) (by omega) (by unfold maxLen;omega) (K8 Y) ?_;intro a3 H w3 Z V N;have Q : OC w w3:=N0 (B:=w.heap.size) (e:=3) (xs:=[]) Y K V (JO _) (K8 Y);rw [LJ] at Z ⊢;rw [KL] at Z;go_wp2_with fail;go_ret;exact ⟨a3,H,by rw [X.out];rfl,by rw [X.out];exact Z,Q⟩
def DO (w : World) (L : Ll) (e : Ending) (w' : World) : Prop :=
 ∃a c R,e = .returned (.slice a L.length c)/\aT w' w.heap.size a L.length c R L/\OC w w'
theorem dO : (prog.info? 22).map (λi=>(i.zero,i.size,i.bytes))=some (some (.slice none 0 0),1,24):=by kernel_rfl
def kz (n k : Nat) (L : Ll) : Ll:=L.take k ++ List.replicate (n - k) []
theorem An {n k : Nat} {L : Ll} (Y : k<n) (Z : L.length=n) : (kz n k L).set k (ai L k)=kz n (k+1) L:=by
 unfold kz;have e1 : (L.take k).length=k:=by simp;omega
 rw [JW (by omega),M6 (h:=by omega),e1,show n - k=(n - (k+1))+1 by omega,Mu,MS,JY,KI,aE (by omega)];rfl
theorem zK {n : Nat} {L : Ll} (Z : L.length=n) : kz n n L=L:=by simp [kz,JX (show L.length<=n by omega)]
theorem Ct (a : OA) (n c : Nat) (L : Ll) (hi : bu w a n L) (hn : n<=1000000) (hL : ∀l ∈ L,l.length<=1000000) :
  Calls prog 222 #[.slice a n c] w (DO w L):=by
 have hpl:=hi.pl;have Z:=Z5 hi.len;have HL:=Z5 hL;clear hL;go_enter func222,ntmps222;go_wp2_with (at_make;refine ch rfl _ _ 25 22 rfl (.slice none 0 0) 24 underlying25 dO rfl n rfl rfl (by omega) (by unfold maxLen;omega) ?_;intro a1 w1 N H hge X);have V:=C8 N;have hO1 : ∃R,aT w1 w.heap.size a1 n n R (kz n 0 L):=⟨_,by simpa [kz] using V⟩
 clear V N;go_loopw [11] (λiv wr=>∃k : Nat,k<=n/\iv = .int .i64 k/\(∃R,aT wr w.heap.size a1 n n R (kz n k L))/\OC w wr) (λiv _=>n - (intOf iv).toNat);case atStart=>exact ⟨0,JU _,rfl,hO1,H⟩
 case round =>
  obtain ⟨k,hk,rfl,⟨R,V⟩,Q⟩:=hrel
  by_cases X : k<n
  ·have hiW:=hi.af Q
   obtain ⟨ra,rn,rc,hcell,O⟩:=hiW.cell k X
   have E : k<L.length:=by rw [Z.out];exact X
   have z : rn<=1000000:=by rw [<- O.len,aE E];exact HL.out _ (Kp E)
   have K:=An X Z.out
   have F:=Z5 K
   clear K
   have hpl1:=V.pl
   generalize ai L k=l at *
   go_wp2_with fail
   refine (dx ra rn rc l O z).mono ?_
   rintro e w3 ⟨a3,c3,rfl,Y,A⟩
   have S:=V.af A
   have hf:=S.frozen X
   have hc:=S.cell X
   have hB:=(aT.lt S (ablk a1) (.inl ⟨S.ne (by omega),rfl⟩)).1
   have C:=NX Q A
   have r:=Q.size
   have U:=aT.setRow S X (bd Y r) (pV Y (aT.lt V (ablk a1) (.inl ⟨V.ne (by omega),rfl⟩)).2) (λj hj _=>by
    by_cases hn : (aR R j).1=none
    ·exact .inl hn
    ·exact .inr (pV Y (aT.lt V _ (aT.nh (by rw [V.rl];exact hj) hn)).2))
   rw [F.out] at U
   have D:=Z5 U
   clear U
   go_wp2_with fail
   go_roundw
   case rel=>exact ⟨k+1,by omega,by go_num,⟨_,D.out⟩,C.setCell hB _⟩
   case measure=>simp [intOf] <;> omega
  ·obtain rfl : k=n:=by omega
   rw [zK Z.out] at V
   go_wp2_with fail
   go_ret
   exact ⟨a1,k,R,by rw [Z.out];rfl,by rw [Z.out];exact V,Q⟩
end
structure aM where
 add : Int->Int->Int
 mul : Int->Int->Int
 neg : Int->Int
 inv : Int->Int
def bN (O : aM) (v : LI) (s : Int) (u : LI) : LI:=List.zipWith (λp q=>if q=0 then p else O.add p (O.mul s q)) v u
theorem cR (O : aM) (v : LI) (s : Int) (u : LI) (h : u.length=v.length) : (bN O v s u).length=v.length:=by simp [bN,h]
theorem fb (O : aM) (v : LI) (s : Int) (u : LI) (i : Nat) (h : u.length=v.length) (hi : i<v.length) :
  nth (bN O v s u) i=if nth u i=0 then nth v i else O.add (nth v i) (O.mul s (nth u i)):=by rw [aj (show i<(bN O v s u).length by rw [cR _ _ _ _ h];exact hi),aj (show i<u.length by omega),aj hi];simp [bN]
theorem qy (new lM : LI) (j : Nat) (h : new.length=lM.length) (Y : j<lM.length) (e : nth new j=nth lM j) : gj new lM (j+1)=gj new lM j:=by
 rw [<- fA new lM j h Y,e];refine fZ (by simp) λi hi=>?_;have X:=gY new lM j h (by omega);rw [eh _ _ _ _ (by omega)];by_cases Z : i=j
 ·subst Z;rw [JT rfl,eQ _ _ _ _ h (by omega),JR (by omega)]
 ·rw [JR Z]
def findTo (L : Ll) (c : Nat) : Nat->Nat->Nat
 | k,0=>k
 | k,f+1=>if nth (ai L k) c=0 then findTo L c (k+1) f else k
def aZ (L : Ll) (c k : Nat) : Nat:=findTo L c k (L.length - k)
theorem tj (L : Ll) (c : Nat) : ∀f k,k<=findTo L c k f/\findTo L c k f<=k+f
 | 0,k=>by simp [findTo]
 | f+1,k=>by have:=tj L c f (k+1);unfold findTo;split <;> omega
theorem gK (L : Ll) (c : Nat) : ∀f k,findTo L c k f<k+f->nth (ai L (findTo L c k f)) c ≠ 0
 | 0,k,h=>by simp [findTo] at h
 | f+1,k,h=>by
  unfold findTo at h ⊢;split
  ·rename_i h0;rw [JT h0] at h;exact gK L c f (k+1) (by omega)
  ·assumption
theorem kX (L : Ll) (c : Nat) : ∀f k i,k<=i->i<findTo L c k f->nth (ai L i) c=0
 | 0,k,i,h1,h2=>by simp [findTo] at h2;omega
 | f+1,k,i,h1,h2=>by
  unfold findTo at h2;split at h2
  ·rename_i h0;rcases Nq h1 with h3 | h3
   ·rw [<- h3];exact h0
   ·exact kX L c f (k+1) i h3 h2
  ·omega
theorem gZ {L : Ll} {c k : Nat} (Z : k<L.length) : aZ L c k=if nth (ai L k) c=0 then aZ L c (k+1) else k:=by unfold aZ;rw [show L.length - k=(L.length - (k+1))+1 by omega,findTo]
theorem kM {L : Ll} {c k : Nat} (Z : L.length<=k) : aZ L c k=k:=by unfold aZ;rw [show L.length - k=0 by omega,findTo]
theorem jV {L : Ll} {c k : Nat} (Z : k<=L.length) : k<=aZ L c k/\aZ L c k<=L.length:=by have:=tj L c (L.length - k) k;unfold aZ;omega
def bt (L : Ll) (i j : Nat) : Ll:=(L.set i (ai L j)).set j (ai L i)
def cH (O : aM) (Z : LI) (c : Nat) (r : LI) : LI:=if nth r c=0 then r else bN O r (O.neg (nth r c)) Z
def clearTo (O : aM) (t c : Nat) (L : Ll) : Nat->Ll
 | 0=>L
 | i+1=>if i=t then clearTo O t c L i else (clearTo O t c L i).set i (cH O (ai (clearTo O t c L i) t) c (ai (clearTo O t c L i) i))
def bw (O : aM) (L : Ll) (t c : Nat) : Ll:=if O.inv (nth (ai L t) c)=1 then L else L.set t ((ai L t).map (O.mul (O.inv (nth (ai L t) c))))
def en (O : aM) (L : Ll) (t k c : Nat) : Ll :=
 let Y:=if k=t then L else bt L t k
 let Z:=bw O Y t c
 clearTo O t c Z Z.length
def aC (O : aM) (L : Ll) : Nat->Ll × LI
 | 0=>(L,[])
 | c+1 =>
  let s:=aC O L c
  if s.2.length<s.1.length then
   if aZ s.1 c s.2.length=s.1.length then s
   else (en O s.1 s.2.length (aZ s.1 c s.2.length) c,s.2 ++ [(c : Int)])
  else s
theorem bG (L : Ll) (i j : Nat) : (bt L i j).length=L.length:=by simp [bt]
theorem dq (O : aM) (t c : Nat) (L : Ll) : ∀i,(clearTo O t c L i).length=L.length
 | 0=>rfl
 | i+1=>by unfold clearTo;split <;> simp [dq O t c L i]
theorem dr (O : aM) (L : Ll) (t c : Nat) : (bw O L t c).length=L.length:=by unfold bw;split <;> simp
theorem dU (O : aM) (L : Ll) (t k c : Nat) : (en O L t k c).length=L.length:=by unfold en;simp only [dq,dr];split <;> simp [bG]
theorem bL (O : aM) (L : Ll) : ∀c,(aC O L c).1.length=L.length
 | 0=>rfl
 | c+1=>by
  unfold aC;simp only;split
  ·split <;> simp [dU,bL O L c]
  ·exact bL O L c
theorem dX (O : aM) (L : Ll) : ∀c,(aC O L c).2.length<=c/\(aC O L c).2.length<=L.length
 | 0=>by simp [aC]
 | c+1=>by
  have Y:=dX O L c;have Z:=bL O L c;unfold aC;simp only;split
  ·split
   ·omega
   ·simp only [J0,Ka];omega
  ·omega
def bs (El : Int->Prop) (m : Nat) (L : Ll) : Prop:=∀r ∈ L,r.length=m/\∀x ∈ r,El x
theorem kE {L : Ll} {i : Nat} (h : L.length<=i) : ai L i=[]:=by simp [ai,KS h]
theorem bs.row {El : Int->Prop} {m : Nat} {L : Ll} (h : bs El m L) {i : Nat} (hi : i<L.length) : (ai L i).length=m/\∀x ∈ ai L i,El x:=h _ (fp hi)
theorem bs.set {El : Int->Prop} {m : Nat} {L : Ll} (h : bs El m L) (i : Nat) {r : LI} (Z : r.length=m/\∀x ∈ r,El x) : bs El m (L.set i r):=by
 intro x Y;rcases KX Y with h1 | rfl
 ·exact h x h1
 ·exact Z
structure qa (O : aM) (El : Int->Prop) : Prop where
 add : ∀x y,El x->El y->El (O.add x y)
 mul : ∀x y,El x->El y->El (O.mul x y)
 neg : ∀x,El x->El (O.neg x)
 inv : ∀x,El x->x ≠ 0->El (O.inv x)
theorem lk {O : aM} {El : Int->Prop} (X : qa O El) {v u : LI} {s : Int} (Y : ∀x ∈ v,El x) (hu : ∀x ∈ u,El x) (V : El s) : ∀x ∈ bN O v s u,El x:=by
 intro x Z;unfold bN at Z;rw [Mr] at Z;obtain ⟨i,hi,rfl⟩:=Z;rw [L0];simp only [KZ] at hi;split
 ·exact Y _ (Kp _)
 ·exact X.add _ _ (Y _ (Kp _)) (X.mul _ _ V (hu _ (Kp _)))
theorem bs.swap {El : Int->Prop} {m : Nat} {L : Ll} (h : bs El m L) {i j : Nat} (hi : i<L.length) (Z : j<L.length) : bs El m (bt L i j) :=
 (h.set i (h.row Z)).set j (h.row hi)
theorem bs.cH {O : aM} {El : Int->Prop} {m : Nat} (X : qa O El) {r Z : LI} {c : Nat} (U : c<m) (Y : r.length=m/\∀x ∈ r,El x) (V : Z.length=m/\∀x ∈ Z,El x) :
  (cH O Z c r).length=m/\∀x ∈ cH O Z c r,El x:=by
 unfold Proofs.YthglbncgemdcbaaGreat.cH;split
 ·exact Y
 ·exact ⟨by rw [cR _ _ _ _ (by omega)];exact Y.1,lk X Y.2 V.2 (X.neg _ (Y.2 _ (aI (by omega))))⟩
theorem bs.clear {O : aM} {El : Int->Prop} {m : Nat} {L : Ll} (X : qa O El) (h : bs El m L) {t c : Nat} (V : t<L.length) (Y : c<m) : ∀i,i<=L.length->bs El m (clearTo O t c L i)
 | 0,_=>h
 | i+1,hi=>by
  have Z:=bs.clear X h V Y i (by omega);unfold clearTo;split
  ·exact Z
  ·exact Z.set i (bs.cH X Y (Z.row (by rw [dq];omega)) (Z.row (by rw [dq];omega)))
theorem bs.norm {O : aM} {El : Int->Prop} {m : Nat} {L : Ll} (Y : qa O El) (h : bs El m L) {t c : Nat} (Z : t<L.length) (V : c<m) (h0 : nth (ai L t) c ≠ 0) : bs El m (bw O L t c):=by
 unfold bw;split
 ·exact h
 ·refine h.set t ⟨by rw [J5];exact (h.row Z).1,λx U=>?_⟩;obtain ⟨y,X,rfl⟩:=List.mem_map.1 U;exact Y.mul _ _ (Y.inv _ ((h.row Z).2 _ (aI (by rw [(h.row Z).1];exact V))) h0) ((h.row Z).2 y X)
theorem fU {O : aM} {L : Ll} {k : Nat} (h : (aC O L k).2.length=L.length) : ∀d,aC O L (k+d)=aC O L k
 | 0=>rfl
 | d+1=>by have Z:=fU h d;show aC O L ((k+d)+1)=_;rw [aC];simp only [Z];rw [JR (by rw [bL];omega)]
theorem dR {O : aM} {L Lk : Ll} {P : LI} {k : Nat} (h : (Lk,P)=aC O L k) (Z : P.length<Lk.length) :
  aC O L (k+1)=if aZ Lk k P.length=Lk.length then (Lk,P) else (en O Lk P.length (aZ Lk k P.length) k,P ++ [(k : Int)]):=by rw [aC];simp only [<- h];rw [JT Z]
theorem iB (O : aM) (L : Ll) (t k c : Nat) : en O L t k c=clearTo O t c (bw O (if k=t then L else bt L t k) t c) L.length:=by unfold en;simp only [dr];split <;> simp [bG]
section
def bm (w w' : World) : Prop:=∃n,w'=w.drewN n
theorem bm.refl (w : World) : bm w w:=⟨0,rfl⟩
theorem bm.drewN {w w' : World} (h : bm w w') (n : Nat) : bm w (w'.drewN n):=by obtain ⟨m,rfl⟩:=h;exact ⟨m+n,by rw [World.drewN_drewN]⟩
theorem bm.drew {w w' : World} (h : bm w w') : bm w w'.drew:=h.drewN 1
theorem bm.below {w w' : World} (h : bm w w') : OC w w':=by obtain ⟨m,rfl⟩:=h;exact below_drewN (JP _ _) m
theorem bm.cell {w w' : World} (h : bm w w') {p : Addr} {v : Value} (Z : w.cell? p=some v) : w'.cell? p=some v:=by obtain ⟨m,rfl⟩:=h;exact Z
theorem bm.frozen {w w' : World} (h : bm w w') {p : Addr} {v : Bool} (Z : w.frozen? p=v) : w'.frozen? p=v:=by obtain ⟨m,rfl⟩:=h;exact Z
theorem bm.Ff {Z w w' : World} {B : Nat} (h : bm w w') (hb : Below B Z w) : Below B Z w':=by obtain ⟨m,rfl⟩:=h;exact below_drewN hb m
def cX.ops (G : cX) : aM:=⟨G.add,G.mul,G.neg,G.inv⟩
theorem cX.cl {w : World} {b : Nat} {G : cX} (h : ee w b G) : qa G.ops G.El:=⟨λx y _ _=>cX.DP h x y,λx y _ _=>cX.mi h x y,λx _=>cX.uX h x,λx _ _=>cX.y9 h x⟩
def dg (a : OA) (w w' : World) : Prop:=aD w w' (λb=>a ≠ none/\b=ablk a) (λb=>a ≠ none/\b=ablk a)
theorem dg.refl (a : OA) (w : World) : dg a w w:=aD.refl _ _
theorem dg.trans {a : OA} {w w' w'' : World} (h : dg a w w') (k : dg a w' w'') : dg a w w'' := aD.trans h k
theorem dg.drawn {a : OA} {w w' : World} (h : bm w w') : dg a w w':=aD.bg h.below _
theorem dg.set {a : OA} (w : World) (i : Nat) (v : Value) (ha : a ≠ none) : dg a w (w.setCell ⟨ablk a,aL a+i,none⟩ v):=by have Z : Below 0 w (w.setCell ⟨ablk a,aL a+i,none⟩ v):=(JP 0 w).setCell (JU _) v;exact ⟨Z.os,Z.tape,Z.output,Z.size,λb hb hI=>J6 _ _ _ _ λe=>hI ⟨ha,e⟩,λb hb=>.inl hb⟩
theorem dg.ints {a : OA} {w w' : World} (h : dg a w w') {u : OA} {n : Nat} {l : LI} (hi : Ints w u n l) (hu : a=none\/u=none\/ablk u ≠ ablk a) : Ints w' u n l:=by
 refine hi.of_block λZ=>h.block _ (hi.lt Z) ?_;rintro ⟨h1,h2⟩;rcases hu with hu | hu | hu
 ·exact h1 hu
 ·have:=hi.pl Z;rw [hu] at this;cases this
 ·exact hu h2
theorem dg.below {a : OA} {w w' : World} {B : Nat} (h : dg a w w') (ha : a ≠ none->B<=ablk a) (Z : B<=w.heap.size) : Below B w w':=aD.below h (λ_ hb=>by rw [hb.2];exact ha hb.1) Z
variable {w : World} {b : Nat} {G : cX}
theorem F6 (r : World) (S : OA) (cv n : Nat) (v : LI) (s : Int) (au : OA) (cu : Nat) (u : LI) (h : ee r b G) (hb : OC r w)
  (hv : w.ownsRow r.heap.size 3 1 (.slice S n cv) n (v.map (Value.int .i64))) (hu : Ints w au n u) (hap : S=none\/au=none\/ablk au ≠ ablk S)
  (hve : ∀x ∈ v,G.El x) (hue : ∀x ∈ u,G.El x) (hs : G.El s) :
  Calls prog 198 #[.pointer (some ⟨b,0,none⟩),.slice S n cv,.int .i64 s,.slice au n cu] w
   λe w'=>e = .returned (.tuple #[])/\w'.ownsRow r.heap.size 3 1 (.slice S n cv) n ((bN G.ops v s u).map (Value.int .i64))/\dg S w w':=by
 have hul:=hu.len;have hvl : v.length=n:=by simpa using jZ hv
 have hmax:=hu.max;unfold maxLen at hmax;have hpu:=hu.pl;have hpv:=(NZ hv).1.pl;have A : 0<n->S ≠ none:=λhn e=>by have:=hpv hn;rw [e] at this;cases this
 have hll : (bN G.ops v s u).length=v.length:=cR _ _ _ _ (by omega);have H:=λi=>fb G.ops v s u i (by omega);have Hnth:=Z5 H;have Hul:=Z5 hul;have D:=Z5 hvl;have Hll:=Z5 hll;have Hav:=Z5 A;have Hve:=Z5 hve;have Hue:=Z5 hue;clear H hul hvl hll A hve hue;generalize bN G.ops v s u=N at *;go_enter func198,ntmps198;go_wp2_with fail;go_loopw [12] (λiv wr=>∃k : Nat,k<=n/\iv = .int .i64 k/\wr.ownsRow r.heap.size 3 1 (.slice S n cv) n ((gj N v k).map (Value.int .i64))/\dg S w wr) (λiv _=>n - (intOf iv).toNat);case atStart=>exact ⟨0,JU _,rfl,by rw [fQ];exact hv,dg.refl _ _⟩
 case round =>
  obtain ⟨k,hk,rfl,X,Z⟩:=hrel
  by_cases U : k<n
  ·have hiu:=Z.ints hu hap
   have cu1:=hiu.cell k U
   have O : N.length=v.length:=Hll.out
   have Q : k<v.length:=by rw [D.out];exact U
   have Y:=Hnth.out k Q
   have V:=eQ N v k k O (by omega)
   rw [JR (by omega)] at V
   by_cases hz : nth u k=0
   ·rw [JT hz] at Y
    have K:=qy N v k O Q Y
    have E:=Z5 K
    clear Y V K O Q
    go_wp2_with fail
    go_roundw
    case rel=>exact ⟨k+1,by omega,by go_num,by rw [E.out];exact X,Z⟩
    case measure=>simp [intOf] <;> omega
   ·rw [JR hz] at Y
    have F:=fA N v k O Q
    obtain ⟨hiv,hmv⟩:=NZ X
    have j:=hiv.cell k U
    have fv1:=(hmv (by omega)).2 k U
    rw [V] at j
    have elv : G.El (nth v k):=Hve.out _ (aI Q)
    have elu : G.El (nth u k):=Hue.out _ (aI (by rw [Hul.out];exact U))
    have C : ee wr b G:=h.af (KE hb (Z.below (λha=>(ba hv ha).1) hb.size))
    have Hval:=Z5 Y
    have z:=Z5 F
    have hS : ∀W,bm wr W->W.cell? ⟨ablk S,aL S+k,none⟩=some (.int .i64 (nth v k))/\W.frozen? ⟨ablk S,aL S+k,none⟩=false/\ee W b G/\bm wr W :=
     λW hW=>⟨hW.cell j,hW.frozen fv1,C.af hW.below,hW⟩
    have HS:=Z5 hS
    have elm : ∀x y,G.El (G.mul x y):=λx y=>cX.mi h x y
    have hz' : (nth u k != 0)=true:=by simpa using hz
    clear Y V F O Q hS hz
    go_wp2_with fail
    have HG : Hid (ee wr.drew b G/\∀n,ee (wr.drewN n) b G):=⟨C.af (JP _ _).drew,λn=>C.drewN n⟩
    go_region_law ((first
     | (go_simp;go_at_call 57;((with_reducible refine (pL s (nth u k) HG.out.1 hs elu).mono ?_);rintro e w4 ⟨m4,rfl,rfl⟩))
     | (go_simp;go_at_call 57;((with_reducible refine (pL s (nth u k) (HG.out.2 _) hs elu).mono ?_);rintro e w4 ⟨m4,rfl,rfl⟩))
     | (go_simp;go_at_call 56;((with_reducible refine (Ij (nth v k) (G.mul s (nth u k)) (HG.out.2 _) elv (elm _ _)).mono ?_);rintro e w4 ⟨m5,rfl,rfl⟩))))
    all_goals (
     go_wp2_with fail
     go_roundw
     case rel =>
      have hdr : bm wr (wr.drewN (1+m4+m5)):=⟨_,rfl⟩
      refine ⟨k+1,by omega,by go_num,?_,Z.trans ((dg.drawn hdr).trans (dg.set _ k _ (Hav.out (by omega))))⟩
      have h1:=bC (w:=wr.drewN (1+m4+m5)) X k U (.int .i64 (nth N k))
      rw [<- Kh,z.out,Hval.out] at h1
      exact h1
     case measure=>simp [intOf] <;> omega)
  ·obtain rfl : k=n:=by omega
   rw [gx N v k (by rw [Hll.out,D.out]) D.out] at X
   go_wp2_with fail
   go_end0
   exact ⟨rfl,X,Z⟩
end
section
variable {w : World} {b : Nat} {G : cX}
def rJ (R : LA) (i j : Nat) : LA:=(R.set i (aR R j)).set j (aR R i)
theorem nI (R : LA) (i j : Nat) : (rJ R i j).length=R.length:=by simp [rJ]
def dM (t k i : Nat) : Nat:=if i=k then t else if i=t then k else i
theorem jJ (R : LA) (t k i : Nat) (Z : t<R.length) (Y : k<R.length) : aR (rJ R t k) i=aR R (dM t k i):=by
 unfold rJ dM;rw [iT _ _ _ _ (by simpa using Y),iT _ _ _ _ Z];split
 ·rfl
 ·split <;> rfl
theorem iH (L : Ll) (t k i : Nat) (Z : t<L.length) (Y : k<L.length) : ai (bt L t k) i=ai L (dM t k i):=by
 unfold bt dM;rw [ei _ _ _ _ (by simpa using Y),ei _ _ _ _ Z];split
 ·rfl
 ·split <;> rfl
theorem jD {t k i n : Nat} (Z : t<n) (Y : k<n) (hi : i<n) : dM t k i<n:=by unfold dM;split <;> (try split) <;> assumption
theorem Ep {t k i j : Nat} (h : i ≠ j) : dM t k i ≠ dM t k j:=by unfold dM;split <;> split <;> (try split) <;> (try split) <;> omega
theorem aT.swap {B : Nat} {a : OA} {n c : Nat} {R : LA} {L : Ll} (h : aT w B a n c R L) {t k : Nat} (X : t<n) (V : k<n) :
  aT ((w.setCell ⟨ablk a,aL a+t,none⟩ (.slice (aR R k).1 (ai L k).length (aR R k).2)).setCell ⟨ablk a,aL a+k,none⟩ (.slice (aR R t).1 (ai L t).length (aR R t).2)) B a n c (rJ R t k) (bt L t k):=by
 have Z : t<R.length:=by rw [h.rl];exact X
 have Y : k<R.length:=by rw [h.rl];exact V
 have O : t<L.length:=by rw [h.ll];exact X
 have Q : k<L.length:=by rw [h.ll];exact V
 refine ⟨by rw [nI];exact h.rl,by rw [bG];exact h.ll,?_,λi hi=>?_,λi hi=>?_,λi j hi N S=>?_⟩
 ·have h1:=bC (bC h.own t X (.slice (aR R k).1 (ai L k).length (aR R k).2)) k V (.slice (aR R t).1 (ai L t).length (aR R t).2);rw [show (List.zipWith kb R L).set t (.slice (aR R k).1 (ai L k).length (aR R k).2)=_ from uu R L t (aR R k) (ai L k)] at h1;rw [show (List.zipWith kb (R.set t (aR R k)) (L.set t (ai L k))).set k (.slice (aR R t).1 (ai L t).length (aR R t).2)=_ from uu _ _ k (aR R t) (ai L t)] at h1;exact h1
 ·rw [jJ _ _ _ _ Z Y,iH _ _ _ _ O Q];have U:=jD X V hi;exact dP (p:=⟨ablk a,aL a+k,none⟩) (dP (p:=⟨ablk a,aL a+t,none⟩) (h.row _ U) _ (h.sP _ U)) _ (h.sP _ U)
 ·rw [jJ _ _ _ _ Z Y];exact h.sP _ (jD X V hi)
 ·rw [jJ _ _ _ _ Z Y,jJ _ _ _ _ Z Y];exact h.sep _ _ (jD X V hi) (jD X V N) (Ep S)
theorem bX.swap {a : OA} {R : LA} {t k b : Nat} (Z : t<R.length) (Y : k<R.length) (h : bX a (rJ R t k) b) : bX a R b:=by
 rcases h with h | ⟨i,hi,h1,rfl⟩
 ·exact .inl h
 ·rw [nI] at hi;rw [jJ _ _ _ _ Z Y] at h1 ⊢;exact aT.nh (jD Z Y hi) h1
theorem aT.r9 {B : Nat} {a : OA} {n c : Nat} {R : LA} {L : Ll} (h : aT w B a n c R L) {t k : Nat} (Y : t<n) (X : k<n) (u v : Value) :
  aD w ((w.setCell ⟨ablk a,aL a+t,none⟩ u).setCell ⟨ablk a,aL a+k,none⟩ v) (bX a R) (bX a (rJ R t k)):=by have Z : Below 0 w ((w.setCell ⟨ablk a,aL a+t,none⟩ u).setCell ⟨ablk a,aL a+k,none⟩ v):=((JP 0 w).setCell (JU _) u).setCell (JU _) v;have hne:=h.ne (by omega);refine ⟨Z.os,Z.tape,Z.output,Z.size,λb hb hI=>?_,λb hb=>.inl (bX.swap (by rw [h.rl];exact Y) (by rw [h.rl];exact X) hb)⟩;rw [J6 _ _ _ _ λe=>hI (.inl ⟨hne,e⟩),J6 _ _ _ _ λe=>hI (.inl ⟨hne,e⟩)]
theorem aT.drew {B : Nat} {a : OA} {n c : Nat} {R : LA} {L : Ll} (h : aT w B a n c R L) : aT w.drew B a n c R L:=h.af (JP _ _).drew
theorem aD.drew {w w' : World} {I I' : Nat->Prop} (h : aD w w' I I') : aD w w'.drew I I':=⟨h.os,h.tape,h.output,h.size,h.block,h.grow⟩
theorem Fm (B : Nat) (a : OA) (n c : Nat) (R : LA) (L : Ll) (U S k t : Nat) (X : aT w B a n c R L)
  (D : w.cell? ⟨U,0,none⟩=some (.int .i64 k)) (F : w.cell? ⟨S,0,none⟩=some (.int .i64 t)) (Z : k<n) (Y : t<n) (C : k ≠ t) (E : ¬ bX a R U) (A : ¬ bX a R S) :
  Calls prog 254 #[.slice a n c,.pointer (some ⟨U,0,none⟩),.pointer (some ⟨S,0,none⟩)] w
   λe w'=>e = .returned (.tuple #[])/\∃H,aT w' B a n c H (bt L t k)/\aD w w' (bX a R) (bX a H):=by
 have z:=X.pl;have r:=X.cell Z;have ct:=X.cell Y;have fk:=X.frozen Z;have ft:=X.frozen Y;have V : a ≠ none:=X.ne (by omega);have Q : U ≠ ablk a:=λe=>E (.inl ⟨V,e⟩);have N : S ≠ ablk a:=λe=>A (.inl ⟨V,e⟩);have j : (w.setCell ⟨ablk a,aL a+t,none⟩ (.slice (aR R k).1 (ai L k).length (aR R k).2)).cell? ⟨U,0,none⟩=some (.int .i64 k):=by rw [J7 _ _ _ _ (by simp [Q])];exact D
 have k2 : (w.setCell ⟨ablk a,aL a+t,none⟩ (.slice (aR R k).1 (ai L k).length (aR R k).2)).cell? ⟨S,0,none⟩=some (.int .i64 t):=by rw [J7 _ _ _ _ (by simp [N])];exact F
 have k3 : (w.setCell ⟨ablk a,aL a+t,none⟩ (.slice (aR R k).1 (ai L k).length (aR R k).2)).cell? ⟨ablk a,aL a+k,none⟩=some (.slice (aR R k).1 (ai L k).length (aR R k).2):=by rw [J7 _ _ _ _ (by simp <;> omega)];exact r
 go_enter func254,ntmps254;go_wp2_with fail;go_region;have O:=(X.swap Y Z).drew;have K:=(X.r9 Y Z (.slice (aR R k).1 (ai L k).length (aR R k).2) (.slice (aR R t).1 (ai L t).length (aR R t).2)).drew;go_wp2_with fail;go_end0;exact ⟨rfl,_,O,K⟩
theorem C7 (N : World) (a : OA) (n c : Nat) (R : LA) (L : Ll) (F C A : Nat) (s : Int) (t : Nat) (X : aT w N.heap.size a n c R L)
  (h : ee N b G) (hb : OC N w)
  (hg : w.cell? ⟨F,0,none⟩=some (.pointer (some ⟨b,0,none⟩))) (hs : w.cell? ⟨C,0,none⟩=some (.int .i64 s)) (ht : w.cell? ⟨A,0,none⟩=some (.int .i64 t)) (Y : t<n) (H : G.El s)
  (D : G.DU (ai L t)) (z : (ai L t).length<=1000000) :
  Calls prog 255 #[.slice a n c,.pointer (some ⟨F,0,none⟩),.pointer (some ⟨C,0,none⟩),.pointer (some ⟨A,0,none⟩)] w
   λe w'=>e = .returned (.tuple #[])/\∃K,aT w' N.heap.size a n c K (L.set t ((ai L t).map (G.mul s)))/\aD w w' (bX a R) (bX a K):=by
 have hpl:=X.pl;have ct:=X.cell Y;have ft:=X.frozen Y;have hi:=X.ints Y;have hG:=h.af hb;have hS : ∀W,OC w W->W.cell? ⟨F,0,none⟩=some (.pointer (some ⟨b,0,none⟩))/\W.cell? ⟨C,0,none⟩=some (.int .i64 s)/\W.cell? ⟨A,0,none⟩=some (.int .i64 t) /\
   W.cell? ⟨ablk a,aL a+t,none⟩=some (.slice (aR R t).1 (ai L t).length (aR R t).2)/\W.frozen? ⟨ablk a,aL a+t,none⟩=false/\OC w W :=
  λW Q=>⟨aB Q hg,aB Q hs,aB Q ht,aB Q ct,(X.af Q).frozen Y,Q⟩
 have HS:=Z5 hS;clear hS;have hF : ∀U a4 S,U.ownsRow w.drew.heap.size 3 1 (.slice a4 ((ai L t).map (G.mul s)).length S) ((ai L t).map (G.mul s)).length (((ai L t).map (G.mul s)).map (Value.int .i64))->Below w.drew.heap.size w.drew U ->
   ∃K,aT (U.setCell ⟨ablk a,aL a+t,none⟩ (.slice a4 (ai L t).length S)) N.heap.size a n c K (L.set t ((ai L t).map (G.mul s)))/\aD w (U.setCell ⟨ablk a,aL a+t,none⟩ (.slice a4 (ai L t).length S)) (bX a R) (bX a K):=by
  intro U a4 S Z hb4;have O : OC w U:=NX (JP _ _).drew hb4;have hO4:=X.af O;have E : w.drew.heap.size=w.heap.size:=rfl;rw [E] at Z;have V : ∀b,b<w.heap.size->eX a4 b:=λb hb=>pV Z hb;have h1:=hO4.setRow Y (bd Z hb.size) (V _ (X.lt _ (.inl ⟨X.ne (by omega),rfl⟩)).2) (λj hj _=>by
   by_cases hn : (aR R j).1=none
   ·exact .inl hn
   ·exact .inr (V _ (X.lt _ (aT.nh (by rw [X.rl];exact hj) hn)).2))
  have h2:=X.lU O Y (r:=a4) (rc:=S) (.slice a4 ((ai L t).map (G.mul s)).length S) (λha=>.inr (ba Z ha).1);rw [J5] at h1 h2;exact ⟨_,h1,h2⟩
 have HF:=Z5 hF;clear hF;go_enter func255,ntmps255;go_wp2_with fail;go_region_law ((first
  | (go_simp;go_at_call 66;((with_reducible refine (yI s _ _ _ _ (hG.af (JP _ _).drew) H (hi.af (JP _ _).drew) D z).mono ?_);rintro e U ⟨a4,S,rfl,Z,hb4⟩;obtain ⟨q0,q1,q2,q3,q4,q5⟩:=HS.out U (NX (JP _ _).drew hb4)))))
 all_goals (
  go_wp2_with fail
  go_end0
  exact ⟨rfl,HF.out _ _ _ Z hb4⟩)
end
theorem fB (w : World) (cs : Array Value) (e : TypeId) {g : Nat} (Z : g=w.heap.size) (i : Nat) : (w.alloc (.cells cs e)).frozen? ⟨g,i,none⟩=false:=by subst Z;simp
theorem dE {w w' : World} (hb : OC w w') {g i : Nat} (Z : g<w.heap.size) {v : Bool} (h : w.frozen? ⟨g,i,none⟩=v) : w'.frozen? ⟨g,i,none⟩=v:=(hb.frozen (p:=⟨g,i,none⟩) Z).trans h
theorem ed {w : World} {g i : Nat} {v : Bool} (Z : g<w.heap.size) (h : w.frozen? ⟨g,i,none⟩=v) (o : Obj) : (w.alloc o).frozen? ⟨g,i,none⟩=v:=dE ((JP _ _).alloc (JO _) o) Z h
def aO (w : World) (b : Nat) (cs : List Value) : Prop:=b<w.heap.size/\(∀i v,cs[i]? = some v->w.cell? ⟨b,i,none⟩=some v)/\∀i,w.frozen? ⟨b,i,none⟩=false
theorem aO.new (w : World) (cs : List Value) (e : TypeId) {g : Nat} (Z : g=w.heap.size) : aO (w.alloc (.cells cs.toArray e)) g cs :=
 ⟨by subst Z;simp,λi v Y=>by rw [aF _ _ _ Z i];simpa using Y,λi=>fB _ _ _ Z i⟩
theorem aO.af {w w' : World} {b : Nat} {cs : List Value} (h : aO w b cs) (hb : OC w w') : aO w' b cs :=
 ⟨Kl h.1 hb.size,λi v Z=>aB hb (h.2.1 i v Z),λi=>dE hb h.1 (h.2.2 i)⟩
theorem aO.alloc {w : World} {b : Nat} {cs : List Value} (h : aO w b cs) (o : Obj) : aO (w.alloc o) b cs:=h.af ((JP _ _).alloc (JO _) o)
theorem aO.cell {w : World} {b : Nat} {cs : List Value} (h : aO w b cs) (i : Nat) {v : Value} (Z : cs[i]? = some v) : w.cell? ⟨b,i,none⟩=some v:=h.2.1 i v Z
theorem aO.frozen {w : World} {b : Nat} {cs : List Value} (h : aO w b cs) (i : Nat) : w.frozen? ⟨b,i,none⟩=false:=h.2.2 i
theorem j8 (w : World) (o1 o2 Z : Obj) : OC w (((w.alloc o1).alloc o2).alloc Z):=(((JP _ _).alloc (JO _) _).alloc (by simp) _).alloc (by simp;omega) _
theorem bT (w : World) (o1 o2 : Obj) : OC w ((w.alloc o1).alloc o2):=((JP _ _).alloc (JO _) _).alloc (by simp) _
theorem an (w : World) (o1 : Obj) : OC w (w.alloc o1):=(JP _ _).alloc (JO _) _
theorem Ints.drawn {w w' : World} {a : OA} {n : Nat} {l : LI} (h : Ints w a n l) (hd : bm w w') : Ints w' a n l:=h.af hd.below
theorem bu.drawn {w w' : World} {a : OA} {n : Nat} {l : Ll} (h : bu w a n l) (hd : bm w w') : bu w' a n l:=h.af hd.below
theorem bm.trans {w w' w'' : World} (h : bm w w') (k : bm w' w'') : bm w w'' := by obtain ⟨m, rfl⟩ := h; obtain ⟨n, rfl⟩ := k; exact ⟨m + n, World.drewN_drewN _ _ _⟩
def iG (w : World) (z : Bool) (e : Ending) (w' : World) : Prop:=e = .returned (.bool z)/\bm w w'
def NY:=@aO.new
def N3:=@aD.bg
def N4:=@bm.refl
def N6:=@bm.below
def N9:=@aD.refl
def Oa:=@dg.drawn
def Oc:=@dg.set
def Og:=@bs.clear
def Oi:=@dg.refl
def On:=@aD.trans
def Oq:=@cX.cl
def OB:=@cX.mi
end Go.Proofs.YthglbncgemdcbaaGreat
