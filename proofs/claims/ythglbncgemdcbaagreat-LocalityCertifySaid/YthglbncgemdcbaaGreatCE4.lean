import Derived.Test.YthglbncgemdcbaaGreatCE3
import Derived.Lib.LazyBuf
namespace Go.Proofs.YthglbncgemdcbaaGreat
set_option linter.all false
set_option maxRecDepth 100000
set_option maxHeartbeats 1600000
open Go.RowKit Go.Proofs.Tryz
theorem aN {k:IntKind} {a b:Int} (h:a=b):Ending.returned (.int k a) = .returned (.int k b):=by rw [h]
theorem aX {a b:Bool} (h:a=b):Ending.returned (.bool a) = .returned (.bool b):=by rw [h]
def aK (p m:Int):Int :=
 if p<2\/256<p\/m<1\/8<m then 0 else if p ^ m.toNat<=256 then p ^ m.toNat else 0
theorem jl {p m:Int} (h:p<2\/256<p\/m<1\/8<m):aK p m=0:=by rw [aK,KX h]
theorem mV {p m:Int} (h:¬ p ^ m.toNat<=256):aK p m=0:=by simp [aK,h]
theorem l5 {p m:Int} (h:¬ (p<2\/256<p\/m<1\/8<m)) (h2:p ^ m.toNat<=256):aK p m=p ^ m.toNat:=by rw [aK,KY h,KX h2]
theorem gT (p m:Int) (w:World) :
  Calls prog 109 #[cG p,cG m] w λe w'=>e = .returned (cG (aK p m))/\w=w':=by
 by_cases X:p<2\/256<p\/m<1\/8<m
 ·have Y:=Z5 (jl X);by_cases h1:p<2
  ·go_enter func109,ntmps109;go_wp2;go_ret;exact ⟨aN Y.symm,rfl⟩
  by_cases h2:256<p
  ·go_enter func109,ntmps109;go_wp2;go_ret;exact ⟨aN Y.symm,rfl⟩
  by_cases h3:m<1
  ·go_enter func109,ntmps109;go_wp2;go_ret;exact ⟨aN Y.symm,rfl⟩
  have O:8<m:=by omega
  clear X;go_enter func109,ntmps109;go_wp2;go_ret;exact ⟨aN Y.symm,rfl⟩
 ·obtain ⟨n,rfl⟩:∃n:Nat,m=n:=⟨m.toNat,by omega⟩
  have h1:2<=p:=by omega
  have h2:p<=256:=by omega
  have h3:1<=(n:Int):=by omega
  have O:(n:Int)<=8:=by omega
  have Y:=Z5 X;clear X;go_enter func109,ntmps109;go_wp2;go_loop [5,21] (λN Q=>∃k:Nat,k<=n/\Q = cG k/\N = cG (p ^ k)/\p ^ k<=256/\1<=p ^ k) (λ_ i=>n - (intOf i).toNat);case atStart=>exact ⟨0,K0 _,rfl,by simp,by simp,by simp⟩
  case round =>
   obtain ⟨k,D,rfl,rfl,hb,V⟩:=hrel
   by_cases H:k<n
   ·have e1:p ^ (k+1)=p ^ k * p:=LY _ _
    have F:p ^ k * p<=256 * 256:=M1 hb h2 (by omega) (by omega)
    have E:1 * 1<=p ^ k * p:=M1 V (by omega) (by omega) (by omega)
    by_cases K:p ^ k * p<=256
    ·have S:=Z5 e1
     clear e1
     go_wp2
     go_round
     case rel=>exact ⟨k+1,by omega,by go_num,by rw [S.out],by rw [S.out];exact K,by rw [S.out];omega⟩
     case measure=>simp [intOf] <;> omega
    ·have Z:aK p n=0:=mV (by intro h;have:=dF (show 1<=p by omega) (show k+1<=n by omega);rw [KV] at h;omega)
     have U:=Z5 Z
     clear e1 Z
     go_wp2
     go_ret
     exact ⟨aN U.symm,rfl⟩
   ·obtain rfl:k=n:=by omega
    have U:=Z5 (l5 Y.out (by simpa using hb))
    go_wp2
    go_ret
    exact ⟨aN (by rw [U.out];simp),rfl⟩
def gh (n:Nat):Bool:=(List.range n).all λd=>d<2 || n % d != 0
theorem eI {n d:Nat} (h2:2<=d) (hd:d<n) (h:n % d=0):gh n=false:=by unfold gh;rw [MD];exact ⟨d,List.mem_range.2 hd,by simp [h];omega⟩
theorem rF {n:Nat} (h:∀d,2<=d->d<n->n % d ≠ 0):gh n=true:=by
 unfold gh;rw [LR];intro d hd;have:=List.mem_range.1 hd;by_cases h2:d<2
 ·simp [h2]
 ·simp [h d (by omega) this]
theorem xO {n D:Nat} (h:∀d,2<=d->d<D->n % d ≠ 0) (X:n<D * D):gh n=true:=by
 refine rF λd h2 hd h0=>?_;rcases LP d D with h1 | h1
 ·exact h d h2 h1 h0
 ·obtain ⟨e,he⟩:=Oh h0;have Y:2<=e:=by
   rcases LP e 2 with h3 | h3
   ·have:e=0\/e=1:=by omega
    rcases this with rfl | rfl <;> omega
   ·exact h3
  have Z:e<D:=by
   rcases LP e D with h3 | h3
   ·exact h3
   ·have:=Ng h1 h3;omega
  exact h e Y Z (by rw [he];exact Nat.mul_mod_left d e)
theorem jM (n:Nat) (w:World) (h2:2<=n) (K:n<=256) :
  Calls prog 163 #[cG n] w λe w'=>e = .returned (.bool (gh n))/\w=w':=by
 go_enter func163,ntmps163;go_wp2;go_loop [3] (λE=>∃d:Nat,2<=d/\d<=n/\E = cG d/\Hid (∀e,2<=e->e<d->n % e ≠ 0)) (λd=>n+1 - (intOf d).toNat);case atStart=>exact ⟨2,KT _,h2,rfl,λe he O=>by omega⟩
 case round =>
  obtain ⟨d,X,C,rfl,Y⟩:=hrel
  have H:(d:Int) ≠ 0:=by omega
  by_cases Z:d * d<=n
  ·have N:(d:Int) * d<=n:=by exact_mod_cast Z
   have V:d * 2<=d * d:=Mr d X
   have F:(0:Int)<=(d:Int) * d:=by exact_mod_cast K0 (d * d)
   have U:d<n:=by omega
   by_cases hm:n % d=0
   ·have Q:((n:Int) % d == 0)=true:=by simp;exact_mod_cast hm
    have S:=Z5 (eI X U hm)
    clear hm Z V
    go_wp2
    go_ret
    exact ⟨aX S.symm,rfl⟩
   ·have Q:((n:Int) % d == 0)=false:=by simp;exact_mod_cast hm
    have D:=Z5 hm
    clear hm Z V
    go_wp2
    go_round
    case rel =>
     refine ⟨d+1,by omega,by omega,by go_num,λe he O=>?_⟩
     rcases LP e d with h | h
     ·exact Y e he h
     ·rw [show e=d from by omega];exact D
    case measure=>simp [intOf] <;> omega
  ·have N:¬ (d:Int) * d<=n:=by intro h;exact Z (by exact_mod_cast h)
   have A:(d:Int) * d<=65536:=(lq (by omega) (by omega) (by omega) (by omega)).2
   have F:(0:Int)<=(d:Int) * d:=by exact_mod_cast K0 (d * d)
   have S:=Z5 (xO Y.out (by omega))
   have z:(2:Int)<=n:=by omega
   clear Z
   go_wp2
   go_ret
   exact ⟨aX (by rw [S.out]),rfl⟩
def cH (P M:Int) (mod:LI):Bool :=
 aK P M != 0 && gh P.toNat && (if M=1 then mod.length == 0 else decide ((mod.length:Int)=M) && mod.all λc=>decide (0<=c) && decide (c<P))
theorem gP {p m:Int} (h:aK p m ≠ 0):2<=p/\p<=256/\1<=m/\m<=8/\p ^ m.toNat<=256/\aK p m=p ^ m.toNat:=by
 by_cases Z:p<2\/256<p\/m<1\/8<m
 ·exact absurd (jl Z) h
 by_cases hb:p ^ m.toNat<=256
 ·exact ⟨by omega,by omega,by omega,by omega,hb,l5 Z hb⟩
 ·exact absurd (mV hb) h
theorem pa (P M:Int) (am:OA) (X cm:Nat) (mod:LI) (w:World) (Z:Ints w am X mod) :
  Calls prog 108 #[.agg #[cG P,cG M,.slice am X cm]] w λe w' =>
   e = .returned (.bool (cH P M mod))/\PY w w':=by
 have Y:PY w (w.alloc (.cells #[cG P,cG M,.slice am X cm] 24)):=(KU _ _).alloc (KT _) _;by_cases h0:aK P M=0
 ·have V:=Z5 (show cH P M mod=false by simp [cH,h0]);have N:(aK P M == 0)=true:=by simp [h0]
  clear h0;go_enter func108,ntmps108;go_wp2_with (go_at_call 109;refine (gT _ _ _).mono ?_;rintro e w' ⟨rfl,rfl⟩);go_ret;exact ⟨aX V.symm,Y⟩
 obtain ⟨b1,b2,b3,b4,-,-⟩:=gP h0;have N:(aK P M == 0)=false:=by simp [h0]
 obtain ⟨p,rfl⟩:∃p:Nat,P=p:=⟨P.toNat,by omega⟩
 by_cases h1:gh p=true;case neg =>
  have V:=Z5 (show cH p M mod=false by simp [cH,h1])
  have z:gh p=false:=by simpa using h1
  clear h0 h1
  go_enter func108,ntmps108
  go_wp2_with (first | (go_at_call 109;refine (gT _ _ _).mono ?_;rintro e w' ⟨rfl,rfl⟩) | (go_at_call 163;refine (jM _ _ (by omega) (by omega)).mono ?_;rintro e w' ⟨rfl,rfl⟩))
  go_ret
  exact ⟨aX V.symm,Y⟩
 by_cases h2:M=1
 ·subst h2;have V:=Z5 (show cH p 1 mod=((X:Int) == 0) by rw [<- Z.len,Bool.eq_iff_iff];simp [cH,h1,h0]);clear h0;go_enter func108,ntmps108;go_wp2_with (first | (go_at_call 109;refine (gT _ _ _).mono ?_;rintro e w' ⟨rfl,rfl⟩) | (go_at_call 163;refine (jM _ _ (by omega) (by omega)).mono ?_;rintro e w' ⟨rfl,rfl⟩));go_ret;exact ⟨aX V.symm,Y⟩
 by_cases h3:(X:Int)=M;case neg =>
  have V:=Z5 (show cH p M mod=false by simp [cH,h2,Z.len,h3])
  have H:(M == 1)=false:=by simpa using h2
  have r:((X:Int) != M)=true:=by simpa using h3
  clear h0 h2 h3
  go_enter func108,ntmps108
  go_wp2_with (first | (go_at_call 109;refine (gT _ _ _).mono ?_;rintro e w' ⟨rfl,rfl⟩) | (go_at_call 163;refine (jM _ _ (by omega) (by omega)).mono ?_;rintro e w' ⟨rfl,rfl⟩))
  go_ret
  exact ⟨aX V.symm,Y⟩
 subst h3;have H:((X:Int) == 1)=false:=by simpa using h2
 have F:∀b:Bool,(mod.all (λc=>decide (0<=c) && decide (c<(p:Int)))=b)->cH p X mod=b:=by intro b hb;simp [cH,h0,h1,h2,Z.len,<- hb]
 have C:=Z5 F;have hpl:=Z.pl;have hlen:=Z.len;have Q:=Z.max;unfold maxLen at Q;clear h0 h2 F;go_enter func108,ntmps108;go_wp2_with (first | (go_at_call 109;refine (gT _ _ _).mono ?_;rintro e w' ⟨rfl,rfl⟩) | (go_at_call 163;refine (jM _ _ (by omega) (by omega)).mono ?_;rintro e w' ⟨rfl,rfl⟩));have U:=Z.af Y;go_loop [33] (λA=>∃k:Nat,k<=X/\A = cG k/\Hid (∀j,j<k->0<=nth mod j/\nth mod j<p)) (λi=>X - (intOf i).toNat);case atStart=>exact ⟨0,K0 _,rfl,λj K=>by omega⟩
 case round =>
  obtain ⟨k,hk,rfl,S⟩:=hrel
  by_cases O:k<X
  ·have E:=U.cell k O
   by_cases D:0<=nth mod k/\nth mod k<p
   ·obtain ⟨g1,g2⟩:=D
    go_wp2
    go_round
    case rel =>
     refine ⟨k+1,by omega,by go_num,λj K=>?_⟩
     rcases LP j k with h | h
     ·exact S j h
     ·rw [show j=k from by omega];exact ⟨g1,g2⟩
    case measure=>simp [intOf] <;> omega
   ·have V:=Z5 (C false (by rw [MD];refine ⟨nth mod k,aG (by omega),?_⟩;simp;omega))
    rcases (show nth mod k<0\/(0<=nth mod k/\p<=nth mod k) by omega) with g | ⟨g,g'⟩
    all_goals
     clear D
     go_wp2
     go_ret
     exact ⟨aX V.symm,Y⟩
  ·obtain rfl:k=X:=by omega
   have V:=Z5 (C true (by rw [LR];intro c E;obtain ⟨j,K,rfl⟩:=List.getElem_of_mem E;have:=S j (by omega);rw [aj K] at this;simp [this]))
   go_wp2
   go_ret
   exact ⟨aX V.symm,Y⟩
theorem zD:(prog.info? 4).map (λi=>(i.zero,i.size,i.bytes))=some (some (.bool false),1,1):=by kernel_rfl
def te (S:List Bool) (l:LI):Prop:=∀i:Nat,i<S.length->(qx S i=true ↔ (i:Int) ∈ l)
theorem te.snoc {S:List Bool} {l:LI} (h:te S l) (i:Nat) (hi:i<S.length):te (S.set i true) (l ++ [(i:Int)]):=by
 intro j Z;rw [LZ] at Z;rw [xj _ _ _ _ hi];by_cases e:j=i
 ·subst e;simp
 ·rw [KY e,h j Z];simp;omega
theorem qw.af {w w':World} {P:Int} {M Z:Nat} {am:OA} {mod:LI} (h:qw w P M Z am mod) (hb:PY w w'):qw w' P M Z am mod :=
 ⟨h.p2,h.p256,h.m1,h.m8,h.pw,h.low,h.ints.af hb,h.dig⟩
def lenVal:Value->Nat | .slice _ n _=>n | _=>0
def Iw (P:Int) (M:Nat) (mod:LI) (q:Nat) (x:Int) (w:World) (e:Ending) (w':World):Prop :=
 ∃a c,e = .returned (.slice a (fb P M mod q x).length c)/\w'.ownsRow w.heap.size 3 1 (.slice a (fb P M mod q x).length c) (fb P M mod q x).length ((fb P M mod q x).map (Value.int .i64))/\PY w w'
theorem Ao (P:Int) (m:Nat) (am:OA) (mn cm:Nat) (mod:LI) (q:Nat) (x:Int) (w:World) (hd:qw w P m mn am mod)
  (hq:(q:Int)=P ^ m) (hx:0<=x) (hx2:x<q) :
  Calls prog 164 #[.agg #[cG P,cG m,.slice am mn cm],cG q,cG x] w (Iw P m mod q x w):=by
 have hq2:2<=q:=by have h1:=dF (show 1<=P by have:=hd.p2;omega) hd.m1;have h2:=hd.p2;rw [show (1:Nat)=0+1 from rfl,LY,MU,Ns] at h1;omega
 have hq256:q<=256:=by have:=hd.pw;omega
 have hPp:0<P:=by have:=hd.p2;omega
 have Hq:=Z5 hq;clear hq;go_enter func164,ntmps164;have hq2':(1:Int)<q:=by omega
 have hbox:∀w':World,Below (w.heap.size+1) (w.alloc (.cells #[cG P,cG m,.slice am mn cm] 24)) w' ->
   w'.cell? ⟨w.heap.size,0,none⟩=some (cG P)/\w'.cell? ⟨w.heap.size,1,none⟩=some (cG m)/\w'.cell? ⟨w.heap.size,2,none⟩=some (.slice am mn cm)/\PY w w':=by intro w' h;refine ⟨(h.cell (by simp)).trans (by simp),(h.cell (by simp)).trans (by simp),(h.cell (by simp)).trans (by simp),((KU _ _).alloc (KT _) _).trans (h.mono (by omega))⟩
 have Hbox:=Z5 hbox;clear hbox;go_wp2_with (at_make;refine bV rfl _ _ 90 4 rfl (.bool false) 1 underlying90 zD rfl q rfl rfl (by omega) (by unfold maxLen;omega) ?_;intro a w1 F N C hlt;obtain ⟨hb1,hm1⟩:=PX (l:=List.replicate q false) (by simpa using F);have hc1:=hb1.cell 1 (by omega);have hf1:=(hm1 (by omega)).2 1 (by omega);have hp1:=hb1.pl);generalize hW0:w.alloc (.cells #[cG P,cG m,.slice am mn cm] 24)=W0 at *;have hW0s:W0.heap.size=w.heap.size+1:=by rw [<- hW0];simp
 have HW0:=Z5 hW0;clear hW0;have D:Below (w.heap.size+1) W0 w1:=((KU _ _).alloc (by omega) _).trans (N.mono (by simp;omega));have H:=bf (xH W0 [1] 3 (B:=w.heap.size+1) (by omega) (by simp [maxLen])) N;have K:=bA F 1 (by omega) (.bool true);have Y:=ee H (p:=⟨ablk a,aJ a+1,none⟩) (.bool true) (.inr (by have:=C;simp at this;show W0.heap.size ≠ ablk a;omega));have hbel3:=D.setCell (p:=⟨ablk a,aJ a+1,none⟩) (by have:=C;simp at this;show w.heap.size+1<=ablk a;omega) (.bool true);have hageW:W0.heap.size+1<=ablk a:=by simpa using C
 clear F H N D hb1 hm1 hc1 hf1 C;generalize w1.setCell ⟨ablk a,aJ a+1,none⟩ (.bool true)=w2 at *;rw [hW0s] at Y;go_loopw [7,9] (λov yv wr=>∃(l:LI) (y:Nat) (S:List Bool) (ao:OA) (c n:Nat),ov = .slice ao l.length c/\yv = cG y/\y<q /\
   wr.ownsRow (w.heap.size+1) 3 1 (.slice ao l.length c) l.length (l.map (Value.int .i64))/\wr.ownsRow (w.heap.size+1) 4 1 (.slice a q q) q (S.map Value.bool)/\eY ao (ablk a) /\
   Hid (te S l)/\l.length+cntF S=q/\cntF S<=n/\Hid (fb P m mod q x=powTo (λy=>dq P m mod y x) n l y)/\Below (w.heap.size+1) W0 wr)
  (λov _ _=>q - lenVal ov)
 case atStart =>
  obtain ⟨xn,rfl⟩:∃xn:Nat,x=xn:=⟨x.toNat,by omega⟩
  have hc:=rM (List.replicate q false) 1 (by rw [Ls,KX (by omega)])
  rw [rV] at hc
  refine ⟨[1],xn,(List.replicate q false).set 1 true,_,1,q,rfl,rfl,by omega,Y,?_,.inr (by simp;omega),?_,?_,?_,rfl,hbel3⟩
  ·have:=aY K (B':=w.heap.size+1) (by simp;omega)
   simpa [Lq] using this
  ·intro j hj
   rw [xj _ _ _ _ (by simp;omega)]
   simp only [LZ,Ov] at hj
   by_cases e:j=1
   ·subst e;simp
   ·rw [KY e];simp [qx,hj];omega
  ·simp;omega
  ·omega
 case round =>
  obtain ⟨l,y,S,ao,c,n,rfl,rfl,hy,V,U,E,hsn,hcnt,hn,O,hbr⟩:=hrel
  obtain ⟨hbS,hmS⟩:=PX U
  have hlS:S.length=q:=hbS.len
  obtain ⟨q0,q1,q2,hbw⟩:=Hbox wr hbr
  have hpS:=hbS.pl
  have hcy:=hbS.cell y hy
  have hyq:(y:Int)<q:=by omega
  by_cases hy0:y=0
  ·have Z:fb P m mod q x=l:=by rw [O.out];exact jj _ _ _ _ (.inl (by omega))
   have hyz:((y:Int) != 0)=false:=by simp;omega
   have X:=Z5 Z
   clear Z hy0
   go_wp2_with fail
   go_ret
   refine ⟨ao,c,by rw [X.out];rfl,by rw [X.out];exact aY V (by omega),hbw⟩
  have hyz:((y:Int) != 0)=true:=by simp;omega
  have Q:=hsn y (by omega)
  by_cases A:qx S y=true
  ·have Z:fb P m mod q x=l:=by rw [O.out];exact jj _ _ _ _ (.inr (Q.1 A))
   have X:=Z5 Z
   clear Z Q hy0
   go_wp2_with fail
   go_ret
   refine ⟨ao,c,by rw [X.out];rfl,by rw [X.out];exact aY V (by omega),hbw⟩
  have hyF:qx S y=false:=by simpa using A
  have hSy:S[y]? = some false:=by rw [LC (by omega),<- nH (by omega),hyF]
  have hcs:=rM S y hSy
  obtain ⟨n',rfl⟩:∃n',n=n'+1:=⟨n - 1,by omega⟩
  have hgo:fb P m mod q x=powTo (λy=>dq P m mod y x) n' (l ++ [(y:Int)]) (dq P m mod y x):=by rw [O.out];exact rZ _ _ _ _ (λh=>h.elim (λh=>by omega) (λh=>A (Q.2 h)))
  have Hgo:=Z5 hgo
  have hsn2:Hid (te (S.set y true) (l ++ [(y:Int)])):=hsn.snoc y (by omega)
  have hfy:=(hmS (by omega)).2 y hy
  clear hgo Q hy0 A hSy hsn O
  have hO2:=ee V (p:=⟨ablk a,aJ a+y,none⟩) (.bool true) E
  have r:=bA U y hy (.bool true)
  rw [<- Lq] at r
  have hB2:=hbr.setCell (p:=⟨ablk a,aJ a+y,none⟩) (show w.heap.size+1<=ablk a by omega) (.bool true)
  have hzs:(wr.setCell ⟨ablk a,aJ a+y,none⟩ (.bool true)).heap.size=wr.heap.size:=by simp
  have hcn:((wr.setCell ⟨ablk a,aJ a+y,none⟩ (.bool true)).alloc (.cells #[cG y] 3)).cell? ⟨wr.heap.size,0,none⟩=some (cG y):=by have h:=Oo (wr.setCell ⟨ablk a,aJ a+y,none⟩ (.bool true)) #[cG y] 3 0;rw [hzs] at h;exact h
  have hWr:W0.heap.size<=wr.heap.size:=hbr.size
  have hl256:l.length<=256:=by omega
  have hBs:w.heap.size+1<=((wr.setCell ⟨ablk a,aJ a+y,none⟩ (.bool true)).alloc (.cells #[cG y] 3)).heap.size:=by rw [MZ,hzs];omega
  go_wp2_with (at_builtin;refine aS rfl _ _ 22 3 rfl (cG 0) 8 underlying22 bh rfl (w.heap.size+1) ao l.length c _ rfl (hO2.alloc _) ⟨wr.heap.size,0,none⟩ 1 (cG y) rfl hcn rfl (by omega) (by unfold maxLen;omega) hBs ?_;intro a3 c3 w3 Y hgr hap3;have z:=Pp (hB2.alloc (by rw [hzs];omega) _) (hO2.alloc _) hgr (KT _) hBs;obtain ⟨r0,r1,r2,hbw3⟩:=Hbox w3 z)
  have hmb:=vL hPp m mod y x
  rw [<- Hq.out] at hmb
  refine (oF P m am mn cm mod y x w3 (hd.af hbw3) (by omega) (by omega) hx (by omega)).mono ?_
  rintro e w4 ⟨rfl,hb4⟩
  have hS3:=iR (r.alloc _) hgr E
  have hap4:=hap3 (ablk a) (by have h:=(dR r (by omega)).2;rw [MZ];omega) E
  have hown4:=bf Y hb4
  have hS4:=bf hS3 hb4
  have hB4:Below (w.heap.size+1) W0 w4:=z.trans (hb4.mono (by have:=z.size;omega))
  obtain ⟨y2,hy2⟩:∃y2:Nat,dq P m mod y x=y2:=⟨(dq P m mod y x).toNat,by omega⟩
  rw [hy2] at hmb
  clear Y hS3 z hb4 hgr hO2 r hB2 V U K hcn r0 r1 r2 hap3
  go_wp2_with fail
  go_roundw
  case rel =>
   refine ⟨l ++ [(y:Int)],y2,S.set y true,a3,c3,n',by simp,rfl,by omega,by simpa using hown4,hS4,hap4,hsn2,by simp;omega,by omega,?_,hB4⟩
   have:=Hgo.out
   rw [hy2] at this
   exact this
  case measure=>simp [lenVal] <;> omega
def qM (P:Int) (M:Nat) (mod:LI) (q:Nat) (w:World) (e:Ending) (w':World):Prop :=
 ∃a c,e = .returned (.slice a (fW P M mod q).length c)/\w'.ownsRow w.heap.size 3 1 (.slice a (fW P M mod q).length c) (fW P M mod q).length ((fW P M mod q).map (Value.int .i64)) /\
  (fW P M mod q=[]->a=none/\c=0)/\PY w w'
theorem C5 {P:Int} {M:Nat} {mod:LI} {q:Nat} {x:Int} (h:(fb P M mod q x).length ≠ q - 1):fX P M mod q x=false:=by simp [fX,h]
theorem mH (P:Int) (m:Nat) (am:OA) (Q cm:Nat) (mod:LI) (q:Nat) (w:World) (hd:qw w P m Q am mod)
  (hq:(q:Int)=P ^ m) :
  Calls prog 110 #[.agg #[cG P,cG m,.slice am Q cm],cG q] w (qM P m mod q w):=by
 have hq2:2<=q:=by have h1:=dF (show 1<=P by have:=hd.p2;omega) hd.m1;have h2:=hd.p2;rw [show (1:Nat)=0+1 from rfl,LY,MU,Ns] at h1;omega
 have hq256:q<=256:=by have:=hd.pw;omega
 have hPp:0<P:=by have:=hd.p2;omega
 have Hq:=Z5 hq;clear hq;have F:∀w':World,Below (w.heap.size+1) (w.alloc (.cells #[cG P,cG m,.slice am Q cm] 24)) w' ->
   w'.cell? ⟨w.heap.size,0,none⟩=some (cG P)/\w'.cell? ⟨w.heap.size,1,none⟩=some (cG m)/\w'.cell? ⟨w.heap.size,2,none⟩=some (.slice am Q cm)/\PY w w':=by intro w' h;refine ⟨(h.cell (by simp)).trans (by simp),(h.cell (by simp)).trans (by simp),(h.cell (by simp)).trans (by simp),((KU _ _).alloc (KT _) _).trans (h.mono (by omega))⟩
 have V:=Z5 F;clear F;have hq2':(1:Int)<q:=by omega
 go_enter func110,ntmps110;go_wp2;generalize hW0:w.alloc (.cells #[cG P,cG m,.slice am Q cm] 24)=W0 at *;have hW0s:W0.heap.size=w.heap.size+1:=by rw [<- hW0];simp
 clear hW0;go_loopw [5] (λxv wr=>∃x:Nat,1<=x/\x<=q/\xv = cG x/\Hid (fW P m mod q=genTo P m mod q (q - x) x)/\Below (w.heap.size+1) W0 wr) (λxv _=>q - (intOf xv).toNat);case atStart=>exact ⟨1,KT _,by omega,rfl,rfl,KU _ _⟩
 case round =>
  obtain ⟨x,hx1,hxq,rfl,Z,O⟩:=hrel
  obtain ⟨q0,q1,q2,j⟩:=V wr O
  by_cases hlt:x<q
  ·have C:(x:Int)<q:=by omega
   go_wp2_with fail
   refine (Ao P m am Q cm mod q x wr (hd.af j) Hq.out (by omega) C).mono ?_
   rintro e A ⟨a1,c1,rfl,U,hb1⟩
   obtain ⟨hi1,hm1⟩:=Pn U
   have N:Below (w.heap.size+1) W0 A:=O.trans (hb1.mono (by have:=O.size;omega))
   obtain ⟨r0,r1,r2,hbw1⟩:=V A N
   have hgs:genTo P m mod q (q - x) x=if fX P m mod q x then fb P m mod q x else genTo P m mod q (q - (x+1)) (x+1):=by rw [show q - x=(q - (x+1))+1 from by omega,genTo]
   rw [hgs] at Z
   by_cases hlen:(fb P m mod q x).length=q - 1
   ·have hl1:((fb P m mod q x).length:Int)=(q:Int) - 1:=by omega
    have hle:(((fb P m mod q x).length:Int) == (q:Int) - 1)=true:=by rw [hl1];simp
    have hcl:=hi1.cell (q - 2) (by omega)
    have hpb:=hi1.pl
    have hib0:(0:Int)<=(q:Int) - 2:=by omega
    have hib2:(2:Int)<=(q:Int):=by omega
    have hib1:(q:Int) - 2<((fb P m mod q x).length:Int):=by omega
    have hlb:=qf hPp m mod q x Hq.out hq2 (by omega) C (q - 2)
    have r:qw A.drew P m Q am mod:=hd.af hbw1.drew
    have D:IntKind.i64.wrap ((q:Int) - 1)=(q:Int) - 1:=La _ (by omega)
    have hw2:IntKind.i64.wrap ((q:Int) - 2)=(q:Int) - 2:=La _ (by omega)
    have hw3:((q:Int) - 2).toNat=q - 2:=by omega
    have HLn:=Z5 hlen
    clear hl1 hlen
    go_wp2_with fail
    go_region_held3 (λw'=>w'.cell? ⟨w.heap.size,0,none⟩=some (cG P)/\w'.cell? ⟨w.heap.size,1,none⟩=some (cG m)/\w'.cell? ⟨w.heap.size,2,none⟩=some (.slice am Q cm)/\w'.cell? ⟨ablk a1,aJ a1+(q - 2),none⟩=some (cG (nth (fb P m mod q x) (q - 2)))/\PY A w')
     (first | exact ⟨r0,r1,r2,hcl,(KU _ _).drew⟩ | (go_split_ands;exact ⟨aB (by assumption) (by assumption),aB (by assumption) (by assumption),aB (by assumption) (by assumption),aB (by assumption) (by assumption),Pm (by assumption) (by assumption)⟩))
     (first | (go_at_call 165;((with_reducible refine (oF P m am Q cm mod (nth (fb P m mod q x) (q - 2)) x _ r (by omega) (by omega) (by omega) (by omega)).mono ?_);rintro e E ⟨rfl,hb4⟩)))
    obtain ⟨_,_,_,hcl4,H⟩:E.cell? ⟨w.heap.size,0,none⟩=some (cG P)/\E.cell? ⟨w.heap.size,1,none⟩=some (cG m)/\E.cell? ⟨w.heap.size,2,none⟩=some (.slice am Q cm)/\E.cell? ⟨ablk a1,aJ a1+(q - 2),none⟩=some (cG (nth (fb P m mod q x) (q - 2)))/\PY A E:=by assumption
    have hB4:Below (w.heap.size+1) W0 E:=N.trans (H.mono (by have:=N.size;omega))
    clear D hw2 hw3 r
    by_cases Y:dq P m mod (nth (fb P m mod q x) (q - 2)) x=1
    ·have X:fX P m mod q x=true:=by simp [fX,Y,HLn.out]
     rw [X] at Z
     have K:fW P m mod q=fb P m mod q x:=Z.out
     have S:=Z5 K
     have h1b:(dq P m mod (nth (fb P m mod q x) (q - 2)) x == 1)=true:=by rw [Y];rfl
     clear K X Y Z
     go_wp2_with fail
     go_ret
     refine ⟨a1,c1,by rw [S.out];rfl,by rw [S.out];exact aY (bf U H) (by have:=O.size;omega),?_,(V E hB4).2.2.2⟩
     rw [S.out]
     intro h
     have h2:=HLn.out
     rw [h] at h2
     simp at h2
     omega
    ·have X:fX P m mod q x=false:=by simp [fX,Y]
     rw [X] at Z
     have h1b:(dq P m mod (nth (fb P m mod q x) (q - 2)) x == 1)=false:=by simpa using Y
     clear X Y hcl4
     go_wp2_with fail
     go_roundw
     case rel=>exact ⟨x+1,by omega,by omega,by go_num,Z,hB4⟩
     case measure=>simp [intOf] <;> omega
   ·rw [C5 hlen] at Z
    have hle:(((fb P m mod q x).length:Int) == (q:Int) - 1)=false:=by rw [beq_eq_false_iff_ne];omega
    have D:IntKind.i64.wrap ((q:Int) - 1)=(q:Int) - 1:=La _ (by omega)
    clear hlen
    go_wp2_with fail
    go_quiet (fail)
    clear D
    go_wp2_with fail
    go_roundw
    case rel=>exact ⟨x+1,by omega,by omega,by go_num,Z,below_drewN N _⟩
    case measure=>simp [intOf] <;> omega
  ·obtain rfl:x=q:=by omega
   have hg0:fW P m mod x=[]:=by rw [Z.out,NT];rfl
   have z:=Z5 hg0
   clear hg0
   go_wp2_with fail
   go_ret
   refine ⟨none,0,by rw [z.out];rfl,by rw [z.out];exact cU,λ_=>⟨rfl,rfl⟩,j⟩
theorem zX {w:World} {B:Nat} {e:TypeId} {a:OA} {c n:Nat} {xs:List Value} (h:w.ownsRow B e 1 (.slice a n c) n xs) (X:0<n):a.isNone=false:=by
 obtain ⟨_,_,Z,Y⟩:=PG h;cases Z
 rw [Y X];rfl
theorem qM.isNone {a:OA} {l:LI} {c:Nat} {w:World} {B:Nat} {e:TypeId} (h:w.ownsRow B e 1 (.slice a l.length c) l.length (l.map (Value.int .i64))) (h0:l=[]->a=none/\c=0):a.isNone=l.isEmpty:=by
 cases l with
 | nil=>rw [(h0 rfl).1];rfl
 | cons x l=>exact zX h (by simp)
def bs (P M:Int) (mod:LI):Bool:=cH P M mod && !(fW P M.toNat mod (aK P M).toNat).isEmpty
def df (b:Bool):Int:=if b then 0 else 1
theorem ql {w:World} {P M:Int} {am:OA} {V:Nat} {mod:LI} (hm:Ints w am V mod) (h:cH P M mod=true) :
  ∃m:Nat,M=m/\qw w P m V am mod/\aK P M=P ^ m/\((aK P M).toNat:Int)=P ^ m:=by
 simp only [cH,Lm,bne_iff_ne,ne_eq] at h;obtain ⟨⟨h0,h1⟩,h2⟩:=h;obtain ⟨U,Q,N,O,S,Y⟩:=gP h0;refine ⟨M.toNat,by omega,⟨U,Q,by omega,by omega,S,?_,hm,?_⟩,Y,?_⟩
 ·intro h3;rw [KY (by omega)] at h2;simp only [Lm,LM] at h2;have:=hm.len;omega
 ·refine PO (by omega) λx Z=>?_;by_cases X:M=1
  ·rw [KX X] at h2;have h3:mod.length=0:=by simpa using h2
   rw [Lw h3] at Z;cases Z
  ·rw [KY X] at h2;simp only [Lm,LM,LR] at h2;exact h2.2 x Z
 ·rw [Y];have:=dF (show 1<=P by omega) (K0 M.toNat);rw [MU] at this;omega
theorem tb (P M:Int) (am:OA) (Y cm:Nat) (mod:LI) (w:World) (Q:Ints w am Y mod) :
  Calls prog 142 #[.agg #[cG P,cG M,.slice am Y cm]] w λe w' =>
   e = .returned (cG (df (bs P M mod)))/\PY w w':=by
 have O:∀w':World,Below (w.heap.size+1) (w.alloc (.cells #[cG P,cG M,.slice am Y cm] 24)) w' ->
   w'.cell? ⟨w.heap.size,0,none⟩=some (cG P)/\w'.cell? ⟨w.heap.size,1,none⟩=some (cG M)/\w'.cell? ⟨w.heap.size,2,none⟩=some (.slice am Y cm)/\PY w w':=by intro w' h;refine ⟨(h.cell (by simp)).trans (by simp),(h.cell (by simp)).trans (by simp),(h.cell (by simp)).trans (by simp),((KU _ _).alloc (KT _) _).trans (h.mono (by omega))⟩
 have A:=Z5 O;clear O;go_enter func142,ntmps142;go_wp2;generalize z:w.alloc (.cells #[cG P,cG M,.slice am Y cm] 24)=W0 at *;have hW0s:W0.heap.size=w.heap.size+1:=by rw [<- z];simp
 obtain ⟨r,q1,q2,X⟩:=A W0 (KU _ _);clear z;by_cases D:cH P M mod=true
 ·obtain ⟨m,rfl,hd,ho,j⟩:=ql Q D;have E:aK P m=((aK P m).toNat:Int):=by rw [j,ho]
  have U:df (bs P m mod)=if (fW P m mod (aK P m).toNat).isEmpty then 1 else 0:=by simp [bs,D,df]
  have C:=Z5 U;have Hoq:=Z5 E;have F:qw W0 P m Y am mod:=hd.af X;have heq:=λ(w:World) (a:OA) (l c:Nat)=>Go.run_eql_slice_nil (P:=prog) w 22 3 a l c underlying22;generalize (aK P m).toNat=q at *;have Hq:=Z5 j;clear U E ho j;go_region_held3 (λw'=>w'.cell? ⟨w.heap.size,0,none⟩=some (cG P)/\w'.cell? ⟨w.heap.size,1,none⟩=some (cG m)/\w'.cell? ⟨w.heap.size,2,none⟩=some (.slice am Y cm)/\qw w' P m Y am mod/\PY W0 w')
   (first | exact ⟨r,q1,q2,F.af (KU _ _).drew,(KU _ _).drew⟩ | assumption | (go_split_ands;exact ⟨aB (by assumption) (by assumption),aB (by assumption) (by assumption),aB (by assumption) (by assumption),qw.af (by assumption) (by assumption),Pm (by assumption) (by assumption)⟩))
   (first | (go_at_call 108; ((with_reducible refine (pa P m am Y cm mod _ (F.ints.af (KU _ _).drew)).mono ?_); rw [D]; rintro e V ⟨rfl, hb4⟩))
          | (go_at_call 109;((with_reducible refine (gT _ _ _).mono ?_);rw [Hoq.out];rintro e V ⟨rfl,rfl⟩))
          | (go_at_call 110;go_split_ands;((with_reducible refine (mH P m am Y cm mod q _ (by assumption) Hq.out).mono ?_);rintro e V ⟨a4,c4,rfl,H,N,hb4⟩;have hin4:=qM.isNone H N)))
  obtain ⟨_,_,_,_,hbl⟩:V.cell? ⟨w.heap.size,0,none⟩=some (cG P)/\V.cell? ⟨w.heap.size,1,none⟩=some (cG m)/\V.cell? ⟨w.heap.size,2,none⟩=some (.slice am Y cm)/\qw V P m Y am mod/\PY W0 V:=by assumption
  cases hge:(fW P m mod q).isEmpty
  all_goals
   go_wp2_with fail
   go_ret
   exact ⟨aN (by rw [C.out,hge];rfl),Pm X hbl⟩
 ·have hs':cH P M mod=false:=by simpa using D
  have Hf:=Z5 (show df (bs P M mod)=1 by simp [bs,hs',df]);clear D;refine wp_region_held_drew (S:=(λw'=>w'.cell? ⟨w.heap.size,0,none⟩=some (cG P)/\w'.cell? ⟨w.heap.size,1,none⟩=some (cG M)/\w'.cell? ⟨w.heap.size,2,none⟩=some (.slice am Y cm)/\PY W0 w')) (by kernel_rfl) ?_ (λhHeld=>?_)
  ·exact ⟨r,q1,q2,(KU _ _).drew⟩
  refine wpAnyH_take (i:=0) (v:=?_) (by simp only [Ld,K7,K8];rfl) (by kernel_rfl) (by kernel_rfl) (by kernel_rfl) (by exact λ_ _ _ h=>h) (LX ⟨by rfl,?_⟩) (by assumption) ?_;rotate_left
  ·(intro w Z;(try dsimp only at Z);go_simp;first | done | with_reducible rfl)
  try simp only [Act.put,KW,K1,K2]
  refine wpAnyH_ready (rs:=[1]) (by kernel_rfl) (by simp) ?_;refine AllReadyH.cons rfl (λK hK=>?_) AllReadyH.nil;go_simp;refine (pa P M am Y cm mod _ (Q.af X.drew)).mono ?_;rintro e V ⟨rfl,hb4⟩;go_wp2_with fail;refine hK _ _ ?_ (λhHeld=>?_)
  ·exact ⟨aB hb4 r,aB hb4 q1,aB hb4 q2,Pm (KU _ _).drew hb4⟩
  clear hK K;try simp only [Act.put,KW,K1,K2]
  refine wpAnyH_take (i:=2) (v:=?_) (by simp only [Ld,K7,K8];rfl) (by kernel_rfl) (by kernel_rfl) (by kernel_rfl) (by exact λ_ _ _ h=>h) (LX ⟨by rfl,?_⟩) (by assumption) ?_;rotate_left
  ·(intro w Z;(try dsimp only at Z);go_simp;first | done | with_reducible rfl)
  try simp only [Act.put,KW,K1,K2]
  refine wpAnyH_take (i:=3) (v:=?_) (by simp only [Ld,K7,K8];rfl) (by kernel_rfl) (by kernel_rfl) (by kernel_rfl) (by exact λ_ _ _ h=>h) (LX ⟨by rfl,?_⟩) (by assumption) ?_;rotate_left
  ·(intro w Z;(try dsimp only at Z);go_simp;first | done | with_reducible rfl)
  try simp only [Act.put,KW,K1,K2]
  refine wpAnyH_take (i:=4) (v:=undef) (by simp only [Ld,K7,K8];rfl) (by kernel_rfl) (by kernel_rfl) (by kernel_rfl) (by exact λ_ _ _ h=>h) (M6 ⟨by rfl,rfl⟩) (by assumption) ?_;try simp only [Act.put,KW,K1,K2]
  refine wpAnyH_take (i:=5) (v:=undef) (by simp only [Ld,K7,K8];rfl) (by kernel_rfl) (by kernel_rfl) (by kernel_rfl) (by exact λ_ _ _ h=>h) (M6 ⟨by rfl,rfl⟩) (by assumption) ?_;try simp only [Act.put,KW,K1,K2]
  refine wpAnyH_take (i:=6) (v:=undef) (by simp only [Ld,K7,K8];rfl) (by kernel_rfl) (by kernel_rfl) (by kernel_rfl) (by exact λ_ _ _ h=>h) (M6 ⟨by rfl,rfl⟩) (by assumption) ?_;try simp only [Act.put,KW,K1,K2]
  refine wpAnyH_take (i:=7) (v:=undef) (by simp only [Ld,K7,K8];rfl) (by kernel_rfl) (by kernel_rfl) (by kernel_rfl) (by exact λ_ _ _ h=>h) (M6 ⟨by rfl,rfl⟩) (by assumption) ?_;try simp only [Act.put,KW,K1,K2]
  refine wpAnyH_take (i:=8) (v:=undef) (by simp only [Ld,K7,K8];rfl) (by kernel_rfl) (by kernel_rfl) (by kernel_rfl) (by exact λ_ _ _ h=>h) (M6 ⟨by rfl,rfl⟩) (by assumption) ?_;try simp only [Act.put,KW,K1,K2]
  refine wpAnyH_take (i:=9) (v:=undef) (by simp only [Ld,K7,K8];rfl) (by kernel_rfl) (by kernel_rfl) (by kernel_rfl) (by exact λ_ _ _ h=>h) (M6 ⟨by rfl,rfl⟩) (by assumption) ?_;try simp only [Act.put,KW,K1,K2]
  refine wpAnyH_take (i:=10) (v:=undef) (by simp only [Ld,K7,K8];rfl) (by kernel_rfl) (by kernel_rfl) (by kernel_rfl) (by exact λ_ _ _ h=>h) (M6 ⟨by rfl,rfl⟩) (by assumption) ?_;try simp only [Act.put,KW,K1,K2]
  refine wpAnyH_take (i:=11) (v:=undef) (by simp only [Ld,K7,K8];rfl) (by kernel_rfl) (by kernel_rfl) (by kernel_rfl) (by exact λ_ _ _ h=>h) (M6 ⟨by rfl,rfl⟩) (by assumption) ?_;try simp only [Act.put,KW,K1,K2]
  refine wpAnyH_take (i:=12) (v:=?_) (by simp only [Ld,K7,K8];rfl) (by kernel_rfl) (by kernel_rfl) (by kernel_rfl) (by exact λ_ _ _ h=>h) (LX ⟨by rfl,?_⟩) (by assumption) ?_;rotate_left
  ·(intro w Z;(try dsimp only at Z);go_simp;first | done | with_reducible rfl)
  try simp only [Act.put,KW,K1,K2]
  refine wpAnyH_done (by kernel_rfl) ?_ _;go_wp2_with fail;go_ret;exact ⟨aN Hf.symm,Pm X hHeld.2.2.2⟩
section
structure xg (w:World) (b:Nat) (P:Int) (M q:Nat) (ex lg:LI):Prop where
 p2:2<=P
 m1:1<=M
 m8:M<=8
 pw:(q:Int)=P ^ M
 p256:P<=256
 q2:2<=q
 q256:q<=256
 cp:w.cell? ⟨b,0,none⟩=some (cG P)
 cq:w.cell? ⟨b,3,none⟩=some (cG q)
 ce:∃a c,w.cell? ⟨b,4,none⟩=some (.slice a (q - 1) c)/\Ints w a (q - 1) ex
 cl:∃a c,w.cell? ⟨b,5,none⟩=some (.slice a q c)/\Ints w a q lg
 eb:∀i,i<q - 1->0<=nth ex i/\nth ex i<q
 lb:∀i,i<q->0<=nth lg i/\nth lg i<q - 1
theorem xg.af {w w':World} {b:Nat} {P:Int} {M q:Nat} {ex lg:LI} (h:xg w b P M q ex lg) (hb:PY w w'):xg w' b P M q ex lg:=by obtain ⟨a,c,h1,h2⟩:=h.ce;obtain ⟨a',Z,h3,Y⟩:=h.cl;exact ⟨h.p2,h.m1,h.m8,h.pw,h.p256,h.q2,h.q256,aB hb h.cp,aB hb h.cq,⟨a,c,aB hb h1,h2.af hb⟩,⟨a',Z,aB hb h3,Y.af hb⟩,h.eb,h.lb⟩
def rN (q:Nat) (ex lg:LI) (x y:Int):Int :=
 if x=0\/y=0 then 0 else nth ex ((nth lg x.toNat+nth lg y.toNat) % ((q:Int) - 1)).toNat
def yQ (q:Nat) (ex lg:LI) (x:Int):Int:=nth ex (((q:Int) - 1 - nth lg x.toNat) % ((q:Int) - 1)).toNat
variable {w:World} {b:Nat} {P:Int} {M q:Nat} {ex lg:LI}
theorem xQ (x:Int) (h:xg w b P M q ex lg) :
  Calls prog 55 #[.pointer (some ⟨b,0,none⟩),cG x] w λe w'=>e = .returned (.bool (decide (0<=x) && decide (x<q)))/\w=w':=by
 have Y:=h.cq;by_cases h0:0<=x
 ·have Z:decide (0<=x)=true:=by simpa using h0
  go_enter func55,ntmps55;go_wp2;go_ret;exact ⟨by simp [h0],rfl⟩
 ·have Z:decide (0<=x)=false:=by simpa using h0
  go_enter func55,ntmps55;go_wp2;go_ret;exact ⟨by simp [h0],rfl⟩
theorem eB (x:Int) (h:xg w b P M q ex lg) (h0:0<=x) (h1:x<q) :
  Calls prog 112 #[.pointer (some ⟨b,0,none⟩),cG x] w λe w'=>e = .returned (cG x)/\w=w':=by
 have Y:decide (0<=x)=true:=by simpa using h0
 have Z:decide (x<q)=true:=by simpa using h1
 go_enter func112,ntmps112;go_wp2_with (go_at_call 55;refine (xQ x h).mono ?_;rintro e w' ⟨rfl,rfl⟩);go_ret;exact ⟨rfl,rfl⟩
theorem DB (x y:Int) (h:xg w b P M q ex lg) (Q:0<=x) (X:x<q) (V:0<=y) (U:y<q) :
  Calls prog 57 #[.pointer (some ⟨b,0,none⟩),cG x,cG y] w λe w'=>∃n,e = .returned (cG (rN q ex lg x y))/\w'=w.drewN n:=by
 obtain ⟨ae,ce,j,K⟩:=h.ce;obtain ⟨al,cl,hcl,S⟩:=h.cl;have hcq:=h.cq;by_cases O:x=0
 ·have E:(x == 0)=true:=by simpa using O
  have H:=Z5 (show rN q ex lg x y=0 by simp [rN,O]);clear O;go_enter func57,ntmps57;go_wp2_with (first | (go_at_call 112;(with_reducible refine (eB x h Q X).mono ?_);rintro e w' ⟨rfl,rfl⟩) | (go_at_call 112;(with_reducible refine (eB y h V U).mono ?_);rintro e w' ⟨rfl,rfl⟩));go_ret;exact ⟨0,aN H.symm,rfl⟩
 have E:(x == 0)=false:=by simpa using O
 by_cases N:y=0
 ·have A:(y == 0)=true:=by simpa using N
  have H:=Z5 (show rN q ex lg x y=0 by simp [rN,N]);clear O N;go_enter func57,ntmps57;go_wp2_with (first | (go_at_call 112;(with_reducible refine (eB x h Q X).mono ?_);rintro e w' ⟨rfl,rfl⟩) | (go_at_call 112;(with_reducible refine (eB y h V U).mono ?_);rintro e w' ⟨rfl,rfl⟩));go_ret;exact ⟨0,aN H.symm,rfl⟩
 have A:(y == 0)=false:=by simpa using N
 obtain ⟨Z,rfl⟩:∃n:Nat,x=n:=⟨x.toNat,by omega⟩
 obtain ⟨Y,rfl⟩:∃n:Nat,y=n:=⟨y.toNat,by omega⟩
 have lx:=h.lb Z (by omega);have ly:=h.lb Y (by omega);have cx:=S.cell Z (by omega);have cy:=S.cell Y (by omega);have hpe:=K.pl;have hpl:=S.pl;have hq2:=h.q2;have D:=h.q256;have F:=LO (nth lg Z+nth lg Y) (show (q:Int) - 1 ≠ 0 by omega);have C:=LG (nth lg Z+nth lg Y) (show 0<(q:Int) - 1 by omega);obtain ⟨k,z⟩:∃k:Nat,(nth lg Z+nth lg Y) % ((q:Int) - 1)=k:=⟨((nth lg Z+nth lg Y) % ((q:Int) - 1)).toNat,by omega⟩
 have r:rN q ex lg Z Y=nth ex k:=by unfold rN;rw [KY (by omega)];simp only [KV,z]
 have ck:=K.cell k (by omega);have r1:IntKind.i64.wrap (nth lg Z+nth lg Y)=nth lg Z+nth lg Y:=La _ (by omega);have r2:IntKind.i64.wrap ((q:Int) - 1)=(q:Int) - 1:=La _ (by omega);have r3:(nth lg Z+nth lg Y).tmod ((q:Int) - 1)=k:=by rw [L9 _ _ (by omega),z]
 have r4:¬ (q:Int) - 1=0:=by omega
 have r5:(k:Int)<((q - 1:Nat):Int):=by omega
 have r6:(Z:Int)<q:=by omega
 have r7:(Y:Int)<q:=by omega
 have H:=Z5 r;clear O N r z F C;go_enter func57,ntmps57;go_wp2_with (first | (go_at_call 112;(with_reducible refine (eB Z h Q X).mono ?_);rintro e w' ⟨rfl,rfl⟩) | (go_at_call 112;(with_reducible refine (eB Y h V U).mono ?_);rintro e w' ⟨rfl,rfl⟩));go_quiet (fail);go_wp2;go_ret;exact ⟨_,aN H.symm,rfl⟩
end
section
theorem mZ (a b:Nat) (ha:a<256) (hb:b<256):bits .xor .i64 (a:Int) (b:Int)=((a ^^^ b:Nat):Int):=by
 have Z:a ^^^ b<2 ^ 8:=Nat.xor_lt_two_pow (by omega) (by omega);have h1:(BitVec.ofInt 64 (a:Int)).toNat=a:=by rw [OJ,OQ];exact NH (by omega)
 have h2:(BitVec.ofInt 64 (b:Int)).toNat=b:=by rw [OJ,OQ];exact NH (by omega)
 show IntKind.i64.wrap ((BitVec.ofInt 64 (a:Int) ^^^ BitVec.ofInt 64 (b:Int)).toNat:Int)=_;rw [BitVec.toNat_xor,h1,h2];exact La _ (by omega)
variable {w:World} {b:Nat} {P:Int} {M q:Nat} {ex lg:LI}
def jo (w:World) (z:Int) (e:Ending) (w':World):Prop:=∃n,e = .returned (cG z)/\w'=w.drewN n
theorem nA {w wr:World} {n:Nat} (h:wr=w.drewN n) (m:Nat):∃k,wr.drewN m=w.drewN k:=⟨n+m,by rw [h,World.drewN_drewN]⟩
theorem step_eq (P s t D r:Int) (k:Nat):s+P ^ k * (t+P * r)=s+t * P ^ k+P ^ (k+1) * r:=by rw [LY,Mx,Mp (P ^ k) t,Mg,Int.add_assoc]
theorem uA (x y:Int) (h:xg w b P M q ex lg) (O:0<=x) (K:x<q) (Q:0<=y) (C:y<q) :
  Calls prog 56 #[.pointer (some ⟨b,0,none⟩),cG x,cG y] w (jo w (fsum P M x y)):=by
 have hcp:=h.cp;have hp2:=h.p2;have hp256:=h.p256;have hq256:=h.q256;by_cases hP:P=2
 ·obtain ⟨xn,rfl⟩:∃n:Nat,x=n:=⟨x.toNat,by omega⟩
  obtain ⟨yn,rfl⟩:∃n:Nat,y=n:=⟨y.toNat,by omega⟩
  subst hP;have r:=h.pw;have hq2:q=2 ^ M:=by exact_mod_cast r
  have hxor:bits .xor .i64 (xn:Int) (yn:Int)=fsum 2 M xn yn:=by rw [mZ _ _ (by omega) (by omega),xM M xn yn (by omega) (by omega)]
  clear r hq2;go_enter func56,ntmps56;go_wp2_with (first | (go_at_call 112;(with_reducible refine (eB xn h O K).mono ?_);rintro e w' ⟨rfl,rfl⟩) | (go_at_call 112;(with_reducible refine (eB yn h Q C).mono ?_);rintro e w' ⟨rfl,rfl⟩));go_ret;exact ⟨0,rfl,rfl⟩
 ·have hP':(P == 2)=false:=by simpa using hP
  have H:=Z5 h.pw;clear hP;go_enter func56,ntmps56;go_wp2_with (first | (go_at_call 112;(with_reducible refine (eB x h O K).mono ?_);rintro e w' ⟨rfl,rfl⟩) | (go_at_call 112;(with_reducible refine (eB y h Q C).mono ?_);rintro e w' ⟨rfl,rfl⟩));go_loopw [1,2,7,8] (λxv yv sv pv wr=>∃(k:Nat) (X Y s p:Int),k<=M/\xv = cG X/\yv = cG Y/\sv = cG s/\pv = cG p/\Hid (p=P ^ k)/\1<=p/\p<=256 /\
    0<=X/\X<=256/\0<=Y/\Y<=256/\0<=s/\s<p/\Hid (X=jt x P k)/\Hid (Y=jt y P k)/\Hid (s+P ^ k * fsum P (M - k) X Y=fsum P M x y)/\∃n,wr=w.drewN n)
   (λxv yv _ _ _=>(intOf xv+intOf yv).toNat)
  case atStart =>
   exact ⟨0,x,y,0,1,by omega,rfl,rfl,rfl,rfl,by show (1:Int)=P ^ 0;simp,by omega,by omega,O,by omega,Q,by omega,by omega,by omega,rfl,rfl,by show 0+P ^ 0 * fsum P (M - 0) x y=_;simp,0,rfl⟩
  case round =>
   obtain ⟨k,X,Y,s,p,hkM,rfl,rfl,rfl,rfl,hp,hp1,hp2',V,hX1,S,hY1,hs0,hs1,hX,hY,hinv,n,D⟩:=hrel
   have hcpr:wr.cell? ⟨b,0,none⟩=some (cG P):=by rw [D];exact hcp
   have j:=Z5 D
   clear D
   by_cases hz:X=0/\Y=0
   ·obtain ⟨rfl,rfl⟩:=hz
    have N:s=fsum P M x y:=by have:=hinv.out;rw [uC] at this;omega
    have Hfin:=Z5 N
    clear N
    go_wp2
    go_ret
    exact ⟨n,aN Hfin.out,j⟩
   ·have hkM':k<M:=by
     rcases LP k M with h1 | h1
     ·exact h1
     ·exfalso;obtain rfl:k=M:=by omega
      have e1:=nj P (by omega) k x O (by rw [<- H.out];exact K);have e2:=nj P (by omega) k y Q (by rw [<- H.out];exact C);exact hz ⟨by rw [hX.out];exact e1,by rw [hY.out];exact e2⟩
    have Z:X / P+Y / P<X+Y:=by
     have h1:=Mu P V;have h2:=Mu P S;rcases (show 0<X\/0<Y by omega) with h3 | h3
     ·have:X / P<X:=MN (by omega) (by have:=Lv hp2 V;omega);omega
     ·have:Y / P<Y:=MN (by omega) (by have:=Lv hp2 S;omega);omega
    have hXd:=Ms V (show 0<=P by omega)
    have hYd:=Ms S (show 0<=P by omega)
    have hXd2:=Mu P V
    have hYd2:=Mu P S
    have m1:=LO X (show P ≠ 0 by omega)
    have m2:=LG X (show 0<P by omega)
    have m3:=LO Y (show P ≠ 0 by omega)
    have m4:=LG Y (show 0<P by omega)
    have m5:=LO (X+Y) (show P ≠ 0 by omega)
    have m6:=LG (X+Y) (show 0<P by omega)
    have A:p * P=P ^ (k+1):=by rw [hp.out,LY]
    have hpM:P ^ (k+1)<=256:=by have h1:=dF (show 1<=P by omega) (show k+1<=M by omega);have h2:=H.out;omega
    have m7:0<=(X+Y) % P * p:=MY m5 (by omega)
    have m8:(X+Y) % P * p+p<=p * P:=by have:=Lv (show (X+Y) % P+1<=P by omega) (show 0<=p by omega);rw [Mx] at this;rw [Mp _ p];omega
    have m9:p * 1<=p * P:=Lv (by omega) (by omega)
    have U:s+(X+Y) % P * p+P ^ (k+1) * fsum P (M - (k+1)) (X / P) (Y / P)=fsum P M x y:=by rw [<- hinv.out,show M - k=(M - (k+1))+1 from by omega,fsum,step_eq P s _ 0,hp.out]
    have hP0:P ≠ 0:=by omega
    have r1:X.tmod P=X % P:=L9 _ _ V
    have r2:Y.tmod P=Y % P:=L9 _ _ S
    have r3:IntKind.i64.wrap (X % P+Y % P)=X % P+Y % P:=La _ (by omega)
    have r4:(X % P+Y % P).tmod P=(X+Y) % P:=by rw [L9 _ _ (by omega),Int.emod_add_emod,Int.add_emod_emod]
    have r5:IntKind.i64.wrap ((X+Y) % P * p)=(X+Y) % P * p:=La _ (by omega)
    have r6:IntKind.i64.wrap (s+(X+Y) % P * p)=s+(X+Y) % P * p:=La _ (by omega)
    have hpl:p * P<=256:=by rw [A];exact hpM
    have E:=Z5 U
    have z:=Z5 A
    have F:=Z5 Z
    clear U A Z
    rcases (show 0<X\/(decide (0<X)=false/\0<Y) by simp;omega) with hg | ⟨hgx,hg⟩
    all_goals
     go_wp2_with fail
     go_quiet (fail)
     clear r1 r2 r3 r4 r5 r6
     go_wp2
     go_roundw
     case rel =>
      refine ⟨k+1,_,_,_,_,by omega,rfl,rfl,rfl,rfl,z,by omega,by have:=z.out;omega,by omega,by omega,by omega,by omega,by omega,by omega,?_,?_,E,nA j.out _⟩
      ·show _=jt x P (k+1);rw [jt,<- hX.out]
      ·show _=jt y P (k+1);rw [jt,<- hY.out]
     case measure=>have:=F.out;simp [intOf] <;> omega
end
section
variable {w:World} {b:Nat} {P:Int} {M q:Nat} {ex lg:LI}
theorem xg.drewN (h:xg w b P M q ex lg) (n:Nat):xg (w.drewN n) b P M q ex lg:=h.af (below_drewN (KU _ _) n)
theorem uO (x:Int) (h:xg w b P M q ex lg) (Q:0<=x) (H:x<q) :
  Calls prog 103 #[.pointer (some ⟨b,0,none⟩),cG x] w (jo w (fneg P M x)):=by
 have j:=h.cp;have hp2:=h.p2;have r:=h.p256;have hq256:=h.q256;have F:=Z5 h.pw;go_enter func103,ntmps103;go_wp2_with (go_at_call 112;(with_reducible refine (eB x h Q H).mono ?_);rintro e w' ⟨rfl,rfl⟩);go_loopw [1,5,6] (λA sv pv wr=>∃(k:Nat) (X s p:Int),k<=M/\A = cG X/\sv = cG s/\pv = cG p/\Hid (p=P ^ k)/\1<=p/\p<=256 /\
   0<=X/\X<=256/\0<=s/\s<p/\Hid (X=jt x P k)/\Hid (s+P ^ k * fneg P (M - k) X=fneg P M x)/\∃n,wr=w.drewN n)
  (λA _ _ _=>(intOf A).toNat)
 case atStart =>
  exact ⟨0,x,0,1,by omega,rfl,rfl,rfl,by show (1:Int)=P ^ 0;simp,by omega,by omega,Q,by omega,by omega,by omega,rfl,by show 0+P ^ 0 * fneg P (M - 0) x=_;simp,0,rfl⟩
 case round =>
  obtain ⟨k,X,s,p,hkM,rfl,rfl,rfl,hp,hp1,hp2',S,hX1,hs0,hs1,hX,hinv,n,N⟩:=hrel
  have hcpr:wr.cell? ⟨b,0,none⟩=some (cG P):=by rw [N];exact j
  have E:=Z5 N
  clear N
  by_cases hz:X=0
  ·subst hz
   have U:s=fneg P M x:=by have:=hinv.out;rw [uw] at this;omega
   have C:=Z5 U
   clear U
   go_wp2
   go_ret
   exact ⟨n,aN C.out,E⟩
  ·have hkM':k<M:=by
    rcases LP k M with h1 | h1
    ·exact h1
    ·exfalso;obtain rfl:k=M:=by omega
     have e1:=nj P (by omega) k x Q (by rw [<- F.out];exact H);exact hz (by rw [hX.out];exact e1)
   have Y:X / P<X:=MN (by omega) (by have:=Lv hp2 S;omega)
   have hXd:=Ms S (show 0<=P by omega)
   have m1:=LO X (show P ≠ 0 by omega)
   have m2:=LG X (show 0<P by omega)
   have m5:=LO (P - X % P) (show P ≠ 0 by omega)
   have m6:=LG (P - X % P) (show 0<P by omega)
   have K:p * P=P ^ (k+1):=by rw [hp.out,LY]
   have hpM:P ^ (k+1)<=256:=by have h1:=dF (show 1<=P by omega) (show k+1<=M by omega);have h2:=F.out;omega
   have m7:0<=(P - X % P) % P * p:=MY m5 (by omega)
   have m8:(P - X % P) % P * p+p<=p * P:=by have:=Lv (show (P - X % P) % P+1<=P by omega) (show 0<=p by omega);rw [Mx] at this;rw [Mp _ p];omega
   have m9:p * 1<=p * P:=Lv (by omega) (by omega)
   have Z:s+(P - X % P) % P * p+P ^ (k+1) * fneg P (M - (k+1)) (X / P)=fneg P M x:=by rw [<- hinv.out,show M - k=(M - (k+1))+1 from by omega,fneg,step_eq P s _ 0,hp.out]
   have hP0:P ≠ 0:=by omega
   have hg:0<X:=by omega
   obtain ⟨D,hD⟩:∃D,D=(P - X % P) % P:=⟨_,rfl⟩
   rw [<- hD] at m5 m6 m7 m8 Z
   have r1:X.tmod P=X % P:=L9 _ _ S
   have r3:IntKind.i64.wrap (P - X % P)=P - X % P:=La _ (by omega)
   have r4:(P - X % P).tmod P=D:=by rw [L9 _ _ (by omega),hD]
   have r5:IntKind.i64.wrap (D * p)=D * p:=La _ (by omega)
   have r6:IntKind.i64.wrap (s+D * p)=s+D * p:=La _ (by omega)
   have hpl:p * P<=256:=by rw [K];exact hpM
   have O:=Z5 Z
   have z:=Z5 K
   have V:=Z5 Y
   clear Z K Y hD
   go_wp2_with fail
   go_quiet (fail)
   clear r1 r3 r4 r5 r6
   go_wp2
   go_roundw
   case rel =>
    refine ⟨k+1,_,_,_,by omega,rfl,rfl,rfl,z,by omega,by omega,by omega,by have:=V.out;omega,by omega,by omega,?_,O,nA E.out _⟩
    show _=jt x P (k+1);rw [jt,<- hX.out]
   case measure=>have:=V.out;simp [intOf] <;> omega
def Kl (P:Int) (M:Nat) (x y:Int):Int:=fsum P M x (fneg P M y)
theorem DE (x y:Int) (h:xg w b P M q ex lg) (S:0<=x) (V:x<q) (Q:0<=y) (X:y<q) :
  Calls prog 199 #[.pointer (some ⟨b,0,none⟩),cG x,cG y] w (jo w (Kl P M x y)):=by
 have U:=qP (show 0<P by have:=h.p2;omega) M y;have Z:fneg P M y<q:=by rw [h.pw];exact U.2
 have Y:=U.1;clear U;go_enter func199,ntmps199;go_wp2_with fail;refine (uO y h Q X).mono ?_;rintro e O ⟨n,rfl,rfl⟩;go_wp2_with fail;refine (uA x _ (h.drewN n) S V Y Z).mono ?_;rintro e O ⟨N,rfl,rfl⟩;go_wp2_with fail;go_ret;exact ⟨_,rfl,rfl⟩
theorem DM (x:Int) (h:xg w b P M q ex lg) (r:0<x) (Q:x<q) :
  Calls prog 201 #[.pointer (some ⟨b,0,none⟩),cG x] w λe w'=>∃n,e = .returned (.tuple #[cG (yQ q ex lg x),cG 0])/\w'=w.drewN n:=by
 obtain ⟨ae,ce,K,Y⟩:=h.ce;obtain ⟨al,cl,D,X⟩:=h.cl;have C:=h.cq;have H:(x == 0)=false:=by rw [beq_eq_false_iff_ne];omega
 obtain ⟨Z,rfl⟩:∃n:Nat,x=n:=⟨x.toNat,by omega⟩
 have lx:=h.lb Z (by omega);have cx:=X.cell Z (by omega);have F:=Y.pl;have z:=X.pl;have A:=h.q2;have U:=h.q256;have V:=LO ((q:Int) - 1 - nth lg Z) (show (q:Int) - 1 ≠ 0 by omega);have S:=LG ((q:Int) - 1 - nth lg Z) (show 0<(q:Int) - 1 by omega);obtain ⟨k,O⟩:∃k:Nat,((q:Int) - 1 - nth lg Z) % ((q:Int) - 1)=k:=⟨(((q:Int) - 1 - nth lg Z) % ((q:Int) - 1)).toNat,by omega⟩
 have N:yQ q ex lg Z=nth ex k:=by unfold yQ;simp only [KV,O]
 have j:=Y.cell k (by omega);have r2:IntKind.i64.wrap ((q:Int) - 1)=(q:Int) - 1:=La _ (by omega);have r1:IntKind.i64.wrap ((q:Int) - 1 - nth lg Z)=(q:Int) - 1 - nth lg Z:=La _ (by omega);have r3:((q:Int) - 1 - nth lg Z).tmod ((q:Int) - 1)=k:=by rw [L9 _ _ (by omega),O]
 have r4:¬ (q:Int) - 1=0:=by omega
 have r5:(k:Int)<((q - 1:Nat):Int):=by omega
 have r6:(Z:Int)<q:=by omega
 have E:=Z5 N;clear N O V S;go_enter func201,ntmps201;go_wp2_with (first | (go_at_call 112;(with_reducible refine (eB Z h (by omega) Q).mono ?_);rintro e w' ⟨rfl,rfl⟩));go_quiet (fail);go_wp2;go_ret2;exact ⟨_,by rw [E.out];rfl,rfl⟩
structure cZ where
 P:Int
 M:Nat
 q:Nat
 ex:LI
 lg:LI
def cZ.add (G:cZ) (x y:Int):Int:=fsum G.P G.M x y
def cZ.neg (G:cZ) (x:Int):Int:=fneg G.P G.M x
def cZ.sub (G:cZ) (x y:Int):Int:=Kl G.P G.M x y
def cZ.mul (G:cZ) (x y:Int):Int:=rN G.q G.ex G.lg x y
def cZ.inv (G:cZ) (x:Int):Int:=yQ G.q G.ex G.lg x
def cZ.El (G:cZ) (x:Int):Prop:=0<=x/\x<G.q
def dU (w:World) (b:Nat) (G:cZ):Prop:=xg w b G.P G.M G.q G.ex G.lg
theorem dU.af {w w':World} {b:Nat} {G:cZ} (h:dU w b G) (hb:PY w w'):dU w' b G:=xg.af h hb
theorem dU.drewN {w:World} {b:Nat} {G:cZ} (h:dU w b G) (n:Nat):dU (w.drewN n) b G:=xg.drewN h n
variable {G:cZ}
theorem cZ.FG (h:dU w b G) (x y:Int):G.El (G.add x y):=by have:=wG (show 0<G.P by have:=h.p2;omega) G.M x y;exact ⟨this.1,by rw [h.pw];exact this.2⟩
theorem cZ.u9 (h:dU w b G) (x:Int):G.El (G.neg x):=by have:=qP (show 0<G.P by have:=h.p2;omega) G.M x;exact ⟨this.1,by rw [h.pw];exact this.2⟩
theorem cZ.uu (h:dU w b G) (k:Int) (h0:0<=k) (h1:k<(G.q:Int) - 1):G.El (nth G.ex k.toNat):=h.eb _ (by omega)
theorem cZ.kW (h:dU w b G) (x y:Int):G.El (G.mul x y):=by
 unfold cZ.mul rN;have Z:=h.q2;split
 ·exact ⟨Ox _,by omega⟩
 ·exact cZ.uu h _ (LO _ (by omega)) (LG _ (by omega))
theorem cZ.vS (h:dU w b G) (x:Int):G.El (G.inv x):=by have Z:=h.q2;exact cZ.uu h _ (LO _ (by omega)) (LG _ (by omega))
theorem J2 (x y:Int) (h:dU w b G) (Z:G.El x) (Y:G.El y) :
  Calls prog 56 #[.pointer (some ⟨b,0,none⟩),cG x,cG y] w (jo w (G.add x y)):=uA x y h Z.1 Z.2 Y.1 Y.2
theorem IT (x:Int) (h:dU w b G) (Z:G.El x) :
  Calls prog 103 #[.pointer (some ⟨b,0,none⟩),cG x] w (jo w (G.neg x)):=uO x h Z.1 Z.2
theorem JR (x y:Int) (h:dU w b G) (Z:G.El x) (Y:G.El y) :
  Calls prog 199 #[.pointer (some ⟨b,0,none⟩),cG x,cG y] w (jo w (G.sub x y)):=DE x y h Z.1 Z.2 Y.1 Y.2
theorem oh (x y:Int) (h:dU w b G) (Z:G.El x) (Y:G.El y) :
  Calls prog 57 #[.pointer (some ⟨b,0,none⟩),cG x,cG y] w (jo w (G.mul x y)) :=
 (DB x y h Z.1 Z.2 Y.1 Y.2).mono λ_ _ ⟨n,h1,h2⟩=>⟨n,h1,h2⟩
theorem GM (x:Int) (h:dU w b G) (Z:G.El x) (Y:x ≠ 0) :
  Calls prog 201 #[.pointer (some ⟨b,0,none⟩),cG x] w λe w'=>∃n,e = .returned (.tuple #[cG (G.inv x),cG 0])/\w'=w.drewN n :=
 DM x h (by have:=Z.1;omega) Z.2
theorem J9 (x:Int) (h:dU w b G) :
  Calls prog 55 #[.pointer (some ⟨b,0,none⟩),cG x] w λe w'=>e = .returned (.bool (decide (0<=x) && decide (x<G.q)))/\w=w':=xQ x h
def cZ.Ch (G:cZ) (l:LI):Prop:=∀x ∈ l,G.El x
theorem cZ.Ch.nth {l:LI} (h:G.Ch l) {i:Nat} (hi:i<l.length):G.El (nth l i):=h _ (aG hi)
def cQ (w:World) (l:LI) (e:Ending) (w':World):Prop :=
 ∃a c,e = .returned (.slice a l.length c)/\w'.ownsRow w.heap.size 3 1 (.slice a l.length c) l.length (l.map (Value.int .i64))/\PY w w'
theorem xb (s:Int) (a:OA) (n c:Nat) (l:LI) (h:dU w b G) (K:G.El s) (hi:Ints w a n l) (D:G.Ch l) (r:n<=1000000) :
  Calls prog 66 #[.pointer (some ⟨b,0,none⟩),cG s,.slice a n c] w (cQ w (l.map (G.mul s))):=by
 have hlen:=hi.len;have C:=hi.pl;go_enter func66,ntmps66;go_wp2_with (at_make;refine bV rfl _ _ 22 3 rfl (cG 0) 8 underlying22 bh rfl n rfl rfl (by omega) (by unfold maxLen;omega) ?_;intro a1 j Z Y H X);go_loopw [15] (λF wr=>∃k:Nat,k<=n/\F = cG k /\
   wr.ownsRow w.heap.size 3 1 (.slice a1 n n) n ((du ((l.take k).map (G.mul s)) k n).map (Value.int .i64))/\PY w wr)
  (λi _=>n - (intOf i).toNat)
 case atStart=>exact ⟨0,K0 _,rfl,by simpa [du] using Z,Y⟩
 case round =>
  obtain ⟨k,hk,rfl,Z,Y⟩:=hrel
  obtain ⟨hints,V⟩:=Pn Z
  have N:=hints.pl
  by_cases X:k<n
  ·have z:=(hi.af Y).cell k X
   have O:=D.nth (i:=k) (by omega)
   have hf:=(V (by omega)).2 k X
   have E:=hints.cell k X
   have A:=(V (by omega)).1
   go_wp2_with fail
   refine (oh s (nth l k) (h.af Y) K O).mono ?_
   rintro e w2 ⟨m,rfl,rfl⟩
   go_wp2_with fail
   go_roundw
   case rel =>
    refine ⟨k+1,by omega,by go_num,?_,(below_drewN Y m).setCell A _⟩
    have h:=bA (w:=wr.drewN m) Z k X (cG (G.mul s (nth l k)))
    rw [<- Lq,fF _ _ _ _ (by simp;omega) X] at h
    rw [K4 (by omega),LJ]
    rw [aj (by omega)] at h ⊢
    exact h
   case measure=>simp [intOf] <;> omega
  ·obtain rfl:k=n:=by omega
   have U:du ((l.take k).map (G.mul s)) k k=l.map (G.mul s):=by rw [gn,K5 (by omega)]
   rw [U] at Z
   have S:(l.map (G.mul s)).length=k:=by simp [hlen]
   have Q:=Z5 S
   clear S U
   go_wp2_with fail
   go_ret
   exact ⟨a1,k,by rw [Q.out];rfl,by rw [Q.out];exact Z,Y⟩
end
def logTo (q:Nat) (ex:LI):Nat->LI
 | 0=>List.replicate q 0
 | k+1=>(logTo q ex k).set (nth ex k).toNat k
theorem i6 (q:Nat) (ex:LI):∀k,(logTo q ex k).length=q
 | 0=>by simp [logTo]
 | k+1=>by simp [logTo,i6 q ex k]
theorem yX (q:Nat) (ex:LI) (Z:2<=q):∀k,k<=q - 1->∀i,0<=nth (logTo q ex k) i/\nth (logTo q ex k) i<(q:Int) - 1
 | 0,_,i=>by
  have:nth (logTo q ex 0) i=0:=by simp only [logTo,nth,KZ,Ls];split <;> rfl
  omega
 | k+1,X,i=>by
  have Y:=yX q ex Z k (by omega) i;by_cases h:(nth ex k).toNat<q
  ·rw [logTo,dS _ _ _ _ (by rw [i6];exact h)];split <;> omega
  ·rw [logTo,MX (by rw [i6];omega)];exact Y
theorem rz (P:Int) (M:Nat) (mod:LI) (q:Nat):∀(n x:Nat),genTo P M mod q n x ≠ []->∃y:Nat,x<=y/\y<x+n/\fX P M mod q y=true/\genTo P M mod q n x=fb P M mod q y
 | 0,x,h=>absurd rfl h
 | n+1,x,h=>by
  rw [genTo] at h ⊢;by_cases Z:fX P M mod q x=true
  ·rw [KX Z];exact ⟨x,KT _,by omega,Z,rfl⟩
  ·rw [KY Z] at h ⊢;obtain ⟨y,h1,h2,h3,Y⟩:=rz P M mod q n (x+1) h;exact ⟨y,by omega,by omega,h3,Y⟩
theorem pO {P:Int} {M:Nat} {mod:LI} {q:Nat} (h:fW P M mod q ≠ []):∃y:Nat,1<=y/\y<q/\fX P M mod q y=true/\fW P M mod q=fb P M mod q y:=by obtain ⟨y,h1,h2,h3,Z⟩:=rz P M mod q (q - 1) 1 h;exact ⟨y,h1,by omega,h3,Z⟩
def ah (P:Int) (M:Nat) (mod:LI):cZ :=
 { P:=P,M:=M,q:=(aK P M).toNat,ex:=fW P M mod (aK P M).toNat,lg:=logTo (aK P M).toNat (fW P M mod (aK P M).toNat) ((aK P M).toNat - 1) }
theorem DK {w:World} {P M:Int} {am:OA} {Y:Nat} {mod:LI} (hm:Ints w am Y mod) (h:cH P M mod=true):Y<=8:=by
 simp only [cH,Lm,bne_iff_ne,ne_eq] at h;obtain ⟨⟨h0,h1⟩,h2⟩:=h;obtain ⟨U,N,O,V,S,X⟩:=gP h0;have Q:=hm.len;by_cases Z:M=1
 ·rw [KX Z] at h2;have h3:mod.length=0:=by simpa using h2
  omega
 ·rw [KY Z] at h2;simp only [Lm,LM] at h2;omega
def xV (B:Nat) (w:World) (b:Nat) (G:cZ):Prop:=∀V:World,(∀k,B<=k->k<w.heap.size->V.heap[k]? = w.heap[k]?)->dU V b G
theorem xV.gf {B:Nat} {w:World} {b:Nat} {G:cZ} (h:xV B w b G):dU w b G:=h w λ_ _ _=>rfl
theorem xV.mono {B B':Nat} {w:World} {b:Nat} {G:cZ} (h:xV B w b G) (Y:B'<=B):xV B' w b G:=λV Z=>h V λk h1 h2=>Z k (K9 Y h1) h2
theorem xV.af {B:Nat} {w w':World} {b:Nat} {G:cZ} (h:xV B w b G) (hb:PY w w'):xV B w' b G:=λV Z=>h V λk h1 h2=>(Z k h1 (Lx h2 hb.size)).trans (hb.block k h2)
theorem xV.setCell {B:Nat} {w:World} {b:Nat} {G:cZ} (h:xV B w b G) {p:Addr} (Y:p.block<B) (v:Value):xV B (w.setCell p v) b G:=λV Z=>h V λk h1 h2 =>
 (Z k h1 (by have:=((KU 0 w).setCell (p:=p) (K0 _) v).size;omega)).trans (Lf _ _ _ _ (by omega))
def BH (P M:Int) (mod:LI) (w:World) (e:Ending) (w':World):Prop :=
 (bs P M mod=false/\e = .returned (.tuple #[.pointer none,cG 1])/\PY w w') \/
 (bs P M mod=true/\∃b,e = .returned (.tuple #[.pointer (some ⟨b,0,none⟩),cG 0])/\xV w.heap.size w' b (ah P M.toNat mod)/\w.heap.size<=b/\PY w w')
theorem dH (P M:Int) (am:OA) (A cm:Nat) (mod:LI) (w:World) (D:Ints w am A mod) :
  Calls prog 52 #[.agg #[cG P,cG M,.slice am A cm]] w (BH P M mod w):=by
 have hbox:∀w':World,Below (w.heap.size+1) (w.alloc (.cells #[cG P,cG M,.slice am A cm] 24)) w' ->
   w'.cell? ⟨w.heap.size,0,none⟩=some (cG P)/\w'.cell? ⟨w.heap.size,1,none⟩=some (cG M)/\w'.cell? ⟨w.heap.size,2,none⟩=some (.slice am A cm)/\PY w w':=by intro w' h;refine ⟨(h.cell (by simp)).trans (by simp),(h.cell (by simp)).trans (by simp),(h.cell (by simp)).trans (by simp),((KU _ _).alloc (KT _) _).trans (h.mono (by omega))⟩
 have Hbox:=Z5 hbox;clear hbox;go_enter func52,ntmps52;go_wp2_with fail;generalize hW0:w.alloc (.cells #[cG P,cG M,.slice am A cm] 24)=W0 at *;have hW0s:W0.heap.size=w.heap.size+1:=by rw [<- hW0];simp
 obtain ⟨q0,q1,q2,z⟩:=Hbox W0 (KU _ _);clear hW0;refine (pa P M am A cm mod W0 (D.af z)).mono ?_;rintro e w1 ⟨rfl,hb1⟩;have hB1:Below (w.heap.size+1) W0 w1:=hb1.mono (by omega);obtain ⟨q0,q1,q2,z⟩:=Hbox w1 hB1;by_cases hs:cH P M mod=true;case neg =>
  have hs':cH P M mod=false:=by simpa using hs
  have Hf:=Z5 (show bs P M mod=false by simp [bs,hs'])
  clear hs
  go_wp2_with fail
  go_ret2
  exact .inl ⟨Hf,rfl,z⟩
 have hmn:=DK D hs;obtain ⟨m,rfl,hd,ho,hq⟩:=ql D hs;go_wp2_with fail;refine (gT _ _ _).mono ?_;rintro e Z ⟨rfl,rfl⟩;have hoq:aK P m=((aK P m).toNat:Int):=by rw [hq,ho]
 have hfB:bs P m mod = !(fW P m mod (aK P m).toNat).isEmpty:=by simp [bs,hs]
 have hT:ah P ((m:Int).toNat) mod = { P:=P,M:=m,q:=(aK P m).toNat,ex:=fW P m mod (aK P m).toNat,lg:=logTo (aK P m).toNat (fW P m mod (aK P m).toNat) ((aK P m).toNat - 1) }:=rfl;have HT:=Z5 hT;have HfB:=Z5 hfB;rw [hoq];generalize (aK P m).toNat=q at *;have Hq:=Z5 hq;clear hoq hfB ho hT hq hs;go_wp2_with fail;refine (mH P m am A cm mod q w1 (hd.af z) Hq.out).mono ?_;rintro e Z ⟨a2,c2,rfl,U,j,hb2⟩;have N:=qM.isNone U j;have hB2:Below (w.heap.size+1) W0 Z:=hB1.trans (hb2.mono (by have:=hB1.size;omega));obtain ⟨r0,r1,r2,K⟩:=Hbox Z hB2;have heq:=λ(w:World) (a:OA) (l c:Nat)=>Go.run_eql_slice_nil (P:=prog) w 22 3 a l c underlying22;by_cases H:fW P m mod q=[]
 ·have hf:bs P m mod=false:=by rw [HfB.out,H];rfl
  rw [H] at N;have hin3:a2.isNone=true:=N;have Hf:=Z5 hf;clear hf H N;go_wp2_with fail;go_ret2;exact .inl ⟨Hf,rfl,K⟩
 ·have hin3:a2.isNone=false:=by
   rw [N];cases h:fW P m mod q with
   | nil=>exact absurd h H
   | cons x l=>rfl
  obtain ⟨y,hy1,hy2,hgy,hpy⟩:=pO H;have hP0:0<P:=by have:=hd.p2;omega
  have hq2:2<=q:=by omega
  have hq256:q<=256:=by have:=hd.pw;have:=Hq.out;omega
  have hlen:(fW P m mod q).length=q - 1:=by rw [hpy];simp only [fX,Lm,beq_iff_eq] at hgy;exact hgy.1
  have hexb:∀i,0<=nth (fW P m mod q) i/\nth (fW P m mod q) i<q:=by intro i;rw [hpy];exact qf hP0 m mod q y Hq.out hq2 (by omega) (by omega) i
  have hf:bs P m mod=true:=by
   rw [HfB.out];cases h:fW P m mod q with
   | nil=>exact absurd h H
   | cons x l=>rfl
  have Hf:=Z5 hf;have Hexb:=Z5 hexb;rw [hlen] at U;rw [hlen];have HLn:=Z5 hlen;have hi2:=(Pn U).1;have F:=D.af K;clear N H hf hexb hlen hpy hgy j;generalize fW P m mod q=ex at *;have hmk:=run_mk (P:=prog) 22 3 (cG 0) 8 underlying22 bh rfl q (by omega) (by omega);go_upto_region 7 with fail;go_cut [6] (λv wx=>∃(S:Nat) (al:OA),v = .pointer (some ⟨S,0,none⟩)/\Z.heap.size<=S/\Z.heap.size<=ablk al/\ablk al ≠ S /\
   wx.cell? ⟨S,0,none⟩=some (cG P)/\wx.cell? ⟨S,3,none⟩=some (cG q)/\wx.cell? ⟨S,4,none⟩=some (.slice a2 (q - 1) c2)/\wx.cell? ⟨S,5,none⟩=some (.slice al q q) /\
   wx.ownsRow Z.heap.size 3 1 (.slice al q q) q (List.replicate q (cG 0))/\PY Z wx)
  case first =>
   have hO:=fK Z 3
   have hO2:((Z.alloc (.cells (Array.replicate q (cG 0)) 3)).alloc (.cells #[] 3)).ownsRow Z.heap.size 3 1 (.slice (some ⟨Z.heap.size+1,0,none⟩) 0 0) 0 []:=by have h:=aY (fK (Z.alloc (.cells (Array.replicate q (cG 0)) 3)) 3) (B':=Z.heap.size) (by simp);rwa [MZ] at h
   have hS:∀W,PY Z W->W.cell? ⟨w.heap.size,0,none⟩=some (cG P)/\W.cell? ⟨w.heap.size,1,none⟩=some (cG m)/\W.cell? ⟨w.heap.size,2,none⟩=some (.slice am A cm)/\Ints W am A mod/\PY Z W :=
    λW hb=>⟨aB hb r0,aB hb r1,aB hb r2,F.af hb,hb⟩
   have HS:=Z5 hS
   clear hS
   go_region_held3 (λw'=>w'.cell? ⟨w.heap.size,0,none⟩=some (cG P)/\w'.cell? ⟨w.heap.size,1,none⟩=some (cG m)/\w'.cell? ⟨w.heap.size,2,none⟩=some (.slice am A cm)/\Ints w' am A mod/\PY Z w')
    ((refine HS _ ?_;first | exact (KU _ _).drew | exact ((KU _ _).alloc (KT _) _).drew | exact Y | (go_split_ands;exact Pq (by assumption) _)))
    (first | (obtain ⟨_,_,_,hI9,hB9⟩:=(by assumption:_/\_/\_/\Ints _ am A mod/\PY Z _);refine eh (by rfl) (.tmp 26) (.tmp 28) 22 3 (by rfl) (cG 0) 8 underlying22 bh (by rfl) Z.heap.size _ 0 0 [] (by rfl) (by first | exact hO | exact hO.alloc _ | exact hO2) am A cm (mod.map (Value.int .i64)) (by rfl) F.pl (by simp [F.len]) (Px hI9) (ints_oneCell _ _) (by omega) (by unfold maxLen;omega) (Ml hB9) ?_;intro a3 c3 w3 hown3 O hap3;have Y:PY Z w3:=Pp (B:=Z.heap.size) (e:=3) (xs:=[]) hB9 (by first | exact hO | exact hO.alloc _ | exact hO2) O (KT _) (Ml hB9)))
   all_goals (go_step;go_step;go_meet)
   ·have C:=Y.size
    refine ⟨w3.heap.size+1,some ⟨w3.heap.size,0,none⟩,rfl,by omega,C,by simp,aF _ _ _ (by simp) 0,aF _ _ _ (by simp) 3,aF _ _ _ (by simp) 4,aF _ _ _ (by simp) 5,?_,Pq (Pq Y _) _⟩
    exact World.ownsRow.alloc (l0 w3 3 (cG 0) q rfl C (by unfold maxLen;omega)) _
   ·have C:=Y.size
    have r:=O.size
    simp at r
    refine ⟨w3.heap.size,some ⟨Z.heap.size+1,0,none⟩,rfl,C,by simp,by simp;omega,aF _ _ _ rfl 0,aF _ _ _ rfl 3,aF _ _ _ rfl 4,aF _ _ _ rfl 5,?_,Pq Y _⟩
    exact World.ownsRow.alloc (iR (l0 (Z.alloc (.cells #[] 3)) 3 (cG 0) q (by simp) (by simp) (by unfold maxLen;omega)) (nh O) (.inr (by simp))) _
   ·have C:=Y.size
    have r:=O.size
    simp at r
    refine ⟨w3.heap.size,some ⟨Z.heap.size,0,none⟩,rfl,C,by simp,by simp;omega,aF _ _ _ rfl 0,aF _ _ _ rfl 3,aF _ _ _ rfl 4,aF _ _ _ rfl 5,?_,Pq Y _⟩
    exact World.ownsRow.alloc (iR ((l0 Z 3 (cG 0) q rfl (KT _) (by unfold maxLen;omega)).alloc _) (nh O) (.inr (by simp))) _
  obtain ⟨S,al,rfl,hgb,hal,hne,g0,g3,g4,g5,X,hbc⟩:=hcut;have hi2c:=hi2.af hbc;have hpe:=hi2.pl;have HLt:Hid (List.replicate q (Value.int .i64 0)=(logTo q ex 0).map (Value.int .i64)):=by show _=_;simp [logTo]
  go_wp2_with fail;go_loopw [39] (λiv wr=>∃k:Nat,k<=q - 1/\iv = cG k/\wr.ownsRow Z.heap.size 3 1 (.slice al q q) q ((logTo q ex k).map (Value.int .i64)) /\
    (∀b,b ≠ ablk al->b<wc.heap.size->wr.heap[b]? = wc.heap[b]?)/\PY Z wr)
   (λiv _=>q - (intOf iv).toNat)
  case atStart=>exact ⟨0,K0 _,rfl,by rw [<- HLt.out];exact X,λ_ _ _=>rfl,hbc⟩
  case round =>
   obtain ⟨k,hk,rfl,X,E,hbr⟩:=hrel
   have HS:=Z5 E
   have hgl:S<wc.heap.size:=Lb wc _ g0
   have Q:=E S (λh=>hne h.symm) hgl
   have g0r:wr.cell? ⟨S,0,none⟩=some (cG P):=(Lu (w:=wc) Q).trans g0
   have g3r:wr.cell? ⟨S,3,none⟩=some (cG q):=(Lu (w:=wc) Q).trans g3
   have g4r:wr.cell? ⟨S,4,none⟩=some (.slice a2 (q - 1) c2):=(Lu (w:=wc) Q).trans g4
   have g5r:wr.cell? ⟨S,5,none⟩=some (.slice al q q):=(Lu (w:=wc) Q).trans g5
   have hi2r:=hi2.af hbr
   obtain ⟨hiL,hmL⟩:=Pn X
   have hpL:=hiL.pl
   clear E Q
   by_cases hlt:k<q - 1
   ·have ck:=hi2r.cell k hlt
    have hb:=Hexb k
    obtain ⟨xn,hxn⟩:∃xn:Nat,nth ex k=xn:=⟨(nth ex k).toNat,by omega⟩
    have hnx:logTo q ex (k+1)=(logTo q ex k).set xn k:=by rw [logTo,hxn];rfl
    rw [hxn] at ck hb
    have cL:=hiL.cell xn (by omega)
    have fL:=(hmL (by omega)).2 xn (by omega)
    have BL:=(hmL (by omega)).1
    have Hnx:=Z5 hnx
    clear hnx hxn
    go_wp2_with fail
    go_roundw
    case rel =>
     refine ⟨k+1,by omega,by go_num,?_,λb hb hl=>?_,hbr.setCell BL _⟩
     ·rw [Hnx.out,Lq];exact bA X xn (by omega) _
     ·rw [Lf _ _ _ _ hb];exact HS b hb hl
    case measure=>simp [intOf] <;> omega
   ·obtain rfl:k=q - 1:=by omega
    go_wp2_with fail
    go_ret2
    refine .inr ⟨Hf,S,rfl,?_,by have:=K.size;omega,Pm K hbr⟩
    rw [HT.out]
    intro V hV
    have hB:=K.size
    have hB2:=hb2.size
    have hB1:=z.size
    have cV:∀i v,wr.cell? ⟨S,i,none⟩=some v->V.cell? ⟨S,i,none⟩=some v:=λi v hv=>(Lu (w:=wr) (a:=⟨S,i,none⟩) (hV S (by omega) (Lb wr _ g0r))).trans hv
    refine ⟨hd.p2,hd.m1,hd.m8,Hq,hd.p256,hq2,hq256,cV _ _ g0r,cV _ _ g3r,⟨a2,c2,cV _ _ g4r,?_⟩,⟨al,q,cV _ _ g5r,?_⟩,λi _=>Hexb i,λi _=>yX q ex hq2 _ (KT _) i⟩
    ·refine hi2r.of_block λhn=>hV _ ?_ (hi2r.lt hn)
     have:=(dR U hn).1
     omega
    ·refine hiL.of_block λhn=>hV _ ?_ (hiL.lt hn)
     have:=(dR X hn).1
     omega
section
def iQ (q x:Int):Bool:=decide (0<=x) && decide (x<q)
def ez (q:Int) (l:LI):Bool:=l.all (iQ q)
def iO (q:Int) (l:LI):Int:=if ez q l then 0 else 2
def jk (Z:Int) (L:Ll):Bool:=L.all λr=>decide ((r.length:Int)=Z)
def fD (q Z:Int) (L:Ll):Int :=
 if Z<0\/256<Z\/256<L.length then 3 else if jk Z L=false then 3 else if L.all (ez q) then 0 else 2
theorem dJ {α:Type} {p:α->Bool} {l:List α} {k:Nat} (Y:k<l.length) (h:(l.take k).all p=true) (Z:p l[k]=true):(l.take (k+1)).all p=true:=by rw [K4 Y,NQ,h];simp [Z]
theorem dI {α:Type} {p:α->Bool} {l:List α} {k:Nat} (Y:k<l.length) (Z:p l[k]=false):l.all p=false:=by rw [MD];exact ⟨_,Ly Y,by simp [Z]⟩
variable {w:World} {b:Nat} {G:cZ}
theorem zB (a:OA) (n c:Nat) (l:LI) (h:dU w b G) (hi:Ints w a n l) :
  Calls prog 146 #[.pointer (some ⟨b,0,none⟩),.slice a n c] w λe w'=>e = .returned (cG (iO G.q l))/\w=w':=by
 have K:=hi.pl;have hlen:=hi.len;have S:=hi.max;unfold maxLen at S;have Z:=Z5 hlen;clear hlen;go_enter func146,ntmps146;go_wp2;go_loop [9] (λO=>∃k:Nat,k<=n/\O = cG k/\Hid ((l.take k).all (iQ G.q)=true)) (λO=>n - (intOf O).toNat);case atStart=>exact ⟨0,K0 _,rfl,by show _=_;simp⟩
 case round =>
  obtain ⟨k,F,rfl,V⟩:=hrel
  by_cases Y:k<n
  ·have H:=hi.cell k Y
   by_cases X:iQ G.q (nth l k)=true
   ·have U:=X
    unfold iQ at U
    have N:=Z5 X
    clear X
    go_wp2_with (first | (go_at_call 55;refine (J9 (nth l k) h).mono ?_;rintro e w' ⟨rfl,rfl⟩))
    go_round
    case rel=>exact ⟨k+1,by omega,by go_num,dJ (by rw [Z.out];exact Y) V.out (by rw [<- aj (by rw [Z.out];exact Y)];exact N)⟩
    case measure=>simp [intOf] <;> omega
   ·have X:iQ G.q (nth l k)=false:=by simpa using X
    have U:=X
    unfold iQ at U
    have Q:Hid (ez G.q l=false):=dI (k:=k) (by rw [Z.out];exact Y) (by rw [<- aj (by rw [Z.out];exact Y)];exact X)
    clear X
    go_wp2_with (first | (go_at_call 55;refine (J9 (nth l k) h).mono ?_;rintro e w' ⟨rfl,rfl⟩))
    go_ret
    exact ⟨aN (by rw [iO,Q.out];rfl),rfl⟩
  ·obtain rfl:k=n:=by omega
   have Q:Hid (ez G.q l=true):=by have:=V.out;rw [K5 (by rw [Z.out];exact KT _)] at this;exact this
   go_wp2
   go_ret
   exact ⟨aN (by rw [iO,Q.out];rfl),rfl⟩
theorem DU (Z:Int) (a:OA) (n c:Nat) (L:Ll) (h:dU w b G) (hi:bw w a n L) :
  Calls prog 197 #[.pointer (some ⟨b,0,none⟩),.agg #[cG Z,.slice a n c]] w λe w'=>e = .returned (cG (fD G.q Z L))/\PY w w':=by
 have hpl:=hi.pl;have hlen:=hi.len;have hmax:=hi.max;unfold maxLen at hmax;have Y:=Z5 hlen;clear hlen;have K:∀w':World,Below (w.heap.size+1) (w.alloc (.cells #[cG Z,.slice a n c] 94)) w' ->
   w'.cell? ⟨w.heap.size,0,none⟩=some (cG Z)/\w'.cell? ⟨w.heap.size,1,none⟩=some (.slice a n c)/\PY w w':=by intro w' h;refine ⟨(h.cell (by simp)).trans (by simp),(h.cell (by simp)).trans (by simp),((KU _ _).alloc (KT _) _).trans (h.mono (by omega))⟩
 have Hbox:=Z5 K;clear K;have A:=Z5 ((KU w.heap.size w).alloc (KT _) (.cells #[cG Z,.slice a n c] 94));by_cases b1:Z<0
 ·have Hf:Hid (fD G.q Z L=3):=by show _=_;rw [fD,KX (.inl b1)]
  go_enter func197,ntmps197;go_wp2_with fail;go_ret;exact ⟨aN Hf.symm,A⟩
 by_cases b2:256<Z
 ·have Hf:Hid (fD G.q Z L=3):=by show _=_;rw [fD,KX (.inr (.inl b2))]
  go_enter func197,ntmps197;go_wp2_with fail;go_ret;exact ⟨aN Hf.symm,A⟩
 by_cases b3:256<n
 ·have Hf:Hid (fD G.q Z L=3):=by show _=_;rw [fD,KX (.inr (.inr (by rw [Y.out];exact b3)))]
  have t1:decide (Z<0)=false:=by simpa using b1
  have t2:decide (256<Z)=false:=by simpa using b2
  have t3:decide (256<(n:Int))=true:=by simp;omega
  go_enter func197,ntmps197;go_wp2_with fail;go_ret;exact ⟨aN Hf.symm,A⟩
 have Hm:Hid (fD G.q Z L=if jk Z L=false then 3 else if L.all (ez G.q) then 0 else 2):=by show _=_;rw [fD,KY (by rw [Y.out];omega)]
 have t1:decide (Z<0)=false:=by simpa using b1
 have t2:decide (256<Z)=false:=by simpa using b2
 have t3:decide (256<(n:Int))=false:=by simp;omega
 clear b1 b2;go_enter func197,ntmps197;go_wp2_with fail;generalize hW0:w.alloc (.cells #[cG Z,.slice a n c] 94)=W0 at *;have hW0s:W0.heap.size=w.heap.size+1:=by rw [<- hW0];simp
 obtain ⟨q0,q1,Q⟩:=Hbox W0 (KU _ _);have hiW:=hi.af Q;clear hW0;go_loop [27] (λD=>∃k:Nat,k<=n/\D = cG k/\Hid ((L.take k).all (λr=>decide ((r.length:Int)=Z))=true)) (λD=>n - (intOf D).toNat);case atStart=>exact ⟨0,K0 _,rfl,by show _=_;simp⟩
 case round =>
  obtain ⟨k,hk,rfl,N⟩:=hrel
  by_cases V:k<n
  ·obtain ⟨ra,rn,rc,E,U⟩:=hiW.cell k V
   have C:=U.len
   have F:k<L.length:=by rw [Y.out];exact V
   rw [aE F] at C
   have Hrl:=Z5 C
   clear C
   by_cases he:(rn:Int)=Z
   ·have he':((rn:Int) != Z)=false:=by simpa using he
    have H:Hid (decide ((L[k].length:Int)=Z)=true):=by show _=_;rw [Hrl.out];simpa using he
    clear he
    go_wp2_with fail
    go_round
    case rel=>exact ⟨k+1,by omega,by go_num,dJ F N.out H.out⟩
    case measure=>simp [intOf] <;> omega
   ·have he':((rn:Int) != Z)=true:=by simpa using he
    have H:Hid (fD G.q Z L=3):=by show _=_;rw [Hm.out,KX];exact dI F (by simp only [Hrl.out];simpa using he)
    clear he
    go_wp2_with fail
    go_ret
    exact ⟨aN H.symm,Q⟩
  ·obtain rfl:k=n:=by omega
   have z:Hid (fD G.q Z L=if L.all (ez G.q) then 0 else 2):=by have:=N.out;rw [K5 (by rw [Y.out];exact KT _)] at this;show _=_;rw [Hm.out,KY (by rw [jk,this];simp)]
   have hG:=h.af Q
   go_wp2_with fail
   go_loop [40] (λD=>∃j:Nat,j<=k/\D = cG j/\Hid ((L.take j).all (ez G.q)=true)) (λD=>k - (intOf D).toNat)
   case atStart=>exact ⟨0,K0 _,rfl,by show _=_;simp⟩
   case round =>
    obtain ⟨j,hj,rfl,X⟩:=hrel
    by_cases V:j<k
    ·obtain ⟨ra,rn,rc,E,U⟩:=hiW.cell j V
     have O:j<L.length:=by rw [Y.out];exact V
     go_wp2_with fail
     refine (zB ra rn rc _ hG U).mono ?_
     rintro e w' ⟨rfl,rfl⟩
     by_cases he:ez G.q (ai L j)=true
     ·have S:iO G.q (ai L j)=0:=by rw [iO,he];rfl
      rw [S]
      rw [aE O] at he
      have He:=Z5 he
      clear he S
      go_wp2_with fail
      go_round
      case rel=>exact ⟨j+1,by omega,by go_num,dJ O X.out He.out⟩
      case measure=>simp [intOf] <;> omega
     ·have S:iO G.q (ai L j)=2:=by rw [iO,KY he]
      rw [S]
      rw [aE O] at he
      have H:Hid (fD G.q Z L=2):=by show _=_;rw [z.out,dI O (by simpa using he)];rfl
      clear he S
      go_wp2_with fail
      go_ret
      exact ⟨aN H.symm,Q⟩
    ·obtain rfl:j=k:=by omega
     have H:Hid (fD G.q Z L=0):=by have:=X.out;rw [K5 (by rw [Y.out];exact KT _)] at this;show _=_;rw [z.out,this];rfl
     go_wp2_with fail
     go_ret
     exact ⟨aN H.symm,Q⟩
end
structure DY (w:World) (a:OA) (n:Nat) (l:List (Int × Ll)):Prop where
 len:l.length=n
 pl:Pl a n
 max:n<=maxLen
 cell:∀i (hi:i<l.length),∃b m c,w.cell? ⟨ablk a,aJ a+i * 2,none⟩=some (cG l[i].1)/\w.cell? ⟨ablk a,aJ a+i * 2+1,none⟩=some (.slice b m c)/\bw w b m l[i].2
theorem DY.af {w w':World} {a:OA} {n:Nat} {l:List (Int × Ll)} (h:DY w a n l) (hb:PY w w'):DY w' a n l:=by refine ⟨h.len,h.pl,h.max,λi hi=>?_⟩;obtain ⟨b,m,c,h1,h2,h3⟩:=h.cell i hi;exact ⟨b,m,c,aB hb h1,aB hb h2,h3.af hb⟩
def matsE (q:Int):List (Int × Ll)->Int
 | []=>0
 | m :: l=>if fD q m.1 m.2=0 then matsE q l else fD q m.1 m.2
theorem Be {q:Int} {l:List (Int × Ll)} {k:Nat} (Z:k<l.length):matsE q (l.drop k)=if fD q l[k].1 l[k].2=0 then matsE q (l.drop (k+1)) else fD q l[k].1 l[k].2:=by rw [LH Z,matsE]
def EZ (P M:Int) (mod:LI) (l:List (Int × Ll)) (w:World) (e:Ending) (w':World):Prop :=
 PY w w'/\(
 (bs P M mod=false/\e = .returned (.tuple #[.pointer none,cG 1])) \/
 (bs P M mod=true/\∃Z,Z ≠ 0/\matsE (ah P M.toNat mod).q l=Z/\e = .returned (.tuple #[.pointer none,cG Z])) \/
 (bs P M mod=true/\matsE (ah P M.toNat mod).q l=0/\∃b,e = .returned (.tuple #[.pointer (some ⟨b,0,none⟩),cG 0])/\dU w' b (ah P M.toNat mod)/\w.heap.size<=b))
theorem yG (P M:Int) (am:OA) (F cm:Nat) (mod:LI) (a:OA) (n c:Nat) (l:List (Int × Ll)) (w:World) (j:Ints w am F mod) (hl:DY w a n l) :
  Calls prog 145 #[.agg #[cG P,cG M,.slice am F cm],.slice a n c] w (EZ P M mod l w):=by
 have hpl:=hl.pl;have hlen:=hl.len;have r:=hl.max;unfold maxLen at r;have Q:=Z5 hlen;clear hlen;have Hal:=Z5 ((KU w.heap.size w).alloc (KT _) (.cells #[cG P,cG M,.slice am F cm] 24));go_enter func145,ntmps145;go_wp2_with fail;have S:=Hal.out;generalize w.alloc (.cells #[cG P,cG M,.slice am F cm] 24)=W0 at *;refine (dH P M am F cm mod W0 (j.af S)).mono ?_;rintro e w1 (⟨hB,rfl,N⟩ | ⟨hB,b,rfl,hGs,hbl,N⟩)
 ·have HB:=Z5 hB;clear hB;have Y:=Pm S N;go_wp2_with fail;go_ret2;exact ⟨Y,.inl ⟨HB,rfl⟩⟩
 ·have HB:=Z5 hB;clear hB;have Y:=Pm S N;have hbb:w.heap.size<=b:=K9 S.size hbl;have hG:=hGs.gf;clear hGs;generalize hT:ah P M.toNat mod=G at *;have HT:=Z5 hT;clear hT;go_wp2_with fail;go_loopw [20] (λiv wr=>∃k:Nat,k<=n/\iv = cG k/\Hid (matsE G.q l=matsE G.q (l.drop k))/\PY w1 wr) (λiv _=>n - (intOf iv).toNat);case atStart=>exact ⟨0,K0 _,rfl,by show _=_;simp,KU _ _⟩
  case round =>
   obtain ⟨k,hk,rfl,U,K⟩:=hrel
   have O:=Pm Y K
   by_cases hlt:k<n
   ·have A:k<l.length:=by rw [Q.out];exact hlt
    have hlr:=hl.af O
    obtain ⟨rb,rm,rc,c1,c2,hM⟩:=hlr.cell k A
    have V:=Be (q:=G.q) A
    have X:=Z5 V
    clear V
    generalize l[k].1=Z at *
    generalize l[k].2=L at *
    have D:=Z5 ((KU wr.heap.size wr).alloc (KT _) (.cells #[cG Z,.slice rb rm rc] 94))
    go_wp2_with fail
    have H:=D.out
    generalize wr.alloc (.cells #[cG Z,.slice rb rm rc] 94)=W2 at *
    have z:PY w1 W2:=Pm K H
    refine (DU Z rb rm rc L (hG.af z) (hM.af H)).mono ?_
    rintro e w3 ⟨rfl,hb3⟩
    have E:PY w1 w3:=Pm z hb3
    by_cases he:fD G.q Z L=0
    ·have C:Hid (matsE G.q l=matsE G.q (l.drop (k+1))):=by show _=_;rw [U.out,X.out,KX he]
     rw [he]
     clear he
     go_wp2_with fail
     go_roundw
     case rel=>exact ⟨k+1,by omega,by go_num,C,E⟩
     case measure=>simp [intOf] <;> omega
    ·have C:Hid (matsE G.q l=fD G.q Z L):=by show _=_;rw [U.out,X.out,KY he]
     generalize fD G.q Z L=er at *
     have he':(er != 0)=true:=by simpa using he
     have He:Hid (er ≠ 0):=he
     clear he
     go_wp2_with fail
     go_ret2
     exact ⟨Pm Y E,.inr (.inl ⟨HB,er,He,by rw [HT.out];exact C.out,rfl⟩)⟩
   ·obtain rfl:k=n:=by omega
    have C:Hid (matsE G.q l=0):=by show _=_;rw [U.out,Nu (by rw [Q.out];exact KT _)];rfl
    go_wp2_with fail
    go_ret2
    exact ⟨O,.inr (.inr ⟨HB,by rw [HT.out];exact C.out,b,rfl,by rw [HT.out];exact hG.af K,hbb⟩)⟩
section
def j8 (r:OA × Nat) (l:LI):Value:=.slice r.1 l.length r.2
def aM (R:LA) (i:Nat):OA × Nat:=R.getD i (none,0)
theorem fJ {l:LA} {i:Nat} (h:i<l.length):aM l i=l[i]:=by simp [aM,h]
theorem jm (l:LA) (i j:Nat) (x:OA × Nat) (hi:i<l.length):aM (l.set i x) j=if j=i then x else aM l j:=by
 unfold aM;simp only [KZ,Md];by_cases h:i=j
 ·subst h;simp [hi]
 ·rw [KY h,KY (by omega)]
theorem eC (l:Ll) (i j:Nat) (x:LI) (hi:i<l.length):ai (l.set i x) j=if j=i then x else ai l j:=by
 unfold ai;simp only [KZ,Md];by_cases h:i=j
 ·subst h;simp [hi]
 ·rw [KY h,KY (by omega)]
theorem sq (n i:Nat):ai (List.replicate n []) i=[]:=by simp only [ai,KZ,Ls];split <;> rfl
theorem ji (n i:Nat):aM (List.replicate n (none,0)) i=(none,0):=by simp only [aM,KZ,Ls];split <;> rfl
theorem wO (R:LA) (L:Ll) (i:Nat) (r:OA × Nat) (l:LI) :
  (List.zipWith j8 R L).set i (j8 r l)=List.zipWith j8 (R.set i r) (L.set i l):=by
 apply N2;intro j;simp only [Md,ND,Mm];by_cases h:i=j
 ·subst h;by_cases h1:i<R.length <;> by_cases h2:i<L.length <;> simp [h1,h2,show ¬ (i<R.length/\i<L.length)->¬ i<min R.length L.length from by omega];exact Nat.lt_min.2 ⟨h1,h2⟩
 ·simp [h]
structure aO (w:World) (B:Nat) (a:OA) (n c:Nat) (R:LA) (L:Ll):Prop where
 rl:R.length=n
 ll:L.length=n
 own:w.ownsRow B 22 1 (.slice a n c) n (List.zipWith j8 R L)
 row:∀i,i<n->w.ownsRow B 3 1 (.slice (aM R i).1 (ai L i).length (aM R i).2) (ai L i).length ((ai L i).map (Value.int .i64))
 tq:∀i,i<n->eY (aM R i).1 (ablk a)
 sep:∀i j,i<n->j<n->i ≠ j->(aM R i).1=none\/eY (aM R j).1 (ablk (aM R i).1)
def bQ (a:OA) (R:LA) (b:Nat):Prop:=(a ≠ none/\b=ablk a)\/∃i,i<R.length/\(aM R i).1 ≠ none/\b=ablk (aM R i).1
structure aC (w w':World) (I I':Nat->Prop):Prop where
 os:w'.os=w.os
 tape:w'.tape=w.tape
 output:w'.output=w.output
 size:w.heap.size<=w'.heap.size
 block:∀b,b<w.heap.size->¬ I b->w'.heap[b]? = w.heap[b]?
 grow:∀b,I' b->I b\/w.heap.size<=b
variable {w w' w'':World} {B:Nat} {a:OA} {n c:Nat} {R:LA} {L:Ll} {I I' I'':Nat -> Prop}
theorem aC.refl (w:World) (I:Nat->Prop):aC w w I I:=⟨rfl,rfl,rfl,KT _,λ_ _ _=>rfl,λ_ h=>.inl h⟩
theorem aC.trans (h:aC w w' I I') (k:aC w' w'' I' I''):aC w w'' I I'' := by
 refine ⟨k.os.trans h.os,k.tape.trans h.tape,k.output.trans h.output,K9 h.size k.size,λb hb hI=>?_,λb hb=>?_⟩
 ·refine (k.block b (Lx hb h.size) λZ=>?_).trans (h.block b hb hI);rcases h.grow b Z with h2 | h2
  ·exact hI h2
  ·omega
 ·rcases k.grow b hb with h2 | h2
  ·exact h.grow b h2
  ·exact .inr (K9 h.size h2)
theorem aC.aV (h:PY w w') (I:Nat->Prop):aC w w' I I:=⟨h.os,h.tape,h.output,h.size,λb hb _=>h.block b hb,λ_ h=>.inl h⟩
theorem aC.below (h:aC w w' I I') (hI:∀b,I b->B<=b) (Z:B<=w.heap.size):Below B w w' :=
 ⟨h.os,h.tape,h.output,h.size,λb hb=>h.block b (Lx hb Z) λhi=>by have:=hI b hi;omega⟩
theorem aC.cell (h:aC w w' I I') {p:Addr} {v:Value} (Z:w.cell? p=some v) (hI:¬ I p.block):w'.cell? p=some v :=
 (Lu (w:=w) (a:=p) (h.block _ (Lb w _ Z) hI)).trans Z
theorem aC.not (h:aC w w' I I') {b:Nat} (hb:b<w.heap.size) (hI:¬ I b):¬ I' b:=λZ=>by
 rcases h.grow b Z with h2 | h2
 ·exact hI h2
 ·omega
theorem aC.own (h:aC w w' I I') {e:TypeId} {a:OA} {c n:Nat} {xs:List Value} (Z:w.ownsRow B e 1 (.slice a n c) n xs) (hI:a ≠ none->¬ I (ablk a)):w'.ownsRow B e 1 (.slice a n c) n xs:=by
 rcases lT Z with ⟨rfl,rfl,rfl⟩ | ⟨_,Y⟩
 ·have X:=jB Z;obtain rfl:xs=[]:=Lw X;exact cU
 ·by_cases ha:a=none
  ·subst ha;refine ⟨Z.1,?_⟩;rcases Z.2 with h2 | ⟨g,cap,cur,V,_⟩
   ·exact .inl h2
   ·cases V
  ·exact fg Z (h.block _ Y (hI ha))
theorem aT {w:World} {e:TypeId} {a:OA} {c n:Nat} {xs:List Value} (Z:w.ownsRow B e 1 (.slice a n c) n xs) (ha:a ≠ none):B<=ablk a/\ablk a<w.heap.size:=by
 rcases lT Z with ⟨rfl,_⟩ | h
 ·exact absurd rfl ha
 ·exact h
namespace aO
theorem lt (h:aO w B a n c R L) (b:Nat) (hb:bQ a R b):B<=b/\b<w.heap.size:=by
 rcases hb with ⟨h1,rfl⟩ | ⟨i,hi,h1,rfl⟩
 ·exact aT h.own h1
 ·exact aT (h.row i (by rw [h.rl] at hi;exact hi)) h1
theorem new (h:aO w B a n c R L) {b:Nat} (hb:w.heap.size<=b):¬ bQ a R b:=λZ=>by have:=h.lt b Z;omega
theorem l7 (h:aO w B a n c R L) {b:Nat} (hb:b<B):¬ bQ a R b:=λZ=>by have:=h.lt b Z;omega
theorem kg {i:Nat} (h:i<R.length) (h1:(aM R i).1 ≠ none):bQ a R (ablk (aM R i).1):=.inr ⟨i,h,h1,rfl⟩
theorem bp (h:aO w B a n c R L) (hb:∀b,bQ a R b->w'.heap[b]? = w.heap[b]?):aO w' B a n c R L:=by
 have key:∀ {e:TypeId} {a':OA} {c m:Nat} {xs:List Value},w.ownsRow B e 1 (.slice a' m c) m xs->(a' ≠ none->w'.heap[ablk a']? = w.heap[ablk a']?)->w'.ownsRow B e 1 (.slice a' m c) m xs:=by
  intro e a' c m xs Z X;by_cases ha:a'=none
  ·subst ha;refine ⟨Z.1,?_⟩;rcases Z.2 with h2 | ⟨g,cap,cur,Y,_⟩
   ·exact .inl h2
   ·cases Y
  ·exact fg Z (X ha)
 exact ⟨h.rl,h.ll,key h.own λha=>hb _ (.inl ⟨ha,rfl⟩),λi hi=>key (h.row i hi) λha=>hb _ (kg (by rw [h.rl];exact hi) ha),h.tq,h.sep⟩
theorem af (h:aO w B a n c R L) (hb:PY w w'):aO w' B a n c R L:=h.bp λb hi=>hb.block b (h.lt b hi).2
theorem mono {B':Nat} (h:aO w B a n c R L) (Z:B'<=B):aO w B' a n c R L:=⟨h.rl,h.ll,aY h.own Z,λi hi=>aY (h.row i hi) Z,h.tq,h.sep⟩
theorem ints (h:aO w B a n c R L) {i:Nat} (hi:i<n):Ints w (aM R i).1 (ai L i).length (ai L i):=(Pn (h.row i hi)).1
theorem cell (h:aO w B a n c R L) {i:Nat} (hi:i<n):w.cell? ⟨ablk a,aJ a+i,none⟩=some (.slice (aM R i).1 (ai L i).length (aM R i).2):=by
 rw [(bH h.own i hi).1,ND,LC (show i<R.length by rw [h.rl];exact hi),LC (show i<L.length by rw [h.ll];exact hi),
  fJ (by rw [h.rl];exact hi),aE (by rw [h.ll];exact hi)]
 rfl
theorem frozen (h:aO w B a n c R L) {i:Nat} (hi:i<n):w.frozen? ⟨ablk a,aJ a+i,none⟩=false:=(bH h.own i hi).2.1
theorem pl (h:aO w B a n c R L):Pl a n:=by obtain ⟨a',X,Z,Y⟩:=PG h.own;cases Z;exact Y
theorem ne (h:aO w B a n c R L) (Z:0<n):a ≠ none:=by intro ha;have:=h.pl Z;rw [ha] at this;cases this
theorem max (h:aO w B a n c R L):n<=maxLen:=by
 rcases MI n with h0 | h0
 ·subst h0;unfold maxLen;omega
 ·exact (bH h.own 0 h0).2.2.2.2
theorem iZ (h:aO w B a n c R L):bw w a n L:=⟨h.ll,h.pl,h.max,λ_ hi=>⟨_,_,_,h.cell hi,h.ints hi⟩⟩
theorem setRow (h:aO w B a n c R L) {i:Nat} (hi:i<n) {r:OA} {rc:Nat} {l:LI} (N:w.ownsRow B 3 1 (.slice r l.length rc) l.length (l.map (Value.int .i64)))
  (ha:eY r (ablk a)) (S:∀j,j<n->j ≠ i->(aM R j).1=none\/eY r (ablk (aM R j).1)) :
  aO (w.setCell ⟨ablk a,aJ a+i,none⟩ (.slice r l.length rc)) B a n c (R.set i (r,rc)) (L.set i l):=by
 have Z:i<R.length:=by rw [h.rl];exact hi
 have U:i<L.length:=by rw [h.ll];exact hi
 have flip:∀ {x y:OA},(x=none\/eY y (ablk x))->(y=none\/eY x (ablk y)):=by
  intro x y V;rcases V with rfl | rfl | h2
  ·exact .inr (.inl rfl)
  ·exact .inl rfl
  ·exact .inr (.inr λe=>h2 e.symm)
 refine ⟨by simp [h.rl],by simp [h.ll],?_,λj Y=>?_,λj Y=>?_,λj k Y O X=>?_⟩
 ·have:=bA h.own i hi (.slice r l.length rc);rwa [show (List.zipWith j8 R L).set i (.slice r l.length rc)=_ from wO R L i (r,rc) l] at this
 ·rw [jm _ _ _ _ Z,eC _ _ _ _ U];by_cases e:j=i
  ·simp only [KX e];exact ee N _ ha
  ·simp only [KY e];exact ee (h.row j Y) _ (h.tq j Y)
 ·rw [jm _ _ _ _ Z];by_cases e:j=i
  ·simp only [KX e];exact ha
  ·simp only [KY e];exact h.tq j Y
 ·rw [jm _ _ _ _ Z,jm _ _ _ _ Z];by_cases e:j=i
  ·simp only [KX e,KY (show ¬ k=i by omega)];exact flip (S k O (by omega))
  ·simp only [KY e];by_cases Q:k=i
   ·simp only [KX Q];exact S j Y e
   ·simp only [KY Q];exact h.sep j k Y O X
theorem jS (h:aO w B a n c R L) {w':World} (Y:PY w w') {i:Nat} (hi:i<n) {r:OA} {rc:Nat} (v:Value) (U:r ≠ none->bQ a R (ablk r)\/w.heap.size<=ablk r) :
  aC w (w'.setCell ⟨ablk a,aJ a+i,none⟩ v) (bQ a R) (bQ a (R.set i (r,rc))):=by
 have X:i<R.length:=by rw [h.rl];exact hi
 have Z:Below 0 w (w'.setCell ⟨ablk a,aJ a+i,none⟩ v):=(Y.mono (K0 _)).setCell (K0 _) v;refine ⟨Z.os,Z.tape,Z.output,Z.size,λb hb hI=>(Lf _ _ _ _ λe=>hI (.inl ⟨h.ne (by omega),e⟩)).trans (Y.block b hb),λb hb=>?_⟩;rcases hb with hb | ⟨j,V,h1,rfl⟩
 ·exact .inl (.inl hb)
 ·rw [LZ] at V;rw [jm _ _ _ _ X] at h1 ⊢;by_cases e:j=i
  ·simp only [KX e] at h1 ⊢;exact U h1
  ·simp only [KY e] at h1 ⊢;exact .inl (.inr ⟨j,V,h1,rfl⟩)
theorem Jc (h:aO w B a n c R L) {i:Nat} (hi:i<n) {l:LI} (U:l.length=(ai L i).length)
  (X:w'.ownsRow B 3 1 (.slice (aM R i).1 (ai L i).length (aM R i).2) (ai L i).length (l.map (Value.int .i64)))
  (O:∀b,b<w.heap.size->((aM R i).1=none\/b ≠ ablk (aM R i).1)->w'.heap[b]? = w.heap[b]?):aO w' B a n c R (L.set i l):=by
 have V:i<R.length:=by rw [h.rl];exact hi
 have Z:i<L.length:=by rw [h.ll];exact hi
 have key:∀ {e:TypeId} {a':OA} {c m:Nat} {xs:List Value},w.ownsRow B e 1 (.slice a' m c) m xs->((aM R i).1=none\/a'=none\/ablk a' ≠ ablk (aM R i).1)->w'.ownsRow B e 1 (.slice a' m c) m xs:=by
  intro e a' c m xs X Y;by_cases ha:a'=none
  ·subst ha;refine ⟨X.1,?_⟩;rcases X.2 with h2 | ⟨g,cap,cur,Q,_⟩
   ·exact .inl h2
   ·cases Q
  ·exact fg X (O _ (aT X ha).2 (by rcases Y with Y | Y | Y;exact .inl Y;exact absurd Y ha;exact .inr Y))
 refine ⟨h.rl,by simp [h.ll],?_,λj S=>?_,h.tq,h.sep⟩
 ·have e:List.zipWith j8 R (L.set i l)=List.zipWith j8 R L:=by
   apply N2;intro j;simp only [ND,Md];by_cases e:i=j
   ·subst e;simp only [Z,if_true,LC V,LC Z];rw [aE Z] at U;simp [j8,U]
   ·simp [e]
  rw [e];exact key h.own (by rcases h.tq i hi with h2 | h2;exact .inl h2;exact .inr (.inr λe=>h2 e.symm))
 ·rw [eC _ _ _ _ Z];by_cases e:j=i
  ·subst e;simp only [if_true,U];exact X
  ·simp only [KY e];refine key (h.row j S) ?_;rcases h.sep i j hi S (by omega) with h2 | h2 | h2
   ·exact .inl h2
   ·exact .inr (.inl h2)
   ·exact .inr (.inr h2)
end aO
theorem uj {w:World} {B:Nat} {a:OA} {n c:Nat} (h:w.ownsRow B 22 1 (.slice a n c) n (List.replicate n ds)) :
  aO w B a n c (List.replicate n (none,0)) (List.replicate n []):=by
 refine ⟨by simp,by simp,?_,λi hi=>?_,λi hi=>?_,λi j hi Y Z=>?_⟩
 ·simpa [j8] using h
 ·rw [sq,ji];exact cU
 ·rw [ji];exact .inl rfl
 ·rw [ji];exact .inl rfl
end
section
variable {w:World} {b:Nat} {G:cZ}
theorem Ints.Gt {w:World} {n:Nat} {l:LI} (h:Ints w none n l):n=0/\l=[]:=by
 have h0:n=0:=by
  rcases MI n with h0 | h0
  ·exact h0
  ·have:=h.pl h0;cases this
 exact ⟨h0,Lw (by rw [h.len];exact h0)⟩
theorem dp (a:OA) (n c:Nat) (l:LI) (hi:Ints w a n l) (F:n<=1000000) :
  Calls prog 115 #[.slice a n c] w (cQ w l):=by
 have heq:=λ(w:World) (a:OA) (l c:Nat)=>Go.run_eql_slice_nil (P:=prog) w 22 3 a l c underlying22;by_cases ha:a=none
 ·subst ha;obtain ⟨rfl,rfl⟩:=hi.Gt;have S:(none:OA).isNone=true:=rfl;go_enter func115,ntmps115;go_wp2_with fail;go_ret;exact ⟨none,0,rfl,cU,KU _ _⟩
 ·have S:a.isNone=false:=by cases a with | none=>exact absurd rfl ha | some x=>rfl
  have hlen:=hi.len;have X:=Z5 hlen;have K:=fK w 3;have Q:=Z5 ((KU w.heap.size w).alloc (KT _) (.cells #[] 3));clear ha hlen;go_enter func115,ntmps115;go_upto_region 3 with fail;iterate 7 go_step
  have Y:=Q.out;generalize w.alloc (.cells #[] 3)=W0 at *;have U:=hi.af Y;refine en (by rfl) (.tmp 5) (.tmp 6) 22 3 (by rfl) (cG 0) 8 underlying22 bh (by rfl) w.heap.size _ 0 0 [] (by rfl) K a n c (l.map (Value.int .i64)) (by rfl) U.pl (by simp [X.out]) (Px U) (ints_oneCell _ _) (by omega) (by unfold maxLen;omega) (Ml Y) ?_;intro a3 H w3 Z V N;have O:PY w w3:=Pp (B:=w.heap.size) (e:=3) (xs:=[]) Y K V (KT _) (Ml Y);rw [MR] at Z ⊢;rw [L3] at Z;go_wp2_with fail;go_ret;exact ⟨a3,H,by rw [X.out];rfl,by rw [X.out];exact Z,O⟩
def Fv (w:World) (L:Ll) (e:Ending) (w':World):Prop :=
 ∃a c R,e = .returned (.slice a L.length c)/\aO w' w.heap.size a L.length c R L/\PY w w'
theorem dw:(prog.info? 22).map (λi=>(i.zero,i.size,i.bytes))=some (some ds,1,24):=by kernel_rfl
def jr (n k:Nat) (L:Ll):Ll:=L.take k ++ List.replicate (n - k) []
theorem rJ {n k:Nat} {L:Ll} (Y:k<n) (Z:L.length=n):(jr n k L).set k (ai L k)=jr n (k+1) L:=by
 unfold jr;have e1:(L.take k).length=k:=by simp;omega
 rw [K4 (by omega),NB (h:=by omega),e1,show n - k=(n - (k+1))+1 by omega,NR,NT,K1,LW,aE (by omega)];rfl
theorem sR {n:Nat} {L:Ll} (Z:L.length=n):jr n n L=L:=by simp [jr,K5 (show L.length<=n by omega)]
theorem DR (a:OA) (n c:Nat) (L:Ll) (hi:bw w a n L) (z:n<=1000000) (hL:∀l ∈ L,l.length<=1000000) :
  Calls prog 222 #[.slice a n c] w (Fv w L):=by
 have hpl:=hi.pl;have Z:=Z5 hi.len;have HL:=Z5 hL;clear hL;go_enter func222,ntmps222;go_wp2_with (at_make;refine bV rfl _ _ 25 22 rfl ds 24 underlying25 dw rfl n rfl rfl (by omega) (by unfold maxLen;omega) ?_;intro a1 w1 N C hge X);have V:=uj N;have hO1:∃R,aO w1 w.heap.size a1 n n R (jr n 0 L):=⟨_,by simpa [jr] using V⟩
 clear V N;go_loopw [11] (λiv wr=>∃k:Nat,k<=n/\iv = cG k/\(∃R,aO wr w.heap.size a1 n n R (jr n k L))/\PY w wr) (λiv _=>n - (intOf iv).toNat);case atStart=>exact ⟨0,K0 _,rfl,hO1,C⟩
 case round =>
  obtain ⟨k,hk,rfl,⟨R,V⟩,Q⟩:=hrel
  by_cases X:k<n
  ·have r:=hi.af Q
   obtain ⟨ra,rn,rc,hcell,K⟩:=r.cell k X
   have F:k<L.length:=by rw [Z.out];exact X
   have hrl:rn<=1000000:=by rw [<- K.len,aE F];exact HL _ (Ly F)
   have O:=rJ X Z.out
   have A:=Z5 O
   clear O
   have hpl1:=V.pl
   generalize ai L k=l at *
   go_wp2_with fail
   refine (dp ra rn rc l K hrl).mono ?_
   rintro e w3 ⟨a3,c3,rfl,Y,D⟩
   have U:=V.af D
   have hf:=U.frozen X
   have hc:=U.cell X
   have hB:=(aO.lt U (ablk a1) (.inl ⟨U.ne (by omega),rfl⟩)).1
   have H:=Pm Q D
   have hsz:=Q.size
   have S:=aO.setRow U X (aY Y hsz) (kO Y (aO.lt V (ablk a1) (.inl ⟨V.ne (by omega),rfl⟩)).2) (λj hj _=>by
    by_cases z:(aM R j).1=none
    ·exact .inl z
    ·exact .inr (kO Y (aO.lt V _ (aO.kg (by rw [V.rl];exact hj) z)).2))
   rw [A.out] at S
   have E:=Z5 S
   clear S
   go_wp2_with fail
   go_roundw
   case rel=>exact ⟨k+1,by omega,by go_num,⟨_,E⟩,H.setCell hB _⟩
   case measure=>simp [intOf] <;> omega
  ·obtain rfl:k=n:=by omega
   rw [sR Z.out] at V
   go_wp2_with fail
   go_ret
   exact ⟨a1,k,R,by rw [Z.out];rfl,by rw [Z.out];exact V,Q⟩
end
structure aP where
 add:Int->Int->Int
 mul:Int->Int->Int
 neg:Int->Int
 inv:Int->Int
def bX (O:aP) (v:LI) (s:Int) (u:LI):LI:=List.zipWith (λp q=>if q=0 then p else O.add p (O.mul s q)) v u
theorem dm (O:aP) (v:LI) (s:Int) (u:LI) (h:u.length=v.length):(bX O v s u).length=v.length:=by simp [bX,h]
theorem gj (O:aP) (v:LI) (s:Int) (u:LI) (i:Nat) (h:u.length=v.length) (hi:i<v.length) :
  nth (bX O v s u) i=if nth u i=0 then nth v i else O.add (nth v i) (O.mul s (nth u i)):=by rw [aj (show i<(bX O v s u).length by rw [dm _ _ _ _ h];exact hi),aj (show i<u.length by omega),aj hi];simp [bX]
theorem mW (new l7:LI) (j:Nat) (h:new.length=l7.length) (Y:j<l7.length) (e:nth new j=nth l7 j):gv new l7 (j+1)=gv new l7 j:=by
 rw [<- fh new l7 j h Y,e];refine gJ (by simp) λi hi=>?_;have X:=iS new l7 j h (by omega);rw [dS _ _ _ _ (by omega)];by_cases Z:i=j
 ·subst Z;rw [KX rfl,eA _ _ _ _ h (by omega),KY (by omega)]
 ·rw [KY Z]
def findTo (L:Ll) (c:Nat):Nat->Nat->Nat
 | k,0=>k
 | k,f+1=>if nth (ai L k) c=0 then findTo L c (k+1) f else k
def bd (L:Ll) (c k:Nat):Nat:=findTo L c k (L.length - k)
theorem uR (L:Ll) (c:Nat):∀f k,k<=findTo L c k f/\findTo L c k f<=k+f
 | 0,k=>by simp [findTo]
 | f+1,k=>by have:=uR L c f (k+1);unfold findTo;split <;> omega
theorem il (L:Ll) (c:Nat):∀f k,findTo L c k f<k+f->nth (ai L (findTo L c k f)) c ≠ 0
 | 0,k,h=>by simp [findTo] at h
 | f+1,k,h=>by
  unfold findTo at h ⊢;split
  ·rename_i h0;rw [KX h0] at h;exact il L c f (k+1) (by omega)
  ·assumption
theorem lF (L:Ll) (c:Nat):∀f k i,k<=i->i<findTo L c k f->nth (ai L i) c=0
 | 0,k,i,h1,h2=>by simp [findTo] at h2;omega
 | f+1,k,i,h1,h2=>by
  unfold findTo at h2;split at h2
  ·rename_i h0;rcases ON h1 with h3 | h3
   ·rw [<- h3];exact h0
   ·exact lF L c f (k+1) i h3 h2
  ·omega
theorem gD {L:Ll} {c k:Nat} (Z:k<L.length):bd L c k=if nth (ai L k) c=0 then bd L c (k+1) else k:=by unfold bd;rw [show L.length - k=(L.length - (k+1))+1 by omega,findTo]
theorem jK {L:Ll} {c k:Nat} (Z:L.length<=k):bd L c k=k:=by unfold bd;rw [show L.length - k=0 by omega,findTo]
theorem kZ {L:Ll} {c k:Nat} (Z:k<=L.length):k<=bd L c k/\bd L c k<=L.length:=by have:=uR L c (L.length - k) k;unfold bd;omega
def bj (L:Ll) (i j:Nat):Ll:=(L.set i (ai L j)).set j (ai L i)
def cR (O:aP) (Z:LI) (c:Nat) (r:LI):LI:=if nth r c=0 then r else bX O r (O.neg (nth r c)) Z
def clearTo (O:aP) (t c:Nat) (L:Ll):Nat->Ll
 | 0=>L
 | i+1=>if i=t then clearTo O t c L i else (clearTo O t c L i).set i (cR O (ai (clearTo O t c L i) t) c (ai (clearTo O t c L i) i))
def bu (O:aP) (L:Ll) (t c:Nat):Ll:=if O.inv (nth (ai L t) c)=1 then L else L.set t ((ai L t).map (O.mul (O.inv (nth (ai L t) c))))
def eD (O:aP) (L:Ll) (t k c:Nat):Ll :=
 let Y:=if k=t then L else bj L t k
 let Z:=bu O Y t c
 clearTo O t c Z Z.length
def aD (O:aP) (L:Ll):Nat->Ll × LI
 | 0=>(L,[])
 | c+1 =>
  let s:=aD O L c
  if s.2.length<s.1.length then
   if bd s.1 c s.2.length=s.1.length then s
   else (eD O s.1 s.2.length (bd s.1 c s.2.length) c,s.2 ++ [(c:Int)])
  else s
theorem bC (L:Ll) (i j:Nat):(bj L i j).length=L.length:=by simp [bj]
theorem dA (O:aP) (t c:Nat) (L:Ll):∀i,(clearTo O t c L i).length=L.length
 | 0=>rfl
 | i+1=>by unfold clearTo;split <;> simp [dA O t c L i]
theorem dy (O:aP) (L:Ll) (t c:Nat):(bu O L t c).length=L.length:=by unfold bu;split <;> simp
theorem ek (O:aP) (L:Ll) (t k c:Nat):(eD O L t k c).length=L.length:=by unfold eD;simp only [dA,dy];split <;> simp [bC]
theorem bN (O:aP) (L:Ll):∀c,(aD O L c).1.length=L.length
 | 0=>rfl
 | c+1=>by
  unfold aD;simp only;split
  ·split <;> simp [ek,bN O L c]
  ·exact bN O L c
theorem ei (O:aP) (L:Ll):∀c,(aD O L c).2.length<=c/\(aD O L c).2.length<=L.length
 | 0=>by simp [aD]
 | c+1=>by
  have Y:=ei O L c;have Z:=bN O L c;unfold aD;simp only;split
  ·split
   ·omega
   ·simp only [K6,Lo];omega
  ·omega
def bt (El:Int->Prop) (m:Nat) (L:Ll):Prop:=∀r ∈ L,r.length=m/\∀x ∈ r,El x
theorem lO {L:Ll} {i:Nat} (h:L.length<=i):ai L i=[]:=by simp [ai,Mc h]
theorem bt.row {El:Int->Prop} {m:Nat} {L:Ll} (h:bt El m L) {i:Nat} (hi:i<L.length):(ai L i).length=m/\∀x ∈ ai L i,El x:=h _ (eZ hi)
theorem bt.set {El:Int->Prop} {m:Nat} {L:Ll} (h:bt El m L) (i:Nat) {r:LI} (Z:r.length=m/\∀x ∈ r,El x):bt El m (L.set i r):=by
 intro x Y;rcases Mj Y with h1 | rfl
 ·exact h x h1
 ·exact Z
structure qC (O:aP) (El:Int->Prop):Prop where
 add:∀x y,El x->El y->El (O.add x y)
 mul:∀x y,El x->El y->El (O.mul x y)
 neg:∀x,El x->El (O.neg x)
 inv:∀x,El x->x ≠ 0->El (O.inv x)
theorem o0 {O:aP} {El:Int->Prop} (X:qC O El) {v u:LI} {s:Int} (Y:∀x ∈ v,El x) (hu:∀x ∈ u,El x) (V:El s):∀x ∈ bX O v s u,El x:=by
 intro x Z;unfold bX at Z;rw [NM] at Z;obtain ⟨i,hi,rfl⟩:=Z;rw [Ni];simp only [Mm] at hi;split
 ·exact Y _ (Ly _)
 ·exact X.add _ _ (Y _ (Ly _)) (X.mul _ _ V (hu _ (Ly _)))
theorem bt.swap {El:Int->Prop} {m:Nat} {L:Ll} (h:bt El m L) {i j:Nat} (hi:i<L.length) (Z:j<L.length):bt El m (bj L i j) :=
 (h.set i (h.row Z)).set j (h.row hi)
theorem bt.cR {O:aP} {El:Int->Prop} {m:Nat} (X:qC O El) {r Y:LI} {c:Nat} (U:c<m) (Z:r.length=m/\∀x ∈ r,El x) (V:Y.length=m/\∀x ∈ Y,El x) :
  (cR O Y c r).length=m/\∀x ∈ cR O Y c r,El x:=by
 unfold Proofs.YthglbncgemdcbaaGreat.cR;split
 ·exact Z
 ·exact ⟨by rw [dm _ _ _ _ (by omega)];exact Z.1,o0 X Z.2 V.2 (X.neg _ (Z.2 _ (aG (by omega))))⟩
theorem bt.clear {O:aP} {El:Int->Prop} {m:Nat} {L:Ll} (Y:qC O El) (h:bt El m L) {t c:Nat} (V:t<L.length) (X:c<m):∀i,i<=L.length->bt El m (clearTo O t c L i)
 | 0,_=>h
 | i+1,hi=>by
  have Z:=bt.clear Y h V X i (by omega);unfold clearTo;split
  ·exact Z
  ·exact Z.set i (bt.cR Y X (Z.row (by rw [dA];omega)) (Z.row (by rw [dA];omega)))
theorem bt.norm {O:aP} {El:Int->Prop} {m:Nat} {L:Ll} (Y:qC O El) (h:bt El m L) {t c:Nat} (Z:t<L.length) (U:c<m) (h0:nth (ai L t) c ≠ 0):bt El m (bu O L t c):=by
 unfold bu;split
 ·exact h
 ·refine h.set t ⟨by rw [Lc];exact (h.row Z).1,λx X=>?_⟩;obtain ⟨y,V,rfl⟩:=List.mem_map.1 X;exact Y.mul _ _ (Y.inv _ ((h.row Z).2 _ (aG (by rw [(h.row Z).1];exact U))) h0) ((h.row Z).2 y V)
theorem gw {O:aP} {L:Ll} {k:Nat} (h:(aD O L k).2.length=L.length):∀d,aD O L (k+d)=aD O L k
 | 0=>rfl
 | d+1=>by have Z:=gw h d;show aD O L ((k+d)+1)=_;rw [aD];simp only [Z];rw [KY (by rw [bN];omega)]
theorem dZ {O:aP} {L Lk:Ll} {P:LI} {k:Nat} (h:(Lk,P)=aD O L k) (Z:P.length<Lk.length) :
  aD O L (k+1)=if bd Lk k P.length=Lk.length then (Lk,P) else (eD O Lk P.length (bd Lk k P.length) k,P ++ [(k:Int)]):=by rw [aD];simp only [<- h];rw [KX Z]
theorem i9 (O:aP) (L:Ll) (t k c:Nat):eD O L t k c=clearTo O t c (bu O (if k=t then L else bj L t k) t c) L.length:=by unfold eD;simp only [dy];split <;> simp [bC]
section
def bg (w w':World):Prop:=∃n,w'=w.drewN n
theorem bg.refl (w:World):bg w w:=⟨0,rfl⟩
theorem bg.drewN {w w':World} (h:bg w w') (n:Nat):bg w (w'.drewN n):=by obtain ⟨m,rfl⟩:=h;exact ⟨m+n,by rw [World.drewN_drewN]⟩
theorem bg.drew {w w':World} (h:bg w w'):bg w w'.drew:=h.drewN 1
theorem bg.below {w w':World} (h:bg w w'):PY w w':=by obtain ⟨m,rfl⟩:=h;exact below_drewN (KU _ _) m
theorem bg.cell {w w':World} (h:bg w w') {p:Addr} {v:Value} (Z:w.cell? p=some v):w'.cell? p=some v:=by obtain ⟨m,rfl⟩:=h;exact Z
theorem bg.frozen {w w':World} (h:bg w w') {p:Addr} {v:Bool} (Z:w.frozen? p=v):w'.frozen? p=v:=by obtain ⟨m,rfl⟩:=h;exact Z
theorem bg.Ag {Z w w':World} {B:Nat} (h:bg w w') (hb:Below B Z w):Below B Z w':=by obtain ⟨m,rfl⟩:=h;exact below_drewN hb m
def cZ.ops (G:cZ):aP:=⟨G.add,G.mul,G.neg,G.inv⟩
theorem cZ.cl {w:World} {b:Nat} {G:cZ} (h:dU w b G):qC G.ops G.El:=⟨λx y _ _=>cZ.FG h x y,λx y _ _=>cZ.kW h x y,λx _=>cZ.u9 h x,λx _ _=>cZ.vS h x⟩
def db (a:OA) (w w':World):Prop:=aC w w' (λb=>a ≠ none/\b=ablk a) (λb=>a ≠ none/\b=ablk a)
theorem db.refl (a:OA) (w:World):db a w w:=aC.refl _ _
theorem db.trans {a:OA} {w w' w'':World} (h:db a w w') (k:db a w' w''):db a w w'' := aC.trans h k
theorem db.drawn {a:OA} {w w':World} (h:bg w w'):db a w w':=aC.aV h.below _
theorem db.set {a:OA} (w:World) (i:Nat) (v:Value) (ha:a ≠ none):db a w (w.setCell ⟨ablk a,aJ a+i,none⟩ v):=by have Z:Below 0 w (w.setCell ⟨ablk a,aJ a+i,none⟩ v):=(KU 0 w).setCell (K0 _) v;exact ⟨Z.os,Z.tape,Z.output,Z.size,λb hb hI=>Lf _ _ _ _ λe=>hI ⟨ha,e⟩,λb hb=>.inl hb⟩
theorem db.ints {a:OA} {w w':World} (h:db a w w') {u:OA} {n:Nat} {l:LI} (hi:Ints w u n l) (hu:a=none\/u=none\/ablk u ≠ ablk a):Ints w' u n l:=by
 refine hi.of_block λZ=>h.block _ (hi.lt Z) ?_;rintro ⟨h1,h2⟩;rcases hu with hu | hu | hu
 ·exact h1 hu
 ·have:=hi.pl Z;rw [hu] at this;cases this
 ·exact hu h2
theorem db.below {a:OA} {w w':World} {B:Nat} (h:db a w w') (ha:a ≠ none->B<=ablk a) (Z:B<=w.heap.size):Below B w w':=aC.below h (λ_ hb=>by rw [hb.2];exact ha hb.1) Z
variable {w:World} {b:Nat} {G:cZ}
theorem Ix (w0:World) (U:OA) (cv n:Nat) (v:LI) (s:Int) (au:OA) (cu:Nat) (u:LI) (h:dU w0 b G) (hb:PY w0 w)
  (hv:w.ownsRow w0.heap.size 3 1 (.slice U n cv) n (v.map (Value.int .i64))) (hu:Ints w au n u) (hap:U=none\/au=none\/ablk au ≠ ablk U)
  (hve:∀x ∈ v,G.El x) (z:∀x ∈ u,G.El x) (hs:G.El s) :
  Calls prog 198 #[.pointer (some ⟨b,0,none⟩),.slice U n cv,cG s,.slice au n cu] w
   λe w'=>e = .returned (.tuple #[])/\w'.ownsRow w0.heap.size 3 1 (.slice U n cv) n ((bX G.ops v s u).map (Value.int .i64))/\db U w w':=by
 have hul:=hu.len;have hvl:v.length=n:=by simpa using jB hv
 have hmax:=hu.max;unfold maxLen at hmax;have hpu:=hu.pl;have hpv:=(Pn hv).1.pl;have hav:0<n->U ≠ none:=λhn e=>by have:=hpv hn;rw [e] at this;cases this
 have r:(bX G.ops v s u).length=v.length:=dm _ _ _ _ (by omega);have F:=λi=>gj G.ops v s u i (by omega);have Hnth:=Z5 F;have Hul:=Z5 hul;have C:=Z5 hvl;have j:=Z5 r;have Hav:=Z5 hav;have Hve:=Z5 hve;have Hue:=Z5 z;clear F hul hvl r hav hve z;generalize bX G.ops v s u=N at *;go_enter func198,ntmps198;go_wp2_with fail;go_loopw [12] (λiv wr=>∃k:Nat,k<=n/\iv = cG k/\wr.ownsRow w0.heap.size 3 1 (.slice U n cv) n ((gv N v k).map (Value.int .i64))/\db U w wr) (λiv _=>n - (intOf iv).toNat);case atStart=>exact ⟨0,K0 _,rfl,by rw [fC];exact hv,db.refl _ _⟩
 case round =>
  obtain ⟨k,hk,rfl,X,Z⟩:=hrel
  by_cases S:k<n
  ·have hiu:=Z.ints hu hap
   have cu1:=hiu.cell k S
   have K:N.length=v.length:=j.out
   have Q:k<v.length:=by rw [C.out];exact S
   have Y:=Hnth k Q
   have V:=eA N v k k K (by omega)
   rw [KY (by omega)] at V
   by_cases hz:nth u k=0
   ·rw [KX hz] at Y
    have O:=mW N v k K Q Y
    have D:=Z5 O
    clear Y V O K Q
    go_wp2_with fail
    go_roundw
    case rel=>exact ⟨k+1,by omega,by go_num,by rw [D.out];exact X,Z⟩
    case measure=>simp [intOf] <;> omega
   ·rw [KY hz] at Y
    have H:=fh N v k K Q
    obtain ⟨hiv,hmv⟩:=Pn X
    have A:=hiv.cell k S
    have fv1:=(hmv (by omega)).2 k S
    rw [V] at A
    have elv:G.El (nth v k):=Hve _ (aG Q)
    have elu:G.El (nth u k):=Hue _ (aG (by rw [Hul.out];exact S))
    have E:dU wr b G:=h.af (L5 hb (Z.below (λha=>(aT hv ha).1) hb.size))
    have Hval:=Z5 Y
    have Hset:=Z5 H
    have hS:∀W,bg wr W->W.cell? ⟨ablk U,aJ U+k,none⟩=some (cG (nth v k))/\W.frozen? ⟨ablk U,aJ U+k,none⟩=false/\dU W b G/\bg wr W :=
     λW hW=>⟨hW.cell A,hW.frozen fv1,E.af hW.below,hW⟩
    have HS:=Z5 hS
    have elm:∀x y,G.El (G.mul x y):=λx y=>cZ.kW h x y
    have hz':(nth u k != 0)=true:=by simpa using hz
    clear Y V H K Q hS hz
    go_wp2_with fail
    have HG:Hid (dU wr.drew b G/\∀n,dU (wr.drewN n) b G):=⟨E.af (KU _ _).drew,λn=>E.drewN n⟩
    go_region_law ((first
     | (go_simp;go_at_call 57;((with_reducible refine (oh s (nth u k) HG.out.1 hs elu).mono ?_);rintro e w4 ⟨m4,rfl,rfl⟩))
     | (go_simp;go_at_call 57;((with_reducible refine (oh s (nth u k) (HG.out.2 _) hs elu).mono ?_);rintro e w4 ⟨m4,rfl,rfl⟩))
     | (go_simp;go_at_call 56;((with_reducible refine (J2 (nth v k) (G.mul s (nth u k)) (HG.out.2 _) elv (elm _ _)).mono ?_);rintro e w4 ⟨m5,rfl,rfl⟩))))
    all_goals (
     go_wp2_with fail
     go_roundw
     case rel =>
      have hdr:bg wr (wr.drewN (1+m4+m5)):=⟨_,rfl⟩
      refine ⟨k+1,by omega,by go_num,?_,Z.trans ((db.drawn hdr).trans (db.set _ k _ (Hav (by omega))))⟩
      have h1:=bA (w:=wr.drewN (1+m4+m5)) X k S (cG (nth N k))
      rw [<- Lq,Hset.out,Hval.out] at h1
      exact h1
     case measure=>simp [intOf] <;> omega)
  ·obtain rfl:k=n:=by omega
   rw [gx N v k (by rw [j.out,C.out]) C.out] at X
   go_wp2_with fail
   go_end0
   exact ⟨rfl,X,Z⟩
end
section
variable {w:World} {b:Nat} {G:cZ}
def tn (R:LA) (i j:Nat):LA:=(R.set i (aM R j)).set j (aM R i)
theorem oM (R:LA) (i j:Nat):(tn R i j).length=R.length:=by simp [tn]
def dX (t k i:Nat):Nat:=if i=k then t else if i=t then k else i
theorem ku (R:LA) (t k i:Nat) (Z:t<R.length) (Y:k<R.length):aM (tn R t k) i=aM R (dX t k i):=by
 unfold tn dX;rw [jm _ _ _ _ (by simpa using Y),jm _ _ _ _ Z];split
 ·rfl
 ·split <;> rfl
theorem gO (L:Ll) (t k i:Nat) (Z:t<L.length) (Y:k<L.length):ai (bj L t k) i=ai L (dX t k i):=by
 unfold bj dX;rw [eC _ _ _ _ (by simpa using Y),eC _ _ _ _ Z];split
 ·rfl
 ·split <;> rfl
theorem ka {t k i n:Nat} (Z:t<n) (Y:k<n) (hi:i<n):dX t k i<n:=by unfold dX;split <;> (try split) <;> assumption
theorem GC {t k i j:Nat} (h:i ≠ j):dX t k i ≠ dX t k j:=by unfold dX;split <;> split <;> (try split) <;> (try split) <;> omega
theorem aO.swap {B:Nat} {a:OA} {n c:Nat} {R:LA} {L:Ll} (h:aO w B a n c R L) {t k:Nat} (X:t<n) (V:k<n) :
  aO ((w.setCell ⟨ablk a,aJ a+t,none⟩ (.slice (aM R k).1 (ai L k).length (aM R k).2)).setCell ⟨ablk a,aJ a+k,none⟩ (.slice (aM R t).1 (ai L t).length (aM R t).2)) B a n c (tn R t k) (bj L t k):=by
 have Y:t<R.length:=by rw [h.rl];exact X
 have Z:k<R.length:=by rw [h.rl];exact V
 have S:t<L.length:=by rw [h.ll];exact X
 have U:k<L.length:=by rw [h.ll];exact V
 refine ⟨by rw [oM];exact h.rl,by rw [bC];exact h.ll,?_,λi hi=>?_,λi hi=>?_,λi j hi N Q=>?_⟩
 ·have h1:=bA (bA h.own t X (.slice (aM R k).1 (ai L k).length (aM R k).2)) k V (.slice (aM R t).1 (ai L t).length (aM R t).2);rw [show (List.zipWith j8 R L).set t (.slice (aM R k).1 (ai L k).length (aM R k).2)=_ from wO R L t (aM R k) (ai L k)] at h1;rw [show (List.zipWith j8 (R.set t (aM R k)) (L.set t (ai L k))).set k (.slice (aM R t).1 (ai L t).length (aM R t).2)=_ from wO _ _ k (aM R t) (ai L t)] at h1;exact h1
 ·rw [ku _ _ _ _ Y Z,gO _ _ _ _ S U];have O:=ka X V hi;exact ee (p:=⟨ablk a,aJ a+k,none⟩) (ee (p:=⟨ablk a,aJ a+t,none⟩) (h.row _ O) _ (h.tq _ O)) _ (h.tq _ O)
 ·rw [ku _ _ _ _ Y Z];exact h.tq _ (ka X V hi)
 ·rw [ku _ _ _ _ Y Z,ku _ _ _ _ Y Z];exact h.sep _ _ (ka X V hi) (ka X V N) (GC Q)
theorem bQ.swap {a:OA} {R:LA} {t k b:Nat} (Z:t<R.length) (Y:k<R.length) (h:bQ a (tn R t k) b):bQ a R b:=by
 rcases h with h | ⟨i,hi,h1,rfl⟩
 ·exact .inl h
 ·rw [oM] at hi;rw [ku _ _ _ _ Z Y] at h1 ⊢;exact aO.kg (ka Z Y hi) h1
theorem aO.kD {B:Nat} {a:OA} {n c:Nat} {R:LA} {L:Ll} (h:aO w B a n c R L) {t k:Nat} (Y:t<n) (X:k<n) (u v:Value) :
  aC w ((w.setCell ⟨ablk a,aJ a+t,none⟩ u).setCell ⟨ablk a,aJ a+k,none⟩ v) (bQ a R) (bQ a (tn R t k)):=by have Z:Below 0 w ((w.setCell ⟨ablk a,aJ a+t,none⟩ u).setCell ⟨ablk a,aJ a+k,none⟩ v):=((KU 0 w).setCell (K0 _) u).setCell (K0 _) v;have hne:=h.ne (by omega);refine ⟨Z.os,Z.tape,Z.output,Z.size,λb hb hI=>?_,λb hb=>.inl (bQ.swap (by rw [h.rl];exact Y) (by rw [h.rl];exact X) hb)⟩;rw [Lf _ _ _ _ λe=>hI (.inl ⟨hne,e⟩),Lf _ _ _ _ λe=>hI (.inl ⟨hne,e⟩)]
theorem aO.drew {B:Nat} {a:OA} {n c:Nat} {R:LA} {L:Ll} (h:aO w B a n c R L):aO w.drew B a n c R L:=h.af (KU _ _).drew
theorem aC.drew {w w':World} {I I':Nat->Prop} (h:aC w w' I I'):aC w w'.drew I I':=⟨h.os,h.tape,h.output,h.size,h.block,h.grow⟩
theorem F5 (B:Nat) (a:OA) (n c:Nat) (R:LA) (L:Ll) (S U k t:Nat) (X:aO w B a n c R L)
  (A:w.cell? ⟨S,0,none⟩=some (cG k)) (E:w.cell? ⟨U,0,none⟩=some (cG t)) (Z:k<n) (Y:t<n) (z:k ≠ t) (C:¬ bQ a R S) (D:¬ bQ a R U) :
  Calls prog 254 #[.slice a n c,.pointer (some ⟨S,0,none⟩),.pointer (some ⟨U,0,none⟩)] w
   λe w'=>e = .returned (.tuple #[])/\∃H,aO w' B a n c H (bj L t k)/\aC w w' (bQ a R) (bQ a H):=by
 have r:=X.pl;have F:=X.cell Z;have ct:=X.cell Y;have fk:=X.frozen Z;have ft:=X.frozen Y;have V:a ≠ none:=X.ne (by omega);have Q:S ≠ ablk a:=λe=>C (.inl ⟨V,e⟩);have N:U ≠ ablk a:=λe=>D (.inl ⟨V,e⟩);have k1:(w.setCell ⟨ablk a,aJ a+t,none⟩ (.slice (aM R k).1 (ai L k).length (aM R k).2)).cell? ⟨S,0,none⟩=some (cG k):=by rw [Le _ _ _ _ (by simp [Q])];exact A
 have j:(w.setCell ⟨ablk a,aJ a+t,none⟩ (.slice (aM R k).1 (ai L k).length (aM R k).2)).cell? ⟨U,0,none⟩=some (cG t):=by rw [Le _ _ _ _ (by simp [N])];exact E
 have k3:(w.setCell ⟨ablk a,aJ a+t,none⟩ (.slice (aM R k).1 (ai L k).length (aM R k).2)).cell? ⟨ablk a,aJ a+k,none⟩=some (.slice (aM R k).1 (ai L k).length (aM R k).2):=by rw [Le _ _ _ _ (by simp <;> omega)];exact F
 go_enter func254,ntmps254;go_wp2_with fail;go_region;have O:=(X.swap Y Z).drew;have K:=(X.kD Y Z (.slice (aM R k).1 (ai L k).length (aM R k).2) (.slice (aM R t).1 (ai L t).length (aM R t).2)).drew;go_wp2_with fail;go_end0;exact ⟨rfl,_,O,K⟩
theorem D7 (Q:World) (a:OA) (n c:Nat) (R:LA) (L:Ll) (E H K:Nat) (s:Int) (t:Nat) (X:aO w Q.heap.size a n c R L)
  (h:dU Q b G) (hb:PY Q w)
  (hg:w.cell? ⟨E,0,none⟩=some (.pointer (some ⟨b,0,none⟩))) (hs:w.cell? ⟨H,0,none⟩=some (cG s)) (ht:w.cell? ⟨K,0,none⟩=some (cG t)) (Y:t<n) (D:G.El s)
  (C:G.Ch (ai L t)) (z:(ai L t).length<=1000000) :
  Calls prog 255 #[.slice a n c,.pointer (some ⟨E,0,none⟩),.pointer (some ⟨H,0,none⟩),.pointer (some ⟨K,0,none⟩)] w
   λe w'=>e = .returned (.tuple #[])/\∃O,aO w' Q.heap.size a n c O (L.set t ((ai L t).map (G.mul s)))/\aC w w' (bQ a R) (bQ a O):=by
 have hpl:=X.pl;have ct:=X.cell Y;have ft:=X.frozen Y;have hi:=X.ints Y;have hG:=h.af hb;have hS:∀W,PY w W->W.cell? ⟨E,0,none⟩=some (.pointer (some ⟨b,0,none⟩))/\W.cell? ⟨H,0,none⟩=some (cG s)/\W.cell? ⟨K,0,none⟩=some (cG t) /\
   W.cell? ⟨ablk a,aJ a+t,none⟩=some (.slice (aM R t).1 (ai L t).length (aM R t).2)/\W.frozen? ⟨ablk a,aJ a+t,none⟩=false/\PY w W :=
  λW S=>⟨aB S hg,aB S hs,aB S ht,aB S ct,(X.af S).frozen Y,S⟩
 have HS:=Z5 hS;clear hS;have hF:∀V a4 c4,V.ownsRow w.drew.heap.size 3 1 (.slice a4 ((ai L t).map (G.mul s)).length c4) ((ai L t).map (G.mul s)).length (((ai L t).map (G.mul s)).map (Value.int .i64))->Below w.drew.heap.size w.drew V ->
   ∃O,aO (V.setCell ⟨ablk a,aJ a+t,none⟩ (.slice a4 (ai L t).length c4)) Q.heap.size a n c O (L.set t ((ai L t).map (G.mul s)))/\aC w (V.setCell ⟨ablk a,aJ a+t,none⟩ (.slice a4 (ai L t).length c4)) (bQ a R) (bQ a O):=by
  intro V a4 c4 Z hb4;have N:PY w V:=Pm (KU _ _).drew hb4;have F:=X.af N;have A:w.drew.heap.size=w.heap.size:=rfl;rw [A] at Z;have U:∀b,b<w.heap.size->eY a4 b:=λb hb=>kO Z hb;have h1:=F.setRow Y (aY Z hb.size) (U _ (X.lt _ (.inl ⟨X.ne (by omega),rfl⟩)).2) (λj hj _=>by
   by_cases hn:(aM R j).1=none
   ·exact .inl hn
   ·exact .inr (U _ (X.lt _ (aO.kg (by rw [X.rl];exact hj) hn)).2))
  have h2:=X.jS N Y (r:=a4) (rc:=c4) (.slice a4 ((ai L t).map (G.mul s)).length c4) (λha=>.inr (aT Z ha).1);rw [Lc] at h1 h2;exact ⟨_,h1,h2⟩
 have HF:=Z5 hF;clear hF;go_enter func255,ntmps255;go_wp2_with fail;go_region_law ((first
  | (go_simp;go_at_call 66;((with_reducible refine (xb s _ _ _ _ (hG.af (KU _ _).drew) D (hi.af (KU _ _).drew) C z).mono ?_);rintro e V ⟨a4,c4,rfl,Z,hb4⟩;obtain ⟨q0,q1,q2,q3,q4,q5⟩:=HS.out V (Pm (KU _ _).drew hb4)))))
 all_goals (
  go_wp2_with fail
  go_end0
  exact ⟨rfl,HF _ _ _ Z hb4⟩)
end
theorem fN (w:World) (cs:Array Value) (e:TypeId) {g:Nat} (Z:g=w.heap.size) (i:Nat):(w.alloc (.cells cs e)).frozen? ⟨g,i,none⟩=false:=by subst Z;simp
theorem dK {w w':World} (hb:PY w w') {g i:Nat} (Z:g<w.heap.size) {v:Bool} (h:w.frozen? ⟨g,i,none⟩=v):w'.frozen? ⟨g,i,none⟩=v:=(hb.frozen (p:=⟨g,i,none⟩) Z).trans h
theorem dP {w:World} {g i:Nat} {v:Bool} (Z:g<w.heap.size) (h:w.frozen? ⟨g,i,none⟩=v) (o:Obj):(w.alloc o).frozen? ⟨g,i,none⟩=v:=dK ((KU _ _).alloc (KT _) o) Z h
def aQ (w:World) (b:Nat) (cs:List Value):Prop:=b<w.heap.size/\(∀i v,cs[i]? = some v->w.cell? ⟨b,i,none⟩=some v)/\∀i,w.frozen? ⟨b,i,none⟩=false
theorem aQ.new (w:World) (cs:List Value) (e:TypeId) {g:Nat} (Z:g=w.heap.size):aQ (w.alloc (.cells cs.toArray e)) g cs :=
 ⟨by subst Z;simp,λi v Y=>by rw [aF _ _ _ Z i];simpa using Y,λi=>fN _ _ _ Z i⟩
theorem aQ.af {w w':World} {b:Nat} {cs:List Value} (h:aQ w b cs) (hb:PY w w'):aQ w' b cs :=
 ⟨Lx h.1 hb.size,λi v Z=>aB hb (h.2.1 i v Z),λi=>dK hb h.1 (h.2.2 i)⟩
theorem aQ.alloc {w:World} {b:Nat} {cs:List Value} (h:aQ w b cs) (o:Obj):aQ (w.alloc o) b cs:=h.af ((KU _ _).alloc (KT _) o)
theorem aQ.cell {w:World} {b:Nat} {cs:List Value} (h:aQ w b cs) (i:Nat) {v:Value} (Z:cs[i]? = some v):w.cell? ⟨b,i,none⟩=some v:=h.2.1 i v Z
theorem aQ.frozen {w:World} {b:Nat} {cs:List Value} (h:aQ w b cs) (i:Nat):w.frozen? ⟨b,i,none⟩=false:=h.2.2 i
theorem kS (w:World) (o1 o2 Z:Obj):PY w (((w.alloc o1).alloc o2).alloc Z):=(((KU _ _).alloc (KT _) _).alloc (by simp) _).alloc (by simp;omega) _
theorem bY (w:World) (o1 o2:Obj):PY w ((w.alloc o1).alloc o2):=((KU _ _).alloc (KT _) _).alloc (by simp) _
theorem an (w:World) (o1:Obj):PY w (w.alloc o1):=(KU _ _).alloc (KT _) _
theorem Ints.drawn {w w':World} {a:OA} {n:Nat} {l:LI} (h:Ints w a n l) (hd:bg w w'):Ints w' a n l:=h.af hd.below
theorem bw.drawn {w w':World} {a:OA} {n:Nat} {l:Ll} (h:bw w a n l) (hd:bg w w'):bw w' a n l:=h.af hd.below
theorem bg.trans {w w' w'':World} (h:bg w w') (k:bg w' w''):bg w w'' := by obtain ⟨m, rfl⟩ := h; obtain ⟨n, rfl⟩ := k; exact ⟨m + n, World.drewN_drewN _ _ _⟩
def jd (w:World) (z:Bool) (e:Ending) (w':World):Prop:=e = .returned (.bool z)/\bg w w'
def Po:=@aQ.new
def Pr:=@aC.aV
def Pt:=@bg.refl
def Pw:=@bg.below
def Pz:=@aC.refl
def PA:=@db.drawn
def PD:=@db.refl
def PF:=@db.set
def PH:=@aC.trans
def PI:=@bt.clear
def PL:=@cZ.cl
def PN:=@bg.drewN
def PQ:=@cZ.kW
def PS:=@aC.cell
end Go.Proofs.YthglbncgemdcbaaGreat
