import Derived.Test.YthglbncgemdcbaaGreatBO3
import Derived.Lib.LazyBuf
namespace Go.Proofs.YthglbncgemdcbaaGreat
set_option linter.all false
set_option maxRecDepth 100000
set_option maxHeartbeats 1600000
open Go.RowKit Go.Proofs.Tryz
theorem aK {k:IntKind} {a b:Int} (h:a=b):Ending.returned (.int k a) = .returned (.int k b):=by rw [h]
theorem ba {a b:Bool} (h:a=b):Ending.returned (.bool a) = .returned (.bool b):=by rw [h]
def aO (p m:Int):Int :=
 if p<2\/256<p\/m<1\/8<m then 0 else if p ^ m.toNat<=256 then p ^ m.toNat else 0
theorem jj {p m:Int} (h:p<2\/256<p\/m<1\/8<m):aO p m=0:=by rw [aO,M7 h]
theorem nO {p m:Int} (h:¬ p ^ m.toNat<=256):aO p m=0:=by simp [aO,h]
theorem mO {p m:Int} (h:¬ (p<2\/256<p\/m<1\/8<m)) (h2:p ^ m.toNat<=256):aO p m=p ^ m.toNat:=by rw [aO,M8 h,M7 h2]
theorem ie (p m:Int) (w:ej) :
  Calls prog 109 #[cG p,cG m] w λe w'=>e = .returned (cG (aO p m))/\w=w':=by
 by_cases X:p<2\/256<p\/m<1\/8<m
 ·have Y:=Z5 (jj X);by_cases h1:p<2
  ·go_enter func109,ntmps109;go_wp2;go_ret;exact ⟨aK Y.symm,rfl⟩
  by_cases h2:256<p
  ·go_enter func109,ntmps109;go_wp2;go_ret;exact ⟨aK Y.symm,rfl⟩
  by_cases h3:m<1
  ·go_enter func109,ntmps109;go_wp2;go_ret;exact ⟨aK Y.symm,rfl⟩
  have h4:8<m:=by omega
  clear X;go_enter func109,ntmps109;go_wp2;go_ret;exact ⟨aK Y.symm,rfl⟩
 ·obtain ⟨n,rfl⟩:∃n:Nat,m=n:=⟨m.toNat,by omega⟩
  have h1:2<=p:=by omega
  have h2:p<=256:=by omega
  have h3:1<=(n:Int):=by omega
  have h4:(n:Int)<=8:=by omega
  have Y:=Z5 X;clear X;go_enter func109,ntmps109;go_wp2;go_loop [5,21] (λQ N=>∃k:Nat,k<=n/\N = cG k/\Q = cG (p ^ k)/\p ^ k<=256/\1<=p ^ k) (λ_ i=>n - (intOf i).toNat);case atStart=>exact ⟨0,Nb _,rfl,by simp,by simp,by simp⟩
  case round =>
   obtain ⟨k,F,rfl,rfl,hb,V⟩:=hrel
   by_cases O:k<n
   ·have e1:p ^ (k+1)=p ^ k * p:=N1 _ _
    have H:p ^ k * p<=256 * 256:=Ow hb h2 (by omega) (by omega)
    have K:1 * 1<=p ^ k * p:=Ow V (by omega) (by omega) (by omega)
    by_cases h5:p ^ k * p<=256
    ·have S:=Z5 e1
     clear e1
     go_wp2
     go_round
     case rel=>exact ⟨k+1,by omega,by go_num,by rw [S.out],by rw [S.out];exact h5,by rw [S.out];omega⟩
     case measure=>simp [intOf]<;>omega
    ·have Z:aO p n=0:=nO (by intro h;have:=dJ (show 1<=p by omega) (show k+1<=n by omega);rw [M9] at h;omega)
     have U:=Z5 Z
     clear e1 Z
     go_wp2
     go_ret
     exact ⟨aK U.symm,rfl⟩
   ·obtain rfl:k=n:=by omega
    have U:=Z5 (mO Y.out (by simpa using hb))
    go_wp2
    go_ret
    exact ⟨aK (by rw [U.out];simp),rfl⟩
def gq (n:Nat):Bool:=(List.range n).all λd=>d<2 || n % d != 0
theorem uV {n d:Nat} (h2:2<=d) (hd:d<n) (h:n % d=0):gq n=false:=by unfold gq;rw [O7];exact ⟨d,List.mem_range.2 hd,by simp [h];omega⟩
theorem ub {n:Nat} (h:∀d,2<=d->d<n->n % d ≠ 0):gq n=true:=by
 unfold gq;rw [NZ];intro d hd;have:=List.mem_range.1 hd;by_cases h2:d<2
 ·simp [h2]
 ·simp [h d (by omega) this]
theorem A7 {n D:Nat} (h:∀d,2<=d->d<D->n % d ≠ 0) (X:n<D * D):gq n=true:=by
 refine ub λd h2 hd h0=>?_;rcases NU d D with h1 | h1
 ·exact h d h2 h1 h0
 ·obtain ⟨e,he⟩:=QL h0;have Y:2<=e:=by
   rcases NU e 2 with h3 | h3
   ·have:e=0\/e=1:=by omega
    rcases this with rfl | rfl<;>omega
   ·exact h3
  have Z:e<D:=by
   rcases NU e D with h3 | h3
   ·exact h3
   ·have:=O0 h1 h3;omega
  exact h e Y Z (by rw [he];exact Nat.mul_mod_left d e)
theorem jJ (n:Nat) (w:ej) (h2:2<=n) (K:n<=256) :
  Calls prog 163 #[cG n] w λe w'=>e = .returned (.bool (gq n))/\w=w':=by
 go_enter func163,ntmps163;go_wp2;go_loop [3] (λH=>∃d:Nat,2<=d/\d<=n/\H = cG d/\Hid (∀e,2<=e->e<d->n % e ≠ 0)) (λd=>n+1 - (intOf d).toNat);case atStart=>exact ⟨2,M4 _,h2,rfl,λe he Q=>by omega⟩
 case round =>
  obtain ⟨d,Z,C,rfl,V⟩:=hrel
  have E:(d:Int) ≠ 0:=by omega
  by_cases Y:d * d<=n
  ·have O:(d:Int) * d<=n:=by exact_mod_cast Y
   have X:d * 2<=d * d:=N7 d Z
   have F:(0:Int)<=(d:Int) * d:=by exact_mod_cast Nb (d * d)
   have U:d<n:=by omega
   by_cases hm:n % d=0
   ·have S:((n:Int) % d == 0)=true:=by simp;exact_mod_cast hm
    have N:=Z5 (uV Z U hm)
    clear hm Y X
    go_wp2
    go_ret
    exact ⟨ba N.symm,rfl⟩
   ·have S:((n:Int) % d == 0)=false:=by simp;exact_mod_cast hm
    have D:=Z5 hm
    clear hm Y X
    go_wp2
    go_round
    case rel =>
     refine ⟨d+1,by omega,by omega,by go_num,λe he Q=>?_⟩
     rcases NU e d with h | h
     ·exact V e he h
     ·rw [show e=d from by omega];exact D
    case measure=>simp [intOf]<;>omega
  ·have O:¬ (d:Int) * d<=n:=by intro h;exact Y (by exact_mod_cast h)
   have z:(d:Int) * d<=65536:=(lW (by omega) (by omega) (by omega) (by omega)).2
   have F:(0:Int)<=(d:Int) * d:=by exact_mod_cast Nb (d * d)
   have N:=Z5 (A7 V.out (by omega))
   have A:(2:Int)<=n:=by omega
   clear Y
   go_wp2
   go_ret
   exact ⟨ba (by rw [N.out]),rfl⟩
def cF (P M:Int) (mod:Lz):Bool :=
 aO P M != 0 && gq P.toNat && (if M=1 then mod.length == 0 else decide ((mod.length:Int)=M) && mod.all λc=>decide (0<=c) && decide (c<P))
theorem gR {p m:Int} (h:aO p m ≠ 0):2<=p/\p<=256/\1<=m/\m<=8/\p ^ m.toNat<=256/\aO p m=p ^ m.toNat:=by
 by_cases Z:p<2\/256<p\/m<1\/8<m
 ·exact absurd (jj Z) h
 by_cases hb:p ^ m.toNat<=256
 ·exact ⟨by omega,by omega,by omega,by omega,hb,mO Z hb⟩
 ·exact absurd (nO hb) h
theorem pN (P M:Int) (am:OA) (X D:Nat) (mod:Lz) (w:ej) (Y:Ints w am X mod) :
  Calls prog 108 #[.agg #[cG P,cG M,.slice am X D]] w λe w' =>
   e = .returned (.bool (cF P M mod))/\SJ w w':=by
 have Z:SJ w (w.alloc (.cells #[cG P,cG M,.slice am X D] 24)):=(M5 _ _).alloc (M4 _) _;by_cases h0:aO P M=0
 ·have V:=Z5 (show cF P M mod=false by simp [cF,h0]);have H:(aO P M == 0)=true:=by simp [h0]
  clear h0;go_enter func108,ntmps108;go_wp2_with (go_at_call 109;refine (ie _ _ _).mono ?_;rintro e w' ⟨rfl,rfl⟩);go_ret;exact ⟨ba V.symm,Z⟩
 obtain ⟨b1,b2,b3,b4,-,-⟩:=gR h0;have H:(aO P M == 0)=false:=by simp [h0]
 obtain ⟨p,rfl⟩:∃p:Nat,P=p:=⟨P.toNat,by omega⟩
 by_cases h1:gq p=true;case neg =>
  have V:=Z5 (show cF p M mod=false by simp [cF,h1])
  have h1':gq p=false:=by simpa using h1
  clear h0 h1
  go_enter func108,ntmps108
  go_wp2_with (first|(go_at_call 109;refine (ie _ _ _).mono ?_;rintro e w' ⟨rfl,rfl⟩)|(go_at_call 163;refine (jJ _ _ (by omega) (by omega)).mono ?_;rintro e w' ⟨rfl,rfl⟩))
  go_ret
  exact ⟨ba V.symm,Z⟩
 by_cases h2:M=1
 ·subst h2;have V:=Z5 (show cF p 1 mod=((X:Int) == 0) by rw [<- Y.len,Bool.eq_iff_iff];simp [cF,h1,h0]);clear h0;go_enter func108,ntmps108;go_wp2_with (first|(go_at_call 109;refine (ie _ _ _).mono ?_;rintro e w' ⟨rfl,rfl⟩)|(go_at_call 163;refine (jJ _ _ (by omega) (by omega)).mono ?_;rintro e w' ⟨rfl,rfl⟩));go_ret;exact ⟨ba V.symm,Z⟩
 by_cases h3:(X:Int)=M;case neg =>
  have V:=Z5 (show cF p M mod=false by simp [cF,h2,Y.len,h3])
  have O:(M == 1)=false:=by simpa using h2
  have h3':((X:Int) != M)=true:=by simpa using h3
  clear h0 h2 h3
  go_enter func108,ntmps108
  go_wp2_with (first|(go_at_call 109;refine (ie _ _ _).mono ?_;rintro e w' ⟨rfl,rfl⟩)|(go_at_call 163;refine (jJ _ _ (by omega) (by omega)).mono ?_;rintro e w' ⟨rfl,rfl⟩))
  go_ret
  exact ⟨ba V.symm,Z⟩
 subst h3;have O:((X:Int) == 1)=false:=by simpa using h2
 have C:∀b:Bool,(mod.all (λc=>decide (0<=c) && decide (c<(p:Int)))=b)->cF p X mod=b:=by intro b hb;simp [cF,h0,h1,h2,Y.len,<- hb]
 have F:=Z5 C;have z:=Y.pl;have hlen:=Y.len;have Q:=Y.max;unfold maxLen at Q;clear h0 h2 C;go_enter func108,ntmps108;go_wp2_with (first|(go_at_call 109;refine (ie _ _ _).mono ?_;rintro e w' ⟨rfl,rfl⟩)|(go_at_call 163;refine (jJ _ _ (by omega) (by omega)).mono ?_;rintro e w' ⟨rfl,rfl⟩));have U:=Y.ai Z;go_loop [33] (λr=>∃k:Nat,k<=X/\r = cG k/\Hid (∀j,j<k->0<=nth mod j/\nth mod j<p)) (λi=>X - (intOf i).toNat);case atStart=>exact ⟨0,Nb _,rfl,λj N=>by omega⟩
 case round =>
  obtain ⟨k,hk,rfl,S⟩:=hrel
  by_cases K:k<X
  ·have A:=U.cell k K
   by_cases E:0<=nth mod k/\nth mod k<p
   ·obtain ⟨g1,g2⟩:=E
    go_wp2
    go_round
    case rel =>
     refine ⟨k+1,by omega,by go_num,λj N=>?_⟩
     rcases NU j k with h | h
     ·exact S j h
     ·rw [show j=k from by omega];exact ⟨g1,g2⟩
    case measure=>simp [intOf]<;>omega
   ·have V:=Z5 (F false (by rw [O7];refine ⟨nth mod k,aG (by omega),?_⟩;simp;omega))
    rcases (show nth mod k<0\/(0<=nth mod k/\p<=nth mod k) by omega) with g | ⟨g,g'⟩
    all_goals
     clear E
     go_wp2
     go_ret
     exact ⟨ba V.symm,Z⟩
  ·obtain rfl:k=X:=by omega
   have V:=Z5 (F true (by rw [NZ];intro c A;obtain ⟨j,N,rfl⟩:=List.getElem_of_mem A;have:=S j (by omega);rw [an N] at this;simp [this]))
   go_wp2
   go_ret
   exact ⟨ba V.symm,Z⟩
theorem zA:(prog.info? 4).map (λi=>(i.zero,i.size,i.bytes))=some (some (.bool false),1,1):=by kernel_rfl
def tK (S:List Bool) (l:Lz):Prop:=∀i:Nat,i<S.length->(re S i=true ↔ (i:Int) ∈ l)
theorem tK.snoc {S:List Bool} {l:Lz} (h:tK S l) (i:Nat) (hi:i<S.length):tK (S.set i true) (l ++ [(i:Int)]):=by
 intro j Z;rw [N8] at Z;rw [Aj _ _ _ _ hi];by_cases e:j=i
 ·subst e;simp
 ·rw [M8 e,h j Z];simp;omega
theorem qY.ai {w w':ej} {P:Int} {M Z:Nat} {am:OA} {mod:Lz} (h:qY w P M Z am mod) (hb:SJ w w'):qY w' P M Z am mod :=
 ⟨h.p2,h.p256,h.m1,h.m8,h.pw,h.low,h.ints.ai hb,h.dig⟩
def lenVal:Value->Nat | .slice _ n _=>n | _=>0
def Ku (P:Int) (M:Nat) (mod:Lz) (q:Nat) (x:Int) (w:ej) (e:Ending) (w':ej):Prop :=
 ∃a c,e = .returned (.slice a (eX P M mod q x).length c)/\w'.ownsRow w.heap.size 3 1 (.slice a (eX P M mod q x).length c) (eX P M mod q x).length ((eX P M mod q x).map (Value.int .i64))/\SJ w w'
theorem BG (P:Int) (m:Nat) (am:OA) (mn cm:Nat) (mod:Lz) (q:Nat) (x:Int) (w:ej) (hd:qY w P m mn am mod)
  (hq:(q:Int)=P ^ m) (hx:0<=x) (hx2:x<q) :
  Calls prog 164 #[.agg #[cG P,cG m,.slice am mn cm],cG q,cG x] w (Ku P m mod q x w):=by
 have hq2:2<=q:=by have h1:=dJ (show 1<=P by have:=hd.p2;omega) hd.m1;have h2:=hd.p2;rw [show (1:Nat)=0+1 from rfl,N1,O4,PS] at h1;omega
 have hq256:q<=256:=by have:=hd.pw;omega
 have hPp:0<P:=by have:=hd.p2;omega
 have Hq:=Z5 hq;clear hq;go_enter func164,ntmps164;have hq2':(1:Int)<q:=by omega
 have hbox:∀w':ej,Below (w.heap.size+1) (w.alloc (.cells #[cG P,cG m,.slice am mn cm] 24)) w' ->
   w'.cell? ⟨w.heap.size,0,none⟩=some (cG P)/\w'.cell? ⟨w.heap.size,1,none⟩=some (cG m)/\w'.cell? ⟨w.heap.size,2,none⟩=some (.slice am mn cm)/\SJ w w':=by intro w' h;refine ⟨(h.cell (by simp)).trans (by simp),(h.cell (by simp)).trans (by simp),(h.cell (by simp)).trans (by simp),((M5 _ _).alloc (M4 _) _).trans (h.mono (by omega))⟩
 have Hbox:=Z5 hbox;clear hbox;go_wp2_with (at_make;refine bR rfl _ _ 90 4 rfl (.bool false) 1 underlying90 zA rfl q rfl rfl (by omega) (by unfold maxLen;omega) ?_;intro a w1 D E A hlt;obtain ⟨hb1,hm1⟩:=SH (l:=List.replicate q false) (by simpa using D);have hc1:=hb1.cell 1 (by omega);have hf1:=(hm1 (by omega)).2 1 (by omega);have hp1:=hb1.pl);generalize hW0:w.alloc (.cells #[cG P,cG m,.slice am mn cm] 24)=W0 at *;have hW0s:W0.heap.size=w.heap.size+1:=by rw [<- hW0];simp
 have HW0:=Z5 hW0;clear hW0;have K:Below (w.heap.size+1) W0 w1:=((M5 _ _).alloc (by omega) _).trans (E.mono (by simp;omega));have H:=bj (zZ W0 [1] 3 (B:=w.heap.size+1) (by omega) (by simp [maxLen])) E;have N:=bA D 1 (by omega) (.bool true);have X:=dO H (p:=⟨ablk a,aN a+1,none⟩) (.bool true) (.inr (by have:=A;simp at this;show W0.heap.size ≠ ablk a;omega));have hbel3:=K.setCell (p:=⟨ablk a,aN a+1,none⟩) (by have:=A;simp at this;show w.heap.size+1<=ablk a;omega) (.bool true);have hageW:W0.heap.size+1<=ablk a:=by simpa using A
 clear D H E K hb1 hm1 hc1 hf1 A;generalize w1.setCell ⟨ablk a,aN a+1,none⟩ (.bool true)=w2 at *;rw [hW0s] at X;go_loopw [7,9] (λov yv wr=>∃(l:Lz) (y:Nat) (S:List Bool) (ao:OA) (c n:Nat),ov = .slice ao l.length c/\yv = cG y/\y<q /\
   wr.ownsRow (w.heap.size+1) 3 1 (.slice ao l.length c) l.length (l.map (Value.int .i64))/\wr.ownsRow (w.heap.size+1) 4 1 (.slice a q q) q (S.map Value.bool)/\dq ao (ablk a) /\
   Hid (tK S l)/\l.length+cntF S=q/\cntF S<=n/\Hid (eX P m mod q x=powTo (λy=>dp P m mod y x) n l y)/\Below (w.heap.size+1) W0 wr)
  (λov _ _=>q - lenVal ov)
 case atStart =>
  obtain ⟨xn,rfl⟩:∃xn:Nat,x=xn:=⟨x.toNat,by omega⟩
  have hc:=ud (List.replicate q false) 1 (by rw [NP,M7 (by omega)])
  rw [sP] at hc
  refine ⟨[1],xn,(List.replicate q false).set 1 true,_,1,q,rfl,rfl,by omega,X,?_,.inr (by simp;omega),?_,?_,?_,rfl,hbel3⟩
  ·have:=bq N (B':=w.heap.size+1) (by simp;omega)
   simpa [Ny] using this
  ·intro j hj
   rw [Aj _ _ _ _ (by simp;omega)]
   simp only [N8,Oi] at hj
   by_cases e:j=1
   ·subst e;simp
   ·rw [M8 e];simp [re,hj];omega
  ·simp;omega
  ·omega
 case round =>
  obtain ⟨l,y,S,ao,c,n,rfl,rfl,hy,V,U,F,hsn,hcnt,hn,Q,hbr⟩:=hrel
  obtain ⟨hbS,hmS⟩:=SH U
  have hlS:S.length=q:=hbS.len
  obtain ⟨q0,q1,q2,hbw⟩:=Hbox wr hbr
  have hpS:=hbS.pl
  have hcy:=hbS.cell y hy
  have hyq:(y:Int)<q:=by omega
  by_cases hy0:y=0
  ·have Y:eX P m mod q x=l:=by rw [Q.out];exact jw _ _ _ _ (.inl (by omega))
   have hyz:((y:Int) != 0)=false:=by simp;omega
   have Z:=Z5 Y
   clear Y hy0
   go_wp2_with fail
   go_ret
   refine ⟨ao,c,by rw [Z.out];rfl,by rw [Z.out];exact bq V (by omega),hbw⟩
  have hyz:((y:Int) != 0)=true:=by simp;omega
  have O:=hsn y (by omega)
  by_cases hyS:re S y=true
  ·have Y:eX P m mod q x=l:=by rw [Q.out];exact jw _ _ _ _ (.inr (O.1 hyS))
   have Z:=Z5 Y
   clear Y O hy0
   go_wp2_with fail
   go_ret
   refine ⟨ao,c,by rw [Z.out];rfl,by rw [Z.out];exact bq V (by omega),hbw⟩
  have hyF:re S y=false:=by simpa using hyS
  have hSy:S[y]? = some false:=by rw [NJ (by omega),<- oL (by omega),hyF]
  have hcs:=ud S y hSy
  obtain ⟨n',rfl⟩:∃n',n=n'+1:=⟨n - 1,by omega⟩
  have hgo:eX P m mod q x=powTo (λy=>dp P m mod y x) n' (l ++ [(y:Int)]) (dp P m mod y x):=by rw [Q.out];exact sY _ _ _ _ (λh=>h.elim (λh=>by omega) (λh=>hyS (O.2 h)))
  have Hgo:=Z5 hgo
  have hsn2:Hid (tK (S.set y true) (l ++ [(y:Int)])):=hsn.snoc y (by omega)
  have hfy:=(hmS (by omega)).2 y hy
  clear hgo O hy0 hyS hSy hsn Q
  have hO2:=dO V (p:=⟨ablk a,aN a+y,none⟩) (.bool true) F
  have C:=bA U y hy (.bool true)
  rw [<- Ny] at C
  have hB2:=hbr.setCell (p:=⟨ablk a,aN a+y,none⟩) (show w.heap.size+1<=ablk a by omega) (.bool true)
  have hzs:(wr.setCell ⟨ablk a,aN a+y,none⟩ (.bool true)).heap.size=wr.heap.size:=by simp
  have hcn:((wr.setCell ⟨ablk a,aN a+y,none⟩ (.bool true)).alloc (.cells #[cG y] 3)).cell? ⟨wr.heap.size,0,none⟩=some (cG y):=by have h:=QU (wr.setCell ⟨ablk a,aN a+y,none⟩ (.bool true)) #[cG y] 3 0;rw [hzs] at h;exact h
  have hWr:W0.heap.size<=wr.heap.size:=hbr.size
  have hl256:l.length<=256:=by omega
  have hBs:w.heap.size+1<=((wr.setCell ⟨ablk a,aN a+y,none⟩ (.bool true)).alloc (.cells #[cG y] 3)).heap.size:=by rw [P9,hzs];omega
  go_wp2_with (at_builtin;refine bd rfl _ _ 22 3 rfl (cG 0) 8 underlying22 br rfl (w.heap.size+1) ao l.length c _ rfl (hO2.alloc _) ⟨wr.heap.size,0,none⟩ 1 (cG y) rfl hcn rfl (by omega) (by unfold maxLen;omega) hBs ?_;intro a3 c3 w3 X hgr hap3;have r:=RY (hB2.alloc (by rw [hzs];omega) _) (hO2.alloc _) hgr (M4 _) hBs;obtain ⟨r0,r1,r2,hbw3⟩:=Hbox w3 r)
  have hmb:=xd hPp m mod y x
  rw [<- Hq.out] at hmb
  refine (og P m am mn cm mod y x w3 (hd.ai hbw3) (by omega) (by omega) hx (by omega)).mono ?_
  rintro e w4 ⟨rfl,z⟩
  have hS3:=gN (C.alloc _) hgr F
  have hap4:=hap3 (ablk a) (by have h:=(ew C (by omega)).2;rw [P9];omega) F
  have hown4:=bj X z
  have hS4:=bj hS3 z
  have hB4:Below (w.heap.size+1) W0 w4:=r.trans (z.mono (by have:=r.size;omega))
  obtain ⟨y2,hy2⟩:∃y2:Nat,dp P m mod y x=y2:=⟨(dp P m mod y x).toNat,by omega⟩
  rw [hy2] at hmb
  clear X hS3 r z hgr hO2 C hB2 V U N hcn r0 r1 r2 hap3
  go_wp2_with fail
  go_roundw
  case rel =>
   refine ⟨l ++ [(y:Int)],y2,S.set y true,a3,c3,n',by simp,rfl,by omega,by simpa using hown4,hS4,hap4,hsn2,by simp;omega,by omega,?_,hB4⟩
   have:=Hgo.out
   rw [hy2] at this
   exact this
  case measure=>simp [lenVal]<;>omega
def rM (P:Int) (M:Nat) (mod:Lz) (q:Nat) (w:ej) (e:Ending) (w':ej):Prop :=
 ∃a c,e = .returned (.slice a (fW P M mod q).length c)/\w'.ownsRow w.heap.size 3 1 (.slice a (fW P M mod q).length c) (fW P M mod q).length ((fW P M mod q).map (Value.int .i64)) /\
  (fW P M mod q=[]->a=none/\c=0)/\SJ w w'
theorem Ex {P:Int} {M:Nat} {mod:Lz} {q:Nat} {x:Int} (h:(eX P M mod q x).length ≠ q - 1):fX P M mod q x=false:=by simp [fX,h]
theorem nf (P:Int) (m:Nat) (am:OA) (Q F:Nat) (mod:Lz) (q:Nat) (w:ej) (hd:qY w P m Q am mod)
  (hq:(q:Int)=P ^ m) :
  Calls prog 110 #[.agg #[cG P,cG m,.slice am Q F],cG q] w (rM P m mod q w):=by
 have hq2:2<=q:=by have h1:=dJ (show 1<=P by have:=hd.p2;omega) hd.m1;have h2:=hd.p2;rw [show (1:Nat)=0+1 from rfl,N1,O4,PS] at h1;omega
 have hq256:q<=256:=by have:=hd.pw;omega
 have hPp:0<P:=by have:=hd.p2;omega
 have Hq:=Z5 hq;clear hq;have E:∀w':ej,Below (w.heap.size+1) (w.alloc (.cells #[cG P,cG m,.slice am Q F] 24)) w' ->
   w'.cell? ⟨w.heap.size,0,none⟩=some (cG P)/\w'.cell? ⟨w.heap.size,1,none⟩=some (cG m)/\w'.cell? ⟨w.heap.size,2,none⟩=some (.slice am Q F)/\SJ w w':=by intro w' h;refine ⟨(h.cell (by simp)).trans (by simp),(h.cell (by simp)).trans (by simp),(h.cell (by simp)).trans (by simp),((M5 _ _).alloc (M4 _) _).trans (h.mono (by omega))⟩
 have U:=Z5 E;clear E;have hq2':(1:Int)<q:=by omega
 go_enter func110,ntmps110;go_wp2;generalize hW0:w.alloc (.cells #[cG P,cG m,.slice am Q F] 24)=W0 at *;have hW0s:W0.heap.size=w.heap.size+1:=by rw [<- hW0];simp
 clear hW0;go_loopw [5] (λxv wr=>∃x:Nat,1<=x/\x<=q/\xv = cG x/\Hid (fW P m mod q=genTo P m mod q (q - x) x)/\Below (w.heap.size+1) W0 wr) (λxv _=>q - (intOf xv).toNat);case atStart=>exact ⟨1,M4 _,by omega,rfl,rfl,M5 _ _⟩
 case round =>
  obtain ⟨x,hx1,hxq,rfl,Z,O⟩:=hrel
  obtain ⟨q0,q1,q2,hbw⟩:=U wr O
  by_cases hlt:x<q
  ·have hxi:(x:Int)<q:=by omega
   go_wp2_with fail
   refine (BG P m am Q F mod q x wr (hd.ai hbw) Hq.out (by omega) hxi).mono ?_
   rintro e A ⟨a1,c1,rfl,V,hb1⟩
   obtain ⟨hi1,hm1⟩:=RW V
   have N:Below (w.heap.size+1) W0 A:=O.trans (hb1.mono (by have:=O.size;omega))
   obtain ⟨r0,r1,r2,hbw1⟩:=U A N
   have hgs:genTo P m mod q (q - x) x=if fX P m mod q x then eX P m mod q x else genTo P m mod q (q - (x+1)) (x+1):=by rw [show q - x=(q - (x+1))+1 from by omega,genTo]
   rw [hgs] at Z
   by_cases hlen:(eX P m mod q x).length=q - 1
   ·have hl1:((eX P m mod q x).length:Int)=(q:Int) - 1:=by omega
    have hle:(((eX P m mod q x).length:Int) == (q:Int) - 1)=true:=by rw [hl1];simp
    have hcl:=hi1.cell (q - 2) (by omega)
    have hpb:=hi1.pl
    have hib0:(0:Int)<=(q:Int) - 2:=by omega
    have hib2:(2:Int)<=(q:Int):=by omega
    have hib1:(q:Int) - 2<((eX P m mod q x).length:Int):=by omega
    have hlb:=qQ hPp m mod q x Hq.out hq2 (by omega) hxi (q - 2)
    have r:qY A.drew P m Q am mod:=hd.ai hbw1.drew
    have C:IntKind.i64.wrap ((q:Int) - 1)=(q:Int) - 1:=Nn _ (by omega)
    have hw2:IntKind.i64.wrap ((q:Int) - 2)=(q:Int) - 2:=Nn _ (by omega)
    have hw3:((q:Int) - 2).toNat=q - 2:=by omega
    have HLn:=Z5 hlen
    clear hl1 hlen
    go_wp2_with fail
    go_region_held3 (λw'=>w'.cell? ⟨w.heap.size,0,none⟩=some (cG P)/\w'.cell? ⟨w.heap.size,1,none⟩=some (cG m)/\w'.cell? ⟨w.heap.size,2,none⟩=some (.slice am Q F)/\w'.cell? ⟨ablk a1,aN a1+(q - 2),none⟩=some (cG (nth (eX P m mod q x) (q - 2)))/\SJ A w')
     (first|exact ⟨r0,r1,r2,hcl,(M5 _ _).drew⟩|(go_split_ands;exact ⟨aC (by assumption) (by assumption),aC (by assumption) (by assumption),aC (by assumption) (by assumption),aC (by assumption) (by assumption),RU (by assumption) (by assumption)⟩))
     (first|(go_at_call 165;((with_reducible refine (og P m am Q F mod (nth (eX P m mod q x) (q - 2)) x _ r (by omega) (by omega) (by omega) (by omega)).mono ?_);rintro e D ⟨rfl,hb4⟩)))
    obtain ⟨_,_,_,z,K⟩:D.cell? ⟨w.heap.size,0,none⟩=some (cG P)/\D.cell? ⟨w.heap.size,1,none⟩=some (cG m)/\D.cell? ⟨w.heap.size,2,none⟩=some (.slice am Q F)/\D.cell? ⟨ablk a1,aN a1+(q - 2),none⟩=some (cG (nth (eX P m mod q x) (q - 2)))/\SJ A D:=by assumption
    have hB4:Below (w.heap.size+1) W0 D:=N.trans (K.mono (by have:=N.size;omega))
    clear C hw2 hw3 r
    by_cases Y:dp P m mod (nth (eX P m mod q x) (q - 2)) x=1
    ·have X:fX P m mod q x=true:=by simp [fX,Y,HLn.out]
     rw [X] at Z
     have H:fW P m mod q=eX P m mod q x:=Z.out
     have S:=Z5 H
     have h1b:(dp P m mod (nth (eX P m mod q x) (q - 2)) x == 1)=true:=by rw [Y];rfl
     clear H X Y Z
     go_wp2_with fail
     go_ret
     refine ⟨a1,c1,by rw [S.out];rfl,by rw [S.out];exact bq (bj V K) (by have:=O.size;omega),?_,(U D hB4).2.2.2⟩
     rw [S.out]
     intro h
     have h2:=HLn.out
     rw [h] at h2
     simp at h2
     omega
    ·have X:fX P m mod q x=false:=by simp [fX,Y]
     rw [X] at Z
     have h1b:(dp P m mod (nth (eX P m mod q x) (q - 2)) x == 1)=false:=by simpa using Y
     clear X Y z
     go_wp2_with fail
     go_roundw
     case rel=>exact ⟨x+1,by omega,by omega,by go_num,Z,hB4⟩
     case measure=>simp [intOf]<;>omega
   ·rw [Ex hlen] at Z
    have hle:(((eX P m mod q x).length:Int) == (q:Int) - 1)=false:=by rw [beq_eq_false_iff_ne];omega
    have C:IntKind.i64.wrap ((q:Int) - 1)=(q:Int) - 1:=Nn _ (by omega)
    clear hlen
    go_wp2_with fail
    go_quiet (fail)
    clear C
    go_wp2_with fail
    go_roundw
    case rel=>exact ⟨x+1,by omega,by omega,by go_num,Z,below_drewN N _⟩
    case measure=>simp [intOf]<;>omega
  ·obtain rfl:x=q:=by omega
   have j:fW P m mod x=[]:=by rw [Z.out,PD];rfl
   have Hg0:=Z5 j
   clear j
   go_wp2_with fail
   go_ret
   refine ⟨none,0,by rw [Hg0.out];rfl,by rw [Hg0.out];exact cJ,λ_=>⟨rfl,rfl⟩,hbw⟩
theorem B6 {w:ej} {B:Nat} {e:TypeId} {a:OA} {c n:Nat} {xs:List Value} (h:w.ownsRow B e 1 (.slice a n c) n xs) (Y:0<n):a.isNone=false:=by
 obtain ⟨_,_,Z,X⟩:=Sf h;cases Z
 rw [X Y];rfl
theorem rM.isNone {a:OA} {l:Lz} {c:Nat} {w:ej} {B:Nat} {e:TypeId} (h:w.ownsRow B e 1 (.slice a l.length c) l.length (l.map (Value.int .i64))) (h0:l=[]->a=none/\c=0):a.isNone=l.isEmpty:=by
 cases l with
 | nil=>rw [(h0 rfl).1];rfl
 | cons x l=>exact B6 h (by simp)
def bw (P M:Int) (mod:Lz):Bool:=cF P M mod && !(fW P M.toNat mod (aO P M).toNat).isEmpty
def cX (b:Bool):Int:=if b then 0 else 1
theorem qs {w:ej} {P M:Int} {am:OA} {X:Nat} {mod:Lz} (hm:Ints w am X mod) (h:cF P M mod=true) :
  ∃m:Nat,M=m/\qY w P m X am mod/\aO P M=P ^ m/\((aO P M).toNat:Int)=P ^ m:=by
 simp only [cF,Nx,bne_iff_ne,ne_eq] at h;obtain ⟨⟨h0,h1⟩,h2⟩:=h;obtain ⟨S,U,N,O,Q,V⟩:=gR h0;refine ⟨M.toNat,by omega,⟨S,U,by omega,by omega,Q,?_,hm,?_⟩,V,?_⟩
 ·intro h3;rw [M8 (by omega)] at h2;simp only [Nx,NM] at h2;have:=hm.len;omega
 ·refine Su (by omega) λx Z=>?_;by_cases Y:M=1
  ·rw [M7 Y] at h2;have h3:mod.length=0:=by simpa using h2
   rw [NF h3] at Z;cases Z
  ·rw [M8 Y] at h2;simp only [Nx,NM,NZ] at h2;exact h2.2 x Z
 ·rw [V];have:=dJ (show 1<=P by omega) (Nb M.toNat);rw [O4] at this;omega
theorem tB (P M:Int) (am:OA) (Y V:Nat) (mod:Lz) (w:ej) (O:Ints w am Y mod) :
  Calls prog 142 #[.agg #[cG P,cG M,.slice am Y V]] w λe w' =>
   e = .returned (cG (cX (bw P M mod)))/\SJ w w':=by
 have H:∀w':ej,Below (w.heap.size+1) (w.alloc (.cells #[cG P,cG M,.slice am Y V] 24)) w' ->
   w'.cell? ⟨w.heap.size,0,none⟩=some (cG P)/\w'.cell? ⟨w.heap.size,1,none⟩=some (cG M)/\w'.cell? ⟨w.heap.size,2,none⟩=some (.slice am Y V)/\SJ w w':=by intro w' h;refine ⟨(h.cell (by simp)).trans (by simp),(h.cell (by simp)).trans (by simp),(h.cell (by simp)).trans (by simp),((M5 _ _).alloc (M4 _) _).trans (h.mono (by omega))⟩
 have D:=Z5 H;clear H;go_enter func142,ntmps142;go_wp2;generalize j:w.alloc (.cells #[cG P,cG M,.slice am Y V] 24)=W0 at *;have hW0s:W0.heap.size=w.heap.size+1:=by rw [<- j];simp
 obtain ⟨q0,q1,q2,U⟩:=D W0 (M5 _ _);clear j;by_cases r:cF P M mod=true
 ·obtain ⟨m,rfl,hd,ho,hq⟩:=qs O r;have C:aO P m=((aO P m).toNat:Int):=by rw [hq,ho]
  have Q:cX (bw P m mod)=if (fW P m mod (aO P m).toNat).isEmpty then 1 else 0:=by simp [bw,r,cX]
  have A:=Z5 Q;have Hoq:=Z5 C;have z:qY W0 P m Y am mod:=hd.ai U;have heq:=λ(w:ej) (a:OA) (l c:Nat)=>Go.run_eql_slice_nil (P:=prog) w 22 3 a l c underlying22;generalize (aO P m).toNat=q at *;have Hq:=Z5 hq;clear Q C ho hq;go_region_held3 (λw'=>w'.cell? ⟨w.heap.size,0,none⟩=some (cG P)/\w'.cell? ⟨w.heap.size,1,none⟩=some (cG m)/\w'.cell? ⟨w.heap.size,2,none⟩=some (.slice am Y V)/\qY w' P m Y am mod/\SJ W0 w')
   (first|exact ⟨q0,q1,q2,z.ai (M5 _ _).drew,(M5 _ _).drew⟩|assumption|(go_split_ands;exact ⟨aC (by assumption) (by assumption),aC (by assumption) (by assumption),aC (by assumption) (by assumption),qY.ai (by assumption) (by assumption),RU (by assumption) (by assumption)⟩))
   (first | (go_at_call 108; ((with_reducible refine (pN P m am Y V mod _ (z.ints.ai (M5 _ _).drew)).mono ?_); rw [r]; rintro e N ⟨rfl, X⟩))
          | (go_at_call 109;((with_reducible refine (ie _ _ _).mono ?_);rw [Hoq.out];rintro e N ⟨rfl,rfl⟩))
          | (go_at_call 110;go_split_ands;((with_reducible refine (nf P m am Y V mod q _ (by assumption) Hq.out).mono ?_);rintro e N ⟨a4,c4,rfl,E,F,X⟩;have hin4:=rM.isNone E F)))
  obtain ⟨_,_,_,_,hbl⟩:N.cell? ⟨w.heap.size,0,none⟩=some (cG P)/\N.cell? ⟨w.heap.size,1,none⟩=some (cG m)/\N.cell? ⟨w.heap.size,2,none⟩=some (.slice am Y V)/\qY N P m Y am mod/\SJ W0 N:=by assumption
  cases hge:(fW P m mod q).isEmpty
  all_goals
   go_wp2_with fail
   go_ret
   exact ⟨aK (by rw [A.out,hge];rfl),RU U hbl⟩
 ·have hs':cF P M mod=false:=by simpa using r
  have Hf:=Z5 (show cX (bw P M mod)=1 by simp [bw,hs',cX]);clear r;refine wp_region_held_drew (S:=(λw'=>w'.cell? ⟨w.heap.size,0,none⟩=some (cG P)/\w'.cell? ⟨w.heap.size,1,none⟩=some (cG M)/\w'.cell? ⟨w.heap.size,2,none⟩=some (.slice am Y V)/\SJ W0 w')) (by kernel_rfl) ?_ (λhHeld=>?_)
  ·exact ⟨q0,q1,q2,(M5 _ _).drew⟩
  refine wpAnyH_take (i:=0) (v:=?_) (by simp only [Nq,Nk,Nl];rfl) (by kernel_rfl) (by kernel_rfl) (by kernel_rfl) (by exact λ_ _ _ h=>h) (N0 ⟨by rfl,?_⟩) (by assumption) ?_;rotate_left
  ·(intro w Z;(try dsimp only at Z);go_simp;first|done|with_reducible rfl)
  try simp only [Act.put,M6,Nc,Nd]
  refine wpAnyH_ready (rs:=[1]) (by kernel_rfl) (by simp) ?_;refine AllReadyH.cons rfl (λK hK=>?_) AllReadyH.nil;go_simp;refine (pN P M am Y V mod _ (O.ai U.drew)).mono ?_;rintro e N ⟨rfl,X⟩;go_wp2_with fail;refine hK _ _ ?_ (λhHeld=>?_)
  ·exact ⟨aC X q0,aC X q1,aC X q2,RU (M5 _ _).drew X⟩
  clear hK K;try simp only [Act.put,M6,Nc,Nd]
  refine wpAnyH_take (i:=2) (v:=?_) (by simp only [Nq,Nk,Nl];rfl) (by kernel_rfl) (by kernel_rfl) (by kernel_rfl) (by exact λ_ _ _ h=>h) (N0 ⟨by rfl,?_⟩) (by assumption) ?_;rotate_left
  ·(intro w Z;(try dsimp only at Z);go_simp;first|done|with_reducible rfl)
  try simp only [Act.put,M6,Nc,Nd]
  refine wpAnyH_take (i:=3) (v:=?_) (by simp only [Nq,Nk,Nl];rfl) (by kernel_rfl) (by kernel_rfl) (by kernel_rfl) (by exact λ_ _ _ h=>h) (N0 ⟨by rfl,?_⟩) (by assumption) ?_;rotate_left
  ·(intro w Z;(try dsimp only at Z);go_simp;first|done|with_reducible rfl)
  try simp only [Act.put,M6,Nc,Nd]
  refine wpAnyH_take (i:=4) (v:=undef) (by simp only [Nq,Nk,Nl];rfl) (by kernel_rfl) (by kernel_rfl) (by kernel_rfl) (by exact λ_ _ _ h=>h) (Pm ⟨by rfl,rfl⟩) (by assumption) ?_;try simp only [Act.put,M6,Nc,Nd]
  refine wpAnyH_take (i:=5) (v:=undef) (by simp only [Nq,Nk,Nl];rfl) (by kernel_rfl) (by kernel_rfl) (by kernel_rfl) (by exact λ_ _ _ h=>h) (Pm ⟨by rfl,rfl⟩) (by assumption) ?_;try simp only [Act.put,M6,Nc,Nd]
  refine wpAnyH_take (i:=6) (v:=undef) (by simp only [Nq,Nk,Nl];rfl) (by kernel_rfl) (by kernel_rfl) (by kernel_rfl) (by exact λ_ _ _ h=>h) (Pm ⟨by rfl,rfl⟩) (by assumption) ?_;try simp only [Act.put,M6,Nc,Nd]
  refine wpAnyH_take (i:=7) (v:=undef) (by simp only [Nq,Nk,Nl];rfl) (by kernel_rfl) (by kernel_rfl) (by kernel_rfl) (by exact λ_ _ _ h=>h) (Pm ⟨by rfl,rfl⟩) (by assumption) ?_;try simp only [Act.put,M6,Nc,Nd]
  refine wpAnyH_take (i:=8) (v:=undef) (by simp only [Nq,Nk,Nl];rfl) (by kernel_rfl) (by kernel_rfl) (by kernel_rfl) (by exact λ_ _ _ h=>h) (Pm ⟨by rfl,rfl⟩) (by assumption) ?_;try simp only [Act.put,M6,Nc,Nd]
  refine wpAnyH_take (i:=9) (v:=undef) (by simp only [Nq,Nk,Nl];rfl) (by kernel_rfl) (by kernel_rfl) (by kernel_rfl) (by exact λ_ _ _ h=>h) (Pm ⟨by rfl,rfl⟩) (by assumption) ?_;try simp only [Act.put,M6,Nc,Nd]
  refine wpAnyH_take (i:=10) (v:=undef) (by simp only [Nq,Nk,Nl];rfl) (by kernel_rfl) (by kernel_rfl) (by kernel_rfl) (by exact λ_ _ _ h=>h) (Pm ⟨by rfl,rfl⟩) (by assumption) ?_;try simp only [Act.put,M6,Nc,Nd]
  refine wpAnyH_take (i:=11) (v:=undef) (by simp only [Nq,Nk,Nl];rfl) (by kernel_rfl) (by kernel_rfl) (by kernel_rfl) (by exact λ_ _ _ h=>h) (Pm ⟨by rfl,rfl⟩) (by assumption) ?_;try simp only [Act.put,M6,Nc,Nd]
  refine wpAnyH_take (i:=12) (v:=?_) (by simp only [Nq,Nk,Nl];rfl) (by kernel_rfl) (by kernel_rfl) (by kernel_rfl) (by exact λ_ _ _ h=>h) (N0 ⟨by rfl,?_⟩) (by assumption) ?_;rotate_left
  ·(intro w Z;(try dsimp only at Z);go_simp;first|done|with_reducible rfl)
  try simp only [Act.put,M6,Nc,Nd]
  refine wpAnyH_done (by kernel_rfl) ?_ _;go_wp2_with fail;go_ret;exact ⟨aK Hf.symm,RU U hHeld.2.2.2⟩
section
structure AY (w:ej) (b:Nat) (P:Int) (M q:Nat) (ex lg:Lz):Prop where
 p2:2<=P
 m1:1<=M
 m8:M<=8
 pw:(q:Int)=P ^ M
 p256:P<=256
 q2:2<=q
 q256:q<=256
 cp:w.cell? ⟨b,0,none⟩=some (cG P)
 cq:w.cell? ⟨b,3,none⟩=some (cG q)
 ce:∃a c,w.cell? ⟨b,4,none⟩=some (.slice a (q - 1) c)/\Ints w a (q - 1) ex
 cl:∃a c,w.cell? ⟨b,5,none⟩=some (.slice a q c)/\Ints w a q lg
 eb:∀i,i<q - 1->0<=nth ex i/\nth ex i<q
 lb:∀i,i<q->0<=nth lg i/\nth lg i<q - 1
theorem AY.ai {w w':ej} {b:Nat} {P:Int} {M q:Nat} {ex lg:Lz} (h:AY w b P M q ex lg) (hb:SJ w w'):AY w' b P M q ex lg:=by obtain ⟨a,c,h1,h2⟩:=h.ce;obtain ⟨a',Z,h3,h4⟩:=h.cl;exact ⟨h.p2,h.m1,h.m8,h.pw,h.p256,h.q2,h.q256,aC hb h.cp,aC hb h.cq,⟨a,c,aC hb h1,h2.ai hb⟩,⟨a',Z,aC hb h3,h4.ai hb⟩,h.eb,h.lb⟩
def sr (q:Nat) (ex lg:Lz) (x y:Int):Int :=
 if x=0\/y=0 then 0 else nth ex ((nth lg x.toNat+nth lg y.toNat) % ((q:Int) - 1)).toNat
def zm (q:Nat) (ex lg:Lz) (x:Int):Int:=nth ex (((q:Int) - 1 - nth lg x.toNat) % ((q:Int) - 1)).toNat
variable {w:ej} {b:Nat} {P:Int} {M q:Nat} {ex lg:Lz}
theorem zQ (x:Int) (h:AY w b P M q ex lg) :
  Calls prog 55 #[ea b 0,cG x] w λe w'=>e = .returned (.bool (decide (0<=x) && decide (x<q)))/\w=w':=by
 have Y:=h.cq;by_cases h0:0<=x
 ·have Z:decide (0<=x)=true:=by simpa using h0
  go_enter func55,ntmps55;go_wp2;go_ret;exact ⟨by simp [h0],rfl⟩
 ·have Z:decide (0<=x)=false:=by simpa using h0
  go_enter func55,ntmps55;go_wp2;go_ret;exact ⟨by simp [h0],rfl⟩
theorem eF (x:Int) (h:AY w b P M q ex lg) (h0:0<=x) (h1:x<q) :
  Calls prog 112 #[ea b 0,cG x] w λe w'=>e = .returned (cG x)/\w=w':=by
 have Y:decide (0<=x)=true:=by simpa using h0
 have Z:decide (x<q)=true:=by simpa using h1
 go_enter func112,ntmps112;go_wp2_with (go_at_call 55;refine (zQ x h).mono ?_;rintro e w' ⟨rfl,rfl⟩);go_ret;exact ⟨rfl,rfl⟩
theorem E2 (x y:Int) (h:AY w b P M q ex lg) (X:0<=x) (V:x<q) (U:0<=y) (Q:y<q) :
  Calls prog 57 #[ea b 0,cG x,cG y] w λe w'=>∃n,e = .returned (cG (sr q ex lg x y))/\w'=w.drewN n:=by
 obtain ⟨ae,ce,hce,N⟩:=h.ce;obtain ⟨al,cl,hcl,S⟩:=h.cl;have j:=h.cq;by_cases O:x=0
 ·have E:(x == 0)=true:=by simpa using O
  have K:=Z5 (show sr q ex lg x y=0 by simp [sr,O]);clear O;go_enter func57,ntmps57;go_wp2_with (first|(go_at_call 112;(with_reducible refine (eF x h X V).mono ?_);rintro e w' ⟨rfl,rfl⟩)|(go_at_call 112;(with_reducible refine (eF y h U Q).mono ?_);rintro e w' ⟨rfl,rfl⟩));go_ret;exact ⟨0,aK K.symm,rfl⟩
 have E:(x == 0)=false:=by simpa using O
 by_cases hy:y=0
 ·have C:(y == 0)=true:=by simpa using hy
  have K:=Z5 (show sr q ex lg x y=0 by simp [sr,hy]);clear O hy;go_enter func57,ntmps57;go_wp2_with (first|(go_at_call 112;(with_reducible refine (eF x h X V).mono ?_);rintro e w' ⟨rfl,rfl⟩)|(go_at_call 112;(with_reducible refine (eF y h U Q).mono ?_);rintro e w' ⟨rfl,rfl⟩));go_ret;exact ⟨0,aK K.symm,rfl⟩
 have C:(y == 0)=false:=by simpa using hy
 obtain ⟨Y,rfl⟩:∃n:Nat,x=n:=⟨x.toNat,by omega⟩
 obtain ⟨Z,rfl⟩:∃n:Nat,y=n:=⟨y.toNat,by omega⟩
 have lx:=h.lb Y (by omega);have ly:=h.lb Z (by omega);have cx:=S.cell Y (by omega);have cy:=S.cell Z (by omega);have hpe:=N.pl;have r:=S.pl;have hq2:=h.q2;have H:=h.q256;have D:=NV (nth lg Y+nth lg Z) (show (q:Int) - 1 ≠ 0 by omega);have F:=NS (nth lg Y+nth lg Z) (show 0<(q:Int) - 1 by omega);obtain ⟨k,A⟩:∃k:Nat,(nth lg Y+nth lg Z) % ((q:Int) - 1)=k:=⟨((nth lg Y+nth lg Z) % ((q:Int) - 1)).toNat,by omega⟩
 have z:sr q ex lg Y Z=nth ex k:=by unfold sr;rw [M8 (by omega)];simp only [M9,A]
 have ck:=N.cell k (by omega);have r1:IntKind.i64.wrap (nth lg Y+nth lg Z)=nth lg Y+nth lg Z:=Nn _ (by omega);have r2:IntKind.i64.wrap ((q:Int) - 1)=(q:Int) - 1:=Nn _ (by omega);have r3:(nth lg Y+nth lg Z).tmod ((q:Int) - 1)=k:=by rw [Od _ _ (by omega),A]
 have r4:¬ (q:Int) - 1=0:=by omega
 have r5:(k:Int)<((q - 1:Nat):Int):=by omega
 have r6:(Y:Int)<q:=by omega
 have r7:(Z:Int)<q:=by omega
 have K:=Z5 z;clear O hy z A D F;go_enter func57,ntmps57;go_wp2_with (first|(go_at_call 112;(with_reducible refine (eF Y h X V).mono ?_);rintro e w' ⟨rfl,rfl⟩)|(go_at_call 112;(with_reducible refine (eF Z h U Q).mono ?_);rintro e w' ⟨rfl,rfl⟩));go_quiet (fail);go_wp2;go_ret;exact ⟨_,aK K.symm,rfl⟩
end
section
theorem nH (a b:Nat) (ha:a<256) (hb:b<256):bits .xor .i64 (a:Int) (b:Int)=((a ^^^ b:Nat):Int):=by
 have Z:a ^^^ b<2 ^ 8:=Nat.xor_lt_two_pow (by omega) (by omega);have h1:(BitVec.ofInt 64 (a:Int)).toNat=a:=by rw [Rc,Rh];exact Qa (by omega)
 have h2:(BitVec.ofInt 64 (b:Int)).toNat=b:=by rw [Rc,Rh];exact Qa (by omega)
 show IntKind.i64.wrap ((BitVec.ofInt 64 (a:Int) ^^^ BitVec.ofInt 64 (b:Int)).toNat:Int)=_;rw [BitVec.toNat_xor,h1,h2];exact Nn _ (by omega)
variable {w:ej} {b:Nat} {P:Int} {M q:Nat} {ex lg:Lz}
def jl (w:ej) (z:Int) (e:Ending) (w':ej):Prop:=∃n,e = .returned (cG z)/\w'=w.drewN n
theorem oU {w wr:ej} {n:Nat} (h:wr=w.drewN n) (m:Nat):∃k,wr.drewN m=w.drewN k:=⟨n+m,by rw [h,World.drewN_drewN]⟩
theorem step_eq (P s t D r:Int) (k:Nat):s+P ^ k * (t+P * r)=s+t * P ^ k+P ^ (k+1) * r:=by rw [N1,OM,OE (P ^ k) t,Oh,Int.add_assoc]
theorem vh (x y:Int) (h:AY w b P M q ex lg) (Q:0<=x) (K:x<q) (O:0<=y) (F:y<q) :
  Calls prog 56 #[ea b 0,cG x,cG y] w (jl w (fsum P M x y)):=by
 have hcp:=h.cp;have hp2:=h.p2;have hp256:=h.p256;have hq256:=h.q256;by_cases hP:P=2
 ·obtain ⟨xn,rfl⟩:∃n:Nat,x=n:=⟨x.toNat,by omega⟩
  obtain ⟨yn,rfl⟩:∃n:Nat,y=n:=⟨y.toNat,by omega⟩
  subst hP;have z:=h.pw;have hq2:q=2 ^ M:=by exact_mod_cast z
  have hxor:bits .xor .i64 (xn:Int) (yn:Int)=fsum 2 M xn yn:=by rw [nH _ _ (by omega) (by omega),yV M xn yn (by omega) (by omega)]
  clear z hq2;go_enter func56,ntmps56;go_wp2_with (first|(go_at_call 112;(with_reducible refine (eF xn h Q K).mono ?_);rintro e w' ⟨rfl,rfl⟩)|(go_at_call 112;(with_reducible refine (eF yn h O F).mono ?_);rintro e w' ⟨rfl,rfl⟩));go_ret;exact ⟨0,rfl,rfl⟩
 ·have hP':(P == 2)=false:=by simpa using hP
  have D:=Z5 h.pw;clear hP;go_enter func56,ntmps56;go_wp2_with (first|(go_at_call 112;(with_reducible refine (eF x h Q K).mono ?_);rintro e w' ⟨rfl,rfl⟩)|(go_at_call 112;(with_reducible refine (eF y h O F).mono ?_);rintro e w' ⟨rfl,rfl⟩));go_loopw [1,2,7,8] (λxv yv sv pv wr=>∃(k:Nat) (X Y s p:Int),k<=M/\xv = cG X/\yv = cG Y/\sv = cG s/\pv = cG p/\Hid (p=P ^ k)/\1<=p/\p<=256 /\
    0<=X/\X<=256/\0<=Y/\Y<=256/\0<=s/\s<p/\Hid (X=jG x P k)/\Hid (Y=jG y P k)/\Hid (s+P ^ k * fsum P (M - k) X Y=fsum P M x y)/\∃n,wr=w.drewN n)
   (λxv yv _ _ _=>(intOf xv+intOf yv).toNat)
  case atStart =>
   exact ⟨0,x,y,0,1,by omega,rfl,rfl,rfl,rfl,by show (1:Int)=P ^ 0;simp,by omega,by omega,Q,by omega,O,by omega,by omega,by omega,rfl,rfl,by show 0+P ^ 0 * fsum P (M - 0) x y=_;simp,0,rfl⟩
  case round =>
   obtain ⟨k,X,Y,s,p,hkM,rfl,rfl,rfl,rfl,hp,hp1,hp2',U,hX1,V,hY1,hs0,hs1,hX,hY,hinv,n,E⟩:=hrel
   have hcpr:wr.cell? ⟨b,0,none⟩=some (cG P):=by rw [E];exact hcp
   have r:=Z5 E
   clear E
   by_cases hz:X=0/\Y=0
   ·obtain ⟨rfl,rfl⟩:=hz
    have N:s=fsum P M x y:=by have:=hinv.out;rw [vx] at this;omega
    have j:=Z5 N
    clear N
    go_wp2
    go_ret
    exact ⟨n,aK j.out,r⟩
   ·have hkM':k<M:=by
     rcases NU k M with h1 | h1
     ·exact h1
     ·exfalso;obtain rfl:k=M:=by omega
      have e1:=oz P (by omega) k x Q (by rw [<- D.out];exact K);have e2:=oz P (by omega) k y O (by rw [<- D.out];exact F);exact hz ⟨by rw [hX.out];exact e1,by rw [hY.out];exact e2⟩
    have S:X / P+Y / P<X+Y:=by
     have h1:=OC P U;have h2:=OC P V;rcases (show 0<X\/0<Y by omega) with h3 | h3
     ·have:X / P<X:=O2 (by omega) (by have:=NQ hp2 U;omega);omega
     ·have:Y / P<Y:=O2 (by omega) (by have:=NQ hp2 V;omega);omega
    have hXd:=Ox U (show 0<=P by omega)
    have hYd:=Ox V (show 0<=P by omega)
    have hXd2:=OC P U
    have hYd2:=OC P V
    have m1:=NV X (show P ≠ 0 by omega)
    have m2:=NS X (show 0<P by omega)
    have m3:=NV Y (show P ≠ 0 by omega)
    have m4:=NS Y (show 0<P by omega)
    have m5:=NV (X+Y) (show P ≠ 0 by omega)
    have m6:=NS (X+Y) (show 0<P by omega)
    have C:p * P=P ^ (k+1):=by rw [hp.out,N1]
    have hpM:P ^ (k+1)<=256:=by have h1:=dJ (show 1<=P by omega) (show k+1<=M by omega);have h2:=D.out;omega
    have m7:0<=(X+Y) % P * p:=OZ m5 (by omega)
    have m8:(X+Y) % P * p+p<=p * P:=by have:=NQ (show (X+Y) % P+1<=P by omega) (show 0<=p by omega);rw [OM] at this;rw [OE _ p];omega
    have m9:p * 1<=p * P:=NQ (by omega) (by omega)
    have Z:s+(X+Y) % P * p+P ^ (k+1) * fsum P (M - (k+1)) (X / P) (Y / P)=fsum P M x y:=by rw [<- hinv.out,show M - k=(M - (k+1))+1 from by omega,fsum,step_eq P s _ 0,hp.out]
    have hP0:P ≠ 0:=by omega
    have r1:X.tmod P=X % P:=Od _ _ U
    have r2:Y.tmod P=Y % P:=Od _ _ V
    have r3:IntKind.i64.wrap (X % P+Y % P)=X % P+Y % P:=Nn _ (by omega)
    have r4:(X % P+Y % P).tmod P=(X+Y) % P:=by rw [Od _ _ (by omega),Int.emod_add_emod,Int.add_emod_emod]
    have r5:IntKind.i64.wrap ((X+Y) % P * p)=(X+Y) % P * p:=Nn _ (by omega)
    have r6:IntKind.i64.wrap (s+(X+Y) % P * p)=s+(X+Y) % P * p:=Nn _ (by omega)
    have hpl:p * P<=256:=by rw [C];exact hpM
    have H:=Z5 Z
    have Hpp:=Z5 C
    have A:=Z5 S
    clear Z C S
    rcases (show 0<X\/(decide (0<X)=false/\0<Y) by simp;omega) with hg | ⟨hgx,hg⟩
    all_goals
     go_wp2_with fail
     go_quiet (fail)
     clear r1 r2 r3 r4 r5 r6
     go_wp2
     go_roundw
     case rel =>
      refine ⟨k+1,_,_,_,_,by omega,rfl,rfl,rfl,rfl,Hpp,by omega,by have:=Hpp.out;omega,by omega,by omega,by omega,by omega,by omega,by omega,?_,?_,H,oU r.out _⟩
      ·show _=jG x P (k+1);rw [jG,<- hX.out]
      ·show _=jG y P (k+1);rw [jG,<- hY.out]
     case measure=>have:=A.out;simp [intOf]<;>omega
end
section
variable {w:ej} {b:Nat} {P:Int} {M q:Nat} {ex lg:Lz}
theorem AY.drewN (h:AY w b P M q ex lg) (n:Nat):AY (w.drewN n) b P M q ex lg:=h.ai (below_drewN (M5 _ _) n)
theorem uQ (x:Int) (h:AY w b P M q ex lg) (S:0<=x) (H:x<q) :
  Calls prog 103 #[ea b 0,cG x] w (jl w (fneg P M x)):=by
 have j:=h.cp;have hp2:=h.p2;have A:=h.p256;have r:=h.q256;have C:=Z5 h.pw;go_enter func103,ntmps103;go_wp2_with (go_at_call 112;(with_reducible refine (eF x h S H).mono ?_);rintro e w' ⟨rfl,rfl⟩);go_loopw [1,5,6] (λz sv pv wr=>∃(k:Nat) (X s p:Int),k<=M/\z = cG X/\sv = cG s/\pv = cG p/\Hid (p=P ^ k)/\1<=p/\p<=256 /\
   0<=X/\X<=256/\0<=s/\s<p/\Hid (X=jG x P k)/\Hid (s+P ^ k * fneg P (M - k) X=fneg P M x)/\∃n,wr=w.drewN n)
  (λz _ _ _=>(intOf z).toNat)
 case atStart =>
  exact ⟨0,x,0,1,by omega,rfl,rfl,rfl,by show (1:Int)=P ^ 0;simp,by omega,by omega,S,by omega,by omega,by omega,rfl,by show 0+P ^ 0 * fneg P (M - 0) x=_;simp,0,rfl⟩
 case round =>
  obtain ⟨k,X,s,p,hkM,rfl,rfl,rfl,hp,hp1,hp2',O,hX1,hs0,hs1,hX,hinv,n,N⟩:=hrel
  have hcpr:wr.cell? ⟨b,0,none⟩=some (cG P):=by rw [N];exact j
  have F:=Z5 N
  clear N
  by_cases hz:X=0
  ·subst hz
   have U:s=fneg P M x:=by have:=hinv.out;rw [vG] at this;omega
   have E:=Z5 U
   clear U
   go_wp2
   go_ret
   exact ⟨n,aK E.out,F⟩
  ·have hkM':k<M:=by
    rcases NU k M with h1 | h1
    ·exact h1
    ·exfalso;obtain rfl:k=M:=by omega
     have e1:=oz P (by omega) k x S (by rw [<- C.out];exact H);exact hz (by rw [hX.out];exact e1)
   have Y:X / P<X:=O2 (by omega) (by have:=NQ hp2 O;omega)
   have hXd:=Ox O (show 0<=P by omega)
   have m1:=NV X (show P ≠ 0 by omega)
   have m2:=NS X (show 0<P by omega)
   have m5:=NV (P - X % P) (show P ≠ 0 by omega)
   have m6:=NS (P - X % P) (show 0<P by omega)
   have K:p * P=P ^ (k+1):=by rw [hp.out,N1]
   have hpM:P ^ (k+1)<=256:=by have h1:=dJ (show 1<=P by omega) (show k+1<=M by omega);have h2:=C.out;omega
   have m7:0<=(P - X % P) % P * p:=OZ m5 (by omega)
   have m8:(P - X % P) % P * p+p<=p * P:=by have:=NQ (show (P - X % P) % P+1<=P by omega) (show 0<=p by omega);rw [OM] at this;rw [OE _ p];omega
   have m9:p * 1<=p * P:=NQ (by omega) (by omega)
   have Z:s+(P - X % P) % P * p+P ^ (k+1) * fneg P (M - (k+1)) (X / P)=fneg P M x:=by rw [<- hinv.out,show M - k=(M - (k+1))+1 from by omega,fneg,step_eq P s _ 0,hp.out]
   have hP0:P ≠ 0:=by omega
   have hg:0<X:=by omega
   obtain ⟨D,hD⟩:∃D,D=(P - X % P) % P:=⟨_,rfl⟩
   rw [<- hD] at m5 m6 m7 m8 Z
   have r1:X.tmod P=X % P:=Od _ _ O
   have r3:IntKind.i64.wrap (P - X % P)=P - X % P:=Nn _ (by omega)
   have r4:(P - X % P).tmod P=D:=by rw [Od _ _ (by omega),hD]
   have r5:IntKind.i64.wrap (D * p)=D * p:=Nn _ (by omega)
   have r6:IntKind.i64.wrap (s+D * p)=s+D * p:=Nn _ (by omega)
   have hpl:p * P<=256:=by rw [K];exact hpM
   have Q:=Z5 Z
   have Hpp:=Z5 K
   have V:=Z5 Y
   clear Z K Y hD
   go_wp2_with fail
   go_quiet (fail)
   clear r1 r3 r4 r5 r6
   go_wp2
   go_roundw
   case rel =>
    refine ⟨k+1,_,_,_,by omega,rfl,rfl,rfl,Hpp,by omega,by omega,by omega,by have:=V.out;omega,by omega,by omega,?_,Q,oU F.out _⟩
    show _=jG x P (k+1);rw [jG,<- hX.out]
   case measure=>have:=V.out;simp [intOf]<;>omega
def Mt (P:Int) (M:Nat) (x y:Int):Int:=fsum P M x (fneg P M y)
theorem Ft (x y:Int) (h:AY w b P M q ex lg) (U:0<=x) (X:x<q) (V:0<=y) (Z:y<q) :
  Calls prog 199 #[ea b 0,cG x,cG y] w (jl w (Mt P M x y)):=by
 have Y:=rF (show 0<P by have:=h.p2;omega) M y;have S:fneg P M y<q:=by rw [h.pw];exact Y.2
 have Q:=Y.1;clear Y;go_enter func199,ntmps199;go_wp2_with fail;refine (uQ y h V Z).mono ?_;rintro e O ⟨n,rfl,rfl⟩;go_wp2_with fail;refine (vh x _ (h.drewN n) U X Q S).mono ?_;rintro e O ⟨N,rfl,rfl⟩;go_wp2_with fail;go_ret;exact ⟨_,rfl,rfl⟩
theorem EC (x:Int) (h:AY w b P M q ex lg) (H:0<x) (U:x<q) :
  Calls prog 201 #[ea b 0,cG x] w λe w'=>∃n,e = ec #[cG (zm q ex lg x),cG 0]/\w'=w.drewN n:=by
 obtain ⟨ae,ce,A,X⟩:=h.ce;obtain ⟨al,cl,z,Y⟩:=h.cl;have F:=h.cq;have C:(x == 0)=false:=by rw [beq_eq_false_iff_ne];omega
 obtain ⟨Z,rfl⟩:∃n:Nat,x=n:=⟨x.toNat,by omega⟩
 have lx:=h.lb Z (by omega);have cx:=Y.cell Z (by omega);have D:=X.pl;have K:=Y.pl;have E:=h.q2;have V:=h.q256;have Q:=NV ((q:Int) - 1 - nth lg Z) (show (q:Int) - 1 ≠ 0 by omega);have S:=NS ((q:Int) - 1 - nth lg Z) (show 0<(q:Int) - 1 by omega);obtain ⟨k,O⟩:∃k:Nat,((q:Int) - 1 - nth lg Z) % ((q:Int) - 1)=k:=⟨(((q:Int) - 1 - nth lg Z) % ((q:Int) - 1)).toNat,by omega⟩
 have N:zm q ex lg Z=nth ex k:=by unfold zm;simp only [M9,O]
 have ck:=X.cell k (by omega);have r2:IntKind.i64.wrap ((q:Int) - 1)=(q:Int) - 1:=Nn _ (by omega);have r1:IntKind.i64.wrap ((q:Int) - 1 - nth lg Z)=(q:Int) - 1 - nth lg Z:=Nn _ (by omega);have r3:((q:Int) - 1 - nth lg Z).tmod ((q:Int) - 1)=k:=by rw [Od _ _ (by omega),O]
 have r4:¬ (q:Int) - 1=0:=by omega
 have r5:(k:Int)<((q - 1:Nat):Int):=by omega
 have j:(Z:Int)<q:=by omega
 have r:=Z5 N;clear N O Q S;go_enter func201,ntmps201;go_wp2_with (first|(go_at_call 112;(with_reducible refine (eF Z h (by omega) U).mono ?_);rintro e w' ⟨rfl,rfl⟩));go_quiet (fail);go_wp2;go_ret2;exact ⟨_,by rw [r.out];rfl,rfl⟩
structure bX where
 P:Int
 M:Nat
 q:Nat
 ex:Lz
 lg:Lz
def bX.add (G:bX) (x y:Int):Int:=fsum G.P G.M x y
def bX.neg (G:bX) (x:Int):Int:=fneg G.P G.M x
def bX.sub (G:bX) (x y:Int):Int:=Mt G.P G.M x y
def bX.mul (G:bX) (x y:Int):Int:=sr G.q G.ex G.lg x y
def bX.inv (G:bX) (x:Int):Int:=zm G.q G.ex G.lg x
def bX.El (G:bX) (x:Int):Prop:=0<=x/\x<G.q
def dg (w:ej) (b:Nat) (G:bX):Prop:=AY w b G.P G.M G.q G.ex G.lg
theorem dg.ai {w w':ej} {b:Nat} {G:bX} (h:dg w b G) (hb:SJ w w'):dg w' b G:=AY.ai h hb
theorem dg.drewN {w:ej} {b:Nat} {G:bX} (h:dg w b G) (n:Nat):dg (w.drewN n) b G:=AY.drewN h n
variable {G:bX}
theorem bX.GR (h:dg w b G) (x y:Int):G.El (G.add x y):=by have:=xk (show 0<G.P by have:=h.p2;omega) G.M x y;exact ⟨this.1,by rw [h.pw];exact this.2⟩
theorem bX.uc (h:dg w b G) (x:Int):G.El (G.neg x):=by have:=rF (show 0<G.P by have:=h.p2;omega) G.M x;exact ⟨this.1,by rw [h.pw];exact this.2⟩
theorem bX.vD (h:dg w b G) (k:Int) (h0:0<=k) (h1:k<(G.q:Int) - 1):G.El (nth G.ex k.toNat):=h.eb _ (by omega)
theorem bX.iV (h:dg w b G) (x y:Int):G.El (G.mul x y):=by
 unfold bX.mul sr;have Z:=h.q2;split
 ·exact ⟨Pu _,by omega⟩
 ·exact bX.vD h _ (NV _ (by omega)) (NS _ (by omega))
theorem bX.nC (h:dg w b G) (x:Int):G.El (G.inv x):=by have Z:=h.q2;exact bX.vD h _ (NV _ (by omega)) (NS _ (by omega))
theorem Kb (x y:Int) (h:dg w b G) (Z:G.El x) (hy:G.El y) :
  Calls prog 56 #[ea b 0,cG x,cG y] w (jl w (G.add x y)):=vh x y h Z.1 Z.2 hy.1 hy.2
theorem Jo (x:Int) (h:dg w b G) (Z:G.El x) :
  Calls prog 103 #[ea b 0,cG x] w (jl w (G.neg x)):=uQ x h Z.1 Z.2
theorem JR (x y:Int) (h:dg w b G) (Z:G.El x) (hy:G.El y) :
  Calls prog 199 #[ea b 0,cG x,cG y] w (jl w (G.sub x y)):=Ft x y h Z.1 Z.2 hy.1 hy.2
theorem lp (x y:Int) (h:dg w b G) (Z:G.El x) (hy:G.El y) :
  Calls prog 57 #[ea b 0,cG x,cG y] w (jl w (G.mul x y)) :=
 (E2 x y h Z.1 Z.2 hy.1 hy.2).mono λ_ _ ⟨n,h1,h2⟩=>⟨n,h1,h2⟩
theorem Af (x:Int) (h:dg w b G) (Z:G.El x) (Y:x ≠ 0) :
  Calls prog 201 #[ea b 0,cG x] w λe w'=>∃n,e = ec #[cG (G.inv x),cG 0]/\w'=w.drewN n :=
 EC x h (by have:=Z.1;omega) Z.2
theorem Mc (x:Int) (h:dg w b G) :
  Calls prog 55 #[ea b 0,cG x] w λe w'=>e = .returned (.bool (decide (0<=x) && decide (x<G.q)))/\w=w':=zQ x h
def bX.vn (G:bX) (l:Lz):Prop:=∀x ∈ l,G.El x
theorem bX.vn.nth {l:Lz} (h:G.vn l) {i:Nat} (hi:i<l.length):G.El (nth l i):=h _ (aG hi)
def cR (w:ej) (l:Lz) (e:Ending) (w':ej):Prop :=
 ∃a c,e = .returned (.slice a l.length c)/\w'.ownsRow w.heap.size 3 1 (.slice a l.length c) l.length (l.map (Value.int .i64))/\SJ w w'
theorem pK (s:Int) (a:OA) (n c:Nat) (l:Lz) (h:dg w b G) (D:G.El s) (hi:Ints w a n l) (E:G.vn l) (z:n<=1000000) :
  Calls prog 66 #[ea b 0,cG s,.slice a n c] w (cR w (l.map (G.mul s))):=by
 have hlen:=hi.len;have K:=hi.pl;go_enter func66,ntmps66;go_wp2_with (at_make;refine bR rfl _ _ 22 3 rfl (cG 0) 8 underlying22 br rfl n rfl rfl (by omega) (by unfold maxLen;omega) ?_;intro a1 w1 Y Z H X);go_loopw [15] (λF wr=>∃k:Nat,k<=n/\F = cG k /\
   wr.ownsRow w.heap.size 3 1 (.slice a1 n n) n ((dz ((l.take k).map (G.mul s)) k n).map (Value.int .i64))/\SJ w wr)
  (λi _=>n - (intOf i).toNat)
 case atStart=>exact ⟨0,Nb _,rfl,by simpa [dz] using Y,Z⟩
 case round =>
  obtain ⟨k,hk,rfl,Y,Z⟩:=hrel
  obtain ⟨hints,V⟩:=RW Y
  have N:=hints.pl
  by_cases X:k<n
  ·have hc:=(hi.ai Z).cell k X
   have O:=E.nth (i:=k) (by omega)
   have r:=(V (by omega)).2 k X
   have A:=hints.cell k X
   have C:=(V (by omega)).1
   go_wp2_with fail
   refine (lp s (nth l k) (h.ai Z) D O).mono ?_
   rintro e j ⟨m,rfl,rfl⟩
   go_wp2_with fail
   go_roundw
   case rel =>
    refine ⟨k+1,by omega,by go_num,?_,(below_drewN Z m).setCell C _⟩
    have h:=bA (w:=wr.drewN m) Y k X (cG (G.mul s (nth l k)))
    rw [<- Ny,fJ _ _ _ _ (by simp;omega) X] at h
    rw [Nh (by omega),NT]
    rw [an (by omega)] at h ⊢
    exact h
   case measure=>simp [intOf]<;>omega
  ·obtain rfl:k=n:=by omega
   have U:dz ((l.take k).map (G.mul s)) k k=l.map (G.mul s):=by rw [gr,Nj (by omega)]
   rw [U] at Y
   have Q:(l.map (G.mul s)).length=k:=by simp [hlen]
   have S:=Z5 Q
   clear Q U
   go_wp2_with fail
   go_ret
   exact ⟨a1,k,by rw [S.out];rfl,by rw [S.out];exact Y,Z⟩
end
def logTo (q:Nat) (ex:Lz):Nat->Lz
 | 0=>List.replicate q 0
 | k+1=>(logTo q ex k).set (nth ex k).toNat k
theorem jc (q:Nat) (ex:Lz):∀k,(logTo q ex k).length=q
 | 0=>by simp [logTo]
 | k+1=>by simp [logTo,jc q ex k]
theorem A8 (q:Nat) (ex:Lz) (Y:2<=q):∀k,k<=q - 1->∀i,0<=nth (logTo q ex k) i/\nth (logTo q ex k) i<(q:Int) - 1
 | 0,_,i=>by
  have:nth (logTo q ex 0) i=0:=by simp only [logTo,nth,Na,NP];split<;>rfl
  omega
 | k+1,X,i=>by
  have Z:=A8 q ex Y k (by omega) i;by_cases h:(nth ex k).toNat<q
  ·rw [logTo,eT _ _ _ _ (by rw [jc];exact h)];split<;>omega
  ·rw [logTo,OL (by rw [jc];omega)];exact Z
theorem tW (P:Int) (M:Nat) (mod:Lz) (q:Nat):∀(n x:Nat),genTo P M mod q n x ≠ []->∃y:Nat,x<=y/\y<x+n/\fX P M mod q y=true/\genTo P M mod q n x=eX P M mod q y
 | 0,x,h=>absurd rfl h
 | n+1,x,h=>by
  rw [genTo] at h ⊢;by_cases Z:fX P M mod q x=true
  ·rw [M7 Z];exact ⟨x,M4 _,by omega,Z,rfl⟩
  ·rw [M8 Z] at h ⊢;obtain ⟨y,h1,h2,h3,h4⟩:=tW P M mod q n (x+1) h;exact ⟨y,by omega,by omega,h3,h4⟩
theorem pC {P:Int} {M:Nat} {mod:Lz} {q:Nat} (h:fW P M mod q ≠ []):∃y:Nat,1<=y/\y<q/\fX P M mod q y=true/\fW P M mod q=eX P M mod q y:=by obtain ⟨y,h1,h2,h3,h4⟩:=tW P M mod q (q - 1) 1 h;exact ⟨y,h1,by omega,h3,h4⟩
def ah (P:Int) (M:Nat) (mod:Lz):bX :=
 { P:=P,M:=M,q:=(aO P M).toNat,ex:=fW P M mod (aO P M).toNat,lg:=logTo (aO P M).toNat (fW P M mod (aO P M).toNat) ((aO P M).toNat - 1) }
theorem Ff {w:ej} {P M:Int} {am:OA} {Y:Nat} {mod:Lz} (hm:Ints w am Y mod) (h:cF P M mod=true):Y<=8:=by
 simp only [cF,Nx,bne_iff_ne,ne_eq] at h;obtain ⟨⟨h0,h1⟩,h2⟩:=h;obtain ⟨Q,S,O,V,N,U⟩:=gR h0;have X:=hm.len;by_cases Z:M=1
 ·rw [M7 Z] at h2;have h3:mod.length=0:=by simpa using h2
  omega
 ·rw [M8 Z] at h2;simp only [Nx,NM] at h2;omega
def yL (B:Nat) (w:ej) (b:Nat) (G:bX):Prop:=∀V:ej,(∀k,B<=k->k<w.heap.size->V.heap[k]? = w.heap[k]?)->dg V b G
theorem yL.gf {B:Nat} {w:ej} {b:Nat} {G:bX} (h:yL B w b G):dg w b G:=h w λ_ _ _=>rfl
theorem yL.mono {B B':Nat} {w:ej} {b:Nat} {G:bX} (h:yL B w b G) (Z:B'<=B):yL B' w b G:=λV Y=>h V λk h1 h2=>Y k (Np Z h1) h2
theorem yL.ai {B:Nat} {w w':ej} {b:Nat} {G:bX} (h:yL B w b G) (hb:SJ w w'):yL B w' b G:=λV Z=>h V λk h1 h2=>(Z k h1 (Nz h2 hb.size)).trans (hb.block k h2)
theorem yL.setCell {B:Nat} {w:ej} {b:Nat} {G:bX} (h:yL B w b G) {p:Addr} (Y:p.block<B) (v:Value):yL B (w.setCell p v) b G:=λV Z=>h V λk h1 h2 =>
 (Z k h1 (by have:=((M5 0 w).setCell (p:=p) (Nb _) v).size;omega)).trans (Nt _ _ _ _ (by omega))
def DB (P M:Int) (mod:Lz) (w:ej) (e:Ending) (w':ej):Prop :=
 (bw P M mod=false/\e = ec #[.pointer none,cG 1]/\SJ w w') \/
 (bw P M mod=true/\∃b,e = ec #[ea b 0,cG 0]/\yL w.heap.size w' b (ah P M.toNat mod)/\w.heap.size<=b/\SJ w w')
theorem dh (P M:Int) (am:OA) (C cm:Nat) (mod:Lz) (w:ej) (D:Ints w am C mod) :
  Calls prog 52 #[.agg #[cG P,cG M,.slice am C cm]] w (DB P M mod w):=by
 have hbox:∀w':ej,Below (w.heap.size+1) (w.alloc (.cells #[cG P,cG M,.slice am C cm] 24)) w' ->
   w'.cell? ⟨w.heap.size,0,none⟩=some (cG P)/\w'.cell? ⟨w.heap.size,1,none⟩=some (cG M)/\w'.cell? ⟨w.heap.size,2,none⟩=some (.slice am C cm)/\SJ w w':=by intro w' h;refine ⟨(h.cell (by simp)).trans (by simp),(h.cell (by simp)).trans (by simp),(h.cell (by simp)).trans (by simp),((M5 _ _).alloc (M4 _) _).trans (h.mono (by omega))⟩
 have r:=Z5 hbox;clear hbox;go_enter func52,ntmps52;go_wp2_with fail;generalize hW0:w.alloc (.cells #[cG P,cG M,.slice am C cm] 24)=W0 at *;have hW0s:W0.heap.size=w.heap.size+1:=by rw [<- hW0];simp
 obtain ⟨q0,q1,q2,hbw⟩:=r W0 (M5 _ _);clear hW0;refine (pN P M am C cm mod W0 (D.ai hbw)).mono ?_;rintro e w1 ⟨rfl,hb1⟩;have hB1:Below (w.heap.size+1) W0 w1:=hb1.mono (by omega);obtain ⟨q0,q1,q2,hbw⟩:=r w1 hB1;by_cases hs:cF P M mod=true;case neg =>
  have hs':cF P M mod=false:=by simpa using hs
  have Hf:=Z5 (show bw P M mod=false by simp [bw,hs'])
  clear hs
  go_wp2_with fail
  go_ret2
  exact .inl ⟨Hf,rfl,hbw⟩
 have hmn:=Ff D hs;obtain ⟨m,rfl,hd,ho,hq⟩:=qs D hs;go_wp2_with fail;refine (ie _ _ _).mono ?_;rintro e Z ⟨rfl,rfl⟩;have hoq:aO P m=((aO P m).toNat:Int):=by rw [hq,ho]
 have hfB:bw P m mod = !(fW P m mod (aO P m).toNat).isEmpty:=by simp [bw,hs]
 have hT:ah P ((m:Int).toNat) mod = { P:=P,M:=m,q:=(aO P m).toNat,ex:=fW P m mod (aO P m).toNat,lg:=logTo (aO P m).toNat (fW P m mod (aO P m).toNat) ((aO P m).toNat - 1) }:=rfl;have HT:=Z5 hT;have HfB:=Z5 hfB;rw [hoq];generalize (aO P m).toNat=q at *;have Hq:=Z5 hq;clear hoq hfB ho hT hq hs;go_wp2_with fail;refine (nf P m am C cm mod q w1 (hd.ai hbw) Hq.out).mono ?_;rintro e Z ⟨a2,c2,rfl,S,j,hb2⟩;have Q:=rM.isNone S j;have hB2:Below (w.heap.size+1) W0 Z:=hB1.trans (hb2.mono (by have:=hB1.size;omega));obtain ⟨r0,r1,r2,N⟩:=r Z hB2;have heq:=λ(w:ej) (a:OA) (l c:Nat)=>Go.run_eql_slice_nil (P:=prog) w 22 3 a l c underlying22;by_cases H:fW P m mod q=[]
 ·have hf:bw P m mod=false:=by rw [HfB.out,H];rfl
  rw [H] at Q;have hin3:a2.isNone=true:=Q;have Hf:=Z5 hf;clear hf H Q;go_wp2_with fail;go_ret2;exact .inl ⟨Hf,rfl,N⟩
 ·have hin3:a2.isNone=false:=by
   rw [Q];cases h:fW P m mod q with
   | nil=>exact absurd h H
   | cons x l=>rfl
  obtain ⟨y,hy1,hy2,hgy,hpy⟩:=pC H;have hP0:0<P:=by have:=hd.p2;omega
  have hq2:2<=q:=by omega
  have hq256:q<=256:=by have:=hd.pw;have:=Hq.out;omega
  have hlen:(fW P m mod q).length=q - 1:=by rw [hpy];simp only [fX,Nx,beq_iff_eq] at hgy;exact hgy.1
  have hexb:∀i,0<=nth (fW P m mod q) i/\nth (fW P m mod q) i<q:=by intro i;rw [hpy];exact qQ hP0 m mod q y Hq.out hq2 (by omega) (by omega) i
  have hf:bw P m mod=true:=by
   rw [HfB.out];cases h:fW P m mod q with
   | nil=>exact absurd h H
   | cons x l=>rfl
  have Hf:=Z5 hf;have Hexb:=Z5 hexb;rw [hlen] at S;rw [hlen];have HLn:=Z5 hlen;have hi2:=(RW S).1;have E:=D.ai N;clear Q H hf hexb hlen hpy hgy j;generalize fW P m mod q=ex at *;have hmk:=run_mk (P:=prog) 22 3 (cG 0) 8 underlying22 br rfl q (by omega) (by omega);go_upto_region 7 with fail;go_cut [6] (λv wx=>∃(U:Nat) (al:OA),v = ea U 0/\Z.heap.size<=U/\Z.heap.size<=ablk al/\ablk al ≠ U /\
   wx.cell? ⟨U,0,none⟩=some (cG P)/\wx.cell? ⟨U,3,none⟩=some (cG q)/\wx.cell? ⟨U,4,none⟩=some (.slice a2 (q - 1) c2)/\wx.cell? ⟨U,5,none⟩=some (.slice al q q) /\
   wx.ownsRow Z.heap.size 3 1 (.slice al q q) q (List.replicate q (cG 0))/\SJ Z wx)
  case first =>
   have hO:=k8 Z 3
   have hO2:((Z.alloc (.cells (Array.replicate q (cG 0)) 3)).alloc (.cells #[] 3)).ownsRow Z.heap.size 3 1 (.slice (some ⟨Z.heap.size+1,0,none⟩) 0 0) 0 []:=by have h:=bq (k8 (Z.alloc (.cells (Array.replicate q (cG 0)) 3)) 3) (B':=Z.heap.size) (by simp);rwa [P9] at h
   have hS:∀W,SJ Z W->W.cell? ⟨w.heap.size,0,none⟩=some (cG P)/\W.cell? ⟨w.heap.size,1,none⟩=some (cG m)/\W.cell? ⟨w.heap.size,2,none⟩=some (.slice am C cm)/\Ints W am C mod/\SJ Z W :=
    λW hb=>⟨aC hb r0,aC hb r1,aC hb r2,E.ai hb,hb⟩
   have HS:=Z5 hS
   clear hS
   go_region_held3 (λw'=>w'.cell? ⟨w.heap.size,0,none⟩=some (cG P)/\w'.cell? ⟨w.heap.size,1,none⟩=some (cG m)/\w'.cell? ⟨w.heap.size,2,none⟩=some (.slice am C cm)/\Ints w' am C mod/\SJ Z w')
    ((refine HS _ ?_;first|exact (M5 _ _).drew|exact ((M5 _ _).alloc (M4 _) _).drew|exact X|(go_split_ands;exact R6 (by assumption) _)))
    (first|(obtain ⟨_,_,_,hI9,hB9⟩:=(by assumption:_/\_/\_/\Ints _ am C mod/\SJ Z _);refine gB (by rfl) (.tmp 26) (.tmp 28) 22 3 (by rfl) (cG 0) 8 underlying22 br (by rfl) Z.heap.size _ 0 0 [] (by rfl) (by first|exact hO|exact hO.alloc _|exact hO2) am C cm (mod.map (Value.int .i64)) (by rfl) E.pl (by simp [E.len]) (Sm hI9) (ints_oneCell _ _) (by omega) (by unfold maxLen;omega) (OR hB9) ?_;intro a3 c3 w3 hown3 O hap3;have X:SJ Z w3:=RY (B:=Z.heap.size) (e:=3) (xs:=[]) hB9 (by first|exact hO|exact hO.alloc _|exact hO2) O (M4 _) (OR hB9)))
   all_goals (go_step;go_step;go_meet)
   ·have A:=X.size
    refine ⟨w3.heap.size+1,some ⟨w3.heap.size,0,none⟩,rfl,by omega,A,by simp,aF _ _ _ (by simp) 0,aF _ _ _ (by simp) 3,aF _ _ _ (by simp) 4,aF _ _ _ (by simp) 5,?_,R6 (R6 X _) _⟩
    exact World.ownsRow.alloc (mH w3 3 (cG 0) q rfl A (by unfold maxLen;omega)) _
   ·have A:=X.size
    have hsz2:=O.size
    simp at hsz2
    refine ⟨w3.heap.size,some ⟨Z.heap.size+1,0,none⟩,rfl,A,by simp,by simp;omega,aF _ _ _ rfl 0,aF _ _ _ rfl 3,aF _ _ _ rfl 4,aF _ _ _ rfl 5,?_,R6 X _⟩
    exact World.ownsRow.alloc (gN (mH (Z.alloc (.cells #[] 3)) 3 (cG 0) q (by simp) (by simp) (by unfold maxLen;omega)) (pc O) (.inr (by simp))) _
   ·have A:=X.size
    have hsz2:=O.size
    simp at hsz2
    refine ⟨w3.heap.size,some ⟨Z.heap.size,0,none⟩,rfl,A,by simp,by simp;omega,aF _ _ _ rfl 0,aF _ _ _ rfl 3,aF _ _ _ rfl 4,aF _ _ _ rfl 5,?_,R6 X _⟩
    exact World.ownsRow.alloc (gN ((mH Z 3 (cG 0) q rfl (M4 _) (by unfold maxLen;omega)).alloc _) (pc O) (.inr (by simp))) _
  obtain ⟨U,al,rfl,hgb,hal,hne,g0,g3,g4,g5,Y,hbc⟩:=hcut;have hi2c:=hi2.ai hbc;have hpe:=hi2.pl;have HLt:Hid (List.replicate q (Value.int .i64 0)=(logTo q ex 0).map (Value.int .i64)):=by show _=_;simp [logTo]
  go_wp2_with fail;go_loopw [39] (λiv wr=>∃k:Nat,k<=q - 1/\iv = cG k/\wr.ownsRow Z.heap.size 3 1 (.slice al q q) q ((logTo q ex k).map (Value.int .i64)) /\
    (∀b,b ≠ ablk al->b<wc.heap.size->wr.heap[b]? = wc.heap[b]?)/\SJ Z wr)
   (λiv _=>q - (intOf iv).toNat)
  case atStart=>exact ⟨0,Nb _,rfl,by rw [<- HLt.out];exact Y,λ_ _ _=>rfl,hbc⟩
  case round =>
   obtain ⟨k,hk,rfl,Y,F,hbr⟩:=hrel
   have HS:=Z5 F
   have hgl:U<wc.heap.size:=Nf wc _ g0
   have K:=F U (λh=>hne h.symm) hgl
   have g0r:wr.cell? ⟨U,0,none⟩=some (cG P):=(NG (w:=wc) K).trans g0
   have g3r:wr.cell? ⟨U,3,none⟩=some (cG q):=(NG (w:=wc) K).trans g3
   have g4r:wr.cell? ⟨U,4,none⟩=some (.slice a2 (q - 1) c2):=(NG (w:=wc) K).trans g4
   have g5r:wr.cell? ⟨U,5,none⟩=some (.slice al q q):=(NG (w:=wc) K).trans g5
   have z:=hi2.ai hbr
   obtain ⟨hiL,hmL⟩:=RW Y
   have hpL:=hiL.pl
   clear F K
   by_cases hlt:k<q - 1
   ·have ck:=z.cell k hlt
    have hb:=Hexb k
    obtain ⟨xn,hxn⟩:∃xn:Nat,nth ex k=xn:=⟨(nth ex k).toNat,by omega⟩
    have hnx:logTo q ex (k+1)=(logTo q ex k).set xn k:=by rw [logTo,hxn];rfl
    rw [hxn] at ck hb
    have cL:=hiL.cell xn (by omega)
    have fL:=(hmL (by omega)).2 xn (by omega)
    have BL:=(hmL (by omega)).1
    have Hnx:=Z5 hnx
    clear hnx hxn
    go_wp2_with fail
    go_roundw
    case rel =>
     refine ⟨k+1,by omega,by go_num,?_,λb hb hl=>?_,hbr.setCell BL _⟩
     ·rw [Hnx.out,Ny];exact bA Y xn (by omega) _
     ·rw [Nt _ _ _ _ hb];exact HS b hb hl
    case measure=>simp [intOf]<;>omega
   ·obtain rfl:k=q - 1:=by omega
    go_wp2_with fail
    go_ret2
    refine .inr ⟨Hf,U,rfl,?_,by have:=N.size;omega,RU N hbr⟩
    rw [HT.out]
    intro V hV
    have hB:=N.size
    have hB2:=hb2.size
    have hB1:=hbw.size
    have cV:∀i v,wr.cell? ⟨U,i,none⟩=some v->V.cell? ⟨U,i,none⟩=some v:=λi v hv=>(NG (w:=wr) (a:=⟨U,i,none⟩) (hV U (by omega) (Nf wr _ g0r))).trans hv
    refine ⟨hd.p2,hd.m1,hd.m8,Hq,hd.p256,hq2,hq256,cV _ _ g0r,cV _ _ g3r,⟨a2,c2,cV _ _ g4r,?_⟩,⟨al,q,cV _ _ g5r,?_⟩,λi _=>Hexb i,λi _=>A8 q ex hq2 _ (M4 _) i⟩
    ·refine z.of_block λhn=>hV _ ?_ (z.lt hn)
     have:=(ew S hn).1
     omega
    ·refine hiL.of_block λhn=>hV _ ?_ (hiL.lt hn)
     have:=(ew Y hn).1
     omega
section
def jx (q x:Int):Bool:=decide (0<=x) && decide (x<q)
def fC (q:Int) (l:Lz):Bool:=l.all (jx q)
def lJ (q:Int) (l:Lz):Int:=if fC q l then 0 else 2
def jr (Z:Int) (L:ZZ):Bool:=L.all λr=>decide ((r.length:Int)=Z)
def e9 (q Z:Int) (L:ZZ):Int :=
 if Z<0\/256<Z\/256<L.length then 3 else if jr Z L=false then 3 else if L.all (fC q) then 0 else 2
theorem dE {α:Type} {p:α->Bool} {l:List α} {k:Nat} (Y:k<l.length) (h:(l.take k).all p=true) (Z:p l[k]=true):(l.take (k+1)).all p=true:=by rw [Nh Y,Qh,h];simp [Z]
theorem dD {α:Type} {p:α->Bool} {l:List α} {k:Nat} (Y:k<l.length) (Z:p l[k]=false):l.all p=false:=by rw [O7];exact ⟨_,NL Y,by simp [Z]⟩
variable {w:ej} {b:Nat} {G:bX}
theorem Al (a:OA) (n c:Nat) (l:Lz) (h:dg w b G) (hi:Ints w a n l) :
  Calls prog 146 #[ea b 0,.slice a n c] w λe w'=>e = .returned (cG (lJ G.q l))/\w=w':=by
 have N:=hi.pl;have hlen:=hi.len;have S:=hi.max;unfold maxLen at S;have Z:=Z5 hlen;clear hlen;go_enter func146,ntmps146;go_wp2;go_loop [9] (λQ=>∃k:Nat,k<=n/\Q = cG k/\Hid ((l.take k).all (jx G.q)=true)) (λQ=>n - (intOf Q).toNat);case atStart=>exact ⟨0,Nb _,rfl,by show _=_;simp⟩
 case round =>
  obtain ⟨k,F,rfl,V⟩:=hrel
  by_cases Y:k<n
  ·have H:=hi.cell k Y
   by_cases X:jx G.q (nth l k)=true
   ·have U:=X
    unfold jx at U
    have K:=Z5 X
    clear X
    go_wp2_with (first|(go_at_call 55;refine (Mc (nth l k) h).mono ?_;rintro e w' ⟨rfl,rfl⟩))
    go_round
    case rel=>exact ⟨k+1,by omega,by go_num,dE (by rw [Z.out];exact Y) V.out (by rw [<- an (by rw [Z.out];exact Y)];exact K)⟩
    case measure=>simp [intOf]<;>omega
   ·have X:jx G.q (nth l k)=false:=by simpa using X
    have U:=X
    unfold jx at U
    have O:Hid (fC G.q l=false):=dD (k:=k) (by rw [Z.out];exact Y) (by rw [<- an (by rw [Z.out];exact Y)];exact X)
    clear X
    go_wp2_with (first|(go_at_call 55;refine (Mc (nth l k) h).mono ?_;rintro e w' ⟨rfl,rfl⟩))
    go_ret
    exact ⟨aK (by rw [lJ,O.out];rfl),rfl⟩
  ·obtain rfl:k=n:=by omega
   have O:Hid (fC G.q l=true):=by have:=V.out;rw [Nj (by rw [Z.out];exact M4 _)] at this;exact this
   go_wp2
   go_ret
   exact ⟨aK (by rw [lJ,O.out];rfl),rfl⟩
theorem F1 (Z:Int) (a:OA) (n c:Nat) (L:ZZ) (h:dg w b G) (hi:bP w a n L) :
  Calls prog 197 #[ea b 0,.agg #[cG Z,.slice a n c]] w λe w'=>e = .returned (cG (e9 G.q Z L))/\SJ w w':=by
 have hpl:=hi.pl;have hlen:=hi.len;have hmax:=hi.max;unfold maxLen at hmax;have Y:=Z5 hlen;clear hlen;have N:∀w':ej,Below (w.heap.size+1) (w.alloc (.cells #[cG Z,.slice a n c] 94)) w' ->
   w'.cell? ⟨w.heap.size,0,none⟩=some (cG Z)/\w'.cell? ⟨w.heap.size,1,none⟩=some (.slice a n c)/\SJ w w':=by intro w' h;refine ⟨(h.cell (by simp)).trans (by simp),(h.cell (by simp)).trans (by simp),((M5 _ _).alloc (M4 _) _).trans (h.mono (by omega))⟩
 have z:=Z5 N;clear N;have F:=Z5 ((M5 w.heap.size w).alloc (M4 _) (.cells #[cG Z,.slice a n c] 94));by_cases b1:Z<0
 ·have Hf:Hid (e9 G.q Z L=3):=by show _=_;rw [e9,M7 (.inl b1)]
  go_enter func197,ntmps197;go_wp2_with fail;go_ret;exact ⟨aK Hf.symm,F⟩
 by_cases b2:256<Z
 ·have Hf:Hid (e9 G.q Z L=3):=by show _=_;rw [e9,M7 (.inr (.inl b2))]
  go_enter func197,ntmps197;go_wp2_with fail;go_ret;exact ⟨aK Hf.symm,F⟩
 by_cases b3:256<n
 ·have Hf:Hid (e9 G.q Z L=3):=by show _=_;rw [e9,M7 (.inr (.inr (by rw [Y.out];exact b3)))]
  have t1:decide (Z<0)=false:=by simpa using b1
  have t2:decide (256<Z)=false:=by simpa using b2
  have t3:decide (256<(n:Int))=true:=by simp;omega
  go_enter func197,ntmps197;go_wp2_with fail;go_ret;exact ⟨aK Hf.symm,F⟩
 have Hm:Hid (e9 G.q Z L=if jr Z L=false then 3 else if L.all (fC G.q) then 0 else 2):=by show _=_;rw [e9,M8 (by rw [Y.out];omega)]
 have t1:decide (Z<0)=false:=by simpa using b1
 have t2:decide (256<Z)=false:=by simpa using b2
 have t3:decide (256<(n:Int))=false:=by simp;omega
 clear b1 b2;go_enter func197,ntmps197;go_wp2_with fail;generalize hW0:w.alloc (.cells #[cG Z,.slice a n c] 94)=W0 at *;have hW0s:W0.heap.size=w.heap.size+1:=by rw [<- hW0];simp
 obtain ⟨q0,q1,U⟩:=z W0 (M5 _ _);have hiW:=hi.ai U;clear hW0;go_loop [27] (λE=>∃k:Nat,k<=n/\E = cG k/\Hid ((L.take k).all (λr=>decide ((r.length:Int)=Z))=true)) (λE=>n - (intOf E).toNat);case atStart=>exact ⟨0,Nb _,rfl,by show _=_;simp⟩
 case round =>
  obtain ⟨k,hk,rfl,K⟩:=hrel
  by_cases Q:k<n
  ·obtain ⟨ra,rn,rc,A,X⟩:=hiW.cell k Q
   have C:=X.len
   have H:k<L.length:=by rw [Y.out];exact Q
   rw [aH H] at C
   have Hrl:=Z5 C
   clear C
   by_cases he:(rn:Int)=Z
   ·have he':((rn:Int) != Z)=false:=by simpa using he
    have D:Hid (decide ((L[k].length:Int)=Z)=true):=by show _=_;rw [Hrl.out];simpa using he
    clear he
    go_wp2_with fail
    go_round
    case rel=>exact ⟨k+1,by omega,by go_num,dE H K.out D.out⟩
    case measure=>simp [intOf]<;>omega
   ·have he':((rn:Int) != Z)=true:=by simpa using he
    have D:Hid (e9 G.q Z L=3):=by show _=_;rw [Hm.out,M7];exact dD H (by simp only [Hrl.out];simpa using he)
    clear he
    go_wp2_with fail
    go_ret
    exact ⟨aK D.symm,U⟩
  ·obtain rfl:k=n:=by omega
   have Hm2:Hid (e9 G.q Z L=if L.all (fC G.q) then 0 else 2):=by have:=K.out;rw [Nj (by rw [Y.out];exact M4 _)] at this;show _=_;rw [Hm.out,M8 (by rw [jr,this];simp)]
   have hG:=h.ai U
   go_wp2_with fail
   go_loop [40] (λE=>∃j:Nat,j<=k/\E = cG j/\Hid ((L.take j).all (fC G.q)=true)) (λE=>k - (intOf E).toNat)
   case atStart=>exact ⟨0,Nb _,rfl,by show _=_;simp⟩
   case round =>
    obtain ⟨j,hj,rfl,V⟩:=hrel
    by_cases Q:j<k
    ·obtain ⟨ra,rn,rc,A,X⟩:=hiW.cell j Q
     have O:j<L.length:=by rw [Y.out];exact Q
     go_wp2_with fail
     refine (Al ra rn rc _ hG X).mono ?_
     rintro e w' ⟨rfl,rfl⟩
     by_cases he:fC G.q (aj L j)=true
     ·have S:lJ G.q (aj L j)=0:=by rw [lJ,he];rfl
      rw [S]
      rw [aH O] at he
      have He:=Z5 he
      clear he S
      go_wp2_with fail
      go_round
      case rel=>exact ⟨j+1,by omega,by go_num,dE O V.out He.out⟩
      case measure=>simp [intOf]<;>omega
     ·have S:lJ G.q (aj L j)=2:=by rw [lJ,M8 he]
      rw [S]
      rw [aH O] at he
      have D:Hid (e9 G.q Z L=2):=by show _=_;rw [Hm2.out,dD O (by simpa using he)];rfl
      clear he S
      go_wp2_with fail
      go_ret
      exact ⟨aK D.symm,U⟩
    ·obtain rfl:j=k:=by omega
     have D:Hid (e9 G.q Z L=0):=by have:=V.out;rw [Nj (by rw [Y.out];exact M4 _)] at this;show _=_;rw [Hm2.out,this];rfl
     go_wp2_with fail
     go_ret
     exact ⟨aK D.symm,U⟩
end
structure xz (w:ej) (a:OA) (n:Nat) (l:List (Int × ZZ)):Prop where
 len:l.length=n
 pl:Pl a n
 max:n<=maxLen
 cell:∀i (hi:i<l.length),∃b m c,w.cell? ⟨ablk a,aN a+i * 2,none⟩=some (cG l[i].1)/\w.cell? ⟨ablk a,aN a+i * 2+1,none⟩=some (.slice b m c)/\bP w b m l[i].2
theorem xz.ai {w w':ej} {a:OA} {n:Nat} {l:List (Int × ZZ)} (h:xz w a n l) (hb:SJ w w'):xz w' a n l:=by refine ⟨h.len,h.pl,h.max,λi hi=>?_⟩;obtain ⟨b,m,c,h1,h2,h3⟩:=h.cell i hi;exact ⟨b,m,c,aC hb h1,aC hb h2,h3.ai hb⟩
def matsE (q:Int):List (Int × ZZ)->Int
 | []=>0
 | m :: l=>if e9 q m.1 m.2=0 then matsE q l else e9 q m.1 m.2
theorem Ch {q:Int} {l:List (Int × ZZ)} {k:Nat} (Z:k<l.length):matsE q (l.drop k)=if e9 q l[k].1 l[k].2=0 then matsE q (l.drop (k+1)) else e9 q l[k].1 l[k].2:=by rw [NX Z,matsE]
def G7 (P M:Int) (mod:Lz) (l:List (Int × ZZ)) (w:ej) (e:Ending) (w':ej):Prop :=
 SJ w w'/\(
 (bw P M mod=false/\e = ec #[.pointer none,cG 1]) \/
 (bw P M mod=true/\∃Z,Z ≠ 0/\matsE (ah P M.toNat mod).q l=Z/\e = ec #[.pointer none,cG Z]) \/
 (bw P M mod=true/\matsE (ah P M.toNat mod).q l=0/\∃b,e = ec #[ea b 0,cG 0]/\dg w' b (ah P M.toNat mod)/\w.heap.size<=b))
theorem l6 (P M:Int) (am:OA) (r cm:Nat) (mod:Lz) (a:OA) (n c:Nat) (l:List (Int × ZZ)) (w:ej) (z:Ints w am r mod) (hl:xz w a n l) :
  Calls prog 145 #[.agg #[cG P,cG M,.slice am r cm],.slice a n c] w (G7 P M mod l w):=by
 have hpl:=hl.pl;have hlen:=hl.len;have D:=hl.max;unfold maxLen at D;have Q:=Z5 hlen;clear hlen;have Hal:=Z5 ((M5 w.heap.size w).alloc (M4 _) (.cells #[cG P,cG M,.slice am r cm] 24));go_enter func145,ntmps145;go_wp2_with fail;have S:=Hal.out;generalize w.alloc (.cells #[cG P,cG M,.slice am r cm] 24)=W0 at *;refine (dh P M am r cm mod W0 (z.ai S)).mono ?_;rintro e w1 (⟨j,rfl,K⟩ | ⟨j,b,rfl,hGs,hbl,K⟩)
 ·have HB:=Z5 j;clear j;have Y:=RU S K;go_wp2_with fail;go_ret2;exact ⟨Y,.inl ⟨HB,rfl⟩⟩
 ·have HB:=Z5 j;clear j;have Y:=RU S K;have hbb:w.heap.size<=b:=Np S.size hbl;have hG:=hGs.gf;clear hGs;generalize hT:ah P M.toNat mod=G at *;have HT:=Z5 hT;clear hT;go_wp2_with fail;go_loopw [20] (λiv wr=>∃k:Nat,k<=n/\iv = cG k/\Hid (matsE G.q l=matsE G.q (l.drop k))/\SJ w1 wr) (λiv _=>n - (intOf iv).toNat);case atStart=>exact ⟨0,Nb _,rfl,by show _=_;simp,M5 _ _⟩
  case round =>
   obtain ⟨k,hk,rfl,U,N⟩:=hrel
   have O:=RU Y N
   by_cases hlt:k<n
   ·have F:k<l.length:=by rw [Q.out];exact hlt
    have hlr:=hl.ai O
    obtain ⟨rb,rm,rc,c1,c2,hM⟩:=hlr.cell k F
    have V:=Ch (q:=G.q) F
    have X:=Z5 V
    clear V
    generalize l[k].1=Z at *
    generalize l[k].2=L at *
    have A:=Z5 ((M5 wr.heap.size wr).alloc (M4 _) (.cells #[cG Z,.slice rb rm rc] 94))
    go_wp2_with fail
    have E:=A.out
    generalize wr.alloc (.cells #[cG Z,.slice rb rm rc] 94)=W2 at *
    have hB2:SJ w1 W2:=RU N E
    refine (F1 Z rb rm rc L (hG.ai hB2) (hM.ai E)).mono ?_
    rintro e w3 ⟨rfl,hb3⟩
    have C:SJ w1 w3:=RU hB2 hb3
    by_cases he:e9 G.q Z L=0
    ·have H:Hid (matsE G.q l=matsE G.q (l.drop (k+1))):=by show _=_;rw [U.out,X.out,M7 he]
     rw [he]
     clear he
     go_wp2_with fail
     go_roundw
     case rel=>exact ⟨k+1,by omega,by go_num,H,C⟩
     case measure=>simp [intOf]<;>omega
    ·have H:Hid (matsE G.q l=e9 G.q Z L):=by show _=_;rw [U.out,X.out,M8 he]
     generalize e9 G.q Z L=er at *
     have he':(er != 0)=true:=by simpa using he
     have He:Hid (er ≠ 0):=he
     clear he
     go_wp2_with fail
     go_ret2
     exact ⟨RU Y C,.inr (.inl ⟨HB,er,He,by rw [HT.out];exact H.out,rfl⟩)⟩
   ·obtain rfl:k=n:=by omega
    have H:Hid (matsE G.q l=0):=by show _=_;rw [U.out,PV (by rw [Q.out];exact M4 _)];rfl
    go_wp2_with fail
    go_ret2
    exact ⟨O,.inr (.inr ⟨HB,by rw [HT.out];exact H.out,b,rfl,by rw [HT.out];exact hG.ai N,hbb⟩)⟩
section
def jD (r:OA × Nat) (l:Lz):Value:=.slice r.1 l.length r.2
def aM (R:Z4) (i:Nat):OA × Nat:=R.getD i (none,0)
theorem fK {l:Z4} {i:Nat} (h:i<l.length):aM l i=l[i]:=by simp [aM,h]
theorem iP (l:Z4) (i j:Nat) (x:OA × Nat) (hi:i<l.length):aM (l.set i x) j=if j=i then x else aM l j:=by
 unfold aM;simp only [Na,OP];by_cases h:i=j
 ·subst h;simp [hi]
 ·rw [M8 h,M8 (by omega)]
theorem fI (l:ZZ) (i j:Nat) (x:Lz) (hi:i<l.length):aj (l.set i x) j=if j=i then x else aj l j:=by
 unfold aj;simp only [Na,OP];by_cases h:i=j
 ·subst h;simp [hi]
 ·rw [M8 h,M8 (by omega)]
theorem rV (n i:Nat):aj (List.replicate n []) i=[]:=by simp only [aj,Na,NP];split<;>rfl
theorem jz (n i:Nat):aM (List.replicate n (none,0)) i=(none,0):=by simp only [aM,Na,NP];split<;>rfl
theorem yh (R:Z4) (L:ZZ) (i:Nat) (r:OA × Nat) (l:Lz) :
  (List.zipWith jD R L).set i (jD r l)=List.zipWith jD (R.set i r) (L.set i l):=by
 apply Qw;intro j;simp only [OP,P5,Ov];by_cases h:i=j
 ·subst h;by_cases h1:i<R.length<;>by_cases h2:i<L.length<;>simp [h1,h2,show ¬ (i<R.length/\i<L.length)->¬ i<min R.length L.length from by omega];exact Nat.lt_min.2 ⟨h1,h2⟩
 ·simp [h]
structure aS (w:ej) (B:Nat) (a:OA) (n c:Nat) (R:Z4) (L:ZZ):Prop where
 rl:R.length=n
 ll:L.length=n
 own:w.ownsRow B 22 1 (.slice a n c) n (List.zipWith jD R L)
 row:∀i,i<n->w.ownsRow B 3 1 (.slice (aM R i).1 (aj L i).length (aM R i).2) (aj L i).length ((aj L i).map (Value.int .i64))
 ue:∀i,i<n->dq (aM R i).1 (ablk a)
 sep:∀i j,i<n->j<n->i ≠ j->(aM R i).1=none\/dq (aM R j).1 (ablk (aM R i).1)
def bN (a:OA) (R:Z4) (b:Nat):Prop:=(a ≠ none/\b=ablk a)\/∃i,i<R.length/\(aM R i).1 ≠ none/\b=ablk (aM R i).1
structure aB (w w':ej) (I I':Nat->Prop):Prop where
 os:w'.os=w.os
 tape:w'.tape=w.tape
 output:w'.output=w.output
 size:w.heap.size<=w'.heap.size
 block:∀b,b<w.heap.size->¬ I b->w'.heap[b]? = w.heap[b]?
 grow:∀b,I' b->I b\/w.heap.size<=b
variable {w w' w'':ej} {B:Nat} {a:OA} {n c:Nat} {R:Z4} {L:ZZ} {I I' I'':Nat -> Prop}
theorem aB.refl (w:ej) (I:Nat->Prop):aB w w I I:=⟨rfl,rfl,rfl,M4 _,λ_ _ _=>rfl,λ_ h=>.inl h⟩
theorem aB.trans (h:aB w w' I I') (k:aB w' w'' I' I''):aB w w'' I I'' := by
 refine ⟨k.os.trans h.os,k.tape.trans h.tape,k.output.trans h.output,Np h.size k.size,λb hb hI=>?_,λb hb=>?_⟩
 ·refine (k.block b (Nz hb h.size) λZ=>?_).trans (h.block b hb hI);rcases h.grow b Z with h2 | h2
  ·exact hI h2
  ·omega
 ·rcases k.grow b hb with h2 | h2
  ·exact h.grow b h2
  ·exact .inr (Np h.size h2)
theorem aB.aR (h:SJ w w') (I:Nat->Prop):aB w w' I I:=⟨h.os,h.tape,h.output,h.size,λb hb _=>h.block b hb,λ_ h=>.inl h⟩
theorem aB.below (h:aB w w' I I') (hI:∀b,I b->B<=b) (Z:B<=w.heap.size):Below B w w' :=
 ⟨h.os,h.tape,h.output,h.size,λb hb=>h.block b (Nz hb Z) λhi=>by have:=hI b hi;omega⟩
theorem aB.cell (h:aB w w' I I') {p:Addr} {v:Value} (Z:w.cell? p=some v) (hI:¬ I p.block):w'.cell? p=some v :=
 (NG (w:=w) (a:=p) (h.block _ (Nf w _ Z) hI)).trans Z
theorem aB.not (h:aB w w' I I') {b:Nat} (hb:b<w.heap.size) (hI:¬ I b):¬ I' b:=λZ=>by
 rcases h.grow b Z with h2 | h2
 ·exact hI h2
 ·omega
theorem aB.own (h:aB w w' I I') {e:TypeId} {a:OA} {c n:Nat} {xs:List Value} (Z:w.ownsRow B e 1 (.slice a n c) n xs) (hI:a ≠ none->¬ I (ablk a)):w'.ownsRow B e 1 (.slice a n c) n xs:=by
 rcases lS Z with ⟨rfl,rfl,rfl⟩ | ⟨_,Y⟩
 ·have V:=jd Z;obtain rfl:xs=[]:=NF V;exact cJ
 ·by_cases ha:a=none
  ·subst ha;refine ⟨Z.1,?_⟩;rcases Z.2 with h2 | ⟨g,cap,cur,X,_⟩
   ·exact .inl h2
   ·cases X
  ·exact fh Z (h.block _ Y (hI ha))
theorem aP {w:ej} {e:TypeId} {a:OA} {c n:Nat} {xs:List Value} (Z:w.ownsRow B e 1 (.slice a n c) n xs) (ha:a ≠ none):B<=ablk a/\ablk a<w.heap.size:=by
 rcases lS Z with ⟨rfl,_⟩ | h
 ·exact absurd rfl ha
 ·exact h
namespace aS
theorem lt (h:aS w B a n c R L) (b:Nat) (hb:bN a R b):B<=b/\b<w.heap.size:=by
 rcases hb with ⟨h1,rfl⟩ | ⟨i,hi,h1,rfl⟩
 ·exact aP h.own h1
 ·exact aP (h.row i (by rw [h.rl] at hi;exact hi)) h1
theorem new (h:aS w B a n c R L) {b:Nat} (hb:w.heap.size<=b):¬ bN a R b:=λZ=>by have:=h.lt b Z;omega
theorem iO (h:aS w B a n c R L) {b:Nat} (hb:b<B):¬ bN a R b:=λZ=>by have:=h.lt b Z;omega
theorem jS {i:Nat} (h:i<R.length) (h1:(aM R i).1 ≠ none):bN a R (ablk (aM R i).1):=.inr ⟨i,h,h1,rfl⟩
theorem bf (h:aS w B a n c R L) (hb:∀b,bN a R b->w'.heap[b]? = w.heap[b]?):aS w' B a n c R L:=by
 have key:∀ {e:TypeId} {a':OA} {c m:Nat} {xs:List Value},w.ownsRow B e 1 (.slice a' m c) m xs->(a' ≠ none->w'.heap[ablk a']? = w.heap[ablk a']?)->w'.ownsRow B e 1 (.slice a' m c) m xs:=by
  intro e a' c m xs Z X;by_cases ha:a'=none
  ·subst ha;refine ⟨Z.1,?_⟩;rcases Z.2 with h2 | ⟨g,cap,cur,Y,_⟩
   ·exact .inl h2
   ·cases Y
  ·exact fh Z (X ha)
 exact ⟨h.rl,h.ll,key h.own λha=>hb _ (.inl ⟨ha,rfl⟩),λi hi=>key (h.row i hi) λha=>hb _ (jS (by rw [h.rl];exact hi) ha),h.ue,h.sep⟩
theorem ai (h:aS w B a n c R L) (hb:SJ w w'):aS w' B a n c R L:=h.bf λb hi=>hb.block b (h.lt b hi).2
theorem mono {B':Nat} (h:aS w B a n c R L) (Z:B'<=B):aS w B' a n c R L:=⟨h.rl,h.ll,bq h.own Z,λi hi=>bq (h.row i hi) Z,h.ue,h.sep⟩
theorem ints (h:aS w B a n c R L) {i:Nat} (hi:i<n):Ints w (aM R i).1 (aj L i).length (aj L i):=(RW (h.row i hi)).1
theorem cell (h:aS w B a n c R L) {i:Nat} (hi:i<n):w.cell? ⟨ablk a,aN a+i,none⟩=some (.slice (aM R i).1 (aj L i).length (aM R i).2):=by
 rw [(bL h.own i hi).1,P5,NJ (show i<R.length by rw [h.rl];exact hi),NJ (show i<L.length by rw [h.ll];exact hi),
  fK (by rw [h.rl];exact hi),aH (by rw [h.ll];exact hi)]
 rfl
theorem frozen (h:aS w B a n c R L) {i:Nat} (hi:i<n):w.frozen? ⟨ablk a,aN a+i,none⟩=false:=(bL h.own i hi).2.1
theorem pl (h:aS w B a n c R L):Pl a n:=by obtain ⟨a',X,Z,Y⟩:=Sf h.own;cases Z;exact Y
theorem ne (h:aS w B a n c R L) (Z:0<n):a ≠ none:=by intro ha;have:=h.pl Z;rw [ha] at this;cases this
theorem max (h:aS w B a n c R L):n<=maxLen:=by
 rcases Om n with h0 | h0
 ·subst h0;unfold maxLen;omega
 ·exact (bL h.own 0 h0).2.2.2.2
theorem lL (h:aS w B a n c R L):bP w a n L:=⟨h.ll,h.pl,h.max,λ_ hi=>⟨_,_,_,h.cell hi,h.ints hi⟩⟩
theorem setRow (h:aS w B a n c R L) {i:Nat} (hi:i<n) {r:OA} {rc:Nat} {l:Lz} (N:w.ownsRow B 3 1 (.slice r l.length rc) l.length (l.map (Value.int .i64)))
  (ha:dq r (ablk a)) (S:∀j,j<n->j ≠ i->(aM R j).1=none\/dq r (ablk (aM R j).1)) :
  aS (w.setCell ⟨ablk a,aN a+i,none⟩ (.slice r l.length rc)) B a n c (R.set i (r,rc)) (L.set i l):=by
 have Z:i<R.length:=by rw [h.rl];exact hi
 have X:i<L.length:=by rw [h.ll];exact hi
 have flip:∀ {x y:OA},(x=none\/dq y (ablk x))->(y=none\/dq x (ablk y)):=by
  intro x y U;rcases U with rfl | rfl | h2
  ·exact .inr (.inl rfl)
  ·exact .inl rfl
  ·exact .inr (.inr λe=>h2 e.symm)
 refine ⟨by simp [h.rl],by simp [h.ll],?_,λj Y=>?_,λj Y=>?_,λj k Y O V=>?_⟩
 ·have:=bA h.own i hi (.slice r l.length rc);rwa [show (List.zipWith jD R L).set i (.slice r l.length rc)=_ from yh R L i (r,rc) l] at this
 ·rw [iP _ _ _ _ Z,fI _ _ _ _ X];by_cases e:j=i
  ·simp only [M7 e];exact dO N _ ha
  ·simp only [M8 e];exact dO (h.row j Y) _ (h.ue j Y)
 ·rw [iP _ _ _ _ Z];by_cases e:j=i
  ·simp only [M7 e];exact ha
  ·simp only [M8 e];exact h.ue j Y
 ·rw [iP _ _ _ _ Z,iP _ _ _ _ Z];by_cases e:j=i
  ·simp only [M7 e,M8 (show ¬ k=i by omega)];exact flip (S k O (by omega))
  ·simp only [M8 e];by_cases Q:k=i
   ·simp only [M7 Q];exact S j Y e
   ·simp only [M8 Q];exact h.sep j k Y O V
theorem jW (h:aS w B a n c R L) {w':ej} (Y:SJ w w') {i:Nat} (hi:i<n) {r:OA} {rc:Nat} (v:Value) (U:r ≠ none->bN a R (ablk r)\/w.heap.size<=ablk r) :
  aB w (w'.setCell ⟨ablk a,aN a+i,none⟩ v) (bN a R) (bN a (R.set i (r,rc))):=by
 have X:i<R.length:=by rw [h.rl];exact hi
 have Z:Below 0 w (w'.setCell ⟨ablk a,aN a+i,none⟩ v):=(Y.mono (Nb _)).setCell (Nb _) v;refine ⟨Z.os,Z.tape,Z.output,Z.size,λb hb hI=>(Nt _ _ _ _ λe=>hI (.inl ⟨h.ne (by omega),e⟩)).trans (Y.block b hb),λb hb=>?_⟩;rcases hb with hb | ⟨j,V,h1,rfl⟩
 ·exact .inl (.inl hb)
 ·rw [N8] at V;rw [iP _ _ _ _ X] at h1 ⊢;by_cases e:j=i
  ·simp only [M7 e] at h1 ⊢;exact U h1
  ·simp only [M8 e] at h1 ⊢;exact .inl (.inr ⟨j,V,h1,rfl⟩)
theorem IU (h:aS w B a n c R L) {i:Nat} (hi:i<n) {l:Lz} (V:l.length=(aj L i).length)
  (X:w'.ownsRow B 3 1 (.slice (aM R i).1 (aj L i).length (aM R i).2) (aj L i).length (l.map (Value.int .i64)))
  (O:∀b,b<w.heap.size->((aM R i).1=none\/b ≠ ablk (aM R i).1)->w'.heap[b]? = w.heap[b]?):aS w' B a n c R (L.set i l):=by
 have U:i<R.length:=by rw [h.rl];exact hi
 have Z:i<L.length:=by rw [h.ll];exact hi
 have key:∀ {e:TypeId} {a':OA} {c m:Nat} {xs:List Value},w.ownsRow B e 1 (.slice a' m c) m xs->((aM R i).1=none\/a'=none\/ablk a' ≠ ablk (aM R i).1)->w'.ownsRow B e 1 (.slice a' m c) m xs:=by
  intro e a' c m xs X Y;by_cases ha:a'=none
  ·subst ha;refine ⟨X.1,?_⟩;rcases X.2 with h2 | ⟨g,cap,cur,Q,_⟩
   ·exact .inl h2
   ·cases Q
  ·exact fh X (O _ (aP X ha).2 (by rcases Y with Y | Y | Y;exact .inl Y;exact absurd Y ha;exact .inr Y))
 refine ⟨h.rl,by simp [h.ll],?_,λj S=>?_,h.ue,h.sep⟩
 ·have e:List.zipWith jD R (L.set i l)=List.zipWith jD R L:=by
   apply Qw;intro j;simp only [P5,OP];by_cases e:i=j
   ·subst e;simp only [Z,if_true,NJ U,NJ Z];rw [aH Z] at V;simp [jD,V]
   ·simp [e]
  rw [e];exact key h.own (by rcases h.ue i hi with h2 | h2;exact .inl h2;exact .inr (.inr λe=>h2 e.symm))
 ·rw [fI _ _ _ _ Z];by_cases e:j=i
  ·subst e;simp only [if_true,V];exact X
  ·simp only [M8 e];refine key (h.row j S) ?_;rcases h.sep i j hi S (by omega) with h2 | h2 | h2
   ·exact .inl h2
   ·exact .inr (.inl h2)
   ·exact .inr (.inr h2)
end aS
theorem qe {w:ej} {B:Nat} {a:OA} {n c:Nat} (h:w.ownsRow B 22 1 (.slice a n c) n (List.replicate n ds)) :
  aS w B a n c (List.replicate n (none,0)) (List.replicate n []):=by
 refine ⟨by simp,by simp,?_,λi hi=>?_,λi hi=>?_,λi j hi Y Z=>?_⟩
 ·simpa [jD] using h
 ·rw [rV,jz];exact cJ
 ·rw [jz];exact .inl rfl
 ·rw [jz];exact .inl rfl
end
section
variable {w:ej} {b:Nat} {G:bX}
theorem Ints.I9 {w:ej} {n:Nat} {l:Lz} (h:Ints w none n l):n=0/\l=[]:=by
 have h0:n=0:=by
  rcases Om n with h0 | h0
  ·exact h0
  ·have:=h.pl h0;cases this
 exact ⟨h0,NF (by rw [h.len];exact h0)⟩
theorem cZ (a:OA) (n c:Nat) (l:Lz) (hi:Ints w a n l) (F:n<=1000000) :
  Calls prog 115 #[.slice a n c] w (cR w l):=by
 have heq:=λ(w:ej) (a:OA) (l c:Nat)=>Go.run_eql_slice_nil (P:=prog) w 22 3 a l c underlying22;by_cases ha:a=none
 ·subst ha;obtain ⟨rfl,rfl⟩:=hi.I9;have Q:(none:OA).isNone=true:=rfl;go_enter func115,ntmps115;go_wp2_with fail;go_ret;exact ⟨none,0,rfl,cJ,M5 _ _⟩
 ·have Q:a.isNone=false:=by cases a with | none=>exact absurd rfl ha | some x=>rfl
  have hlen:=hi.len;have X:=Z5 hlen;have N:=k8 w 3;have S:=Z5 ((M5 w.heap.size w).alloc (M4 _) (.cells #[] 3));clear ha hlen;go_enter func115,ntmps115;go_upto_region 3 with fail;iterate 7 go_step
  have Y:=S.out;generalize w.alloc (.cells #[] 3)=W0 at *;have U:=hi.ai Y;refine fZ (by rfl) (.tmp 5) (.tmp 6) 22 3 (by rfl) (cG 0) 8 underlying22 br (by rfl) w.heap.size _ 0 0 [] (by rfl) N a n c (l.map (Value.int .i64)) (by rfl) U.pl (by simp [X.out]) (Sm U) (ints_oneCell _ _) (by omega) (by unfold maxLen;omega) (OR Y) ?_;intro a3 H w3 Z V K;have O:SJ w w3:=RY (B:=w.heap.size) (e:=3) (xs:=[]) Y N V (M4 _) (OR Y);rw [Qm] at Z ⊢;rw [Oy] at Z;go_wp2_with fail;go_ret;exact ⟨a3,H,by rw [X.out];rfl,by rw [X.out];exact Z,O⟩
def Cj (w:ej) (L:ZZ) (e:Ending) (w':ej):Prop :=
 ∃a c R,e = .returned (.slice a L.length c)/\aS w' w.heap.size a L.length c R L/\SJ w w'
theorem ed:(prog.info? 22).map (λi=>(i.zero,i.size,i.bytes))=some (some ds,1,24):=by kernel_rfl
def gn (n k:Nat) (L:ZZ):ZZ:=L.take k ++ List.replicate (n - k) []
theorem nJ {n k:Nat} {L:ZZ} (Y:k<n) (Z:L.length=n):(gn n k L).set k (aj L k)=gn n (k+1) L:=by
 unfold gn;have e1:(L.take k).length=k:=by simp;omega
 rw [Nh (by omega),P1 (h:=by omega),e1,show n - k=(n - (k+1))+1 by omega,Qj,PD,Nc,Oa,aH (by omega)];rfl
theorem nN {n:Nat} {L:ZZ} (Z:L.length=n):gn n n L=L:=by simp [gn,Nj (show L.length<=n by omega)]
theorem vN (a:OA) (n c:Nat) (L:ZZ) (hi:bP w a n L) (z:n<=1000000) (hL:∀l ∈ L,l.length<=1000000) :
  Calls prog 222 #[.slice a n c] w (Cj w L):=by
 have hpl:=hi.pl;have Z:=Z5 hi.len;have HL:=Z5 hL;clear hL;go_enter func222,ntmps222;go_wp2_with (at_make;refine bR rfl _ _ 25 22 rfl ds 24 underlying25 ed rfl n rfl rfl (by omega) (by unfold maxLen;omega) ?_;intro a1 w1 K C hge X);have V:=qe K;have hO1:∃R,aS w1 w.heap.size a1 n n R (gn n 0 L):=⟨_,by simpa [gn] using V⟩
 clear V K;go_loopw [11] (λr wr=>∃k:Nat,k<=n/\r = cG k/\(∃R,aS wr w.heap.size a1 n n R (gn n k L))/\SJ w wr) (λr _=>n - (intOf r).toNat);case atStart=>exact ⟨0,Nb _,rfl,hO1,C⟩
 case round =>
  obtain ⟨k,hk,rfl,⟨R,V⟩,Q⟩:=hrel
  by_cases X:k<n
  ·have hiW:=hi.ai Q
   obtain ⟨ra,rn,rc,hcell,O⟩:=hiW.cell k X
   have F:k<L.length:=by rw [Z.out];exact X
   have hrl:rn<=1000000:=by rw [<- O.len,aH F];exact HL _ (NL F)
   have N:=nJ X Z.out
   have E:=Z5 N
   clear N
   have hpl1:=V.pl
   generalize aj L k=l at *
   go_wp2_with fail
   refine (cZ ra rn rc l O hrl).mono ?_
   rintro e w3 ⟨a3,c3,rfl,Y,A⟩
   have U:=V.ai A
   have hf:=U.frozen X
   have hc:=U.cell X
   have hB:=(aS.lt U (ablk a1) (.inl ⟨U.ne (by omega),rfl⟩)).1
   have H:=RU Q A
   have hsz:=Q.size
   have S:=aS.setRow U X (bq Y hsz) (jb Y (aS.lt V (ablk a1) (.inl ⟨V.ne (by omega),rfl⟩)).2) (λj hj _=>by
    by_cases z:(aM R j).1=none
    ·exact .inl z
    ·exact .inr (jb Y (aS.lt V _ (aS.jS (by rw [V.rl];exact hj) z)).2))
   rw [E.out] at S
   have D:=Z5 S
   clear S
   go_wp2_with fail
   go_roundw
   case rel=>exact ⟨k+1,by omega,by go_num,⟨_,D⟩,H.setCell hB _⟩
   case measure=>simp [intOf]<;>omega
  ·obtain rfl:k=n:=by omega
   rw [nN Z.out] at V
   go_wp2_with fail
   go_ret
   exact ⟨a1,k,R,by rw [Z.out];rfl,by rw [Z.out];exact V,Q⟩
end
structure aL where
 add:Int->Int->Int
 mul:Int->Int->Int
 neg:Int->Int
 inv:Int->Int
def bZ (O:aL) (v:Lz) (s:Int) (u:Lz):Lz:=List.zipWith (λp q=>if q=0 then p else O.add p (O.mul s q)) v u
theorem fg (O:aL) (v:Lz) (s:Int) (u:Lz) (h:u.length=v.length):(bZ O v s u).length=v.length:=by simp [bZ,h]
theorem gY (O:aL) (v:Lz) (s:Int) (u:Lz) (i:Nat) (h:u.length=v.length) (hi:i<v.length) :
  nth (bZ O v s u) i=if nth u i=0 then nth v i else O.add (nth v i) (O.mul s (nth u i)):=by rw [an (show i<(bZ O v s u).length by rw [fg _ _ _ _ h];exact hi),an (show i<u.length by omega),an hi];simp [bZ]
theorem la (new iO:Lz) (j:Nat) (h:new.length=iO.length) (Y:j<iO.length) (e:nth new j=nth iO j):eJ new iO (j+1)=eJ new iO j:=by
 rw [<- dU new iO j h Y,e];refine fy (by simp) λi hi=>?_;have X:=i7 new iO j h (by omega);rw [eT _ _ _ _ (by omega)];by_cases Z:i=j
 ·subst Z;rw [M7 rfl,dS _ _ _ _ h (by omega),M8 (by omega)]
 ·rw [M8 Z]
def findTo (L:ZZ) (c:Nat):Nat->Nat->Nat
 | k,0=>k
 | k,f+1=>if nth (aj L k) c=0 then findTo L c (k+1) f else k
def aZ (L:ZZ) (c k:Nat):Nat:=findTo L c k (L.length - k)
theorem vo (L:ZZ) (c:Nat):∀f k,k<=findTo L c k f/\findTo L c k f<=k+f
 | 0,k=>by simp [findTo]
 | f+1,k=>by have:=vo L c f (k+1);unfold findTo;split<;>omega
theorem iE (L:ZZ) (c:Nat):∀f k,findTo L c k f<k+f->nth (aj L (findTo L c k f)) c ≠ 0
 | 0,k,h=>by simp [findTo] at h
 | f+1,k,h=>by
  unfold findTo at h ⊢;split
  ·rename_i h0;rw [M7 h0] at h;exact iE L c f (k+1) (by omega)
  ·assumption
theorem qu (L:ZZ) (c:Nat):∀f k i,k<=i->i<findTo L c k f->nth (aj L i) c=0
 | 0,k,i,h1,h2=>by simp [findTo] at h2;omega
 | f+1,k,i,h1,h2=>by
  unfold findTo at h2;split at h2
  ·rename_i h0;rcases Rf h1 with h3 | h3
   ·rw [<- h3];exact h0
   ·exact qu L c f (k+1) i h3 h2
  ·omega
theorem fP {L:ZZ} {c k:Nat} (Z:k<L.length):aZ L c k=if nth (aj L k) c=0 then aZ L c (k+1) else k:=by unfold aZ;rw [show L.length - k=(L.length - (k+1))+1 by omega,findTo]
theorem iK {L:ZZ} {c k:Nat} (Z:L.length<=k):aZ L c k=k:=by unfold aZ;rw [show L.length - k=0 by omega,findTo]
theorem kN {L:ZZ} {c k:Nat} (Z:k<=L.length):k<=aZ L c k/\aZ L c k<=L.length:=by have:=vo L c (L.length - k) k;unfold aZ;omega
def aY (L:ZZ) (i j:Nat):ZZ:=(L.set i (aj L j)).set j (aj L i)
def bT (O:aL) (Z:Lz) (c:Nat) (r:Lz):Lz:=if nth r c=0 then r else bZ O r (O.neg (nth r c)) Z
def clearTo (O:aL) (t c:Nat) (L:ZZ):Nat->ZZ
 | 0=>L
 | i+1=>if i=t then clearTo O t c L i else (clearTo O t c L i).set i (bT O (aj (clearTo O t c L i) t) c (aj (clearTo O t c L i) i))
def bs (O:aL) (L:ZZ) (t c:Nat):ZZ:=if O.inv (nth (aj L t) c)=1 then L else L.set t ((aj L t).map (O.mul (O.inv (nth (aj L t) c))))
def eo (O:aL) (L:ZZ) (t k c:Nat):ZZ :=
 let Y:=if k=t then L else aY L t k
 let Z:=bs O Y t c
 clearTo O t c Z Z.length
def aE (O:aL) (L:ZZ):Nat->ZZ × Lz
 | 0=>(L,[])
 | c+1 =>
  let s:=aE O L c
  if s.2.length<s.1.length then
   if aZ s.1 c s.2.length=s.1.length then s
   else (eo O s.1 s.2.length (aZ s.1 c s.2.length) c,s.2 ++ [(c:Int)])
  else s
theorem bU (L:ZZ) (i j:Nat):(aY L i j).length=L.length:=by simp [aY]
theorem dj (O:aL) (t c:Nat) (L:ZZ):∀i,(clearTo O t c L i).length=L.length
 | 0=>rfl
 | i+1=>by unfold clearTo;split<;>simp [dj O t c L i]
theorem di (O:aL) (L:ZZ) (t c:Nat):(bs O L t c).length=L.length:=by unfold bs;split<;>simp
theorem et (O:aL) (L:ZZ) (t k c:Nat):(eo O L t k c).length=L.length:=by unfold eo;simp only [dj,di];split<;>simp [bU]
theorem bW (O:aL) (L:ZZ):∀c,(aE O L c).1.length=L.length
 | 0=>rfl
 | c+1=>by
  unfold aE;simp only;split
  ·split<;>simp [et,bW O L c]
  ·exact bW O L c
theorem eO (O:aL) (L:ZZ):∀c,(aE O L c).2.length<=c/\(aE O L c).2.length<=L.length
 | 0=>by simp [aE]
 | c+1=>by
  have Y:=eO O L c;have Z:=bW O L c;unfold aE;simp only;split
  ·split
   ·omega
   ·simp only [Ni,ND];omega
  ·omega
def bz (El:Int->Prop) (m:Nat) (L:ZZ):Prop:=∀r ∈ L,r.length=m/\∀x ∈ r,El x
theorem lN {L:ZZ} {i:Nat} (h:L.length<=i):aj L i=[]:=by simp [aj,N5 h]
theorem bz.row {El:Int->Prop} {m:Nat} {L:ZZ} (h:bz El m L) {i:Nat} (hi:i<L.length):(aj L i).length=m/\∀x ∈ aj L i,El x:=h _ (jy hi)
theorem bz.set {El:Int->Prop} {m:Nat} {L:ZZ} (h:bz El m L) (i:Nat) {r:Lz} (Y:r.length=m/\∀x ∈ r,El x):bz El m (L.set i r):=by
 intro x Z;rcases Oe Z with h1 | rfl
 ·exact h x h1
 ·exact Y
structure qV (O:aL) (El:Int->Prop):Prop where
 add:∀x y,El x->El y->El (O.add x y)
 mul:∀x y,El x->El y->El (O.mul x y)
 neg:∀x,El x->El (O.neg x)
 inv:∀x,El x->x ≠ 0->El (O.inv x)
theorem vO {O:aL} {El:Int->Prop} (Y:qV O El) {v u:Lz} {s:Int} (X:∀x ∈ v,El x) (hu:∀x ∈ u,El x) (V:El s):∀x ∈ bZ O v s u,El x:=by
 intro x Z;unfold bZ at Z;rw [Qd] at Z;obtain ⟨i,hi,rfl⟩:=Z;rw [PC];simp only [Ov] at hi;split
 ·exact X _ (NL _)
 ·exact Y.add _ _ (X _ (NL _)) (Y.mul _ _ V (hu _ (NL _)))
theorem bz.swap {El:Int->Prop} {m:Nat} {L:ZZ} (h:bz El m L) {i j:Nat} (hi:i<L.length) (Z:j<L.length):bz El m (aY L i j) :=
 (h.set i (h.row Z)).set j (h.row hi)
theorem bz.bT {O:aL} {El:Int->Prop} {m:Nat} (X:qV O El) {r Y:Lz} {c:Nat} (U:c<m) (Z:r.length=m/\∀x ∈ r,El x) (V:Y.length=m/\∀x ∈ Y,El x) :
  (bT O Y c r).length=m/\∀x ∈ bT O Y c r,El x:=by
 unfold Proofs.YthglbncgemdcbaaGreat.bT;split
 ·exact Z
 ·exact ⟨by rw [fg _ _ _ _ (by omega)];exact Z.1,vO X Z.2 V.2 (X.neg _ (Z.2 _ (aG (by omega))))⟩
theorem bz.clear {O:aL} {El:Int->Prop} {m:Nat} {L:ZZ} (Y:qV O El) (h:bz El m L) {t c:Nat} (V:t<L.length) (X:c<m):∀i,i<=L.length->bz El m (clearTo O t c L i)
 | 0,_=>h
 | i+1,hi=>by
  have Z:=bz.clear Y h V X i (by omega);unfold clearTo;split
  ·exact Z
  ·exact Z.set i (bz.bT Y X (Z.row (by rw [dj];omega)) (Z.row (by rw [dj];omega)))
theorem bz.norm {O:aL} {El:Int->Prop} {m:Nat} {L:ZZ} (Y:qV O El) (h:bz El m L) {t c:Nat} (Z:t<L.length) (V:c<m) (h0:nth (aj L t) c ≠ 0):bz El m (bs O L t c):=by
 unfold bs;split
 ·exact h
 ·refine h.set t ⟨by rw [No];exact (h.row Z).1,λx X=>?_⟩;obtain ⟨y,hy,rfl⟩:=List.mem_map.1 X;exact Y.mul _ _ (Y.inv _ ((h.row Z).2 _ (aG (by rw [(h.row Z).1];exact V))) h0) ((h.row Z).2 y hy)
theorem fG {O:aL} {L:ZZ} {k:Nat} (h:(aE O L k).2.length=L.length):∀d,aE O L (k+d)=aE O L k
 | 0=>rfl
 | d+1=>by have Z:=fG h d;show aE O L ((k+d)+1)=_;rw [aE];simp only [Z];rw [M8 (by rw [bW];omega)]
theorem dG {O:aL} {L Lk:ZZ} {P:Lz} {k:Nat} (h:(Lk,P)=aE O L k) (Z:P.length<Lk.length) :
  aE O L (k+1)=if aZ Lk k P.length=Lk.length then (Lk,P) else (eo O Lk P.length (aZ Lk k P.length) k,P ++ [(k:Int)]):=by rw [aE];simp only [<- h];rw [M7 Z]
theorem gV (O:aL) (L:ZZ) (t k c:Nat):eo O L t k c=clearTo O t c (bs O (if k=t then L else aY L t k) t c) L.length:=by unfold eo;simp only [di];split<;>simp [bU]
section
def bm (w w':ej):Prop:=∃n,w'=w.drewN n
theorem bm.refl (w:ej):bm w w:=⟨0,rfl⟩
theorem bm.drewN {w w':ej} (h:bm w w') (n:Nat):bm w (w'.drewN n):=by obtain ⟨m,rfl⟩:=h;exact ⟨m+n,by rw [World.drewN_drewN]⟩
theorem bm.drew {w w':ej} (h:bm w w'):bm w w'.drew:=h.drewN 1
theorem bm.below {w w':ej} (h:bm w w'):SJ w w':=by obtain ⟨m,rfl⟩:=h;exact below_drewN (M5 _ _) m
theorem bm.cell {w w':ej} (h:bm w w') {p:Addr} {v:Value} (Z:w.cell? p=some v):w'.cell? p=some v:=by obtain ⟨m,rfl⟩:=h;exact Z
theorem bm.frozen {w w':ej} (h:bm w w') {p:Addr} {v:Bool} (Z:w.frozen? p=v):w'.frozen? p=v:=by obtain ⟨m,rfl⟩:=h;exact Z
theorem bm.tO {Z w w':ej} {B:Nat} (h:bm w w') (hb:Below B Z w):Below B Z w':=by obtain ⟨m,rfl⟩:=h;exact below_drewN hb m
def bX.ops (G:bX):aL:=⟨G.add,G.mul,G.neg,G.inv⟩
theorem bX.cl {w:ej} {b:Nat} {G:bX} (h:dg w b G):qV G.ops G.El:=⟨λx y _ _=>bX.GR h x y,λx y _ _=>bX.iV h x y,λx _=>bX.uc h x,λx _ _=>bX.nC h x⟩
def ch (a:OA) (w w':ej):Prop:=aB w w' (λb=>a ≠ none/\b=ablk a) (λb=>a ≠ none/\b=ablk a)
theorem ch.refl (a:OA) (w:ej):ch a w w:=aB.refl _ _
theorem ch.trans {a:OA} {w w' w'':ej} (h:ch a w w') (k:ch a w' w''):ch a w w'' := aB.trans h k
theorem ch.drawn {a:OA} {w w':ej} (h:bm w w'):ch a w w':=aB.aR h.below _
theorem ch.set {a:OA} (w:ej) (i:Nat) (v:Value) (ha:a ≠ none):ch a w (w.setCell ⟨ablk a,aN a+i,none⟩ v):=by have Z:Below 0 w (w.setCell ⟨ablk a,aN a+i,none⟩ v):=(M5 0 w).setCell (Nb _) v;exact ⟨Z.os,Z.tape,Z.output,Z.size,λb hb hI=>Nt _ _ _ _ λe=>hI ⟨ha,e⟩,λb hb=>.inl hb⟩
theorem ch.ints {a:OA} {w w':ej} (h:ch a w w') {u:OA} {n:Nat} {l:Lz} (hi:Ints w u n l) (hu:a=none\/u=none\/ablk u ≠ ablk a):Ints w' u n l:=by
 refine hi.of_block λZ=>h.block _ (hi.lt Z) ?_;rintro ⟨h1,h2⟩;rcases hu with hu | hu | hu
 ·exact h1 hu
 ·have:=hi.pl Z;rw [hu] at this;cases this
 ·exact hu h2
theorem ch.below {a:OA} {w w':ej} {B:Nat} (h:ch a w w') (ha:a ≠ none->B<=ablk a) (Z:B<=w.heap.size):Below B w w':=aB.below h (λ_ hb=>by rw [hb.2];exact ha hb.1) Z
variable {w:ej} {b:Nat} {G:bX}
theorem DQ (w0:ej) (Q:OA) (cv n:Nat) (v:Lz) (s:Int) (au:OA) (cu:Nat) (u:Lz) (h:dg w0 b G) (hb:SJ w0 w)
  (hv:w.ownsRow w0.heap.size 3 1 (.slice Q n cv) n (v.map (Value.int .i64))) (hu:Ints w au n u) (hap:Q=none\/au=none\/ablk au ≠ ablk Q)
  (hve:∀x ∈ v,G.El x) (r:∀x ∈ u,G.El x) (hs:G.El s) :
  Calls prog 198 #[ea b 0,.slice Q n cv,cG s,.slice au n cu] w
   λe w'=>e = .returned (.tuple #[])/\w'.ownsRow w0.heap.size 3 1 (.slice Q n cv) n ((bZ G.ops v s u).map (Value.int .i64))/\ch Q w w':=by
 have hul:=hu.len;have hvl:v.length=n:=by simpa using jd hv
 have hmax:=hu.max;unfold maxLen at hmax;have hpu:=hu.pl;have hpv:=(RW hv).1.pl;have hav:0<n->Q ≠ none:=λhn e=>by have:=hpv hn;rw [e] at this;cases this
 have A:(bZ G.ops v s u).length=v.length:=fg _ _ _ _ (by omega);have F:=λi=>gY G.ops v s u i (by omega);have Hnth:=Z5 F;have Hul:=Z5 hul;have E:=Z5 hvl;have Hll:=Z5 A;have Hav:=Z5 hav;have Hve:=Z5 hve;have Hue:=Z5 r;clear F hul hvl A hav hve r;generalize bZ G.ops v s u=N at *;go_enter func198,ntmps198;go_wp2_with fail;go_loopw [12] (λiv wr=>∃k:Nat,k<=n/\iv = cG k/\wr.ownsRow w0.heap.size 3 1 (.slice Q n cv) n ((eJ N v k).map (Value.int .i64))/\ch Q w wr) (λiv _=>n - (intOf iv).toNat);case atStart=>exact ⟨0,Nb _,rfl,by rw [dX];exact hv,ch.refl _ _⟩
 case round =>
  obtain ⟨k,hk,rfl,X,Z⟩:=hrel
  by_cases S:k<n
  ·have hiu:=Z.ints hu hap
   have cu1:=hiu.cell k S
   have O:N.length=v.length:=Hll.out
   have U:k<v.length:=by rw [E.out];exact S
   have Y:=Hnth k U
   have V:=dS N v k k O (by omega)
   rw [M8 (by omega)] at V
   by_cases hz:nth u k=0
   ·rw [M7 hz] at Y
    have K:=la N v k O U Y
    have D:=Z5 K
    clear Y V K O U
    go_wp2_with fail
    go_roundw
    case rel=>exact ⟨k+1,by omega,by go_num,by rw [D.out];exact X,Z⟩
    case measure=>simp [intOf]<;>omega
   ·rw [M8 hz] at Y
    have H:=dU N v k O U
    obtain ⟨hiv,hmv⟩:=RW X
    have cv1:=hiv.cell k S
    have fv1:=(hmv (by omega)).2 k S
    rw [V] at cv1
    have elv:G.El (nth v k):=Hve _ (aG U)
    have j:G.El (nth u k):=Hue _ (aG (by rw [Hul.out];exact S))
    have C:dg wr b G:=h.ai (NK hb (Z.below (λha=>(aP hv ha).1) hb.size))
    have Hval:=Z5 Y
    have z:=Z5 H
    have hS:∀W,bm wr W->W.cell? ⟨ablk Q,aN Q+k,none⟩=some (cG (nth v k))/\W.frozen? ⟨ablk Q,aN Q+k,none⟩=false/\dg W b G/\bm wr W :=
     λW hW=>⟨hW.cell cv1,hW.frozen fv1,C.ai hW.below,hW⟩
    have HS:=Z5 hS
    have elm:∀x y,G.El (G.mul x y):=λx y=>bX.iV h x y
    have hz':(nth u k != 0)=true:=by simpa using hz
    clear Y V H O U hS hz
    go_wp2_with fail
    have HG:Hid (dg wr.drew b G/\∀n,dg (wr.drewN n) b G):=⟨C.ai (M5 _ _).drew,λn=>C.drewN n⟩
    go_region_law ((first
     | (go_simp;go_at_call 57;((with_reducible refine (lp s (nth u k) HG.out.1 hs j).mono ?_);rintro e w4 ⟨m4,rfl,rfl⟩))
     | (go_simp;go_at_call 57;((with_reducible refine (lp s (nth u k) (HG.out.2 _) hs j).mono ?_);rintro e w4 ⟨m4,rfl,rfl⟩))
     | (go_simp;go_at_call 56;((with_reducible refine (Kb (nth v k) (G.mul s (nth u k)) (HG.out.2 _) elv (elm _ _)).mono ?_);rintro e w4 ⟨m5,rfl,rfl⟩))))
    all_goals (
     go_wp2_with fail
     go_roundw
     case rel =>
      have hdr:bm wr (wr.drewN (1+m4+m5)):=⟨_,rfl⟩
      refine ⟨k+1,by omega,by go_num,?_,Z.trans ((ch.drawn hdr).trans (ch.set _ k _ (Hav (by omega))))⟩
      have h1:=bA (w:=wr.drewN (1+m4+m5)) X k S (cG (nth N k))
      rw [<- Ny,z.out,Hval.out] at h1
      exact h1
     case measure=>simp [intOf]<;>omega)
  ·obtain rfl:k=n:=by omega
   rw [eD N v k (by rw [Hll.out,E.out]) E.out] at X
   go_wp2_with fail
   go_end0
   exact ⟨rfl,X,Z⟩
end
section
variable {w:ej} {b:Nat} {G:bX}
def sE (R:Z4) (i j:Nat):Z4:=(R.set i (aM R j)).set j (aM R i)
theorem n8 (R:Z4) (i j:Nat):(sE R i j).length=R.length:=by simp [sE]
def jQ (t k i:Nat):Nat:=if i=k then t else if i=t then k else i
theorem kt (R:Z4) (t k i:Nat) (Y:t<R.length) (Z:k<R.length):aM (sE R t k) i=aM R (jQ t k i):=by
 unfold sE jQ;rw [iP _ _ _ _ (by simpa using Z),iP _ _ _ _ Y];split
 ·rfl
 ·split<;>rfl
theorem kB (L:ZZ) (t k i:Nat) (Y:t<L.length) (Z:k<L.length):aj (aY L t k) i=aj L (jQ t k i):=by
 unfold aY jQ;rw [fI _ _ _ _ (by simpa using Z),fI _ _ _ _ Y];split
 ·rfl
 ·split<;>rfl
theorem mc {t k i n:Nat} (Y:t<n) (Z:k<n) (hi:i<n):jQ t k i<n:=by unfold jQ;split<;>(try split)<;>assumption
theorem Gh {t k i j:Nat} (h:i ≠ j):jQ t k i ≠ jQ t k j:=by unfold jQ;split<;>split<;>(try split)<;>(try split)<;>omega
theorem aS.swap {B:Nat} {a:OA} {n c:Nat} {R:Z4} {L:ZZ} (h:aS w B a n c R L) {t k:Nat} (X:t<n) (V:k<n) :
  aS ((w.setCell ⟨ablk a,aN a+t,none⟩ (.slice (aM R k).1 (aj L k).length (aM R k).2)).setCell ⟨ablk a,aN a+k,none⟩ (.slice (aM R t).1 (aj L t).length (aM R t).2)) B a n c (sE R t k) (aY L t k):=by
 have Z:t<R.length:=by rw [h.rl];exact X
 have Y:k<R.length:=by rw [h.rl];exact V
 have S:t<L.length:=by rw [h.ll];exact X
 have O:k<L.length:=by rw [h.ll];exact V
 refine ⟨by rw [n8];exact h.rl,by rw [bU];exact h.ll,?_,λi hi=>?_,λi hi=>?_,λi j hi N Q=>?_⟩
 ·have h1:=bA (bA h.own t X (.slice (aM R k).1 (aj L k).length (aM R k).2)) k V (.slice (aM R t).1 (aj L t).length (aM R t).2);rw [show (List.zipWith jD R L).set t (.slice (aM R k).1 (aj L k).length (aM R k).2)=_ from yh R L t (aM R k) (aj L k)] at h1;rw [show (List.zipWith jD (R.set t (aM R k)) (L.set t (aj L k))).set k (.slice (aM R t).1 (aj L t).length (aM R t).2)=_ from yh _ _ k (aM R t) (aj L t)] at h1;exact h1
 ·rw [kt _ _ _ _ Z Y,kB _ _ _ _ S O];have U:=mc X V hi;exact dO (p:=⟨ablk a,aN a+k,none⟩) (dO (p:=⟨ablk a,aN a+t,none⟩) (h.row _ U) _ (h.ue _ U)) _ (h.ue _ U)
 ·rw [kt _ _ _ _ Z Y];exact h.ue _ (mc X V hi)
 ·rw [kt _ _ _ _ Z Y,kt _ _ _ _ Z Y];exact h.sep _ _ (mc X V hi) (mc X V N) (Gh Q)
theorem bN.swap {a:OA} {R:Z4} {t k b:Nat} (Y:t<R.length) (Z:k<R.length) (h:bN a (sE R t k) b):bN a R b:=by
 rcases h with h | ⟨i,hi,h1,rfl⟩
 ·exact .inl h
 ·rw [n8] at hi;rw [kt _ _ _ _ Y Z] at h1 ⊢;exact aS.jS (mc Y Z hi) h1
theorem aS.lq {B:Nat} {a:OA} {n c:Nat} {R:Z4} {L:ZZ} (h:aS w B a n c R L) {t k:Nat} (Y:t<n) (X:k<n) (u v:Value) :
  aB w ((w.setCell ⟨ablk a,aN a+t,none⟩ u).setCell ⟨ablk a,aN a+k,none⟩ v) (bN a R) (bN a (sE R t k)):=by have Z:Below 0 w ((w.setCell ⟨ablk a,aN a+t,none⟩ u).setCell ⟨ablk a,aN a+k,none⟩ v):=((M5 0 w).setCell (Nb _) u).setCell (Nb _) v;have hne:=h.ne (by omega);refine ⟨Z.os,Z.tape,Z.output,Z.size,λb hb hI=>?_,λb hb=>.inl (bN.swap (by rw [h.rl];exact Y) (by rw [h.rl];exact X) hb)⟩;rw [Nt _ _ _ _ λe=>hI (.inl ⟨hne,e⟩),Nt _ _ _ _ λe=>hI (.inl ⟨hne,e⟩)]
theorem aS.drew {B:Nat} {a:OA} {n c:Nat} {R:Z4} {L:ZZ} (h:aS w B a n c R L):aS w.drew B a n c R L:=h.ai (M5 _ _).drew
theorem aB.drew {w w':ej} {I I':Nat->Prop} (h:aB w w' I I'):aB w w'.drew I I':=⟨h.os,h.tape,h.output,h.size,h.block,h.grow⟩
theorem tM (B:Nat) (a:OA) (n c:Nat) (R:Z4) (L:ZZ) (U S k t:Nat) (X:aS w B a n c R L)
  (r:w.cell? ⟨U,0,none⟩=some (cG k)) (z:w.cell? ⟨S,0,none⟩=some (cG t)) (Y:k<n) (Z:t<n) (A:k ≠ t) (E:¬ bN a R U) (D:¬ bN a R S) :
  Calls prog 254 #[.slice a n c,ea U 0,ea S 0] w
   λe w'=>e = .returned (.tuple #[])/\∃H,aS w' B a n c H (aY L t k)/\aB w w' (bN a R) (bN a H):=by
 have F:=X.pl;have C:=X.cell Y;have ct:=X.cell Z;have j:=X.frozen Y;have ft:=X.frozen Z;have V:a ≠ none:=X.ne (by omega);have N:U ≠ ablk a:=λe=>E (.inl ⟨V,e⟩);have Q:S ≠ ablk a:=λe=>D (.inl ⟨V,e⟩);have k1:(w.setCell ⟨ablk a,aN a+t,none⟩ (.slice (aM R k).1 (aj L k).length (aM R k).2)).cell? ⟨U,0,none⟩=some (cG k):=by rw [Nr _ _ _ _ (by simp [N])];exact r
 have k2:(w.setCell ⟨ablk a,aN a+t,none⟩ (.slice (aM R k).1 (aj L k).length (aM R k).2)).cell? ⟨S,0,none⟩=some (cG t):=by rw [Nr _ _ _ _ (by simp [Q])];exact z
 have k3:(w.setCell ⟨ablk a,aN a+t,none⟩ (.slice (aM R k).1 (aj L k).length (aM R k).2)).cell? ⟨ablk a,aN a+k,none⟩=some (.slice (aM R k).1 (aj L k).length (aM R k).2):=by rw [Nr _ _ _ _ (by simp<;>omega)];exact C
 go_enter func254,ntmps254;go_wp2_with fail;go_region;have O:=(X.swap Z Y).drew;have K:=(X.lq Z Y (.slice (aM R k).1 (aj L k).length (aM R k).2) (.slice (aM R t).1 (aj L t).length (aM R t).2)).drew;go_wp2_with fail;go_end0;exact ⟨rfl,_,O,K⟩
theorem pr (O:ej) (a:OA) (n c:Nat) (R:Z4) (L:ZZ) (D C z:Nat) (s:Int) (t:Nat) (X:aS w O.heap.size a n c R L)
  (h:dg O b G) (hb:SJ O w)
  (hg:w.cell? ⟨D,0,none⟩=some (ea b 0)) (hs:w.cell? ⟨C,0,none⟩=some (cG s)) (ht:w.cell? ⟨z,0,none⟩=some (cG t)) (Y:t<n) (hse:G.El s)
  (A:G.vn (aj L t)) (F:(aj L t).length<=1000000) :
  Calls prog 255 #[.slice a n c,ea D 0,ea C 0,ea z 0] w
   λe w'=>e = .returned (.tuple #[])/\∃N,aS w' O.heap.size a n c N (L.set t ((aj L t).map (G.mul s)))/\aB w w' (bN a R) (bN a N):=by
 have hpl:=X.pl;have ct:=X.cell Y;have ft:=X.frozen Y;have hi:=X.ints Y;have hG:=h.ai hb;have hS:∀W,SJ w W->W.cell? ⟨D,0,none⟩=some (ea b 0)/\W.cell? ⟨C,0,none⟩=some (cG s)/\W.cell? ⟨z,0,none⟩=some (cG t) /\
   W.cell? ⟨ablk a,aN a+t,none⟩=some (.slice (aM R t).1 (aj L t).length (aM R t).2)/\W.frozen? ⟨ablk a,aN a+t,none⟩=false/\SJ w W :=
  λW Q=>⟨aC Q hg,aC Q hs,aC Q ht,aC Q ct,(X.ai Q).frozen Y,Q⟩
 have HS:=Z5 hS;clear hS;have hF:∀S a4 c4,S.ownsRow w.drew.heap.size 3 1 (.slice a4 ((aj L t).map (G.mul s)).length c4) ((aj L t).map (G.mul s)).length (((aj L t).map (G.mul s)).map (Value.int .i64))->Below w.drew.heap.size w.drew S ->
   ∃N,aS (S.setCell ⟨ablk a,aN a+t,none⟩ (.slice a4 (aj L t).length c4)) O.heap.size a n c N (L.set t ((aj L t).map (G.mul s)))/\aB w (S.setCell ⟨ablk a,aN a+t,none⟩ (.slice a4 (aj L t).length c4)) (bN a R) (bN a N):=by
  intro S a4 c4 Z V;have K:SJ w S:=RU (M5 _ _).drew V;have H:=X.ai K;have E:w.drew.heap.size=w.heap.size:=rfl;rw [E] at Z;have U:∀b,b<w.heap.size->dq a4 b:=λb hb=>jb Z hb;have h1:=H.setRow Y (bq Z hb.size) (U _ (X.lt _ (.inl ⟨X.ne (by omega),rfl⟩)).2) (λj hj _=>by
   by_cases hn:(aM R j).1=none
   ·exact .inl hn
   ·exact .inr (U _ (X.lt _ (aS.jS (by rw [X.rl];exact hj) hn)).2))
  have h2:=X.jW K Y (r:=a4) (rc:=c4) (.slice a4 ((aj L t).map (G.mul s)).length c4) (λha=>.inr (aP Z ha).1);rw [No] at h1 h2;exact ⟨_,h1,h2⟩
 have HF:=Z5 hF;clear hF;go_enter func255,ntmps255;go_wp2_with fail;go_region_law ((first
  | (go_simp;go_at_call 66;((with_reducible refine (pK s _ _ _ _ (hG.ai (M5 _ _).drew) hse (hi.ai (M5 _ _).drew) A F).mono ?_);rintro e S ⟨a4,c4,rfl,Z,V⟩;obtain ⟨q0,q1,q2,q3,q4,q5⟩:=HS.out S (RU (M5 _ _).drew V)))))
 all_goals (
  go_wp2_with fail
  go_end0
  exact ⟨rfl,HF _ _ _ Z V⟩)
end
theorem fQ (w:ej) (cs:Array Value) (e:TypeId) {g:Nat} (Z:g=w.heap.size) (i:Nat):(w.alloc (.cells cs e)).frozen? ⟨g,i,none⟩=false:=by subst Z;simp
theorem dR {w w':ej} (hb:SJ w w') {g i:Nat} (Z:g<w.heap.size) {v:Bool} (h:w.frozen? ⟨g,i,none⟩=v):w'.frozen? ⟨g,i,none⟩=v:=(hb.frozen (p:=⟨g,i,none⟩) Z).trans h
theorem dA {w:ej} {g i:Nat} {v:Bool} (Z:g<w.heap.size) (h:w.frozen? ⟨g,i,none⟩=v) (o:Obj):(w.alloc o).frozen? ⟨g,i,none⟩=v:=dR ((M5 _ _).alloc (M4 _) o) Z h
def aQ (w:ej) (b:Nat) (cs:List Value):Prop:=b<w.heap.size/\(∀i v,cs[i]? = some v->w.cell? ⟨b,i,none⟩=some v)/\∀i,w.frozen? ⟨b,i,none⟩=false
theorem aQ.new (w:ej) (cs:List Value) (e:TypeId) {g:Nat} (Z:g=w.heap.size):aQ (w.alloc (.cells cs.toArray e)) g cs :=
 ⟨by subst Z;simp,λi v Y=>by rw [aF _ _ _ Z i];simpa using Y,λi=>fQ _ _ _ Z i⟩
theorem aQ.ai {w w':ej} {b:Nat} {cs:List Value} (h:aQ w b cs) (hb:SJ w w'):aQ w' b cs :=
 ⟨Nz h.1 hb.size,λi v Z=>aC hb (h.2.1 i v Z),λi=>dR hb h.1 (h.2.2 i)⟩
theorem aQ.alloc {w:ej} {b:Nat} {cs:List Value} (h:aQ w b cs) (o:Obj):aQ (w.alloc o) b cs:=h.ai ((M5 _ _).alloc (M4 _) o)
theorem aQ.cell {w:ej} {b:Nat} {cs:List Value} (h:aQ w b cs) (i:Nat) {v:Value} (Z:cs[i]? = some v):w.cell? ⟨b,i,none⟩=some v:=h.2.1 i v Z
theorem aQ.frozen {w:ej} {b:Nat} {cs:List Value} (h:aQ w b cs) (i:Nat):w.frozen? ⟨b,i,none⟩=false:=h.2.2 i
theorem kY (w:ej) (o1 o2 Z:Obj):SJ w (((w.alloc o1).alloc o2).alloc Z):=(((M5 _ _).alloc (M4 _) _).alloc (by simp) _).alloc (by simp;omega) _
theorem dP (w:ej) (o1 o2:Obj):SJ w ((w.alloc o1).alloc o2):=((M5 _ _).alloc (M4 _) _).alloc (by simp) _
theorem aD (w:ej) (o1:Obj):SJ w (w.alloc o1):=(M5 _ _).alloc (M4 _) _
theorem Ints.drawn {w w':ej} {a:OA} {n:Nat} {l:Lz} (h:Ints w a n l) (hd:bm w w'):Ints w' a n l:=h.ai hd.below
theorem bP.drawn {w w':ej} {a:OA} {n:Nat} {l:ZZ} (h:bP w a n l) (hd:bm w w'):bP w' a n l:=h.ai hd.below
theorem bm.trans {w w' w'':ej} (h:bm w w') (k:bm w' w''):bm w w'' := by obtain ⟨m, rfl⟩ := h; obtain ⟨n, rfl⟩ := k; exact ⟨m + n, World.drewN_drewN _ _ _⟩
def mI (w:ej) (z:Bool) (e:Ending) (w':ej):Prop:=e = .returned (.bool z)/\bm w w'
def RV:=@aQ.new
def RZ:=@aB.aR
def Sa:=@bm.refl
def Sb:=@aB.refl
def Sc:=@ch.drawn
def Sd:=@bm.below
def Sg:=@ch.refl
def Si:=@bz.clear
def Sj:=@aB.trans
def Sk:=@bX.cl
def Sl:=@ch.set
def Sr:=@bX.iV
def Sw:=@aB.cell
def SA:=@bX.nC
end Go.Proofs.YthglbncgemdcbaaGreat
