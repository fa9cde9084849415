import Derived.Test.YthglbncgemdcbaaGreatBO6
namespace Go.Proofs.YthglbncgemdcbaaGreat
set_option linter.all false
set_option maxRecDepth 100000
set_option maxHeartbeats 4000000
open Go.RowKit Go.Proofs.Tryz
section
variable {w:ej} {b:Nat} {G:bX}
@[go_sem high] theorem run_slice_h0 {P : Program} (w : ej) (t : TypeId) (a : OA) (len cap : Nat) (Y : P.underlying t=some (.slice (P.elem t))) (Z : IntKind) (h : Int) (h0 : 0<=h) (h2 : h<=cap) :
  (Instr.slice t (.slice a len cap) none (some (.int Z h)) none).run P w=((sizeOf (P.elem t)).run P w).andThen λ_ w=>.ok (.slice a h.toNat cap) w:=by rw [run_slice_h w t a len cap Y Z h h0 h2];congr 1;funext s w;congr 1;simp only [sliced,QM,Addr.add,if_true,Rs,RT,ite_self]
@[go_sem high] theorem run_slice_hm0 {P : Program} (w : ej) (t : TypeId) (a : OA) (len cap : Nat) (U : P.underlying t=some (.slice (P.elem t))) (Z Y : IntKind) (h m : Int) (h0 : 0<=h) (h2 : h<=m) (h3 : m<=cap) :
  (Instr.slice t (.slice a len cap) none (some (.int Z h)) (some (.int Y m))).run P w=((sizeOf (P.elem t)).run P w).andThen λ_ w=>.ok (.slice a h.toNat m.toNat) w:=by rw [run_slice_hm w t a len cap U Z Y h m h0 h2 h3];congr 1;funext s w;congr 1;simp only [sliced,QM,Addr.add,if_true,Rs,RT,ite_self]
theorem FO {L:ZZ} {k i:Nat} (h:i<k):aj (L.take k) i=aj L i:=by simp only [aj,Na,Ol,M7 h]
structure bH (B:Nat) (w:ej) (a:OA) (n:Nat) (l:Lz):Prop where
 ints:Ints w a n l
 lo:0<n->B<=ablk a
structure bJ (B:Nat) (w:ej) (a:OA) (n:Nat) (l:ZZ):Prop where
 len:l.length=n
 pl:Pl a n
 max:n<=maxLen
 lo:0<n->B<=ablk a
 cell:∀i,i<n->∃b m c,w.cell? ⟨ablk a,aN a+i,none⟩=some (.slice b m c)/\bH B w b m (aj l i)
theorem bH.mono {B B':Nat} {w:ej} {a:OA} {n:Nat} {l:Lz} (h:bH B w a n l) (Z:B'<=B):bH B' w a n l:=⟨h.ints,λY=>Np Z (h.lo Y)⟩
theorem bJ.mono {B B':Nat} {w:ej} {a:OA} {n:Nat} {l:ZZ} (h:bJ B w a n l) (Z:B'<=B):bJ B' w a n l :=
 ⟨h.len,h.pl,h.max,λY=>Np Z (h.lo Y),λi hi=>by obtain ⟨b,m,c,h1,h2⟩:=h.cell i hi;exact ⟨b,m,c,h1,h2.mono Z⟩⟩
theorem bJ.lL {B:Nat} {w:ej} {a:OA} {n:Nat} {l:ZZ} (h:bJ B w a n l):bP w a n l :=
 ⟨h.len,h.pl,h.max,λi hi=>by obtain ⟨b,m,c,h1,h2⟩:=h.cell i hi;exact ⟨b,m,c,h1,h2.ints⟩⟩
theorem bH.bf {B:Nat} {w V:ej} {a:OA} {n:Nat} {l:Lz} (h:bH B w a n l) (hb:∀b,B<=b->b<w.heap.size->V.heap[b]? = w.heap[b]?):bH B V a n l :=
 ⟨h.ints.of_block λZ=>hb _ (h.lo Z) (h.ints.lt Z),h.lo⟩
theorem bJ.bf {B:Nat} {w V:ej} {a:OA} {n:Nat} {l:ZZ} (h:bJ B w a n l) (hb:∀b,B<=b->b<w.heap.size->V.heap[b]? = w.heap[b]?):bJ B V a n l:=by refine ⟨h.len,h.pl,h.max,h.lo,λi hi=>?_⟩;obtain ⟨b,m,c,h1,h2⟩:=h.cell i hi;exact ⟨b,m,c,(NG (w:=w) (a:=⟨ablk a,aN a+i,none⟩) (hb _ (h.lo (by omega)) (Nf w _ h1))).trans h1,h2.bf hb⟩
theorem bH.ai {B:Nat} {w V:ej} {a:OA} {n:Nat} {l:Lz} (h:bH B w a n l) (hb:SJ w V):bH B V a n l:=h.bf λb _ h2=>hb.block b h2
theorem bJ.ai {B:Nat} {w V:ej} {a:OA} {n:Nat} {l:ZZ} (h:bJ B w a n l) (hb:SJ w V):bJ B V a n l:=h.bf λb _ h2=>hb.block b h2
theorem bH.setCell {B:Nat} {w:ej} {a:OA} {n:Nat} {l:Lz} (h:bH B w a n l) {p:Addr} (Z:p.block<B) (v:Value):bH B (w.setCell p v) a n l :=
 h.bf λb h1 _=>Nt _ _ _ _ (by omega)
theorem bJ.setCell {B:Nat} {w:ej} {a:OA} {n:Nat} {l:ZZ} (h:bJ B w a n l) {p:Addr} (Z:p.block<B) (v:Value):bJ B (w.setCell p v) a n l :=
 h.bf λb h1 _=>Nt _ _ _ _ (by omega)
theorem bH.own {w:ej} {B:Nat} {e:TypeId} {a:OA} {c n:Nat} {l:Lz} (h:w.ownsRow B e 1 (.slice a n c) n (l.map (Value.int .i64))):bH B w a n l :=
 ⟨(RW h).1,λZ=>(bL h 0 Z).2.2.1⟩
theorem bJ.own {w:ej} {B:Nat} {a:OA} {n c:Nat} {R:Z4} {L:ZZ} (h:aS w B a n c R L):bJ B w a n L :=
 ⟨h.ll,h.pl,h.max,λZ=>(ew h.own Z).1,λ_ hi=>⟨_,_,_,h.cell hi,bH.own (h.row _ hi)⟩⟩
theorem bJ.take {B:Nat} {w:ej} {a:OA} {n:Nat} {L:ZZ} (h:bJ B w a n L) {k:Nat} (Z:k<=n):bJ B w a k (L.take k):=by refine ⟨by rw [NH,h.len];omega,λh0=>h.pl (by omega),Np Z h.max,λh0=>h.lo (by omega),λi hi=>?_⟩;rw [FO hi];exact h.cell i (by omega)
def b8 (G:bX) (L:ZZ) (m:Nat):ZZ:=(aE G.ops L m).1.take (aE G.ops L m).2.length
def bu (G:bX) (L:ZZ) (m:Nat):Lz:=(aE G.ops L m).2
theorem ek (G:bX) (L:ZZ) (m:Nat):(b8 G L m).length=(bu G L m).length:=by have h1:=eO G.ops L m;have h2:=bW G.ops L m;unfold b8 bu;rw [NH];omega
def sV (G:bX) (L:ZZ) (m:Nat) (w:ej) (e:Ending) (w':ej):Prop :=
 ∃a ap cp,e = ec #[.slice a (bu G L m).length (bu G L m).length,.slice ap (bu G L m).length cp]/\bJ w.heap.size w' a (bu G L m).length (b8 G L m)/\bH w.heap.size w' ap (bu G L m).length (bu G L m)/\SJ w w'
def Fp (G:bX) (L:ZZ) (m:Nat) (w:ej) (e:Ending) (w':ej):Prop :=
 ∃a c ap cp,e = ec #[.slice a (bu G L m).length c,.slice ap (bu G L m).length cp]/\bJ w.heap.size w' a (bu G L m).length (b8 G L m)/\bH w.heap.size w' ap (bu G L m).length (bu G L m)/\SJ w w'
theorem sZ (a:OA) (n c m:Nat) (L:ZZ) (h:dg w b G) (hi:bP w a n L) (C:bz G.El m L) (hm:m<=1000000) (z:n<=1000000) :
  Calls prog 177 #[ea b 0,.slice a n c,cG m] w (sV G L m w):=by
 have U:=Z5 hi.len;have HR:=Z5 C;have K:∀l ∈ L,l.length<=1000000:=λl hl=>by rw [(C l hl).1];exact hm
 have E:=Z5 K;clear K C;go_enter func177,ntmps177;go_wp2_with fail;refine (vN a n c L hi z E.out).mono ?_;rintro e w1 ⟨a1,c1,r,rfl,A,N⟩;go_wp2_with fail;refine (uI w a1 L.length c1 m m r L h N A HR.out (M4 _) hm (by rw [U.out];exact z)).mono ?_;rintro e j ⟨R2,ap,cp,d,rfl,Q,H,hM2,D⟩;have Y:=eO G.ops L m;have Z:=o7 Q.own;have S:=(bH.own H).mono N.size;have I:=(bJ.own Q).take (k:=(aE G.ops L m).2.length) Y.2;have hF:sV G L m w (ec #[.slice a1 (aE G.ops L m).2.length (aE G.ops L m).2.length,.slice ap (aE G.ops L m).2.length cp]) j:=⟨a1,ap,cp,rfl,I,S,D⟩
 have HF:=Z5 hF;have hle:(aE G.ops L m).2.length<=c1:=Np Y.2 Z;clear hF S I H Z Y;generalize (aE G.ops L m).2.length=k at *;go_wp2_with fail;go_ret2;simpa using HF.out
theorem vm (a:OA) (n c m:Nat) (L:ZZ) (h:dg w b G) (hi:bP w a n L) (Y:bz G.El m L) (hm:m<=1000000) (Z:n<=1000000) :
  Calls prog 177 #[ea b 0,.slice a n c,cG m] w (Fp G L m w) :=
 (sZ a n c m L h hi Y hm Z).mono λ_ _ ⟨a1,ap,cp,h1⟩=>⟨a1,_,ap,cp,h1⟩
end
def dK (P M:Int) (mod:Lz) (Z:Int) (L:ZZ):Int :=
 if bw P M mod=true then e9 (ah P M.toNat mod).q Z L else 1
def vC (P M:Int) (mod:Lz) (Z:Int) (L:ZZ) (w:ej) (e:Ending) (w':ej):Prop :=
 SJ w w'/\(
 (dK P M mod Z L ≠ 0/\e = ec #[.agg #[cG 0,ds],ds,cG (dK P M mod Z L)]) \/
 (dK P M mod Z L=0/\∃m:Nat,Z=m/\∃a ap cp,e = ec #[.agg #[cG m,.slice a (bu (ah P M.toNat mod) L m).length (bu (ah P M.toNat mod) L m).length],.slice ap (bu (ah P M.toNat mod) L m).length cp,cG 0] /\
  bJ w.heap.size w' a (bu (ah P M.toNat mod) L m).length (b8 (ah P M.toNat mod) L m)/\bH w.heap.size w' ap (bu (ah P M.toNat mod) L m).length (bu (ah P M.toNat mod) L m)))
def Gs (P M:Int) (mod:Lz) (Z:Int) (L:ZZ) (w:ej) (e:Ending) (w':ej):Prop :=
 SJ w w'/\(
 (dK P M mod Z L ≠ 0/\e = ec #[.agg #[cG 0,ds],ds,cG (dK P M mod Z L)]) \/
 (dK P M mod Z L=0/\∃m:Nat,Z=m/\∃a c ap cp,e = ec #[.agg #[cG m,.slice a (bu (ah P M.toNat mod) L m).length c],.slice ap (bu (ah P M.toNat mod) L m).length cp,cG 0] /\
  bJ w.heap.size w' a (bu (ah P M.toNat mod) L m).length (b8 (ah P M.toNat mod) L m)/\bH w.heap.size w' ap (bu (ah P M.toNat mod) L m).length (bu (ah P M.toNat mod) L m)))
theorem mP {q Z:Int} {L:ZZ} (h:e9 q Z L=0):∃m:Nat,Z=m/\m<=256/\L.length<=256/\bz (λx=>0<=x/\x<q) m L:=by
 unfold e9 at h;split at h
 ·omega
 ·rename_i h1;split at h
  ·omega
  ·rename_i h2;split at h
   ·rename_i h3;refine ⟨Z.toNat,by omega,by omega,by omega,λr U=>?_⟩;have h4:jr Z L=true:=by simpa using h2
    unfold jr at h4;rw [NZ] at h4 h3;have h5:=h4 r U;have Y:=h3 r U;unfold fC jx at Y;rw [NZ] at Y;refine ⟨by simp at h5;omega,λx Q=>?_⟩;have S:=Y x Q;simpa using S
   ·omega
theorem ku {q Z:Int} {L:ZZ}:matsE q [(Z,L)]=e9 q Z L:=by
 simp only [matsE];split
 ·rename_i h;exact h.symm
 ·rfl
theorem jk (P M:Int) (am:OA) (mn cm:Nat) (mod:Lz) (Z:Int) (a:OA) (n c:Nat) (L:ZZ) (w:ej) (j:Ints w am mn mod) (hi:bP w a n L) :
  Calls prog 118 #[.agg #[cG P,cG M,.slice am mn cm],.agg #[cG Z,.slice a n c]] w (vC P M mod Z L w):=by
 have A:=Z5 hi.len;go_enter func118,ntmps118;go_wp2_with fail;obtain ⟨W,I⟩:∃W:ej,W=((((w.alloc (.cells #[cG P,cG M,.slice am mn cm] 24)).alloc (.cells #[cG Z,.slice a n c] 94)).alloc (.cells #[cG 0,ds] 94)).alloc (.cells #[cG Z,.slice a n c] 94)):=⟨_,rfl⟩
 rw [<- I];have K:SJ w W:=by rw [I];exact ((((M5 _ _).alloc (M4 _) _).alloc (by simp) _).alloc (by simp;omega) _).alloc (by simp;omega) _
 have r:W.heap.size=w.heap.size+4:=by rw [I];simp
 have q1:W.cell? ⟨w.heap.size+1,0,none⟩=some (cG Z)/\W.cell? ⟨w.heap.size+1,1,none⟩=some (.slice a n c):=by rw [I];exact ⟨aU (aU (aF _ _ _ (by simp) 0) _) _,aU (aU (aF _ _ _ (by simp) 1) _) _⟩
 have q2:W.cell? ⟨w.heap.size+1+1,0,none⟩=some (cG 0)/\W.cell? ⟨w.heap.size+1+1,1,none⟩=some ds/\W.frozen? ⟨w.heap.size+1+1,0,none⟩=false/\W.frozen? ⟨w.heap.size+1+1,1,none⟩=false:=by rw [I];exact ⟨aU (aF _ _ _ (by simp) 0) _,aU (aF _ _ _ (by simp) 1) _,dA (by simp) (fQ _ _ _ (by simp) 0) _,dA (by simp) (fQ _ _ _ (by simp) 1) _⟩
 have q3:W.cell? ⟨w.heap.size+1+1+1,0,none⟩=some (cG Z)/\W.cell? ⟨w.heap.size+1+1+1,1,none⟩=some (.slice a n c):=by rw [I];exact ⟨aF _ _ _ (by simp) 0,aF _ _ _ (by simp) 1⟩
 have hiW:=hi.ai K;have hMs:xz W (some ⟨w.heap.size+1+1+1,0,none⟩) 1 [(Z,L)]:=⟨rfl,λ_=>rfl,by unfold maxLen;omega,λi hi=>by
  have:i=0:=by simp at hi;omega
  subst this;exact ⟨a,n,c,by simpa using q3.1,by simpa using q3.2,hiW⟩⟩
 have HsW:=Z5 r;clear I r;refine (l6 P M am mn cm mod _ 1 1 _ W (j.ai K) hMs).mono ?_;rintro e w1 ⟨Y,Q⟩;have U:=RU K Y;have hq:∀V,SJ W V->V.cell? ⟨w.heap.size+1,0,none⟩=some (cG Z)/\V.cell? ⟨w.heap.size+1,1,none⟩=some (.slice a n c)/\V.cell? ⟨w.heap.size+1+1,0,none⟩=some (cG 0)/\V.cell? ⟨w.heap.size+1+1,1,none⟩=some ds/\V.frozen? ⟨w.heap.size+1+1,0,none⟩=false/\V.frozen? ⟨w.heap.size+1+1,1,none⟩=false:=by intro V E;have hs:=HsW.out;exact ⟨aC E q1.1,aC E q1.2,aC E q2.1,aC E q2.2.1,(E.frozen (p:=⟨w.heap.size+1+1,0,none⟩) (by simp [hs])).trans q2.2.2.1,(E.frozen (p:=⟨w.heap.size+1+1,1,none⟩) (by simp [hs])).trans q2.2.2.2⟩
 have Hq:=Z5 hq;clear hq q1 q2 q3;rcases Q with ⟨S,rfl⟩ | ⟨S,er,h0,h1,rfl⟩ | ⟨S,h1,b,rfl,hG,hbl⟩
 ·obtain ⟨r1,r2,H,D,r5,r6⟩:=Hq w1 Y;have N:Hid (dK P M mod Z L=1):=by show _=_;rw [dK,S];rfl
  clear S;go_wp2_with fail;refine bodyPost_ret (v:=.tuple #[.agg #[cG 0,ds],ds,cG 1]) (by simp [results,results118,go_sem,H,D]) rfl ⟨(U.setCell (by simp;omega) _).setCell (by simp;omega) _,.inl ⟨by rw [N.out];omega,by rw [N.out]⟩⟩
 ·obtain ⟨r1,r2,H,D,r5,r6⟩:=Hq w1 Y;have N:Hid (dK P M mod Z L=er):=by show _=_;rw [dK,S,M7 rfl,<- h1,ku]
  have He:Hid (er ≠ 0):=h0;have he':(er != 0)=true:=by simpa using h0
  clear S h0 h1;go_wp2_with fail;refine bodyPost_ret (v:=.tuple #[.agg #[cG 0,ds],ds,cG er]) (by simp [results,results118,go_sem,H,D]) rfl ⟨(U.setCell (by simp;omega) _).setCell (by simp;omega) _,.inl ⟨by rw [N.out];exact He.out,by rw [N.out]⟩⟩
 ·obtain ⟨r1,r2,H,D,r5,r6⟩:=Hq w1 Y;rw [ku] at h1;obtain ⟨m,rfl,hm,hn,hR⟩:=mP h1;have N:Hid (dK P M mod m L=0):=by show _=_;rw [dK,S,M7 rfl,h1]
  clear S h1;go_wp2_with fail;refine (sZ a n c m L hG (hiW.ai Y) hR (by omega) (by rw [<- A.out];omega)).mono ?_;rintro e w2 ⟨a2,ap,cp,rfl,hM2,hp2,z⟩;have C:=RU U z;obtain ⟨r1,r2,H,D,r5,r6⟩:=Hq w2 (RU Y z);have hF:vC P M mod m L w (ec #[.agg #[cG m,.slice a2 (bu (ah P M.toNat mod) L m).length (bu (ah P M.toNat mod) L m).length],.slice ap (bu (ah P M.toNat mod) L m).length cp,cG 0]) ((w2.setCell ⟨w.heap.size+1+1,0,none⟩ (cG m)).setCell ⟨w.heap.size+1+1,1,none⟩ (.slice a2 (bu (ah P M.toNat mod) L m).length (bu (ah P M.toNat mod) L m).length)):=by
   have hs:=HsW.out;have hs1:=Y.size;refine ⟨(C.setCell (by simp;omega) _).setCell (by simp;omega) _,.inr ⟨N,m,rfl,a2,ap,cp,rfl,?_,?_⟩⟩
   ·exact ((hM2.setCell (p:=⟨w.heap.size+1+1,0,none⟩) (by simp;omega) _).setCell (p:=⟨w.heap.size+1+1,1,none⟩) (by simp;omega) _).mono (by omega)
   ·exact ((hp2.setCell (p:=⟨w.heap.size+1+1,0,none⟩) (by simp;omega) _).setCell (p:=⟨w.heap.size+1+1,1,none⟩) (by simp;omega) _).mono (by omega)
  have HF:=Z5 hF;clear hF hM2 hp2;generalize (bu (ah P M.toNat mod) L m).length=k at *;go_wp2_with fail;exact bodyPost_ret (v:=.tuple #[.agg #[cG m,.slice a2 k k],.slice ap k cp,cG 0]) (by simp [results,results118,go_sem,H,D]) rfl HF.out
theorem na (P M:Int) (am:OA) (U S:Nat) (mod:Lz) (Z:Int) (a:OA) (n c:Nat) (L:ZZ) (w:ej) (Y:Ints w am U mod) (hi:bP w a n L) :
  Calls prog 118 #[.agg #[cG P,cG M,.slice am U S],.agg #[cG Z,.slice a n c]] w (Gs P M mod Z L w) :=
 (jk P M am U S mod Z a n c L w Y hi).mono λ_ _ ⟨hb,h⟩=>⟨hb,h.imp id λ⟨h0,m,h1,a1,ap,cp,h2⟩=>⟨h0,m,h1,a1,_,ap,cp,h2⟩⟩
section
theorem qP {l Z:Lz} {k:Nat} (h:l.take k=Z.take k) (h1:k<l.length) (h2:k<Z.length) (he:nth l k=nth Z k):l.take (k+1)=Z.take (k+1):=by rw [Nh h1,Nh h2,h,<- an h1,<- an h2,he]
theorem nU {l Z:ZZ} {k:Nat} (h:l.take k=Z.take k) (h1:k<l.length) (h2:k<Z.length) (he:aj l k=aj Z k):l.take (k+1)=Z.take (k+1):=by rw [Nh h1,Nh h2,h,<- aH h1,<- aH h2,he]
variable {w:ej}
theorem Fy (a:OA) (n c:Nat) (l:Lz) (a':OA) (L r:Nat) (Z:Lz) (h:Ints w a n l) (E:Ints w a' L Z) :
  Calls prog 240 #[.slice a n c,.slice a' L r] w (mI w (decide (l=Z))):=by
 have K:=Z5 h.len;have S:=Z5 E.len;have A:=h.pl;have C:=E.pl;have Q:=h.max;unfold maxLen at Q;by_cases D:n=L
 ·subst D;have H:((n:Int) != n)=false:=by simp
  go_enter func240,ntmps240;go_wp2_with fail;go_loopw [13] (λz wr=>∃k:Nat,k<=n/\z = cG k/\Hid (l.take k=Z.take k)/\bm w wr) (λi _=>n - (intOf i).toNat);case atStart=>exact ⟨0,Nb _,rfl,rfl,Sa _⟩
  case round =>
   obtain ⟨k,hk,rfl,N,hd⟩:=hrel
   by_cases Y:k<n
   ·have c1:=(h.drawn hd).cell k Y
    have c2:=(E.drawn hd).cell k Y
    by_cases he:nth l k=nth Z k
    ·have I:(nth l k != nth Z k)=false:=by simpa using he
     have U:Hid (l.take (k+1)=Z.take (k+1)):=qP N.out (by rw [K.out];exact Y) (by rw [S.out];exact Y) he
     clear he
     go_wp2_with fail
     go_quiet (fail)
     go_wp2
     go_roundw
     case rel=>exact ⟨k+1,by omega,by go_num,U,hd.drewN _⟩
     case measure=>simp [intOf]<;>omega
    ·have I:(nth l k != nth Z k)=true:=by simpa using he
     have U:Hid (decide (l=Z)=false):=by show _=_;simp;intro e;exact he (by rw [e])
     clear he
     go_wp2_with fail
     go_quiet (fail)
     go_wp2
     go_ret
     exact ⟨ba U.symm,hd.drewN _⟩
   ·obtain rfl:k=n:=by omega
    have U:Hid (decide (l=Z)=true):=by show _=_;have:=N.out;rw [Nj (by rw [K.out];exact M4 _),Nj (by rw [S.out];exact M4 _)] at this;simpa using this
    go_wp2_with fail
    go_ret
    exact ⟨ba U.symm,hd⟩
 ·have H:((n:Int) != L)=true:=by simp;omega
  have U:Hid (decide (l=Z)=false):=by show _=_;simp;intro e;have e1:=K.out;have j:=S.out;rw [e] at e1;omega
  clear D;go_enter func240,ntmps240;go_wp2_with fail;go_ret;exact ⟨ba U.symm,Sa _⟩
theorem uN (a:OA) (n c:Nat) (l:ZZ) (a':OA) (I c':Nat) (Y:ZZ) (h:bP w a n l) (D:bP w a' I Y) :
  Calls prog 239 #[.slice a n c,.slice a' I c',.func (.func 240) #[] #[]] w (mI w (decide (l=Y))):=by
 have H:=Z5 h.len;have Q:=Z5 D.len;have z:=h.pl;have A:=D.pl;have N:=h.max;unfold maxLen at N;by_cases C:n=I
 ·subst C;have E:((n:Int) != n)=false:=by simp
  go_enter func239,ntmps239;go_wp2_with fail;go_loopw [17] (λiv wr=>∃k:Nat,k<=n/\iv = cG k/\Hid (l.take k=Y.take k)/\bm w wr) (λi _=>n - (intOf i).toNat);case atStart=>exact ⟨0,Nb _,rfl,rfl,Sa _⟩
  case round =>
   obtain ⟨k,hk,rfl,L,hd⟩:=hrel
   by_cases U:k<n
   ·obtain ⟨b1,n1,d1,c1,j⟩:=(h.drawn hd).cell k U
    obtain ⟨b2,n2,d2,c2,r⟩:=(D.drawn hd).cell k U
    go_wp2_with fail
    refine (Fy _ _ _ _ _ _ _ _ j r).mono ?_
    rintro e w2 ⟨rfl,K⟩
    by_cases he:aj l k=aj Y k
    ·have Z:decide (aj l k=aj Y k)=true:=by simpa using he
     have S:Hid (l.take (k+1)=Y.take (k+1)):=nU L.out (by rw [H.out];exact U) (by rw [Q.out];exact U) he
     rw [Z]
     clear he Z
     go_wp2_with fail
     go_roundw
     case rel=>exact ⟨k+1,by omega,by go_num,S,hd.trans K⟩
     case measure=>simp [intOf]<;>omega
    ·have Z:decide (aj l k=aj Y k)=false:=by simpa using he
     have S:Hid (decide (l=Y)=false):=by show _=_;simp;intro e;exact he (by rw [e])
     rw [Z]
     clear he Z
     go_wp2_with fail
     go_ret
     exact ⟨ba S.symm,hd.trans K⟩
   ·obtain rfl:k=n:=by omega
    have S:Hid (decide (l=Y)=true):=by show _=_;have:=L.out;rw [Nj (by rw [H.out];exact M4 _),Nj (by rw [Q.out];exact M4 _)] at this;simpa using this
    go_wp2_with fail
    go_ret
    exact ⟨ba S.symm,hd⟩
 ·have E:((n:Int) != I)=true:=by simp;omega
  have S:Hid (decide (l=Y)=false):=by show _=_;simp;intro e;have e1:=H.out;have e2:=Q.out;rw [e] at e1;omega
  clear C;go_enter func239,ntmps239;go_wp2_with fail;go_ret;exact ⟨ba S.symm,Sa _⟩
end
def dI (P M:Int) (mod:Lz) (Z:Int) (L:ZZ):Int :=
 if dK P M mod Z L=0 then (if b8 (ah P M.toNat mod) L Z.toNat=L then 0 else 5) else dK P M mod Z L
def vu (P M:Int) (mod:Lz) (Z:Int) (a:OA) (n c:Nat) (L:ZZ) (w:ej) (e:Ending) (w':ej):Prop :=
 SJ w w'/\(
 (dI P M mod Z L ≠ 0/\e = ec #[.agg #[.pointer none,cG 0,ds,ds],cG (dI P M mod Z L)]) \/
 (dI P M mod Z L=0/\∃(m b:Nat),Z=m/\∃ap cp,e = ec #[.agg #[ea b 0,cG m,.slice a n c,.slice ap (bu (ah P M.toNat mod) L m).length cp],cG 0] /\
  yL w.heap.size w' b (ah P M.toNat mod)/\w.heap.size<=b/\bH w.heap.size w' ap (bu (ah P M.toNat mod) L m).length (bu (ah P M.toNat mod) L m)))
theorem jZ (P M:Int) (am:OA) (mn cm:Nat) (mod:Lz) (Y:Int) (a:OA) (n c:Nat) (L:ZZ) (w:ej) (hmod:Ints w am mn mod) (hi:bP w a n L) :
  Calls prog 190 #[.agg #[cG P,cG M,.slice am mn cm],.agg #[cG Y,.slice a n c]] w (vu P M mod Y a n c L w):=by
 have Hlen:=Z5 hi.len;go_enter func190,ntmps190;go_wp2_with fail;obtain ⟨W,r⟩:∃W:ej,W=(((w.alloc (.cells #[cG P,cG M,.slice am mn cm] 24)).alloc (.cells #[cG Y,.slice a n c] 94)).alloc (.cells #[.pointer none,cG 0,ds,ds] 210)):=⟨_,rfl⟩
 rw [<- r];have H:SJ w W:=by rw [r];exact kY _ _ _ _
 have hsW:W.heap.size=w.heap.size+3:=by rw [r];simp
 have E:aQ W w.heap.size [cG P,cG M,.slice am mn cm]:=by rw [r];exact ((RV _ _ _ rfl).alloc _).alloc _
 have Q:aQ W (w.heap.size+1) [cG Y,.slice a n c]:=by rw [r];exact (RV _ _ _ (by simp)).alloc _
 have Z:aQ W (w.heap.size+1+1) [.pointer none,cG 0,ds,ds]:=by rw [r];exact RV _ _ _ (by simp)
 have z:=Z5 (Ng E (Ng Q Z));have j:=Z5 hsW;have hiW:=hi.ai H;have hmW:=hmod.ai H;clear r hsW E Q Z;refine (na P M am mn cm mod Y a n c L W hmW hiW).mono ?_;rintro e w1 ⟨U,⟨he,rfl⟩ | ⟨he,m,rfl,a2,c2,ap,cp,rfl,hM2,hp2⟩⟩
 ·have I:=RU H U;have A:Hid (dI P M mod Y L=dK P M mod Y L):=by show _=_;rw [dI,M8 he]
  have HE:=Z5 he;have he':(dK P M mod Y L != 0)=true:=by simpa using he
  clear he;generalize dK P M mod Y L=er at *;have Z:=z.2.2.ai U;have f0:=Z.frozen 0;have f1:=Z.frozen 1;have f2:=Z.frozen 2;have f3:=Z.frozen 3;have k0:=Z.cell 0 rfl;have k1:=Z.cell 1 rfl;have k2:=Z.cell 2 rfl;have k3:=Z.cell 3 rfl;clear Z;have hz:w.heap.size+1+1<w1.heap.size:=by have:=U.size;have:=j.out;omega
  go_wp2_with fail;exact bodyPost_ret (v:=.tuple #[.agg #[.pointer none,cG 0,ds,ds],cG er]) (by simp [results,results190,go_sem,k0,k1,k2,k3,hz]) rfl
   ⟨(((((I.setCell (by simp;omega) _).setCell (by simp;omega) _).setCell (by simp;omega) _).setCell (by simp;omega) _).alloc (by simp;omega) _),.inl ⟨by rw [A.out];exact HE.out,by rw [A.out]⟩⟩
 ·have I:=RU H U;have C:SJ w1 (w1.alloc (.cells #[cG m,.slice a2 (bu (ah P M.toNat mod) L m).length c2] 94)):=aD _ _;have hz:w.heap.size+1+1<w1.heap.size:=by have:=U.size;have:=j.out;omega
  have Q:=z.2.1.ai U;have j0:=Q.cell 0 rfl;have j1:=Q.cell 1 rfl;have He:=Z5 he;have hz1:w.heap.size+1<w1.heap.size:=by omega
  clear Q he;go_wp2_with fail;refine (uN _ _ _ _ _ _ _ _ (hM2.lL.ai C) ((hiW.ai U).ai C)).mono ?_;rintro e w3 ⟨rfl,hd3⟩;have S:SJ w1 w3:=RU C hd3.below;have D:=RU I S;have hz3:w.heap.size+1+1<w3.heap.size:=Nz hz S.size;have E:=(z.1.ai U).ai S;have Q:=(z.2.1.ai U).ai S;have Z:=(z.2.2.ai U).ai S;by_cases hc:b8 (ah P M.toNat mod) L m=L
  ·have N:decide (b8 (ah P M.toNat mod) L m=L)=true:=by simpa using hc
   have A:Hid (dI P M mod m L=0):=by show _=_;rw [dI,M7 He.out,M9,M7 hc]
   rw [N];have hmW3:=(hmW.ai U).ai S;have i0:=E.cell 0 rfl;have i1:=E.cell 1 rfl;have i2:=E.cell 2 rfl;have hfb:bw P M mod=true:=by
    have:=He.out;unfold dK at this;split at this
    ·assumption
    ·omega
   have Hfb:=Z5 hfb;clear hc N E Q hfb;go_wp2_with fail;refine (dh P M am mn cm mod w3 hmW3).mono ?_;rintro e w4 (⟨hB,rfl,K⟩ | ⟨hB,b,rfl,hG,hbl,K⟩)
   ·rw [Hfb.out] at hB;cases hB
   ·clear hB;have hbw4:=RU D K;have Q:=((z.2.1.ai U).ai S).ai K;have Z:=((z.2.2.ai U).ai S).ai K;have j0:=Q.cell 0 rfl;have j1:=Q.cell 1 rfl;have f0:=Z.frozen 0;have f1:=Z.frozen 1;have f2:=Z.frozen 2;have f3:=Z.frozen 3;have k0:=Z.cell 0 rfl;have k1:=Z.cell 1 rfl;have k2:=Z.cell 2 rfl;have k3:=Z.cell 3 rfl;have hp4:=(hp2.ai S).ai K;have hF:vu P M mod m a n c L w (ec #[.agg #[ea b 0,cG m,.slice a n c,.slice ap (bu (ah P M.toNat mod) L m).length cp],cG 0])
      ((((w4.setCell ⟨w.heap.size+1+1,0,none⟩ (ea b 0)).setCell ⟨w.heap.size+1+1,1,none⟩ (cG m)).setCell ⟨w.heap.size+1+1,2,none⟩ (.slice a n c)).setCell ⟨w.heap.size+1+1,3,none⟩ (.slice ap (bu (ah P M.toNat mod) L m).length cp)):=by
     have hs:=j.out;have hs3:=S.size;refine ⟨(((hbw4.setCell (by simp;omega) _).setCell (by simp;omega) _).setCell (by simp;omega) _).setCell (by simp;omega) _,.inr ⟨A,m,b,rfl,ap,cp,rfl,?_,?_,?_⟩⟩
     ·exact ((((hG.setCell (by simp;omega) _).setCell (by simp;omega) _).setCell (by simp;omega) _).setCell (by simp;omega) _).mono (by omega)
     ·omega
     ·exact ((((hp4.setCell (by simp;omega) _).setCell (by simp;omega) _).setCell (by simp;omega) _).setCell (by simp;omega) _).mono (by omega)
    have HF:=Z5 hF;clear hF hp4 hp2 Q Z;generalize (bu (ah P M.toNat mod) L m).length=k at *;go_wp2_with fail;exact bodyPost_ret (v:=.tuple #[.agg #[ea b 0,cG m,.slice a n c,.slice ap k cp],cG 0]) (by simp [results,results190,go_sem,k0,k1,k2,k3]) rfl HF.out
  ·have N:decide (b8 (ah P M.toNat mod) L m=L)=false:=by simpa using hc
   have A:Hid (dI P M mod m L=5):=by show _=_;rw [dI,M7 He.out,M9,M8 hc]
   rw [N];have f0:=Z.frozen 0;have f1:=Z.frozen 1;have f2:=Z.frozen 2;have f3:=Z.frozen 3;have k0:=Z.cell 0 rfl;have k1:=Z.cell 1 rfl;have k2:=Z.cell 2 rfl;have k3:=Z.cell 3 rfl;clear hc N E Q Z;go_wp2_with fail;exact bodyPost_ret (v:=.tuple #[.agg #[.pointer none,cG 0,ds,ds],cG 5]) (by simp [results,results190,go_sem,k0,k1,k2,k3]) rfl
    ⟨(((D.setCell (by simp;omega) _).setCell (by simp;omega) _).setCell (by simp;omega) _).setCell (by simp;omega) _,.inl ⟨by rw [A.out];omega,by rw [A.out]⟩⟩
theorem sW (P M:Int) (am:OA) (Q N:Nat) (mod:Lz) (Z:Int) (a:OA) (n c:Nat) (L:ZZ) (w:ej) (S:Ints w am Q mod) (hi:bP w a n L) :
  Calls prog 143 #[.agg #[cG P,cG M,.slice am Q N],.agg #[cG Z,.slice a n c]] w λe w'=>e = .returned (cG (dI P M mod Z L))/\SJ w w':=by
 have K:=Z5 (dP w (.cells #[cG P,cG M,.slice am Q N] 24) (.cells #[cG Z,.slice a n c] 94));go_enter func143,ntmps143;go_wp2_with fail;have hb:=K.out;generalize (w.alloc (.cells #[cG P,cG M,.slice am Q N] 24)).alloc (.cells #[cG Z,.slice a n c] 94)=W at *;refine (jZ P M am Q N mod Z a n c L W (S.ai hb) (hi.ai hb)).mono ?_;rintro e D ⟨U,⟨he,rfl⟩ | ⟨he,m,b,rfl,ap,cp,rfl,C,H,I⟩⟩
 ·have Y:=RU hb U;clear he;go_wp2_with fail;go_ret;exact ⟨rfl,Y.alloc Y.size _⟩
 ·have Y:=RU hb U;have E:=Z5 he;clear he I;generalize (bu (ah P M.toNat mod) L m).length=k at *;go_wp2_with fail;go_ret;exact ⟨aK E.symm,Y.alloc Y.size _⟩
theorem oh (P M:Int) (am:OA) (Z Y:Nat) (N:Int) (a:OA) (n c:Nat) (w:ej) :
  Calls prog 91 #[.agg #[cG P,cG M,.slice am Z Y,cG N,.slice a n c]] w λe w'=>e = .returned (.agg #[cG N,.slice a n c])/\SJ w w':=by go_enter func91,ntmps91;go_wp2_with fail;exact bodyPost_ret (v:=.agg #[cG N,.slice a n c]) (by simp [results,results91,go_sem]) rfl ⟨rfl,dP _ _ _⟩
def jf (n:Int):Int:=if n<1\/64<n then 4 else 0
theorem tI (n:Int) (w:ej):Calls prog 119 #[cG n] w λe w'=>e = .returned (cG (jf n))/\w=w':=by
 by_cases h1:n<1
 ·have Z:Hid (jf n=4):=by show _=_;rw [jf,M7 (.inl h1)]
  go_enter func119,ntmps119;go_wp2;go_ret;exact ⟨aK Z.symm,rfl⟩
 ·have U:decide (n<1)=false:=by simpa using h1
  by_cases h2:64<n
  ·have Z:Hid (jf n=4):=by show _=_;rw [jf,M7 (.inr h2)]
   go_enter func119,ntmps119;go_wp2;go_ret;exact ⟨aK Z.symm,rfl⟩
  ·have Z:Hid (jf n=0):=by show _=_;rw [jf,M8 (by omega)]
   have Y:decide (64<n)=false:=by simpa using h2
   go_enter func119,ntmps119;go_wp2;go_ret;exact ⟨aK Z.symm,rfl⟩
def aI (P M:Int) (mod:Lz) (N:Int) (L:ZZ):Int :=
 if bw P M mod=true then (if jf N=0 then dI P M mod N L else 4) else 1
theorem cH (P M:Int) (am:OA) (Y K:Nat) (mod:Lz) (N:Int) (a:OA) (n c:Nat) (L:ZZ) (w:ej) (Q:Ints w am Y mod) (hi:bP w a n L) :
  Calls prog 88 #[.agg #[cG P,cG M,.slice am Y K,cG N,.slice a n c]] w λe w'=>e = .returned (cG (aI P M mod N L))/\SJ w w':=by
 go_enter func88,ntmps88;go_wp2_with fail;obtain ⟨W,j⟩:∃W:ej,W=w.alloc (.cells #[cG P,cG M,.slice am Y K,cG N,.slice a n c] 27):=⟨_,rfl⟩
 rw [<- j];have S:SJ w W:=by rw [j];exact aD _ _
 have x0:aQ W w.heap.size [cG P,cG M,.slice am Y K,cG N,.slice a n c]:=by rw [j];exact RV _ _ _ rfl
 have HX:=Z5 x0;clear j x0;refine (tB P M am Y K mod W (Q.ai S)).mono ?_;rintro e z ⟨rfl,Z⟩;have U:=RU S Z;by_cases D:bw P M mod=true
 ·have A:cX (bw P M mod)=0:=by rw [D];rfl
  rw [A];have r:Hid (aI P M mod N L=if jf N=0 then dI P M mod N L else 4):=by show _=_;rw [aI,M7 D]
  have I:=HX.ai Z;have c3:=I.cell 3 rfl;clear A D I;go_wp2_with fail;refine (tI N z).mono ?_;rintro e w2 ⟨rfl,rfl⟩;by_cases E:jf N=0
  ·have H:Hid (aI P M mod N L=dI P M mod N L):=by show _=_;rw [r.out,M7 E]
   rw [E];clear E;go_wp2_with fail;have hS:∀V,SJ z V->V.cell? ⟨w.heap.size,0,none⟩=some (cG P)/\V.cell? ⟨w.heap.size,1,none⟩=some (cG M)/\V.cell? ⟨w.heap.size,2,none⟩=some (.slice am Y K)/\V.cell? ⟨w.heap.size,3,none⟩=some (cG N)/\V.cell? ⟨w.heap.size,4,none⟩=some (.slice a n c)/\Ints V am Y mod/\bP V a n L/\SJ z V:=by intro V hV;have I:=(HX.ai Z).ai hV;exact ⟨I.cell 0 rfl,I.cell 1 rfl,I.cell 2 rfl,I.cell 3 rfl,I.cell 4 rfl,((Q.ai S).ai Z).ai hV,((hi.ai S).ai Z).ai hV,hV⟩
   have HS:=Z5 hS;clear hS c3;go_region_held3 (λV=>V.cell? ⟨w.heap.size,0,none⟩=some (cG P)/\V.cell? ⟨w.heap.size,1,none⟩=some (cG M)/\V.cell? ⟨w.heap.size,2,none⟩=some (.slice am Y K)/\V.cell? ⟨w.heap.size,3,none⟩=some (cG N)/\V.cell? ⟨w.heap.size,4,none⟩=some (.slice a n c)/\Ints V am Y mod/\bP V a n L/\SJ z V)
    ((refine HS _ ?_;first|exact (M5 _ _).drew|(go_split_ands;exact RU (by assumption) (by assumption))))
    (first
     | (go_at_call 91;((with_reducible refine (oh P M am Y K N a n c _).mono ?_);rintro e w4 ⟨rfl,hb4⟩))
     | (go_at_call 143;((with_reducible refine (sW P M am Y K mod N a n c L _ (by go_split_ands;assumption) (by go_split_ands;assumption)).mono ?_);rintro e w5 ⟨rfl,hb5⟩)))
   go_wp2_with fail;go_ret;exact ⟨aK H.symm,RU U (by go_split_ands;assumption)⟩
  ·have H:Hid (aI P M mod N L=4):=by show _=_;rw [r.out,M8 E]
   have C:jf N=4:=by unfold jf at E ⊢;split<;>simp_all
   rw [C];clear E C;go_wp2_with fail;go_ret;exact ⟨aK H.symm,U⟩
 ·have A:cX (bw P M mod)=1:=by
   have:bw P M mod=false:=by simpa using D
   rw [this];rfl
  rw [A];have r:Hid (aI P M mod N L=1):=by show _=_;rw [aI,M8 D]
  clear A D;go_wp2_with fail;go_ret;exact ⟨aK r.symm,U⟩
def yM (P M:Int) (mod:Lz) (N:Int) (L:ZZ) (w:ej) (e:Ending) (w':ej):Prop :=
 SJ w w'/\((aI P M mod N L ≠ 0/\e = ec #[.pointer none,cG (aI P M mod N L)]) \/
 (aI P M mod N L=0/\∃b,e = ec #[ea b 0,cG 0]/\dg w' b (ah P M.toNat mod)))
theorem aX {P M:Int} {mod:Lz} {N:Int} {L:ZZ} (h:aI P M mod N L=0):bw P M mod=true/\1<=N/\N<=64/\dI P M mod N L=0:=by
 unfold aI at h;split at h
 ·rename_i h1;split at h
  ·rename_i h2;unfold jf at h2;split at h2
   ·omega
   ·exact ⟨h1,by omega,by omega,h⟩
  ·omega
 ·omega
theorem dF {P M:Int} {mod:Lz} {N:Int} {L:ZZ} (h:dI P M mod N L=0):dK P M mod N L=0/\b8 (ah P M.toNat mod) L N.toNat=L:=by
 unfold dI at h;split at h
 ·rename_i h1;split at h
  ·rename_i h2;exact ⟨h1,h2⟩
  ·omega
 ·rename_i h1;exact absurd h h1
theorem gk {P M:Int} {mod:Lz} {N:Int} {L:ZZ} (h:dK P M mod N L=0):bw P M mod=true/\e9 (ah P M.toNat mod).q N L=0:=by
 unfold dK at h;split at h
 ·rename_i h1;exact ⟨h1,h⟩
 ·omega
theorem qI (P M:Int) (am:OA) (K H:Nat) (mod:Lz) (N:Int) (a:OA) (n c:Nat) (L:ZZ) (w:ej) (Y:Ints w am K mod) (hi:bP w a n L) :
  Calls prog 92 #[.agg #[cG P,cG M,.slice am K H,cG N,.slice a n c]] w (yM P M mod N L w):=by
 go_enter func92,ntmps92;go_wp2_with fail;obtain ⟨W,E⟩:∃W:ej,W=w.alloc (.cells #[cG P,cG M,.slice am K H,cG N,.slice a n c] 27):=⟨_,rfl⟩
 rw [<- E];have Z:SJ w W:=by rw [E];exact aD _ _
 have j:aQ W w.heap.size [cG P,cG M,.slice am K H,cG N,.slice a n c]:=by rw [E];exact RV _ _ _ rfl
 have HX:=Z5 j;clear E j;refine (cH P M am K H mod N a n c L W (Y.ai Z) (hi.ai Z)).mono ?_;rintro e w1 ⟨rfl,S⟩;have U:=RU Z S;by_cases Q:aI P M mod N L=0
 ·obtain ⟨r,_⟩:=aX Q;have A:=Z5 Q;have Hf:=Z5 r;rw [Q];have C:=HX.ai S;have c0:=C.cell 0 rfl;have c1:=C.cell 1 rfl;have c2:=C.cell 2 rfl;have z:=(Y.ai Z).ai S;clear Q C r;go_wp2_with fail;refine (dh P M am K H mod w1 z).mono ?_;rintro e w2 (⟨D,rfl,I⟩ | ⟨D,b,rfl,hG,hbl,I⟩)
  ·rw [Hf.out] at D;cases D
  ·clear D;have hg:=hG.gf;go_wp2_with fail;go_ret2;exact ⟨RU U I,.inr ⟨A,b,rfl,hg⟩⟩
 ·have A:=Z5 Q;have hE':(aI P M mod N L != 0)=true:=by simpa using Q
  clear Q;go_wp2_with fail;go_ret2;exact ⟨U,.inl ⟨A,rfl⟩⟩
def jE (N:Int) (l:Lz) (k:Nat):Bool:=decide (0<=nth l k) && decide (nth l k<N) && (k == 0 || decide (nth l (k - 1)<nth l k))
def qZ (N:Int) (l:Lz) (k:Nat):Bool:=(List.range k).all (jE N l)
def dZ (N:Int) (l:Lz):Bool:=qZ N l l.length
theorem ke {N:Int} {l:Lz} {k:Nat} (h:qZ N l k=true) (Z:jE N l k=true):qZ N l (k+1)=true:=by unfold qZ at *;rw [Ot,Qh,h];simp [Z]
theorem Ed {N:Int} {l:Lz} {k n:Nat} (Z:k<n) (h:jE N l k=false):qZ N l n=false:=by unfold qZ;rw [O7];exact ⟨k,List.mem_range.2 Z,by simp [h]⟩
theorem gL {N:Int} {l:Lz} (h:dZ N l=true) {k:Nat} (Z:k<l.length):0<=nth l k/\nth l k<N/\(0<k->nth l (k - 1)<nth l k):=by unfold dZ qZ at h;rw [NZ] at h;have:=h k (List.mem_range.2 Z);unfold jE at this;simp only [Nx,Qe,NM,beq_iff_eq] at this;exact ⟨this.1.1,this.1.2,λh0=>by rcases this.2 with h1 | h1;omega;exact h1⟩
def lB (N:Int) (S:ZZ):Int:=if S.all (dZ N) then 0 else 6
theorem Ij (P M:Int) (am:OA) (mn cm:Nat) (N:Int) (a:OA) (n c:Nat) (sa:OA) (ns cs:Nat) (S:ZZ) (w:ej) (hi:bP w sa ns S) :
  Calls prog 93 #[.agg #[cG P,cG M,.slice am mn cm,cG N,.slice a n c],.slice sa ns cs] w λe w'=>e = .returned (cG (lB N S))/\SJ w w':=by
 have K:=Z5 hi.len;have hpl:=hi.pl;have hmax:=hi.max;unfold maxLen at hmax;go_enter func93,ntmps93;go_wp2_with fail;obtain ⟨W,hW⟩:∃W:ej,W=w.alloc (.cells #[cG P,cG M,.slice am mn cm,cG N,.slice a n c] 27):=⟨_,rfl⟩
 rw [<- hW];have Q:SJ w W:=by rw [hW];exact aD _ _
 have c3:W.cell? ⟨w.heap.size,3,none⟩=some (cG N):=by rw [hW];exact aF _ _ _ rfl 3
 have hiW:=hi.ai Q;clear hW;go_loop [11] (λD=>∃k:Nat,k<=ns/\D = cG k/\Hid ((S.take k).all (dZ N)=true)) (λD=>ns - (intOf D).toNat);case atStart=>exact ⟨0,Nb _,rfl,by show _=_;simp⟩
 case round =>
  obtain ⟨k,hk,rfl,E⟩:=hrel
  by_cases r:k<ns
  ·obtain ⟨ra,rn,rc,hcell,Z⟩:=hiW.cell k r
   have A:k<S.length:=by rw [K.out];exact r
   have z:=Z5 Z.len
   have hpr:=Z.pl
   have hmr:=Z.max
   unfold maxLen at hmr
   have Hng:Hid (aj S k=S[k]):=aH A
   generalize aj S k=l at *
   go_wp2_with fail
   go_loop [17] (λD=>∃j:Nat,j<=rn/\D = cG j/\Hid (qZ N l j=true)) (λD=>rn - (intOf D).toNat)
   case atStart=>exact ⟨0,Nb _,rfl,by show _=_;simp [qZ]⟩
   case round =>
    obtain ⟨j,hj,rfl,C⟩:=hrel
    by_cases H:j<rn
    ·have cj:=Z.cell j H
     have I:jE N l j=false->lB N S=6:=λhb=>by
      rw [lB,M8];have h1:dZ N S[k]=false:=by rw [<- Hng.out];exact Ed (by rw [z.out];exact H) hb
      rw [dD A h1];simp
     have U:=Z5 I
     clear I
     by_cases h0:0<=nth l j
     ·by_cases h1:nth l j<N
      ·have d1:decide (nth l j<0)=false:=by simp;omega
       have d2:decide (N<=nth l j)=false:=by simp;omega
       by_cases L:j=0
       ·subst L
        have Y:Hid (jE N l 0=true):=by show _=_;unfold jE;simp [h0,h1]
        rw [QK] at cj
        go_wp2_with fail
        go_round
        case rel=>exact ⟨1,by omega,by go_num,ke C.out Y.out⟩
        case measure=>simp [intOf]<;>omega
       ·have cp:=Z.cell (j - 1) (by omega)
        have e1:((j:Int) - 1).toNat=j - 1:=by omega
        have d3:decide (0<(j:Int))=true:=by simp;omega
        have d4:(0:Int)<=(j:Int) - 1:=by omega
        have d5:(1:Int)<=(j:Int):=by omega
        have d6:(j:Int) - 1<rn:=by omega
        by_cases h2:nth l (j - 1)<nth l j
        ·have Y:Hid (jE N l j=true):=by show _=_;unfold jE;simp [h0,h1,h2]
         have h2':decide (nth l j<=nth l (j - 1))=false:=by simp;omega
         clear L e1
         go_wp2_with fail
         go_round
         case rel=>exact ⟨j+1,by omega,by go_num,ke C.out Y.out⟩
         case measure=>simp [intOf]<;>omega
        ·have Hb:Hid (lB N S=6):=U (by unfold jE;simp [h2,L])
         have h2':decide (nth l j<=nth l (j - 1))=true:=by simp;omega
         clear L e1
         go_wp2_with fail
         go_ret
         exact ⟨aK Hb.symm,Q⟩
      ·have Hb:Hid (lB N S=6):=U (by unfold jE;simp [h1])
       have d1:decide (nth l j<0)=false:=by simp;omega
       have d2:decide (N<=nth l j)=true:=by simp;omega
       go_wp2_with fail
       go_ret
       exact ⟨aK Hb.symm,Q⟩
     ·have Hb:Hid (lB N S=6):=U (by unfold jE;simp [h0])
      have d1:decide (nth l j<0)=true:=by simp;omega
      go_wp2_with fail
      go_ret
      exact ⟨aK Hb.symm,Q⟩
    ·obtain rfl:j=rn:=by omega
     have Hg:Hid (dZ N S[k]=true):=by show _=_;rw [<- Hng.out,dZ,z.out];exact C
     go_wp2_with fail
     go_round
     case rel=>exact ⟨k+1,by omega,by go_num,dE A E.out Hg.out⟩
     case measure=>simp [intOf]<;>omega
  ·obtain rfl:k=ns:=by omega
   have Hg:Hid (lB N S=0):=by have:=E.out;rw [Nj (by rw [K.out];exact M4 _)] at this;show _=_;rw [lB,M7 this]
   go_wp2_with fail
   go_ret
   exact ⟨aK Hg.symm,Q⟩
def bp (L:ZZ) (i:Nat):Lz:=L.map λr=>nth r i
theorem db (L:ZZ) (i:Nat):(bp L i).length=L.length:=by simp [bp]
theorem dx (L:ZZ) (i k:Nat) (Z:k<L.length):nth (bp L i) k=nth (aj L k) i:=by rw [an (by rw [db];exact Z),aH Z];simp [bp]
theorem CR (P M:Int) (am:OA) (mn cm:Nat) (N:Int) (a:OA) (n c:Nat) (L:ZZ) (i:Nat) (w:ej) (hi:bP w a n L) (hL:∀r ∈ L,i<r.length) (hn:n<=1000000) :
  Calls prog 149 #[.agg #[cG P,cG M,.slice am mn cm,cG N,.slice a n c],cG i] w (cR w (bp L i)):=by
 have K:=Z5 hi.len;have hpl:=hi.pl;have HL:=Z5 hL;clear hL;go_enter func149,ntmps149;go_wp2_with (at_make;refine bR rfl _ _ 22 3 rfl (cG 0) 8 underlying22 br rfl n rfl rfl (by omega) (by unfold maxLen;omega) ?_;intro a1 D Y Z E U;have c4:D.cell? ⟨w.heap.size,4,none⟩=some (.slice a n c):=aC Z (aF _ _ _ rfl 4));have C:SJ w D:=RU (aD w _) Z;have hs1:w.heap.size+1<=ablk a1:=by simpa using E
 have H:D.ownsRow w.heap.size 3 1 (.slice a1 n n) n (List.replicate n (cG 0)):=bq Y (by simp);clear Y Z E;go_loopw [15] (λiv wr=>∃k:Nat,k<=n/\iv = cG k /\
   wr.ownsRow w.heap.size 3 1 (.slice a1 n n) n ((dz ((bp L i).take k) k n).map (Value.int .i64))/\SJ w wr)
  (λi _=>n - (intOf i).toNat)
 case atStart=>exact ⟨0,Nb _,rfl,by simpa [dz] using H,C⟩
 case round =>
  obtain ⟨k,hk,rfl,Y,Z⟩:=hrel
  obtain ⟨hints,S⟩:=RW Y
  have hpl1:=hints.pl
  by_cases U:k<n
  ·obtain ⟨ra,rn,rc,A,Q⟩:=(hi.ai Z).cell k U
   have I:k<L.length:=by rw [K.out];exact U
   have z:i<rn:=by rw [<- Q.len,aH I];exact HL _ (NL I)
   have ci:=Q.cell i z
   have hpr:=Q.pl
   have hf:=(S (by omega)).2 k U
   have hc2:=hints.cell k U
   have hB:=(S (by omega)).1
   have Hv:=Z5 (dx L i k I)
   go_wp2_with fail
   go_roundw
   case rel =>
    refine ⟨k+1,by omega,by go_num,?_,Z.setCell hB _⟩
    have h:=bA Y k U (cG (nth (aj L k) i))
    rw [<- Ny,fJ _ _ _ _ (by rw [NH,db];omega) U] at h
    rw [Nh (by rw [db];omega),<- an,Hv.out]
    exact h
   case measure=>simp [intOf]<;>omega
  ·obtain rfl:k=n:=by omega
   have e:(bp L i).length=k:=by rw [db];exact K
   rw [gr,Nj (by omega)] at Y
   have j:=Z5 e
   clear e
   go_wp2_with fail
   go_ret
   exact ⟨a1,k,by rw [j.out];rfl,by rw [j.out];exact Y,Z⟩
def fnz:Lz->Nat
 | []=>0
 | x :: l=>if x=0 then fnz l+1 else 0
theorem GQ:∀l,fnz l<=l.length
 | []=>M4 _
 | x :: l=>by have:=GQ l;unfold fnz;split<;>simp<;>omega
theorem wU:∀(l:Lz) (k:Nat),k<l.length->(∀j,j<k->nth l j=0)->nth l k ≠ 0->fnz l=k
 | [],k,h,_,_=>by simp at h
 | x :: l,0,_,_,h=>by unfold fnz;rw [M8 (by simpa [nth] using h)]
 | x :: l,k+1,h,h0,h1=>by
  have Z:x=0:=by simpa [nth] using h0 0 (by omega)
  unfold fnz;rw [M7 Z,wU l k (by simpa using h) (λj Y=>by simpa [nth] using h0 (j+1) (by omega)) (by simpa [nth] using h1)]
theorem nR:∀(l:Lz),(∀j,j<l.length->nth l j=0)->fnz l=l.length
 | [],_=>rfl
 | x :: l,h=>by
  have Y:x=0:=by simpa [nth] using h 0 (by simp)
  unfold fnz;rw [M7 Y,nR l (λj Z=>by simpa [nth] using h (j+1) (by simpa using Z))];rfl
theorem j5:∀(l:Lz),fnz l<l.length->nth l (fnz l) ≠ 0
 | [],h=>by simp at h
 | x :: l,h=>by
  unfold fnz at h ⊢;split
  ·rename_i Z;rw [M7 Z] at h;have:=j5 l (by simpa using h);simpa [nth] using this
  ·rename_i Z;simpa [nth] using Z
theorem mi:∀(l:Lz) (j:Nat),j<fnz l->nth l j=0
 | [],j,h=>by simp [fnz] at h
 | x :: l,j,h=>by
  unfold fnz at h;split at h
  ·rename_i Z;match j with
   | 0=>simpa [nth] using Z
   | j+1=>have:=mi l j (by omega);simpa [nth] using this
  ·omega
theorem vX (x:Int) (w:ej):Calls prog 200 #[cG x] w λe w'=>e = .returned (.bool (x != 0))/\w=w':=by go_enter func200,ntmps200;go_wp2;go_ret;exact ⟨rfl,rfl⟩
def iX (l:Lz):Int:=if fnz l<l.length then fnz l else -1
theorem yW (a:OA) (n c:Nat) (l:Lz) (w:ej) (hi:Ints w a n l) :
  Calls prog 111 #[.slice a n c,.func (.func 200) #[] #[]] w λe w'=>e = .returned (cG (iX l))/\w=w':=by
 have Z:=Z5 hi.len;have I:=hi.pl;have Q:=hi.max;unfold maxLen at Q;go_enter func111,ntmps111;go_wp2_with fail;go_loop [8] (λN=>∃k:Nat,k<=n/\N = cG k/\Hid (∀j,j<k->nth l j=0)) (λN=>n - (intOf N).toNat);case atStart=>exact ⟨0,Nb _,rfl,λj E=>by omega⟩
 case round =>
  obtain ⟨k,C,rfl,Y⟩:=hrel
  by_cases U:k<n
  ·have D:=hi.cell k U
   by_cases S:nth l k=0
   ·have K:(nth l k != 0)=false:=by simpa using S
    have H:=Z5 S
    clear S
    go_wp2_with fail
    refine (vX _ _).mono ?_
    rintro e w' ⟨rfl,rfl⟩
    go_wp2_with fail
    go_round
    case rel=>exact ⟨k+1,by omega,by go_num,λj E=>by
     rcases NU j k with h | h
     ·exact Y j h
     ·rw [show j=k by omega];exact H⟩
    case measure=>simp [intOf]<;>omega
   ·have K:(nth l k != 0)=true:=by simpa using S
    have L:Hid (iX l=k):=by show _=_;have:=wU l k (by rw [Z.out];exact U) Y.out S;rw [iX,this,M7 (by rw [Z.out];exact U)]
    clear S
    go_wp2_with fail
    refine (vX _ _).mono ?_
    rintro e w' ⟨rfl,rfl⟩
    go_wp2_with fail
    go_ret
    exact ⟨aK L.symm,rfl⟩
  ·obtain rfl:k=n:=by omega
   have L:Hid (iX l = -1):=by show _=_;have:=nR l (by rw [Z.out];exact Y);rw [iX,this,M8 (by omega)]
   go_wp2_with fail
   go_ret
   exact ⟨aK L.symm,rfl⟩
section
def dH (O:aL) (v:Lz) (x:Int) (r:Lz):Lz:=List.zipWith (λp y=>O.add p (O.neg (O.mul x y))) v r
theorem ez (O:aL) (v:Lz) (x:Int) (r:Lz) (h:r.length=v.length):(dH O v x r).length=v.length:=by simp [dH,h]
theorem ey (O:aL) (v:Lz) (x:Int) (r:Lz) (i:Nat) (h:r.length=v.length) (hi:i<v.length):nth (dH O v x r) i=O.add (nth v i) (O.neg (O.mul x (nth r i))):=by rw [an (show i<(dH O v x r).length by rw [ez _ _ _ _ h];exact hi),an (show i<r.length by omega),an hi];simp [dH]
def dM (O:aL) (u:Lz) (p:Int) (r:Lz):Lz:=if nth u p.toNat=0 then u else dH O u (nth u p.toNat) r
def redTo (O:aL) (L:ZZ) (Q:Lz) (v:Lz):Nat->Lz
 | 0=>v
 | k+1=>dM O (redTo O L Q v k) (nth Q k) (aj L k)
structure BS where
 rows:ZZ
 place:Lz
def BS.red (O:aL) (s:BS) (v:Lz):Lz:=redTo O s.rows s.place v s.rows.length
def BS.ei (O:aL) (s:BS) (v:Lz):Bool:=decide (fnz (s.red O v)<(s.red O v).length)
def BS.next (O:aL) (s:BS) (v:Lz):BS :=
 if s.ei O v=true then ⟨s.rows ++ [(s.red O v).map (O.mul (O.inv (nth (s.red O v) (fnz (s.red O v)))))],s.place ++ [(fnz (s.red O v):Int)]⟩ else s
structure BS.Ok (El:Int->Prop) (n:Nat) (s:BS):Prop where
 rws:bz El n s.rows
 len:s.place.length=s.rows.length
 plc:∀i,i<s.rows.length->0<=nth s.place i/\nth s.place i<n
theorem eR {O:aL} {El:Int->Prop} (Z:qV O El) {v r:Lz} {x:Int} (Y:∀y ∈ v,El y) (S:∀y ∈ r,El y) (U:El x):∀y ∈ dH O v x r,El y:=by intro y hy;unfold dH at hy;rw [Qd] at hy;obtain ⟨i,hi,rfl⟩:=hy;rw [PC];exact Z.add _ _ (Y _ (NL _)) (Z.neg _ (Z.mul _ _ U (S _ (NL _))))
theorem kG {O:aL} {El:Int->Prop} (Y:qV O El) {n:Nat} {L:ZZ} {Q v:Lz} (N:bz El n L) (S:∀i,i<L.length->0<=nth Q i/\nth Q i<n)
  (U:v.length=n/\∀y ∈ v,El y):∀k,k<=L.length->(redTo O L Q v k).length=n/\∀y ∈ redTo O L Q v k,El y
 | 0,_=>U
 | k+1,H=>by
  have Z:=kG Y N S U k (by omega);have K:=N.row (i:=k) (by omega);have I:=S k (by omega);rw [redTo,dM];split
  ·exact Z
  ·exact ⟨by rw [ez _ _ _ _ (by omega)];exact Z.1,eR Y Z.2 K.2 (Z.2 _ (aG (by omega)))⟩
theorem BS.Ok.next {O:aL} {El:Int->Prop} (Y:qV O El) {n:Nat} {s:BS} (h:s.Ok El n) {v:Lz} (Q:v.length=n/\∀y ∈ v,El y):(s.next O v).Ok El n:=by
 unfold BS.next;split
 ·rename_i L;have hu:=kG Y h.rws h.plc Q s.rows.length (M4 _);have S:fnz (s.red O v)<(s.red O v).length:=by simpa [BS.ei] using L
  have hne:=j5 _ S;have U:(s.red O v).length=n:=hu.1;have Z:∀y ∈ s.red O v,El y:=hu.2;refine ⟨λr K=>?_,by simp [h.len],λi hi=>?_⟩
  ·rcases List.mem_append.1 K with h1 | h1
   ·exact h.rws r h1
   ·rw [List.mem_singleton.1 h1];refine ⟨by rw [No];exact U,λy hy=>?_⟩;obtain ⟨z,N,rfl⟩:=List.mem_map.1 hy;exact Y.mul _ _ (Y.inv _ (Z _ (aG S)) hne) (Z z N)
  ·simp only [Ni,ND] at hi;by_cases h1:i<s.rows.length
   ·have:=h.plc i h1;have e:nth (s.place ++ [(fnz (s.red O v):Int)]) i=nth s.place i:=by simp only [nth,Na];rw [NA (by rw [h.len];exact h1)]
    rw [e];exact this
   ·obtain rfl:i=s.rows.length:=by omega
    have e:nth (s.place ++ [(fnz (s.red O v):Int)]) s.rows.length=fnz (s.red O v):=by simp only [nth,Na];rw [<- h.len];simp
    rw [e];omega
 ·exact h
structure nP (w:ej) (B bb b:Nat) (ar:OA) (cr:Nat) (R:Z4) (ap:OA) (cp:Nat) (s:BS):Prop where
 bB:B<=bb
 c0:w.cell? ⟨bb,0,none⟩=some (ea b 0)
 c1:w.cell? ⟨bb,1,none⟩=some (.slice ar s.rows.length cr)
 c2:w.cell? ⟨bb,2,none⟩=some (.slice ap s.rows.length cp)
 fr:∀i,w.frozen? ⟨bb,i,none⟩=false
 om:aS w B ar s.rows.length cr R s.rows
 pl:w.ownsRow B 3 1 (.slice ap s.rows.length cp) s.rows.length (s.place.map (Value.int .i64))
 d1:¬ bN ar R bb
 d2:dq ap bb
 d3:ap ≠ none->¬ bN ar R (ablk ap)
def sK (bb:Nat) (ar:OA) (R:Z4) (ap:OA) (x:Nat):Prop:=x=bb\/bN ar R x\/(ap ≠ none/\x=ablk ap)
theorem Cd {w w':ej} {B:Nat} {e:TypeId} {a:OA} {c n:Nat} {xs:List Value} (h:w.ownsRow B e 1 (.slice a n c) n xs) (hb:a ≠ none->w'.heap[ablk a]? = w.heap[ablk a]?):w'.ownsRow B e 1 (.slice a n c) n xs:=by
 by_cases ha:a=none
 ·subst ha;refine ⟨h.1,?_⟩;rcases h.2 with h2 | ⟨g,cap,cur,Z,_⟩
  ·exact .inl h2
  ·cases Z
 ·exact fh h (hb ha)
namespace nP
variable {w w':ej} {B bb b:Nat} {ar:OA} {cr:Nat} {R:Z4} {ap:OA} {cp:Nat} {s:BS}
theorem lt (h:nP w B bb b ar cr R ap cp s) (x:Nat) (Z:sK bb ar R ap x):B<=x/\x<w.heap.size:=by
 rcases Z with rfl | Z | ⟨h1,rfl⟩
 ·exact ⟨h.bB,Nf w _ h.c0⟩
 ·exact h.om.lt x Z
 ·exact aP h.pl h1
theorem bf (h:nP w B bb b ar cr R ap cp s) (hb:∀x,sK bb ar R ap x->w'.heap[x]? = w.heap[x]?):nP w' B bb b ar cr R ap cp s:=by
 have Z:=hb bb (.inl rfl);exact ⟨h.bB,(NG (w:=w) (a:=⟨bb,0,none⟩) Z).trans h.c0,(NG (w:=w) (a:=⟨bb,1,none⟩) Z).trans h.c1,(NG (w:=w) (a:=⟨bb,2,none⟩) Z).trans h.c2,
  λi=>(NI (w:=w) (a:=⟨bb,i,none⟩) Z).trans (h.fr i),h.om.bf λx Y=>hb x (.inr (.inl Y)),Cd h.pl λha=>hb _ (.inr (.inr ⟨ha,rfl⟩)),h.d1,h.d2,h.d3⟩
theorem ai (h:nP w B bb b ar cr R ap cp s) (hb:SJ w w'):nP w' B bb b ar cr R ap cp s:=h.bf λx Z=>hb.block x (h.lt x Z).2
theorem only (h:nP w B bb b ar cr R ap cp s) {Y:OA} (S:ch Y w w') (Z:Y ≠ none->¬ sK bb ar R ap (ablk Y)):nP w' B bb b ar cr R ap cp s :=
 h.bf λx U=>S.block x (h.lt x U).2 λ⟨h1,h2⟩=>Z h1 (h2 ▸ U)
end nP
theorem aS.push {w w':ej} {B:Nat} {a:OA} {n c:Nat} {R:Z4} {L:ZZ} (h:aS w B a n c R L) {r:OA} {rc:Nat} {l:Lz}
  (hr:w.ownsRow B 3 1 (.slice r l.length rc) l.length (l.map (Value.int .i64))) (N:r ≠ none->¬ bN a R (ablk r))
  {a':OA} {c':Nat} (Q:w'.ownsRow B 22 1 (.slice a' (n+1) c') (n+1) (List.zipWith jD R L ++ [.slice r l.length rc])) (hg:w.grownBy w' (Value.slice a n c).ownBlock)
  (A:∀b,b<w.heap.size->dq a b->dq a' b):aS w' B a' (n+1) c' (R ++ [(r,rc)]) (L ++ [l]):=by
 have C:a' ≠ none:=by
  intro e;have:=(Sf Q)
  obtain ⟨x,y,hv,hp⟩:=this;cases hv
  have:=hp (by omega);rw [e] at this;cases this
 have E:∀i,aj (L ++ [l]) i=if i<n then aj L i else if i=n then l else []:=by
  intro i;simp only [aj,Na];by_cases h1:i<n
  ·rw [M7 h1,NA (by rw [h.ll];exact h1)]
  ·rw [M8 h1];by_cases h2:i=n
   ·subst h2;rw [M7 rfl,<- h.ll];simp
   ·rw [M8 h2,N5 (by simp [h.ll];omega)];rfl
 have Z:∀i,aM (R ++ [(r,rc)]) i=if i<n then aM R i else if i=n then (r,rc) else (none,0):=by
  intro i;simp only [aM,Na];by_cases h1:i<n
  ·rw [M7 h1,NA (by rw [h.rl];exact h1)]
  ·rw [M8 h1];by_cases h2:i=n
   ·subst h2;rw [M7 rfl,<- h.rl];simp
   ·rw [M8 h2,N5 (by simp [h.rl];omega)];rfl
 have Y:∀ {x:OA} {K m:Nat} {xs:List Value},w.ownsRow B 3 1 (.slice x m K) m xs->(x ≠ none->dq a (ablk x))->w'.ownsRow B 3 1 (.slice x m K) m xs:=by intro x K m xs D h2;exact Cd D λS=>hg.block _ (aP D S).2 λe=>(h2 S).own n c e.symm
 have rA:r ≠ none->dq a (ablk r):=λU=>by
  by_cases ha:a=none
  ·exact .inl ha
  ·exact .inr λe=>N U (.inl ⟨ha,e.symm⟩)
 have oA:∀i,i<n->(aM R i).1 ≠ none->dq a (ablk (aM R i).1):=λi hi S=>by
  rcases h.ue i hi with h2 | h2
  ·exact absurd h2 S
  ·exact .inr λe=>h2 e.symm
 have H:∀ {x:OA} {K m:Nat} {xs:List Value},w.ownsRow B 3 1 (.slice x m K) m xs->(x ≠ none->dq a (ablk x))->dq x (ablk a'):=by
  intro x K m xs D h2;by_cases S:x=none
  ·exact .inl S
  ·rcases A _ (aP D S).2 (h2 S) with h3 | h3
   ·exact absurd h3 C
   ·exact .inr λe=>h3 e.symm
 have I:List.zipWith jD (R ++ [(r,rc)]) (L ++ [l])=List.zipWith jD R L ++ [.slice r l.length rc]:=by rw [List.zipWith_append (by rw [h.rl,h.ll])];rfl
 refine ⟨by simp [h.rl],by simp [h.ll],by rw [I];exact Q,λi hi=>?_,λi hi=>?_,λi j hi hj z=>?_⟩
 ·rw [E,Z];by_cases h1:i<n
  ·simp only [M7 h1];exact Y (h.row i h1) (oA i h1)
  ·obtain rfl:i=n:=by omega
   simp only [M8 h1,if_true];exact Y hr rA
 ·rw [Z];by_cases h1:i<n
  ·simp only [M7 h1];exact H (h.row i h1) (oA i h1)
  ·obtain rfl:i=n:=by omega
   simp only [M8 h1,if_true];exact H hr rA
 ·rw [Z,Z];by_cases h1:i<n
  ·by_cases h2:j<n
   ·simp only [M7 h1,M7 h2];exact h.sep i j h1 h2 z
   ·obtain rfl:j=n:=by omega
    simp only [M7 h1,M8 h2,if_true];by_cases U:r=none
    ·exact .inr (.inl U)
    ·by_cases S:(aM R i).1=none
     ·exact .inl S
     ·exact .inr (.inr λe=>N U (by rw [e];exact aS.jS (by rw [h.rl];exact h1) S))
  ·obtain rfl:i=n:=by omega
   have h2:j<i:=by omega
   simp only [M8 h1,M7 h2,if_true];by_cases U:r=none
   ·exact .inl U
   ·by_cases S:(aM R j).1=none
    ·exact .inr (.inl S)
    ·exact .inr (.inr λe=>N U (by rw [<- e];exact aS.jS (by rw [h.rl];exact h2) S))
theorem bN.push {w:ej} {B:Nat} {a:OA} {n c:Nat} {R:Z4} {L:ZZ} (h:aS w B a n c R L) {r:OA} {rc:Nat} {a':OA}
  (Y:∀b,b<w.heap.size->dq a b->dq a' b) {x:Nat} (S:bN a' (R ++ [(r,rc)]) x):bN a R x\/(r ≠ none/\x=ablk r)\/w.heap.size<=x:=by
 rcases S with ⟨h1,rfl⟩ | ⟨i,hi,h1,rfl⟩
 ·by_cases Z:ablk a'<w.heap.size
  ·by_cases h2:dq a (ablk a')
   ·rcases Y _ Z h2 with h3 | h3
    ·exact absurd h3 h1
    ·exact absurd rfl h3
   ·left;left;refine ⟨λe=>h2 (.inl e),?_⟩;apply NB;intro e;exact h2 (.inr λU=>e U.symm)
  ·exact .inr (.inr (by omega))
 ·simp only [Ni,ND] at hi;by_cases h2:i<R.length
  ·have e:aM (R ++ [(r,rc)]) i=aM R i:=by simp only [aM,Na];rw [NA h2]
   rw [e] at h1 ⊢;exact .inl (aS.jS h2 h1)
  ·obtain rfl:i=R.length:=by omega
   have e:aM (R ++ [(r,rc)]) R.length=(r,rc):=by simp [aM]
   rw [e] at h1 ⊢;exact .inr (.inl ⟨h1,rfl⟩)
namespace nP
variable {V w4 w5 X w6:ej} {B bb b:Nat} {ar:OA} {cr:Nat} {R:Z4} {ap:OA} {cp:Nat} {s:BS}
theorem IA {a4 a5:OA} {c4 E k:Nat} {N:Lz} {o:Obj} (h:nP V B bb b ar cr R ap cp s) (hk:s.rows.length=k) (r:B<=V.heap.size) (j:SJ V w4)
  (U:w4.ownsRow V.heap.size 3 1 (.slice a4 N.length c4) N.length (N.map (Value.int .i64)))
  (C:w5.ownsRow B 22 1 (.slice a5 (k+1) E) (k+1) (List.zipWith jD R s.rows ++ [.slice a4 N.length c4])) (Z:(w4.alloc o).grownBy w5 (Value.slice ar k cr).ownBlock)
  (H:∀x,x<(w4.alloc o).heap.size->dq ar x->dq a5 x) (p1:∃v,w5.cell? ⟨bb,1,none⟩=some v) :
  ∃L A R',(w5.setCell ⟨bb,1,none⟩ (.slice a5 (k+1) E)).cell? ⟨bb,1,none⟩=some (.slice L (k+1) A)/\aS (w5.setCell ⟨bb,1,none⟩ (.slice a5 (k+1) E)) B L (k+1) A R' (s.rows ++ [N]) /\
   aB V (w5.setCell ⟨bb,1,none⟩ (.slice a5 (k+1) E)) (λx=>x=bb\/bN ar R x) (λx=>x=bb\/bN L R' x)/\¬ bN L R' bb /\
   (∀i v,i ≠ 1->V.cell? ⟨bb,i,none⟩=some v->(w5.setCell ⟨bb,1,none⟩ (.slice a5 (k+1) E)).cell? ⟨bb,i,none⟩=some v)/\∀i,(w5.setCell ⟨bb,1,none⟩ (.slice a5 (k+1) E)).frozen? ⟨bb,i,none⟩=false:=by
 have Y:SJ V (w4.alloc o):=RU j (aD _ _);have D:=h.om.ai Y;rw [hk] at D;have hr:(w4.alloc o).ownsRow B 3 1 (.slice a4 N.length c4) N.length (N.map (Value.int .i64)):=bq (bj U (aD _ _)) r;have z:a4 ≠ none->¬ bN ar R (ablk a4):=λh0 hI=>by have h1:=(aP U h0).1;have h2:=(h.om.lt _ hI).2;omega
 have hP:=aS.push D hr z C Z H;have hbb:=h.lt bb (.inl rfl);have Q:dq ar bb:=by
  by_cases ha:ar=none
  ·exact .inl ha
  ·exact .inr λe=>h.d1 (.inl ⟨ha,e.symm⟩)
 have hsz:=Y.size;have S:=λ{x:Nat} (K:bN a5 (R ++ [(a4,c4)]) x)=>bN.push D H K;have hd:¬ bN a5 (R ++ [(a4,c4)]) bb:=λhI=>by
  rcases S hI with h1 | ⟨h1,h2⟩ | h1
  ·exact h.d1 h1
  ·have:=(aP U h1).1;omega
  ·omega
 obtain ⟨v,p1⟩:=p1;refine ⟨a5,E,R ++ [(a4,c4)],Ns _ _ _ p1,hP.bf λx K=>Nt _ _ _ _ λe=>hd (by rw [show bb=x from e.symm];exact K),?_,hd,λi v hi hv=>?_,λi=>?_⟩;rotate_left
 ·rw [Nr _ _ _ _ (by simp<;>omega)];exact bG Z (aC Y hv) Q
 ·rw [NY];exact (NI (w:=w4.alloc o) (a:=⟨bb,i,none⟩) (Z.block bb (by omega) λe=>Q.own k cr e.symm)).trans (dR Y hbb.2 (h.fr i))
 have I:Below 0 w5 (w5.setCell ⟨bb,1,none⟩ (.slice a5 (k+1) E)):=(M5 0 w5).setCell (Nb _) _;refine ⟨I.os.trans (Z.os.trans Y.os),I.tape.trans (Z.tape.trans Y.tape),I.output.trans (Z.output.trans Y.output),Np Y.size (Np Z.size I.size),λx K hI=>?_,λx K=>?_⟩
 ·rw [Nt _ _ _ _ λe=>hI (.inl e)];rw [Z.block x (by omega) λe=>?_]
  ·exact Y.block x K
  ·apply hI;right;left;cases ar with
   | none=>simp [Value.ownBlock] at e
   | some y=>simp [Value.ownBlock] at e;exact ⟨by simp,by rw [e];rfl⟩
 ·rcases K with rfl | K
  ·exact .inl (.inl rfl)
  ·rcases S K with h1 | ⟨h1,h2⟩ | h1
   ·exact .inl (.inr h1)
   ·exact .inr (by have:=(aP U h1).1;omega)
   ·exact .inr (by omega)
theorem GW {U:OA} {c6 k:Nat} {f:Int} {L:ZZ} {Q:Lz} {o:Obj} (hB:B<=bb) (x0:X.cell? ⟨bb,0,none⟩=some (ea b 0)) (x1:X.cell? ⟨bb,1,none⟩=some (.slice ar (k+1) cr))
  (x2:∃v,X.cell? ⟨bb,2,none⟩=some v)
  (xf:∀i,X.frozen? ⟨bb,i,none⟩=false) (j:aS X B ar (k+1) cr R L) (hp:X.ownsRow B 3 1 (.slice ap k cp) k (Q.map (Value.int .i64))) (d1:¬ bN ar R bb) (d2:dq ap bb) (d3:ap ≠ none->¬ bN ar R (ablk ap))
  (K:w6.ownsRow B 3 1 (.slice U (k+1) c6) (k+1) (Q.map (Value.int .i64) ++ [cG f])) (Z:(X.alloc o).grownBy w6 (Value.slice ap k cp).ownBlock)
  (r:∀x,x<(X.alloc o).heap.size->dq ap x->dq U x) :
  nP (w6.setCell ⟨bb,2,none⟩ (.slice U (k+1) c6)) B bb b ar cr R U c6 ⟨L,Q ++ [f]⟩ /\
   aB X (w6.setCell ⟨bb,2,none⟩ (.slice U (k+1) c6)) (sK bb ar R ap) (sK bb ar R U):=by
 have A:bb<X.heap.size:=Nf X _ x0;have N:SJ X (X.alloc o):=aD _ _;have hsz:=N.size;have hne:U ≠ none:=λe=>by
  obtain ⟨y,z,hv,hp⟩:=Sf K;cases hv
  have:=hp (by omega);rw [e] at this;cases this
 have Y:∀ {x:Nat},dq ap x->x<X.heap.size->x ≠ ablk U:=λh2 S e=>by
  rcases r _ (by omega) h2 with h3 | h3
  ·exact hne h3
  ·exact h3 e.symm
 have D:=Y d2 A;have Gy:∀x,x<X.heap.size->x ≠ bb->dq ap x->(w6.setCell ⟨bb,2,none⟩ (.slice U (k+1) c6)).heap[x]? = X.heap[x]?:=λx S h1 h2=>by rw [Nt _ _ _ _ h1,Z.block x (by omega) λe=>h2.own k cp e.symm];exact N.block x S
 have E:∀x,bN ar R x->dq ap x:=λx S=>by
  by_cases h0:ap=none
  ·exact .inl h0
  ·exact .inr λe=>d3 h0 (e ▸ S)
 have C:∀i v,X.cell? ⟨bb,i,none⟩=some v->w6.cell? ⟨bb,i,none⟩=some v:=λi v hv=>bG Z (aU hv _) d2;have I:L.length=k+1:=j.ll;have hQl:Q.length=k:=by simpa using jd hp
 have hO6:aS (w6.setCell ⟨bb,2,none⟩ (.slice U (k+1) c6)) B ar (k+1) cr R L:=j.bf λx S=>Gy x (j.lt x S).2 (λe=>d1 (e ▸ S)) (E x S);obtain ⟨v2,x2⟩:=x2;refine ⟨⟨hB,?_,?_,?_,λi=>?_,?_,?_,d1,.inr λe=>D e.symm,λ_ hI=>?_⟩,?_⟩
 ·rw [Nr _ _ _ _ (by simp)];exact C _ _ x0
 ·rw [Nr _ _ _ _ (by simp)];simpa [I] using C _ _ x1
 ·simp only [I];exact Ns _ _ _ (C _ _ x2)
 ·rw [NY];exact (NI (w:=X.alloc o) (a:=⟨bb,i,none⟩) (Z.block bb (by omega) λe=>d2.own k cp e.symm)).trans (dA A (xf i) _)
 ·simp only [I];exact hO6
 ·simp only [I];have:=dO K (p:=⟨bb,2,none⟩) (.slice U (k+1) c6) (.inr λe=>D e.symm);simpa using this
 ·exact Y (E _ hI) (j.lt _ hI).2 rfl
 ·have H:Below 0 w6 (w6.setCell ⟨bb,2,none⟩ (.slice U (k+1) c6)):=(M5 0 w6).setCell (Nb _) _;refine ⟨H.os.trans (Z.os.trans N.os),H.tape.trans (Z.tape.trans N.tape),H.output.trans (Z.output.trans N.output),Np N.size (Np Z.size H.size),λx S hI=>?_,λx S=>?_⟩
  ·refine Gy x S (λe=>hI (.inl e)) ?_;by_cases h0:ap=none
   ·exact .inl h0
   ·exact .inr λe=>hI (.inr (.inr ⟨h0,e.symm⟩))
  ·rcases S with rfl | S | ⟨h1,rfl⟩
   ·exact .inl (.inl rfl)
   ·exact .inl (.inr (.inl S))
   ·by_cases hlt:ablk U<X.heap.size
    ·left;right;right;apply NB;intro hn;have hA:dq ap (ablk U):=by
      by_cases h0:ap=none
      ·exact .inl h0
      ·exact .inr λe=>hn ⟨h0,e.symm⟩
     exact Y hA hlt rfl
    ·exact .inr (by omega)
end nP
end
def yZ (L:ej) (bb b:Nat) (ar:OA) (R:Z4) (ap Q:OA) (O:aL) (s:BS) (v:Lz) (w:ej) (e:Ending) (w':ej):Prop :=
 ∃Y S N Z U,e = .returned (.bool (s.ei O v))/\nP w' L.heap.size bb b Y S N Z U (s.next O v) /\
  aB w w' (λx=>sK bb ar R ap x\/(Q ≠ none/\x=ablk Q)) (sK bb Y N Z)
theorem Gr {w z:ej} {b:Nat} {G:bX} (bb:Nat) (ar:OA) (cr:Nat) (R:Z4) (ap:OA) (cp:Nat) (s:BS) (r:OA) (cv n:Nat) (v:Lz)
  (h:dg z b G) (hb:SJ z w) (hB:nP w z.heap.size bb b ar cr R ap cp s) (hs:s.Ok G.El n) (hv:w.ownsRow z.heap.size 3 1 (.slice r n cv) n (v.map (Value.int .i64)))
  (hav:r ≠ none->¬ sK bb ar R ap (ablk r)) (hve:G.vn v) (hn:n<=1000000) (hk:s.rows.length<=1000000) :
  Calls prog 148 #[ea bb 0,.slice r n cv] w (yZ z bb b ar R ap r G.ops s v w):=by
 have hvl:v.length=n:=by simpa using jd hv
 have hpv:=(RW hv).1.pl;have hcl:=Sk h;have hred:=kG hcl hs.rws hs.plc ⟨hvl,hve⟩;have Hred:=Z5 hred;have Hvl:=Z5 hvl;have Hs:=Z5 hs;have Hve:=Z5 hve;have c1:=hB.c1;have hplr:=hB.om.pl;clear hred hvl hs hve;go_enter func148,ntmps148;go_wp2_with fail;obtain ⟨kk,hkk⟩:∃kk,s.rows.length=kk:=⟨_,rfl⟩
 have C:=Z5 hkk;rw [hkk] at hk hplr c1;rw [hkk];clear hkk;go_loopw [18] (λiv wr=>∃k:Nat,k<=kk/\iv = cG k/\wr.ownsRow z.heap.size 3 1 (.slice r n cv) n ((redTo G.ops s.rows s.place v k).map (Value.int .i64))/\ch r w wr) (λiv _=>kk - (intOf iv).toNat);case atStart=>exact ⟨0,Nb _,rfl,hv,Sg _ _⟩
 case round =>
  obtain ⟨k,hkk2,rfl,U,Z⟩:=hrel
  have I:=hB.only Z hav
  by_cases hlt:k<kk
  ·have hkr:k<s.rows.length:=by rw [C.out];exact hlt
   have e0:=I.c0
   have e2:=I.c2
   have er:=I.om.cell hkr
   have ir:=I.om.ints hkr
   have hrow:=Hs.rws.row hkr
   have hplc:=Hs.plc k hkr
   rw [hrow.1] at er ir
   obtain ⟨ip,mp⟩:=RW I.pl
   have ep:=ip.cell k hkr
   have hpp:=ip.pl
   rw [C.out] at e2 hpp
   obtain ⟨pn,hpn⟩:∃pn:Nat,nth s.place k=pn:=⟨(nth s.place k).toNat,by omega⟩
   rw [hpn] at ep hplc
   have hpnn:pn<n:=by omega
   have hrd:=Hred k (by omega)
   have hrd1:=Hred (k+1) (by omega)
   have hstep:redTo G.ops s.rows s.place v (k+1)=dM G.ops (redTo G.ops s.rows s.place v k) pn (aj s.rows k):=by rw [redTo,hpn]
   have Hstep:=Z5 hstep
   have D:=Z5 hrow
   have Hpn:=Z5 hpn
   clear hstep hpn
   obtain ⟨u,hu⟩:∃u,redTo G.ops s.rows s.place v k=u:=⟨_,rfl⟩
   rw [hu] at U hrd
   have Hu:=Z5 hu
   obtain ⟨iu,mu⟩:=RW U
   have eu:=iu.cell pn hpnn
   have hpu:=iu.pl
   have Q:=Z5 hrd
   clear hu hrow hrd hrd1
   by_cases hz:nth u pn=0
   ·have hz':(nth u pn != 0)=false:=by simpa using hz
    have Hn:Hid (redTo G.ops s.rows s.place v (k+1)=u):=by show _=_;rw [Hstep.out,Hu.out,dM,M9,M7 hz]
    clear hz
    go_wp2_with fail
    go_roundw
    case rel=>exact ⟨k+1,by omega,by go_num,by rw [Hn.out];exact U,Z⟩
    case measure=>simp [intOf]<;>omega
   ·have hz':(nth u pn != 0)=true:=by simpa using hz
    have Hn:Hid (redTo G.ops s.rows s.place v (k+1)=dH G.ops u (nth u pn) (aj s.rows k)):=by show _=_;rw [Hstep.out,Hu.out,dM,M9,M8 hz]
    have hxe:G.El (nth u pn):=Q.2 _ (aG (by rw [Q.1];exact hpnn))
    have hSl:(dH G.ops u (nth u pn) (aj s.rows k)).length=u.length:=ez _ _ _ _ (by rw [D.1,Q.1])
    have hSn:=λi hi=>ey G.ops u (nth u pn) (aj s.rows k) i (by rw [D.1,Q.1]) hi
    have HSl:=Z5 hSl
    have HSn:=Z5 hSn
    clear hz hSl hSn
    have hplr2:=ir.pl
    go_wp2_with fail
    generalize nth u pn=x at *
    generalize dH G.ops u x (aj s.rows k)=S at *
    go_loopw [37] (λiv wx=>∃j:Nat,j<=n/\iv = cG j/\wx.ownsRow z.heap.size 3 1 (.slice r n cv) n ((eJ S u j).map (Value.int .i64))/\ch r w wx) (λiv _=>n - (intOf iv).toNat)
    case atStart=>exact ⟨0,Nb _,rfl,by rw [dX];exact U,Z⟩
    case round =>
     obtain ⟨j,hj,rfl,K,L⟩:=hrel
     have hBx:=hB.only L hav
     have ix:=hBx.om.ints hkr
     rw [D.1] at ix
     by_cases hjn:j<n
     ·have cj:=ix.cell j hjn
      have f0:=hBx.c0
      obtain ⟨im,mm⟩:=RW K
      have cm:=im.cell j hjn
      have fm:=(mm (by omega)).2 j hjn
      have hju:j<u.length:=by rw [Q.1];exact hjn
      have hmix:=dS S u j j HSl.out (by omega)
      rw [M8 (by omega)] at hmix
      rw [hmix] at cm
      have hset:=dU S u j HSl.out hju
      rw [HSn j hju] at hset
      have Hset:=Z5 hset
      have ely:G.El (nth (aj s.rows k) j):=D.2 _ (aG (by rw [D.1];exact hjn))
      have elv:G.El (nth u j):=Q.2 _ (aG hju)
      have elm:∀x y,G.El (G.mul x y):=λx y=>Sr h x y
      have hbx:SJ z wr:=NK hb (L.below (λha=>(aP hv ha).1) hb.size)
      have hGr:dg wr b G:=h.ai hbx
      have HG:Hid (dg wr.drew b G/\∀n,dg (wr.drewN n) b G):=⟨hGr.ai (M5 _ _).drew,λn=>hGr.drewN n⟩
      clear hset hmix
      go_wp2_with fail
      go_region_law ((first
       | (go_simp;go_at_call 57;((with_reducible refine (lp x (nth (aj s.rows k) j) HG.out.1 hxe ely).mono ?_);rintro e w4 ⟨m4,rfl,rfl⟩))
       | (go_simp;go_at_call 57;((with_reducible refine (lp x (nth (aj s.rows k) j) (HG.out.2 _) hxe ely).mono ?_);rintro e w4 ⟨m4,rfl,rfl⟩))
       | (go_simp;go_at_call 199;((with_reducible refine (JR (nth u j) (G.mul x (nth (aj s.rows k) j)) (HG.out.2 _) elv (elm _ _)).mono ?_);rintro e w4 ⟨m5,rfl,rfl⟩))))
      all_goals (
       go_wp2_with fail
       go_roundw
       case rel =>
        have hdr:bm wr (wr.drewN (1+m4+m5)):=⟨_,rfl⟩
        refine ⟨j+1,by omega,by go_num,?_,L.trans ((Sc hdr).trans (Sl _ j _ (by intro e;have:=hpv (by omega);rw [e] at this;cases this)))⟩
        have h1:=bA (w:=wr.drewN (1+m4+m5)) K j hjn (cG (G.sub (nth u j) (G.mul x (nth (aj s.rows k) j))))
        rw [<- Ny,show G.sub (nth u j) (G.mul x (nth (aj s.rows k) j))=G.ops.add (nth u j) (G.ops.neg (G.ops.mul x (nth (aj s.rows k) j))) from rfl,Hset.out] at h1
        exact h1
       case measure=>simp [intOf]<;>omega)
     ·obtain rfl:j=n:=by omega
      rw [eD S u j (by rw [HSl.out,Q.1]) Q.1] at K
      go_wp2_with fail
      go_roundw
      case rel=>exact ⟨k+1,by omega,by go_num,by rw [Hn.out];exact K,L⟩
      case measure=>simp [intOf]<;>omega
  ·obtain rfl:k=kk:=by omega
   have hrd:=Hred k (by rw [C.out];exact M4 _)
   have hurd:redTo G.ops s.rows s.place v k=s.red G.ops v:=by rw [BS.red,C.out]
   rw [hurd] at U hrd
   obtain ⟨iu,mu⟩:=RW U
   have Q:=Z5 hrd
   clear hurd hrd
   go_wp2_with fail
   refine (yW _ _ _ _ _ iu).mono ?_
   rintro e w' ⟨rfl,rfl⟩
   by_cases hf:fnz (s.red G.ops v)<(s.red G.ops v).length
   ·have hfv:iX (s.red G.ops v)=fnz (s.red G.ops v):=by rw [iX,M7 hf]
    have hfn:=j5 _ hf
    have Ht:Hid (s.ei G.ops v=true):=by show _=_;simpa [BS.ei] using hf
    have HN:Hid (s.next G.ops v=⟨s.rows ++ [(s.red G.ops v).map (G.mul (G.inv (nth (s.red G.ops v) (fnz (s.red G.ops v)))))],s.place ++ [(fnz (s.red G.ops v):Int)]⟩):=by show _=_;rw [BS.next,M7 Ht.out];rfl
    rw [hfv]
    obtain ⟨u,hu⟩:∃u,s.red G.ops v=u:=⟨_,rfl⟩
    rw [hu] at U Q hf hfn iu HN
    rw [hu]
    clear hu hfv
    obtain ⟨f,hff⟩:∃f,fnz u=f:=⟨_,rfl⟩
    rw [hff] at hf hfn HN
    rw [hff]
    have hfn':f<n:=by rw [<- Q.1];exact hf
    have e0:=I.c0
    have eu:=iu.cell f hfn'
    have hpu:=iu.pl
    have elf:G.El (nth u f):=Q.2 _ (aG hf)
    have hbx:SJ z wr:=NK hb (Z.below (λha=>(aP hv ha).1) hb.size)
    have hGr:dg wr b G:=h.ai hbx
    have HG:Hid (dg wr.drew b G/\∀n,dg (wr.drewN n) b G):=⟨hGr.ai (M5 _ _).drew,λn=>hGr.drewN n⟩
    have Hfn:=Z5 hfn
    have Hf:=Z5 hf
    clear hff hfn hf
    go_upto_region 15 with fail
    go_cut [11] (λdv wx=>dv = cG (G.inv (nth u f))/\bm wr wx)
    case first =>
     go_region_held3 (λw'=>w'.cell? ⟨bb,0,none⟩=some (ea b 0)/\w'.cell? ⟨ablk r,aN r+f,none⟩=some (cG (nth u f)))
      (exact ⟨e0,eu⟩)
      (first
      | (go_at_call 201;((with_reducible refine (Af _ HG.out.1 elf Hfn.out).mono ?_);rintro e w4 ⟨m4,rfl,rfl⟩)))
     all_goals (
      go_step;go_step
      go_meet
      exact ⟨rfl,⟨_,rfl⟩⟩)
    obtain ⟨rfl,hdr⟩:=hcut
    generalize wc=V at *
    have Y:nP V z.heap.size bb b ar cr R ap cp s:=I.ai hdr.below
    have hownV:=bj U hdr.below
    have hbV:SJ z V:=hdr.tO hbx
    have E:ch r w V:=Z.trans (Sc hdr)
    clear I U hbx hGr HG e0 eu iu mu hdr Z
    obtain ⟨iu,mu⟩:=RW hownV
    have HGV:Hid (dg V.drew b G/\∀n,dg (V.drewN n) b G):=⟨(h.ai hbV).ai (M5 _ _).drew,λn=>(h.ai hbV).drewN n⟩
    have hiel:G.El (G.inv (nth u f)):=SA h _
    have e0:=Y.c0
    have e1:=Y.c1
    have f1:=Y.fr 1
    have hS:∀W,SJ V W->W.cell? ⟨bb,0,none⟩=some (ea b 0)/\W.cell? ⟨bb,1,none⟩=some (.slice ar s.rows.length cr)/\W.frozen? ⟨bb,1,none⟩=false/\SJ V W:=by intro W hW;have hBW:=Y.ai hW;exact ⟨hBW.c0,hBW.c1,hBW.fr 1,hW⟩
    have HS:=Z5 hS
    have haptb:dq ar bb:=by
     by_cases ha:ar=none
     ·exact .inl ha
     ·exact .inr λe=>Y.d1 (.inl ⟨ha,e.symm⟩)
    have hR:∀W,SJ V W->W.ownsRow z.heap.size 22 1 (.slice ar k cr) k (List.zipWith jD R s.rows):=λW hW=>by have:=(Y.om.ai hW).own;rwa [C.out] at this
    have HR:=Z5 hR
    obtain ⟨N,hN⟩:∃N,u.map (G.mul (G.inv (nth u f)))=N:=⟨_,rfl⟩
    have hsc:Calls prog 66 #[ea b 0,cG (G.inv (nth u f)),.slice r n cv] V.drew (cR V.drew N):=by rw [<- hN];exact pK (G.inv (nth u f)) _ _ _ u HGV.1 hiel (iu.ai (M5 _ _).drew) Q.2 hn
    have Hsc:=Z5 hsc
    have HNe:=Z5 hN
    rw [hN] at HN
    clear hN hsc
    clear hS hR
    go_upto_region 16 with fail
    go_cut [] (λwx=>∃A cr' R',wx.cell? ⟨bb,1,none⟩=some (.slice A (k+1) cr')/\aS wx z.heap.size A (k+1) cr' R' (s.rows ++ [N]) /\
     aB V wx (λx=>x=bb\/bN ar R x) (λx=>x=bb\/bN A R' x)/\¬ bN A R' bb /\
     (∀i v,i ≠ 1->V.cell? ⟨bb,i,none⟩=some v->wx.cell? ⟨bb,i,none⟩=some v)/\∀i,wx.frozen? ⟨bb,i,none⟩=false)
    case first =>
     rw [C.out] at e1 HS
     go_region_law ((first
      | (go_simp;go_at_call 66;((with_reducible refine Hsc.out.mono ?_);rintro e w4 ⟨a4,c4,rfl,hown4,hb4⟩;obtain ⟨q0,q1,q2,q5⟩:=HS.out w4 (RU (M5 _ _).drew hb4);have q6:bb<w4.heap.size:=Nf w4 _ q0))
      | (refine gB (by rfl) (.tmp 83) (.tmp 91) 25 22 (by rfl) ds 24 underlying25 ed (by rfl) z.heap.size ar k cr (List.zipWith jD R s.rows) (by rfl) (HR _ (RU q5 (aD _ _))) (some ⟨w4.heap.size,0,none⟩) 1 1 [.slice a4 N.length c4] (by rfl) (λ_=>rfl) rfl (by intro j hj;obtain rfl:j=0:=(by omega);exact dB _ _ _ rfl) (by intro y hy;simp at hy;subst hy;rfl) (by omega) (by unfold maxLen;omega) (by have e1:=hbV.size;have e2:=OR q5;simp;omega) ?_;intro a5 c5 w5 hown5 hgr5 hap5;have p1:=bG hgr5 (aU q1 _) haptb;have p2:w5.frozen? ⟨bb,1,none⟩=false:=(NI (hgr5.block bb (Nf _ _ (aU q1 _)) (λe=>haptb.own k cr e.symm))).trans (dA (Nf _ _ q1) q2 _))))
     all_goals (
      go_wp2_with fail
      go_meet
      exact Y.IA C.out hbV.size (RU (M5 _ _).drew hb4) hown4 hown5 hgr5 hap5 ⟨_,p1⟩)
    obtain ⟨A,cr',R',y1,hOX,H,hdX,hcX,hfX⟩:=hcut
    generalize wc=X at *
    have y0:=hcX 0 _ (by omega) e0
    have y2:=hcX 2 _ (by omega) Y.c2
    have yf:=hfX 2
    have hnI:ap ≠ none->¬ (ablk ap=bb\/bN ar R (ablk ap)):=λh0 hI=>by
     rcases hI with h1 | h1
     ·rcases Y.d2 with h2 | h2
      ·exact h0 h2
      ·exact h2 h1
     ·exact Y.d3 h0 h1
    have hpX:=H.own Y.pl hnI
    have hd3:ap ≠ none->¬ bN A R' (ablk ap):=λh0 hI=>H.not (aP Y.pl h0).2 (hnI h0) (.inr hI)
    rw [C.out] at y2 hpX
    have hbX:SJ z X:=hbV.trans (H.below (λx hx=>(Y.lt x (by rcases hx with h1 | h1;exact .inl h1;exact .inr (.inl h1))).1) hbV.size)
    have hz:bb<X.heap.size:=Nf X _ y0
    have HfX:=Z5 hfX
    have Hd3:=Z5 hd3
    have HdX:=Z5 hdX
    have hd2:=Y.d2
    have hbB:=Y.bB
    have hcn:=bh X (cG f) 3
    clear hcX hfX hd3 hdX e0 e1 f1
    go_wp2_with (at_builtin;refine bd rfl _ _ 22 3 rfl (cG 0) 8 underlying22 br rfl z.heap.size ap k cp _ rfl (hpX.alloc _) ⟨X.heap.size,0,none⟩ 1 (cG f) rfl hcn rfl (by omega) (by unfold maxLen;omega) (by have e1:=hbX.size;simp;omega) ?_;intro a6 c6 w6 hown6 hgr6 hap6;have p1:=bG hgr6 (aU y2 _) hd2;have p2:w6.frozen? ⟨bb,2,none⟩=false:=(NI (hgr6.block bb (Nf _ _ (aU y2 _)) (λe=>hd2.own k cp e.symm))).trans (dA hz yf _))
    have hP:=nP.GW (w6:=w6) hbB y0 y1 ⟨_,y2⟩ HfX.out hOX hpX HdX.out hd2 Hd3.out hown6 hgr6 hap6
    have HP:=Z5 hP
    clear hP
    go_ret
    refine ⟨A,cr',R',a6,c6,ba Ht.symm,by rw [HN.out];exact HP.1,?_⟩
    refine Sj (w':=V) (I':=λx=>sK bb ar R ap x\/(r ≠ none/\x=ablk r)) ?_ (Sj (w':=X) (I':=sK bb A R' ap) ?_ HP.2)
    ·exact ⟨E.os,E.tape,E.output,E.size,λx hx hI=>E.block x hx λh2=>hI (.inr h2),λx hx=>.inl hx⟩
    ·refine ⟨H.os,H.tape,H.output,H.size,λx hx hI=>H.block x hx λh2=>hI (.inl (by rcases h2 with h3 | h3;exact .inl h3;exact .inr (.inl h3))),λx hx=>?_⟩
     rcases hx with h1 | h1 | h1
     ·exact .inl (.inl (.inl h1))
     ·rcases H.grow x (.inr h1) with h2 | h2
      ·exact .inl (.inl (by rcases h2 with h3 | h3;exact .inl h3;exact .inr (.inl h3)))
      ·exact .inr h2
     ·exact .inl (.inl (.inr (.inr h1)))
   ·have hfv:iX (s.red G.ops v) = -1:=by rw [iX,M8 hf]
    rw [hfv]
    have Ht:Hid (s.ei G.ops v=false):=by show _=_;simp [BS.ei];omega
    have HN:Hid (s.next G.ops v=s):=by show _=_;rw [BS.next,M8 (by rw [Ht.out];simp)]
    clear hf hfv
    go_wp2_with fail
    go_ret
    refine ⟨ar,cr,R,ap,cp,ba Ht.symm,by rw [HN.out];exact I,?_⟩
    exact ⟨Z.os,Z.tape,Z.output,Z.size,λx hx hI=>Z.block x hx λh2=>hI (.inr h2),λx hx=>.inl (.inl hx)⟩
def grTo (O:aL) (L:ZZ) (Q:Lz):Nat->BS × Lz
 | 0=>(⟨[],[]⟩,[])
 | k+1=>((grTo O L Q k).1.next O (bp L (nth Q k).toNat),if (grTo O L Q k).1.ei O (bp L (nth Q k).toNat)=true then (grTo O L Q k).2 ++ [nth Q k] else (grTo O L Q k).2)
def jm (O:aL) (L:ZZ) (Q:Lz):Lz:=(grTo O L Q Q.length).2
theorem BS.y6 (O:aL) (s:BS) (v:Lz):(s.next O v).rows.length<=s.rows.length+1:=by unfold BS.next;split<;>simp
theorem aS.empty (w:ej) (B:Nat):aS w B none 0 0 [] [] :=
 ⟨rfl,rfl,cJ,λi hi=>by omega,λi hi=>by omega,λi j hi=>by omega⟩
theorem nP.start {w:ej} {B bb b:Nat} (Z:B<=bb) (h:aQ w bb [ea b 0,ds,ds]):nP w B bb b none 0 [] none 0 ⟨[],[]⟩ :=
 ⟨Z,h.cell 0 rfl,h.cell 1 rfl,h.cell 2 rfl,λi=>h.frozen i,aS.empty w B,cJ,λhI=>by
  rcases hI with ⟨h1,_⟩ | ⟨i,hi,_⟩
  ·exact h1 rfl
  ·simp at hi,.inl rfl,λh1=>absurd rfl h1⟩
theorem DK {El:Int->Prop} {m:Nat} {L:ZZ} (h:bz El m L) {i:Nat} (hi:i<m):(bp L i).length=L.length/\∀y ∈ bp L i,El y:=by refine ⟨db _ _,λy hy=>?_⟩;unfold bp at hy;obtain ⟨r,Z,rfl⟩:=List.mem_map.1 hy;exact (h r Z).2 _ (aG (by rw [(h r Z).1];exact hi))
theorem sx {w:ej} {b:Nat} {G:bX} (P M:Int) (am:OA) (mn cm:Nat) (N:Int) (a:OA) (n c:Nat) (L:ZZ) (m:Nat) (ao:OA) (no co:Nat) (Q:Lz)
  (h:dg w b G) (hi:bP w a n L) (hR:bz G.El m L) (hq:Ints w ao no Q) (hQ:∀k,k<no->0<=nth Q k/\nth Q k<m) (hn:n<=1000000) (hno:no<=1000000) :
  Calls prog 94 #[ea b 0,.agg #[cG P,cG M,.slice am mn cm,cG N,.slice a n c],.slice ao no co] w (cR w (jm G.ops L Q)):=by
 have Hlen:=Z5 hi.len;have HR:=Z5 hR;have HQ:=Z5 hQ;have Hql:=Z5 hq.len;have hplq:=hq.pl;have hcl:=Z5 (Sk h);clear hR hQ;go_enter func94,ntmps94;go_wp2_with fail;obtain ⟨W,hW⟩:∃W:ej,W=w.alloc (.cells #[cG P,cG M,.slice am mn cm,cG N,.slice a n c] 27):=⟨_,rfl⟩
 rw [<- hW];have E:SJ w W:=by rw [hW];exact aD _ _
 have x0:aQ W w.heap.size [cG P,cG M,.slice am mn cm,cG N,.slice a n c]:=by rw [hW];exact RV _ _ _ rfl
 have hsW:w.heap.size+1=W.heap.size:=by rw [hW];simp
 rw [hsW];have HX:=Z5 x0;have HsW:=Z5 hsW;have hGW:=h.ai E;have hiW:=hi.ai E;have hqW:=hq.ai E;clear hW x0 hsW;obtain ⟨V,hV⟩:∃V:ej,V=W.alloc (.cells #[ea b 0,ds,ds] 164):=⟨_,rfl⟩
 rw [<- hV];have hbV:SJ W V:=by rw [hV];exact aD _ _
 have hB0:nP V W.heap.size W.heap.size b none 0 [] none 0 ⟨[],[]⟩:=nP.start (M4 _) (by rw [hV];exact RV _ _ _ rfl);clear hV;go_loopw [8,16] (λqv iv wr=>∃(k:Nat) (Y:OA) (cq:Nat) (out:Lz) (s:BS) (ar:OA) (cr:Nat) (R:Z4) (ap:OA) (cp:Nat),k<=no/\iv = cG k/\qv = .slice Y out.length cq /\
   Hid (grTo G.ops L Q k=(s,out))/\nP wr W.heap.size W.heap.size b ar cr R ap cp s/\wr.ownsRow W.heap.size 3 1 (.slice Y out.length cq) out.length (out.map (Value.int .i64))/\Hid (Y ≠ none->¬ sK W.heap.size ar R ap (ablk Y)) /\
   SJ W wr/\Hid (s.Ok G.El n)/\s.rows.length<=k/\out.length<=k)
  (λ_ iv _=>no - (intOf iv).toNat)
 case atStart=>exact ⟨0,none,0,[],⟨[],[]⟩,none,0,[],none,0,Nb _,rfl,rfl,rfl,hB0,cJ,λh0=>absurd rfl h0,hbV,⟨λr hr=>by simp at hr,rfl,λi hi=>by simp at hi⟩,Nb _,Nb _⟩
 case round =>
  obtain ⟨k,Y,cq,out,s,ar,cr,R,ap,cp,hk,rfl,rfl,hst,hBr,hop,hdq,S,hok,hsk,hok2⟩:=hrel
  generalize wr=U at *
  by_cases hlt:k<no
  ·have cq1:=(hqW.ai S).cell k hlt
   have hQk:=HQ k hlt
   obtain ⟨i,hik⟩:∃i:Nat,nth Q k=i:=⟨(nth Q k).toNat,by omega⟩
   rw [hik] at cq1 hQk
   have him:i<m:=by omega
   have xU:=HX.ai S
   have b0:=xU.cell 0 rfl
   have b1:=xU.cell 1 rfl
   have b2:=xU.cell 2 rfl
   have b3:=xU.cell 3 rfl
   have b4:=xU.cell 4 rfl
   have z:=DK HR.out him
   rw [Hlen.out] at z
   have j:grTo G.ops L Q (k+1)=(s.next G.ops (bp L i),if s.ei G.ops (bp L i)=true then out ++ [(i:Int)] else out):=by rw [grTo,hst.out,hik,M9]
   have A:=Z5 j
   have K:=Z5 z
   clear xU j z hik
   go_wp2_with fail
   refine (CR P M am mn cm N a n c L i U (hiW.ai S) (λr hr=>by rw [(HR r hr).1];exact him) hn).mono ?_
   rintro e w3 ⟨a3,c3,rfl,Z,hb3⟩
   rw [K.1] at Z
   rw [K.1]
   have hB3:=hBr.ai hb3
   have hbw3:=RU S hb3
   have hn3:a3 ≠ none->¬ sK W.heap.size ar R ap (ablk a3):=λh0 hI=>by have h1:=(aP Z h0).1;have h2:=(hBr.lt _ hI).2;omega
   go_wp2_with fail
   refine (Gr W.heap.size ar cr R ap cp s a3 c3 n (bp L i) hGW hbw3 hB3 hok.out (bq Z S.size) hn3 K.2 hn (by omega)).mono ?_
   rintro e w4 ⟨D,cr',R',H,cp',rfl,hB4,hM4⟩
   have C:SJ W w4:=hbw3.trans (hM4.below (λx hx=>by
    rcases hx with h1 | ⟨h1,h2⟩
    ·exact (hB3.lt x h1).1
    ·rw [h2];exact Np S.size (aP Z h1).1) hbw3.size)
   have hop3:=bj hop hb3
   have hnI:Y ≠ none->¬ (sK W.heap.size ar R ap (ablk Y)\/(a3 ≠ none/\ablk Y=ablk a3)):=λh0 hI=>by
    rcases hI with h1 | ⟨h1,h2⟩
    ·exact hdq h0 h1
    ·have e1:=(aP hop h0).2;have e2:=(aP Z h1).1;omega
   have I:=hM4.own hop3 hnI
   have hdq4:Y ≠ none->¬ sK W.heap.size D R' H (ablk Y):=λh0=>hM4.not (aP hop3 h0).2 (hnI h0)
   have hok4:(s.next G.ops (bp L i)).Ok G.El n:=BS.Ok.next hcl.out hok.out K.out
   have hlen4:=BS.y6 G.ops s (bp L i)
   have Hok4:=Z5 hok4
   have Hdq4:=Z5 hdq4
   clear hnI hdq4 hok4 b0 b1 b2 b3 b4
   by_cases ht:s.ei G.ops (bp L i)=true
   ·rw [ht]
    have Hst:Hid (grTo G.ops L Q (k+1)=(s.next G.ops (bp L i),out ++ [(i:Int)])):=by show _=_;rw [A.out,M7 ht]
    clear ht
    generalize s.next G.ops (bp L i)=s' at *
    have hcn:=bh w4 (cG i) 3
    have hbn:=aD w4 (.cells #[cG i] 3)
    have hsz4:=C.size
    go_wp2_with (at_builtin;refine bd rfl _ _ 22 3 rfl (cG 0) 8 underlying22 br rfl W.heap.size Y out.length cq _ rfl (I.alloc _) ⟨w4.heap.size,0,none⟩ 1 (cG i) rfl hcn rfl (by omega) (by unfold maxLen;omega) (by simp;omega) ?_;intro a5 c5 w5 hown5 hgr5 hap5)
    go_roundw
    case rel =>
     have hBn:=hB4.ai hbn
     have haq:∀x,sK W.heap.size D R' H x->dq Y x:=λx hx=>by
      by_cases h0:Y=none
      ·exact .inl h0
      ·exact .inr λe=>Hdq4 h0 (e ▸ hx)
     have hB5:nP w5 W.heap.size W.heap.size b D cr' R' H cp' s':=hBn.bf λx hx=>hgr5.block x (hBn.lt x hx).2 λe=>(haq x hx).own _ _ e.symm
     have hb5:SJ W w5:=RY (NK C (hbn.mono hsz4)) (I.alloc _) hgr5 (M4 _) (Np hsz4 hbn.size)
     refine ⟨k+1,a5,c5,out ++ [(i:Int)],s',D,cr',R',H,cp',by omega,by go_num,by simp,Hst,hB5,?_,?_,hb5,Hok4,by omega,by simp;omega⟩
     ·simpa using hown5
     ·show a5 ≠ none->_
      intro h0 hI
      rcases hap5 _ (hBn.lt _ hI).2 (haq _ hI) with h1 | h1
      ·exact h0 h1
      ·exact h1 rfl
    case measure=>simp [intOf]<;>omega
   ·have ht':s.ei G.ops (bp L i)=false:=by simpa using ht
    rw [ht']
    have Hst:Hid (grTo G.ops L Q (k+1)=(s.next G.ops (bp L i),out)):=by show _=_;rw [A.out,M8 ht]
    clear ht ht'
    generalize s.next G.ops (bp L i)=s' at *
    go_wp2_with fail
    go_roundw
    case rel=>exact ⟨k+1,Y,cq,out,s',D,cr',R',H,cp',by omega,by go_num,rfl,Hst,hB4,I,Hdq4,C,Hok4,by omega,by omega⟩
    case measure=>simp [intOf]<;>omega
  ·obtain rfl:k=no:=by omega
   have Ho:Hid (jm G.ops L Q=out):=by show _=_;rw [jm,Hql.out,hst.out]
   go_wp2_with fail
   go_ret
   exact ⟨Y,cq,by rw [Ho.out];rfl,by rw [Ho.out];exact bq hop E.size,RU E S⟩
theorem aS.K8 (w:ej) (B:Nat):aS w B none 0 0 [] [] :=
 ⟨rfl,rfl,cJ,λi hi=>by omega,λi hi=>by omega,λi j hi=>by omega⟩
theorem Bq (P:Int) (m:Nat) (am:OA) (mn cm:Nat) (mod:Lz) (av:OA) (n cv:Nat) (v:Lz) (s:Int) (E:OA) (cu:Nat) (u:Lz) (w:ej) (hf:yD w P m am mn mod) (hs:fo P m s)
  (hi:Ints w av n v) (hu:Ints w E n u) (hve:∀x ∈ v,fo P m x) (hue:∀x ∈ u,fo P m x) (hn:n<=1000000) :
  Calls prog 227 #[.agg #[cG P,cG m,.slice am mn cm],.slice av n cv,cG s,.slice E n cu] w (cR w (bZ (mV P m mod) v s u)):=by
 have L:=hf.rf;have Hs:=Z5 (L.jx hs);have Hvl:=Z5 hi.len;have Hul:=Z5 hu.len;have hplv:=hi.pl;have hplu:=hu.pl;have Hev:Hid (∀k,k<n->jx (aO P m) (nth v k)=true):=λk hk=>L.jx (hve _ (aG (by rw [hi.len];exact hk)));have Heu:Hid (∀k,k<n->jx (aO P m) (nth u k)=true):=λk hk=>L.jx (hue _ (aG (by rw [hu.len];exact hk)));have Q:Hid ((bZ (mV P m mod) v s u).length=n):=by show _=_;rw [fg _ _ _ _ (by rw [hi.len,hu.len]),hi.len]
 have HNn:Hid (∀k,k<n->nth (bZ (mV P m mod) v s u) k=if nth u k=0 then nth v k else fsum P m (nth v k) (mulR P m mod s (nth u k))):=λk hk=>gY (mV P m mod) v s u k (by rw [hi.len,hu.len]) (by rw [hi.len];exact hk);obtain ⟨I,hNN⟩:∃I,bZ (mV P m mod) v s u=I:=⟨_,rfl⟩
 rw [hNN] at Q HNn;rw [hNN];clear hve hue hNN;go_enter func227,ntmps227;go_wp2_with (at_make;refine bR rfl _ _ 22 3 rfl (cG 0) 8 underlying22 br rfl n rfl rfl (by omega) (by unfold maxLen;omega) ?_;intro a1 w1 S Y hge Z);obtain ⟨W,hW⟩:∃W:ej,W=w.alloc (.cells #[cG P,cG m,.slice am mn cm] 24):=⟨_,rfl⟩
 rw [<- hW] at S Y hge;have A:SJ w W:=by rw [hW];exact aD _ _
 have x0:aQ W w.heap.size [cG P,cG m,.slice am mn cm]:=by rw [hW];exact RV _ _ _ rfl
 have hfW:=hf.ai A;have hiW:=hi.ai A;have huW:=hu.ai A;have hS:∀k,k<n->∀V,SJ W V->V.cell? ⟨w.heap.size,0,none⟩=some (cG P)/\V.cell? ⟨w.heap.size,1,none⟩=some (cG m)/\V.cell? ⟨w.heap.size,2,none⟩=some (.slice am mn cm) /\
   V.cell? ⟨ablk av,aN av+k,none⟩=some (cG (nth v k))/\V.cell? ⟨ablk E,aN E+k,none⟩=some (cG (nth u k))/\SJ W V:=by intro k hk V D;have x1:=x0.ai D;exact ⟨x1.cell 0 rfl,x1.cell 1 rfl,x1.cell 2 rfl,(hiW.ai D).cell k hk,(huW.ai D).cell k hk,D⟩
 have HS:=Z5 hS;clear hW x0 hS;go_loopw [10] (λiv wr=>∃k:Nat,k<=n/\iv = cG k /\
   wr.ownsRow W.heap.size 3 1 (.slice a1 n n) n ((dz (I.take k) k n).map (Value.int .i64))/\SJ W wr)
  (λi _=>n - (intOf i).toNat)
 case atStart=>exact ⟨0,Nb _,rfl,by simpa [dz] using S,Y⟩
 case round =>
  obtain ⟨k,hk,rfl,S,Y⟩:=hrel
  obtain ⟨hints,K⟩:=RW S
  have hpl1:=hints.pl
  by_cases Z:k<n
  ·have hB:=(K (by omega)).1
   have cc:=hints.cell k Z
   have cf:=(K (by omega)).2 k Z
   obtain ⟨d0,d1,d2,d3,d4,_⟩:=HS k Z wr Y
   have r:∀(V:ej) (z:Int),z=nth I k->V.ownsRow W.heap.size 3 1 (.slice a1 n n) n ((dz (I.take k) k n).map (Value.int .i64))->(V.setCell ⟨ablk a1,aN a1+k,none⟩ (cG z)).ownsRow W.heap.size 3 1 (.slice a1 n n) n ((dz (I.take (k+1)) (k+1) n).map (Value.int .i64)):=by rintro V z rfl D;have h:=bA D k Z (cG (nth I k));rw [<- Ny,fJ _ _ _ _ (by simp [Q.out];omega) Z] at h;rw [Nh (by rw [Q.out];omega)];rw [an (by rw [Q.out];omega)] at h ⊢;exact h
   have Hset:=Z5 r
   have HB:=Z5 hB
   have H:=HNn k Z
   have N:=bA S k Z (cG (nth v k))
   by_cases hz:nth u k=0
   ·rw [M7 hz] at H
    have hz':(nth u k != 0)=false:=by simpa using hz
    have HNk:=Z5 H
    have dd:(wr.setCell ⟨ablk a1,aN a1+k,none⟩ (cG (nth v k))).cell? ⟨ablk E,aN E+k,none⟩=some (cG (nth u k)):=(HS k Z _ (Y.setCell hB _)).2.2.2.2.1
    clear r hz H N
    go_wp2_with fail
    go_roundw
    case rel=>exact ⟨k+1,by omega,by go_num,Hset _ _ HNk.symm S,Y.setCell HB.out _⟩
    case measure=>simp [intOf]<;>omega
   ·rw [M8 hz] at H
    have hz':(nth u k != 0)=true:=by simpa using hz
    have HNk:=Z5 H
    obtain ⟨U,hU⟩:∃U:ej,U=wr.setCell ⟨ablk a1,aN a1+k,none⟩ (cG (nth v k)):=⟨_,rfl⟩
    have hbU:SJ W U:=by rw [hU];exact Y.setCell hB _
    have dd:(wr.setCell ⟨ablk a1,aN a1+k,none⟩ (cG (nth v k))).cell? ⟨ablk E,aN E+k,none⟩=some (cG (nth u k)):=(HS k Z _ (Y.setCell hB _)).2.2.2.2.1
    rw [<- hU] at N
    have hmdU:=(hfW.ai hbU).mods
    have Hmd:Hid (∀V,SJ U V->A1 V P m am mn mod):=λV D=>hmdU.ai D
    have HK:Hid (∀V,SJ U V->(∃y,V.cell? ⟨ablk a1,aN a1+k,none⟩=some y)/\V.frozen? ⟨ablk a1,aN a1+k,none⟩=false/\V.ownsRow W.heap.size 3 1 (.slice a1 n n) n (((dz (I.take k) k n).map (Value.int .i64)).set k (cG (nth v k)))):=λV D=>by have ho:=bj N D;have h5:=bL ho k Z;exact ⟨⟨_,by rw [h5.1,NJ (by rw [h5.2.2.2.1];exact Z)]⟩,h5.2.1,ho⟩
    have C:=Z5 hbU
    have HelM:Hid (jx (aO P m) (mulR P m mod s (nth u k))=true):=L.jx (wA L mod _ _)
    have HSk:Hid (∀V,SJ W V->V.cell? ⟨w.heap.size,0,none⟩=some (cG P)/\V.cell? ⟨w.heap.size,1,none⟩=some (cG m)/\V.cell? ⟨w.heap.size,2,none⟩=some (.slice am mn cm) /\
     V.cell? ⟨ablk av,aN av+k,none⟩=some (cG (nth v k))/\V.cell? ⟨ablk E,aN E+k,none⟩=some (cG (nth u k))/\SJ W V):=HS k Z
    have j:∀V:ej,V.ownsRow W.heap.size 3 1 (.slice a1 n n) n (((dz (I.take k) k n).map (Value.int .i64)).set k (cG (nth v k))) ->
      (V.setCell ⟨ablk a1,aN a1+k,none⟩ (cG (fsum P m (nth v k) (mulR P m mod s (nth u k))))).ownsRow W.heap.size 3 1 (.slice a1 n n) n ((dz (I.take (k+1)) (k+1) n).map (Value.int .i64)):=by intro V D;rw [<- HNk.out];have h:=bA D k Z (cG (nth I k));rw [List.set_set,<- Ny,fJ _ _ _ _ (by simp [Q.out];omega) Z] at h;rw [Nh (by rw [Q.out];omega)];rw [an (by rw [Q.out];omega)] at h ⊢;exact h
    have Hset2:=Z5 j
    clear r hz H N hmdU hbU j
    go_wp2_with fail
    rw [<- hU]
    clear hU d0 d1 d2 d3 d4 cc cf dd Y hints K S hB
    go_region_held3 (λV=>V.cell? ⟨w.heap.size,0,none⟩=some (cG P)/\V.cell? ⟨w.heap.size,1,none⟩=some (cG m)/\V.cell? ⟨w.heap.size,2,none⟩=some (.slice am mn cm) /\
      V.cell? ⟨ablk av,aN av+k,none⟩=some (cG (nth v k))/\V.cell? ⟨ablk E,aN E+k,none⟩=some (cG (nth u k))/\SJ W V)
     ((refine HSk _ ?_;first|exact C.drew|exact RU C.out hb7|exact RU C.out hb9|exact (RU C.out hb9).setCell HB.out _))
     (first
      | (go_at_call 114;((with_reducible refine (r8 P m am mn cm mod s (nth u k) _ L (Hmd.out _ (M5 _ _).drew) Hs.out (Heu.out k Z)).mono ?_);rintro e w4 ⟨rfl,hb4⟩;have hb7:SJ U w4:=RU (M5 _ _).drew hb4))
      | (go_at_call 113;((with_reducible refine (GK P m am mn cm (nth v k) (mulR P m mod s (nth u k)) _ L (Hev.out k Z) HelM.out).mono ?_);rintro e w5 ⟨rfl,hb5⟩;have hb9:SJ U w5:=RU hb7 hb5;obtain ⟨⟨v9,k9⟩,f9,o9⟩:=HK.out w5 hb9)))
    clear k9 f9
    go_wp2_with fail
    go_roundw
    case rel=>exact ⟨k+1,by omega,by go_num,Hset2 _ o9,(RU C.out hb9).setCell HB.out _⟩
    case measure=>simp [intOf]<;>omega
  ·obtain rfl:k=n:=by omega
   have hfin:dz (I.take k) k k=I:=by rw [gr,Nj (by rw [Q.out];exact M4 _)]
   rw [hfin] at S
   clear hfin
   go_wp2_with fail
   go_ret
   exact ⟨a1,k,by rw [Q.out];rfl,by rw [Q.out];exact bq S A.size,RU A Y⟩
theorem F8 (a:OA) (n c:Nat) (L:ZZ) (w:ej) (hi:bP w a n L) (hn:n<=1000000) (hL:∀l ∈ L,l.length<=1000000) :
  Calls prog 224 #[.slice a n c] w (Cj w L):=by
 have hpl:=hi.pl;have U:=Z5 hi.len;have HL:=Z5 hL;clear hL;go_enter func224,ntmps224;go_wp2_with fail;go_loopw [3,4] (λsv iv wr=>∃(k:Nat) (a1:OA) (c1:Nat),k<=n/\iv = cG k/\sv = .slice a1 k c1/\(∃R,aS wr w.heap.size a1 k c1 R (L.take k))/\SJ w wr) (λ_ iv _=>n - (intOf iv).toNat);case atStart=>exact ⟨0,none,0,Nb _,rfl,rfl,⟨[],by simpa using aS.K8 w w.heap.size⟩,M5 _ _⟩
 case round =>
  obtain ⟨k,a1,c1,hk,rfl,rfl,⟨R,hO⟩,Q⟩:=hrel
  by_cases hlt:k<n
  ·obtain ⟨ra,rn,rc,A,Y⟩:=(hi.ai Q).cell k hlt
   have S:k<L.length:=by rw [U.out];exact hlt
   have hrl:rn<=1000000:=by rw [<- Y.len,aH S];exact HL _ (NL S)
   have hO1:=k8 wr 3
   have N:=aD wr (.cells #[] 3)
   obtain ⟨l,hl⟩:∃l,aj L k=l:=⟨_,rfl⟩
   rw [hl] at Y
   have Htk:Hid (L.take (k+1)=L.take k ++ [l]):=by show _=_;rw [Nh S,<- hl,aH S]
   have E:=Y.ai N
   have hcell2:=aU A (.cells #[] 3)
   have hpr:=Y.pl
   have I:=Z5 Y.len
   have hsz:=Q.size
   clear hl
   go_wp2_with (at_builtin;first
    | (refine fZ (by rfl) (.tmp 12) (.tmp 16) 22 3 (by rfl) (cG 0) 8 underlying22 br (by rfl) wr.heap.size _ 0 0 [] (by rfl) hO1 ra rn rc (l.map (Value.int .i64)) (by rfl) hpr (by simp [I.out]) (Sm E) (ints_oneCell _ _) (by omega) (by unfold maxLen;omega) (OR N) ?_;intro a3 c3 w3 Z hgr3 hap3;have C:SJ wr w3:=RY (B:=wr.heap.size) (e:=3) (xs:=[]) N hO1 hgr3 (M4 _) (OR N);rw [Qm] at Z ⊢;rw [Oy] at Z)
    | (refine bd rfl _ _ 25 22 rfl ds 24 underlying25 ed rfl w.heap.size a1 k c1 _ rfl ((hO.ai (RU C (aD _ _))).own) ⟨w3.heap.size,0,none⟩ 1 (.slice a3 rn c3) rfl (bh w3 _ _) rfl (by omega) (by unfold maxLen;omega) (by have h1:=OR C;simp;omega) ?_;intro a5 c5 w5 z K j)
    | fail)
   go_roundw
   case rel =>
    have H:SJ wr (w3.alloc (.cells #[.slice a3 rn c3] 22)):=RU C (aD _ _)
    have r:=hO.ai H
    have D:(w3.alloc (.cells #[.slice a3 rn c3] 22)).ownsRow w.heap.size 3 1 (.slice a3 l.length c3) l.length (l.map (Value.int .i64)):=by rw [I.out];exact bq (bj Z (aD _ _)) hsz
    have hra:a3 ≠ none->¬ bN a1 R (ablk a3):=λh0 hI=>by have h1:=(aP Z h0).1;have h2:=(hO.lt _ hI).2;omega
    have hP:=aS.push r D hra (by rw [I.out];exact z) K j
    have hb5:SJ w w5:=RY (RU Q H) r.own K (M4 _) (Np hsz H.size)
    exact ⟨k+1,a5,c5,by omega,by go_num,rfl,⟨_,by rw [Htk.out];exact hP⟩,hb5⟩
   case measure=>simp [intOf]<;>omega
  ·obtain rfl:k=n:=by omega
   rw [Nj (by rw [U.out];exact M4 _)] at hO
   go_wp2_with fail
   go_ret
   exact ⟨a1,c1,R,by rw [U.out];rfl,by rw [U.out];exact hO,Q⟩
section
namespace bQ
variable {O:aL} {El:Int->Prop} (F:bQ O El)
include F
theorem ui {x:Int} (Z:El x):O.add 0 x=x:=by rw [F.add_comm _ _ F.zero Z,F.add_zero x Z]
theorem po {x:Int} (Z:El x):O.add (O.neg x) x=0:=by rw [F.add_comm _ _ (F.cl.neg x Z) Z,F.add_neg x Z]
theorem Mv {x y:Int} (Z:El x) (hy:El y):O.add (O.neg x) (O.add x y)=y:=by rw [<- F.add_assoc _ _ _ (F.cl.neg x Z) Z hy,F.po Z,F.ui hy]
theorem cancel {x y z:Int} (Z:El x) (hy:El y) (Y:El z) (h:O.add x y=O.add x z):y=z:=by rw [<- F.Mv Z hy,h,F.Mv Z Y]
theorem df {x:Int} (Z:El x):O.mul x 0=0:=by have h0:=F.cl.mul x 0 Z F.zero;refine F.cancel h0 h0 F.zero ?_;rw [<- F.mul_add x 0 0 Z F.zero F.zero,F.add_zero 0 F.zero,F.add_zero _ h0]
theorem lI {x:Int} (Z:El x):O.mul 0 x=0:=by rw [F.mul_comm _ _ F.zero Z,F.df Z]
theorem iH {x:Int} (Z:El x):O.mul x 1=x:=by rw [F.mul_comm _ _ Z F.one,F.one_mul x Z]
theorem l8 {x y:Int} (Z:El x) (hy:El y) (h:O.add x y=0):y=O.neg x :=
 F.cancel Z hy (F.cl.neg x Z) (by rw [h,F.add_neg x Z])
theorem gw:O.neg 0=0:=(F.l8 F.zero F.zero (F.add_zero 0 F.zero)).symm
theorem mul_neg {x y:Int} (Z:El x) (hy:El y):O.mul x (O.neg y)=O.neg (O.mul x y):=by have Y:=F.cl.neg y hy;refine F.l8 (F.cl.mul x y Z hy) (F.cl.mul x _ Z Y) ?_;rw [<- F.mul_add x y _ Z hy Y,F.add_neg y hy,F.df Z]
theorem neg_mul {x y:Int} (Z:El x) (hy:El y):O.mul (O.neg x) y=O.neg (O.mul x y):=by rw [F.mul_comm _ _ (F.cl.neg x Z) hy,F.mul_neg hy Z,F.mul_comm _ _ hy Z]
theorem Em {a b c d:Int} (ha:El a) (hb:El b) (Z:El c) (hd:El d):O.add (O.add a b) (O.add c d)=O.add (O.add a c) (O.add b d):=by rw [F.add_assoc a b _ ha hb (F.cl.add c d Z hd),F.add_assoc a c _ ha Z (F.cl.add b d hb hd),<- F.add_assoc b c d hb Z hd,F.add_comm b c hb Z,F.add_assoc c b d Z hb hd]
theorem neg_add {x y:Int} (U:El x) (hy:El y):O.neg (O.add x y)=O.add (O.neg x) (O.neg y):=by have Y:=F.cl.neg x U;have Z:=F.cl.neg y hy;refine (F.l8 (F.cl.add x y U hy) (F.cl.add _ _ Y Z) ?_).symm;rw [F.Em U hy Y Z,F.add_neg x U,F.add_neg y hy,F.add_zero 0 F.zero]
theorem neg_neg {x:Int} (Z:El x):O.neg (O.neg x)=x:=(F.l8 (F.cl.neg x Z) Z (F.po Z)).symm
theorem nE {x y:Int} (Z:El x) (hy:El y) (h0:x ≠ 0) (h:O.mul x y=0):y=0:=by have hi:=F.cl.inv x Z h0;rw [<- F.one_mul y hy,<- F.mul_inv x Z h0,F.mul_comm x _ Z hi,F.mul_assoc _ x y hi Z hy,h,F.df hi]
theorem comb {A B x Q B' R:Int} (K:El A) (I:El B) (L:El x) (U:El Q) (S:El B') (Y:El R) :
  O.add (O.add A (O.neg (O.mul x B))) (O.neg (O.mul (O.add Q (O.neg (O.mul x B'))) R))=O.add (O.add A (O.neg (O.mul Q R))) (O.neg (O.mul x (O.add B (O.neg (O.mul B' R))))):=by
 have m:=F.cl.mul;have n:=F.cl.neg;have h1:=m x B L I;have h2:=m Q R U Y;have Z:=m x B' L S;have h3:=m _ R Z Y;have N:=m B' R S Y;have e1:O.mul (O.add Q (O.neg (O.mul x B'))) R=O.add (O.mul Q R) (O.neg (O.mul (O.mul x B') R)):=by rw [F.mul_comm _ R (F.cl.add _ _ U (n _ Z)) Y,F.mul_add R _ _ Y U (n _ Z),F.mul_comm R Q Y U,F.mul_comm R _ Y (n _ Z),F.neg_mul Z Y]
 have H:O.mul x (O.add B (O.neg (O.mul B' R)))=O.add (O.mul x B) (O.neg (O.mul (O.mul x B') R)):=by rw [F.mul_add x _ _ L I (n _ N),F.mul_neg L N,F.mul_assoc x B' R L S Y]
 rw [e1,H,F.neg_add h2 (n _ h3),F.neg_add h1 (n _ h3),F.neg_neg h3,F.Em K (n _ h1) (n _ h2) h3,F.Em K (n _ h2) (n _ h1) h3]
end bQ
def Vc (El:Int->Prop) (n:Nat) (v:Lz):Prop:=v.length=n/\∀y ∈ v,El y
theorem Vc.at {El:Int->Prop} {n:Nat} {v:Lz} (h:Vc El n v) {i:Nat} (hi:i<n):El (nth v i):=h.2 _ (aG (by rw [h.1];exact hi))
theorem Vc.sub {O:aL} {El:Int->Prop} (F:bQ O El) {n:Nat} {v r:Lz} {x:Int} (Z:Vc El n v) (Y:Vc El n r) (U:El x):Vc El n (dH O v x r) :=
 ⟨by rw [ez _ _ _ _ (by rw [Y.1,Z.1])];exact Z.1,eR F.cl Z.2 Y.2 U⟩
theorem Vc.Da {O:aL} {El:Int->Prop} (F:bQ O El) {n:Nat} {r:Lz} {x:Int} (Z:Vc El n r) (U:El x):Vc El n (r.map (O.mul x)) :=
 ⟨by rw [No];exact Z.1,λy hy=>by obtain ⟨z,Y,rfl⟩:=List.mem_map.1 hy;exact F.cl.mul _ _ U (Z.2 z Y)⟩
structure j7 (O:aL) (El:Int->Prop) (n:Nat) (φ:Lz->Int):Prop where
 el:∀v,Vc El n v->El (φ v)
 sub:∀v r x,Vc El n v->Vc El n r->El x->φ (dH O v x r)=O.add (φ v) (O.neg (O.mul x (φ r)))
 Da:∀r x,Vc El n r->El x->φ (r.map (O.mul x))=O.mul x (φ r)
variable {O:aL} {El:Int->Prop} {n:Nat}
theorem ij (O:aL) (r:Lz) (x:Int) {i:Nat} (hi:i<r.length):nth (r.map (O.mul x)) i=O.mul x (nth r i):=by rw [an (by simpa using hi),an hi];simp
theorem j7.zq (F:bQ O El) {i:Nat} (hi:i<n):j7 O El n (λv=>nth v i) :=
 ⟨λv Z=>Z.at hi,λv r x Z Y U=>ey O v x r i (by rw [Y.1,Z.1]) (by rw [Z.1];exact hi),λr x Y U=>ij O r x (by rw [Y.1];exact hi)⟩
theorem j7.congr (F:bQ O El) {Q S:Lz->Int} (h:j7 O El n Q) (e:∀v,Vc El n v->S v=Q v):j7 O El n S :=
 ⟨λv Y=>by rw [e v Y];exact h.el v Y,λv r x Y Z U=>by rw [e _ (Y.sub F Z U),e v Y,e r Z];exact h.sub v r x Y Z U,
  λr x Z U=>by rw [e _ (Z.Da F U),e r Z];exact h.Da r x Z U⟩
theorem j7.comb (F:bQ O El) {N Q:Lz->Int} (h:j7 O El n N) (g:j7 O El n Q) {s:Int} (S:El s):j7 O El n (λv=>O.add (N v) (O.neg (O.mul (Q v) s))) :=
 ⟨λv U=>F.cl.add _ _ (h.el v U) (F.cl.neg _ (F.cl.mul _ _ (g.el v U) S)),
  λv r x U Z Y=>by show O.add (N (dH O v x r)) (O.neg (O.mul (Q (dH O v x r)) s))=_;rw [h.sub v r x U Z Y,g.sub v r x U Z Y];exact F.comb (h.el v U) (h.el r Z) Y (g.el v U) (g.el r Z) S,
  λr x Z Y=>by show O.add (N (r.map (O.mul x))) (O.neg (O.mul (Q (r.map (O.mul x))) s))=_;rw [h.Da r x Z Y,g.Da r x Z Y,F.mul_assoc x _ s Y (g.el r Z) S,<- F.mul_neg Y (F.cl.mul _ _ (g.el r Z) S),<- F.mul_add x _ _ Y (h.el r Z) (F.cl.neg _ (F.cl.mul _ _ (g.el r Z) S))]⟩
def lu (O:aL) (El:Int->Prop) (n:Nat) (c:Nat->Lz) (l:Z6) (x:Nat):Prop:=∀Z,j7 O El n Z->(∀y ∈ l,Z (c y)=0)->Z (c x)=0
theorem D9 (F:bQ O El) {c:Nat->Lz} (hc:∀i,Vc El n (c i)):vd (lu O El n c) where
 mem l x hx φ _ h:=h x hx
 mono l l' h y hy φ hφ h0:=hy φ hφ λx hx=>h x hx φ hφ h0
 exch l x y h hn:=by
  intro b hb h0;apply NB;intro hbx;apply hn;intro a ha ha0;apply NB;intro hay;have hax:a (c x) ≠ 0:=λe=>hay (h a ha λz hz=>by
   rcases List.mem_cons.1 hz with rfl | hz
   ·exact e
   ·exact ha0 z hz)
  have h1:=ha.el _ (hc x);have h2:=hb.el _ (hc x);have hbi:=F.cl.inv _ h2 hbx;have hs:=F.cl.mul _ _ hbi h1;have:=h _ (ha.comb F hb hs) λz hz=>by
   rcases List.mem_cons.1 hz with rfl | hz
   ·show O.add (a (c z)) (O.neg (O.mul (b (c z)) (O.mul (O.inv (b (c z))) (a (c z)))))=0;rw [<- F.mul_assoc _ _ _ h2 hbi h1,F.mul_inv _ h2 hbx,F.one_mul _ h1,F.add_neg _ h1]
   ·show O.add (a (c z)) (O.neg (O.mul (b (c z)) _))=0;rw [ha0 z hz,h0 z (List.mem_cons.2 (.inr hz)),F.lI hs,F.gw,F.add_zero 0 F.zero]
  have h3:O.add (a (c y)) (O.neg (O.mul (b (c y)) (O.mul (O.inv (b (c x))) (a (c x)))))=0:=this;rw [h0 y (by simp),F.lI hs,F.gw,F.add_zero _ (ha.el _ (hc y))] at h3;exact hay h3
structure BS.Inv (El:Int->Prop) (n:Nat) (s:BS):Prop where
 ok:s.Ok El n
 one:∀i,i<s.rows.length->nth (aj s.rows i) (nth s.place i).toNat=1
 zero:∀j i,j<i->i<s.rows.length->nth (aj s.rows i) (nth s.place j).toNat=0
theorem BS.Ok.row {s:BS} (h:s.Ok El n) {i:Nat} (hi:i<s.rows.length):Vc El n (aj s.rows i):=h.rws.row hi
theorem BS.Ok.pl {s:BS} (h:s.Ok El n) {i:Nat} (hi:i<s.rows.length):(nth s.place i).toNat<n:=by have:=h.plc i hi;omega
theorem Vc.dM (F:bQ O El) {u r:Lz} {p:Int} (hu:Vc El n u) (Z:Vc El n r) (Y:p.toNat<n):Vc El n (dM O u p r):=by
 unfold Go.Proofs.YthglbncgemdcbaaGreat.dM;split
 ·exact hu
 ·exact hu.sub F Z (hu.at Y)
theorem Vc.redTo (F:bQ O El) {s:BS} (h:s.Ok El n) {v:Lz} (Z:Vc El n v):∀k,k<=s.rows.length->Vc El n (redTo O s.rows s.place v k)
 | 0,_=>Z
 | k+1,Y=>(Vc.redTo F h Z k (by omega)).dM F (h.row (by omega)) (h.pl (by omega))
theorem gy (F:bQ O El) {u r:Lz} {p:Int} (hu:Vc El n u) (Z:Vc El n r) (Y:p.toNat<n) {i:Nat} (hi:i<n) :
  nth (dM O u p r) i=O.add (nth u i) (O.neg (O.mul (nth u p.toNat) (nth r i))):=by
 unfold dM;split
 ·rename_i h0;rw [h0,F.lI (Z.at hi),F.gw,F.add_zero _ (hu.at hi)]
 ·exact ey O u _ r i (by rw [Z.1,hu.1]) (by rw [hu.1];exact hi)
namespace BS.Inv
variable {s:BS}
theorem place (F:bQ O El) (h:s.Inv El n) {v:Lz} (U:Vc El n v):∀k,k<=s.rows.length->∀j,j<k->nth (redTo O s.rows s.place v k) (nth s.place j).toNat=0
 | 0,_,j,S=>by omega
 | k+1,Q,j,S=>by
  have hu:=Vc.redTo F h.ok U k (by omega);have Z:=h.ok.pl (i:=k) (by omega);have Y:=h.ok.pl (i:=j) (by omega);rw [redTo,gy F hu (h.ok.row (by omega)) Z Y];by_cases e:j=k
  ·subst e;rw [h.one j (by omega),F.iH (hu.at Z),F.add_neg _ (hu.at Z)]
  ·rw [place F h U k (by omega) j (by omega),h.zero j k (by omega) (by omega),F.df (hu.at Z),F.gw,F.add_zero 0 F.zero]
theorem stay (h:s.Inv El n) {i:Nat} (hi:i<s.rows.length):∀k,k<=i->redTo O s.rows s.place (aj s.rows i) k=aj s.rows i
 | 0,_=>rfl
 | k+1,Z=>by rw [redTo,stay h hi k (by omega),dM,M7 (h.zero k i (by omega) hi)]
theorem gone (F:bQ O El) (h:s.Inv El n) {i:Nat} (hi:i<s.rows.length):∀k,i<k->k<=s.rows.length->∀t,t<n->nth (redTo O s.rows s.place (aj s.rows i) k) t=0
 | 0,S,_,_,_=>by omega
 | k+1,S,Q,t,Y=>by
  have hu:=Vc.redTo F h.ok (h.ok.row hi) k (by omega);have U:=h.ok.row (i:=k) (by omega);have Z:=h.ok.pl (i:=k) (by omega);rw [redTo,gy F hu U Z Y];by_cases e:k=i
  ·subst e;rw [h.stay hi k (M4 _),h.one k hi,F.one_mul _ (U.at Y),F.add_neg _ (U.at Y)]
  ·rw [gone F h hi k (by omega) (by omega) t Y,gone F h hi k (by omega) (by omega) _ Z,F.lI (U.at Y),F.gw,F.add_zero 0 F.zero]
theorem MO (F:bQ O El) (h:s.Inv El n):∀k,k<=s.rows.length->∀i,i<n->j7 O El n (λv=>nth (redTo O s.rows s.place v k) i)
 | 0,_,i,hi=>j7.zq F hi
 | k+1,S,i,hi=>by have Z:=h.ok.pl (i:=k) (by omega);have Y:=h.ok.row (i:=k) (by omega);refine j7.congr F ((MO F h k (by omega) i hi).comb F (MO F h k (by omega) _ Z) (Y.at hi)) λv U=>?_;show nth (redTo O s.rows s.place v (k+1)) i=_;rw [redTo,gy F (Vc.redTo F h.ok U k (by omega)) Y Z hi]
theorem form (F:bQ O El) (h:s.Inv El n) {S:Lz->Int} (Z:j7 O El n S) (h0:∀i,i<s.rows.length->S (aj s.rows i)=0) {v:Lz} (U:Vc El n v):∀k,k<=s.rows.length->S (redTo O s.rows s.place v k)=S v
 | 0,_=>rfl
 | k+1,N=>by
  have hu:=Vc.redTo F h.ok U k (by omega);have Q:=h.ok.row (i:=k) (by omega);have Y:=h.ok.pl (i:=k) (by omega);rw [redTo,dM];split
  ·exact form F h Z h0 U k (by omega)
  ·rw [Z.sub _ _ _ hu Q (hu.at Y),h0 k (by omega),F.df (hu.at Y),F.gw,form F h Z h0 U k (by omega),F.add_zero _ (Z.el v U)]
end BS.Inv
theorem j7.zero (F:bQ O El) {Y:Lz->Int} (h:j7 O El n Y) {v:Lz} (Z:Vc El n v) (h0:∀i,i<n->nth v i=0):Y v=0:=by
 have e:v=v.map (O.mul 0):=fy (by simp) λi hi=>by rw [ij O v 0 hi,F.lI (Z.at (by rw [<- Z.1];exact hi)),h0 i (by rw [<- Z.1];exact hi)]
 rw [e,h.Da v 0 Z F.zero,F.lI (h.el v Z)]
theorem lT (F:bQ O El) {s:BS} (h:s.Inv El n) {v:Lz} (S:Vc El n v) :
  s.ei O v=false ↔ ∀Y,j7 O El n Y->(∀i,i<s.rows.length->Y (aj s.rows i)=0)->Y v=0:=by
 have hu:Vc El n (s.red O v):=Vc.redTo F h.ok S _ (M4 _);constructor
 ·intro U Y Z h0;rw [<- h.form F Z h0 S _ (M4 _)];refine Z.zero F hu λi hi=>mi (s.red O v) i ?_;have h1:¬ fnz (s.red O v)<(s.red O v).length:=by simpa [BS.ei] using U
  have h2:=GQ (s.red O v);have:=hu.1;omega
 ·intro h0;apply NB;intro U;have h1:fnz (s.red O v)<(s.red O v).length:=by simpa [BS.ei] using U
  have:=hu.1;exact j5 _ h1 (h0 _ (h.MO F _ (M4 _) _ (by omega)) λi hi=>h.gone F hi _ hi (M4 _) _ (by omega))
theorem kb (L:ZZ) (r:Lz) (i:Nat):aj (L ++ [r]) i=if i<L.length then aj L i else if i=L.length then r else aj [] 0:=by
 unfold aj;simp only [Na];split
 ·rename_i h;rw [NA h]
 ·rename_i h;split
  ·rename_i e;subst e;simp
  ·rename_i e;rw [N5 (by simp;omega)];simp
theorem iS (l:Lz) (r:Int) (i:Nat):nth (l ++ [r]) i=if i<l.length then nth l i else if i=l.length then r else 0:=by
 unfold nth;simp only [Na];split
 ·rename_i h;rw [NA h]
 ·rename_i h;split
  ·rename_i e;subst e;simp
  ·rename_i e;rw [N5 (by simp;omega)];simp
theorem BS.Inv.next (F:bQ O El) {s:BS} (h:s.Inv El n) {v:Lz} (Y:Vc El n v):(s.next O v).Inv El n:=by
 refine ⟨h.ok.next F.cl Y,?_,?_⟩
 ·unfold BS.next;split
  ·rename_i Q;have hu:Vc El n (s.red O v):=Vc.redTo F h.ok Y _ (M4 _);have U:fnz (s.red O v)<(s.red O v).length:=by simpa [BS.ei] using Q
   have hne:=j5 _ U;have N:=hu.1;have Z:=hu.at (i:=fnz (s.red O v)) (by omega);intro i hi;simp only [Ni,ND] at hi;simp only [kb,iS,h.ok.len];by_cases e:i<s.rows.length
   ·rw [M7 e,M7 e];exact h.one i e
   ·rw [M8 e,M8 e,M7 (by omega),M7 (by omega),M9,ij O _ _ U,F.mul_comm _ _ (F.cl.inv _ Z hne) Z,F.mul_inv _ Z hne]
  ·exact h.one
 ·unfold BS.next;split
  ·rename_i Q;have hu:Vc El n (s.red O v):=Vc.redTo F h.ok Y _ (M4 _);have U:fnz (s.red O v)<(s.red O v).length:=by simpa [BS.ei] using Q
   have hne:=j5 _ U;have N:=hu.1;have Z:=hu.at (i:=fnz (s.red O v)) (by omega);intro j i S hi;simp only [Ni,ND] at hi;simp only [kb,iS,h.ok.len];rw [M7 (show j<s.rows.length by omega)];by_cases e:i<s.rows.length
   ·rw [M7 e];exact h.zero j i S e
   ·have L:=h.ok.pl (i:=j) (by omega);rw [M8 e,M7 (by omega),ij O _ _ (by omega),BS.red,h.place F Y _ (M4 _) j (by omega)];exact F.df (F.cl.inv _ Z hne)
  ·exact h.zero
def JF (O:aL) (El:Int->Prop) (n:Nat) (c:Nat->Lz) (l:Z6) (s:BS):Prop :=
 ∀Z,j7 O El n Z->((∀y ∈ l,Z (c y)=0) ↔ ∀i,i<s.rows.length->Z (aj s.rows i)=0)
theorem JF.next (F:bQ O El) {c:Nat->Lz} (I:∀i,Vc El n (c i)) {l:Z6} {s:BS} (h:s.Inv El n) (E:JF O El n c l s) (x:Nat):JF O El n c (x :: l) (s.next O (c x)):=by
 intro S Y;have key:(∀i,i<s.rows.length->S (aj s.rows i)=0)->((S (c x)=0) ↔ ∀i,i<(s.next O (c x)).rows.length->S (aj (s.next O (c x)).rows i)=0):=by
  intro h0;have hu:Vc El n (s.red O (c x)):=Vc.redTo F h.ok (I x) _ (M4 _);have U:=h.form F Y h0 (I x) _ (M4 _);unfold BS.next;split
  ·rename_i K;have D:fnz (s.red O (c x))<(s.red O (c x)).length:=by simpa [BS.ei] using K
   have hne:=j5 _ D;have A:=hu.1;have N:=hu.at (i:=fnz (s.red O (c x))) (by omega);have hi:=F.cl.inv _ N hne;have Q:=Y.Da _ _ hu hi;have L:O.inv (nth (s.red O (c x)) (fnz (s.red O (c x)))) ≠ 0:=by intro e;have:=F.mul_inv _ N hne;rw [e,F.df N] at this;exact absurd this (by decide)
   constructor
   ·intro C i H;simp only [Ni,ND] at H;simp only [kb];by_cases e:i<s.rows.length
    ·rw [M7 e];exact h0 i e
    ·rw [M8 e,M7 (by omega),Q];show O.mul _ (S (redTo O s.rows s.place (c x) s.rows.length))=0;rw [U,C,F.df hi]
   ·intro Z;have:=Z s.rows.length (by simp);simp only [kb] at this;rw [M8 (Pr _),M7 trivial,Q] at this;rw [<- U];exact F.nE hi (Y.el _ hu) L this
  ·rename_i K;exact ⟨λ_=>h0,λ_=>(lT F h (I x)).1 (by simpa using K) S Y h0⟩
 constructor
 ·intro Z;have h1:∀i,i<s.rows.length->S (aj s.rows i)=0:=(E S Y).1 λy hy=>Z y (List.mem_cons.2 (.inr hy));exact (key h1).1 (Z x (by simp))
 ·intro Z;have h1:∀i,i<s.rows.length->S (aj s.rows i)=0:=by
   intro i hi;have hlen:s.rows.length<=(s.next O (c x)).rows.length:=by unfold BS.next;split<;>simp
   have:=Z i (by omega);unfold BS.next at this;split at this
   ·simp only [kb] at this;rw [M7 hi] at this;exact this
   ·exact this
  intro y hy;rcases List.mem_cons.1 hy with rfl | hy
  ·exact (key h1).2 Z
  ·exact (E S Y).2 h1 y hy
def lE (Q:Lz):Nat->Z6
 | 0=>[]
 | k+1=>(nth Q k).toNat :: lE Q k
theorem gJ (Q:Lz) (x:Nat):∀k,x ∈ lE Q k ↔ ∃j,j<k/\(nth Q j).toNat=x
 | 0=>by simp [lE]
 | k+1=>by
  rw [lE,PL,gJ Q x k];constructor
  ·rintro (h | ⟨j,Z,h⟩)
   ·exact ⟨k,by omega,h.symm⟩
   ·exact ⟨j,by omega,h⟩
  ·rintro ⟨j,Z,h⟩;by_cases e:j=k
   ·subst e;exact .inl h.symm
   ·exact .inr ⟨j,by omega,h⟩
theorem dw {m:Nat} {L:ZZ} (h:bz El m L) (h0:El 0) (i:Nat):Vc El L.length (bp L i):=by
 refine ⟨db _ _,λy hy=>?_⟩;unfold bp at hy;obtain ⟨r,Z,rfl⟩:=List.mem_map.1 hy;by_cases hi:i<m
 ·exact (h r Z).2 _ (aG (by rw [(h r Z).1];exact hi))
 ·have:nth r i=0:=by unfold nth;rw [Na,N5 (by rw [(h r Z).1];omega)];rfl
  rw [this];exact h0
theorem B4 (F:bQ O El) {m:Nat} {L:ZZ} (I:bz El m L) (Q:Lz):∀k,(grTo O L Q k).1.Inv El L.length/\JF O El L.length (bp L) (lE Q k) (grTo O L Q k).1 /\
  Rk (lu O El L.length (bp L)) (lE Q k) (grTo O L Q k).2.length
 | 0=>⟨⟨⟨λr H=>by simp [grTo] at H,rfl,λi hi=>by simp [grTo] at hi⟩,λi hi=>by simp [grTo] at hi,λj i _ hi=>by simp [grTo] at hi⟩,λY _=>⟨λ_ i hi=>by simp [grTo] at hi,λ_ y hy=>by simp [lE] at hy⟩,.nil⟩
 | k+1=>by
  obtain ⟨h1,h2,h3⟩:=B4 F I Q k;have K:=dw I F.zero;refine ⟨h1.next F (K _),h2.next F K h1 _,?_⟩;have N:=lT F h1 (K (nth Q k).toNat);have U:lu O El L.length (bp L) (lE Q k) (nth Q k).toNat ↔ (grTo O L Q k).1.ei O (bp L (nth Q k).toNat)=false:=by rw [N];exact ⟨λh Y Z h0=>h Y Z ((h2 Y Z).2 h0),λh Y Z h0=>h Y Z ((h2 Y Z).1 h0)⟩
  rw [lE,grTo];by_cases S:(grTo O L Q k).1.ei O (bp L (nth Q k).toNat)=true
  ·rw [M7 S];simp only [Ni,ND];exact .ind _ (λh=>by rw [U.1 h] at S;simp at S) h3
  ·rw [M8 S];exact .dep _ (U.2 (by simpa using S)) h3
theorem pI (F:bQ O El) {m:Nat} {L:ZZ} (Z:bz El m L) (Q:Lz):Rk (lu O El L.length (bp L)) (lE Q Q.length) (jm O L Q).length:=(B4 F Z Q Q.length).2.2
theorem gd (F:bQ O El) {m:Nat} {L:ZZ} (Z:bz El m L):vd (lu O El L.length (bp L)):=D9 F (dw Z F.zero)
end
theorem fi (a:OA) (n c:Nat) (l:Lz) (a':OA) (L r:Nat) (Z:Lz) {w:ej} (h:Ints w a n l) (E:Ints w a' L Z) :
  Calls prog 19 #[.slice a n c,.slice a' L r] w (mI w (decide (l=Z))):=by
 have K:=Z5 h.len;have S:=Z5 E.len;have A:=h.pl;have C:=E.pl;have Q:=h.max;unfold maxLen at Q;by_cases D:n=L
 ·subst D;have H:((n:Int) != n)=false:=by simp
  go_enter func19,ntmps19;go_wp2_with fail;go_loopw [5] (λz wr=>∃k:Nat,k<=n/\z = cG k/\Hid (l.take k=Z.take k)/\bm w wr) (λi _=>n - (intOf i).toNat);case atStart=>exact ⟨0,Nb _,rfl,rfl,Sa _⟩
  case round =>
   obtain ⟨k,hk,rfl,N,hd⟩:=hrel
   by_cases Y:k<n
   ·have c1:=(h.drawn hd).cell k Y
    have c2:=(E.drawn hd).cell k Y
    by_cases he:nth l k=nth Z k
    ·have I:(nth l k != nth Z k)=false:=by simpa using he
     have U:Hid (l.take (k+1)=Z.take (k+1)):=qP N.out (by rw [K.out];exact Y) (by rw [S.out];exact Y) he
     clear he
     go_wp2_with fail
     go_quiet (fail)
     go_wp2
     go_roundw
     case rel=>exact ⟨k+1,by omega,by go_num,U,hd.drewN _⟩
     case measure=>simp [intOf]<;>omega
    ·have I:(nth l k != nth Z k)=true:=by simpa using he
     have U:Hid (decide (l=Z)=false):=by show _=_;simp;intro e;exact he (by rw [e])
     clear he
     go_wp2_with fail
     go_quiet (fail)
     go_wp2
     go_ret
     exact ⟨ba U.symm,hd.drewN _⟩
   ·obtain rfl:k=n:=by omega
    have U:Hid (decide (l=Z)=true):=by show _=_;have:=N.out;rw [Nj (by rw [K.out];exact M4 _),Nj (by rw [S.out];exact M4 _)] at this;simpa using this
    go_wp2_with fail
    go_ret
    exact ⟨ba U.symm,hd⟩
 ·have H:((n:Int) != L)=true:=by simp;omega
  have U:Hid (decide (l=Z)=false):=by show _=_;simp;intro e;have e1:=K.out;have j:=S.out;rw [e] at e1;omega
  clear D;go_enter func19,ntmps19;go_wp2_with fail;go_ret;exact ⟨ba U.symm,Sa _⟩
theorem nc (a:OA) (n c:Nat) (l:ZZ) (a':OA) (I c':Nat) (Y:ZZ) {w:ej} (h:bP w a n l) (A:bP w a' I Y) :
  Calls prog 44 #[.slice a n c,.slice a' I c'] w (mI w (decide (l=Y))):=by
 have E:=Z5 h.len;have Q:=Z5 A.len;have hpl:=h.pl;have hpl':=A.pl;have N:=h.max;unfold maxLen at N;by_cases hn:n=I
 ·subst hn;have C:((n:Int) != n)=false:=by simp
  go_enter func44,ntmps44;go_wp2_with fail;go_loopw [5] (λiv wr=>∃k:Nat,k<=n/\iv = cG k/\Hid (l.take k=Y.take k)/\bm w wr) (λi _=>n - (intOf i).toNat);case atStart=>exact ⟨0,Nb _,rfl,rfl,Sa _⟩
  case round =>
   obtain ⟨k,hk,rfl,L,hd⟩:=hrel
   by_cases U:k<n
   ·obtain ⟨r,H,d1,c1,i1⟩:=(h.drawn hd).cell k U
    obtain ⟨z,D,d2,c2,i2⟩:=(A.drawn hd).cell k U
    have K:=Z5 (fi r H d1 _ z D d2 _ (i1.drawn (Sa wr).drew) (i2.drawn (Sa wr).drew))
    by_cases he:aj l k=aj Y k
    ·have Z:decide (aj l k=aj Y k)=true:=by simpa using he
     have S:Hid (l.take (k+1)=Y.take (k+1)):=nU L.out (by rw [E.out];exact U) (by rw [Q.out];exact U) he
     rw [Z] at K
     clear he Z
     go_wp2_with fail
     go_region_held3 (λV=>V.cell? ⟨ablk a,aN a+k,none⟩=some (.slice r H d1)/\V.cell? ⟨ablk a',aN a'+k,none⟩=some (.slice z D d2)) (exact ⟨c1,c2⟩)
      (first|(go_at_call 19;((with_reducible refine K.out.mono ?_);rintro e w4 ⟨rfl,j,rfl⟩)))
     go_wp2_with fail
     go_roundw
     case rel=>exact ⟨k+1,by omega,by go_num,S,hd.drewN (1+j)⟩
     case measure=>simp [intOf]<;>omega
    ·have Z:decide (aj l k=aj Y k)=false:=by simpa using he
     have S:Hid (decide (l=Y)=false):=by show _=_;simp;intro e;exact he (by rw [e])
     rw [Z] at K
     clear he Z
     go_wp2_with fail
     go_region_held3 (λV=>V.cell? ⟨ablk a,aN a+k,none⟩=some (.slice r H d1)/\V.cell? ⟨ablk a',aN a'+k,none⟩=some (.slice z D d2)) (exact ⟨c1,c2⟩)
      (first|(go_at_call 19;((with_reducible refine K.out.mono ?_);rintro e w4 ⟨rfl,j,rfl⟩)))
     go_wp2_with fail
     go_ret
     exact ⟨ba S.symm,hd.drewN (1+j)⟩
   ·obtain rfl:k=n:=by omega
    have S:Hid (decide (l=Y)=true):=by show _=_;have:=L.out;rw [Nj (by rw [E.out];exact M4 _),Nj (by rw [Q.out];exact M4 _)] at this;simpa using this
    go_wp2_with fail
    go_ret
    exact ⟨ba S.symm,hd⟩
 ·have C:((n:Int) != I)=true:=by simp;omega
  have S:Hid (decide (l=Y)=false):=by show _=_;simp;intro e;have e1:=E.out;have e2:=Q.out;rw [e] at e1;omega
  clear hn;go_enter func44,ntmps44;go_wp2_with fail;go_ret;exact ⟨ba S.symm,Sa _⟩
theorem yd (P M:Int) (am:OA) (Q N:Nat) (a:OA) (n c:Nat) (l:Lz) (w:ej) (hi:Ints w a n l) :
  Calls prog 87 #[.agg #[cG P,cG M,.slice am Q N],.slice a n c] w λe w'=>e = .returned (cG (lJ (aO P M) l))/\SJ w w':=by
 have S:=Z5 hi.len;have hpl:=hi.pl;have E:=hi.max;unfold maxLen at E;go_enter func87,ntmps87;go_wp2_with fail;obtain ⟨W,r⟩:∃W:ej,W=w.alloc (.cells #[cG P,cG M,.slice am Q N] 24):=⟨_,rfl⟩
 rw [<- r];have H:SJ w W:=by rw [r];exact aD _ _
 have x0:aQ W w.heap.size [cG P,cG M,.slice am Q N]:=by rw [r];exact RV _ _ _ rfl
 have hiW:=hi.ai H;have hS:∀k,k<n->∀V,SJ W V->V.cell? ⟨w.heap.size,0,none⟩=some (cG P)/\V.cell? ⟨w.heap.size,1,none⟩=some (cG M)/\V.cell? ⟨w.heap.size,2,none⟩=some (.slice am Q N)/\V.cell? ⟨ablk a,aN a+k,none⟩=some (cG (nth l k))/\SJ W V:=by intro k hk V hV;have x1:=x0.ai hV;exact ⟨x1.cell 0 rfl,x1.cell 1 rfl,x1.cell 2 rfl,(hiW.ai hV).cell k hk,hV⟩
 have HS:=Z5 hS;clear r x0 hS;go_loopw [5] (λiv wr=>∃k:Nat,k<=n/\iv = cG k/\Hid ((l.take k).all (jx (aO P M))=true)/\SJ W wr) (λiv _=>n - (intOf iv).toNat);case atStart=>exact ⟨0,Nb _,rfl,by show _=_;simp,M5 _ _⟩
 case round =>
  obtain ⟨k,hk,rfl,L,K⟩:=hrel
  by_cases z:k<n
  ·have A:Hid (∀V,SJ W V->V.cell? ⟨w.heap.size,0,none⟩=some (cG P)/\V.cell? ⟨w.heap.size,1,none⟩=some (cG M)/\V.cell? ⟨w.heap.size,2,none⟩=some (.slice am Q N)/\V.cell? ⟨ablk a,aN a+k,none⟩=some (cG (nth l k))/\SJ W V):=HS k z
   have U:k<l.length:=by rw [S.out];exact z
   have Z:=Z5 K
   have j:=Z5 (DR P M am Q N (nth l k))
   clear K
   by_cases C:jx (aO P M) (nth l k)=true
   ·have D:Hid ((l.take (k+1)).all (jx (aO P M))=true):=dE U L.out (by rw [<- an U];exact C)
    rw [C] at j
    clear C
    go_wp2_with fail
    go_region_held3 (λV=>V.cell? ⟨w.heap.size,0,none⟩=some (cG P)/\V.cell? ⟨w.heap.size,1,none⟩=some (cG M)/\V.cell? ⟨w.heap.size,2,none⟩=some (.slice am Q N)/\V.cell? ⟨ablk a,aN a+k,none⟩=some (cG (nth l k))/\SJ W V)
     ((refine A _ ?_;first|exact Z.drew|exact RU Z.drew Y))
     (first|(go_at_call 141;((with_reducible refine (j.out _).mono ?_);rintro e w4 ⟨rfl,Y⟩)))
    go_wp2_with fail
    go_roundw
    case rel=>exact ⟨k+1,by omega,by go_num,D,RU Z.drew Y⟩
    case measure=>simp [intOf]<;>omega
   ·have I:jx (aO P M) (nth l k)=false:=by simpa using C
    have D:Hid (lJ (aO P M) l=2):=by show _=_;rw [lJ,fC,dD U (by rw [<- an U];exact I)];rfl
    rw [I] at j
    clear C I
    go_wp2_with fail
    go_region_held3 (λV=>V.cell? ⟨w.heap.size,0,none⟩=some (cG P)/\V.cell? ⟨w.heap.size,1,none⟩=some (cG M)/\V.cell? ⟨w.heap.size,2,none⟩=some (.slice am Q N)/\V.cell? ⟨ablk a,aN a+k,none⟩=some (cG (nth l k))/\SJ W V)
     ((refine A _ ?_;first|exact Z.drew|exact RU Z.drew Y))
     (first|(go_at_call 141;((with_reducible refine (j.out _).mono ?_);rintro e w4 ⟨rfl,Y⟩)))
    go_wp2_with fail
    go_ret
    exact ⟨aK D.symm,RU H (RU Z.drew Y)⟩
  ·obtain rfl:k=n:=by omega
   have D:Hid (lJ (aO P M) l=0):=by have:=L.out;rw [Nj (by rw [S.out];exact M4 _)] at this;show _=_;rw [lJ,fC,this];rfl
   go_wp2_with fail
   go_ret
   exact ⟨aK D.symm,RU H K⟩
def R0:=@Vc.at
def Sq:=@bJ.own
def Ss:=@aS.push
def SB:=@aS.empty
def SD:=@Vc.redTo
def SF:=@bH.own
end Go.Proofs.YthglbncgemdcbaaGreat
