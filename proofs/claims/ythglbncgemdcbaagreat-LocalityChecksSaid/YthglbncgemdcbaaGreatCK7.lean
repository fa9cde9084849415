import Derived.Test.YthglbncgemdcbaaGreatCK6
import Derived.Laws.Bits64
import Derived.Laws.Bits64b
namespace Go.Proofs.YthglbncgemdcbaaGreat
set_option linter.all false
set_option maxRecDepth 100000
set_option maxHeartbeats 8000000
open Go.RowKit Go.Proofs.Tryz
section
variable {w : World} {b : Nat} {G : cX}
@[go_sem high] theorem run_slice_h0 {P : Program} (w : World) (t : TypeId) (a : OA) (len cap : Nat) (Y : P.underlying t=some (.slice (P.elem t))) (Z : IntKind) (h : Int) (h0 : 0<=h) (h2 : h<=cap) :
  (Instr.slice t (.slice a len cap) none (some (.int Z h)) none).run P w=((sizeOf (P.elem t)).run P w).andThen λ_ w=>.ok (.slice a h.toNat cap) w:=by rw [run_slice_h w t a len cap Y Z h h0 h2];congr 1;funext s w;congr 1;simp only [sliced,Nat.zero_mul,Addr.add,if_true,Nat.sub_zero,NW,ite_self]
@[go_sem high] theorem run_slice_hm0 {P : Program} (w : World) (t : TypeId) (a : OA) (len cap : Nat) (U : P.underlying t=some (.slice (P.elem t))) (Z Y : IntKind) (h m : Int) (h0 : 0<=h) (h2 : h<=m) (h3 : m<=cap) :
  (Instr.slice t (.slice a len cap) none (some (.int Z h)) (some (.int Y m))).run P w=((sizeOf (P.elem t)).run P w).andThen λ_ w=>.ok (.slice a h.toNat m.toNat) w:=by rw [run_slice_hm w t a len cap U Z Y h m h0 h2 h3];congr 1;funext s w;congr 1;simp only [sliced,Nat.zero_mul,Addr.add,if_true,Nat.sub_zero,NW,ite_self]
theorem C3 {L : Ll} {k i : Nat} (h : i<k) : ai (L.take k) i=ai L i:=by simp only [ai,JS,K0,JT h]
structure bJ (B : Nat) (w : World) (a : OA) (n : Nat) (l : LI) : Prop where
 ints : Ints w a n l
 lo : 0<n->B<=ablk a
structure b8 (B : Nat) (w : World) (a : OA) (n : Nat) (l : Ll) : Prop where
 len : l.length=n
 pl : Pl a n
 max : n<=maxLen
 lo : 0<n->B<=ablk a
 cell : ∀i,i<n->∃b m c,w.cell? ⟨ablk a,aL a+i,none⟩=some (.slice b m c)/\bJ B w b m (ai l i)
theorem bJ.mono {B B' : Nat} {w : World} {a : OA} {n : Nat} {l : LI} (h : bJ B w a n l) (Y : B'<=B) : bJ B' w a n l:=⟨h.ints,λZ=>J4 Y (h.lo Z)⟩
theorem b8.mono {B B' : Nat} {w : World} {a : OA} {n : Nat} {l : Ll} (h : b8 B w a n l) (Z : B'<=B) : b8 B' w a n l :=
 ⟨h.len,h.pl,h.max,λY=>J4 Z (h.lo Y),λi hi=>by obtain ⟨b,m,c,h1,h2⟩:=h.cell i hi;exact ⟨b,m,c,h1,h2.mono Z⟩⟩
theorem b8.je {B : Nat} {w : World} {a : OA} {n : Nat} {l : Ll} (h : b8 B w a n l) : bu w a n l :=
 ⟨h.len,h.pl,h.max,λi hi=>by obtain ⟨b,m,c,h1,h2⟩:=h.cell i hi;exact ⟨b,m,c,h1,h2.ints⟩⟩
theorem bJ.bj {B : Nat} {w V : World} {a : OA} {n : Nat} {l : LI} (h : bJ B w a n l) (hb : ∀b,B<=b->b<w.heap.size->V.heap[b]? = w.heap[b]?) : bJ B V a n l :=
 ⟨h.ints.of_block λZ=>hb _ (h.lo Z) (h.ints.lt Z),h.lo⟩
theorem b8.bj {B : Nat} {w V : World} {a : OA} {n : Nat} {l : Ll} (h : b8 B w a n l) (hb : ∀b,B<=b->b<w.heap.size->V.heap[b]? = w.heap[b]?) : b8 B V a n l:=by refine ⟨h.len,h.pl,h.max,h.lo,λi hi=>?_⟩;obtain ⟨b,m,c,h1,h2⟩:=h.cell i hi;exact ⟨b,m,c,(Kj (w:=w) (a:=⟨ablk a,aL a+i,none⟩) (hb _ (h.lo (by omega)) (J2 w _ h1))).trans h1,h2.bj hb⟩
theorem bJ.af {B : Nat} {w V : World} {a : OA} {n : Nat} {l : LI} (h : bJ B w a n l) (hb : OC w V) : bJ B V a n l:=h.bj λb _ h2=>hb.block b h2
theorem b8.af {B : Nat} {w V : World} {a : OA} {n : Nat} {l : Ll} (h : b8 B w a n l) (hb : OC w V) : b8 B V a n l:=h.bj λb _ h2=>hb.block b h2
theorem bJ.setCell {B : Nat} {w : World} {a : OA} {n : Nat} {l : LI} (h : bJ B w a n l) {p : Addr} (Z : p.block<B) (v : Value) : bJ B (w.setCell p v) a n l :=
 h.bj λb h1 _=>J6 _ _ _ _ (by omega)
theorem b8.setCell {B : Nat} {w : World} {a : OA} {n : Nat} {l : Ll} (h : b8 B w a n l) {p : Addr} (Z : p.block<B) (v : Value) : b8 B (w.setCell p v) a n l :=
 h.bj λb h1 _=>J6 _ _ _ _ (by omega)
theorem bJ.own {w : World} {B : Nat} {e : TypeId} {a : OA} {c n : Nat} {l : LI} (h : w.ownsRow B e 1 (.slice a n c) n (l.map (Value.int .i64))) : bJ B w a n l :=
 ⟨(NZ h).1,λZ=>(bK h 0 Z).2.2.1⟩
theorem b8.own {w : World} {B : Nat} {a : OA} {n c : Nat} {R : LA} {L : Ll} (h : aT w B a n c R L) : b8 B w a n L :=
 ⟨h.ll,h.pl,h.max,λZ=>(dT h.own Z).1,λ_ hi=>⟨_,_,_,h.cell hi,bJ.own (h.row _ hi)⟩⟩
theorem b8.take {B : Nat} {w : World} {a : OA} {n : Nat} {L : Ll} (h : b8 B w a n L) {k : Nat} (Z : k<=n) : b8 B w a k (L.take k):=by refine ⟨by rw [Ki,h.len];omega,λh0=>h.pl (by omega),J4 Z h.max,λh0=>h.lo (by omega),λi hi=>?_⟩;rw [C3 hi];exact h.cell i (by omega)
def bU (G : cX) (L : Ll) (m : Nat) : Ll:=(aC G.ops L m).1.take (aC G.ops L m).2.length
def bh (G : cX) (L : Ll) (m : Nat) : LI:=(aC G.ops L m).2
theorem dF (G : cX) (L : Ll) (m : Nat) : (bU G L m).length=(bh G L m).length:=by have h1:=dX G.ops L m;have h2:=bL G.ops L m;unfold bU bh;rw [Ki];omega
def rV (G : cX) (L : Ll) (m : Nat) (w : World) (e : Ending) (w' : World) : Prop :=
 ∃a ap cp,e = .returned (.tuple #[.slice a (bh G L m).length (bh G L m).length,.slice ap (bh G L m).length cp])/\b8 w.heap.size w' a (bh G L m).length (bU G L m)/\bJ w.heap.size w' ap (bh G L m).length (bh G L m)/\OC w w'
def Ce (G : cX) (L : Ll) (m : Nat) (w : World) (e : Ending) (w' : World) : Prop :=
 ∃a c ap cp,e = .returned (.tuple #[.slice a (bh G L m).length c,.slice ap (bh G L m).length cp])/\b8 w.heap.size w' a (bh G L m).length (bU G L m)/\bJ w.heap.size w' ap (bh G L m).length (bh G L m)/\OC w w'
theorem rW (a : OA) (n c m : Nat) (L : Ll) (h : ee w b G) (hi : bu w a n L) (A : bs G.El m L) (hm : m<=1000000) (z : n<=1000000) :
  Calls prog 177 #[.pointer (some ⟨b,0,none⟩),.slice a n c,.int .i64 m] w (rV G L m w):=by
 have U:=Z5 hi.len;have HR:=Z5 A;have Q : ∀l ∈ L,l.length<=1000000:=λl r=>by rw [(A l r).1];exact hm
 have C:=Z5 Q;clear Q A;go_enter func177,ntmps177;go_wp2_with fail;refine (Ct a n c L hi z C.out).mono ?_;rintro e w1 ⟨a1,c1,j,rfl,D,N⟩;go_wp2_with fail;refine (sj w a1 L.length c1 m m j L h N D HR.out (JO _) hm (by rw [U.out];exact z)).mono ?_;rintro e w2 ⟨R2,ap,cp,d,rfl,S,K,hM2,E⟩;have Y:=dX G.ops L m;have Z:=lh S.own;have H:=(bJ.own K).mono N.size;have I:=(b8.own S).take (k:=(aC G.ops L m).2.length) Y.2;have hF : rV G L m w (.returned (.tuple #[.slice a1 (aC G.ops L m).2.length (aC G.ops L m).2.length,.slice ap (aC G.ops L m).2.length cp])) w2:=⟨a1,ap,cp,rfl,I,H,E⟩
 have HF:=Z5 hF;have hle : (aC G.ops L m).2.length<=c1:=J4 Y.2 Z;clear hF H I K Z Y;generalize (aC G.ops L m).2.length=k at *;go_wp2_with fail;go_ret2;simpa using HF.out
theorem tJ (a : OA) (n c m : Nat) (L : Ll) (h : ee w b G) (hi : bu w a n L) (Y : bs G.El m L) (hm : m<=1000000) (Z : n<=1000000) :
  Calls prog 177 #[.pointer (some ⟨b,0,none⟩),.slice a n c,.int .i64 m] w (Ce G L m w) :=
 (rW a n c m L h hi Y hm Z).mono λ_ _ ⟨a1,ap,cp,h1⟩=>⟨a1,_,ap,cp,h1⟩
end
def dy (P M : Int) (mod : LI) (Z : Int) (L : Ll) : Int :=
 if bq P M mod=true then fh (ah P M.toNat mod).q Z L else 1
def tg (P M : Int) (mod : LI) (Z : Int) (L : Ll) (w : World) (e : Ending) (w' : World) : Prop :=
 OC w w'/\(
 (dy P M mod Z L ≠ 0/\e = .returned (.tuple #[.agg #[.int .i64 0,.slice none 0 0],.slice none 0 0,.int .i64 (dy P M mod Z L)])) \/
 (dy P M mod Z L=0/\∃m : Nat,Z=m/\∃a ap cp,e = .returned (.tuple #[.agg #[.int .i64 m,.slice a (bh (ah P M.toNat mod) L m).length (bh (ah P M.toNat mod) L m).length],.slice ap (bh (ah P M.toNat mod) L m).length cp,.int .i64 0]) /\
  b8 w.heap.size w' a (bh (ah P M.toNat mod) L m).length (bU (ah P M.toNat mod) L m)/\bJ w.heap.size w' ap (bh (ah P M.toNat mod) L m).length (bh (ah P M.toNat mod) L m)))
def DQ (P M : Int) (mod : LI) (Z : Int) (L : Ll) (w : World) (e : Ending) (w' : World) : Prop :=
 OC w w'/\(
 (dy P M mod Z L ≠ 0/\e = .returned (.tuple #[.agg #[.int .i64 0,.slice none 0 0],.slice none 0 0,.int .i64 (dy P M mod Z L)])) \/
 (dy P M mod Z L=0/\∃m : Nat,Z=m/\∃a c ap cp,e = .returned (.tuple #[.agg #[.int .i64 m,.slice a (bh (ah P M.toNat mod) L m).length c],.slice ap (bh (ah P M.toNat mod) L m).length cp,.int .i64 0]) /\
  b8 w.heap.size w' a (bh (ah P M.toNat mod) L m).length (bU (ah P M.toNat mod) L m)/\bJ w.heap.size w' ap (bh (ah P M.toNat mod) L m).length (bh (ah P M.toNat mod) L m)))
theorem lG {q Z : Int} {L : Ll} (h : fh q Z L=0) : ∃m : Nat,Z=m/\m<=256/\L.length<=256/\bs (λx=>0<=x/\x<q) m L:=by
 unfold fh at h;split at h
 ·omega
 ·rename_i h1;split at h
  ·omega
  ·rename_i h2;split at h
   ·rename_i h3;refine ⟨Z.toNat,by omega,by omega,by omega,λr S=>?_⟩;have Y : iM Z L=true:=by simpa using h2
    unfold iM at Y;rw [Ky] at Y h3;have Q:=Y r S;have U:=h3 r S;unfold ez gV at U;rw [Ky] at U;refine ⟨by simp at Q;omega,λx K=>?_⟩;have N:=U x K;simpa using N
   ·omega
theorem oF {q Z : Int} {L : Ll} : matsE q [(Z,L)]=fh q Z L:=by
 simp only [matsE];split
 ·rename_i h;exact h.symm
 ·rfl
theorem iU (P M : Int) (am : OA) (mn cm : Nat) (mod : LI) (Z : Int) (a : OA) (n c : Nat) (L : Ll) (w : World) (A : Ints w am mn mod) (hi : bu w a n L) :
  Calls prog 118 #[.agg #[.int .i64 P,.int .i64 M,.slice am mn cm],.agg #[.int .i64 Z,.slice a n c]] w (tg P M mod Z L w):=by
 have C:=Z5 hi.len;go_enter func118,ntmps118;go_wp2_with fail;obtain ⟨W,N⟩ : ∃W : World,W=((((w.alloc (.cells #[.int .i64 P,.int .i64 M,.slice am mn cm] 24)).alloc (.cells #[.int .i64 Z,.slice a n c] 94)).alloc (.cells #[.int .i64 0,.slice none 0 0] 94)).alloc (.cells #[.int .i64 Z,.slice a n c] 94)):=⟨_,rfl⟩
 rw [<- N];have Q : OC w W:=by rw [N];exact ((((JP _ _).alloc (JO _) _).alloc (by simp) _).alloc (by simp;omega) _).alloc (by simp;omega) _
 have hsW : W.heap.size=w.heap.size+4:=by rw [N];simp
 have q1 : W.cell? ⟨w.heap.size+1,0,none⟩=some (.int .i64 Z)/\W.cell? ⟨w.heap.size+1,1,none⟩=some (.slice a n c):=by rw [N];exact ⟨br (br (aF _ _ _ (by simp) 0) _) _,br (br (aF _ _ _ (by simp) 1) _) _⟩
 have q2 : W.cell? ⟨w.heap.size+1+1,0,none⟩=some (.int .i64 0)/\W.cell? ⟨w.heap.size+1+1,1,none⟩=some (.slice none 0 0)/\W.frozen? ⟨w.heap.size+1+1,0,none⟩=false/\W.frozen? ⟨w.heap.size+1+1,1,none⟩=false:=by rw [N];exact ⟨br (aF _ _ _ (by simp) 0) _,br (aF _ _ _ (by simp) 1) _,ed (by simp) (fB _ _ _ (by simp) 0) _,ed (by simp) (fB _ _ _ (by simp) 1) _⟩
 have q3 : W.cell? ⟨w.heap.size+1+1+1,0,none⟩=some (.int .i64 Z)/\W.cell? ⟨w.heap.size+1+1+1,1,none⟩=some (.slice a n c):=by rw [N];exact ⟨aF _ _ _ (by simp) 0,aF _ _ _ (by simp) 1⟩
 have hiW:=hi.af Q;have hMs : CY W (some ⟨w.heap.size+1+1+1,0,none⟩) 1 [(Z,L)]:=⟨rfl,λ_=>rfl,by unfold maxLen;omega,λi hi=>by
  have : i=0:=by simp at hi;omega
  subst this;exact ⟨a,n,c,by simpa using q3.1,by simpa using q3.2,hiW⟩⟩
 have HsW:=Z5 hsW;clear N hsW;refine (wK P M am mn cm mod _ 1 1 _ W (A.af Q) hMs).mono ?_;rintro e w1 ⟨Y,K⟩;have U:=NX Q Y;have hq : ∀V,OC W V->V.cell? ⟨w.heap.size+1,0,none⟩=some (.int .i64 Z)/\V.cell? ⟨w.heap.size+1,1,none⟩=some (.slice a n c)/\V.cell? ⟨w.heap.size+1+1,0,none⟩=some (.int .i64 0)/\V.cell? ⟨w.heap.size+1+1,1,none⟩=some (.slice none 0 0)/\V.frozen? ⟨w.heap.size+1+1,0,none⟩=false/\V.frozen? ⟨w.heap.size+1+1,1,none⟩=false:=by intro V E;have hs:=HsW.out;exact ⟨aB E q1.1,aB E q1.2,aB E q2.1,aB E q2.2.1,(E.frozen (p:=⟨w.heap.size+1+1,0,none⟩) (by simp [hs])).trans q2.2.2.1,(E.frozen (p:=⟨w.heap.size+1+1,1,none⟩) (by simp [hs])).trans q2.2.2.2⟩
 have Hq:=Z5 hq;clear hq q1 q2 q3;rcases K with ⟨S,rfl⟩ | ⟨S,er,h0,h1,rfl⟩ | ⟨S,h1,b,rfl,hG,hbl⟩
 ·obtain ⟨r1,r2,D,H,r5,r6⟩:=Hq.out w1 Y;have I : Hid (dy P M mod Z L=1):=by show _=_;rw [dy,S];rfl
  clear S;go_wp2_with fail;refine bodyPost_ret (v:=.tuple #[.agg #[.int .i64 0,.slice none 0 0],.slice none 0 0,.int .i64 1]) (by simp [results,results118,go_sem,D,H]) rfl ⟨(U.setCell (by simp;omega) _).setCell (by simp;omega) _,.inl ⟨by rw [I.out];omega,by rw [I.out]⟩⟩
 ·obtain ⟨r1,r2,D,H,r5,r6⟩:=Hq.out w1 Y;have I : Hid (dy P M mod Z L=er):=by show _=_;rw [dy,S,JT rfl,<- h1,oF]
  have He : Hid (er ≠ 0):=h0;have he' : (er != 0)=true:=by simpa using h0
  clear S h0 h1;go_wp2_with fail;refine bodyPost_ret (v:=.tuple #[.agg #[.int .i64 0,.slice none 0 0],.slice none 0 0,.int .i64 er]) (by simp [results,results118,go_sem,D,H]) rfl ⟨(U.setCell (by simp;omega) _).setCell (by simp;omega) _,.inl ⟨by rw [I.out];exact He.out,by rw [I.out]⟩⟩
 ·obtain ⟨r1,r2,D,H,r5,r6⟩:=Hq.out w1 Y;rw [oF] at h1;obtain ⟨m,rfl,hm,hn,hR⟩:=lG h1;have I : Hid (dy P M mod m L=0):=by show _=_;rw [dy,S,JT rfl,h1]
  clear S h1;go_wp2_with fail;refine (rW a n c m L hG (hiW.af Y) hR (by omega) (by rw [<- C.out];omega)).mono ?_;rintro e w2 ⟨a2,ap,cp,rfl,r,j,hb2⟩;have z:=NX U hb2;obtain ⟨r1,r2,D,H,r5,r6⟩:=Hq.out w2 (NX Y hb2);have hF : tg P M mod m L w (.returned (.tuple #[.agg #[.int .i64 m,.slice a2 (bh (ah P M.toNat mod) L m).length (bh (ah P M.toNat mod) L m).length],.slice ap (bh (ah P M.toNat mod) L m).length cp,.int .i64 0])) ((w2.setCell ⟨w.heap.size+1+1,0,none⟩ (.int .i64 m)).setCell ⟨w.heap.size+1+1,1,none⟩ (.slice a2 (bh (ah P M.toNat mod) L m).length (bh (ah P M.toNat mod) L m).length)):=by
   have hs:=HsW.out;have hs1:=Y.size;refine ⟨(z.setCell (by simp;omega) _).setCell (by simp;omega) _,.inr ⟨I.out,m,rfl,a2,ap,cp,rfl,?_,?_⟩⟩
   ·exact ((r.setCell (p:=⟨w.heap.size+1+1,0,none⟩) (by simp;omega) _).setCell (p:=⟨w.heap.size+1+1,1,none⟩) (by simp;omega) _).mono (by omega)
   ·exact ((j.setCell (p:=⟨w.heap.size+1+1,0,none⟩) (by simp;omega) _).setCell (p:=⟨w.heap.size+1+1,1,none⟩) (by simp;omega) _).mono (by omega)
  have HF:=Z5 hF;clear hF r j;generalize (bh (ah P M.toNat mod) L m).length=k at *;go_wp2_with fail;exact bodyPost_ret (v:=.tuple #[.agg #[.int .i64 m,.slice a2 k k],.slice ap k cp,.int .i64 0]) (by simp [results,results118,go_sem,D,H]) rfl HF.out
theorem lR (P M : Int) (am : OA) (U cm : Nat) (mod : LI) (Z : Int) (a : OA) (n c : Nat) (L : Ll) (w : World) (Y : Ints w am U mod) (hi : bu w a n L) :
  Calls prog 118 #[.agg #[.int .i64 P,.int .i64 M,.slice am U cm],.agg #[.int .i64 Z,.slice a n c]] w (DQ P M mod Z L w) :=
 (iU P M am U cm mod Z a n c L w Y hi).mono λ_ _ ⟨hb,h⟩=>⟨hb,h.imp id λ⟨h0,m,h1,a1,ap,cp,h2⟩=>⟨h0,m,h1,a1,_,ap,cp,h2⟩⟩
section
theorem oR {l Z : LI} {k : Nat} (h : l.take k=Z.take k) (h1 : k<l.length) (h2 : k<Z.length) (he : nth l k=nth Z k) : l.take (k+1)=Z.take (k+1):=by rw [JW h1,JW h2,h,<- aj h1,<- aj h2,he]
theorem my {l Z : Ll} {k : Nat} (h : l.take k=Z.take k) (h1 : k<l.length) (h2 : k<Z.length) (he : ai l k=ai Z k) : l.take (k+1)=Z.take (k+1):=by rw [JW h1,JW h2,h,<- aE h1,<- aE h2,he]
variable {w : World}
theorem CA (a : OA) (n c : Nat) (l : LI) (a' : OA) (L z : Nat) (Z : LI) (h : Ints w a n l) (I : Ints w a' L Z) :
  Calls prog 240 #[.slice a n c,.slice a' L z] w (iG w (decide (l=Z))):=by
 have H:=Z5 h.len;have U:=Z5 I.len;have r:=h.pl;have D:=I.pl;have Q:=h.max;unfold maxLen at Q;by_cases C : n=L
 ·subst C;have K : ((n : Int) != n)=false:=by simp
  go_enter func240,ntmps240;go_wp2_with fail;go_loopw [13] (λA wr=>∃k : Nat,k<=n/\A = .int .i64 k/\Hid (l.take k=Z.take k)/\bm w wr) (λi _=>n - (intOf i).toNat);case atStart=>exact ⟨0,JU _,rfl,rfl,N4 _⟩
  case round =>
   obtain ⟨k,j,rfl,N,hd⟩:=hrel
   by_cases Y : k<n
   ·have c1:=(h.drawn hd).cell k Y
    have c2:=(I.drawn hd).cell k Y
    by_cases he : nth l k=nth Z k
    ·have E : (nth l k != nth Z k)=false:=by simpa using he
     have S : Hid (l.take (k+1)=Z.take (k+1)):=oR N.out (by rw [H.out];exact Y) (by rw [U.out];exact Y) he
     clear he
     go_wp2_with fail
     go_quiet (fail)
     go_wp2
     go_roundw
     case rel=>exact ⟨k+1,by omega,by go_num,S.out,hd.drewN _⟩
     case measure=>simp [intOf] <;> omega
    ·have E : (nth l k != nth Z k)=true:=by simpa using he
     have S : Hid (decide (l=Z)=false):=by show _=_;simp;intro e;exact he (by rw [e])
     clear he
     go_wp2_with fail
     go_quiet (fail)
     go_wp2
     go_ret
     exact ⟨aU S.out.symm,hd.drewN _⟩
   ·obtain rfl : k=n:=by omega
    have S : Hid (decide (l=Z)=true):=by show _=_;have:=N.out;rw [JX (by rw [H.out];exact JO _),JX (by rw [U.out];exact JO _)] at this;simpa using this
    go_wp2_with fail
    go_ret
    exact ⟨aU S.out.symm,hd⟩
 ·have K : ((n : Int) != L)=true:=by simp;omega
  have S : Hid (decide (l=Z)=false):=by show _=_;simp;intro e;have e1:=H.out;have e2:=U.out;rw [e] at e1;omega
  clear C;go_enter func240,ntmps240;go_wp2_with fail;go_ret;exact ⟨aU S.out.symm,N4 _⟩
theorem se (a : OA) (n c : Nat) (l : Ll) (a' : OA) (I c' : Nat) (Y : Ll) (h : bu w a n l) (E : bu w a' I Y) :
  Calls prog 239 #[.slice a n c,.slice a' I c',.func (.func 240) #[] #[]] w (iG w (decide (l=Y))):=by
 have D:=Z5 h.len;have S:=Z5 E.len;have hpl:=h.pl;have C:=E.pl;have N:=h.max;unfold maxLen at N;by_cases A : n=I
 ·subst A;have H : ((n : Int) != n)=false:=by simp
  go_enter func239,ntmps239;go_wp2_with fail;go_loopw [17] (λj wr=>∃k : Nat,k<=n/\j = .int .i64 k/\Hid (l.take k=Y.take k)/\bm w wr) (λi _=>n - (intOf i).toNat);case atStart=>exact ⟨0,JU _,rfl,rfl,N4 _⟩
  case round =>
   obtain ⟨k,hk,rfl,L,hd⟩:=hrel
   by_cases U : k<n
   ·obtain ⟨b1,n1,d1,c1,r⟩:=(h.drawn hd).cell k U
    obtain ⟨b2,n2,d2,c2,z⟩:=(E.drawn hd).cell k U
    go_wp2_with fail
    refine (CA _ _ _ _ _ _ _ _ r z).mono ?_
    rintro e w2 ⟨rfl,K⟩
    by_cases he : ai l k=ai Y k
    ·have Z : decide (ai l k=ai Y k)=true:=by simpa using he
     have Q : Hid (l.take (k+1)=Y.take (k+1)):=my L.out (by rw [D.out];exact U) (by rw [S.out];exact U) he
     rw [Z]
     clear he Z
     go_wp2_with fail
     go_roundw
     case rel=>exact ⟨k+1,by omega,by go_num,Q.out,hd.trans K⟩
     case measure=>simp [intOf] <;> omega
    ·have Z : decide (ai l k=ai Y k)=false:=by simpa using he
     have Q : Hid (decide (l=Y)=false):=by show _=_;simp;intro e;exact he (by rw [e])
     rw [Z]
     clear he Z
     go_wp2_with fail
     go_ret
     exact ⟨aU Q.out.symm,hd.trans K⟩
   ·obtain rfl : k=n:=by omega
    have Q : Hid (decide (l=Y)=true):=by show _=_;have:=L.out;rw [JX (by rw [D.out];exact JO _),JX (by rw [S.out];exact JO _)] at this;simpa using this
    go_wp2_with fail
    go_ret
    exact ⟨aU Q.out.symm,hd⟩
 ·have H : ((n : Int) != I)=true:=by simp;omega
  have Q : Hid (decide (l=Y)=false):=by show _=_;simp;intro e;have e1:=D.out;have e2:=S.out;rw [e] at e1;omega
  clear A;go_enter func239,ntmps239;go_wp2_with fail;go_ret;exact ⟨aU Q.out.symm,N4 _⟩
end
def du (P M : Int) (mod : LI) (Z : Int) (L : Ll) : Int :=
 if dy P M mod Z L=0 then (if bU (ah P M.toNat mod) L Z.toNat=L then 0 else 5) else dy P M mod Z L
def tH (P M : Int) (mod : LI) (Z : Int) (a : OA) (n c : Nat) (L : Ll) (w : World) (e : Ending) (w' : World) : Prop :=
 OC w w'/\(
 (du P M mod Z L ≠ 0/\e = .returned (.tuple #[.agg #[.pointer none,.int .i64 0,.slice none 0 0,.slice none 0 0],.int .i64 (du P M mod Z L)])) \/
 (du P M mod Z L=0/\∃(m b : Nat),Z=m/\∃ap cp,e = .returned (.tuple #[.agg #[.pointer (some ⟨b,0,none⟩),.int .i64 m,.slice a n c,.slice ap (bh (ah P M.toNat mod) L m).length cp],.int .i64 0]) /\
  xG w.heap.size w' b (ah P M.toNat mod)/\w.heap.size<=b/\bJ w.heap.size w' ap (bh (ah P M.toNat mod) L m).length (bh (ah P M.toNat mod) L m)))
theorem jl (P M : Int) (am : OA) (mn cm : Nat) (mod : LI) (Y : Int) (a : OA) (n c : Nat) (L : Ll) (w : World) (hmod : Ints w am mn mod) (hi : bu w a n L) :
  Calls prog 190 #[.agg #[.int .i64 P,.int .i64 M,.slice am mn cm],.agg #[.int .i64 Y,.slice a n c]] w (tH P M mod Y a n c L w):=by
 have Hlen:=Z5 hi.len;go_enter func190,ntmps190;go_wp2_with fail;obtain ⟨W,D⟩ : ∃W : World,W=(((w.alloc (.cells #[.int .i64 P,.int .i64 M,.slice am mn cm] 24)).alloc (.cells #[.int .i64 Y,.slice a n c] 94)).alloc (.cells #[.pointer none,.int .i64 0,.slice none 0 0,.slice none 0 0] 210)):=⟨_,rfl⟩
 rw [<- D];have I : OC w W:=by rw [D];exact j8 _ _ _ _
 have hsW : W.heap.size=w.heap.size+3:=by rw [D];simp
 have E : aO W w.heap.size [.int .i64 P,.int .i64 M,.slice am mn cm]:=by rw [D];exact ((NY _ _ _ rfl).alloc _).alloc _
 have Q : aO W (w.heap.size+1) [.int .i64 Y,.slice a n c]:=by rw [D];exact (NY _ _ _ (by simp)).alloc _
 have Z : aO W (w.heap.size+1+1) [.pointer none,.int .i64 0,.slice none 0 0,.slice none 0 0]:=by rw [D];exact NY _ _ _ (by simp)
 have C:=Z5 (JZ E (JZ Q Z));have r:=Z5 hsW;have hiW:=hi.af I;have hmW:=hmod.af I;clear D hsW E Q Z;refine (lR P M am mn cm mod Y a n c L W hmW hiW).mono ?_;rintro e w1 ⟨U,⟨he,rfl⟩ | ⟨he,m,rfl,a2,c2,ap,cp,rfl,hM2,hp2⟩⟩
 ·have N:=NX I U;have z : Hid (du P M mod Y L=dy P M mod Y L):=by show _=_;rw [du,JR he]
  have HE:=Z5 he;have he' : (dy P M mod Y L != 0)=true:=by simpa using he
  clear he;generalize dy P M mod Y L=er at *;have Z:=C.out.2.2.af U;have f0:=Z.frozen 0;have f1:=Z.frozen 1;have f2:=Z.frozen 2;have f3:=Z.frozen 3;have k0:=Z.cell 0 rfl;have k1:=Z.cell 1 rfl;have k2:=Z.cell 2 rfl;have k3:=Z.cell 3 rfl;clear Z;have hz : w.heap.size+1+1<w1.heap.size:=by have:=U.size;have:=r.out;omega
  go_wp2_with fail;exact bodyPost_ret (v:=.tuple #[.agg #[.pointer none,.int .i64 0,.slice none 0 0,.slice none 0 0],.int .i64 er]) (by simp [results,results190,go_sem,k0,k1,k2,k3,hz]) rfl
   ⟨(((((N.setCell (by simp;omega) _).setCell (by simp;omega) _).setCell (by simp;omega) _).setCell (by simp;omega) _).alloc (by simp;omega) _),.inl ⟨by rw [z.out];exact HE.out,by rw [z.out]⟩⟩
 ·have N:=NX I U;have A : OC w1 (w1.alloc (.cells #[.int .i64 m,.slice a2 (bh (ah P M.toNat mod) L m).length c2] 94)):=an _ _;have hz : w.heap.size+1+1<w1.heap.size:=by have:=U.size;have:=r.out;omega
  have Q:=C.out.2.1.af U;have j0:=Q.cell 0 rfl;have j1:=Q.cell 1 rfl;have He:=Z5 he;have hz1 : w.heap.size+1<w1.heap.size:=by omega
  clear Q he;go_wp2_with fail;refine (se _ _ _ _ _ _ _ _ (hM2.je.af A) ((hiW.af U).af A)).mono ?_;rintro e w3 ⟨rfl,hd3⟩;have S : OC w1 w3:=NX A hd3.below;have H:=NX N S;have hz3 : w.heap.size+1+1<w3.heap.size:=Kl hz S.size;have E:=(C.out.1.af U).af S;have Q:=(C.out.2.1.af U).af S;have Z:=(C.out.2.2.af U).af S;by_cases j : bU (ah P M.toNat mod) L m=L
  ·have K : decide (bU (ah P M.toNat mod) L m=L)=true:=by simpa using j
   have z : Hid (du P M mod m L=0):=by show _=_;rw [du,JT He.out,JQ,JT j]
   rw [K];have hmW3:=(hmW.af U).af S;have i0:=E.cell 0 rfl;have i1:=E.cell 1 rfl;have i2:=E.cell 2 rfl;have hfb : bq P M mod=true:=by
    have:=He.out;unfold dy at this;split at this
    ·assumption
    ·omega
   have Hfb:=Z5 hfb;clear j K E Q hfb;go_wp2_with fail;refine (dB P M am mn cm mod w3 hmW3).mono ?_;rintro e w4 (⟨hB,rfl,hb4⟩ | ⟨hB,b,rfl,hG,hbl,hb4⟩)
   ·rw [Hfb.out] at hB;cases hB
   ·clear hB;have hbw4:=NX H hb4;have Q:=((C.out.2.1.af U).af S).af hb4;have Z:=((C.out.2.2.af U).af S).af hb4;have j0:=Q.cell 0 rfl;have j1:=Q.cell 1 rfl;have f0:=Z.frozen 0;have f1:=Z.frozen 1;have f2:=Z.frozen 2;have f3:=Z.frozen 3;have k0:=Z.cell 0 rfl;have k1:=Z.cell 1 rfl;have k2:=Z.cell 2 rfl;have k3:=Z.cell 3 rfl;have hp4:=(hp2.af S).af hb4;have hF : tH P M mod m a n c L w (.returned (.tuple #[.agg #[.pointer (some ⟨b,0,none⟩),.int .i64 m,.slice a n c,.slice ap (bh (ah P M.toNat mod) L m).length cp],.int .i64 0]))
      ((((w4.setCell ⟨w.heap.size+1+1,0,none⟩ (.pointer (some ⟨b,0,none⟩))).setCell ⟨w.heap.size+1+1,1,none⟩ (.int .i64 m)).setCell ⟨w.heap.size+1+1,2,none⟩ (.slice a n c)).setCell ⟨w.heap.size+1+1,3,none⟩ (.slice ap (bh (ah P M.toNat mod) L m).length cp)):=by
     have hs:=r.out;have hs3:=S.size;refine ⟨(((hbw4.setCell (by simp;omega) _).setCell (by simp;omega) _).setCell (by simp;omega) _).setCell (by simp;omega) _,.inr ⟨z.out,m,b,rfl,ap,cp,rfl,?_,?_,?_⟩⟩
     ·exact ((((hG.setCell (by simp;omega) _).setCell (by simp;omega) _).setCell (by simp;omega) _).setCell (by simp;omega) _).mono (by omega)
     ·omega
     ·exact ((((hp4.setCell (by simp;omega) _).setCell (by simp;omega) _).setCell (by simp;omega) _).setCell (by simp;omega) _).mono (by omega)
    have HF:=Z5 hF;clear hF hp4 hp2 Q Z;generalize (bh (ah P M.toNat mod) L m).length=k at *;go_wp2_with fail;exact bodyPost_ret (v:=.tuple #[.agg #[.pointer (some ⟨b,0,none⟩),.int .i64 m,.slice a n c,.slice ap k cp],.int .i64 0]) (by simp [results,results190,go_sem,k0,k1,k2,k3]) rfl HF.out
  ·have K : decide (bU (ah P M.toNat mod) L m=L)=false:=by simpa using j
   have z : Hid (du P M mod m L=5):=by show _=_;rw [du,JT He.out,JQ,JR j]
   rw [K];have f0:=Z.frozen 0;have f1:=Z.frozen 1;have f2:=Z.frozen 2;have f3:=Z.frozen 3;have k0:=Z.cell 0 rfl;have k1:=Z.cell 1 rfl;have k2:=Z.cell 2 rfl;have k3:=Z.cell 3 rfl;clear j K E Q Z;go_wp2_with fail;exact bodyPost_ret (v:=.tuple #[.agg #[.pointer none,.int .i64 0,.slice none 0 0,.slice none 0 0],.int .i64 5]) (by simp [results,results190,go_sem,k0,k1,k2,k3]) rfl
    ⟨(((H.setCell (by simp;omega) _).setCell (by simp;omega) _).setCell (by simp;omega) _).setCell (by simp;omega) _,.inl ⟨by rw [z.out];omega,by rw [z.out]⟩⟩
theorem rp (P M : Int) (am : OA) (S cm : Nat) (mod : LI) (Z : Int) (a : OA) (n c : Nat) (L : Ll) (w : World) (U : Ints w am S mod) (hi : bu w a n L) :
  Calls prog 143 #[.agg #[.int .i64 P,.int .i64 M,.slice am S cm],.agg #[.int .i64 Z,.slice a n c]] w λe w'=>e = .returned (.int .i64 (du P M mod Z L))/\OC w w':=by
 have N:=Z5 (bT w (.cells #[.int .i64 P,.int .i64 M,.slice am S cm] 24) (.cells #[.int .i64 Z,.slice a n c] 94));go_enter func143,ntmps143;go_wp2_with fail;have hb:=N.out;generalize (w.alloc (.cells #[.int .i64 P,.int .i64 M,.slice am S cm] 24)).alloc (.cells #[.int .i64 Z,.slice a n c] 94)=W at *;refine (jl P M am S cm mod Z a n c L W (U.af hb) (hi.af hb)).mono ?_;rintro e E ⟨Q,⟨he,rfl⟩ | ⟨he,m,b,rfl,ap,cp,rfl,D,I,H⟩⟩
 ·have Y:=NX hb Q;clear he;go_wp2_with fail;go_ret;exact ⟨rfl,Y.alloc Y.size _⟩
 ·have Y:=NX hb Q;have K:=Z5 he;clear he H;generalize (bh (ah P M.toNat mod) L m).length=k at *;go_wp2_with fail;go_ret;exact ⟨aK K.out.symm,Y.alloc Y.size _⟩
theorem mL (P M : Int) (am : OA) (Z cm : Nat) (N : Int) (a : OA) (n c : Nat) (w : World) :
  Calls prog 91 #[.agg #[.int .i64 P,.int .i64 M,.slice am Z cm,.int .i64 N,.slice a n c]] w λe w'=>e = .returned (.agg #[.int .i64 N,.slice a n c])/\OC w w':=by go_enter func91,ntmps91;go_wp2_with fail;exact bodyPost_ret (v:=.agg #[.int .i64 N,.slice a n c]) (by simp [results,results91,go_sem]) rfl ⟨rfl,bT _ _ _⟩
def ij (n : Int) : Int:=if n<1\/64<n then 4 else 0
theorem rK (n : Int) (w : World) : Calls prog 119 #[.int .i64 n] w λe w'=>e = .returned (.int .i64 (ij n))/\w=w':=by
 by_cases h1 : n<1
 ·have Z : Hid (ij n=4):=by show _=_;rw [ij,JT (.inl h1)]
  go_enter func119,ntmps119;go_wp2;go_ret;exact ⟨aK Z.out.symm,rfl⟩
 ·have U : decide (n<1)=false:=by simpa using h1
  by_cases h2 : 64<n
  ·have Z : Hid (ij n=4):=by show _=_;rw [ij,JT (.inr h2)]
   go_enter func119,ntmps119;go_wp2;go_ret;exact ⟨aK Z.out.symm,rfl⟩
  ·have Z : Hid (ij n=0):=by show _=_;rw [ij,JR (by omega)]
   have Y : decide (64<n)=false:=by simpa using h2
   go_enter func119,ntmps119;go_wp2;go_ret;exact ⟨aK Z.out.symm,rfl⟩
def aJ (P M : Int) (mod : LI) (N : Int) (L : Ll) : Int :=
 if bq P M mod=true then (if ij N=0 then du P M mod N L else 4) else 1
theorem df (P M : Int) (am : OA) (Z cm : Nat) (mod : LI) (N : Int) (a : OA) (n c : Nat) (L : Ll) (w : World) (Q : Ints w am Z mod) (hi : bu w a n L) :
  Calls prog 88 #[.agg #[.int .i64 P,.int .i64 M,.slice am Z cm,.int .i64 N,.slice a n c]] w λe w'=>e = .returned (.int .i64 (aJ P M mod N L))/\OC w w':=by
 go_enter func88,ntmps88;go_wp2_with fail;obtain ⟨W,A⟩ : ∃W : World,W=w.alloc (.cells #[.int .i64 P,.int .i64 M,.slice am Z cm,.int .i64 N,.slice a n c] 27):=⟨_,rfl⟩
 rw [<- A];have S : OC w W:=by rw [A];exact an _ _
 have x0 : aO W w.heap.size [.int .i64 P,.int .i64 M,.slice am Z cm,.int .i64 N,.slice a n c]:=by rw [A];exact NY _ _ _ rfl
 have HX:=Z5 x0;clear A x0;refine (rS P M am Z cm mod W (Q.af S)).mono ?_;rintro e r ⟨rfl,U⟩;have Y:=NX S U;by_cases E : bq P M mod=true
 ·have C : cU (bq P M mod)=0:=by rw [E];rfl
  rw [C];have z : Hid (aJ P M mod N L=if ij N=0 then du P M mod N L else 4):=by show _=_;rw [aJ,JT E]
  have K:=HX.out.af U;have c3:=K.cell 3 rfl;clear C E K;go_wp2_with fail;refine (rK N r).mono ?_;rintro e w2 ⟨rfl,rfl⟩;by_cases H : ij N=0
  ·have I : Hid (aJ P M mod N L=du P M mod N L):=by show _=_;rw [z.out,JT H]
   rw [H];clear H;go_wp2_with fail;have hS : ∀V,OC r V->V.cell? ⟨w.heap.size,0,none⟩=some (.int .i64 P)/\V.cell? ⟨w.heap.size,1,none⟩=some (.int .i64 M)/\V.cell? ⟨w.heap.size,2,none⟩=some (.slice am Z cm)/\V.cell? ⟨w.heap.size,3,none⟩=some (.int .i64 N)/\V.cell? ⟨w.heap.size,4,none⟩=some (.slice a n c)/\Ints V am Z mod/\bu V a n L/\OC r V:=by intro V j;have K:=(HX.out.af U).af j;exact ⟨K.cell 0 rfl,K.cell 1 rfl,K.cell 2 rfl,K.cell 3 rfl,K.cell 4 rfl,((Q.af S).af U).af j,((hi.af S).af U).af j,j⟩
   have HS:=Z5 hS;clear hS c3;go_region_held3 (λV=>V.cell? ⟨w.heap.size,0,none⟩=some (.int .i64 P)/\V.cell? ⟨w.heap.size,1,none⟩=some (.int .i64 M)/\V.cell? ⟨w.heap.size,2,none⟩=some (.slice am Z cm)/\V.cell? ⟨w.heap.size,3,none⟩=some (.int .i64 N)/\V.cell? ⟨w.heap.size,4,none⟩=some (.slice a n c)/\Ints V am Z mod/\bu V a n L/\OC r V)
    ((refine HS.out _ ?_;first | exact (JP _ _).drew | (go_split_ands;exact NX (by assumption) (by assumption))))
    (first
     | (go_at_call 91;((with_reducible refine (mL P M am Z cm N a n c _).mono ?_);rintro e w4 ⟨rfl,hb4⟩))
     | (go_at_call 143;((with_reducible refine (rp P M am Z cm mod N a n c L _ (by go_split_ands;assumption) (by go_split_ands;assumption)).mono ?_);rintro e w5 ⟨rfl,hb5⟩)))
   go_wp2_with fail;go_ret;exact ⟨aK I.out.symm,NX Y (by go_split_ands;assumption)⟩
  ·have I : Hid (aJ P M mod N L=4):=by show _=_;rw [z.out,JR H]
   have D : ij N=4:=by unfold ij at H ⊢;split <;> simp_all
   rw [D];clear H D;go_wp2_with fail;go_ret;exact ⟨aK I.out.symm,Y⟩
 ·have C : cU (bq P M mod)=1:=by
   have : bq P M mod=false:=by simpa using E
   rw [this];rfl
  rw [C];have z : Hid (aJ P M mod N L=1):=by show _=_;rw [aJ,JR E]
  clear C E;go_wp2_with fail;go_ret;exact ⟨aK z.out.symm,Y⟩
theorem aN {P M : Int} {mod : LI} {N : Int} {L : Ll} (h : aJ P M mod N L=0) : bq P M mod=true/\1<=N/\N<=64/\du P M mod N L=0:=by
 unfold aJ at h;split at h
 ·rename_i h1;split at h
  ·rename_i h2;unfold ij at h2;split at h2
   ·omega
   ·exact ⟨h1,by omega,by omega,h⟩
  ·omega
 ·omega
theorem eB {P M : Int} {mod : LI} {N : Int} {L : Ll} (h : du P M mod N L=0) : dy P M mod N L=0/\bU (ah P M.toNat mod) L N.toNat=L:=by
 unfold du at h;split at h
 ·rename_i h1;split at h
  ·rename_i h2;exact ⟨h1,h2⟩
  ·omega
 ·rename_i h1;exact absurd h h1
theorem ml {P M : Int} {mod : LI} {N : Int} {L : Ll} (h : dy P M mod N L=0) : bq P M mod=true/\fh (ah P M.toNat mod).q N L=0:=by
 unfold dy at h;split at h
 ·rename_i h1;exact ⟨h1,h⟩
 ·omega
def jH (N : Int) (l : LI) (k : Nat) : Bool:=decide (0<=nth l k) && decide (nth l k<N) && (k == 0 || decide (nth l (k - 1)<nth l k))
def rR (N : Int) (l : LI) (k : Nat) : Bool:=(List.range k).all (jH N l)
def fF (N : Int) (l : LI) : Bool:=rR N l l.length
theorem lF {N : Int} {l : LI} {k : Nat} (h : rR N l k=true) (Z : jH N l k=true) : rR N l (k+1)=true:=by unfold rR at *;rw [K5,Mt,h];simp [Z]
theorem A9 {N : Int} {l : LI} {k n : Nat} (Z : k<n) (h : jH N l k=false) : rR N l n=false:=by unfold rR;rw [Le];exact ⟨k,List.mem_range.2 Z,by simp [h]⟩
theorem gQ {N : Int} {l : LI} (h : fF N l=true) {k : Nat} (Z : k<l.length) : 0<=nth l k/\nth l k<N/\(0<k->nth l (k - 1)<nth l k):=by unfold fF rR at h;rw [Ky] at h;have:=h k (List.mem_range.2 Z);unfold jH at this;simp only [J9,Ms,Kt,beq_iff_eq] at this;exact ⟨this.1.1,this.1.2,λh0=>by rcases this.2 with h1 | h1;omega;exact h1⟩
def aX (L : Ll) (i : Nat) : LI:=L.map λr=>nth r i
theorem dt (L : Ll) (i : Nat) : (aX L i).length=L.length:=by simp [aX]
theorem da (L : Ll) (i k : Nat) (Z : k<L.length) : nth (aX L i) k=nth (ai L k) i:=by rw [aj (by rw [dt];exact Z),aE Z];simp [aX]
def fnz : LI->Nat
 | []=>0
 | x :: l=>if x=0 then fnz l+1 else 0
theorem EP : ∀l,fnz l<=l.length
 | []=>JO _
 | x :: l=>by have:=EP l;unfold fnz;split <;> simp <;> omega
theorem vd : ∀(l : LI) (k : Nat),k<l.length->(∀j,j<k->nth l j=0)->nth l k ≠ 0->fnz l=k
 | [],k,h,_,_=>by simp at h
 | x :: l,0,_,_,h=>by unfold fnz;rw [JR (by simpa [nth] using h)]
 | x :: l,k+1,h,h0,h1=>by
  have Z : x=0:=by simpa [nth] using h0 0 (by omega)
  unfold fnz;rw [JT Z,vd l k (by simpa using h) (λj Y=>by simpa [nth] using h0 (j+1) (by omega)) (by simpa [nth] using h1)]
theorem ru : ∀(l : LI),(∀j,j<l.length->nth l j=0)->fnz l=l.length
 | [],_=>rfl
 | x :: l,h=>by
  have Y : x=0:=by simpa [nth] using h 0 (by simp)
  unfold fnz;rw [JT Y,ru l (λj Z=>by simpa [nth] using h (j+1) (by simpa using Z))];rfl
theorem lY : ∀(l : LI),fnz l<l.length->nth l (fnz l) ≠ 0
 | [],h=>by simp at h
 | x :: l,h=>by
  unfold fnz at h ⊢;split
  ·rename_i Z;rw [JT Z] at h;have:=lY l (by simpa using h);simpa [nth] using this
  ·rename_i Z;simpa [nth] using Z
theorem yx : ∀(l : LI) (j : Nat),j<fnz l->nth l j=0
 | [],j,h=>by simp [fnz] at h
 | x :: l,j,h=>by
  unfold fnz at h;split at h
  ·rename_i Z;match j with
   | 0=>simpa [nth] using Z
   | j+1=>have:=yx l j (by omega);simpa [nth] using this
  ·omega
def uZ (l : LI) : Int:=if fnz l<l.length then fnz l else -1
section
def dL (O : aM) (v : LI) (x : Int) (r : LI) : LI:=List.zipWith (λp y=>O.add p (O.neg (O.mul x y))) v r
theorem eT (O : aM) (v : LI) (x : Int) (r : LI) (h : r.length=v.length) : (dL O v x r).length=v.length:=by simp [dL,h]
theorem eF (O : aM) (v : LI) (x : Int) (r : LI) (i : Nat) (h : r.length=v.length) (hi : i<v.length) : nth (dL O v x r) i=O.add (nth v i) (O.neg (O.mul x (nth r i))):=by rw [aj (show i<(dL O v x r).length by rw [eT _ _ _ _ h];exact hi),aj (show i<r.length by omega),aj hi];simp [dL]
def ef (O : aM) (u : LI) (p : Int) (r : LI) : LI:=if nth u p.toNat=0 then u else dL O u (nth u p.toNat) r
def redTo (O : aM) (L : Ll) (Q : LI) (v : LI) : Nat->LI
 | 0=>v
 | k+1=>ef O (redTo O L Q v k) (nth Q k) (ai L k)
structure BS where
 rows : Ll
 place : LI
def BS.red (O : aM) (s : BS) (v : LI) : LI:=redTo O s.rows s.place v s.rows.length
def BS.gd (O : aM) (s : BS) (v : LI) : Bool:=decide (fnz (s.red O v)<(s.red O v).length)
def BS.next (O : aM) (s : BS) (v : LI) : BS :=
 if s.gd O v=true then ⟨s.rows ++ [(s.red O v).map (O.mul (O.inv (nth (s.red O v) (fnz (s.red O v)))))],s.place ++ [(fnz (s.red O v) : Int)]⟩ else s
structure BS.Ok (El : Int->Prop) (n : Nat) (s : BS) : Prop where
 rws : bs El n s.rows
 len : s.place.length=s.rows.length
 plc : ∀i,i<s.rows.length->0<=nth s.place i/\nth s.place i<n
theorem tQ {O : aM} {El : Int->Prop} (Y : qa O El) {v r : LI} {x : Int} (U : ∀y ∈ v,El y) (S : ∀y ∈ r,El y) (Q : El x) : ∀y ∈ dL O v x r,El y:=by intro y Z;unfold dL at Z;rw [Mr] at Z;obtain ⟨i,hi,rfl⟩:=Z;rw [L0];exact Y.add _ _ (U _ (Kp _)) (Y.neg _ (Y.mul _ _ Q (S _ (Kp _))))
theorem la {O : aM} {El : Int->Prop} (N : qa O El) {n : Nat} {L : Ll} {Q v : LI} (U : bs El n L) (Y : ∀i,i<L.length->0<=nth Q i/\nth Q i<n)
  (S : v.length=n/\∀y ∈ v,El y) : ∀k,k<=L.length->(redTo O L Q v k).length=n/\∀y ∈ redTo O L Q v k,El y
 | 0,_=>S
 | k+1,H=>by
  have Z:=la N U Y S k (by omega);have K:=U.row (i:=k) (by omega);have I:=Y k (by omega);rw [redTo,ef];split
  ·exact Z
  ·exact ⟨by rw [eT _ _ _ _ (by omega)];exact Z.1,tQ N Z.2 K.2 (Z.2 _ (aI (by omega)))⟩
theorem BS.Ok.next {O : aM} {El : Int->Prop} (U : qa O El) {n : Nat} {s : BS} (h : s.Ok El n) {v : LI} (K : v.length=n/\∀y ∈ v,El y) : (s.next O v).Ok El n:=by
 unfold BS.next;split
 ·rename_i N;have hu:=la U h.rws h.plc K s.rows.length (JO _);have S : fnz (s.red O v)<(s.red O v).length:=by simpa [BS.gd] using N
  have hne:=lY _ S;have Y : (s.red O v).length=n:=hu.1;have Z : ∀y ∈ s.red O v,El y:=hu.2;refine ⟨λr I=>?_,by simp [h.len],λi hi=>?_⟩
  ·rcases List.mem_append.1 I with h1 | h1
   ·exact h.rws r h1
   ·rw [List.mem_singleton.1 h1];refine ⟨by rw [J5];exact Y,λy L=>?_⟩;obtain ⟨z,Q,rfl⟩:=List.mem_map.1 L;exact U.mul _ _ (U.inv _ (Z _ (aI S)) hne) (Z z Q)
  ·simp only [J0,Ka] at hi;by_cases h1 : i<s.rows.length
   ·have:=h.plc i h1;have e : nth (s.place ++ [(fnz (s.red O v) : Int)]) i=nth s.place i:=by simp only [nth,JS];rw [J8 (by rw [h.len];exact h1)]
    rw [e];exact this
   ·obtain rfl : i=s.rows.length:=by omega
    have e : nth (s.place ++ [(fnz (s.red O v) : Int)]) s.rows.length=fnz (s.red O v):=by simp only [nth,JS];rw [<- h.len];simp
    rw [e];omega
 ·exact h
structure rB (w : World) (B bb b : Nat) (ar : OA) (cr : Nat) (R : LA) (ap : OA) (cp : Nat) (s : BS) : Prop where
 bB : B<=bb
 c0 : w.cell? ⟨bb,0,none⟩=some (.pointer (some ⟨b,0,none⟩))
 c1 : w.cell? ⟨bb,1,none⟩=some (.slice ar s.rows.length cr)
 c2 : w.cell? ⟨bb,2,none⟩=some (.slice ap s.rows.length cp)
 fr : ∀i,w.frozen? ⟨bb,i,none⟩=false
 om : aT w B ar s.rows.length cr R s.rows
 pl : w.ownsRow B 3 1 (.slice ap s.rows.length cp) s.rows.length (s.place.map (Value.int .i64))
 d1 : ¬ bX ar R bb
 d2 : eX ap bb
 d3 : ap ≠ none->¬ bX ar R (ablk ap)
def zg (bb : Nat) (ar : OA) (R : LA) (ap : OA) (x : Nat) : Prop:=x=bb\/bX ar R x\/(ap ≠ none/\x=ablk ap)
theorem Fj {w w' : World} {B : Nat} {e : TypeId} {a : OA} {c n : Nat} {xs : List Value} (h : w.ownsRow B e 1 (.slice a n c) n xs) (hb : a ≠ none->w'.heap[ablk a]? = w.heap[ablk a]?) : w'.ownsRow B e 1 (.slice a n c) n xs:=by
 by_cases ha : a=none
 ·subst ha;refine ⟨h.1,?_⟩;rcases h.2 with h2 | ⟨g,cap,cur,Z,_⟩
  ·exact .inl h2
  ·cases Z
 ·exact eS h (hb ha)
namespace rB
variable {w w' : World} {B bb b : Nat} {ar : OA} {cr : Nat} {R : LA} {ap : OA} {cp : Nat} {s : BS}
theorem lt (h : rB w B bb b ar cr R ap cp s) (x : Nat) (Z : zg bb ar R ap x) : B<=x/\x<w.heap.size:=by
 rcases Z with rfl | Z | ⟨h1,rfl⟩
 ·exact ⟨h.bB,J2 w _ h.c0⟩
 ·exact h.om.lt x Z
 ·exact ba h.pl h1
theorem bj (h : rB w B bb b ar cr R ap cp s) (hb : ∀x,zg bb ar R ap x->w'.heap[x]? = w.heap[x]?) : rB w' B bb b ar cr R ap cp s:=by
 have Z:=hb bb (.inl rfl);exact ⟨h.bB,(Kj (w:=w) (a:=⟨bb,0,none⟩) Z).trans h.c0,(Kj (w:=w) (a:=⟨bb,1,none⟩) Z).trans h.c1,(Kj (w:=w) (a:=⟨bb,2,none⟩) Z).trans h.c2,
  λi=>(Ks (w:=w) (a:=⟨bb,i,none⟩) Z).trans (h.fr i),h.om.bj λx Y=>hb x (.inr (.inl Y)),Fj h.pl λha=>hb _ (.inr (.inr ⟨ha,rfl⟩)),h.d1,h.d2,h.d3⟩
theorem af (h : rB w B bb b ar cr R ap cp s) (hb : OC w w') : rB w' B bb b ar cr R ap cp s:=h.bj λx Z=>hb.block x (h.lt x Z).2
theorem only (h : rB w B bb b ar cr R ap cp s) {Y : OA} (S : dg Y w w') (Z : Y ≠ none->¬ zg bb ar R ap (ablk Y)) : rB w' B bb b ar cr R ap cp s :=
 h.bj λx U=>S.block x (h.lt x U).2 λ⟨h1,h2⟩=>Z h1 (h2 ▸ U)
end rB
theorem aT.push {w w' : World} {B : Nat} {a : OA} {n c : Nat} {R : LA} {L : Ll} (h : aT w B a n c R L) {r : OA} {rc : Nat} {l : LI}
  (hr : w.ownsRow B 3 1 (.slice r l.length rc) l.length (l.map (Value.int .i64))) (N : r ≠ none->¬ bX a R (ablk r))
  {a' : OA} {c' : Nat} (Q : w'.ownsRow B 22 1 (.slice a' (n+1) c') (n+1) (List.zipWith kb R L ++ [.slice r l.length rc])) (hg : w.grownBy w' (Value.slice a n c).ownBlock)
  (z : ∀b,b<w.heap.size->eX a b->eX a' b) : aT w' B a' (n+1) c' (R ++ [(r,rc)]) (L ++ [l]):=by
 have C : a' ≠ none:=by
  intro e;have:=(Od Q)
  obtain ⟨x,y,hv,hp⟩:=this;cases hv
  have:=hp (by omega);rw [e] at this;cases this
 have H : ∀i,ai (L ++ [l]) i=if i<n then ai L i else if i=n then l else []:=by
  intro i;simp only [ai,JS];by_cases h1 : i<n
  ·rw [JT h1,J8 (by rw [h.ll];exact h1)]
  ·rw [JR h1];by_cases h2 : i=n
   ·subst h2;rw [JT rfl,<- h.ll];simp
   ·rw [JR h2,KS (by simp [h.ll];omega)];rfl
 have Z : ∀i,aR (R ++ [(r,rc)]) i=if i<n then aR R i else if i=n then (r,rc) else (none,0):=by
  intro i;simp only [aR,JS];by_cases h1 : i<n
  ·rw [JT h1,J8 (by rw [h.rl];exact h1)]
  ·rw [JR h1];by_cases h2 : i=n
   ·subst h2;rw [JT rfl,<- h.rl];simp
   ·rw [JR h2,KS (by simp [h.rl];omega)];rfl
 have Y : ∀ {x : OA} {K m : Nat} {xs : List Value},w.ownsRow B 3 1 (.slice x m K) m xs->(x ≠ none->eX a (ablk x))->w'.ownsRow B 3 1 (.slice x m K) m xs:=by intro x K m xs D h2;exact Fj D λS=>hg.block _ (ba D S).2 λe=>(h2 S).own n c e.symm
 have rA : r ≠ none->eX a (ablk r):=λU=>by
  by_cases ha : a=none
  ·exact .inl ha
  ·exact .inr λe=>N U (.inl ⟨ha,e.symm⟩)
 have oA : ∀i,i<n->(aR R i).1 ≠ none->eX a (ablk (aR R i).1):=λi hi S=>by
  rcases h.sP i hi with h2 | h2
  ·exact absurd h2 S
  ·exact .inr λe=>h2 e.symm
 have I : ∀ {x : OA} {K m : Nat} {xs : List Value},w.ownsRow B 3 1 (.slice x m K) m xs->(x ≠ none->eX a (ablk x))->eX x (ablk a'):=by
  intro x K m xs D h2;by_cases S : x=none
  ·exact .inl S
  ·rcases z _ (ba D S).2 (h2 S) with h3 | h3
   ·exact absurd h3 C
   ·exact .inr λe=>h3 e.symm
 have E : List.zipWith kb (R ++ [(r,rc)]) (L ++ [l])=List.zipWith kb R L ++ [.slice r l.length rc]:=by rw [List.zipWith_append (by rw [h.rl,h.ll])];rfl
 refine ⟨by simp [h.rl],by simp [h.ll],by rw [E];exact Q,λi hi=>?_,λi hi=>?_,λi j hi hj A=>?_⟩
 ·rw [H,Z];by_cases h1 : i<n
  ·simp only [JT h1];exact Y (h.row i h1) (oA i h1)
  ·obtain rfl : i=n:=by omega
   simp only [JR h1,if_true];exact Y hr rA
 ·rw [Z];by_cases h1 : i<n
  ·simp only [JT h1];exact I (h.row i h1) (oA i h1)
  ·obtain rfl : i=n:=by omega
   simp only [JR h1,if_true];exact I hr rA
 ·rw [Z,Z];by_cases h1 : i<n
  ·by_cases h2 : j<n
   ·simp only [JT h1,JT h2];exact h.sep i j h1 h2 A
   ·obtain rfl : j=n:=by omega
    simp only [JT h1,JR h2,if_true];by_cases U : r=none
    ·exact .inr (.inl U)
    ·by_cases S : (aR R i).1=none
     ·exact .inl S
     ·exact .inr (.inr λe=>N U (by rw [e];exact aT.nh (by rw [h.rl];exact h1) S))
  ·obtain rfl : i=n:=by omega
   have h2 : j<i:=by omega
   simp only [JR h1,JT h2,if_true];by_cases U : r=none
   ·exact .inl U
   ·by_cases S : (aR R j).1=none
    ·exact .inr (.inl S)
    ·exact .inr (.inr λe=>N U (by rw [<- e];exact aT.nh (by rw [h.rl];exact h2) S))
theorem bX.push {w : World} {B : Nat} {a : OA} {n c : Nat} {R : LA} {L : Ll} (h : aT w B a n c R L) {r : OA} {rc : Nat} {a' : OA}
  (Y : ∀b,b<w.heap.size->eX a b->eX a' b) {x : Nat} (S : bX a' (R ++ [(r,rc)]) x) : bX a R x\/(r ≠ none/\x=ablk r)\/w.heap.size<=x:=by
 rcases S with ⟨h1,rfl⟩ | ⟨i,hi,h1,rfl⟩
 ·by_cases Z : ablk a'<w.heap.size
  ·by_cases h2 : eX a (ablk a')
   ·rcases Y _ Z h2 with h3 | h3
    ·exact absurd h3 h1
    ·exact absurd rfl h3
   ·left;left;refine ⟨λe=>h2 (.inl e),?_⟩;apply Kg;intro e;exact h2 (.inr λU=>e U.symm)
  ·exact .inr (.inr (by omega))
 ·simp only [J0,Ka] at hi;by_cases h2 : i<R.length
  ·have e : aR (R ++ [(r,rc)]) i=aR R i:=by simp only [aR,JS];rw [J8 h2]
   rw [e] at h1 ⊢;exact .inl (aT.nh h2 h1)
  ·obtain rfl : i=R.length:=by omega
   have e : aR (R ++ [(r,rc)]) R.length=(r,rc):=by simp [aR]
   rw [e] at h1 ⊢;exact .inr (.inl ⟨h1,rfl⟩)
namespace rB
variable {V w4 w5 X w6 : World} {B bb b : Nat} {ar : OA} {cr : Nat} {R : LA} {ap : OA} {cp : Nat} {s : BS}
theorem Ii {a4 a5 : OA} {A H k : Nat} {N : LI} {o : Obj} (h : rB V B bb b ar cr R ap cp s) (hk : s.rows.length=k) (j : B<=V.heap.size) (hb4 : OC V w4)
  (Y : w4.ownsRow V.heap.size 3 1 (.slice a4 N.length A) N.length (N.map (Value.int .i64)))
  (D : w5.ownsRow B 22 1 (.slice a5 (k+1) H) (k+1) (List.zipWith kb R s.rows ++ [.slice a4 N.length A])) (Z : (w4.alloc o).grownBy w5 (Value.slice ar k cr).ownBlock)
  (E : ∀x,x<(w4.alloc o).heap.size->eX ar x->eX a5 x) (p1 : ∃v,w5.cell? ⟨bb,1,none⟩=some v) :
  ∃K z R',(w5.setCell ⟨bb,1,none⟩ (.slice a5 (k+1) H)).cell? ⟨bb,1,none⟩=some (.slice K (k+1) z)/\aT (w5.setCell ⟨bb,1,none⟩ (.slice a5 (k+1) H)) B K (k+1) z R' (s.rows ++ [N]) /\
   aD V (w5.setCell ⟨bb,1,none⟩ (.slice a5 (k+1) H)) (λx=>x=bb\/bX ar R x) (λx=>x=bb\/bX K R' x)/\¬ bX K R' bb /\
   (∀i v,i ≠ 1->V.cell? ⟨bb,i,none⟩=some v->(w5.setCell ⟨bb,1,none⟩ (.slice a5 (k+1) H)).cell? ⟨bb,i,none⟩=some v)/\∀i,(w5.setCell ⟨bb,1,none⟩ (.slice a5 (k+1) H)).frozen? ⟨bb,i,none⟩=false:=by
 have U : OC V (w4.alloc o):=NX hb4 (an _ _);have C:=h.om.af U;rw [hk] at C;have hr : (w4.alloc o).ownsRow B 3 1 (.slice a4 N.length A) N.length (N.map (Value.int .i64)):=bd (bp Y (an _ _)) j;have hra : a4 ≠ none->¬ bX ar R (ablk a4):=λh0 hI=>by have h1:=(ba Y h0).1;have h2:=(h.om.lt _ hI).2;omega
 have hP:=aT.push C hr hra D Z E;have r:=h.lt bb (.inl rfl);have S : eX ar bb:=by
  by_cases ha : ar=none
  ·exact .inl ha
  ·exact .inr λe=>h.d1 (.inl ⟨ha,e.symm⟩)
 have hsz:=U.size;have Q:=λ{x : Nat} (I : bX a5 (R ++ [(a4,A)]) x)=>bX.push C E I;have hd : ¬ bX a5 (R ++ [(a4,A)]) bb:=λhI=>by
  rcases Q hI with h1 | ⟨h1,h2⟩ | h1
  ·exact h.d1 h1
  ·have:=(ba Y h1).1;omega
  ·omega
 obtain ⟨v,p1⟩:=p1;refine ⟨a5,H,R ++ [(a4,A)],Kf _ _ _ p1,hP.bj λx I=>J6 _ _ _ _ λe=>hd (by rw [show bb=x from e.symm];exact I),?_,hd,λi v hi hv=>?_,λi=>?_⟩;rotate_left
 ·rw [J7 _ _ _ _ (by simp <;> omega)];exact cT Z (aB U hv) S
 ·rw [KK];exact (Ks (w:=w4.alloc o) (a:=⟨bb,i,none⟩) (Z.block bb (by omega) λe=>S.own k cr e.symm)).trans (dE U r.2 (h.fr i))
 have L : Below 0 w5 (w5.setCell ⟨bb,1,none⟩ (.slice a5 (k+1) H)):=(JP 0 w5).setCell (JU _) _;refine ⟨L.os.trans (Z.os.trans U.os),L.tape.trans (Z.tape.trans U.tape),L.output.trans (Z.output.trans U.output),J4 U.size (J4 Z.size L.size),λx I hI=>?_,λx I=>?_⟩
 ·rw [J6 _ _ _ _ λe=>hI (.inl e)];rw [Z.block x (by omega) λe=>?_]
  ·exact U.block x I
  ·apply hI;right;left;cases ar with
   | none=>simp [Value.ownBlock] at e
   | some y=>simp [Value.ownBlock] at e;exact ⟨by simp,by rw [e];rfl⟩
 ·rcases I with rfl | I
  ·exact .inl (.inl rfl)
  ·rcases Q I with h1 | ⟨h1,h2⟩ | h1
   ·exact .inl (.inr h1)
   ·exact .inr (by have:=(ba Y h1).1;omega)
   ·exact .inr (by omega)
theorem Ie {U : OA} {E k : Nat} {f : Int} {L : Ll} {Q : LI} {o : Obj} (hB : B<=bb) (x0 : X.cell? ⟨bb,0,none⟩=some (.pointer (some ⟨b,0,none⟩))) (x1 : X.cell? ⟨bb,1,none⟩=some (.slice ar (k+1) cr))
  (x2 : ∃v,X.cell? ⟨bb,2,none⟩=some v)
  (xf : ∀i,X.frozen? ⟨bb,i,none⟩=false) (hO : aT X B ar (k+1) cr R L) (hp : X.ownsRow B 3 1 (.slice ap k cp) k (Q.map (Value.int .i64))) (d1 : ¬ bX ar R bb) (d2 : eX ap bb) (d3 : ap ≠ none->¬ bX ar R (ablk ap))
  (K : w6.ownsRow B 3 1 (.slice U (k+1) E) (k+1) (Q.map (Value.int .i64) ++ [.int .i64 f])) (Z : (X.alloc o).grownBy w6 (Value.slice ap k cp).ownBlock)
  (j : ∀x,x<(X.alloc o).heap.size->eX ap x->eX U x) :
  rB (w6.setCell ⟨bb,2,none⟩ (.slice U (k+1) E)) B bb b ar cr R U E ⟨L,Q ++ [f]⟩ /\
   aD X (w6.setCell ⟨bb,2,none⟩ (.slice U (k+1) E)) (zg bb ar R ap) (zg bb ar R U):=by
 have r : bb<X.heap.size:=J2 X _ x0;have N : OC X (X.alloc o):=an _ _;have hsz:=N.size;have hne : U ≠ none:=λe=>by
  obtain ⟨y,z,hv,hp⟩:=Od K;cases hv
  have:=hp (by omega);rw [e] at this;cases this
 have Y : ∀ {x : Nat},eX ap x->x<X.heap.size->x ≠ ablk U:=λh2 S e=>by
  rcases j _ (by omega) h2 with h3 | h3
  ·exact hne h3
  ·exact h3 e.symm
 have D:=Y d2 r;have blk : ∀x,x<X.heap.size->x ≠ bb->eX ap x->(w6.setCell ⟨bb,2,none⟩ (.slice U (k+1) E)).heap[x]? = X.heap[x]?:=λx S h1 h2=>by rw [J6 _ _ _ _ h1,Z.block x (by omega) λe=>h2.own k cp e.symm];exact N.block x S
 have C : ∀x,bX ar R x->eX ap x:=λx S=>by
  by_cases h0 : ap=none
  ·exact .inl h0
  ·exact .inr λe=>d3 h0 (e ▸ S)
 have A : ∀i v,X.cell? ⟨bb,i,none⟩=some v->w6.cell? ⟨bb,i,none⟩=some v:=λi v hv=>cT Z (br hv _) d2;have H : L.length=k+1:=hO.ll;have hQl : Q.length=k:=by simpa using jZ hp
 have hO6 : aT (w6.setCell ⟨bb,2,none⟩ (.slice U (k+1) E)) B ar (k+1) cr R L:=hO.bj λx S=>blk x (hO.lt x S).2 (λe=>d1 (e ▸ S)) (C x S);obtain ⟨v2,x2⟩:=x2;refine ⟨⟨hB,?_,?_,?_,λi=>?_,?_,?_,d1,.inr λe=>D e.symm,λ_ hI=>?_⟩,?_⟩
 ·rw [J7 _ _ _ _ (by simp)];exact A _ _ x0
 ·rw [J7 _ _ _ _ (by simp)];simpa [H] using A _ _ x1
 ·simp only [H];exact Kf _ _ _ (A _ _ x2)
 ·rw [KK];exact (Ks (w:=X.alloc o) (a:=⟨bb,i,none⟩) (Z.block bb (by omega) λe=>d2.own k cp e.symm)).trans (ed r (xf i) _)
 ·simp only [H];exact hO6
 ·simp only [H];have:=dP K (p:=⟨bb,2,none⟩) (.slice U (k+1) E) (.inr λe=>D e.symm);simpa using this
 ·exact Y (C _ hI) (hO.lt _ hI).2 rfl
 ·have I : Below 0 w6 (w6.setCell ⟨bb,2,none⟩ (.slice U (k+1) E)):=(JP 0 w6).setCell (JU _) _;refine ⟨I.os.trans (Z.os.trans N.os),I.tape.trans (Z.tape.trans N.tape),I.output.trans (Z.output.trans N.output),J4 N.size (J4 Z.size I.size),λx S hI=>?_,λx S=>?_⟩
  ·refine blk x S (λe=>hI (.inl e)) ?_;by_cases h0 : ap=none
   ·exact .inl h0
   ·exact .inr λe=>hI (.inr (.inr ⟨h0,e.symm⟩))
  ·rcases S with rfl | S | ⟨h1,rfl⟩
   ·exact .inl (.inl rfl)
   ·exact .inl (.inr (.inl S))
   ·by_cases hlt : ablk U<X.heap.size
    ·left;right;right;apply Kg;intro hn;have hA : eX ap (ablk U):=by
      by_cases h0 : ap=none
      ·exact .inl h0
      ·exact .inr λe=>hn ⟨h0,e.symm⟩
     exact Y hA hlt rfl
    ·exact .inr (by omega)
end rB
end
theorem aT.D9 (w : World) (B : Nat) : aT w B none 0 0 [] [] :=
 ⟨rfl,rfl,cF,λi hi=>by omega,λi hi=>by omega,λi j hi=>by omega⟩
theorem l5 (P : Int) (m : Nat) (am : OA) (mn cm : Nat) (mod : LI) (av : OA) (n cv : Nat) (v : LI) (s : Int) (D : OA) (cu : Nat) (u : LI) (w : World) (hf : sO w P m am mn mod) (hs : eH P m s)
  (hi : Ints w av n v) (hu : Ints w D n u) (hve : ∀x ∈ v,eH P m x) (hue : ∀x ∈ u,eH P m x) (hn : n<=1000000) :
  Calls prog 227 #[.agg #[.int .i64 P,.int .i64 m,.slice am mn cm],.slice av n cv,.int .i64 s,.slice D n cu] w (db w (bN (jW P m mod) v s u)):=by
 have K:=hf.rf;have Hs:=Z5 (K.gV hs);have Hvl:=Z5 hi.len;have Hul:=Z5 hu.len;have hplv:=hi.pl;have hplu:=hu.pl;have Hev : Hid (∀k,k<n->gV (aH P m) (nth v k)=true):=λk hk=>K.gV (hve _ (aI (by rw [hi.len];exact hk)));have Heu : Hid (∀k,k<n->gV (aH P m) (nth u k)=true):=λk hk=>K.gV (hue _ (aI (by rw [hu.len];exact hk)));have Q : Hid ((bN (jW P m mod) v s u).length=n):=by show _=_;rw [cR _ _ _ _ (by rw [hi.len,hu.len]),hi.len]
 have HNn : Hid (∀k,k<n->nth (bN (jW P m mod) v s u) k=if nth u k=0 then nth v k else fsum P m (nth v k) (mulR P m mod s (nth u k))):=λk hk=>fb (jW P m mod) v s u k (by rw [hi.len,hu.len]) (by rw [hi.len];exact hk);obtain ⟨I,hNN⟩ : ∃I,bN (jW P m mod) v s u=I:=⟨_,rfl⟩
 rw [hNN] at Q HNn;rw [hNN];clear hve hue hNN;go_enter func227,ntmps227;go_wp2_with (at_make;refine ch rfl _ _ 22 3 rfl (.int .i64 0) 8 underlying22 aV rfl n rfl rfl (by omega) (by unfold maxLen;omega) ?_;intro a1 w1 S Y hge Z);obtain ⟨W,hW⟩ : ∃W : World,W=w.alloc (.cells #[.int .i64 P,.int .i64 m,.slice am mn cm] 24):=⟨_,rfl⟩
 rw [<- hW] at S Y hge;have C : OC w W:=by rw [hW];exact an _ _
 have x0 : aO W w.heap.size [.int .i64 P,.int .i64 m,.slice am mn cm]:=by rw [hW];exact NY _ _ _ rfl
 have hfW:=hf.af C;have hiW:=hi.af C;have huW:=hu.af C;have hS : ∀k,k<n->∀V,OC W V->V.cell? ⟨w.heap.size,0,none⟩=some (.int .i64 P)/\V.cell? ⟨w.heap.size,1,none⟩=some (.int .i64 m)/\V.cell? ⟨w.heap.size,2,none⟩=some (.slice am mn cm) /\
   V.cell? ⟨ablk av,aL av+k,none⟩=some (.int .i64 (nth v k))/\V.cell? ⟨ablk D,aL D+k,none⟩=some (.int .i64 (nth u k))/\OC W V:=by intro k hk V E;have x1:=x0.af E;exact ⟨x1.cell 0 rfl,x1.cell 1 rfl,x1.cell 2 rfl,(hiW.af E).cell k hk,(huW.af E).cell k hk,E⟩
 have HS:=Z5 hS;clear hW x0 hS;go_loopw [10] (λiv wr=>∃k : Nat,k<=n/\iv = .int .i64 k /\
   wr.ownsRow W.heap.size 3 1 (.slice a1 n n) n ((dk (I.take k) k n).map (Value.int .i64))/\OC W wr)
  (λi _=>n - (intOf i).toNat)
 case atStart=>exact ⟨0,JU _,rfl,by simpa [dk] using S,Y⟩
 case round =>
  obtain ⟨k,hk,rfl,S,Y⟩:=hrel
  obtain ⟨hints,L⟩:=NZ S
  have hpl1:=hints.pl
  by_cases Z : k<n
  ·have hB:=(L (by omega)).1
   have cc:=hints.cell k Z
   have cf:=(L (by omega)).2 k Z
   obtain ⟨d0,d1,d2,d3,d4,_⟩:=HS.out k Z wr Y
   have j : ∀(V : World) (z : Int),z=nth I k->V.ownsRow W.heap.size 3 1 (.slice a1 n n) n ((dk (I.take k) k n).map (Value.int .i64))->(V.setCell ⟨ablk a1,aL a1+k,none⟩ (.int .i64 z)).ownsRow W.heap.size 3 1 (.slice a1 n n) n ((dk (I.take (k+1)) (k+1) n).map (Value.int .i64)):=by rintro V z rfl E;have h:=bC E k Z (.int .i64 (nth I k));rw [<- Kh,fo _ _ _ _ (by simp [Q.out];omega) Z] at h;rw [JW (by rw [Q.out];omega)];rw [aj (by rw [Q.out];omega)] at h ⊢;exact h
   have Hset:=Z5 j
   have HB:=Z5 hB
   have H:=HNn.out k Z
   have N:=bC S k Z (.int .i64 (nth v k))
   by_cases hz : nth u k=0
   ·rw [JT hz] at H
    have hz' : (nth u k != 0)=false:=by simpa using hz
    have HNk:=Z5 H
    have dd : (wr.setCell ⟨ablk a1,aL a1+k,none⟩ (.int .i64 (nth v k))).cell? ⟨ablk D,aL D+k,none⟩=some (.int .i64 (nth u k)):=(HS.out k Z _ (Y.setCell hB _)).2.2.2.2.1
    clear j hz H N
    go_wp2_with fail
    go_roundw
    case rel=>exact ⟨k+1,by omega,by go_num,Hset.out _ _ HNk.out.symm S,Y.setCell HB.out _⟩
    case measure=>simp [intOf] <;> omega
   ·rw [JR hz] at H
    have hz' : (nth u k != 0)=true:=by simpa using hz
    have HNk:=Z5 H
    obtain ⟨U,hU⟩ : ∃U : World,U=wr.setCell ⟨ablk a1,aL a1+k,none⟩ (.int .i64 (nth v k)):=⟨_,rfl⟩
    have hbU : OC W U:=by rw [hU];exact Y.setCell hB _
    have dd : (wr.setCell ⟨ablk a1,aL a1+k,none⟩ (.int .i64 (nth v k))).cell? ⟨ablk D,aL D+k,none⟩=some (.int .i64 (nth u k)):=(HS.out k Z _ (Y.setCell hB _)).2.2.2.2.1
    rw [<- hU] at N
    have hmdU:=(hfW.af hbU).mods
    have Hmd : Hid (∀V,OC U V->xI V P m am mn mod):=λV E=>hmdU.af E
    have HK : Hid (∀V,OC U V->(∃y,V.cell? ⟨ablk a1,aL a1+k,none⟩=some y)/\V.frozen? ⟨ablk a1,aL a1+k,none⟩=false/\V.ownsRow W.heap.size 3 1 (.slice a1 n n) n (((dk (I.take k) k n).map (Value.int .i64)).set k (.int .i64 (nth v k)))):=λV E=>by have ho:=bp N E;have h5:=bK ho k Z;exact ⟨⟨_,by rw [h5.1,Km (by rw [h5.2.2.2.1];exact Z)]⟩,h5.2.1,ho⟩
    have r:=Z5 hbU
    have HelM : Hid (gV (aH P m) (mulR P m mod s (nth u k))=true):=K.gV (uS K mod _ _)
    have HSk : Hid (∀V,OC W V->V.cell? ⟨w.heap.size,0,none⟩=some (.int .i64 P)/\V.cell? ⟨w.heap.size,1,none⟩=some (.int .i64 m)/\V.cell? ⟨w.heap.size,2,none⟩=some (.slice am mn cm) /\
     V.cell? ⟨ablk av,aL av+k,none⟩=some (.int .i64 (nth v k))/\V.cell? ⟨ablk D,aL D+k,none⟩=some (.int .i64 (nth u k))/\OC W V):=HS.out k Z
    have A : ∀V : World,V.ownsRow W.heap.size 3 1 (.slice a1 n n) n (((dk (I.take k) k n).map (Value.int .i64)).set k (.int .i64 (nth v k))) ->
      (V.setCell ⟨ablk a1,aL a1+k,none⟩ (.int .i64 (fsum P m (nth v k) (mulR P m mod s (nth u k))))).ownsRow W.heap.size 3 1 (.slice a1 n n) n ((dk (I.take (k+1)) (k+1) n).map (Value.int .i64)):=by intro V E;rw [<- HNk.out];have h:=bC E k Z (.int .i64 (nth I k));rw [List.set_set,<- Kh,fo _ _ _ _ (by simp [Q.out];omega) Z] at h;rw [JW (by rw [Q.out];omega)];rw [aj (by rw [Q.out];omega)] at h ⊢;exact h
    have Hset2:=Z5 A
    clear j hz H N hmdU hbU A
    go_wp2_with fail
    rw [<- hU]
    clear hU d0 d1 d2 d3 d4 cc cf dd Y hints L S hB
    go_region_held3 (λV=>V.cell? ⟨w.heap.size,0,none⟩=some (.int .i64 P)/\V.cell? ⟨w.heap.size,1,none⟩=some (.int .i64 m)/\V.cell? ⟨w.heap.size,2,none⟩=some (.slice am mn cm) /\
      V.cell? ⟨ablk av,aL av+k,none⟩=some (.int .i64 (nth v k))/\V.cell? ⟨ablk D,aL D+k,none⟩=some (.int .i64 (nth u k))/\OC W V)
     ((refine HSk.out _ ?_;first | exact r.out.drew | exact NX r.out hb7 | exact NX r.out hb9 | exact (NX r.out hb9).setCell HB.out _))
     (first
      | (go_at_call 114;((with_reducible refine (qn P m am mn cm mod s (nth u k) _ K (Hmd.out _ (JP _ _).drew) Hs.out (Heu.out k Z)).mono ?_);rintro e w4 ⟨rfl,hb4⟩;have hb7 : OC U w4:=NX (JP _ _).drew hb4))
      | (go_at_call 113;((with_reducible refine (Dx P m am mn cm (nth v k) (mulR P m mod s (nth u k)) _ K (Hev.out k Z) HelM.out).mono ?_);rintro e w5 ⟨rfl,hb5⟩;have hb9 : OC U w5:=NX hb7 hb5;obtain ⟨⟨v9,k9⟩,f9,o9⟩:=HK.out w5 hb9)))
    clear k9 f9
    go_wp2_with fail
    go_roundw
    case rel=>exact ⟨k+1,by omega,by go_num,Hset2.out _ o9,(NX r.out hb9).setCell HB.out _⟩
    case measure=>simp [intOf] <;> omega
  ·obtain rfl : k=n:=by omega
   have hfin : dk (I.take k) k k=I:=by rw [fR,JX (by rw [Q.out];exact JO _)]
   rw [hfin] at S
   clear hfin
   go_wp2_with fail
   go_ret
   exact ⟨a1,k,by rw [Q.out];rfl,by rw [Q.out];exact bd S C.size,NX C Y⟩
theorem CC (a : OA) (n c : Nat) (L : Ll) (w : World) (hi : bu w a n L) (hn : n<=1000000) (hL : ∀l ∈ L,l.length<=1000000) :
  Calls prog 224 #[.slice a n c] w (DO w L):=by
 have hpl:=hi.pl;have U:=Z5 hi.len;have HL:=Z5 hL;clear hL;go_enter func224,ntmps224;go_wp2_with fail;go_loopw [3,4] (λsv iv wr=>∃(k : Nat) (a1 : OA) (c1 : Nat),k<=n/\iv = .int .i64 k/\sv = .slice a1 k c1/\(∃R,aT wr w.heap.size a1 k c1 R (L.take k))/\OC w wr) (λ_ iv _=>n - (intOf iv).toNat);case atStart=>exact ⟨0,none,0,JU _,rfl,rfl,⟨[],by simpa using aT.D9 w w.heap.size⟩,JP _ _⟩
 case round =>
  obtain ⟨k,a1,c1,hk,rfl,rfl,⟨R,z⟩,S⟩:=hrel
  by_cases r : k<n
  ·obtain ⟨ra,rn,rc,I,Y⟩:=(hi.af S).cell k r
   have N : k<L.length:=by rw [U.out];exact r
   have hrl : rn<=1000000:=by rw [<- Y.len,aE N];exact HL.out _ (Kp N)
   have hO1:=gg wr 3
   have Q:=an wr (.cells #[] 3)
   obtain ⟨l,hl⟩ : ∃l,ai L k=l:=⟨_,rfl⟩
   rw [hl] at Y
   have Htk : Hid (L.take (k+1)=L.take k ++ [l]):=by show _=_;rw [JW N,<- hl,aE N]
   have C:=Y.af Q
   have hcell2:=br I (.cells #[] 3)
   have hpr:=Y.pl
   have E:=Z5 Y.len
   have hsz:=S.size
   clear hl
   go_wp2_with (at_builtin;first
    | (refine dY (by rfl) (.tmp 12) (.tmp 16) 22 3 (by rfl) (.int .i64 0) 8 underlying22 aV (by rfl) wr.heap.size _ 0 0 [] (by rfl) hO1 ra rn rc (l.map (Value.int .i64)) (by rfl) hpr (by simp [E.out]) (N7 C) (ints_oneCell _ _) (by omega) (by unfold maxLen;omega) (K8 Q) ?_;intro a3 c3 w3 Z hgr3 hap3;have H : OC wr w3:=N0 (B:=wr.heap.size) (e:=3) (xs:=[]) Q hO1 hgr3 (JO _) (K8 Q);rw [LJ] at Z ⊢;rw [KL] at Z)
    | (refine aS rfl _ _ 25 22 rfl (.slice none 0 0) 24 underlying25 dO rfl w.heap.size a1 k c1 _ rfl ((z.af (NX H (an _ _))).own) ⟨w3.heap.size,0,none⟩ 1 (.slice a3 rn c3) rfl (bf w3 _ _) rfl (by omega) (by unfold maxLen;omega) (by have h1:=K8 H;simp;omega) ?_;intro a5 c5 w5 A K hap5)
    | fail)
   go_roundw
   case rel =>
    have hb4 : OC wr (w3.alloc (.cells #[.slice a3 rn c3] 22)):=NX H (an _ _)
    have j:=z.af hb4
    have D : (w3.alloc (.cells #[.slice a3 rn c3] 22)).ownsRow w.heap.size 3 1 (.slice a3 l.length c3) l.length (l.map (Value.int .i64)):=by rw [E.out];exact bd (bp Z (an _ _)) hsz
    have hra : a3 ≠ none->¬ bX a1 R (ablk a3):=λh0 hI=>by have h1:=(ba Z h0).1;have h2:=(z.lt _ hI).2;omega
    have hP:=aT.push j D hra (by rw [E.out];exact A) K hap5
    have hb5 : OC w w5:=N0 (NX S hb4) j.own K (JO _) (J4 hsz hb4.size)
    exact ⟨k+1,a5,c5,by omega,by go_num,rfl,⟨_,by rw [Htk.out];exact hP⟩,hb5⟩
   case measure=>simp [intOf] <;> omega
  ·obtain rfl : k=n:=by omega
   rw [JX (by rw [U.out];exact JO _)] at z
   go_wp2_with fail
   go_ret
   exact ⟨a1,c1,R,by rw [U.out];rfl,by rw [U.out];exact z,S⟩
def EM (L : World) (bb b : Nat) (ar : OA) (R : LA) (ap Q : OA) (O : aM) (s : BS) (v : LI) (w : World) (e : Ending) (w' : World) : Prop :=
 ∃Y S N Z U,e = .returned (.bool (s.gd O v))/\rB w' L.heap.size bb b Y S N Z U (s.next O v) /\
  aD w w' (λx=>zg bb ar R ap x\/(Q ≠ none/\x=ablk Q)) (zg bb Y N Z)
def grTo (O : aM) (L : Ll) (Q : LI) : Nat->BS × LI
 | 0=>(⟨[],[]⟩,[])
 | k+1=>((grTo O L Q k).1.next O (aX L (nth Q k).toNat),if (grTo O L Q k).1.gd O (aX L (nth Q k).toNat)=true then (grTo O L Q k).2 ++ [nth Q k] else (grTo O L Q k).2)
def lT (O : aM) (L : Ll) (Q : LI) : LI:=(grTo O L Q Q.length).2
theorem BS.Ec (O : aM) (s : BS) (v : LI) : (s.next O v).rows.length<=s.rows.length+1:=by unfold BS.next;split <;> simp
theorem aT.empty (w : World) (B : Nat) : aT w B none 0 0 [] [] :=
 ⟨rfl,rfl,cF,λi hi=>by omega,λi hi=>by omega,λi j hi=>by omega⟩
theorem rB.start {w : World} {B bb b : Nat} (Z : B<=bb) (h : aO w bb [.pointer (some ⟨b,0,none⟩),.slice none 0 0,.slice none 0 0]) : rB w B bb b none 0 [] none 0 ⟨[],[]⟩ :=
 ⟨Z,h.cell 0 rfl,h.cell 1 rfl,h.cell 2 rfl,λi=>h.frozen i,aT.empty w B,cF,λhI=>by
  rcases hI with ⟨h1,_⟩ | ⟨i,hi,_⟩
  ·exact h1 rfl
  ·simp at hi,.inl rfl,λh1=>absurd rfl h1⟩
theorem Gm {El : Int->Prop} {m : Nat} {L : Ll} (h : bs El m L) {i : Nat} (hi : i<m) : (aX L i).length=L.length/\∀y ∈ aX L i,El y:=by refine ⟨dt _ _,λy Z=>?_⟩;unfold aX at Z;obtain ⟨r,Y,rfl⟩:=List.mem_map.1 Z;exact (h r Y).2 _ (aI (by rw [(h r Y).1];exact hi))
section
namespace bI
variable {O : aM} {El : Int->Prop} (F : bI O El)
include F
theorem sl {x : Int} (Z : El x) : O.add 0 x=x:=by rw [F.add_comm _ _ F.zero Z,F.add_zero x Z]
theorem j6 {x : Int} (Z : El x) : O.add (O.neg x) x=0:=by rw [F.add_comm _ _ (F.cl.neg x Z) Z,F.add_neg x Z]
theorem Jm {x y : Int} (Z : El x) (Y : El y) : O.add (O.neg x) (O.add x y)=y:=by rw [<- F.add_assoc _ _ _ (F.cl.neg x Z) Z Y,F.j6 Z,F.sl Y]
theorem cancel {x y z : Int} (Z : El x) (U : El y) (Y : El z) (h : O.add x y=O.add x z) : y=z:=by rw [<- F.Jm Z U,h,F.Jm Z Y]
theorem cQ {x : Int} (Z : El x) : O.mul x 0=0:=by have h0:=F.cl.mul x 0 Z F.zero;refine F.cancel h0 h0 F.zero ?_;rw [<- F.mul_add x 0 0 Z F.zero F.zero,F.add_zero 0 F.zero,F.add_zero _ h0]
theorem iY {x : Int} (Z : El x) : O.mul 0 x=0:=by rw [F.mul_comm _ _ F.zero Z,F.cQ Z]
theorem gR {x : Int} (Z : El x) : O.mul x 1=x:=by rw [F.mul_comm _ _ Z F.one,F.one_mul x Z]
theorem js {x y : Int} (Z : El x) (Y : El y) (h : O.add x y=0) : y=O.neg x :=
 F.cancel Z Y (F.cl.neg x Z) (by rw [h,F.add_neg x Z])
theorem eY : O.neg 0=0:=(F.js F.zero F.zero (F.add_zero 0 F.zero)).symm
theorem mul_neg {x y : Int} (Y : El x) (Z : El y) : O.mul x (O.neg y)=O.neg (O.mul x y):=by have U:=F.cl.neg y Z;refine F.js (F.cl.mul x y Y Z) (F.cl.mul x _ Y U) ?_;rw [<- F.mul_add x y _ Y Z U,F.add_neg y Z,F.cQ Y]
theorem neg_mul {x y : Int} (Z : El x) (Y : El y) : O.mul (O.neg x) y=O.neg (O.mul x y):=by rw [F.mul_comm _ _ (F.cl.neg x Z) Y,F.mul_neg Y Z,F.mul_comm _ _ Y Z]
theorem Cy {a b c d : Int} (ha : El a) (hb : El b) (Z : El c) (hd : El d) : O.add (O.add a b) (O.add c d)=O.add (O.add a c) (O.add b d):=by rw [F.add_assoc a b _ ha hb (F.cl.add c d Z hd),F.add_assoc a c _ ha Z (F.cl.add b d hb hd),<- F.add_assoc b c d hb Z hd,F.add_comm b c hb Z,F.add_assoc c b d Z hb hd]
theorem neg_add {x y : Int} (S : El x) (U : El y) : O.neg (O.add x y)=O.add (O.neg x) (O.neg y):=by have Y:=F.cl.neg x S;have Z:=F.cl.neg y U;refine (F.js (F.cl.add x y S U) (F.cl.add _ _ Y Z) ?_).symm;rw [F.Cy S U Y Z,F.add_neg x S,F.add_neg y U,F.add_zero 0 F.zero]
theorem neg_neg {x : Int} (Z : El x) : O.neg (O.neg x)=x:=(F.js (F.cl.neg x Z) Z (F.j6 Z)).symm
theorem u9 {x y : Int} (Z : El x) (Y : El y) (h0 : x ≠ 0) (h : O.mul x y=0) : y=0:=by have hi:=F.cl.inv x Z h0;rw [<- F.one_mul y Y,<- F.mul_inv x Z h0,F.mul_comm x _ Z hi,F.mul_assoc _ x y hi Z Y,h,F.cQ hi]
theorem comb {A B x S B' R : Int} (I : El A) (K : El B) (L : El x) (Y : El S) (Q : El B') (U : El R) :
  O.add (O.add A (O.neg (O.mul x B))) (O.neg (O.mul (O.add S (O.neg (O.mul x B'))) R))=O.add (O.add A (O.neg (O.mul S R))) (O.neg (O.mul x (O.add B (O.neg (O.mul B' R))))):=by
 have m:=F.cl.mul;have n:=F.cl.neg;have h1:=m x B L K;have h2:=m S R Y U;have Z:=m x B' L Q;have h3:=m _ R Z U;have N:=m B' R Q U;have e1 : O.mul (O.add S (O.neg (O.mul x B'))) R=O.add (O.mul S R) (O.neg (O.mul (O.mul x B') R)):=by rw [F.mul_comm _ R (F.cl.add _ _ Y (n _ Z)) U,F.mul_add R _ _ U Y (n _ Z),F.mul_comm R S U Y,F.mul_comm R _ U (n _ Z),F.neg_mul Z U]
 have H : O.mul x (O.add B (O.neg (O.mul B' R)))=O.add (O.mul x B) (O.neg (O.mul (O.mul x B') R)):=by rw [F.mul_add x _ _ L K (n _ N),F.mul_neg L N,F.mul_assoc x B' R L Q U]
 rw [e1,H,F.neg_add h2 (n _ h3),F.neg_add h1 (n _ h3),F.neg_neg h3,F.Cy I (n _ h1) (n _ h2) h3,F.Cy I (n _ h2) (n _ h1) h3]
end bI
def Vc (El : Int->Prop) (n : Nat) (v : LI) : Prop:=v.length=n/\∀y ∈ v,El y
theorem Vc.at {El : Int->Prop} {n : Nat} {v : LI} (h : Vc El n v) {i : Nat} (hi : i<n) : El (nth v i):=h.2 _ (aI (by rw [h.1];exact hi))
theorem Vc.sub {O : aM} {El : Int->Prop} (F : bI O El) {n : Nat} {v r : LI} {x : Int} (Z : Vc El n v) (Y : Vc El n r) (U : El x) : Vc El n (dL O v x r) :=
 ⟨by rw [eT _ _ _ _ (by rw [Y.1,Z.1])];exact Z.1,tQ F.cl Z.2 Y.2 U⟩
theorem Vc.DX {O : aM} {El : Int->Prop} (F : bI O El) {n : Nat} {r : LI} {x : Int} (Z : Vc El n r) (S : El x) : Vc El n (r.map (O.mul x)) :=
 ⟨by rw [J5];exact Z.1,λy U=>by obtain ⟨z,Y,rfl⟩:=List.mem_map.1 U;exact F.cl.mul _ _ S (Z.2 z Y)⟩
structure ka (O : aM) (El : Int->Prop) (n : Nat) (φ : LI->Int) : Prop where
 el : ∀v,Vc El n v->El (φ v)
 sub : ∀v r x,Vc El n v->Vc El n r->El x->φ (dL O v x r)=O.add (φ v) (O.neg (O.mul x (φ r)))
 DX : ∀r x,Vc El n r->El x->φ (r.map (O.mul x))=O.mul x (φ r)
variable {O : aM} {El : Int->Prop} {n : Nat}
theorem j4 (O : aM) (r : LI) (x : Int) {i : Nat} (hi : i<r.length) : nth (r.map (O.mul x)) i=O.mul x (nth r i):=by rw [aj (by simpa using hi),aj hi];simp
theorem ka.AG (F : bI O El) {i : Nat} (hi : i<n) : ka O El n (λv=>nth v i) :=
 ⟨λv Z=>Z.at hi,λv r x Z Y U=>eF O v x r i (by rw [Y.1,Z.1]) (by rw [Z.1];exact hi),λr x Y U=>j4 O r x (by rw [Y.1];exact hi)⟩
theorem ka.congr (F : bI O El) {Q S : LI->Int} (h : ka O El n Q) (e : ∀v,Vc El n v->S v=Q v) : ka O El n S :=
 ⟨λv Y=>by rw [e v Y];exact h.el v Y,λv r x Y Z U=>by rw [e _ (Y.sub F Z U),e v Y,e r Z];exact h.sub v r x Y Z U,
  λr x Z U=>by rw [e _ (Z.DX F U),e r Z];exact h.DX r x Z U⟩
theorem ka.comb (F : bI O El) {N Q : LI->Int} (h : ka O El n N) (g : ka O El n Q) {s : Int} (S : El s) : ka O El n (λv=>O.add (N v) (O.neg (O.mul (Q v) s))) :=
 ⟨λv U=>F.cl.add _ _ (h.el v U) (F.cl.neg _ (F.cl.mul _ _ (g.el v U) S)),
  λv r x U Z Y=>by show O.add (N (dL O v x r)) (O.neg (O.mul (Q (dL O v x r)) s))=_;rw [h.sub v r x U Z Y,g.sub v r x U Z Y];exact F.comb (h.el v U) (h.el r Z) Y (g.el v U) (g.el r Z) S,
  λr x Z Y=>by show O.add (N (r.map (O.mul x))) (O.neg (O.mul (Q (r.map (O.mul x))) s))=_;rw [h.DX r x Z Y,g.DX r x Z Y,F.mul_assoc x _ s Y (g.el r Z) S,<- F.mul_neg Y (F.cl.mul _ _ (g.el r Z) S),<- F.mul_add x _ _ Y (h.el r Z) (F.cl.neg _ (F.cl.mul _ _ (g.el r Z) S))]⟩
def ku (O : aM) (El : Int->Prop) (n : Nat) (c : Nat->LI) (l : LN) (x : Nat) : Prop:=∀Z,ka O El n Z->(∀y ∈ l,Z (c y)=0)->Z (c x)=0
theorem BG (F : bI O El) {c : Nat->LI} (hc : ∀i,Vc El n (c i)) : AR (ku O El n c) where
 mem l x hx φ _ h:=h x hx
 mono l l' h y hy φ hφ h0:=hy φ hφ λx hx=>h x hx φ hφ h0
 exch l x y h hn:=by
  intro b hb h0;apply Kg;intro hbx;apply hn;intro a ha ha0;apply Kg;intro hay;have hax : a (c x) ≠ 0:=λe=>hay (h a ha λz hz=>by
   rcases List.mem_cons.1 hz with rfl | hz
   ·exact e
   ·exact ha0 z hz)
  have h1:=ha.el _ (hc x);have h2:=hb.el _ (hc x);have hbi:=F.cl.inv _ h2 hbx;have hs:=F.cl.mul _ _ hbi h1;have:=h _ (ha.comb F hb hs) λz hz=>by
   rcases List.mem_cons.1 hz with rfl | hz
   ·show O.add (a (c z)) (O.neg (O.mul (b (c z)) (O.mul (O.inv (b (c z))) (a (c z)))))=0;rw [<- F.mul_assoc _ _ _ h2 hbi h1,F.mul_inv _ h2 hbx,F.one_mul _ h1,F.add_neg _ h1]
   ·show O.add (a (c z)) (O.neg (O.mul (b (c z)) _))=0;rw [ha0 z hz,h0 z (List.mem_cons.2 (.inr hz)),F.iY hs,F.eY,F.add_zero 0 F.zero]
  have h3 : O.add (a (c y)) (O.neg (O.mul (b (c y)) (O.mul (O.inv (b (c x))) (a (c x)))))=0:=this;rw [h0 y (by simp),F.iY hs,F.eY,F.add_zero _ (ha.el _ (hc y))] at h3;exact hay h3
structure BS.Inv (El : Int->Prop) (n : Nat) (s : BS) : Prop where
 ok : s.Ok El n
 one : ∀i,i<s.rows.length->nth (ai s.rows i) (nth s.place i).toNat=1
 zero : ∀j i,j<i->i<s.rows.length->nth (ai s.rows i) (nth s.place j).toNat=0
theorem BS.Ok.row {s : BS} (h : s.Ok El n) {i : Nat} (hi : i<s.rows.length) : Vc El n (ai s.rows i):=h.rws.row hi
theorem BS.Ok.pl {s : BS} (h : s.Ok El n) {i : Nat} (hi : i<s.rows.length) : (nth s.place i).toNat<n:=by have:=h.plc i hi;omega
theorem Vc.ef (F : bI O El) {u r : LI} {p : Int} (hu : Vc El n u) (Z : Vc El n r) (Y : p.toNat<n) : Vc El n (ef O u p r):=by
 unfold Go.Proofs.YthglbncgemdcbaaGreat.ef;split
 ·exact hu
 ·exact hu.sub F Z (hu.at Y)
theorem Vc.redTo (F : bI O El) {s : BS} (h : s.Ok El n) {v : LI} (Z : Vc El n v) : ∀k,k<=s.rows.length->Vc El n (redTo O s.rows s.place v k)
 | 0,_=>Z
 | k+1,Y=>(Vc.redTo F h Z k (by omega)).ef F (h.row (by omega)) (h.pl (by omega))
theorem e9 (F : bI O El) {u r : LI} {p : Int} (hu : Vc El n u) (Z : Vc El n r) (Y : p.toNat<n) {i : Nat} (hi : i<n) :
  nth (ef O u p r) i=O.add (nth u i) (O.neg (O.mul (nth u p.toNat) (nth r i))):=by
 unfold ef;split
 ·rename_i h0;rw [h0,F.iY (Z.at hi),F.eY,F.add_zero _ (hu.at hi)]
 ·exact eF O u _ r i (by rw [Z.1,hu.1]) (by rw [hu.1];exact hi)
namespace BS.Inv
variable {s : BS}
theorem place (F : bI O El) (h : s.Inv El n) {v : LI} (U : Vc El n v) : ∀k,k<=s.rows.length->∀j,j<k->nth (redTo O s.rows s.place v k) (nth s.place j).toNat=0
 | 0,_,j,S=>by omega
 | k+1,Q,j,S=>by
  have hu:=Vc.redTo F h.ok U k (by omega);have Z:=h.ok.pl (i:=k) (by omega);have Y:=h.ok.pl (i:=j) (by omega);rw [redTo,e9 F hu (h.ok.row (by omega)) Z Y];by_cases e : j=k
  ·subst e;rw [h.one j (by omega),F.gR (hu.at Z),F.add_neg _ (hu.at Z)]
  ·rw [place F h U k (by omega) j (by omega),h.zero j k (by omega) (by omega),F.cQ (hu.at Z),F.eY,F.add_zero 0 F.zero]
theorem stay (h : s.Inv El n) {i : Nat} (hi : i<s.rows.length) : ∀k,k<=i->redTo O s.rows s.place (ai s.rows i) k=ai s.rows i
 | 0,_=>rfl
 | k+1,Z=>by rw [redTo,stay h hi k (by omega),ef,JT (h.zero k i (by omega) hi)]
theorem gone (F : bI O El) (h : s.Inv El n) {i : Nat} (hi : i<s.rows.length) : ∀k,i<k->k<=s.rows.length->∀t,t<n->nth (redTo O s.rows s.place (ai s.rows i) k) t=0
 | 0,S,_,_,_=>by omega
 | k+1,S,Q,t,Y=>by
  have hu:=Vc.redTo F h.ok (h.ok.row hi) k (by omega);have U:=h.ok.row (i:=k) (by omega);have Z:=h.ok.pl (i:=k) (by omega);rw [redTo,e9 F hu U Z Y];by_cases e : k=i
  ·subst e;rw [h.stay hi k (JO _),h.one k hi,F.one_mul _ (U.at Y),F.add_neg _ (U.at Y)]
  ·rw [gone F h hi k (by omega) (by omega) t Y,gone F h hi k (by omega) (by omega) _ Z,F.iY (U.at Y),F.eY,F.add_zero 0 F.zero]
theorem Js (F : bI O El) (h : s.Inv El n) : ∀k,k<=s.rows.length->∀i,i<n->ka O El n (λv=>nth (redTo O s.rows s.place v k) i)
 | 0,_,i,hi=>ka.AG F hi
 | k+1,S,i,hi=>by have Z:=h.ok.pl (i:=k) (by omega);have Y:=h.ok.row (i:=k) (by omega);refine ka.congr F ((Js F h k (by omega) i hi).comb F (Js F h k (by omega) _ Z) (Y.at hi)) λv U=>?_;show nth (redTo O s.rows s.place v (k+1)) i=_;rw [redTo,e9 F (Vc.redTo F h.ok U k (by omega)) Y Z hi]
theorem form (F : bI O El) (h : s.Inv El n) {S : LI->Int} (Z : ka O El n S) (h0 : ∀i,i<s.rows.length->S (ai s.rows i)=0) {v : LI} (U : Vc El n v) : ∀k,k<=s.rows.length->S (redTo O s.rows s.place v k)=S v
 | 0,_=>rfl
 | k+1,N=>by
  have hu:=Vc.redTo F h.ok U k (by omega);have Q:=h.ok.row (i:=k) (by omega);have Y:=h.ok.pl (i:=k) (by omega);rw [redTo,ef];split
  ·exact form F h Z h0 U k (by omega)
  ·rw [Z.sub _ _ _ hu Q (hu.at Y),h0 k (by omega),F.cQ (hu.at Y),F.eY,form F h Z h0 U k (by omega),F.add_zero _ (Z.el v U)]
end BS.Inv
theorem ka.zero (F : bI O El) {Y : LI->Int} (h : ka O El n Y) {v : LI} (Z : Vc El n v) (h0 : ∀i,i<n->nth v i=0) : Y v=0:=by
 have e : v=v.map (O.mul 0):=fZ (by simp) λi hi=>by rw [j4 O v 0 hi,F.iY (Z.at (by rw [<- Z.1];exact hi)),h0 i (by rw [<- Z.1];exact hi)]
 rw [e,h.DX v 0 Z F.zero,F.iY (h.el v Z)]
theorem oX (F : bI O El) {s : BS} (h : s.Inv El n) {v : LI} (S : Vc El n v) :
  s.gd O v=false ↔ ∀Y,ka O El n Y->(∀i,i<s.rows.length->Y (ai s.rows i)=0)->Y v=0:=by
 have hu : Vc El n (s.red O v):=Vc.redTo F h.ok S _ (JO _);constructor
 ·intro U Y Z h0;rw [<- h.form F Z h0 S _ (JO _)];refine Z.zero F hu λi hi=>yx (s.red O v) i ?_;have h1 : ¬ fnz (s.red O v)<(s.red O v).length:=by simpa [BS.gd] using U
  have h2:=EP (s.red O v);have:=hu.1;omega
 ·intro h0;apply Kg;intro U;have h1 : fnz (s.red O v)<(s.red O v).length:=by simpa [BS.gd] using U
  have:=hu.1;exact lY _ h1 (h0 _ (h.Js F _ (JO _) _ (by omega)) λi hi=>h.gone F hi _ hi (JO _) _ (by omega))
theorem jN (L : Ll) (r : LI) (i : Nat) : ai (L ++ [r]) i=if i<L.length then ai L i else if i=L.length then r else ai [] 0:=by
 unfold ai;simp only [JS];split
 ·rename_i h;rw [J8 h]
 ·rename_i h;split
  ·rename_i e;subst e;simp
  ·rename_i e;rw [KS (by simp;omega)];simp
theorem gL (l : LI) (r : Int) (i : Nat) : nth (l ++ [r]) i=if i<l.length then nth l i else if i=l.length then r else 0:=by
 unfold nth;simp only [JS];split
 ·rename_i h;rw [J8 h]
 ·rename_i h;split
  ·rename_i e;subst e;simp
  ·rename_i e;rw [KS (by simp;omega)];simp
theorem BS.Inv.next (F : bI O El) {s : BS} (h : s.Inv El n) {v : LI} (Y : Vc El n v) : (s.next O v).Inv El n:=by
 refine ⟨h.ok.next F.cl Y,?_,?_⟩
 ·unfold BS.next;split
  ·rename_i S;have hu : Vc El n (s.red O v):=Vc.redTo F h.ok Y _ (JO _);have U : fnz (s.red O v)<(s.red O v).length:=by simpa [BS.gd] using S
   have hne:=lY _ U;have N:=hu.1;have Z:=hu.at (i:=fnz (s.red O v)) (by omega);intro i hi;simp only [J0,Ka] at hi;simp only [jN,gL,h.ok.len];by_cases e : i<s.rows.length
   ·rw [JT e,JT e];exact h.one i e
   ·rw [JR e,JR e,JT (by omega),JT (by omega),JQ,j4 O _ _ U,F.mul_comm _ _ (F.cl.inv _ Z hne) Z,F.mul_inv _ Z hne]
  ·exact h.one
 ·unfold BS.next;split
  ·rename_i S;have hu : Vc El n (s.red O v):=Vc.redTo F h.ok Y _ (JO _);have U : fnz (s.red O v)<(s.red O v).length:=by simpa [BS.gd] using S
   have hne:=lY _ U;have N:=hu.1;have Z:=hu.at (i:=fnz (s.red O v)) (by omega);intro j i Q hi;simp only [J0,Ka] at hi;simp only [jN,gL,h.ok.len];rw [JT (show j<s.rows.length by omega)];by_cases e : i<s.rows.length
   ·rw [JT e];exact h.zero j i Q e
   ·have L:=h.ok.pl (i:=j) (by omega);rw [JR e,JT (by omega),j4 O _ _ (by omega),BS.red,h.place F Y _ (JO _) j (by omega)];exact F.cQ (F.cl.inv _ Z hne)
  ·exact h.zero
def F7 (O : aM) (El : Int->Prop) (n : Nat) (c : Nat->LI) (l : LN) (s : BS) : Prop :=
 ∀Z,ka O El n Z->((∀y ∈ l,Z (c y)=0) ↔ ∀i,i<s.rows.length->Z (ai s.rows i)=0)
theorem F7.next (F : bI O El) {c : Nat->LI} (H : ∀i,Vc El n (c i)) {l : LN} {s : BS} (h : s.Inv El n) (D : F7 O El n c l s) (x : Nat) : F7 O El n c (x :: l) (s.next O (c x)):=by
 intro S Y;have key : (∀i,i<s.rows.length->S (ai s.rows i)=0)->((S (c x)=0) ↔ ∀i,i<(s.next O (c x)).rows.length->S (ai (s.next O (c x)).rows i)=0):=by
  intro h0;have hu : Vc El n (s.red O (c x)):=Vc.redTo F h.ok (H x) _ (JO _);have U:=h.form F Y h0 (H x) _ (JO _);unfold BS.next;split
  ·rename_i I;have C : fnz (s.red O (c x))<(s.red O (c x)).length:=by simpa [BS.gd] using I
   have hne:=lY _ C;have z:=hu.1;have N:=hu.at (i:=fnz (s.red O (c x))) (by omega);have hi:=F.cl.inv _ N hne;have Q:=Y.DX _ _ hu hi;have L : O.inv (nth (s.red O (c x)) (fnz (s.red O (c x)))) ≠ 0:=by intro e;have:=F.mul_inv _ N hne;rw [e,F.cQ N] at this;exact absurd this (by decide)
   constructor
   ·intro A i E;simp only [J0,Ka] at E;simp only [jN];by_cases e : i<s.rows.length
    ·rw [JT e];exact h0 i e
    ·rw [JR e,JT (by omega),Q];show O.mul _ (S (redTo O s.rows s.place (c x) s.rows.length))=0;rw [U,A,F.cQ hi]
   ·intro Z;have:=Z s.rows.length (by simp);simp only [jN] at this;rw [JR (MJ _),JT trivial,Q] at this;rw [<- U];exact F.u9 hi (Y.el _ hu) L this
  ·rename_i I;exact ⟨λ_=>h0,λ_=>(oX F h (H x)).1 (by simpa using I) S Y h0⟩
 constructor
 ·intro Z;have h1 : ∀i,i<s.rows.length->S (ai s.rows i)=0:=(D S Y).1 λy K=>Z y (List.mem_cons.2 (.inr K));exact (key h1).1 (Z x (by simp))
 ·intro Z;have h1 : ∀i,i<s.rows.length->S (ai s.rows i)=0:=by
   intro i hi;have hlen : s.rows.length<=(s.next O (c x)).rows.length:=by unfold BS.next;split <;> simp
   have:=Z i (by omega);unfold BS.next at this;split at this
   ·simp only [jN] at this;rw [JT hi] at this;exact this
   ·exact this
  intro y K;rcases List.mem_cons.1 K with rfl | K
  ·exact (key h1).2 Z
  ·exact (D S Y).2 h1 y K
def mg (Q : LI) : Nat->LN
 | 0=>[]
 | k+1=>(nth Q k).toNat :: mg Q k
theorem fu (Q : LI) (x : Nat) : ∀k,x ∈ mg Q k ↔ ∃j,j<k/\(nth Q j).toNat=x
 | 0=>by simp [mg]
 | k+1=>by
  rw [mg,List.mem_cons,fu Q x k];constructor
  ·rintro (h | ⟨j,Z,h⟩)
   ·exact ⟨k,by omega,h.symm⟩
   ·exact ⟨j,by omega,h⟩
  ·rintro ⟨j,Z,h⟩;by_cases e : j=k
   ·subst e;exact .inl h.symm
   ·exact .inr ⟨j,by omega,h⟩
theorem cO {m : Nat} {L : Ll} (h : bs El m L) (h0 : El 0) (i : Nat) : Vc El L.length (aX L i):=by
 refine ⟨dt _ _,λy Y=>?_⟩;unfold aX at Y;obtain ⟨r,Z,rfl⟩:=List.mem_map.1 Y;by_cases hi : i<m
 ·exact (h r Z).2 _ (aI (by rw [(h r Z).1];exact hi))
 ·have : nth r i=0:=by unfold nth;rw [JS,KS (by rw [(h r Z).1];omega)];rfl
  rw [this];exact h0
theorem EB (F : bI O El) {m : Nat} {L : Ll} (I : bs El m L) (Q : LI) : ∀k,(grTo O L Q k).1.Inv El L.length/\F7 O El L.length (aX L) (mg Q k) (grTo O L Q k).1 /\
  Rk (ku O El L.length (aX L)) (mg Q k) (grTo O L Q k).2.length
 | 0=>⟨⟨⟨λr E=>by simp [grTo] at E,rfl,λi hi=>by simp [grTo] at hi⟩,λi hi=>by simp [grTo] at hi,λj i _ hi=>by simp [grTo] at hi⟩,λY _=>⟨λ_ i hi=>by simp [grTo] at hi,λ_ y H=>by simp [mg] at H⟩,.nil⟩
 | k+1=>by
  obtain ⟨h1,h2,h3⟩:=EB F I Q k;have N:=cO I F.zero;refine ⟨h1.next F (N _),h2.next F N h1 _,?_⟩;have K:=oX F h1 (N (nth Q k).toNat);have U : ku O El L.length (aX L) (mg Q k) (nth Q k).toNat ↔ (grTo O L Q k).1.gd O (aX L (nth Q k).toNat)=false:=by rw [K];exact ⟨λh Y Z h0=>h Y Z ((h2 Y Z).2 h0),λh Y Z h0=>h Y Z ((h2 Y Z).1 h0)⟩
  rw [mg,grTo];by_cases S : (grTo O L Q k).1.gd O (aX L (nth Q k).toNat)=true
  ·rw [JT S];simp only [J0,Ka];exact .ind _ (λh=>by rw [U.1 h] at S;simp at S) h3
  ·rw [JR S];exact .dep _ (U.2 (by simpa using S)) h3
theorem ob (F : bI O El) {m : Nat} {L : Ll} (Z : bs El m L) (Q : LI) : Rk (ku O El L.length (aX L)) (mg Q Q.length) (lT O L Q).length:=(EB F Z Q Q.length).2.2
theorem gE (F : bI O El) {m : Nat} {L : Ll} (Z : bs El m L) : AR (ku O El L.length (aX L)):=BG F (cO Z F.zero)
end
theorem vx (L : Ll) (t : Nat) : bt L t t=L:=by rw [bt,kW,kW]
theorem aT.newRow {V S : World} {B : Nat} {a : OA} {n c : Nat} {R : LA} {L : Ll} (h : aT V B a n c R L) {i : Nat} (hi : i<n) (hb : OC V S) (I : B<=V.heap.size) {a5 : OA} {U : Nat} {l : LI}
  (Z : S.ownsRow V.heap.size 3 1 (.slice a5 l.length U) l.length (l.map (Value.int .i64))) :
  ∃N,aT (S.setCell ⟨ablk a,aL a+i,none⟩ (.slice a5 l.length U)) B a n c N (L.set i l)/\aD V (S.setCell ⟨ablk a,aL a+i,none⟩ (.slice a5 l.length U)) (bX a R) (bX a N):=by
 have Q:=h.af hb;have Y : ∀b,b<V.heap.size->eX a5 b:=λb hb=>pV Z hb;have h1:=Q.setRow hi (bd Z I) (Y _ (h.lt _ (.inl ⟨h.ne (by omega),rfl⟩)).2) (λj H _=>by
  by_cases K : (aR R j).1=none
  ·exact .inl K
  ·exact .inr (Y _ (h.lt _ (aT.nh (by rw [h.rl];exact H) K)).2))
 have h2:=h.lU hb hi (r:=a5) (rc:=U) (.slice a5 l.length U) (λha=>.inr (ba Z ha).1);exact ⟨_,h1,h2⟩
def jG (O : aM) (L : Ll) (Z : Nat) (w : World) (e : Ending) (w' : World) : Prop :=
 ∃a c R ap cp,e = .returned (.tuple #[.slice a L.length c,.slice ap (aC O L Z).2.length cp])/\aT w' w.heap.size a L.length c R (aC O L Z).1 /\
  w'.ownsRow w.heap.size 3 1 (.slice ap (aC O L Z).2.length cp) (aC O L Z).2.length ((aC O L Z).2.map (Value.int .i64))/\OC w w'
theorem oM (P : Int) (m : Nat) (am : OA) (mn cm : Nat) (mod : LI) (a : OA) (n c Y len : Nat) (L : Ll) (w : World) (hf : sO w P m am mn mod) (hi : bu w a n L)
  (hR : bs (eH P m) len L) (hcl : Y<=len) (hlen : len<=1000000) (hn : n<=1000000) (hinv : ∀p,eH P m p->p ≠ 0->(gn P m mod p=1 ↔ p=1)) :
  Calls prog 179 #[.agg #[.int .i64 P,.int .i64 m,.slice am mn cm],.slice a n c,.int .i64 Y] w (jG (jW P m mod) L Y w):=by
 obtain ⟨O,hO⟩ : ∃O,jW P m mod=O:=⟨_,rfl⟩
 rw [hO];have HO:=Z5 hO;have Hcl : Hid (qa O (eH P m)):=by show qa O _;rw [<- hO];exact JJ hf.rf mod
 have Hinv:=Z5 hinv;have Hlen:=Z5 hi.len;have HR:=Z5 hR;have hLl : ∀l ∈ L,l.length<=1000000:=λl hl=>by rw [(hR l hl).1];exact hlen
 have HLl:=Z5 hLl;clear hinv hR hLl hO;have hfin : ∀w' a' c' R' ap cp Lk r,(Lk,r)=aC O L Y->aT w' w.heap.size a' n c' R' Lk->w'.ownsRow w.heap.size 3 1 (.slice ap r.length cp) r.length (r.map (Value.int .i64))->OC w w' ->
   jG O L Y w (.returned (.tuple #[.slice a' n c',.slice ap r.length cp])) w':=by
  intro w' a' c' R' ap cp Lk r he h1 h2 h3;have e1 : (aC O L Y).1=Lk:=by rw [<- he]
  have S : (aC O L Y).2=r:=by rw [<- he]
  refine ⟨a',c',R',ap,cp,?_,?_,?_,h3⟩
  ·rw [S,Hlen.out]
  ·rw [e1,Hlen.out];exact h1
  ·rw [S];exact h2
 have Hfin:=Z5 hfin;clear hfin;go_enter func179,ntmps179;go_wp2_with fail;obtain ⟨W,hW⟩ : ∃W : World,W=w.alloc (.cells #[.int .i64 P,.int .i64 m,.slice am mn cm] 24):=⟨_,rfl⟩
 rw [<- hW];have hbW : OC w W:=by rw [hW];exact an _ _
 have x0 : aO W w.heap.size [.int .i64 P,.int .i64 m,.slice am mn cm]:=by rw [hW];exact NY _ _ _ rfl
 have HX:=Z5 x0;have hfW:=hf.af hbW;clear hW x0;refine (CC a n c L W (hi.af hbW) hn HLl.out).mono ?_;rintro e w1 ⟨a1,c1,R1,rfl,hO1,hb1⟩;rw [Hlen.out] at hO1 ⊢;have hS : ∀V,OC W V->V.cell? ⟨w.heap.size,0,none⟩=some (.int .i64 P)/\V.cell? ⟨w.heap.size,1,none⟩=some (.int .i64 m)/\V.cell? ⟨w.heap.size,2,none⟩=some (.slice am mn cm)/\sO V P m am mn mod:=by intro V Q;have x1:=HX.out.af Q;exact ⟨x1.cell 0 rfl,x1.cell 1 rfl,x1.cell 2 rfl,hfW.af Q⟩
 have HS:=Z5 hS;have hpl1:=hO1.pl;clear hS;go_wp2_with fail;go_loopw [9,10,11] (λpv av cv wr=>∃(k : Nat) (R' : LA) (ap : OA) (cp : Nat) (Lk : Ll) (r : LI),k<=Y/\cv = .int .i64 k/\av = .int .i64 r.length/\pv = .slice ap r.length cp /\
   Hid ((Lk,r)=aC O L k)/\aT wr W.heap.size a1 n c1 R' Lk/\wr.ownsRow W.heap.size 3 1 (.slice ap r.length cp) r.length (r.map (Value.int .i64))/\Hid (ap ≠ none->¬ bX a1 R' (ablk ap)) /\
   OC W wr/\bs (eH P m) len Lk/\r.length<=n) (λ_ _ cv _=>Y - (intOf cv).toNat)
 case atStart=>exact ⟨0,R1,none,0,L,[],JU _,rfl,rfl,rfl,rfl,hO1,cF,λh=>absurd rfl h,hb1,HR.out,JU _⟩
 case round =>
  obtain ⟨k,R',ap,cp,Lk,r,hkc,rfl,rfl,rfl,hst,hOr,hop,hoi,hbr,hrw,hPn⟩:=hrel
  generalize wr=V at *
  have A:=Z5 hOr.ll
  by_cases hk : k<Y
  ·have hk' : decide ((k : Int)<Y)=true:=by simp;omega
   by_cases I : r.length<n
   ·have hPl' : decide ((r.length : Int)<n)=true:=by simp;omega
    obtain ⟨t,ht⟩ : ∃t,r.length=t:=⟨_,rfl⟩
    have Ht:=Z5 ht
    rw [ht] at I hPn hop hPl'
    rw [ht]
    clear ht
    go_wp2_with fail
    go_loop [12] (λkv=>∃j : Nat,t<=j/\j<=n/\kv = .int .i64 j/\Hid (aZ Lk k t=aZ Lk k j)) (λkv=>n - (intOf kv).toNat)
    case atStart=>exact ⟨t,JO _,hPn,rfl,rfl⟩
    case round =>
     obtain ⟨j,hj1,hj2,rfl,hfr⟩:=hrel
     by_cases hjn : j<n
     ·have hLj : j<Lk.length:=by rw [A.out];exact hjn
      have hrow:=hrw.row hLj
      have ci:=hOr.cell hjn
      have ri:=hOr.ints hjn
      rw [hrow.1] at ci ri
      have ck:=ri.cell k (by omega)
      have hpr:=ri.pl
      have hkl : (k : Int)<len:=by omega
      have hjn' : decide ((j : Int)<n)=true:=by simp;omega
      have hfs:=gZ (c:=k) hLj
      by_cases hz : nth (ai Lk j) k=0
      ·rw [JT hz] at hfs
       have hz' : (nth (ai Lk j) k == 0)=true:=by simpa using hz
       have Hf : Hid (aZ Lk k t=aZ Lk k (j+1)):=by show _=_;rw [hfr.out,hfs]
       clear hz hfs hrow
       go_wp2_with fail
       go_round
       case rel=>exact ⟨j+1,by omega,by omega,by go_num,Hf.out⟩
       case measure=>simp [intOf] <;> omega
      ·rw [JR hz] at hfs
       have hz' : (nth (ai Lk j) k == 0)=false:=by simpa using hz
       have Hf : Hid (aZ Lk k t=j):=by show _=_;rw [hfr.out,hfs]
       have hjne : ((j : Int) == n)=false:=by simp;omega
       have Hz:=Z5 hz
       have Hrow:=Z5 hrow
       clear hz hfs hrow
       have ct:=hOr.cell I
       have fk:=hOr.frozen hjn
       have ft:=hOr.frozen I
       have k3 : (V.setCell ⟨ablk a1,aL a1+t,none⟩ (.slice (aR R' j).1 len (aR R' j).2)).cell? ⟨ablk a1,aL a1+j,none⟩=some (.slice (aR R' j).1 len (aR R' j).2):=by
        by_cases e : j=t
        ·subst e;exact Kf _ _ _ ct
        ·rw [J7 _ _ _ _ (by simp <;> omega)];exact ci
       have htl : t<Lk.length:=by rw [A.out];exact I
       have hrt:=hrw.row htl
       rw [hrt.1] at ct
       have Hrt:=Z5 hrt
       clear hrt
       go_upto_region 11 with fail
       go_cut [] (λwx=>∃R2,aT wx W.heap.size a1 n c1 R2 (bt Lk t j)/\aD V wx (bX a1 R') (bX a1 R2))
       case first =>
        have z:=(hOr.swap I hjn).drew
        have hM2:=(hOr.r9 I hjn (.slice (aR R' j).1 (ai Lk j).length (aR R' j).2) (.slice (aR R' t).1 (ai Lk t).length (aR R' t).2)).drew
        rw [Hrow.out.1,Hrt.out.1] at z hM2
        have HO2:=Z5 (JZ z hM2)
        clear z hM2
        go_region
        all_goals (
         go_wp2_with fail
         go_meet
         exact ⟨_,HO2.out.1,HO2.out.2⟩)
       obtain ⟨R2,z,hM2⟩:=hcut
       generalize wc=U at *
       have hbU : OC W U:=hbr.trans (hM2.below (λb' hb'=>(hOr.lt b' hb').1) hbr.size)
       have hrw1:=hrw.swap htl hLj
       have hl1 : (bt Lk t j).length=n:=by rw [bG];exact A.out
       have hnz1 : nth (ai (bt Lk t j) t) k ≠ 0:=by
        rw [iH _ _ _ _ htl hLj];have e : dM t j t=j:=by unfold dM;split <;> simp_all
        rw [e];exact Hz.out
       have HL1 : Hid (en O Lk t j k=clearTo O t k (bw O (bt Lk t j) t k) n):=by
        show _=_;rw [iB,A.out];by_cases e : j=t
        ·rw [JT e,e,vx]
        ·rw [JR e]
       obtain ⟨L1,hL1⟩ : ∃L1,bt Lk t j=L1:=⟨_,rfl⟩
       rw [hL1] at z hrw1 hl1 hnz1 HL1
       have hrow1:=hrw1.row (i:=t) (by omega)
       have tr:=z.cell I
       have ti:=z.ints I
       rw [hrow1.1] at tr ti
       have tc:=ti.cell k (by omega)
       have tp:=ti.pl
       have hel : eH P m (nth (ai L1 t) k):=hrow1.2 _ (aI (by rw [hrow1.1];omega))
       have hiff:=Hinv.out _ hel hnz1
       have hOinv : O.inv (nth (ai L1 t) k)=gn P m mod (nth (ai L1 t) k):=by rw [<- HO.out];rfl
       have HOinv:=Z5 hOinv
       have Hiff:=Z5 hiff
       have Hrow1:=Z5 hrow1
       have Hl1:=Z5 hl1
       have Hnz1:=Z5 hnz1
       have hopU:=hM2.own hop hoi.out
       have hoiU : ap ≠ none->¬ bX a1 R2 (ablk ap):=λhn=>hM2.not (ba hop hn).2 (hoi.out hn)
       have HoiU:=Z5 hoiU
       obtain ⟨d0,d1,d2,hfU⟩:=HS.out U hbU
       have hBU:=hbU.size
       clear hL1 hrow1 hl1 hnz1 hiff hOinv hoiU ci ri ck hpr ct fk ft k3 hjn' hz' hop hM2 hOr
       go_upto_if 69 with fail
       go_cut [] (λwx=>∃R3,aT wx W.heap.size a1 n c1 R3 (bw O L1 t k)/\aD U wx (bX a1 R2) (bX a1 R3))
       case first =>
        by_cases hp1 : nth (ai L1 t) k=1
        ·have hp1' : (nth (ai L1 t) k != 1)=false:=by simp [hp1]
         have Hn : Hid (bw O L1 t k=L1):=by show _=_;rw [bw,JT (by rw [HOinv.out];exact Hiff.out.2 hp1)]
         clear hp1
         go_wp2_with fail
         go_meet
         exact ⟨R2,by rw [Hn.out];exact z,N9 _ _⟩
        ·have hp1' : (nth (ai L1 t) k != 1)=true:=by simpa using hp1
         obtain ⟨N,hN⟩ : ∃N,(ai L1 t).map (mulR P m mod (gn P m mod (nth (ai L1 t) k)))=N:=⟨_,rfl⟩
         have Hn : Hid (bw O L1 t k=L1.set t N):=by show _=_;rw [bw,JR (by rw [HOinv.out];exact λh=>hp1 (Hiff.out.1 h)),HOinv.out,<- hN,<- HO.out];rfl
         have hQ : ∀V,OC U V->V.cell? ⟨w.heap.size,0,none⟩=some (.int .i64 P)/\V.cell? ⟨w.heap.size,1,none⟩=some (.int .i64 m)/\V.cell? ⟨w.heap.size,2,none⟩=some (.slice am mn cm) /\
           V.cell? ⟨ablk a1,aL a1+t,none⟩=some (.slice (aR R2 t).1 len (aR R2 t).2)/\V.cell? ⟨ablk (aR R2 t).1,aL (aR R2 t).1+k,none⟩=some (.int .i64 (nth (ai L1 t) k))/\V.frozen? ⟨ablk a1,aL a1+t,none⟩=false/\OC U V :=
          λV Q=>⟨aB Q d0,aB Q d1,aB Q d2,aB Q tr,aB Q tc,(z.af Q).frozen I,Q⟩
         have HQ:=Z5 hQ
         have Hin : Hid (∀V,OC U V->Calls prog 226 #[.agg #[.int .i64 P,.int .i64 m,.slice am mn cm],.int .i64 (nth (ai L1 t) k)] V λe w'=>e = .returned (.int .i64 (gn P m mod (nth (ai L1 t) k)))/\OC V w') :=
          λV Q=>EE P m am mn cm mod _ V (hfU.af Q) hel
         have Hsc : Hid (∀V,OC U V->Calls prog 225 #[.agg #[.int .i64 P,.int .i64 m,.slice am mn cm],.int .i64 (gn P m mod (nth (ai L1 t) k)),.slice (aR R2 t).1 len (aR R2 t).2] V (db V N)) :=
          λV Q=>by rw [<- hN];exact zj P m am mn cm mod _ _ len _ _ V (hfU.af Q) (BA hf.rf mod _) (ti.af Q) Hrow1.out.2 hlen
         have HF : Hid (∀V5 a5 c5,V5.ownsRow U.heap.size 3 1 (.slice a5 N.length c5) N.length (N.map (Value.int .i64))->OC U V5 ->
           ∃R3,aT (V5.setCell ⟨ablk a1,aL a1+t,none⟩ (.slice a5 N.length c5)) W.heap.size a1 n c1 R3 (bw O L1 t k)/\aD U (V5.setCell ⟨ablk a1,aL a1+t,none⟩ (.slice a5 N.length c5)) (bX a1 R2) (bX a1 R3)) :=
          λV5 a5 c5 h1 h2=>by rw [Hn.out];exact z.newRow I h2 hBU h1
         clear hp1 hQ hN
         go_wp2_with fail
         obtain ⟨p,hp⟩ : ∃p,nth (ai L1 t) k=p:=⟨_,rfl⟩
         rw [hp] at HQ Hin Hsc
         obtain ⟨iv,hiv⟩ : ∃iv,gn P m mod p=iv:=⟨_,rfl⟩
         rw [hiv] at Hin Hsc
         rw [hp] at tc
         clear hp hiv
         have hap : ∀(V : World) (v : Value),(V.setCell ⟨ablk a1,aL a1+t,none⟩ v).cell? ⟨ablk (aR R2 t).1,aL (aR R2 t).1+k,none⟩=V.cell? ⟨ablk (aR R2 t).1,aL (aR R2 t).1+k,none⟩:=λV v=>by
          refine J7 _ _ _ _ λe=>?_;have h0 : (aR R2 t).1 ≠ none:=λh=>by have:=tp (by omega);rw [h] at this;cases this
          rcases z.sP t I with h1 | h1
          ·exact h0 h1
          ·have h2:=congrArg Addr.block e;simp at h2;first | exact h1 h2 | exact h1 h2.symm
         have Hap:=Z5 hap
         have hBa : U.heap.size<=U.heap.size:=JO _
         have hBlk : W.heap.size<=ablk a1:=(z.lt _ (.inl ⟨z.ne (by omega),rfl⟩)).1
         have HbU:=Z5 hbU
         have HX2 : Hid (∀V,OC W V->V.cell? ⟨w.heap.size,0,none⟩=some (.int .i64 P)/\V.cell? ⟨w.heap.size,1,none⟩=some (.int .i64 m)/\V.cell? ⟨w.heap.size,2,none⟩=some (.slice am mn cm)):=λV Q=>⟨(HS.out V Q).1,(HS.out V Q).2.1,(HS.out V Q).2.2.1⟩
         clear hap
         refine oW (λV=>V.cell? ⟨w.heap.size,0,none⟩=some (.int .i64 P)/\V.cell? ⟨w.heap.size,1,none⟩=some (.int .i64 m)/\V.cell? ⟨w.heap.size,2,none⟩=some (.slice am mn cm)/\V.cell? ⟨ablk a1,aL a1+t,none⟩=some (.slice (aR R2 t).1 len (aR R2 t).2)/\V.cell? ⟨ablk (aR R2 t).1,aL (aR R2 t).1+k,none⟩=some (.int .i64 p)) 18 (by kernel_rfl) (by exact ⟨d0,d1,d2,tr,tc⟩) λhI=>?_
         refine aP (i:=0) (v:=?_) rfl (by decide +kernel) (by decide +kernel) (by decide +kernel) (λ_ _ _ h=>h) (KR ⟨by rfl,?_⟩) hI ?_
         rotate_left
         ·intro V Z;(try dsimp only at Z);obtain ⟨E,e1,S,H,D⟩:=Z;go_simp;(try with_reducible rfl)
         clear hI;intro hI;(try simp only [Act.put,JV,JY,J1] at hI ⊢)
         refine aP (i:=1) (v:=?_) rfl (by decide +kernel) (by decide +kernel) (by decide +kernel) (λ_ _ _ h=>h) (KR ⟨by rfl,?_⟩) hI ?_
         rotate_left
         ·intro V Z;(try dsimp only at Z);obtain ⟨E,e1,S,H,D⟩:=Z;go_simp;(try with_reducible rfl)
         clear hI;intro hI;(try simp only [Act.put,JV,JY,J1] at hI ⊢)
         refine aP (i:=2) (v:=?_) rfl (by decide +kernel) (by decide +kernel) (by decide +kernel) (λ_ _ _ h=>h) (KR ⟨by rfl,?_⟩) hI ?_
         rotate_left
         ·intro V Z;(try dsimp only at Z);obtain ⟨E,e1,S,H,D⟩:=Z;go_simp;(try with_reducible rfl)
         clear hI;intro hI;(try simp only [Act.put,JV,JY,J1] at hI ⊢)
         refine aP (i:=3) (v:=?_) rfl (by decide +kernel) (by decide +kernel) (by decide +kernel) (λ_ _ _ h=>h) (KR ⟨by rfl,?_⟩) hI ?_
         rotate_left
         ·intro V Z;(try dsimp only at Z);obtain ⟨E,e1,S,H,D⟩:=Z;go_simp;(try with_reducible rfl)
         clear hI;intro hI;(try simp only [Act.put,JV,JY,J1] at hI ⊢)
         refine aP (i:=4) (v:=?_) rfl (by decide +kernel) (by decide +kernel) (by decide +kernel) (λ_ _ _ h=>h) (KR ⟨by rfl,?_⟩) hI ?_
         rotate_left
         ·intro V Z;(try dsimp only at Z);obtain ⟨E,e1,S,H,D⟩:=Z;go_simp;(try with_reducible rfl)
         clear hI;intro hI;(try simp only [Act.put,JV,JY,J1] at hI ⊢)
         refine aP (i:=5) (v:=?_) rfl (by decide +kernel) (by decide +kernel) (by decide +kernel) (λ_ _ _ h=>h) (KR ⟨by rfl,?_⟩) hI ?_
         rotate_left
         ·intro V Z;(try dsimp only at Z);obtain ⟨E,e1,S,H,D⟩:=Z;go_simp;(try with_reducible rfl)
         clear hI;intro hI;(try simp only [Act.put,JV,JY,J1] at hI ⊢)
         refine aP (i:=6) (v:=?_) rfl (by decide +kernel) (by decide +kernel) (by decide +kernel) (λ_ _ _ h=>h) (KR ⟨by rfl,?_⟩) hI ?_
         rotate_left
         ·intro V Z;(try dsimp only at Z);obtain ⟨E,e1,S,H,D⟩:=Z;go_simp;(try with_reducible rfl)
         clear hI;intro hI;(try simp only [Act.put,JV,JY,J1] at hI ⊢)
         refine aP (i:=7) (v:=?_) rfl (by decide +kernel) (by decide +kernel) (by decide +kernel) (λ_ _ _ h=>h) (KR ⟨by rfl,?_⟩) hI ?_
         rotate_left
         ·intro V Z;(try dsimp only at Z);obtain ⟨E,e1,S,H,D⟩:=Z;go_simp;(try with_reducible rfl)
         clear hI;intro hI;(try simp only [Act.put,JV,JY,J1] at hI ⊢)
         refine aP (i:=8) (v:=?_) rfl (by decide +kernel) (by decide +kernel) (by decide +kernel) (λ_ _ _ h=>h) (KR ⟨by rfl,?_⟩) hI ?_
         rotate_left
         ·intro V Z;(try dsimp only at Z);obtain ⟨E,e1,S,H,D⟩:=Z;go_simp;(try with_reducible rfl)
         clear hI;intro hI;(try simp only [Act.put,JV,JY,J1] at hI ⊢)
         refine aP (i:=9) (v:=?_) rfl (by decide +kernel) (by decide +kernel) (by decide +kernel) (λ_ _ _ h=>h) (KR ⟨by rfl,?_⟩) hI ?_
         rotate_left
         ·intro V Z;(try dsimp only at Z);obtain ⟨E,e1,S,H,D⟩:=Z;go_simp;(try with_reducible rfl)
         clear hI;intro hI;(try simp only [Act.put,JV,JY,J1] at hI ⊢)
         refine aP (i:=10) (v:=?_) rfl (by decide +kernel) (by decide +kernel) (by decide +kernel) (λ_ _ _ h=>h) (KR ⟨by rfl,?_⟩) hI ?_
         rotate_left
         ·intro V Z;(try dsimp only at Z);obtain ⟨E,e1,S,H,D⟩:=Z;go_simp;(try with_reducible rfl)
         clear hI;intro hI;(try simp only [Act.put,JV,JY,J1] at hI ⊢)
         refine aP (i:=12) (v:=?_) rfl (by decide +kernel) (by decide +kernel) (by decide +kernel) (λ_ _ _ h=>h) (KR ⟨by rfl,?_⟩) hI ?_
         rotate_left
         ·intro V Z;(try dsimp only at Z);obtain ⟨E,e1,S,H,D⟩:=Z;go_simp;(try with_reducible rfl)
         clear hI;intro hI;(try simp only [Act.put,JV,JY,J1] at hI ⊢)
         refine aP (i:=13) (v:=?_) rfl (by decide +kernel) (by decide +kernel) (by decide +kernel) (λ_ _ _ h=>h) (KR ⟨by rfl,?_⟩) hI ?_
         rotate_left
         ·intro V Z;(try dsimp only at Z);obtain ⟨E,e1,S,H,D⟩:=Z;go_simp;(try with_reducible rfl)
         clear hI;intro hI;(try simp only [Act.put,JV,JY,J1] at hI ⊢)
         refine aP (i:=14) (v:=?_) rfl (by decide +kernel) (by decide +kernel) (by decide +kernel) (λ_ _ _ h=>h) (KR ⟨by rfl,?_⟩) hI ?_
         rotate_left
         ·intro V Z;(try dsimp only at Z);obtain ⟨E,e1,S,H,D⟩:=Z;go_simp;(try with_reducible rfl)
         clear hI;intro hI;(try simp only [Act.put,JV,JY,J1] at hI ⊢)
         refine aP (i:=15) (v:=?_) rfl (by decide +kernel) (by decide +kernel) (by decide +kernel) (λ_ _ _ h=>h) (KR ⟨by rfl,?_⟩) hI ?_
         rotate_left
         ·intro V Z;(try dsimp only at Z);obtain ⟨E,e1,S,H,D⟩:=Z;go_simp;(try with_reducible rfl)
         clear hI;intro hI;(try simp only [Act.put,JV,JY,J1] at hI ⊢)
         refine lH (i:=11) (by decide +kernel) (by omega) hI.1 rfl (λK hK=>?_)
         go_simp
         go_at_call 226;((with_reducible refine (Hin.out _ (JP _ _).drew).mono ?_);rintro e w4 ⟨rfl,hb4⟩;obtain ⟨q0,q1,q2,q3,q4,q5,q6⟩:=HQ.out w4 (NX (JP _ _).drew hb4))
         refine hK.out _ _ (by exact ⟨q0,q1,q2,q3,q4⟩) (λhI=>?_)
         clear hK K
         refine lH (i:=16) (by decide +kernel) (by omega) hI.1 rfl (λK hK=>?_)
         go_simp
         go_at_call 225;((with_reducible refine (Hsc.out _ q6).mono ?_);rintro e w5 ⟨a5,c5,rfl,hown5,hb5⟩;obtain ⟨s0,s1,s2,s3,s4,s5,s6⟩:=HQ.out w5 (NX q6 hb5))
         refine hK.out _ _ (by exact ⟨s0,s1,s2,s3,s4⟩) (λhI=>?_)
         clear hK K
         refine aP (i:=17) (v:=?_) rfl (by decide +kernel) (by decide +kernel) (by decide +kernel) (λ_ _ _ h=>h) (KR ⟨by rfl,?_⟩) hI ?_
         rotate_left
         ·intro V Z;(try dsimp only at Z);obtain ⟨E,e1,S,H,D⟩:=Z;go_simp;(try with_reducible rfl)
         clear hI;intro hI;(try simp only [Act.put,JV,JY,J1] at hI ⊢)
         refine qF (i:=18) (by decide +kernel) (by omega) (by decide +kernel) rfl (λK hK=>?_)
         go_simp
         refine hK.out _ _ ?_
         clear hK K
         have Ho5:=Z5 (bd hown5 q6.size)
         clear hown5
         go_wp2_with fail
         go_meet
         exact HF.out _ _ _ Ho5.out s6
       obtain ⟨R3,hO3,hM3⟩:=hcut
       generalize wc=T at *
       have hbT : OC W T:=hbU.trans (hM3.below (λb' hb'=>(z.lt b' hb').1) hbU.size)
       have hrw2:=hrw1.norm Hcl.out (t:=t) (c:=k) (by rw [Hl1.out];exact I) (by omega) Hnz1.out
       have hl2 : (bw O L1 t k).length=n:=by rw [dr];exact Hl1.out
       have Hl2:=Z5 hl2
       have hopT:=hM3.own hopU HoiU.out
       have hoiT : ap ≠ none->¬ bX a1 R3 (ablk ap):=λhn=>hM3.not (ba hopU hn).2 (HoiU.out hn)
       have HoiT:=Z5 hoiT
       clear hl2 hoiT tr ti tc tp hel d0 d1 d2 hfU hopU hM3
       obtain ⟨L2,hL2⟩ : ∃L2,bw O L1 t k=L2:=⟨_,rfl⟩
       rw [hL2] at hO3 hrw2 Hl2 HL1
       clear hL2
       go_wp2_with fail
       go_loopw [13] (λiv wx=>∃(i : Nat) (C : LA),i<=n/\iv = .int .i64 i/\aT wx W.heap.size a1 n c1 C (clearTo O t k L2 i)/\aD T wx (bX a1 R3) (bX a1 C)) (λiv _=>n - (intOf iv).toNat)
       case atStart=>exact ⟨0,R3,JU _,rfl,hO3,N9 _ _⟩
       case round =>
        obtain ⟨i,C,hi,rfl,hOi,hMi⟩:=hrel
        generalize wr=X at *
        have hbX : OC W X:=hbT.trans (hMi.below (λb' hb'=>(hO3.lt b' hb').1) hbT.size)
        obtain ⟨d0,d1,d2,hfX⟩:=HS.out X hbX
        by_cases hin : i<n
        ·have hrwi:=Og Hcl.out hrw2 (t:=t) (c:=k) (by rw [Hl2.out];exact I) (by omega) i (by rw [Hl2.out];exact hi)
         have hli : (clearTo O t k L2 i).length=n:=by rw [dq];exact Hl2.out
         have hstep : clearTo O t k L2 (i+1)=if i=t then clearTo O t k L2 i else (clearTo O t k L2 i).set i (cH O (ai (clearTo O t k L2 i) t) k (ai (clearTo O t k L2 i) i)):=rfl
         have Hstep:=Z5 hstep
         obtain ⟨Li,hLi⟩ : ∃Li,clearTo O t k L2 i=Li:=⟨_,rfl⟩
         rw [hLi] at hrwi hli Hstep hOi
         have hri:=hrwi.row (i:=i) (by omega)
         have hrt:=hrwi.row (i:=t) (by omega)
         have ci:=hOi.cell hin
         have ct:=hOi.cell I
         have ii:=hOi.ints hin
         have it:=hOi.ints I
         rw [hri.1] at ci ii
         rw [hrt.1] at ct it
         have ck:=ii.cell k (by omega)
         have hpi:=ii.pl
         have hxel : eH P m (nth (ai Li i) k):=hri.2 _ (aI (by rw [hri.1];omega))
         have Hri:=Z5 hri
         have Hrt:=Z5 hrt
         clear hri hrt hli hstep hLi
         by_cases hit : i=t
         ·have hit' : ((i : Int) != t)=false:=by simp [hit]
          have Hn : Hid (clearTo O t k L2 (i+1)=Li):=by show _=_;rw [Hstep.out,JT hit]
          clear hit
          go_wp2_with fail
          go_roundw
          case rel=>exact ⟨i+1,C,by omega,by go_num,by rw [Hn.out];exact hOi,hMi⟩
          case measure=>simp [intOf] <;> omega
         ·have hit' : ((i : Int) != t)=true:=by simp;omega
          by_cases hx0 : nth (ai Li i) k=0
          ·have hx0' : (nth (ai Li i) k != 0)=false:=by simp [hx0]
           have Hn : Hid (clearTo O t k L2 (i+1)=Li):=by show _=_;rw [Hstep.out,JR hit,cH,JT hx0,kW]
           clear hit hx0
           go_wp2_with fail
           go_roundw
           case rel=>exact ⟨i+1,C,by omega,by go_num,by rw [Hn.out];exact hOi,hMi⟩
           case measure=>simp [intOf] <;> omega
          ·have hx0' : (nth (ai Li i) k != 0)=true:=by simpa using hx0
           obtain ⟨N,hN⟩ : ∃N,bN O (ai Li i) (fneg P m (nth (ai Li i) k)) (ai Li t)=N:=⟨_,rfl⟩
           have Hn : Hid (clearTo O t k L2 (i+1)=Li.set i N):=by show _=_;rw [Hstep.out,JR hit,cH,JR hx0,<- hN,<- HO.out];rfl
           have hQ : ∀V,OC X V->V.cell? ⟨w.heap.size,0,none⟩=some (.int .i64 P)/\V.cell? ⟨w.heap.size,1,none⟩=some (.int .i64 m)/\V.cell? ⟨w.heap.size,2,none⟩=some (.slice am mn cm) /\
             V.cell? ⟨ablk a1,aL a1+i,none⟩=some (.slice (aR C i).1 len (aR C i).2)/\V.cell? ⟨ablk a1,aL a1+t,none⟩=some (.slice (aR C t).1 len (aR C t).2)/\V.cell? ⟨ablk (aR C i).1,aL (aR C i).1+k,none⟩=some (.int .i64 (nth (ai Li i) k))/\V.frozen? ⟨ablk a1,aL a1+i,none⟩=false/\OC X V :=
            λV Q=>⟨aB Q d0,aB Q d1,aB Q d2,aB Q ci,aB Q ct,aB Q ck,(hOi.af Q).frozen hin,Q⟩
           have HQ:=Z5 hQ
           have Hng : Hid (∀V,OC X V->Calls prog 107 #[.agg #[.int .i64 P,.int .i64 m,.slice am mn cm],.int .i64 (nth (ai Li i) k)] V λe w'=>e = .returned (.int .i64 (fneg P m (nth (ai Li i) k)))/\OC V w') :=
            λV Q=>nP P m am mn cm _ V hf.rf (hf.rf.gV hxel)
           have Had : Hid (∀V,OC X V->Calls prog 227 #[.agg #[.int .i64 P,.int .i64 m,.slice am mn cm],.slice (aR C i).1 len (aR C i).2,.int .i64 (fneg P m (nth (ai Li i) k)),.slice (aR C t).1 len (aR C t).2] V (db V N)) :=
            λV Q=>by rw [<- hN,<- HO.out];exact l5 P m am mn cm mod _ len _ _ _ _ _ _ V (hfX.af Q) (uW hf.rf.res _) (ii.af Q) (it.af Q) Hri.out.2 Hrt.out.2 hlen
           have HF : Hid (∀V5 a5 c5,V5.ownsRow X.heap.size 3 1 (.slice a5 N.length c5) N.length (N.map (Value.int .i64))->OC X V5 ->
             ∃R5,aT (V5.setCell ⟨ablk a1,aL a1+i,none⟩ (.slice a5 N.length c5)) W.heap.size a1 n c1 R5 (clearTo O t k L2 (i+1))/\aD X (V5.setCell ⟨ablk a1,aL a1+i,none⟩ (.slice a5 N.length c5)) (bX a1 C) (bX a1 R5)) :=
            λV5 a5 c5 h1 h2=>by rw [Hn.out];exact hOi.newRow hin h2 hbX.size h1
           have Hit:=Z5 hit
           clear hit hx0 hQ hN Hn
           obtain ⟨p,hp⟩ : ∃p,nth (ai Li i) k=p:=⟨_,rfl⟩
           rw [hp] at HQ Hng Had ck hx0'
           obtain ⟨iv,hiv⟩ : ∃iv,fneg P m p=iv:=⟨_,rfl⟩
           rw [hiv] at Hng Had
           clear hp hiv
           have hap : ∀(V : World) (v : Value),(V.setCell ⟨ablk a1,aL a1+i,none⟩ v).cell? ⟨ablk (aR C i).1,aL (aR C i).1+k,none⟩=V.cell? ⟨ablk (aR C i).1,aL (aR C i).1+k,none⟩ /\
             (V.setCell ⟨ablk a1,aL a1+i,none⟩ v).cell? ⟨ablk a1,aL a1+t,none⟩=V.cell? ⟨ablk a1,aL a1+t,none⟩:=λV v=>by
            refine ⟨J7 _ _ _ _ λe=>?_,J7 _ _ _ _ (by have:=Hit.out;simp <;> omega)⟩;have h0 : (aR C i).1 ≠ none:=λh=>by have:=hpi (by omega);rw [h] at this;cases this
            rcases hOi.sP i hin with h1 | h1
            ·exact h0 h1
            ·have h2:=congrArg Addr.block e;simp at h2;first | exact h1 h2 | exact h1 h2.symm
           have Hap:=Z5 hap
           have hBlk : W.heap.size<=ablk a1:=(hOi.lt _ (.inl ⟨hOi.ne (by omega),rfl⟩)).1
           have HbX:=Z5 hbX
           have HX2 : Hid (∀V,OC W V->V.cell? ⟨w.heap.size,0,none⟩=some (.int .i64 P)/\V.cell? ⟨w.heap.size,1,none⟩=some (.int .i64 m)/\V.cell? ⟨w.heap.size,2,none⟩=some (.slice am mn cm)):=λV Q=>⟨(HS.out V Q).1,(HS.out V Q).2.1,(HS.out V Q).2.2.1⟩
           clear hap
           go_wp2_with fail
           refine oW (λV=>V.cell? ⟨w.heap.size,0,none⟩=some (.int .i64 P)/\V.cell? ⟨w.heap.size,1,none⟩=some (.int .i64 m)/\V.cell? ⟨w.heap.size,2,none⟩=some (.slice am mn cm)/\V.cell? ⟨ablk a1,aL a1+i,none⟩=some (.slice (aR C i).1 len (aR C i).2)/\V.cell? ⟨ablk a1,aL a1+t,none⟩=some (.slice (aR C t).1 len (aR C t).2)/\V.cell? ⟨ablk (aR C i).1,aL (aR C i).1+k,none⟩=some (.int .i64 p)) 22 (by kernel_rfl) (by exact ⟨d0,d1,d2,ci,ct,ck⟩) λhI=>?_
           refine aP (i:=0) (v:=?_) rfl (by decide +kernel) (by decide +kernel) (by decide +kernel) (λ_ _ _ h=>h) (KR ⟨by rfl,?_⟩) hI ?_
           rotate_left
           ·intro V Z;(try dsimp only at Z);obtain ⟨E,e1,S,H,D,e5⟩:=Z;go_simp;(try with_reducible rfl)
           clear hI;intro hI;(try simp only [Act.put,JV,JY,J1] at hI ⊢)
           refine aP (i:=1) (v:=?_) rfl (by decide +kernel) (by decide +kernel) (by decide +kernel) (λ_ _ _ h=>h) (KR ⟨by rfl,?_⟩) hI ?_
           rotate_left
           ·intro V Z;(try dsimp only at Z);obtain ⟨E,e1,S,H,D,e5⟩:=Z;go_simp;(try with_reducible rfl)
           clear hI;intro hI;(try simp only [Act.put,JV,JY,J1] at hI ⊢)
           refine aP (i:=2) (v:=?_) rfl (by decide +kernel) (by decide +kernel) (by decide +kernel) (λ_ _ _ h=>h) (KR ⟨by rfl,?_⟩) hI ?_
           rotate_left
           ·intro V Z;(try dsimp only at Z);obtain ⟨E,e1,S,H,D,e5⟩:=Z;go_simp;(try with_reducible rfl)
           clear hI;intro hI;(try simp only [Act.put,JV,JY,J1] at hI ⊢)
           refine aP (i:=3) (v:=?_) rfl (by decide +kernel) (by decide +kernel) (by decide +kernel) (λ_ _ _ h=>h) (KR ⟨by rfl,?_⟩) hI ?_
           rotate_left
           ·intro V Z;(try dsimp only at Z);obtain ⟨E,e1,S,H,D,e5⟩:=Z;go_simp;(try with_reducible rfl)
           clear hI;intro hI;(try simp only [Act.put,JV,JY,J1] at hI ⊢)
           refine aP (i:=4) (v:=?_) rfl (by decide +kernel) (by decide +kernel) (by decide +kernel) (λ_ _ _ h=>h) (KR ⟨by rfl,?_⟩) hI ?_
           rotate_left
           ·intro V Z;(try dsimp only at Z);obtain ⟨E,e1,S,H,D,e5⟩:=Z;go_simp;(try with_reducible rfl)
           clear hI;intro hI;(try simp only [Act.put,JV,JY,J1] at hI ⊢)
           refine aP (i:=5) (v:=?_) rfl (by decide +kernel) (by decide +kernel) (by decide +kernel) (λ_ _ _ h=>h) (KR ⟨by rfl,?_⟩) hI ?_
           rotate_left
           ·intro V Z;(try dsimp only at Z);obtain ⟨E,e1,S,H,D,e5⟩:=Z;go_simp;(try with_reducible rfl)
           clear hI;intro hI;(try simp only [Act.put,JV,JY,J1] at hI ⊢)
           refine aP (i:=6) (v:=?_) rfl (by decide +kernel) (by decide +kernel) (by decide +kernel) (λ_ _ _ h=>h) (KR ⟨by rfl,?_⟩) hI ?_
           rotate_left
           ·intro V Z;(try dsimp only at Z);obtain ⟨E,e1,S,H,D,e5⟩:=Z;go_simp;(try with_reducible rfl)
           clear hI;intro hI;(try simp only [Act.put,JV,JY,J1] at hI ⊢)
           refine aP (i:=7) (v:=?_) rfl (by decide +kernel) (by decide +kernel) (by decide +kernel) (λ_ _ _ h=>h) (KR ⟨by rfl,?_⟩) hI ?_
           rotate_left
           ·intro V Z;(try dsimp only at Z);obtain ⟨E,e1,S,H,D,e5⟩:=Z;go_simp;(try with_reducible rfl)
           clear hI;intro hI;(try simp only [Act.put,JV,JY,J1] at hI ⊢)
           refine aP (i:=8) (v:=?_) rfl (by decide +kernel) (by decide +kernel) (by decide +kernel) (λ_ _ _ h=>h) (KR ⟨by rfl,?_⟩) hI ?_
           rotate_left
           ·intro V Z;(try dsimp only at Z);obtain ⟨E,e1,S,H,D,e5⟩:=Z;go_simp;(try with_reducible rfl)
           clear hI;intro hI;(try simp only [Act.put,JV,JY,J1] at hI ⊢)
           refine aP (i:=9) (v:=?_) rfl (by decide +kernel) (by decide +kernel) (by decide +kernel) (λ_ _ _ h=>h) (KR ⟨by rfl,?_⟩) hI ?_
           rotate_left
           ·intro V Z;(try dsimp only at Z);obtain ⟨E,e1,S,H,D,e5⟩:=Z;go_simp;(try with_reducible rfl)
           clear hI;intro hI;(try simp only [Act.put,JV,JY,J1] at hI ⊢)
           refine aP (i:=10) (v:=?_) rfl (by decide +kernel) (by decide +kernel) (by decide +kernel) (λ_ _ _ h=>h) (KR ⟨by rfl,?_⟩) hI ?_
           rotate_left
           ·intro V Z;(try dsimp only at Z);obtain ⟨E,e1,S,H,D,e5⟩:=Z;go_simp;(try with_reducible rfl)
           clear hI;intro hI;(try simp only [Act.put,JV,JY,J1] at hI ⊢)
           refine aP (i:=11) (v:=?_) rfl (by decide +kernel) (by decide +kernel) (by decide +kernel) (λ_ _ _ h=>h) (KR ⟨by rfl,?_⟩) hI ?_
           rotate_left
           ·intro V Z;(try dsimp only at Z);obtain ⟨E,e1,S,H,D,e5⟩:=Z;go_simp;(try with_reducible rfl)
           clear hI;intro hI;(try simp only [Act.put,JV,JY,J1] at hI ⊢)
           refine aP (i:=12) (v:=?_) rfl (by decide +kernel) (by decide +kernel) (by decide +kernel) (λ_ _ _ h=>h) (KR ⟨by rfl,?_⟩) hI ?_
           rotate_left
           ·intro V Z;(try dsimp only at Z);obtain ⟨E,e1,S,H,D,e5⟩:=Z;go_simp;(try with_reducible rfl)
           clear hI;intro hI;(try simp only [Act.put,JV,JY,J1] at hI ⊢)
           refine aP (i:=13) (v:=?_) rfl (by decide +kernel) (by decide +kernel) (by decide +kernel) (λ_ _ _ h=>h) (KR ⟨by rfl,?_⟩) hI ?_
           rotate_left
           ·intro V Z;(try dsimp only at Z);obtain ⟨E,e1,S,H,D,e5⟩:=Z;go_simp;(try with_reducible rfl)
           clear hI;intro hI;(try simp only [Act.put,JV,JY,J1] at hI ⊢)
           refine aP (i:=14) (v:=?_) rfl (by decide +kernel) (by decide +kernel) (by decide +kernel) (λ_ _ _ h=>h) (KR ⟨by rfl,?_⟩) hI ?_
           rotate_left
           ·intro V Z;(try dsimp only at Z);obtain ⟨E,e1,S,H,D,e5⟩:=Z;go_simp;(try with_reducible rfl)
           clear hI;intro hI;(try simp only [Act.put,JV,JY,J1] at hI ⊢)
           refine aP (i:=16) (v:=?_) rfl (by decide +kernel) (by decide +kernel) (by decide +kernel) (λ_ _ _ h=>h) (KR ⟨by rfl,?_⟩) hI ?_
           rotate_left
           ·intro V Z;(try dsimp only at Z);obtain ⟨E,e1,S,H,D,e5⟩:=Z;go_simp;(try with_reducible rfl)
           clear hI;intro hI;(try simp only [Act.put,JV,JY,J1] at hI ⊢)
           refine aP (i:=17) (v:=?_) rfl (by decide +kernel) (by decide +kernel) (by decide +kernel) (λ_ _ _ h=>h) (KR ⟨by rfl,?_⟩) hI ?_
           rotate_left
           ·intro V Z;(try dsimp only at Z);obtain ⟨E,e1,S,H,D,e5⟩:=Z;go_simp;(try with_reducible rfl)
           clear hI;intro hI;(try simp only [Act.put,JV,JY,J1] at hI ⊢)
           refine aP (i:=18) (v:=?_) rfl (by decide +kernel) (by decide +kernel) (by decide +kernel) (λ_ _ _ h=>h) (KR ⟨by rfl,?_⟩) hI ?_
           rotate_left
           ·intro V Z;(try dsimp only at Z);obtain ⟨E,e1,S,H,D,e5⟩:=Z;go_simp;(try with_reducible rfl)
           clear hI;intro hI;(try simp only [Act.put,JV,JY,J1] at hI ⊢)
           refine aP (i:=19) (v:=?_) rfl (by decide +kernel) (by decide +kernel) (by decide +kernel) (λ_ _ _ h=>h) (KR ⟨by rfl,?_⟩) hI ?_
           rotate_left
           ·intro V Z;(try dsimp only at Z);obtain ⟨E,e1,S,H,D,e5⟩:=Z;go_simp;(try with_reducible rfl)
           clear hI;intro hI;(try simp only [Act.put,JV,JY,J1] at hI ⊢)
           refine lH (i:=15) (by decide +kernel) (by omega) hI.1 rfl (λK hK=>?_)
           go_simp
           go_at_call 107;((with_reducible refine (Hng.out _ (JP _ _).drew).mono ?_);rintro e w4 ⟨rfl,hb4⟩;obtain ⟨q0,q1,q2,q3,q4,q5,q7,q6⟩:=HQ.out w4 (NX (JP _ _).drew hb4))
           refine hK.out _ _ (by exact ⟨q0,q1,q2,q3,q4,q5⟩) (λhI=>?_)
           clear hK K
           refine lH (i:=20) (by decide +kernel) (by omega) hI.1 rfl (λK hK=>?_)
           go_simp
           go_at_call 227;((with_reducible refine (Had.out _ q6).mono ?_);rintro e w5 ⟨a5,c5,rfl,hown5,hb5⟩;obtain ⟨s0,s1,s2,s3,s4,s5,s7,s6⟩:=HQ.out w5 (NX q6 hb5))
           refine hK.out _ _ (by exact ⟨s0,s1,s2,s3,s4,s5⟩) (λhI=>?_)
           clear hK K
           refine aP (i:=21) (v:=?_) rfl (by decide +kernel) (by decide +kernel) (by decide +kernel) (λ_ _ _ h=>h) (KR ⟨by rfl,?_⟩) hI ?_
           rotate_left
           ·intro V Z;(try dsimp only at Z);obtain ⟨E,e1,S,H,D,e5⟩:=Z;go_simp;(try with_reducible rfl)
           clear hI;intro hI;(try simp only [Act.put,JV,JY,J1] at hI ⊢)
           refine qF (i:=22) (by decide +kernel) (by omega) (by decide +kernel) rfl (λK hK=>?_)
           go_simp
           refine hK.out _ _ ?_
           clear hK K
           have Ho5:=Z5 (bd hown5 q6.size)
           have Hs6:=Z5 s6
           clear hown5 HQ Hng Had q0 q1 q2 q3 q4 q5 q6 q7 s0 s1 s2 s3 s4 s5 s6 s7
           go_wp2_with fail
           go_roundw
           case rel =>
            obtain ⟨R5,hO5,hM5⟩:=HF.out _ _ _ Ho5.out Hs6.out
            exact ⟨i+1,R5,by omega,by go_num,hO5,hMi.trans hM5⟩
           case measure=>simp [intOf] <;> omega
        ·obtain rfl : i=n:=by omega
         have hopX:=hMi.own hopT HoiT.out
         have hoiX : ap ≠ none->¬ bX a1 C (ablk ap):=λhn=>hMi.not (ba hopT hn).2 (HoiT.out hn)
         have HoiX:=Z5 hoiX
         have hcn:=bf X (.int .i64 k) 3
         have hbn:=an X (.cells #[.int .i64 k] 3)
         have hsz:=hbX.size
         clear hoiX
         go_wp2_with (at_builtin;refine aS rfl _ _ 22 3 rfl (.int .i64 0) 8 underlying22 aV rfl W.heap.size ap t cp _ rfl (hopX.alloc _) ⟨X.heap.size,0,none⟩ 1 (.int .i64 k) rfl hcn rfl (by omega) (by unfold maxLen;omega) (by simp;omega) ?_;intro a3 c3 w3 hown3 hgr hap3)
         go_roundw
         case rel =>
          have hnx : aC O L (k+1)=(clearTo O t k L2 i,r ++ [(k : Int)]):=by rw [dR hst.out (by rw [A.out,Ht.out];exact I),Ht.out,JR (by rw [Hf.out,A.out];omega),Hf.out,HL1.out]
          have hne : ∀b',bX a1 C b'->eX ap b':=λb' hb'=>by
           by_cases hn : ap=none
           ·exact .inl hn
           ·exact .inr λe=>HoiX.out hn (by rw [e];exact hb')
          have hOn:=hOi.af hbn
          have hO6 : aT w3 W.heap.size a1 i c1 C (clearTo O t k L2 i):=hOn.bj λb' hb'=>hgr.block b' (hOn.lt b' hb').2 λe=>(hne b' hb').own t cp e.symm
          have hb3 : OC W w3:=N0 (KE hbX (hbn.mono hsz)) (hopX.alloc _) hgr (JO _) (J4 hsz hbn.size)
          have hrw3:=Og Hcl.out hrw2 (t:=t) (c:=k) (by rw [Hl2.out];exact I) (by omega) i (by rw [Hl2.out];exact hi)
          have ho4 : a3 ≠ none->¬ bX a1 C (ablk a3):=λhn hI=>by
           rcases hap3 _ (hOn.lt _ hI).2 (hne _ hI) with h1 | h1
           ·exact hn h1
           ·exact h1 rfl
          have hPl2 : (r ++ [(k : Int)]).length=t+1:=by rw [J0,Ht.out];rfl
          refine ⟨k+1,C,a3,c3,clearTo O t k L2 i,r ++ [(k : Int)],by omega,by go_num,by rw [hPl2];go_num,by rw [hPl2],hnx.symm,hO6,?_,ho4,hb3,hrw3,by rw [hPl2];omega⟩
          rw [hPl2];simpa using hown3
         case measure=>simp [intOf] <;> omega
     ·obtain rfl : j=n:=by omega
      have Hn : Hid ((Lk,r)=aC O L (k+1)):=by show _=_;rw [dR hst.out (by rw [A.out,Ht.out];exact I),Ht.out,JT (by rw [hfr.out,kM (by rw [A.out];exact JO _),A.out])]
      have hjj : decide ((j : Int)<j)=false:=by simp
      go_wp2_with fail
      go_roundw
      case rel=>exact ⟨k+1,R',ap,cp,Lk,r,by omega,by go_num,by rw [Ht.out],by rw [Ht.out],Hn.out,hOr,by rw [Ht.out];exact hop,hoi.out,hbr,hrw,by rw [Ht.out];exact hPn⟩
      case measure=>simp [intOf] <;> omega
   ·have hPe : r.length=n:=by omega
    have hfull : (Lk,r)=aC O L Y:=by rw [show Y=k+(Y - k) by omega,fU (by rw [<- hst.out,hPe,<- Hlen.out]),<- hst.out]
    have Hfull:=Z5 hfull
    have hPe' : decide ((r.length : Int)<n)=false:=by simp;omega
    clear hfull hPe
    go_wp2_with fail
    go_ret2
    exact Hfin.out _ _ _ _ _ _ _ _ Hfull.out (hOr.mono hbW.size) (bd hop hbW.size) (NX hbW hbr)
  ·obtain rfl : k=Y:=by omega
   have hk' : decide ((k : Int)<k)=false:=by simp
   go_wp2_with fail
   go_ret2
   exact Hfin.out _ _ _ _ _ _ _ _ hst.out (hOr.mono hbW.size) (bd hop hbW.size) (NX hbW hbr)
theorem xL {N : Int} {l : LI} (h : fF N l=true) : ∀k,k<l.length->(k : Int)<=nth l k
 | 0,Z=>(gQ h Z).1
 | k+1,Z=>by have Y:=xL h k (by omega);have:=(gQ h Z).2.2 (by omega);rw [L9] at this;omega
theorem jB {N : Int} {l : LI} (h : fF N l=true) (Z : 0<=N) : (l.length : Int)<=N:=by
 by_cases h0 : l.length=0
 ·omega
 ·have h1:=xL h (l.length - 1) (by omega);have h2:=(gQ h (k:=l.length - 1) (by omega)).2.1;omega
theorem cZ {P M : Int} {mod : LI} {N : Int} {L : Ll} (h : aJ P M mod N L=0) : ∃m : Nat,N=m/\1<=m/\m<=64/\L.length<=256/\bs (ah P M.toNat mod).El m L:=by obtain ⟨h1,h2,h3,S⟩:=aN h;obtain ⟨Z,I⟩:=eB S;obtain ⟨K,U⟩:=ml Z;obtain ⟨m,rfl,hm,Y,Q⟩:=lG U;exact ⟨m,rfl,by omega,by omega,Y,Q⟩
def di (x : Nat) : Nat->LI
 | 0=>[]
 | k+1=>if x.testBit k=true then di x k ++ [(k : Int)] else di x k
section
open Go.RowKit
end
def N2:=@Vc.at
def Ob:=@aT.push
def Oe:=@aT.empty
def Oj:=@Vc.redTo
def Ot:=@b8.own
def Ow:=@bJ.own
end Go.Proofs.YthglbncgemdcbaaGreat
