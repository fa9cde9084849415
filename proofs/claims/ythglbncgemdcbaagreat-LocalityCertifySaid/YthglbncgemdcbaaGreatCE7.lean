import Derived.Test.YthglbncgemdcbaaGreatCE6
import Derived.Laws.Bits64
import Derived.Laws.Bits64b
namespace Go.Proofs.YthglbncgemdcbaaGreat
set_option linter.all false
set_option maxRecDepth 100000
set_option maxHeartbeats 8000000
open Go.RowKit Go.Proofs.Tryz
section
variable {w:World} {b:Nat} {G:cZ}
@[go_sem high] theorem run_slice_h0 {P : Program} (w : World) (t : TypeId) (a : OA) (len cap : Nat) (Y : P.underlying t=some (.slice (P.elem t))) (Z : IntKind) (h : Int) (h0 : 0<=h) (h2 : h<=cap) :
  (Instr.slice t (.slice a len cap) none (some (.int Z h)) none).run P w=((sizeOf (P.elem t)).run P w).andThen λ_ w=>.ok (.slice a h.toNat cap) w:=by rw [run_slice_h w t a len cap Y Z h h0 h2];congr 1;funext s w;congr 1;simp only [sliced,Nat.zero_mul,Addr.add,if_true,Nat.sub_zero,Pk,ite_self]
@[go_sem high] theorem run_slice_hm0 {P : Program} (w : World) (t : TypeId) (a : OA) (len cap : Nat) (U : P.underlying t=some (.slice (P.elem t))) (Z Y : IntKind) (h m : Int) (h0 : 0<=h) (h2 : h<=m) (h3 : m<=cap) :
  (Instr.slice t (.slice a len cap) none (some (.int Z h)) (some (.int Y m))).run P w=((sizeOf (P.elem t)).run P w).andThen λ_ w=>.ok (.slice a h.toNat m.toNat) w:=by rw [run_slice_hm w t a len cap U Z Y h m h0 h2 h3];congr 1;funext s w;congr 1;simp only [sliced,Nat.zero_mul,Addr.add,if_true,Nat.sub_zero,Pk,ite_self]
theorem D4 {L:Ll} {k i:Nat} (h:i<k):ai (L.take k) i=ai L i:=by simp only [ai,KZ,Mo,KX h]
structure bL (B:Nat) (w:World) (a:OA) (n:Nat) (l:LI):Prop where
 ints:Ints w a n l
 lo:0<n->B<=ablk a
structure cF (B:Nat) (w:World) (a:OA) (n:Nat) (l:Ll):Prop where
 len:l.length=n
 pl:Pl a n
 max:n<=maxLen
 lo:0<n->B<=ablk a
 cell:∀i,i<n->∃b m c,w.cell? ⟨ablk a,aJ a+i,none⟩=some (.slice b m c)/\bL B w b m (ai l i)
theorem bL.mono {B B':Nat} {w:World} {a:OA} {n:Nat} {l:LI} (h:bL B w a n l) (Z:B'<=B):bL B' w a n l:=⟨h.ints,λY=>K9 Z (h.lo Y)⟩
theorem cF.mono {B B':Nat} {w:World} {a:OA} {n:Nat} {l:Ll} (h:cF B w a n l) (Z:B'<=B):cF B' w a n l :=
 ⟨h.len,h.pl,h.max,λY=>K9 Z (h.lo Y),λi hi=>by obtain ⟨b,m,c,h1,h2⟩:=h.cell i hi;exact ⟨b,m,c,h1,h2.mono Z⟩⟩
theorem cF.iZ {B:Nat} {w:World} {a:OA} {n:Nat} {l:Ll} (h:cF B w a n l):bw w a n l :=
 ⟨h.len,h.pl,h.max,λi hi=>by obtain ⟨b,m,c,h1,h2⟩:=h.cell i hi;exact ⟨b,m,c,h1,h2.ints⟩⟩
theorem bL.bp {B:Nat} {w V:World} {a:OA} {n:Nat} {l:LI} (h:bL B w a n l) (hb:∀b,B<=b->b<w.heap.size->V.heap[b]? = w.heap[b]?):bL B V a n l :=
 ⟨h.ints.of_block λZ=>hb _ (h.lo Z) (h.ints.lt Z),h.lo⟩
theorem cF.bp {B:Nat} {w V:World} {a:OA} {n:Nat} {l:Ll} (h:cF B w a n l) (hb:∀b,B<=b->b<w.heap.size->V.heap[b]? = w.heap[b]?):cF B V a n l:=by refine ⟨h.len,h.pl,h.max,h.lo,λi hi=>?_⟩;obtain ⟨b,m,c,h1,h2⟩:=h.cell i hi;exact ⟨b,m,c,(Lu (w:=w) (a:=⟨ablk a,aJ a+i,none⟩) (hb _ (h.lo (by omega)) (Lb w _ h1))).trans h1,h2.bp hb⟩
theorem bL.af {B:Nat} {w V:World} {a:OA} {n:Nat} {l:LI} (h:bL B w a n l) (hb:PY w V):bL B V a n l:=h.bp λb _ h2=>hb.block b h2
theorem cF.af {B:Nat} {w V:World} {a:OA} {n:Nat} {l:Ll} (h:cF B w a n l) (hb:PY w V):cF B V a n l:=h.bp λb _ h2=>hb.block b h2
theorem bL.setCell {B:Nat} {w:World} {a:OA} {n:Nat} {l:LI} (h:bL B w a n l) {p:Addr} (Z:p.block<B) (v:Value):bL B (w.setCell p v) a n l :=
 h.bp λb h1 _=>Lf _ _ _ _ (by omega)
theorem cF.setCell {B:Nat} {w:World} {a:OA} {n:Nat} {l:Ll} (h:cF B w a n l) {p:Addr} (Z:p.block<B) (v:Value):cF B (w.setCell p v) a n l :=
 h.bp λb h1 _=>Lf _ _ _ _ (by omega)
theorem bL.own {w:World} {B:Nat} {e:TypeId} {a:OA} {c n:Nat} {l:LI} (h:w.ownsRow B e 1 (.slice a n c) n (l.map (Value.int .i64))):bL B w a n l :=
 ⟨(Pn h).1,λZ=>(bH h 0 Z).2.2.1⟩
theorem cF.own {w:World} {B:Nat} {a:OA} {n c:Nat} {R:LA} {L:Ll} (h:aO w B a n c R L):cF B w a n L :=
 ⟨h.ll,h.pl,h.max,λZ=>(dR h.own Z).1,λ_ hi=>⟨_,_,_,h.cell hi,bL.own (h.row _ hi)⟩⟩
theorem cF.take {B:Nat} {w:World} {a:OA} {n:Nat} {L:Ll} (h:cF B w a n L) {k:Nat} (Z:k<=n):cF B w a k (L.take k):=by refine ⟨by rw [Lt,h.len];omega,λh0=>h.pl (by omega),K9 Z h.max,λh0=>h.lo (by omega),λi hi=>?_⟩;rw [D4 hi];exact h.cell i (by omega)
def bZ (G:cZ) (L:Ll) (m:Nat):Ll:=(aD G.ops L m).1.take (aD G.ops L m).2.length
def bq (G:cZ) (L:Ll) (m:Nat):LI:=(aD G.ops L m).2
theorem dM (G:cZ) (L:Ll) (m:Nat):(bZ G L m).length=(bq G L m).length:=by have h1:=ei G.ops L m;have h2:=bN G.ops L m;unfold bZ bq;rw [Lt];omega
def sO (G:cZ) (L:Ll) (m:Nat) (w:World) (e:Ending) (w':World):Prop :=
 ∃a ap cp,e = .returned (.tuple #[.slice a (bq G L m).length (bq G L m).length,.slice ap (bq G L m).length cp])/\cF w.heap.size w' a (bq G L m).length (bZ G L m)/\bL w.heap.size w' ap (bq G L m).length (bq G L m)/\PY w w'
def Dn (G:cZ) (L:Ll) (m:Nat) (w:World) (e:Ending) (w':World):Prop :=
 ∃a c ap cp,e = .returned (.tuple #[.slice a (bq G L m).length c,.slice ap (bq G L m).length cp])/\cF w.heap.size w' a (bq G L m).length (bZ G L m)/\bL w.heap.size w' ap (bq G L m).length (bq G L m)/\PY w w'
theorem sf (a:OA) (n c m:Nat) (L:Ll) (h:dU w b G) (hi:bw w a n L) (A:bt G.El m L) (hm:m<=1000000) (r:n<=1000000) :
  Calls prog 177 #[.pointer (some ⟨b,0,none⟩),.slice a n c,cG m] w (sO G L m w):=by
 have E:=Z5 hi.len;have HR:=Z5 A;have Q:∀l ∈ L,l.length<=1000000:=λl hl=>by rw [(A l hl).1];exact hm
 have C:=Z5 Q;clear Q A;go_enter func177,ntmps177;go_wp2_with fail;refine (DR a n c L hi r C.out).mono ?_;rintro e w1 ⟨a1,c1,R1,rfl,z,U⟩;go_wp2_with fail;refine (tI w a1 L.length c1 m m R1 L h U z HR.out (KT _) hm (by rw [E.out];exact r)).mono ?_;rintro e w2 ⟨R2,ap,cp,d,rfl,N,K,hM2,D⟩;have Y:=ei G.ops L m;have Z:=mz N.own;have H:=(bL.own K).mono U.size;have S:=(cF.own N).take (k:=(aD G.ops L m).2.length) Y.2;have hF:sO G L m w (.returned (.tuple #[.slice a1 (aD G.ops L m).2.length (aD G.ops L m).2.length,.slice ap (aD G.ops L m).2.length cp])) w2:=⟨a1,ap,cp,rfl,S,H,D⟩
 have j:=Z5 hF;have hle:(aD G.ops L m).2.length<=c1:=K9 Y.2 Z;clear hF H S K Z Y;generalize (aD G.ops L m).2.length=k at *;go_wp2_with fail;go_ret2;simpa using j.out
theorem tZ (a:OA) (n c m:Nat) (L:Ll) (h:dU w b G) (hi:bw w a n L) (Z:bt G.El m L) (hm:m<=1000000) (Y:n<=1000000) :
  Calls prog 177 #[.pointer (some ⟨b,0,none⟩),.slice a n c,cG m] w (Dn G L m w) :=
 (sf a n c m L h hi Z hm Y).mono λ_ _ ⟨a1,ap,cp,h1⟩=>⟨a1,_,ap,cp,h1⟩
end
def dE (P M:Int) (mod:LI) (Z:Int) (L:Ll):Int :=
 if bs P M mod=true then fD (ah P M.toNat mod).q Z L else 1
def tY (P M:Int) (mod:LI) (Z:Int) (L:Ll) (w:World) (e:Ending) (w':World):Prop :=
 PY w w'/\(
 (dE P M mod Z L ≠ 0/\e = .returned (.tuple #[.agg #[cG 0,ds],ds,cG (dE P M mod Z L)])) \/
 (dE P M mod Z L=0/\∃m:Nat,Z=m/\∃a ap cp,e = .returned (.tuple #[.agg #[cG m,.slice a (bq (ah P M.toNat mod) L m).length (bq (ah P M.toNat mod) L m).length],.slice ap (bq (ah P M.toNat mod) L m).length cp,cG 0]) /\
  cF w.heap.size w' a (bq (ah P M.toNat mod) L m).length (bZ (ah P M.toNat mod) L m)/\bL w.heap.size w' ap (bq (ah P M.toNat mod) L m).length (bq (ah P M.toNat mod) L m)))
def Gf (P M:Int) (mod:LI) (Z:Int) (L:Ll) (w:World) (e:Ending) (w':World):Prop :=
 PY w w'/\(
 (dE P M mod Z L ≠ 0/\e = .returned (.tuple #[.agg #[cG 0,ds],ds,cG (dE P M mod Z L)])) \/
 (dE P M mod Z L=0/\∃m:Nat,Z=m/\∃a c ap cp,e = .returned (.tuple #[.agg #[cG m,.slice a (bq (ah P M.toNat mod) L m).length c],.slice ap (bq (ah P M.toNat mod) L m).length cp,cG 0]) /\
  cF w.heap.size w' a (bq (ah P M.toNat mod) L m).length (bZ (ah P M.toNat mod) L m)/\bL w.heap.size w' ap (bq (ah P M.toNat mod) L m).length (bq (ah P M.toNat mod) L m)))
theorem me {q Z:Int} {L:Ll} (h:fD q Z L=0):∃m:Nat,Z=m/\m<=256/\L.length<=256/\bt (λx=>0<=x/\x<q) m L:=by
 unfold fD at h;split at h
 ·omega
 ·rename_i h1;split at h
  ·omega
  ·rename_i h2;split at h
   ·rename_i h3;refine ⟨Z.toNat,by omega,by omega,by omega,λr S=>?_⟩;have U:jk Z L=true:=by simpa using h2
    unfold jk at U;rw [LR] at U h3;have K:=U r S;have Y:=h3 r S;unfold ez iQ at Y;rw [LR] at Y;refine ⟨by simp at K;omega,λx Q=>?_⟩;have N:=Y x Q;simpa using N
   ·omega
theorem pK {q Z:Int} {L:Ll}:matsE q [(Z,L)]=fD q Z L:=by
 simp only [matsE];split
 ·rename_i h;exact h.symm
 ·rfl
theorem jq (P M:Int) (am:OA) (mn cm:Nat) (mod:LI) (Z:Int) (a:OA) (n c:Nat) (L:Ll) (w:World) (hmod:Ints w am mn mod) (hi:bw w a n L) :
  Calls prog 118 #[.agg #[cG P,cG M,.slice am mn cm],.agg #[cG Z,.slice a n c]] w (tY P M mod Z L w):=by
 have j:=Z5 hi.len;go_enter func118,ntmps118;go_wp2_with fail;obtain ⟨W,H⟩:∃W:World,W=((((w.alloc (.cells #[cG P,cG M,.slice am mn cm] 24)).alloc (.cells #[cG Z,.slice a n c] 94)).alloc (.cells #[cG 0,ds] 94)).alloc (.cells #[cG Z,.slice a n c] 94)):=⟨_,rfl⟩
 rw [<- H];have Q:PY w W:=by rw [H];exact ((((KU _ _).alloc (KT _) _).alloc (by simp) _).alloc (by simp;omega) _).alloc (by simp;omega) _
 have hsW:W.heap.size=w.heap.size+4:=by rw [H];simp
 have q1:W.cell? ⟨w.heap.size+1,0,none⟩=some (cG Z)/\W.cell? ⟨w.heap.size+1,1,none⟩=some (.slice a n c):=by rw [H];exact ⟨br (br (aF _ _ _ (by simp) 0) _) _,br (br (aF _ _ _ (by simp) 1) _) _⟩
 have q2:W.cell? ⟨w.heap.size+1+1,0,none⟩=some (cG 0)/\W.cell? ⟨w.heap.size+1+1,1,none⟩=some ds/\W.frozen? ⟨w.heap.size+1+1,0,none⟩=false/\W.frozen? ⟨w.heap.size+1+1,1,none⟩=false:=by rw [H];exact ⟨br (aF _ _ _ (by simp) 0) _,br (aF _ _ _ (by simp) 1) _,dP (by simp) (fN _ _ _ (by simp) 0) _,dP (by simp) (fN _ _ _ (by simp) 1) _⟩
 have q3:W.cell? ⟨w.heap.size+1+1+1,0,none⟩=some (cG Z)/\W.cell? ⟨w.heap.size+1+1+1,1,none⟩=some (.slice a n c):=by rw [H];exact ⟨aF _ _ _ (by simp) 0,aF _ _ _ (by simp) 1⟩
 have r:=hi.af Q;have hMs:DY W (some ⟨w.heap.size+1+1+1,0,none⟩) 1 [(Z,L)]:=⟨rfl,λ_=>rfl,by unfold maxLen;omega,λi hi=>by
  have:i=0:=by simp at hi;omega
  subst this;exact ⟨a,n,c,by simpa using q3.1,by simpa using q3.2,r⟩⟩
 have A:=Z5 hsW;clear H hsW;refine (yG P M am mn cm mod _ 1 1 _ W (hmod.af Q) hMs).mono ?_;rintro e w1 ⟨Y,N⟩;have U:=Pm Q Y;have hq:∀V,PY W V->V.cell? ⟨w.heap.size+1,0,none⟩=some (cG Z)/\V.cell? ⟨w.heap.size+1,1,none⟩=some (.slice a n c)/\V.cell? ⟨w.heap.size+1+1,0,none⟩=some (cG 0)/\V.cell? ⟨w.heap.size+1+1,1,none⟩=some ds/\V.frozen? ⟨w.heap.size+1+1,0,none⟩=false/\V.frozen? ⟨w.heap.size+1+1,1,none⟩=false:=by intro V C;have hs:=A.out;exact ⟨aB C q1.1,aB C q1.2,aB C q2.1,aB C q2.2.1,(C.frozen (p:=⟨w.heap.size+1+1,0,none⟩) (by simp [hs])).trans q2.2.2.1,(C.frozen (p:=⟨w.heap.size+1+1,1,none⟩) (by simp [hs])).trans q2.2.2.2⟩
 have Hq:=Z5 hq;clear hq q1 q2 q3;rcases N with ⟨S,rfl⟩ | ⟨S,er,h0,h1,rfl⟩ | ⟨S,h1,b,rfl,hG,hbl⟩
 ·obtain ⟨r1,r2,E,D,r5,r6⟩:=Hq w1 Y;have K:Hid (dE P M mod Z L=1):=by show _=_;rw [dE,S];rfl
  clear S;go_wp2_with fail;refine bodyPost_ret (v:=.tuple #[.agg #[cG 0,ds],ds,cG 1]) (by simp [results,results118,go_sem,E,D]) rfl ⟨(U.setCell (by simp;omega) _).setCell (by simp;omega) _,.inl ⟨by rw [K.out];omega,by rw [K.out]⟩⟩
 ·obtain ⟨r1,r2,E,D,r5,r6⟩:=Hq w1 Y;have K:Hid (dE P M mod Z L=er):=by show _=_;rw [dE,S,KX rfl,<- h1,pK]
  have He:Hid (er ≠ 0):=h0;have he':(er != 0)=true:=by simpa using h0
  clear S h0 h1;go_wp2_with fail;refine bodyPost_ret (v:=.tuple #[.agg #[cG 0,ds],ds,cG er]) (by simp [results,results118,go_sem,E,D]) rfl ⟨(U.setCell (by simp;omega) _).setCell (by simp;omega) _,.inl ⟨by rw [K.out];exact He.out,by rw [K.out]⟩⟩
 ·obtain ⟨r1,r2,E,D,r5,r6⟩:=Hq w1 Y;rw [pK] at h1;obtain ⟨m,rfl,hm,hn,hR⟩:=me h1;have K:Hid (dE P M mod m L=0):=by show _=_;rw [dE,S,KX rfl,h1]
  clear S h1;go_wp2_with fail;refine (sf a n c m L hG (r.af Y) hR (by omega) (by rw [<- j.out];omega)).mono ?_;rintro e w2 ⟨a2,ap,cp,rfl,hM2,hp2,z⟩;have hbw2:=Pm U z;obtain ⟨r1,r2,E,D,r5,r6⟩:=Hq w2 (Pm Y z);have hF:tY P M mod m L w (.returned (.tuple #[.agg #[cG m,.slice a2 (bq (ah P M.toNat mod) L m).length (bq (ah P M.toNat mod) L m).length],.slice ap (bq (ah P M.toNat mod) L m).length cp,cG 0])) ((w2.setCell ⟨w.heap.size+1+1,0,none⟩ (cG m)).setCell ⟨w.heap.size+1+1,1,none⟩ (.slice a2 (bq (ah P M.toNat mod) L m).length (bq (ah P M.toNat mod) L m).length)):=by
   have hs:=A.out;have hs1:=Y.size;refine ⟨(hbw2.setCell (by simp;omega) _).setCell (by simp;omega) _,.inr ⟨K,m,rfl,a2,ap,cp,rfl,?_,?_⟩⟩
   ·exact ((hM2.setCell (p:=⟨w.heap.size+1+1,0,none⟩) (by simp;omega) _).setCell (p:=⟨w.heap.size+1+1,1,none⟩) (by simp;omega) _).mono (by omega)
   ·exact ((hp2.setCell (p:=⟨w.heap.size+1+1,0,none⟩) (by simp;omega) _).setCell (p:=⟨w.heap.size+1+1,1,none⟩) (by simp;omega) _).mono (by omega)
  have HF:=Z5 hF;clear hF hM2 hp2;generalize (bq (ah P M.toNat mod) L m).length=k at *;go_wp2_with fail;exact bodyPost_ret (v:=.tuple #[.agg #[cG m,.slice a2 k k],.slice ap k cp,cG 0]) (by simp [results,results118,go_sem,E,D]) rfl HF.out
theorem mF (P M:Int) (am:OA) (U cm:Nat) (mod:LI) (Z:Int) (a:OA) (n c:Nat) (L:Ll) (w:World) (Y:Ints w am U mod) (hi:bw w a n L) :
  Calls prog 118 #[.agg #[cG P,cG M,.slice am U cm],.agg #[cG Z,.slice a n c]] w (Gf P M mod Z L w) :=
 (jq P M am U cm mod Z a n c L w Y hi).mono λ_ _ ⟨hb,h⟩=>⟨hb,h.imp id λ⟨h0,m,h1,a1,ap,cp,h2⟩=>⟨h0,m,h1,a1,_,ap,cp,h2⟩⟩
section
theorem pT {l Z:LI} {k:Nat} (h:l.take k=Z.take k) (h1:k<l.length) (h2:k<Z.length) (he:nth l k=nth Z k):l.take (k+1)=Z.take (k+1):=by rw [K4 h1,K4 h2,h,<- aj h1,<- aj h2,he]
theorem oI {l Z:Ll} {k:Nat} (h:l.take k=Z.take k) (h1:k<l.length) (h2:k<Z.length) (he:ai l k=ai Z k):l.take (k+1)=Z.take (k+1):=by rw [K4 h1,K4 h2,h,<- aE h1,<- aE h2,he]
variable {w:World}
theorem Eg (a:OA) (n c:Nat) (l:LI) (a':OA) (L z:Nat) (Z:LI) (h:Ints w a n l) (K:Ints w a' L Z) :
  Calls prog 240 #[.slice a n c,.slice a' L z] w (jd w (decide (l=Z))):=by
 have E:=Z5 h.len;have S:=Z5 K.len;have j:=h.pl;have A:=K.pl;have Q:=h.max;unfold maxLen at Q;by_cases C:n=L
 ·subst C;have H:((n:Int) != n)=false:=by simp
  go_enter func240,ntmps240;go_wp2_with fail;go_loopw [13] (λr wr=>∃k:Nat,k<=n/\r = cG k/\Hid (l.take k=Z.take k)/\bg w wr) (λi _=>n - (intOf i).toNat);case atStart=>exact ⟨0,K0 _,rfl,rfl,Pt _⟩
  case round =>
   obtain ⟨k,hk,rfl,N,hd⟩:=hrel
   by_cases Y:k<n
   ·have c1:=(h.drawn hd).cell k Y
    have c2:=(K.drawn hd).cell k Y
    by_cases he:nth l k=nth Z k
    ·have D:(nth l k != nth Z k)=false:=by simpa using he
     have U:Hid (l.take (k+1)=Z.take (k+1)):=pT N.out (by rw [E.out];exact Y) (by rw [S.out];exact Y) he
     clear he
     go_wp2_with fail
     go_quiet (fail)
     go_wp2
     go_roundw
     case rel=>exact ⟨k+1,by omega,by go_num,U,hd.drewN _⟩
     case measure=>simp [intOf] <;> omega
    ·have D:(nth l k != nth Z k)=true:=by simpa using he
     have U:Hid (decide (l=Z)=false):=by show _=_;simp;intro e;exact he (by rw [e])
     clear he
     go_wp2_with fail
     go_quiet (fail)
     go_wp2
     go_ret
     exact ⟨aX U.symm,hd.drewN _⟩
   ·obtain rfl:k=n:=by omega
    have U:Hid (decide (l=Z)=true):=by show _=_;have:=N.out;rw [K5 (by rw [E.out];exact KT _),K5 (by rw [S.out];exact KT _)] at this;simpa using this
    go_wp2_with fail
    go_ret
    exact ⟨aX U.symm,hd⟩
 ·have H:((n:Int) != L)=true:=by simp;omega
  have U:Hid (decide (l=Z)=false):=by show _=_;simp;intro e;have e1:=E.out;have e2:=S.out;rw [e] at e1;omega
  clear C;go_enter func240,ntmps240;go_wp2_with fail;go_ret;exact ⟨aX U.symm,Pt _⟩
theorem tQ (a:OA) (n c:Nat) (l:Ll) (a':OA) (H r:Nat) (Y:Ll) (h:bw w a n l) (E:bw w a' H Y) :
  Calls prog 239 #[.slice a n c,.slice a' H r,.func (.func 240) #[] #[]] w (jd w (decide (l=Y))):=by
 have C:=Z5 h.len;have Q:=Z5 E.len;have hpl:=h.pl;have z:=E.pl;have L:=h.max;unfold maxLen at L;by_cases A:n=H
 ·subst A;have D:((n:Int) != n)=false:=by simp
  go_enter func239,ntmps239;go_wp2_with fail;go_loopw [17] (λj wr=>∃k:Nat,k<=n/\j = cG k/\Hid (l.take k=Y.take k)/\bg w wr) (λi _=>n - (intOf i).toNat);case atStart=>exact ⟨0,K0 _,rfl,rfl,Pt _⟩
  case round =>
   obtain ⟨k,hk,rfl,K,hd⟩:=hrel
   by_cases U:k<n
   ·obtain ⟨b1,n1,d1,c1,i1⟩:=(h.drawn hd).cell k U
    obtain ⟨b2,n2,d2,c2,i2⟩:=(E.drawn hd).cell k U
    go_wp2_with fail
    refine (Eg _ _ _ _ _ _ _ _ i1 i2).mono ?_
    rintro e w2 ⟨rfl,N⟩
    by_cases he:ai l k=ai Y k
    ·have Z:decide (ai l k=ai Y k)=true:=by simpa using he
     have S:Hid (l.take (k+1)=Y.take (k+1)):=oI K.out (by rw [C.out];exact U) (by rw [Q.out];exact U) he
     rw [Z]
     clear he Z
     go_wp2_with fail
     go_roundw
     case rel=>exact ⟨k+1,by omega,by go_num,S,hd.trans N⟩
     case measure=>simp [intOf] <;> omega
    ·have Z:decide (ai l k=ai Y k)=false:=by simpa using he
     have S:Hid (decide (l=Y)=false):=by show _=_;simp;intro e;exact he (by rw [e])
     rw [Z]
     clear he Z
     go_wp2_with fail
     go_ret
     exact ⟨aX S.symm,hd.trans N⟩
   ·obtain rfl:k=n:=by omega
    have S:Hid (decide (l=Y)=true):=by show _=_;have:=K.out;rw [K5 (by rw [C.out];exact KT _),K5 (by rw [Q.out];exact KT _)] at this;simpa using this
    go_wp2_with fail
    go_ret
    exact ⟨aX S.symm,hd⟩
 ·have D:((n:Int) != H)=true:=by simp;omega
  have S:Hid (decide (l=Y)=false):=by show _=_;simp;intro e;have e1:=C.out;have e2:=Q.out;rw [e] at e1;omega
  clear A;go_enter func239,ntmps239;go_wp2_with fail;go_ret;exact ⟨aX S.symm,Pt _⟩
end
def dD (P M:Int) (mod:LI) (Z:Int) (L:Ll):Int :=
 if dE P M mod Z L=0 then (if bZ (ah P M.toNat mod) L Z.toNat=L then 0 else 5) else dE P M mod Z L
def uo (P M:Int) (mod:LI) (Z:Int) (a:OA) (n c:Nat) (L:Ll) (w:World) (e:Ending) (w':World):Prop :=
 PY w w'/\(
 (dD P M mod Z L ≠ 0/\e = .returned (.tuple #[.agg #[.pointer none,cG 0,ds,ds],cG (dD P M mod Z L)])) \/
 (dD P M mod Z L=0/\∃(m b:Nat),Z=m/\∃ap cp,e = .returned (.tuple #[.agg #[.pointer (some ⟨b,0,none⟩),cG m,.slice a n c,.slice ap (bq (ah P M.toNat mod) L m).length cp],cG 0]) /\
  xV w.heap.size w' b (ah P M.toNat mod)/\w.heap.size<=b/\bL w.heap.size w' ap (bq (ah P M.toNat mod) L m).length (bq (ah P M.toNat mod) L m)))
theorem jW (P M:Int) (am:OA) (mn cm:Nat) (mod:LI) (Y:Int) (a:OA) (n c:Nat) (L:Ll) (w:World) (hmod:Ints w am mn mod) (hi:bw w a n L) :
  Calls prog 190 #[.agg #[cG P,cG M,.slice am mn cm],.agg #[cG Y,.slice a n c]] w (uo P M mod Y a n c L w):=by
 have Hlen:=Z5 hi.len;go_enter func190,ntmps190;go_wp2_with fail;obtain ⟨W,r⟩:∃W:World,W=(((w.alloc (.cells #[cG P,cG M,.slice am mn cm] 24)).alloc (.cells #[cG Y,.slice a n c] 94)).alloc (.cells #[.pointer none,cG 0,ds,ds] 210)):=⟨_,rfl⟩
 rw [<- r];have H:PY w W:=by rw [r];exact kS _ _ _ _
 have hsW:W.heap.size=w.heap.size+3:=by rw [r];simp
 have D:aQ W w.heap.size [cG P,cG M,.slice am mn cm]:=by rw [r];exact ((Po _ _ _ rfl).alloc _).alloc _
 have Q:aQ W (w.heap.size+1) [cG Y,.slice a n c]:=by rw [r];exact (Po _ _ _ (by simp)).alloc _
 have Z:aQ W (w.heap.size+1+1) [.pointer none,cG 0,ds,ds]:=by rw [r];exact Po _ _ _ (by simp)
 have z:=Z5 (K3 D (K3 Q Z));have C:=Z5 hsW;have hiW:=hi.af H;have hmW:=hmod.af H;clear r hsW D Q Z;refine (mF P M am mn cm mod Y a n c L W hmW hiW).mono ?_;rintro e w1 ⟨U,⟨he,rfl⟩ | ⟨he,m,rfl,a2,c2,ap,cp,rfl,hM2,hp2⟩⟩
 ·have K:=Pm H U;have j:Hid (dD P M mod Y L=dE P M mod Y L):=by show _=_;rw [dD,KY he]
  have HE:=Z5 he;have he':(dE P M mod Y L != 0)=true:=by simpa using he
  clear he;generalize dE P M mod Y L=er at *;have Z:=z.2.2.af U;have f0:=Z.frozen 0;have f1:=Z.frozen 1;have f2:=Z.frozen 2;have f3:=Z.frozen 3;have k0:=Z.cell 0 rfl;have k1:=Z.cell 1 rfl;have k2:=Z.cell 2 rfl;have k3:=Z.cell 3 rfl;clear Z;have hz:w.heap.size+1+1<w1.heap.size:=by have:=U.size;have:=C.out;omega
  go_wp2_with fail;exact bodyPost_ret (v:=.tuple #[.agg #[.pointer none,cG 0,ds,ds],cG er]) (by simp [results,results190,go_sem,k0,k1,k2,k3,hz]) rfl
   ⟨(((((K.setCell (by simp;omega) _).setCell (by simp;omega) _).setCell (by simp;omega) _).setCell (by simp;omega) _).alloc (by simp;omega) _),.inl ⟨by rw [j.out];exact HE.out,by rw [j.out]⟩⟩
 ·have K:=Pm H U;have A:PY w1 (w1.alloc (.cells #[cG m,.slice a2 (bq (ah P M.toNat mod) L m).length c2] 94)):=an _ _;have hz:w.heap.size+1+1<w1.heap.size:=by have:=U.size;have:=C.out;omega
  have Q:=z.2.1.af U;have j0:=Q.cell 0 rfl;have j1:=Q.cell 1 rfl;have He:=Z5 he;have hz1:w.heap.size+1<w1.heap.size:=by omega
  clear Q he;go_wp2_with fail;refine (tQ _ _ _ _ _ _ _ _ (hM2.iZ.af A) ((hiW.af U).af A)).mono ?_;rintro e w3 ⟨rfl,hd3⟩;have S:PY w1 w3:=Pm A hd3.below;have E:=Pm K S;have hz3:w.heap.size+1+1<w3.heap.size:=Lx hz S.size;have D:=(z.1.af U).af S;have Q:=(z.2.1.af U).af S;have Z:=(z.2.2.af U).af S;by_cases hc:bZ (ah P M.toNat mod) L m=L
  ·have N:decide (bZ (ah P M.toNat mod) L m=L)=true:=by simpa using hc
   have j:Hid (dD P M mod m L=0):=by show _=_;rw [dD,KX He.out,KV,KX hc]
   rw [N];have hmW3:=(hmW.af U).af S;have i0:=D.cell 0 rfl;have i1:=D.cell 1 rfl;have i2:=D.cell 2 rfl;have hfb:bs P M mod=true:=by
    have:=He.out;unfold dE at this;split at this
    ·assumption
    ·omega
   have Hfb:=Z5 hfb;clear hc N D Q hfb;go_wp2_with fail;refine (dH P M am mn cm mod w3 hmW3).mono ?_;rintro e w4 (⟨hB,rfl,hb4⟩ | ⟨hB,b,rfl,hG,hbl,hb4⟩)
   ·rw [Hfb.out] at hB;cases hB
   ·clear hB;have hbw4:=Pm E hb4;have Q:=((z.2.1.af U).af S).af hb4;have Z:=((z.2.2.af U).af S).af hb4;have j0:=Q.cell 0 rfl;have j1:=Q.cell 1 rfl;have f0:=Z.frozen 0;have f1:=Z.frozen 1;have f2:=Z.frozen 2;have f3:=Z.frozen 3;have k0:=Z.cell 0 rfl;have k1:=Z.cell 1 rfl;have k2:=Z.cell 2 rfl;have k3:=Z.cell 3 rfl;have hp4:=(hp2.af S).af hb4;have hF:uo P M mod m a n c L w (.returned (.tuple #[.agg #[.pointer (some ⟨b,0,none⟩),cG m,.slice a n c,.slice ap (bq (ah P M.toNat mod) L m).length cp],cG 0]))
      ((((w4.setCell ⟨w.heap.size+1+1,0,none⟩ (.pointer (some ⟨b,0,none⟩))).setCell ⟨w.heap.size+1+1,1,none⟩ (cG m)).setCell ⟨w.heap.size+1+1,2,none⟩ (.slice a n c)).setCell ⟨w.heap.size+1+1,3,none⟩ (.slice ap (bq (ah P M.toNat mod) L m).length cp)):=by
     have hs:=C.out;have hs3:=S.size;refine ⟨(((hbw4.setCell (by simp;omega) _).setCell (by simp;omega) _).setCell (by simp;omega) _).setCell (by simp;omega) _,.inr ⟨j,m,b,rfl,ap,cp,rfl,?_,?_,?_⟩⟩
     ·exact ((((hG.setCell (by simp;omega) _).setCell (by simp;omega) _).setCell (by simp;omega) _).setCell (by simp;omega) _).mono (by omega)
     ·omega
     ·exact ((((hp4.setCell (by simp;omega) _).setCell (by simp;omega) _).setCell (by simp;omega) _).setCell (by simp;omega) _).mono (by omega)
    have HF:=Z5 hF;clear hF hp4 hp2 Q Z;generalize (bq (ah P M.toNat mod) L m).length=k at *;go_wp2_with fail;exact bodyPost_ret (v:=.tuple #[.agg #[.pointer (some ⟨b,0,none⟩),cG m,.slice a n c,.slice ap k cp],cG 0]) (by simp [results,results190,go_sem,k0,k1,k2,k3]) rfl HF.out
  ·have N:decide (bZ (ah P M.toNat mod) L m=L)=false:=by simpa using hc
   have j:Hid (dD P M mod m L=5):=by show _=_;rw [dD,KX He.out,KV,KY hc]
   rw [N];have f0:=Z.frozen 0;have f1:=Z.frozen 1;have f2:=Z.frozen 2;have f3:=Z.frozen 3;have k0:=Z.cell 0 rfl;have k1:=Z.cell 1 rfl;have k2:=Z.cell 2 rfl;have k3:=Z.cell 3 rfl;clear hc N D Q Z;go_wp2_with fail;exact bodyPost_ret (v:=.tuple #[.agg #[.pointer none,cG 0,ds,ds],cG 5]) (by simp [results,results190,go_sem,k0,k1,k2,k3]) rfl
    ⟨(((E.setCell (by simp;omega) _).setCell (by simp;omega) _).setCell (by simp;omega) _).setCell (by simp;omega) _,.inl ⟨by rw [j.out];omega,by rw [j.out]⟩⟩
theorem sV (P M:Int) (am:OA) (S cm:Nat) (mod:LI) (Z:Int) (a:OA) (n c:Nat) (L:Ll) (w:World) (Q:Ints w am S mod) (hi:bw w a n L) :
  Calls prog 143 #[.agg #[cG P,cG M,.slice am S cm],.agg #[cG Z,.slice a n c]] w λe w'=>e = .returned (cG (dD P M mod Z L))/\PY w w':=by
 have N:=Z5 (bY w (.cells #[cG P,cG M,.slice am S cm] 24) (.cells #[cG Z,.slice a n c] 94));go_enter func143,ntmps143;go_wp2_with fail;have hb:=N.out;generalize (w.alloc (.cells #[cG P,cG M,.slice am S cm] 24)).alloc (.cells #[cG Z,.slice a n c] 94)=W at *;refine (jW P M am S cm mod Z a n c L W (Q.af hb) (hi.af hb)).mono ?_;rintro e D ⟨U,⟨he,rfl⟩ | ⟨he,m,b,rfl,ap,cp,rfl,C,E,K⟩⟩
 ·have Y:=Pm hb U;clear he;go_wp2_with fail;go_ret;exact ⟨rfl,Y.alloc Y.size _⟩
 ·have Y:=Pm hb U;have H:=Z5 he;clear he K;generalize (bq (ah P M.toNat mod) L m).length=k at *;go_wp2_with fail;go_ret;exact ⟨aN H.symm,Y.alloc Y.size _⟩
theorem nJ (P M:Int) (am:OA) (Z cm:Nat) (N:Int) (a:OA) (n c:Nat) (w:World) :
  Calls prog 91 #[.agg #[cG P,cG M,.slice am Z cm,cG N,.slice a n c]] w λe w'=>e = .returned (.agg #[cG N,.slice a n c])/\PY w w':=by go_enter func91,ntmps91;go_wp2_with fail;exact bodyPost_ret (v:=.agg #[cG N,.slice a n c]) (by simp [results,results91,go_sem]) rfl ⟨rfl,bY _ _ _⟩
def i7 (n:Int):Int:=if n<1\/64<n then 4 else 0
theorem sB (n:Int) (w:World):Calls prog 119 #[cG n] w λe w'=>e = .returned (cG (i7 n))/\w=w':=by
 by_cases h1:n<1
 ·have Z:Hid (i7 n=4):=by show _=_;rw [i7,KX (.inl h1)]
  go_enter func119,ntmps119;go_wp2;go_ret;exact ⟨aN Z.symm,rfl⟩
 ·have Y:decide (n<1)=false:=by simpa using h1
  by_cases h2:64<n
  ·have Z:Hid (i7 n=4):=by show _=_;rw [i7,KX (.inr h2)]
   go_enter func119,ntmps119;go_wp2;go_ret;exact ⟨aN Z.symm,rfl⟩
  ·have Z:Hid (i7 n=0):=by show _=_;rw [i7,KY (by omega)]
   have U:decide (64<n)=false:=by simpa using h2
   go_enter func119,ntmps119;go_wp2;go_ret;exact ⟨aN Z.symm,rfl⟩
def aI (P M:Int) (mod:LI) (N:Int) (L:Ll):Int :=
 if bs P M mod=true then (if i7 N=0 then dD P M mod N L else 4) else 1
theorem dn (P M:Int) (am:OA) (Y cm:Nat) (mod:LI) (N:Int) (a:OA) (n c:Nat) (L:Ll) (w:World) (K:Ints w am Y mod) (hi:bw w a n L) :
  Calls prog 88 #[.agg #[cG P,cG M,.slice am Y cm,cG N,.slice a n c]] w λe w'=>e = .returned (cG (aI P M mod N L))/\PY w w':=by
 go_enter func88,ntmps88;go_wp2_with fail;obtain ⟨W,r⟩:∃W:World,W=w.alloc (.cells #[cG P,cG M,.slice am Y cm,cG N,.slice a n c] 27):=⟨_,rfl⟩
 rw [<- r];have S:PY w W:=by rw [r];exact an _ _
 have x0:aQ W w.heap.size [cG P,cG M,.slice am Y cm,cG N,.slice a n c]:=by rw [r];exact Po _ _ _ rfl
 have HX:=Z5 x0;clear r x0;refine (tb P M am Y cm mod W (K.af S)).mono ?_;rintro e z ⟨rfl,Z⟩;have U:=Pm S Z;by_cases D:bs P M mod=true
 ·have C:df (bs P M mod)=0:=by rw [D];rfl
  rw [C];have HB:Hid (aI P M mod N L=if i7 N=0 then dD P M mod N L else 4):=by show _=_;rw [aI,KX D]
  have Q:=HX.af Z;have c3:=Q.cell 3 rfl;clear C D Q;go_wp2_with fail;refine (sB N z).mono ?_;rintro e w2 ⟨rfl,rfl⟩;by_cases E:i7 N=0
  ·have H:Hid (aI P M mod N L=dD P M mod N L):=by show _=_;rw [HB.out,KX E]
   rw [E];clear E;go_wp2_with fail;have hS:∀V,PY z V->V.cell? ⟨w.heap.size,0,none⟩=some (cG P)/\V.cell? ⟨w.heap.size,1,none⟩=some (cG M)/\V.cell? ⟨w.heap.size,2,none⟩=some (.slice am Y cm)/\V.cell? ⟨w.heap.size,3,none⟩=some (cG N)/\V.cell? ⟨w.heap.size,4,none⟩=some (.slice a n c)/\Ints V am Y mod/\bw V a n L/\PY z V:=by intro V j;have Q:=(HX.af Z).af j;exact ⟨Q.cell 0 rfl,Q.cell 1 rfl,Q.cell 2 rfl,Q.cell 3 rfl,Q.cell 4 rfl,((K.af S).af Z).af j,((hi.af S).af Z).af j,j⟩
   have HS:=Z5 hS;clear hS c3;go_region_held3 (λV=>V.cell? ⟨w.heap.size,0,none⟩=some (cG P)/\V.cell? ⟨w.heap.size,1,none⟩=some (cG M)/\V.cell? ⟨w.heap.size,2,none⟩=some (.slice am Y cm)/\V.cell? ⟨w.heap.size,3,none⟩=some (cG N)/\V.cell? ⟨w.heap.size,4,none⟩=some (.slice a n c)/\Ints V am Y mod/\bw V a n L/\PY z V)
    ((refine HS _ ?_;first | exact (KU _ _).drew | (go_split_ands;exact Pm (by assumption) (by assumption))))
    (first
     | (go_at_call 91;((with_reducible refine (nJ P M am Y cm N a n c _).mono ?_);rintro e w4 ⟨rfl,hb4⟩))
     | (go_at_call 143;((with_reducible refine (sV P M am Y cm mod N a n c L _ (by go_split_ands;assumption) (by go_split_ands;assumption)).mono ?_);rintro e w5 ⟨rfl,hb5⟩)))
   go_wp2_with fail;go_ret;exact ⟨aN H.symm,Pm U (by go_split_ands;assumption)⟩
  ·have H:Hid (aI P M mod N L=4):=by show _=_;rw [HB.out,KY E]
   have A:i7 N=4:=by unfold i7 at E ⊢;split <;> simp_all
   rw [A];clear E A;go_wp2_with fail;go_ret;exact ⟨aN H.symm,U⟩
 ·have C:df (bs P M mod)=1:=by
   have:bs P M mod=false:=by simpa using D
   rw [this];rfl
  rw [C];have HB:Hid (aI P M mod N L=1):=by show _=_;rw [aI,KY D]
  clear C D;go_wp2_with fail;go_ret;exact ⟨aN HB.symm,U⟩
theorem aL {P M:Int} {mod:LI} {N:Int} {L:Ll} (h:aI P M mod N L=0):bs P M mod=true/\1<=N/\N<=64/\dD P M mod N L=0:=by
 unfold aI at h;split at h
 ·rename_i h1;split at h
  ·rename_i h2;unfold i7 at h2;split at h2
   ·omega
   ·exact ⟨h1,by omega,by omega,h⟩
  ·omega
 ·omega
theorem eJ {P M:Int} {mod:LI} {N:Int} {L:Ll} (h:dD P M mod N L=0):dE P M mod N L=0/\bZ (ah P M.toNat mod) L N.toNat=L:=by
 unfold dD at h;split at h
 ·rename_i h1;split at h
  ·rename_i h2;exact ⟨h1,h2⟩
  ·omega
 ·rename_i h1;exact absurd h h1
theorem nc {P M:Int} {mod:LI} {N:Int} {L:Ll} (h:dE P M mod N L=0):bs P M mod=true/\fD (ah P M.toNat mod).q N L=0:=by
 unfold dE at h;split at h
 ·rename_i h1;exact ⟨h1,h⟩
 ·omega
def ke (N:Int) (l:LI) (k:Nat):Bool:=decide (0<=nth l k) && decide (nth l k<N) && (k == 0 || decide (nth l (k - 1)<nth l k))
def ru (N:Int) (l:LI) (k:Nat):Bool:=(List.range k).all (ke N l)
def fP (N:Int) (l:LI):Bool:=ru N l l.length
theorem mq {N:Int} {l:LI} {k:Nat} (h:ru N l k=true) (Z:ke N l k=true):ru N l (k+1)=true:=by unfold ru at *;rw [Mn,NQ,h];simp [Z]
theorem BX {N:Int} {l:LI} {k n:Nat} (Z:k<n) (h:ke N l k=false):ru N l n=false:=by unfold ru;rw [MD];exact ⟨k,List.mem_range.2 Z,by simp [h]⟩
theorem ie {N:Int} {l:LI} (h:fP N l=true) {k:Nat} (Z:k<l.length):0<=nth l k/\nth l k<N/\(0<k->nth l (k - 1)<nth l k):=by unfold fP ru at h;rw [LR] at h;have:=h k (List.mem_range.2 Z);unfold ke at this;simp only [Lm,NO,LM,beq_iff_eq] at this;exact ⟨this.1.1,this.1.2,λh0=>by rcases this.2 with h1 | h1;omega;exact h1⟩
def ba (L:Ll) (i:Nat):LI:=L.map λr=>nth r i
theorem dz (L:Ll) (i:Nat):(ba L i).length=L.length:=by simp [ba]
theorem dj (L:Ll) (i k:Nat) (Z:k<L.length):nth (ba L i) k=nth (ai L k) i:=by rw [aj (by rw [dz];exact Z),aE Z];simp [ba]
def fnz:LI->Nat
 | []=>0
 | x :: l=>if x=0 then fnz l+1 else 0
theorem Gw:∀l,fnz l<=l.length
 | []=>KT _
 | x :: l=>by have:=Gw l;unfold fnz;split <;> simp <;> omega
theorem Fp:∀(l:LI) (k:Nat),k<l.length->(∀j,j<k->nth l j=0)->nth l k ≠ 0->fnz l=k
 | [],k,h,_,_=>by simp at h
 | x :: l,0,_,_,h=>by unfold fnz;rw [KY (by simpa [nth] using h)]
 | x :: l,k+1,h,h0,h1=>by
  have Z:x=0:=by simpa [nth] using h0 0 (by omega)
  unfold fnz;rw [KX Z,Fp l k (by simpa using h) (λj Y=>by simpa [nth] using h0 (j+1) (by omega)) (by simpa [nth] using h1)]
theorem xw:∀(l:LI),(∀j,j<l.length->nth l j=0)->fnz l=l.length
 | [],_=>rfl
 | x :: l,h=>by
  have Z:x=0:=by simpa [nth] using h 0 (by simp)
  unfold fnz;rw [KX Z,xw l (λj Y=>by simpa [nth] using h (j+1) (by simpa using Y))];rfl
theorem mS:∀(l:LI),fnz l<l.length->nth l (fnz l) ≠ 0
 | [],h=>by simp at h
 | x :: l,h=>by
  unfold fnz at h ⊢;split
  ·rename_i Z;rw [KX Z] at h;have:=mS l (by simpa using h);simpa [nth] using this
  ·rename_i Z;simpa [nth] using Z
theorem xh:∀(l:LI) (j:Nat),j<fnz l->nth l j=0
 | [],j,h=>by simp [fnz] at h
 | x :: l,j,h=>by
  unfold fnz at h;split at h
  ·rename_i Z;match j with
   | 0=>simpa [nth] using Z
   | j+1=>have:=xh l j (by omega);simpa [nth] using this
  ·omega
def wF (l:LI):Int:=if fnz l<l.length then fnz l else -1
section
def dY (O:aP) (v:LI) (x:Int) (r:LI):LI:=List.zipWith (λp y=>O.add p (O.neg (O.mul x y))) v r
theorem fi (O:aP) (v:LI) (x:Int) (r:LI) (h:r.length=v.length):(dY O v x r).length=v.length:=by simp [dY,h]
theorem eS (O:aP) (v:LI) (x:Int) (r:LI) (i:Nat) (h:r.length=v.length) (hi:i<v.length):nth (dY O v x r) i=O.add (nth v i) (O.neg (O.mul x (nth r i))):=by rw [aj (show i<(dY O v x r).length by rw [fi _ _ _ _ h];exact hi),aj (show i<r.length by omega),aj hi];simp [dY]
def ey (O:aP) (u:LI) (p:Int) (r:LI):LI:=if nth u p.toNat=0 then u else dY O u (nth u p.toNat) r
def redTo (O:aP) (L:Ll) (Q:LI) (v:LI):Nat->LI
 | 0=>v
 | k+1=>ey O (redTo O L Q v k) (nth Q k) (ai L k)
structure BS where
 rows:Ll
 place:LI
def BS.red (O:aP) (s:BS) (v:LI):LI:=redTo O s.rows s.place v s.rows.length
def BS.eH (O:aP) (s:BS) (v:LI):Bool:=decide (fnz (s.red O v)<(s.red O v).length)
def BS.next (O:aP) (s:BS) (v:LI):BS :=
 if s.eH O v=true then ⟨s.rows ++ [(s.red O v).map (O.mul (O.inv (nth (s.red O v) (fnz (s.red O v)))))],s.place ++ [(fnz (s.red O v):Int)]⟩ else s
structure BS.Ok (El:Int->Prop) (n:Nat) (s:BS):Prop where
 rws:bt El n s.rows
 len:s.place.length=s.rows.length
 plc:∀i,i<s.rows.length->0<=nth s.place i/\nth s.place i<n
theorem uY {O:aP} {El:Int->Prop} (Y:qC O El) {v r:LI} {x:Int} (Q:∀y ∈ v,El y) (U:∀y ∈ r,El y) (S:El x):∀y ∈ dY O v x r,El y:=by intro y Z;unfold dY at Z;rw [NM] at Z;obtain ⟨i,hi,rfl⟩:=Z;rw [Ni];exact Y.add _ _ (Q _ (Ly _)) (Y.neg _ (Y.mul _ _ S (U _ (Ly _))))
theorem lH {O:aP} {El:Int->Prop} (S:qC O El) {n:Nat} {L:Ll} {Q v:LI} (Y:bt El n L) (N:∀i,i<L.length->0<=nth Q i/\nth Q i<n)
  (U:v.length=n/\∀y ∈ v,El y):∀k,k<=L.length->(redTo O L Q v k).length=n/\∀y ∈ redTo O L Q v k,El y
 | 0,_=>U
 | k+1,E=>by
  have Z:=lH S Y N U k (by omega);have K:=Y.row (i:=k) (by omega);have H:=N k (by omega);rw [redTo,ey];split
  ·exact Z
  ·exact ⟨by rw [fi _ _ _ _ (by omega)];exact Z.1,uY S Z.2 K.2 (Z.2 _ (aG (by omega)))⟩
theorem BS.Ok.next {O:aP} {El:Int->Prop} (U:qC O El) {n:Nat} {s:BS} (h:s.Ok El n) {v:LI} (L:v.length=n/\∀y ∈ v,El y):(s.next O v).Ok El n:=by
 unfold BS.next;split
 ·rename_i K;have hu:=lH U h.rws h.plc L s.rows.length (KT _);have S:fnz (s.red O v)<(s.red O v).length:=by simpa [BS.eH] using K
  have hne:=mS _ S;have Y:(s.red O v).length=n:=hu.1;have Z:∀y ∈ s.red O v,El y:=hu.2;refine ⟨λr Q=>?_,by simp [h.len],λi hi=>?_⟩
  ·rcases List.mem_append.1 Q with h1 | h1
   ·exact h.rws r h1
   ·rw [List.mem_singleton.1 h1];refine ⟨by rw [Lc];exact Y,λy N=>?_⟩;obtain ⟨z,H,rfl⟩:=List.mem_map.1 N;exact U.mul _ _ (U.inv _ (Z _ (aG S)) hne) (Z z H)
  ·simp only [K6,Lo] at hi;by_cases h1:i<s.rows.length
   ·have:=h.plc i h1;have e:nth (s.place ++ [(fnz (s.red O v):Int)]) i=nth s.place i:=by simp only [nth,KZ];rw [Lg (by rw [h.len];exact h1)]
    rw [e];exact this
   ·obtain rfl:i=s.rows.length:=by omega
    have e:nth (s.place ++ [(fnz (s.red O v):Int)]) s.rows.length=fnz (s.red O v):=by simp only [nth,KZ];rw [<- h.len];simp
    rw [e];omega
 ·exact h
structure sA (w:World) (B bb b:Nat) (ar:OA) (cr:Nat) (R:LA) (ap:OA) (cp:Nat) (s:BS):Prop where
 bB:B<=bb
 c0:w.cell? ⟨bb,0,none⟩=some (.pointer (some ⟨b,0,none⟩))
 c1:w.cell? ⟨bb,1,none⟩=some (.slice ar s.rows.length cr)
 c2:w.cell? ⟨bb,2,none⟩=some (.slice ap s.rows.length cp)
 fr:∀i,w.frozen? ⟨bb,i,none⟩=false
 om:aO w B ar s.rows.length cr R s.rows
 pl:w.ownsRow B 3 1 (.slice ap s.rows.length cp) s.rows.length (s.place.map (Value.int .i64))
 d1:¬ bQ ar R bb
 d2:eY ap bb
 d3:ap ≠ none->¬ bQ ar R (ablk ap)
def Am (bb:Nat) (ar:OA) (R:LA) (ap:OA) (x:Nat):Prop:=x=bb\/bQ ar R x\/(ap ≠ none/\x=ablk ap)
theorem AM {w w':World} {B:Nat} {e:TypeId} {a:OA} {c n:Nat} {xs:List Value} (h:w.ownsRow B e 1 (.slice a n c) n xs) (hb:a ≠ none->w'.heap[ablk a]? = w.heap[ablk a]?):w'.ownsRow B e 1 (.slice a n c) n xs:=by
 by_cases ha:a=none
 ·subst ha;refine ⟨h.1,?_⟩;rcases h.2 with h2 | ⟨g,cap,cur,Z,_⟩
  ·exact .inl h2
  ·cases Z
 ·exact fg h (hb ha)
namespace sA
variable {w w':World} {B bb b:Nat} {ar:OA} {cr:Nat} {R:LA} {ap:OA} {cp:Nat} {s:BS}
theorem lt (h:sA w B bb b ar cr R ap cp s) (x:Nat) (Z:Am bb ar R ap x):B<=x/\x<w.heap.size:=by
 rcases Z with rfl | Z | ⟨h1,rfl⟩
 ·exact ⟨h.bB,Lb w _ h.c0⟩
 ·exact h.om.lt x Z
 ·exact aT h.pl h1
theorem bp (h:sA w B bb b ar cr R ap cp s) (hb:∀x,Am bb ar R ap x->w'.heap[x]? = w.heap[x]?):sA w' B bb b ar cr R ap cp s:=by
 have Z:=hb bb (.inl rfl);exact ⟨h.bB,(Lu (w:=w) (a:=⟨bb,0,none⟩) Z).trans h.c0,(Lu (w:=w) (a:=⟨bb,1,none⟩) Z).trans h.c1,(Lu (w:=w) (a:=⟨bb,2,none⟩) Z).trans h.c2,
  λi=>(LK (w:=w) (a:=⟨bb,i,none⟩) Z).trans (h.fr i),h.om.bp λx Y=>hb x (.inr (.inl Y)),AM h.pl λha=>hb _ (.inr (.inr ⟨ha,rfl⟩)),h.d1,h.d2,h.d3⟩
theorem af (h:sA w B bb b ar cr R ap cp s) (hb:PY w w'):sA w' B bb b ar cr R ap cp s:=h.bp λx Z=>hb.block x (h.lt x Z).2
theorem only (h:sA w B bb b ar cr R ap cp s) {Z:OA} (S:db Z w w') (Y:Z ≠ none->¬ Am bb ar R ap (ablk Z)):sA w' B bb b ar cr R ap cp s :=
 h.bp λx U=>S.block x (h.lt x U).2 λ⟨h1,h2⟩=>Y h1 (h2 ▸ U)
end sA
theorem aO.push {w w':World} {B:Nat} {a:OA} {n c:Nat} {R:LA} {L:Ll} (h:aO w B a n c R L) {r:OA} {rc:Nat} {l:LI}
  (hr:w.ownsRow B 3 1 (.slice r l.length rc) l.length (l.map (Value.int .i64))) (N:r ≠ none->¬ bQ a R (ablk r))
  {a':OA} {c':Nat} (Q:w'.ownsRow B 22 1 (.slice a' (n+1) c') (n+1) (List.zipWith j8 R L ++ [.slice r l.length rc])) (hg:w.grownBy w' (Value.slice a n c).ownBlock)
  (A:∀b,b<w.heap.size->eY a b->eY a' b):aO w' B a' (n+1) c' (R ++ [(r,rc)]) (L ++ [l]):=by
 have hn':a' ≠ none:=by
  intro e;have:=(PG Q)
  obtain ⟨x,y,hv,hp⟩:=this;cases hv
  have:=hp (by omega);rw [e] at this;cases this
 have E:∀i,ai (L ++ [l]) i=if i<n then ai L i else if i=n then l else []:=by
  intro i;simp only [ai,KZ];by_cases h1:i<n
  ·rw [KX h1,Lg (by rw [h.ll];exact h1)]
  ·rw [KY h1];by_cases h2:i=n
   ·subst h2;rw [KX rfl,<- h.ll];simp
   ·rw [KY h2,Mc (by simp [h.ll];omega)];rfl
 have Z:∀i,aM (R ++ [(r,rc)]) i=if i<n then aM R i else if i=n then (r,rc) else (none,0):=by
  intro i;simp only [aM,KZ];by_cases h1:i<n
  ·rw [KX h1,Lg (by rw [h.rl];exact h1)]
  ·rw [KY h1];by_cases h2:i=n
   ·subst h2;rw [KX rfl,<- h.rl];simp
   ·rw [KY h2,Mc (by simp [h.rl];omega)];rfl
 have Y:∀ {x:OA} {K m:Nat} {xs:List Value},w.ownsRow B 3 1 (.slice x m K) m xs->(x ≠ none->eY a (ablk x))->w'.ownsRow B 3 1 (.slice x m K) m xs:=by intro x K m xs C h2;exact AM C λS=>hg.block _ (aT C S).2 λe=>(h2 S).own n c e.symm
 have rA:r ≠ none->eY a (ablk r):=λU=>by
  by_cases ha:a=none
  ·exact .inl ha
  ·exact .inr λe=>N U (.inl ⟨ha,e.symm⟩)
 have oA:∀i,i<n->(aM R i).1 ≠ none->eY a (ablk (aM R i).1):=λi hi S=>by
  rcases h.tq i hi with h2 | h2
  ·exact absurd h2 S
  ·exact .inr λe=>h2 e.symm
 have H:∀ {x:OA} {K m:Nat} {xs:List Value},w.ownsRow B 3 1 (.slice x m K) m xs->(x ≠ none->eY a (ablk x))->eY x (ablk a'):=by
  intro x K m xs C h2;by_cases S:x=none
  ·exact .inl S
  ·rcases A _ (aT C S).2 (h2 S) with h3 | h3
   ·exact absurd h3 hn'
   ·exact .inr λe=>h3 e.symm
 have D:List.zipWith j8 (R ++ [(r,rc)]) (L ++ [l])=List.zipWith j8 R L ++ [.slice r l.length rc]:=by rw [List.zipWith_append (by rw [h.rl,h.ll])];rfl
 refine ⟨by simp [h.rl],by simp [h.ll],by rw [D];exact Q,λi hi=>?_,λi hi=>?_,λi j hi hj z=>?_⟩
 ·rw [E,Z];by_cases h1:i<n
  ·simp only [KX h1];exact Y (h.row i h1) (oA i h1)
  ·obtain rfl:i=n:=by omega
   simp only [KY h1,if_true];exact Y hr rA
 ·rw [Z];by_cases h1:i<n
  ·simp only [KX h1];exact H (h.row i h1) (oA i h1)
  ·obtain rfl:i=n:=by omega
   simp only [KY h1,if_true];exact H hr rA
 ·rw [Z,Z];by_cases h1:i<n
  ·by_cases h2:j<n
   ·simp only [KX h1,KX h2];exact h.sep i j h1 h2 z
   ·obtain rfl:j=n:=by omega
    simp only [KX h1,KY h2,if_true];by_cases U:r=none
    ·exact .inr (.inl U)
    ·by_cases S:(aM R i).1=none
     ·exact .inl S
     ·exact .inr (.inr λe=>N U (by rw [e];exact aO.kg (by rw [h.rl];exact h1) S))
  ·obtain rfl:i=n:=by omega
   have h2:j<i:=by omega
   simp only [KY h1,KX h2,if_true];by_cases U:r=none
   ·exact .inl U
   ·by_cases S:(aM R j).1=none
    ·exact .inr (.inl S)
    ·exact .inr (.inr λe=>N U (by rw [<- e];exact aO.kg (by rw [h.rl];exact h2) S))
theorem bQ.push {w:World} {B:Nat} {a:OA} {n c:Nat} {R:LA} {L:Ll} (h:aO w B a n c R L) {r:OA} {rc:Nat} {a':OA}
  (Y:∀b,b<w.heap.size->eY a b->eY a' b) {x:Nat} (U:bQ a' (R ++ [(r,rc)]) x):bQ a R x\/(r ≠ none/\x=ablk r)\/w.heap.size<=x:=by
 rcases U with ⟨h1,rfl⟩ | ⟨i,hi,h1,rfl⟩
 ·by_cases Z:ablk a'<w.heap.size
  ·by_cases h2:eY a (ablk a')
   ·rcases Y _ Z h2 with h3 | h3
    ·exact absurd h3 h1
    ·exact absurd rfl h3
   ·left;left;refine ⟨λe=>h2 (.inl e),?_⟩;apply Lr;intro e;exact h2 (.inr λS=>e S.symm)
  ·exact .inr (.inr (by omega))
 ·simp only [K6,Lo] at hi;by_cases h2:i<R.length
  ·have e:aM (R ++ [(r,rc)]) i=aM R i:=by simp only [aM,KZ];rw [Lg h2]
   rw [e] at h1 ⊢;exact .inl (aO.kg h2 h1)
  ·obtain rfl:i=R.length:=by omega
   have e:aM (R ++ [(r,rc)]) R.length=(r,rc):=by simp [aM]
   rw [e] at h1 ⊢;exact .inr (.inl ⟨h1,rfl⟩)
namespace sA
variable {V w4 w5 X w6:World} {B bb b:Nat} {ar:OA} {cr:Nat} {R:LA} {ap:OA} {cp:Nat} {s:BS}
theorem Jw {a4 a5:OA} {c4 E k:Nat} {N:LI} {o:Obj} (h:sA V B bb b ar cr R ap cp s) (hk:s.rows.length=k) (r:B<=V.heap.size) (hb4:PY V w4)
  (Y:w4.ownsRow V.heap.size 3 1 (.slice a4 N.length c4) N.length (N.map (Value.int .i64)))
  (A:w5.ownsRow B 22 1 (.slice a5 (k+1) E) (k+1) (List.zipWith j8 R s.rows ++ [.slice a4 N.length c4])) (Z:(w4.alloc o).grownBy w5 (Value.slice ar k cr).ownBlock)
  (D:∀x,x<(w4.alloc o).heap.size->eY ar x->eY a5 x) (p1:∃v,w5.cell? ⟨bb,1,none⟩=some v) :
  ∃K z j,(w5.setCell ⟨bb,1,none⟩ (.slice a5 (k+1) E)).cell? ⟨bb,1,none⟩=some (.slice K (k+1) z)/\aO (w5.setCell ⟨bb,1,none⟩ (.slice a5 (k+1) E)) B K (k+1) z j (s.rows ++ [N]) /\
   aC V (w5.setCell ⟨bb,1,none⟩ (.slice a5 (k+1) E)) (λx=>x=bb\/bQ ar R x) (λx=>x=bb\/bQ K j x)/\¬ bQ K j bb /\
   (∀i v,i ≠ 1->V.cell? ⟨bb,i,none⟩=some v->(w5.setCell ⟨bb,1,none⟩ (.slice a5 (k+1) E)).cell? ⟨bb,i,none⟩=some v)/\∀i,(w5.setCell ⟨bb,1,none⟩ (.slice a5 (k+1) E)).frozen? ⟨bb,i,none⟩=false:=by
 have U:PY V (w4.alloc o):=Pm hb4 (an _ _);have C:=h.om.af U;rw [hk] at C;have hr:(w4.alloc o).ownsRow B 3 1 (.slice a4 N.length c4) N.length (N.map (Value.int .i64)):=aY (bf Y (an _ _)) r;have hra:a4 ≠ none->¬ bQ ar R (ablk a4):=λh0 hI=>by have h1:=(aT Y h0).1;have h2:=(h.om.lt _ hI).2;omega
 have hP:=aO.push C hr hra A Z D;have hbb:=h.lt bb (.inl rfl);have Q:eY ar bb:=by
  by_cases ha:ar=none
  ·exact .inl ha
  ·exact .inr λe=>h.d1 (.inl ⟨ha,e.symm⟩)
 have hsz:=U.size;have S:=λ{x:Nat} (L:bQ a5 (R ++ [(a4,c4)]) x)=>bQ.push C D L;have hd:¬ bQ a5 (R ++ [(a4,c4)]) bb:=λhI=>by
  rcases S hI with h1 | ⟨h1,h2⟩ | h1
  ·exact h.d1 h1
  ·have:=(aT Y h1).1;omega
  ·omega
 obtain ⟨v,p1⟩:=p1;refine ⟨a5,E,R ++ [(a4,c4)],Lh _ _ _ p1,hP.bp λx L=>Lf _ _ _ _ λe=>hd (by rw [show bb=x from e.symm];exact L),?_,hd,λi v hi hv=>?_,λi=>?_⟩;rotate_left
 ·rw [Le _ _ _ _ (by simp <;> omega)];exact bP Z (aB U hv) Q
 ·rw [L7];exact (LK (w:=w4.alloc o) (a:=⟨bb,i,none⟩) (Z.block bb (by omega) λe=>Q.own k cr e.symm)).trans (dK U hbb.2 (h.fr i))
 have H:Below 0 w5 (w5.setCell ⟨bb,1,none⟩ (.slice a5 (k+1) E)):=(KU 0 w5).setCell (K0 _) _;refine ⟨H.os.trans (Z.os.trans U.os),H.tape.trans (Z.tape.trans U.tape),H.output.trans (Z.output.trans U.output),K9 U.size (K9 Z.size H.size),λx L hI=>?_,λx L=>?_⟩
 ·rw [Lf _ _ _ _ λe=>hI (.inl e)];rw [Z.block x (by omega) λe=>?_]
  ·exact U.block x L
  ·apply hI;right;left;cases ar with
   | none=>simp [Value.ownBlock] at e
   | some y=>simp [Value.ownBlock] at e;exact ⟨by simp,by rw [e];rfl⟩
 ·rcases L with rfl | L
  ·exact .inl (.inl rfl)
  ·rcases S L with h1 | ⟨h1,h2⟩ | h1
   ·exact .inl (.inr h1)
   ·exact .inr (by have:=(aT Y h1).1;omega)
   ·exact .inr (by omega)
theorem Jn {S:OA} {D k:Nat} {f:Int} {L:Ll} {Q:LI} {o:Obj} (hB:B<=bb) (x0:X.cell? ⟨bb,0,none⟩=some (.pointer (some ⟨b,0,none⟩))) (x1:X.cell? ⟨bb,1,none⟩=some (.slice ar (k+1) cr))
  (x2:∃v,X.cell? ⟨bb,2,none⟩=some v)
  (xf:∀i,X.frozen? ⟨bb,i,none⟩=false) (hO:aO X B ar (k+1) cr R L) (hp:X.ownsRow B 3 1 (.slice ap k cp) k (Q.map (Value.int .i64))) (d1:¬ bQ ar R bb) (d2:eY ap bb) (d3:ap ≠ none->¬ bQ ar R (ablk ap))
  (K:w6.ownsRow B 3 1 (.slice S (k+1) D) (k+1) (Q.map (Value.int .i64) ++ [cG f])) (Z:(X.alloc o).grownBy w6 (Value.slice ap k cp).ownBlock)
  (j:∀x,x<(X.alloc o).heap.size->eY ap x->eY S x) :
  sA (w6.setCell ⟨bb,2,none⟩ (.slice S (k+1) D)) B bb b ar cr R S D ⟨L,Q ++ [f]⟩ /\
   aC X (w6.setCell ⟨bb,2,none⟩ (.slice S (k+1) D)) (Am bb ar R ap) (Am bb ar R S):=by
 have hbb:bb<X.heap.size:=Lb X _ x0;have N:PY X (X.alloc o):=an _ _;have hsz:=N.size;have hne:S ≠ none:=λe=>by
  obtain ⟨y,z,hv,hp⟩:=PG K;cases hv
  have:=hp (by omega);rw [e] at this;cases this
 have Y:∀ {x:Nat},eY ap x->x<X.heap.size->x ≠ ablk S:=λh2 U e=>by
  rcases j _ (by omega) h2 with h3 | h3
  ·exact hne h3
  ·exact h3 e.symm
 have A:=Y d2 hbb;have blk:∀x,x<X.heap.size->x ≠ bb->eY ap x->(w6.setCell ⟨bb,2,none⟩ (.slice S (k+1) D)).heap[x]? = X.heap[x]?:=λx U h1 h2=>by rw [Lf _ _ _ _ h1,Z.block x (by omega) λe=>h2.own k cp e.symm];exact N.block x U
 have C:∀x,bQ ar R x->eY ap x:=λx U=>by
  by_cases h0:ap=none
  ·exact .inl h0
  ·exact .inr λe=>d3 h0 (e ▸ U)
 have r:∀i v,X.cell? ⟨bb,i,none⟩=some v->w6.cell? ⟨bb,i,none⟩=some v:=λi v hv=>bP Z (br hv _) d2;have E:L.length=k+1:=hO.ll;have hQl:Q.length=k:=by simpa using jB hp
 have hO6:aO (w6.setCell ⟨bb,2,none⟩ (.slice S (k+1) D)) B ar (k+1) cr R L:=hO.bp λx U=>blk x (hO.lt x U).2 (λe=>d1 (e ▸ U)) (C x U);obtain ⟨v2,x2⟩:=x2;refine ⟨⟨hB,?_,?_,?_,λi=>?_,?_,?_,d1,.inr λe=>A e.symm,λ_ hI=>?_⟩,?_⟩
 ·rw [Le _ _ _ _ (by simp)];exact r _ _ x0
 ·rw [Le _ _ _ _ (by simp)];simpa [E] using r _ _ x1
 ·simp only [E];exact Lh _ _ _ (r _ _ x2)
 ·rw [L7];exact (LK (w:=X.alloc o) (a:=⟨bb,i,none⟩) (Z.block bb (by omega) λe=>d2.own k cp e.symm)).trans (dP hbb (xf i) _)
 ·simp only [E];exact hO6
 ·simp only [E];have:=ee K (p:=⟨bb,2,none⟩) (.slice S (k+1) D) (.inr λe=>A e.symm);simpa using this
 ·exact Y (C _ hI) (hO.lt _ hI).2 rfl
 ·have H:Below 0 w6 (w6.setCell ⟨bb,2,none⟩ (.slice S (k+1) D)):=(KU 0 w6).setCell (K0 _) _;refine ⟨H.os.trans (Z.os.trans N.os),H.tape.trans (Z.tape.trans N.tape),H.output.trans (Z.output.trans N.output),K9 N.size (K9 Z.size H.size),λx U hI=>?_,λx U=>?_⟩
  ·refine blk x U (λe=>hI (.inl e)) ?_;by_cases h0:ap=none
   ·exact .inl h0
   ·exact .inr λe=>hI (.inr (.inr ⟨h0,e.symm⟩))
  ·rcases U with rfl | U | ⟨h1,rfl⟩
   ·exact .inl (.inl rfl)
   ·exact .inl (.inr (.inl U))
   ·by_cases hlt:ablk S<X.heap.size
    ·left;right;right;apply Lr;intro hn;have hA:eY ap (ablk S):=by
      by_cases h0:ap=none
      ·exact .inl h0
      ·exact .inr λe=>hn ⟨h0,e.symm⟩
     exact Y hA hlt rfl
    ·exact .inr (by omega)
end sA
end
theorem aO.Gb (w:World) (B:Nat):aO w B none 0 0 [] [] :=
 ⟨rfl,rfl,cU,λi hi=>by omega,λi hi=>by omega,λi j hi=>by omega⟩
theorem na (P:Int) (m:Nat) (am:OA) (mn cm:Nat) (mod:LI) (av:OA) (n cv:Nat) (v:LI) (s:Int) (C:OA) (cu:Nat) (u:LI) (w:World) (hf:tK w P m am mn mod) (hs:eW P m s)
  (hi:Ints w av n v) (hu:Ints w C n u) (hve:∀x ∈ v,eW P m x) (hue:∀x ∈ u,eW P m x) (hn:n<=1000000) :
  Calls prog 227 #[.agg #[cG P,cG m,.slice am mn cm],.slice av n cv,cG s,.slice C n cu] w (cQ w (bX (kG P m mod) v s u)):=by
 have K:=hf.rf;have Hs:=Z5 (K.iQ hs);have Hvl:=Z5 hi.len;have Hul:=Z5 hu.len;have hplv:=hi.pl;have hplu:=hu.pl;have Hev:Hid (∀k,k<n->iQ (aK P m) (nth v k)=true):=λk hk=>K.iQ (hve _ (aG (by rw [hi.len];exact hk)));have Heu:Hid (∀k,k<n->iQ (aK P m) (nth u k)=true):=λk hk=>K.iQ (hue _ (aG (by rw [hu.len];exact hk)));have Q:Hid ((bX (kG P m mod) v s u).length=n):=by show _=_;rw [dm _ _ _ _ (by rw [hi.len,hu.len]),hi.len]
 have HNn:Hid (∀k,k<n->nth (bX (kG P m mod) v s u) k=if nth u k=0 then nth v k else fsum P m (nth v k) (mulR P m mod s (nth u k))):=λk hk=>gj (kG P m mod) v s u k (by rw [hi.len,hu.len]) (by rw [hi.len];exact hk);obtain ⟨E,hNN⟩:∃E,bX (kG P m mod) v s u=E:=⟨_,rfl⟩
 rw [hNN] at Q HNn;rw [hNN];clear hve hue hNN;go_enter func227,ntmps227;go_wp2_with (at_make;refine bV rfl _ _ 22 3 rfl (cG 0) 8 underlying22 bh rfl n rfl rfl (by omega) (by unfold maxLen;omega) ?_;intro a1 w1 S Y hge Z);obtain ⟨W,hW⟩:∃W:World,W=w.alloc (.cells #[cG P,cG m,.slice am mn cm] 24):=⟨_,rfl⟩
 rw [<- hW] at S Y hge;have hbW:PY w W:=by rw [hW];exact an _ _
 have x0:aQ W w.heap.size [cG P,cG m,.slice am mn cm]:=by rw [hW];exact Po _ _ _ rfl
 have hfW:=hf.af hbW;have hiW:=hi.af hbW;have huW:=hu.af hbW;have hS:∀k,k<n->∀V,PY W V->V.cell? ⟨w.heap.size,0,none⟩=some (cG P)/\V.cell? ⟨w.heap.size,1,none⟩=some (cG m)/\V.cell? ⟨w.heap.size,2,none⟩=some (.slice am mn cm) /\
   V.cell? ⟨ablk av,aJ av+k,none⟩=some (cG (nth v k))/\V.cell? ⟨ablk C,aJ C+k,none⟩=some (cG (nth u k))/\PY W V:=by intro k hk V D;have x1:=x0.af D;exact ⟨x1.cell 0 rfl,x1.cell 1 rfl,x1.cell 2 rfl,(hiW.af D).cell k hk,(huW.af D).cell k hk,D⟩
 have HS:=Z5 hS;clear hW x0 hS;go_loopw [10] (λiv wr=>∃k:Nat,k<=n/\iv = cG k /\
   wr.ownsRow W.heap.size 3 1 (.slice a1 n n) n ((du (E.take k) k n).map (Value.int .i64))/\PY W wr)
  (λi _=>n - (intOf i).toNat)
 case atStart=>exact ⟨0,K0 _,rfl,by simpa [du] using S,Y⟩
 case round =>
  obtain ⟨k,hk,rfl,S,Y⟩:=hrel
  obtain ⟨hints,L⟩:=Pn S
  have hpl1:=hints.pl
  by_cases Z:k<n
  ·have hB:=(L (by omega)).1
   have cc:=hints.cell k Z
   have cf:=(L (by omega)).2 k Z
   obtain ⟨d0,d1,d2,d3,d4,_⟩:=HS k Z wr Y
   have A:∀(V:World) (z:Int),z=nth E k->V.ownsRow W.heap.size 3 1 (.slice a1 n n) n ((du (E.take k) k n).map (Value.int .i64))->(V.setCell ⟨ablk a1,aJ a1+k,none⟩ (cG z)).ownsRow W.heap.size 3 1 (.slice a1 n n) n ((du (E.take (k+1)) (k+1) n).map (Value.int .i64)):=by rintro V z rfl D;have h:=bA D k Z (cG (nth E k));rw [<- Lq,fF _ _ _ _ (by simp [Q.out];omega) Z] at h;rw [K4 (by rw [Q.out];omega)];rw [aj (by rw [Q.out];omega)] at h ⊢;exact h
   have Hset:=Z5 A
   have HB:=Z5 hB
   have H:=HNn k Z
   have N:=bA S k Z (cG (nth v k))
   by_cases hz:nth u k=0
   ·rw [KX hz] at H
    have hz':(nth u k != 0)=false:=by simpa using hz
    have HNk:=Z5 H
    have dd:(wr.setCell ⟨ablk a1,aJ a1+k,none⟩ (cG (nth v k))).cell? ⟨ablk C,aJ C+k,none⟩=some (cG (nth u k)):=(HS k Z _ (Y.setCell hB _)).2.2.2.2.1
    clear A hz H N
    go_wp2_with fail
    go_roundw
    case rel=>exact ⟨k+1,by omega,by go_num,Hset _ _ HNk.symm S,Y.setCell HB.out _⟩
    case measure=>simp [intOf] <;> omega
   ·rw [KY hz] at H
    have hz':(nth u k != 0)=true:=by simpa using hz
    have HNk:=Z5 H
    obtain ⟨U,hU⟩:∃U:World,U=wr.setCell ⟨ablk a1,aJ a1+k,none⟩ (cG (nth v k)):=⟨_,rfl⟩
    have hbU:PY W U:=by rw [hU];exact Y.setCell hB _
    have dd:(wr.setCell ⟨ablk a1,aJ a1+k,none⟩ (cG (nth v k))).cell? ⟨ablk C,aJ C+k,none⟩=some (cG (nth u k)):=(HS k Z _ (Y.setCell hB _)).2.2.2.2.1
    rw [<- hU] at N
    have hmdU:=(hfW.af hbU).mods
    have Hmd:Hid (∀V,PY U V->zw V P m am mn mod):=λV D=>hmdU.af D
    have HK:Hid (∀V,PY U V->(∃y,V.cell? ⟨ablk a1,aJ a1+k,none⟩=some y)/\V.frozen? ⟨ablk a1,aJ a1+k,none⟩=false/\V.ownsRow W.heap.size 3 1 (.slice a1 n n) n (((du (E.take k) k n).map (Value.int .i64)).set k (cG (nth v k)))):=λV D=>by have ho:=bf N D;have h5:=bH ho k Z;exact ⟨⟨_,by rw [h5.1,LC (by rw [h5.2.2.2.1];exact Z)]⟩,h5.2.1,ho⟩
    have j:=Z5 hbU
    have HelM:Hid (iQ (aK P m) (mulR P m mod s (nth u k))=true):=K.iQ (wA K mod _ _)
    have HSk:Hid (∀V,PY W V->V.cell? ⟨w.heap.size,0,none⟩=some (cG P)/\V.cell? ⟨w.heap.size,1,none⟩=some (cG m)/\V.cell? ⟨w.heap.size,2,none⟩=some (.slice am mn cm) /\
     V.cell? ⟨ablk av,aJ av+k,none⟩=some (cG (nth v k))/\V.cell? ⟨ablk C,aJ C+k,none⟩=some (cG (nth u k))/\PY W V):=HS k Z
    have r:∀V:World,V.ownsRow W.heap.size 3 1 (.slice a1 n n) n (((du (E.take k) k n).map (Value.int .i64)).set k (cG (nth v k))) ->
      (V.setCell ⟨ablk a1,aJ a1+k,none⟩ (cG (fsum P m (nth v k) (mulR P m mod s (nth u k))))).ownsRow W.heap.size 3 1 (.slice a1 n n) n ((du (E.take (k+1)) (k+1) n).map (Value.int .i64)):=by intro V D;rw [<- HNk.out];have h:=bA D k Z (cG (nth E k));rw [List.set_set,<- Lq,fF _ _ _ _ (by simp [Q.out];omega) Z] at h;rw [K4 (by rw [Q.out];omega)];rw [aj (by rw [Q.out];omega)] at h ⊢;exact h
    have Hset2:=Z5 r
    clear A hz H N hmdU hbU r
    go_wp2_with fail
    rw [<- hU]
    clear hU d0 d1 d2 d3 d4 cc cf dd Y hints L S hB
    go_region_held3 (λV=>V.cell? ⟨w.heap.size,0,none⟩=some (cG P)/\V.cell? ⟨w.heap.size,1,none⟩=some (cG m)/\V.cell? ⟨w.heap.size,2,none⟩=some (.slice am mn cm) /\
      V.cell? ⟨ablk av,aJ av+k,none⟩=some (cG (nth v k))/\V.cell? ⟨ablk C,aJ C+k,none⟩=some (cG (nth u k))/\PY W V)
     ((refine HSk _ ?_;first | exact j.drew | exact Pm j.out hb7 | exact Pm j.out hb9 | exact (Pm j.out hb9).setCell HB.out _))
     (first
      | (go_at_call 114;((with_reducible refine (sP P m am mn cm mod s (nth u k) _ K (Hmd.out _ (KU _ _).drew) Hs.out (Heu.out k Z)).mono ?_);rintro e w4 ⟨rfl,hb4⟩;have hb7:PY U w4:=Pm (KU _ _).drew hb4))
      | (go_at_call 113;((with_reducible refine (ET P m am mn cm (nth v k) (mulR P m mod s (nth u k)) _ K (Hev.out k Z) HelM.out).mono ?_);rintro e w5 ⟨rfl,hb5⟩;have hb9:PY U w5:=Pm hb7 hb5;obtain ⟨⟨v9,k9⟩,f9,o9⟩:=HK.out w5 hb9)))
    clear k9 f9
    go_wp2_with fail
    go_roundw
    case rel=>exact ⟨k+1,by omega,by go_num,Hset2 _ o9,(Pm j.out hb9).setCell HB.out _⟩
    case measure=>simp [intOf] <;> omega
  ·obtain rfl:k=n:=by omega
   have hfin:du (E.take k) k k=E:=by rw [gn,K5 (by rw [Q.out];exact KT _)]
   rw [hfin] at S
   clear hfin
   go_wp2_with fail
   go_ret
   exact ⟨a1,k,by rw [Q.out];rfl,by rw [Q.out];exact aY S hbW.size,Pm hbW Y⟩
theorem C6 (a:OA) (n c:Nat) (L:Ll) (w:World) (hi:bw w a n L) (hn:n<=1000000) (hL:∀l ∈ L,l.length<=1000000) :
  Calls prog 224 #[.slice a n c] w (Fv w L):=by
 have hpl:=hi.pl;have U:=Z5 hi.len;have HL:=Z5 hL;clear hL;go_enter func224,ntmps224;go_wp2_with fail;go_loopw [3,4] (λsv iv wr=>∃(k:Nat) (a1:OA) (c1:Nat),k<=n/\iv = cG k/\sv = .slice a1 k c1/\(∃R,aO wr w.heap.size a1 k c1 R (L.take k))/\PY w wr) (λ_ iv _=>n - (intOf iv).toNat);case atStart=>exact ⟨0,none,0,K0 _,rfl,rfl,⟨[],by simpa using aO.Gb w w.heap.size⟩,KU _ _⟩
 case round =>
  obtain ⟨k,a1,c1,hk,rfl,rfl,⟨R,hO⟩,N⟩:=hrel
  by_cases hlt:k<n
  ·obtain ⟨ra,j,rc,A,Y⟩:=(hi.af N).cell k hlt
   have Q:k<L.length:=by rw [U.out];exact hlt
   have hrl:j<=1000000:=by rw [<- Y.len,aE Q];exact HL _ (Ly Q)
   have hO1:=fK wr 3
   have S:=an wr (.cells #[] 3)
   obtain ⟨l,hl⟩:∃l,ai L k=l:=⟨_,rfl⟩
   rw [hl] at Y
   have Htk:Hid (L.take (k+1)=L.take k ++ [l]):=by show _=_;rw [K4 Q,<- hl,aE Q]
   have z:=Y.af S
   have hcell2:=br A (.cells #[] 3)
   have hpr:=Y.pl
   have C:=Z5 Y.len
   have hsz:=N.size
   clear hl
   go_wp2_with (at_builtin;first
    | (refine en (by rfl) (.tmp 12) (.tmp 16) 22 3 (by rfl) (cG 0) 8 underlying22 bh (by rfl) wr.heap.size _ 0 0 [] (by rfl) hO1 ra j rc (l.map (Value.int .i64)) (by rfl) hpr (by simp [C.out]) (Px z) (ints_oneCell _ _) (by omega) (by unfold maxLen;omega) (Ml S) ?_;intro a3 c3 w3 Z r hap3;have E:PY wr w3:=Pp (B:=wr.heap.size) (e:=3) (xs:=[]) S hO1 r (KT _) (Ml S);rw [MR] at Z ⊢;rw [L3] at Z)
    | (refine aS rfl _ _ 25 22 rfl ds 24 underlying25 dw rfl w.heap.size a1 k c1 _ rfl ((hO.af (Pm E (an _ _))).own) ⟨w3.heap.size,0,none⟩ 1 (.slice a3 j c3) rfl (bm w3 _ _) rfl (by omega) (by unfold maxLen;omega) (by have h1:=Ml E;simp;omega) ?_;intro a5 c5 w5 D K hap5)
    | fail)
   go_roundw
   case rel =>
    have hb4:PY wr (w3.alloc (.cells #[.slice a3 j c3] 22)):=Pm E (an _ _)
    have hO4:=hO.af hb4
    have H:(w3.alloc (.cells #[.slice a3 j c3] 22)).ownsRow w.heap.size 3 1 (.slice a3 l.length c3) l.length (l.map (Value.int .i64)):=by rw [C.out];exact aY (bf Z (an _ _)) hsz
    have hra:a3 ≠ none->¬ bQ a1 R (ablk a3):=λh0 hI=>by have h1:=(aT Z h0).1;have h2:=(hO.lt _ hI).2;omega
    have hP:=aO.push hO4 H hra (by rw [C.out];exact D) K hap5
    have hb5:PY w w5:=Pp (Pm N hb4) hO4.own K (KT _) (K9 hsz hb4.size)
    exact ⟨k+1,a5,c5,by omega,by go_num,rfl,⟨_,by rw [Htk.out];exact hP⟩,hb5⟩
   case measure=>simp [intOf] <;> omega
  ·obtain rfl:k=n:=by omega
   rw [K5 (by rw [U.out];exact KT _)] at hO
   go_wp2_with fail
   go_ret
   exact ⟨a1,c1,R,by rw [U.out];rfl,by rw [U.out];exact hO,N⟩
def FD (L:World) (bb b:Nat) (ar:OA) (R:LA) (ap Q:OA) (O:aP) (s:BS) (v:LI) (w:World) (e:Ending) (w':World):Prop :=
 ∃Z U N Y S,e = .returned (.bool (s.eH O v))/\sA w' L.heap.size bb b Z U N Y S (s.next O v) /\
  aC w w' (λx=>Am bb ar R ap x\/(Q ≠ none/\x=ablk Q)) (Am bb Z N Y)
def grTo (O:aP) (L:Ll) (Q:LI):Nat->BS × LI
 | 0=>(⟨[],[]⟩,[])
 | k+1=>((grTo O L Q k).1.next O (ba L (nth Q k).toNat),if (grTo O L Q k).1.eH O (ba L (nth Q k).toNat)=true then (grTo O L Q k).2 ++ [nth Q k] else (grTo O L Q k).2)
def mE (O:aP) (L:Ll) (Q:LI):LI:=(grTo O L Q Q.length).2
theorem BS.Gl (O:aP) (s:BS) (v:LI):(s.next O v).rows.length<=s.rows.length+1:=by unfold BS.next;split <;> simp
theorem aO.empty (w:World) (B:Nat):aO w B none 0 0 [] [] :=
 ⟨rfl,rfl,cU,λi hi=>by omega,λi hi=>by omega,λi j hi=>by omega⟩
theorem sA.start {w:World} {B bb b:Nat} (Z:B<=bb) (h:aQ w bb [.pointer (some ⟨b,0,none⟩),ds,ds]):sA w B bb b none 0 [] none 0 ⟨[],[]⟩ :=
 ⟨Z,h.cell 0 rfl,h.cell 1 rfl,h.cell 2 rfl,λi=>h.frozen i,aO.empty w B,cU,λhI=>by
  rcases hI with ⟨h1,_⟩ | ⟨i,hi,_⟩
  ·exact h1 rfl
  ·simp at hi,.inl rfl,λh1=>absurd rfl h1⟩
theorem Ih {El:Int->Prop} {m:Nat} {L:Ll} (h:bt El m L) {i:Nat} (hi:i<m):(ba L i).length=L.length/\∀y ∈ ba L i,El y:=by refine ⟨dz _ _,λy Y=>?_⟩;unfold ba at Y;obtain ⟨r,Z,rfl⟩:=List.mem_map.1 Y;exact (h r Z).2 _ (aG (by rw [(h r Z).1];exact hi))
section
namespace bK
variable {O:aP} {El:Int->Prop} (F:bK O El)
include F
theorem tP {x:Int} (Z:El x):O.add 0 x=x:=by rw [F.add_comm _ _ F.zero Z,F.add_zero x Z]
theorem lL {x:Int} (Z:El x):O.add (O.neg x) x=0:=by rw [F.add_comm _ _ (F.cl.neg x Z) Z,F.add_neg x Z]
theorem Kh {x y:Int} (Z:El x) (Y:El y):O.add (O.neg x) (O.add x y)=y:=by rw [<- F.add_assoc _ _ _ (F.cl.neg x Z) Z Y,F.lL Z,F.tP Y]
theorem cancel {x y z:Int} (Z:El x) (Y:El y) (U:El z) (h:O.add x y=O.add x z):y=z:=by rw [<- F.Kh Z Y,h,F.Kh Z U]
theorem dh {x:Int} (Z:El x):O.mul x 0=0:=by have h0:=F.cl.mul x 0 Z F.zero;refine F.cancel h0 h0 F.zero ?_;rw [<- F.mul_add x 0 0 Z F.zero F.zero,F.add_zero 0 F.zero,F.add_zero _ h0]
theorem jw {x:Int} (Z:El x):O.mul 0 x=0:=by rw [F.mul_comm _ _ F.zero Z,F.dh Z]
theorem iV {x:Int} (Z:El x):O.mul x 1=x:=by rw [F.mul_comm _ _ Z F.one,F.one_mul x Z]
theorem jX {x y:Int} (Z:El x) (Y:El y) (h:O.add x y=0):y=O.neg x :=
 F.cancel Z Y (F.cl.neg x Z) (by rw [h,F.add_neg x Z])
theorem fw:O.neg 0=0:=(F.jX F.zero F.zero (F.add_zero 0 F.zero)).symm
theorem mul_neg {x y:Int} (Z:El x) (Y:El y):O.mul x (O.neg y)=O.neg (O.mul x y):=by have U:=F.cl.neg y Y;refine F.jX (F.cl.mul x y Z Y) (F.cl.mul x _ Z U) ?_;rw [<- F.mul_add x y _ Z Y U,F.add_neg y Y,F.dh Z]
theorem neg_mul {x y:Int} (Z:El x) (Y:El y):O.mul (O.neg x) y=O.neg (O.mul x y):=by rw [F.mul_comm _ _ (F.cl.neg x Z) Y,F.mul_neg Y Z,F.mul_comm _ _ Y Z]
theorem D5 {a b c d:Int} (ha:El a) (hb:El b) (Z:El c) (hd:El d):O.add (O.add a b) (O.add c d)=O.add (O.add a c) (O.add b d):=by rw [F.add_assoc a b _ ha hb (F.cl.add c d Z hd),F.add_assoc a c _ ha Z (F.cl.add b d hb hd),<- F.add_assoc b c d hb Z hd,F.add_comm b c hb Z,F.add_assoc c b d Z hb hd]
theorem neg_add {x y:Int} (U:El x) (S:El y):O.neg (O.add x y)=O.add (O.neg x) (O.neg y):=by have Y:=F.cl.neg x U;have Z:=F.cl.neg y S;refine (F.jX (F.cl.add x y U S) (F.cl.add _ _ Y Z) ?_).symm;rw [F.D5 U S Y Z,F.add_neg x U,F.add_neg y S,F.add_zero 0 F.zero]
theorem neg_neg {x:Int} (Z:El x):O.neg (O.neg x)=x:=(F.jX (F.cl.neg x Z) Z (F.lL Z)).symm
theorem vr {x y:Int} (Z:El x) (Y:El y) (h0:x ≠ 0) (h:O.mul x y=0):y=0:=by have hi:=F.cl.inv x Z h0;rw [<- F.one_mul y Y,<- F.mul_inv x Z h0,F.mul_comm x _ Z hi,F.mul_assoc _ x y hi Z Y,h,F.dh hi]
theorem comb {A B x Q B' R:Int} (K:El A) (H:El B) (N:El x) (Y:El Q) (S:El B') (U:El R) :
  O.add (O.add A (O.neg (O.mul x B))) (O.neg (O.mul (O.add Q (O.neg (O.mul x B'))) R))=O.add (O.add A (O.neg (O.mul Q R))) (O.neg (O.mul x (O.add B (O.neg (O.mul B' R))))):=by
 have m:=F.cl.mul;have n:=F.cl.neg;have h1:=m x B N H;have h2:=m Q R Y U;have Z:=m x B' N S;have h3:=m _ R Z U;have L:=m B' R S U;have e1:O.mul (O.add Q (O.neg (O.mul x B'))) R=O.add (O.mul Q R) (O.neg (O.mul (O.mul x B') R)):=by rw [F.mul_comm _ R (F.cl.add _ _ Y (n _ Z)) U,F.mul_add R _ _ U Y (n _ Z),F.mul_comm R Q U Y,F.mul_comm R _ U (n _ Z),F.neg_mul Z U]
 have E:O.mul x (O.add B (O.neg (O.mul B' R)))=O.add (O.mul x B) (O.neg (O.mul (O.mul x B') R)):=by rw [F.mul_add x _ _ N H (n _ L),F.mul_neg N L,F.mul_assoc x B' R N S U]
 rw [e1,E,F.neg_add h2 (n _ h3),F.neg_add h1 (n _ h3),F.neg_neg h3,F.D5 K (n _ h1) (n _ h2) h3,F.D5 K (n _ h2) (n _ h1) h3]
end bK
def Vc (El:Int->Prop) (n:Nat) (v:LI):Prop:=v.length=n/\∀y ∈ v,El y
theorem Vc.at {El:Int->Prop} {n:Nat} {v:LI} (h:Vc El n v) {i:Nat} (hi:i<n):El (nth v i):=h.2 _ (aG (by rw [h.1];exact hi))
theorem Vc.sub {O:aP} {El:Int->Prop} (F:bK O El) {n:Nat} {v r:LI} {x:Int} (Z:Vc El n v) (Y:Vc El n r) (U:El x):Vc El n (dY O v x r) :=
 ⟨by rw [fi _ _ _ _ (by rw [Y.1,Z.1])];exact Z.1,uY F.cl Z.2 Y.2 U⟩
theorem Vc.EH {O:aP} {El:Int->Prop} (F:bK O El) {n:Nat} {r:LI} {x:Int} (Z:Vc El n r) (Y:El x):Vc El n (r.map (O.mul x)) :=
 ⟨by rw [Lc];exact Z.1,λy U=>by obtain ⟨z,S,rfl⟩:=List.mem_map.1 U;exact F.cl.mul _ _ Y (Z.2 z S)⟩
structure kT (O:aP) (El:Int->Prop) (n:Nat) (φ:LI->Int):Prop where
 el:∀v,Vc El n v->El (φ v)
 sub:∀v r x,Vc El n v->Vc El n r->El x->φ (dY O v x r)=O.add (φ v) (O.neg (O.mul x (φ r)))
 EH:∀r x,Vc El n r->El x->φ (r.map (O.mul x))=O.mul x (φ r)
variable {O:aP} {El:Int->Prop} {n:Nat}
theorem kE (O:aP) (r:LI) (x:Int) {i:Nat} (hi:i<r.length):nth (r.map (O.mul x)) i=O.mul x (nth r i):=by rw [aj (by simpa using hi),aj hi];simp
theorem kT.BO (F:bK O El) {i:Nat} (hi:i<n):kT O El n (λv=>nth v i) :=
 ⟨λv Z=>Z.at hi,λv r x Z Y U=>eS O v x r i (by rw [Y.1,Z.1]) (by rw [Z.1];exact hi),λr x Y U=>kE O r x (by rw [Y.1];exact hi)⟩
theorem kT.congr (F:bK O El) {Q S:LI->Int} (h:kT O El n Q) (e:∀v,Vc El n v->S v=Q v):kT O El n S :=
 ⟨λv Y=>by rw [e v Y];exact h.el v Y,λv r x Y Z U=>by rw [e _ (Y.sub F Z U),e v Y,e r Z];exact h.sub v r x Y Z U,
  λr x Z U=>by rw [e _ (Z.EH F U),e r Z];exact h.EH r x Z U⟩
theorem kT.comb (F:bK O El) {N Q:LI->Int} (h:kT O El n N) (g:kT O El n Q) {s:Int} (S:El s):kT O El n (λv=>O.add (N v) (O.neg (O.mul (Q v) s))) :=
 ⟨λv U=>F.cl.add _ _ (h.el v U) (F.cl.neg _ (F.cl.mul _ _ (g.el v U) S)),
  λv r x U Z Y=>by show O.add (N (dY O v x r)) (O.neg (O.mul (Q (dY O v x r)) s))=_;rw [h.sub v r x U Z Y,g.sub v r x U Z Y];exact F.comb (h.el v U) (h.el r Z) Y (g.el v U) (g.el r Z) S,
  λr x Z Y=>by show O.add (N (r.map (O.mul x))) (O.neg (O.mul (Q (r.map (O.mul x))) s))=_;rw [h.EH r x Z Y,g.EH r x Z Y,F.mul_assoc x _ s Y (g.el r Z) S,<- F.mul_neg Y (F.cl.mul _ _ (g.el r Z) S),<- F.mul_add x _ _ Y (h.el r Z) (F.cl.neg _ (F.cl.mul _ _ (g.el r Z) S))]⟩
def kB (O:aP) (El:Int->Prop) (n:Nat) (c:Nat->LI) (l:LN) (x:Nat):Prop:=∀Z,kT O El n Z->(∀y ∈ l,Z (c y)=0)->Z (c x)=0
theorem B3 (F:bK O El) {c:Nat->LI} (hc:∀i,Vc El n (c i)):BT (kB O El n c) where
 mem l x hx φ _ h:=h x hx
 mono l l' h y hy φ hφ h0:=hy φ hφ λx hx=>h x hx φ hφ h0
 exch l x y h hn:=by
  intro b hb h0;apply Lr;intro hbx;apply hn;intro a ha ha0;apply Lr;intro hay;have hax:a (c x) ≠ 0:=λe=>hay (h a ha λz hz=>by
   rcases List.mem_cons.1 hz with rfl | hz
   ·exact e
   ·exact ha0 z hz)
  have h1:=ha.el _ (hc x);have h2:=hb.el _ (hc x);have hbi:=F.cl.inv _ h2 hbx;have hs:=F.cl.mul _ _ hbi h1;have:=h _ (ha.comb F hb hs) λz hz=>by
   rcases List.mem_cons.1 hz with rfl | hz
   ·show O.add (a (c z)) (O.neg (O.mul (b (c z)) (O.mul (O.inv (b (c z))) (a (c z)))))=0;rw [<- F.mul_assoc _ _ _ h2 hbi h1,F.mul_inv _ h2 hbx,F.one_mul _ h1,F.add_neg _ h1]
   ·show O.add (a (c z)) (O.neg (O.mul (b (c z)) _))=0;rw [ha0 z hz,h0 z (List.mem_cons.2 (.inr hz)),F.jw hs,F.fw,F.add_zero 0 F.zero]
  have h3:O.add (a (c y)) (O.neg (O.mul (b (c y)) (O.mul (O.inv (b (c x))) (a (c x)))))=0:=this;rw [h0 y (by simp),F.jw hs,F.fw,F.add_zero _ (ha.el _ (hc y))] at h3;exact hay h3
structure BS.Inv (El:Int->Prop) (n:Nat) (s:BS):Prop where
 ok:s.Ok El n
 one:∀i,i<s.rows.length->nth (ai s.rows i) (nth s.place i).toNat=1
 zero:∀j i,j<i->i<s.rows.length->nth (ai s.rows i) (nth s.place j).toNat=0
theorem BS.Ok.row {s:BS} (h:s.Ok El n) {i:Nat} (hi:i<s.rows.length):Vc El n (ai s.rows i):=h.rws.row hi
theorem BS.Ok.pl {s:BS} (h:s.Ok El n) {i:Nat} (hi:i<s.rows.length):(nth s.place i).toNat<n:=by have:=h.plc i hi;omega
theorem Vc.ey (F:bK O El) {u r:LI} {p:Int} (hu:Vc El n u) (Z:Vc El n r) (Y:p.toNat<n):Vc El n (ey O u p r):=by
 unfold Go.Proofs.YthglbncgemdcbaaGreat.ey;split
 ·exact hu
 ·exact hu.sub F Z (hu.at Y)
theorem Vc.redTo (F:bK O El) {s:BS} (h:s.Ok El n) {v:LI} (Z:Vc El n v):∀k,k<=s.rows.length->Vc El n (redTo O s.rows s.place v k)
 | 0,_=>Z
 | k+1,Y=>(Vc.redTo F h Z k (by omega)).ey F (h.row (by omega)) (h.pl (by omega))
theorem fG (F:bK O El) {u r:LI} {p:Int} (hu:Vc El n u) (Z:Vc El n r) (Y:p.toNat<n) {i:Nat} (hi:i<n) :
  nth (ey O u p r) i=O.add (nth u i) (O.neg (O.mul (nth u p.toNat) (nth r i))):=by
 unfold ey;split
 ·rename_i h0;rw [h0,F.jw (Z.at hi),F.fw,F.add_zero _ (hu.at hi)]
 ·exact eS O u _ r i (by rw [Z.1,hu.1]) (by rw [hu.1];exact hi)
namespace BS.Inv
variable {s:BS}
theorem place (F:bK O El) (h:s.Inv El n) {v:LI} (U:Vc El n v):∀k,k<=s.rows.length->∀j,j<k->nth (redTo O s.rows s.place v k) (nth s.place j).toNat=0
 | 0,_,j,S=>by omega
 | k+1,Q,j,S=>by
  have hu:=Vc.redTo F h.ok U k (by omega);have Z:=h.ok.pl (i:=k) (by omega);have Y:=h.ok.pl (i:=j) (by omega);rw [redTo,fG F hu (h.ok.row (by omega)) Z Y];by_cases e:j=k
  ·subst e;rw [h.one j (by omega),F.iV (hu.at Z),F.add_neg _ (hu.at Z)]
  ·rw [place F h U k (by omega) j (by omega),h.zero j k (by omega) (by omega),F.dh (hu.at Z),F.fw,F.add_zero 0 F.zero]
theorem stay (h:s.Inv El n) {i:Nat} (hi:i<s.rows.length):∀k,k<=i->redTo O s.rows s.place (ai s.rows i) k=ai s.rows i
 | 0,_=>rfl
 | k+1,Z=>by rw [redTo,stay h hi k (by omega),ey,KX (h.zero k i (by omega) hi)]
theorem gone (F:bK O El) (h:s.Inv El n) {i:Nat} (hi:i<s.rows.length):∀k,i<k->k<=s.rows.length->∀t,t<n->nth (redTo O s.rows s.place (ai s.rows i) k) t=0
 | 0,Q,_,_,_=>by omega
 | k+1,Q,S,t,Z=>by
  have hu:=Vc.redTo F h.ok (h.ok.row hi) k (by omega);have U:=h.ok.row (i:=k) (by omega);have Y:=h.ok.pl (i:=k) (by omega);rw [redTo,fG F hu U Y Z];by_cases e:k=i
  ·subst e;rw [h.stay hi k (KT _),h.one k hi,F.one_mul _ (U.at Z),F.add_neg _ (U.at Z)]
  ·rw [gone F h hi k (by omega) (by omega) t Z,gone F h hi k (by omega) (by omega) _ Y,F.jw (U.at Z),F.fw,F.add_zero 0 F.zero]
theorem KE (F:bK O El) (h:s.Inv El n):∀k,k<=s.rows.length->∀i,i<n->kT O El n (λv=>nth (redTo O s.rows s.place v k) i)
 | 0,_,i,hi=>kT.BO F hi
 | k+1,S,i,hi=>by have Z:=h.ok.pl (i:=k) (by omega);have Y:=h.ok.row (i:=k) (by omega);refine kT.congr F ((KE F h k (by omega) i hi).comb F (KE F h k (by omega) _ Z) (Y.at hi)) λv U=>?_;show nth (redTo O s.rows s.place v (k+1)) i=_;rw [redTo,fG F (Vc.redTo F h.ok U k (by omega)) Y Z hi]
theorem form (F:bK O El) (h:s.Inv El n) {U:LI->Int} (Z:kT O El n U) (h0:∀i,i<s.rows.length->U (ai s.rows i)=0) {v:LI} (S:Vc El n v):∀k,k<=s.rows.length->U (redTo O s.rows s.place v k)=U v
 | 0,_=>rfl
 | k+1,N=>by
  have hu:=Vc.redTo F h.ok S k (by omega);have Q:=h.ok.row (i:=k) (by omega);have Y:=h.ok.pl (i:=k) (by omega);rw [redTo,ey];split
  ·exact form F h Z h0 S k (by omega)
  ·rw [Z.sub _ _ _ hu Q (hu.at Y),h0 k (by omega),F.dh (hu.at Y),F.fw,form F h Z h0 S k (by omega),F.add_zero _ (Z.el v S)]
end BS.Inv
theorem kT.zero (F:bK O El) {Y:LI->Int} (h:kT O El n Y) {v:LI} (Z:Vc El n v) (h0:∀i,i<n->nth v i=0):Y v=0:=by
 have e:v=v.map (O.mul 0):=gJ (by simp) λi hi=>by rw [kE O v 0 hi,F.jw (Z.at (by rw [<- Z.1];exact hi)),h0 i (by rw [<- Z.1];exact hi)]
 rw [e,h.EH v 0 Z F.zero,F.jw (h.el v Z)]
theorem jG (F:bK O El) {s:BS} (h:s.Inv El n) {v:LI} (S:Vc El n v) :
  s.eH O v=false ↔ ∀Y,kT O El n Y->(∀i,i<s.rows.length->Y (ai s.rows i)=0)->Y v=0:=by
 have hu:Vc El n (s.red O v):=Vc.redTo F h.ok S _ (KT _);constructor
 ·intro U Y Z h0;rw [<- h.form F Z h0 S _ (KT _)];refine Z.zero F hu λi hi=>xh (s.red O v) i ?_;have h1:¬ fnz (s.red O v)<(s.red O v).length:=by simpa [BS.eH] using U
  have h2:=Gw (s.red O v);have:=hu.1;omega
 ·intro h0;apply Lr;intro U;have h1:fnz (s.red O v)<(s.red O v).length:=by simpa [BS.eH] using U
  have:=hu.1;exact mS _ h1 (h0 _ (h.KE F _ (KT _) _ (by omega)) λi hi=>h.gone F hi _ hi (KT _) _ (by omega))
theorem kt (L:Ll) (r:LI) (i:Nat):ai (L ++ [r]) i=if i<L.length then ai L i else if i=L.length then r else ai [] 0:=by
 unfold ai;simp only [KZ];split
 ·rename_i h;rw [Lg h]
 ·rename_i h;split
  ·rename_i e;subst e;simp
  ·rename_i e;rw [Mc (by simp;omega)];simp
theorem iD (l:LI) (r:Int) (i:Nat):nth (l ++ [r]) i=if i<l.length then nth l i else if i=l.length then r else 0:=by
 unfold nth;simp only [KZ];split
 ·rename_i h;rw [Lg h]
 ·rename_i h;split
  ·rename_i e;subst e;simp
  ·rename_i e;rw [Mc (by simp;omega)];simp
theorem BS.Inv.next (F:bK O El) {s:BS} (h:s.Inv El n) {v:LI} (Y:Vc El n v):(s.next O v).Inv El n:=by
 refine ⟨h.ok.next F.cl Y,?_,?_⟩
 ·unfold BS.next;split
  ·rename_i S;have hu:Vc El n (s.red O v):=Vc.redTo F h.ok Y _ (KT _);have U:fnz (s.red O v)<(s.red O v).length:=by simpa [BS.eH] using S
   have hne:=mS _ U;have N:=hu.1;have Z:=hu.at (i:=fnz (s.red O v)) (by omega);intro i hi;simp only [K6,Lo] at hi;simp only [kt,iD,h.ok.len];by_cases e:i<s.rows.length
   ·rw [KX e,KX e];exact h.one i e
   ·rw [KY e,KY e,KX (by omega),KX (by omega),KV,kE O _ _ U,F.mul_comm _ _ (F.cl.inv _ Z hne) Z,F.mul_inv _ Z hne]
  ·exact h.one
 ·unfold BS.next;split
  ·rename_i S;have hu:Vc El n (s.red O v):=Vc.redTo F h.ok Y _ (KT _);have U:fnz (s.red O v)<(s.red O v).length:=by simpa [BS.eH] using S
   have hne:=mS _ U;have N:=hu.1;have Z:=hu.at (i:=fnz (s.red O v)) (by omega);intro j i Q hi;simp only [K6,Lo] at hi;simp only [kt,iD,h.ok.len];rw [KX (show j<s.rows.length by omega)];by_cases e:i<s.rows.length
   ·rw [KX e];exact h.zero j i Q e
   ·have L:=h.ok.pl (i:=j) (by omega);rw [KY e,KX (by omega),kE O _ _ (by omega),BS.red,h.place F Y _ (KT _) j (by omega)];exact F.dh (F.cl.inv _ Z hne)
  ·exact h.zero
def ID (O:aP) (El:Int->Prop) (n:Nat) (c:Nat->LI) (l:LN) (s:BS):Prop :=
 ∀Z,kT O El n Z->((∀y ∈ l,Z (c y)=0) ↔ ∀i,i<s.rows.length->Z (ai s.rows i)=0)
theorem ID.next (F:bK O El) {c:Nat->LI} (E:∀i,Vc El n (c i)) {l:LN} {s:BS} (h:s.Inv El n) (C:ID O El n c l s) (x:Nat):ID O El n c (x :: l) (s.next O (c x)):=by
 intro S Y;have key:(∀i,i<s.rows.length->S (ai s.rows i)=0)->((S (c x)=0) ↔ ∀i,i<(s.next O (c x)).rows.length->S (ai (s.next O (c x)).rows i)=0):=by
  intro h0;have hu:Vc El n (s.red O (c x)):=Vc.redTo F h.ok (E x) _ (KT _);have U:=h.form F Y h0 (E x) _ (KT _);unfold BS.next;split
  ·rename_i H;have z:fnz (s.red O (c x))<(s.red O (c x)).length:=by simpa [BS.eH] using H
   have hne:=mS _ z;have r:=hu.1;have N:=hu.at (i:=fnz (s.red O (c x))) (by omega);have hi:=F.cl.inv _ N hne;have Q:=Y.EH _ _ hu hi;have K:O.inv (nth (s.red O (c x)) (fnz (s.red O (c x)))) ≠ 0:=by intro e;have:=F.mul_inv _ N hne;rw [e,F.dh N] at this;exact absurd this (by decide)
   constructor
   ·intro A i D;simp only [K6,Lo] at D;simp only [kt];by_cases e:i<s.rows.length
    ·rw [KX e];exact h0 i e
    ·rw [KY e,KX (by omega),Q];show O.mul _ (S (redTo O s.rows s.place (c x) s.rows.length))=0;rw [U,A,F.dh hi]
   ·intro Z;have:=Z s.rows.length (by simp);simp only [kt] at this;rw [KY (N4 _),KX trivial,Q] at this;rw [<- U];exact F.vr hi (Y.el _ hu) K this
  ·rename_i H;exact ⟨λ_=>h0,λ_=>(jG F h (E x)).1 (by simpa using H) S Y h0⟩
 constructor
 ·intro Z;have h1:∀i,i<s.rows.length->S (ai s.rows i)=0:=(C S Y).1 λy L=>Z y (List.mem_cons.2 (.inr L));exact (key h1).1 (Z x (by simp))
 ·intro Z;have h1:∀i,i<s.rows.length->S (ai s.rows i)=0:=by
   intro i hi;have hlen:s.rows.length<=(s.next O (c x)).rows.length:=by unfold BS.next;split <;> simp
   have:=Z i (by omega);unfold BS.next at this;split at this
   ·simp only [kt] at this;rw [KX hi] at this;exact this
   ·exact this
  intro y L;rcases List.mem_cons.1 L with rfl | L
  ·exact (key h1).2 Z
  ·exact (C S Y).2 h1 y L
def j9 (Q:LI):Nat->LN
 | 0=>[]
 | k+1=>(nth Q k).toNat :: j9 Q k
theorem fM (Q:LI) (x:Nat):∀k,x ∈ j9 Q k ↔ ∃j,j<k/\(nth Q j).toNat=x
 | 0=>by simp [j9]
 | k+1=>by
  rw [j9,List.mem_cons,fM Q x k];constructor
  ·rintro (h | ⟨j,Z,h⟩)
   ·exact ⟨k,by omega,h.symm⟩
   ·exact ⟨j,by omega,h⟩
  ·rintro ⟨j,Z,h⟩;by_cases e:j=k
   ·subst e;exact .inl h.symm
   ·exact .inr ⟨j,by omega,h⟩
theorem ch {m:Nat} {L:Ll} (h:bt El m L) (h0:El 0) (i:Nat):Vc El L.length (ba L i):=by
 refine ⟨dz _ _,λy Y=>?_⟩;unfold ba at Y;obtain ⟨r,Z,rfl⟩:=List.mem_map.1 Y;by_cases hi:i<m
 ·exact (h r Z).2 _ (aG (by rw [(h r Z).1];exact hi))
 ·have:nth r i=0:=by unfold nth;rw [KZ,Mc (by rw [(h r Z).1];omega)];rfl
  rw [this];exact h0
theorem vg (F:bK O El) {m:Nat} {L:Ll} (H:bt El m L) (Q:LI):∀k,(grTo O L Q k).1.Inv El L.length/\ID O El L.length (ba L) (j9 Q k) (grTo O L Q k).1 /\
  Rk (kB O El L.length (ba L)) (j9 Q k) (grTo O L Q k).2.length
 | 0=>⟨⟨⟨λr E=>by simp [grTo] at E,rfl,λi hi=>by simp [grTo] at hi⟩,λi hi=>by simp [grTo] at hi,λj i _ hi=>by simp [grTo] at hi⟩,λY _=>⟨λ_ i hi=>by simp [grTo] at hi,λ_ y D=>by simp [j9] at D⟩,.nil⟩
 | k+1=>by
  obtain ⟨h1,h2,h3⟩:=vg F H Q k;have N:=ch H F.zero;refine ⟨h1.next F (N _),h2.next F N h1 _,?_⟩;have K:=jG F h1 (N (nth Q k).toNat);have S:kB O El L.length (ba L) (j9 Q k) (nth Q k).toNat ↔ (grTo O L Q k).1.eH O (ba L (nth Q k).toNat)=false:=by rw [K];exact ⟨λh Y Z h0=>h Y Z ((h2 Y Z).2 h0),λh Y Z h0=>h Y Z ((h2 Y Z).1 h0)⟩
  rw [j9,grTo];by_cases U:(grTo O L Q k).1.eH O (ba L (nth Q k).toNat)=true
  ·rw [KX U];simp only [K6,Lo];exact .ind _ (λh=>by rw [S.1 h] at U;simp at U) h3
  ·rw [KY U];exact .dep _ (S.2 (by simpa using U)) h3
theorem pP (F:bK O El) {m:Nat} {L:Ll} (Z:bt El m L) (Q:LI):Rk (kB O El L.length (ba L)) (j9 Q Q.length) (mE O L Q).length:=(vg F Z Q Q.length).2.2
theorem gg (F:bK O El) {m:Nat} {L:Ll} (Z:bt El m L):BT (kB O El L.length (ba L)):=B3 F (ch Z F.zero)
end
theorem wv (L:Ll) (t:Nat):bj L t t=L:=by rw [bj,lr,lr]
theorem aO.newRow {V S:World} {B:Nat} {a:OA} {n c:Nat} {R:LA} {L:Ll} (h:aO V B a n c R L) {i:Nat} (hi:i<n) (hb:PY V S) (E:B<=V.heap.size) {a5:OA} {U:Nat} {l:LI}
  (Z:S.ownsRow V.heap.size 3 1 (.slice a5 l.length U) l.length (l.map (Value.int .i64))) :
  ∃N,aO (S.setCell ⟨ablk a,aJ a+i,none⟩ (.slice a5 l.length U)) B a n c N (L.set i l)/\aC V (S.setCell ⟨ablk a,aJ a+i,none⟩ (.slice a5 l.length U)) (bQ a R) (bQ a N):=by
 have Q:=h.af hb;have Y:∀b,b<V.heap.size->eY a5 b:=λb hb=>kO Z hb;have h1:=Q.setRow hi (aY Z E) (Y _ (h.lt _ (.inl ⟨h.ne (by omega),rfl⟩)).2) (λj H _=>by
  by_cases K:(aM R j).1=none
  ·exact .inl K
  ·exact .inr (Y _ (h.lt _ (aO.kg (by rw [h.rl];exact H) K)).2))
 have h2:=h.jS hb hi (r:=a5) (rc:=U) (.slice a5 l.length U) (λha=>.inr (aT Z ha).1);exact ⟨_,h1,h2⟩
def j7 (O:aP) (L:Ll) (Z:Nat) (w:World) (e:Ending) (w':World):Prop :=
 ∃a c R ap cp,e = .returned (.tuple #[.slice a L.length c,.slice ap (aD O L Z).2.length cp])/\aO w' w.heap.size a L.length c R (aD O L Z).1 /\
  w'.ownsRow w.heap.size 3 1 (.slice ap (aD O L Z).2.length cp) (aD O L Z).2.length ((aD O L Z).2.map (Value.int .i64))/\PY w w'
theorem pF (P:Int) (m:Nat) (am:OA) (mn cm:Nat) (mod:LI) (a:OA) (n c Y len:Nat) (L:Ll) (w:World) (hf:tK w P m am mn mod) (hi:bw w a n L)
  (hR:bt (eW P m) len L) (hcl:Y<=len) (hlen:len<=1000000) (hn:n<=1000000) (hinv:∀p,eW P m p->p ≠ 0->(gL P m mod p=1 ↔ p=1)) :
  Calls prog 179 #[.agg #[cG P,cG m,.slice am mn cm],.slice a n c,cG Y] w (j7 (kG P m mod) L Y w):=by
 obtain ⟨O,hO⟩:∃O,kG P m mod=O:=⟨_,rfl⟩
 rw [hO];have HO:=Z5 hO;have Hcl:Hid (qC O (eW P m)):=by show qC O _;rw [<- hO];exact KO hf.rf mod
 have Hinv:=Z5 hinv;have Hlen:=Z5 hi.len;have HR:=Z5 hR;have hLl:∀l ∈ L,l.length<=1000000:=λl hl=>by rw [(hR l hl).1];exact hlen
 have HLl:=Z5 hLl;clear hinv hR hLl hO;have hfin:∀w' a' c' R' ap cp Lk Pv,(Lk,Pv)=aD O L Y->aO w' w.heap.size a' n c' R' Lk->w'.ownsRow w.heap.size 3 1 (.slice ap Pv.length cp) Pv.length (Pv.map (Value.int .i64))->PY w w' ->
   j7 O L Y w (.returned (.tuple #[.slice a' n c',.slice ap Pv.length cp])) w':=by
  intro w' a' c' R' ap cp Lk Pv he h1 h2 h3;have e1:(aD O L Y).1=Lk:=by rw [<- he]
  have S:(aD O L Y).2=Pv:=by rw [<- he]
  refine ⟨a',c',R',ap,cp,?_,?_,?_,h3⟩
  ·rw [S,Hlen.out]
  ·rw [e1,Hlen.out];exact h1
  ·rw [S];exact h2
 have Hfin:=Z5 hfin;clear hfin;go_enter func179,ntmps179;go_wp2_with fail;obtain ⟨W,hW⟩:∃W:World,W=w.alloc (.cells #[cG P,cG m,.slice am mn cm] 24):=⟨_,rfl⟩
 rw [<- hW];have hbW:PY w W:=by rw [hW];exact an _ _
 have x0:aQ W w.heap.size [cG P,cG m,.slice am mn cm]:=by rw [hW];exact Po _ _ _ rfl
 have HX:=Z5 x0;have hfW:=hf.af hbW;clear hW x0;refine (C6 a n c L W (hi.af hbW) hn HLl.out).mono ?_;rintro e w1 ⟨a1,c1,R1,rfl,hO1,hb1⟩;rw [Hlen.out] at hO1 ⊢;have hS:∀V,PY W V->V.cell? ⟨w.heap.size,0,none⟩=some (cG P)/\V.cell? ⟨w.heap.size,1,none⟩=some (cG m)/\V.cell? ⟨w.heap.size,2,none⟩=some (.slice am mn cm)/\tK V P m am mn mod:=by intro V H;have x1:=HX.af H;exact ⟨x1.cell 0 rfl,x1.cell 1 rfl,x1.cell 2 rfl,hfW.af H⟩
 have HS:=Z5 hS;have hpl1:=hO1.pl;clear hS;go_wp2_with fail;go_loopw [9,10,11] (λpv av cv wr=>∃(k:Nat) (R':LA) (ap:OA) (cp:Nat) (Lk:Ll) (Pv:LI),k<=Y/\cv = cG k/\av = cG Pv.length/\pv = .slice ap Pv.length cp /\
   Hid ((Lk,Pv)=aD O L k)/\aO wr W.heap.size a1 n c1 R' Lk/\wr.ownsRow W.heap.size 3 1 (.slice ap Pv.length cp) Pv.length (Pv.map (Value.int .i64))/\Hid (ap ≠ none->¬ bQ a1 R' (ablk ap)) /\
   PY W wr/\bt (eW P m) len Lk/\Pv.length<=n) (λ_ _ cv _=>Y - (intOf cv).toNat)
 case atStart=>exact ⟨0,R1,none,0,L,[],K0 _,rfl,rfl,rfl,rfl,hO1,cU,λh=>absurd rfl h,hb1,HR,K0 _⟩
 case round =>
  obtain ⟨k,R',ap,cp,Lk,Pv,hkc,rfl,rfl,rfl,hst,hOr,hop,hoi,hbr,hrw,hPn⟩:=hrel
  generalize wr=V at *
  have z:=Z5 hOr.ll
  by_cases hk:k<Y
  ·have hk':decide ((k:Int)<Y)=true:=by simp;omega
   by_cases Q:Pv.length<n
   ·have hPl':decide ((Pv.length:Int)<n)=true:=by simp;omega
    obtain ⟨t,ht⟩:∃t,Pv.length=t:=⟨_,rfl⟩
    have Ht:=Z5 ht
    rw [ht] at Q hPn hop hPl'
    rw [ht]
    clear ht
    go_wp2_with fail
    go_loop [12] (λkv=>∃j:Nat,t<=j/\j<=n/\kv = cG j/\Hid (bd Lk k t=bd Lk k j)) (λkv=>n - (intOf kv).toNat)
    case atStart=>exact ⟨t,KT _,hPn,rfl,rfl⟩
    case round =>
     obtain ⟨j,hj1,hj2,rfl,hfr⟩:=hrel
     by_cases hjn:j<n
     ·have hLj:j<Lk.length:=by rw [z.out];exact hjn
      have hrow:=hrw.row hLj
      have ci:=hOr.cell hjn
      have ri:=hOr.ints hjn
      rw [hrow.1] at ci ri
      have ck:=ri.cell k (by omega)
      have hpr:=ri.pl
      have hkl:(k:Int)<len:=by omega
      have hjn':decide ((j:Int)<n)=true:=by simp;omega
      have hfs:=gD (c:=k) hLj
      by_cases hz:nth (ai Lk j) k=0
      ·rw [KX hz] at hfs
       have hz':(nth (ai Lk j) k == 0)=true:=by simpa using hz
       have Hf:Hid (bd Lk k t=bd Lk k (j+1)):=by show _=_;rw [hfr.out,hfs]
       clear hz hfs hrow
       go_wp2_with fail
       go_round
       case rel=>exact ⟨j+1,by omega,by omega,by go_num,Hf⟩
       case measure=>simp [intOf] <;> omega
      ·rw [KY hz] at hfs
       have hz':(nth (ai Lk j) k == 0)=false:=by simpa using hz
       have Hf:Hid (bd Lk k t=j):=by show _=_;rw [hfr.out,hfs]
       have hjne:((j:Int) == n)=false:=by simp;omega
       have Hz:=Z5 hz
       have Hrow:=Z5 hrow
       clear hz hfs hrow
       have ct:=hOr.cell Q
       have fk:=hOr.frozen hjn
       have ft:=hOr.frozen Q
       have k3:(V.setCell ⟨ablk a1,aJ a1+t,none⟩ (.slice (aM R' j).1 len (aM R' j).2)).cell? ⟨ablk a1,aJ a1+j,none⟩=some (.slice (aM R' j).1 len (aM R' j).2):=by
        by_cases e:j=t
        ·subst e;exact Lh _ _ _ ct
        ·rw [Le _ _ _ _ (by simp <;> omega)];exact ci
       have htl:t<Lk.length:=by rw [z.out];exact Q
       have hrt:=hrw.row htl
       rw [hrt.1] at ct
       have Hrt:=Z5 hrt
       clear hrt
       go_upto_region 11 with fail
       go_cut [] (λwx=>∃R2,aO wx W.heap.size a1 n c1 R2 (bj Lk t j)/\aC V wx (bQ a1 R') (bQ a1 R2))
       case first =>
        have r:=(hOr.swap Q hjn).drew
        have hM2:=(hOr.kD Q hjn (.slice (aM R' j).1 (ai Lk j).length (aM R' j).2) (.slice (aM R' t).1 (ai Lk t).length (aM R' t).2)).drew
        rw [Hrow.1,Hrt.1] at r hM2
        have HO2:=Z5 (K3 r hM2)
        clear r hM2
        go_region
        all_goals (
         go_wp2_with fail
         go_meet
         exact ⟨_,HO2.1,HO2.2⟩)
       obtain ⟨R2,r,hM2⟩:=hcut
       generalize wc=U at *
       have hbU:PY W U:=hbr.trans (hM2.below (λb' hb'=>(hOr.lt b' hb').1) hbr.size)
       have hrw1:=hrw.swap htl hLj
       have hl1:(bj Lk t j).length=n:=by rw [bC];exact z
       have hnz1:nth (ai (bj Lk t j) t) k ≠ 0:=by
        rw [gO _ _ _ _ htl hLj];have e:dX t j t=j:=by unfold dX;split <;> simp_all
        rw [e];exact Hz
       have HL1:Hid (eD O Lk t j k=clearTo O t k (bu O (bj Lk t j) t k) n):=by
        show _=_;rw [i9,z.out];by_cases e:j=t
        ·rw [KX e,e,wv]
        ·rw [KY e]
       obtain ⟨L1,hL1⟩:∃L1,bj Lk t j=L1:=⟨_,rfl⟩
       rw [hL1] at r hrw1 hl1 hnz1 HL1
       have hrow1:=hrw1.row (i:=t) (by omega)
       have tr:=r.cell Q
       have ti:=r.ints Q
       rw [hrow1.1] at tr ti
       have tc:=ti.cell k (by omega)
       have tp:=ti.pl
       have hel:eW P m (nth (ai L1 t) k):=hrow1.2 _ (aG (by rw [hrow1.1];omega))
       have hiff:=Hinv _ hel hnz1
       have hOinv:O.inv (nth (ai L1 t) k)=gL P m mod (nth (ai L1 t) k):=by rw [<- HO.out];rfl
       have HOinv:=Z5 hOinv
       have Hiff:=Z5 hiff
       have Hrow1:=Z5 hrow1
       have Hl1:=Z5 hl1
       have Hnz1:=Z5 hnz1
       have hopU:=hM2.own hop hoi.out
       have hoiU:ap ≠ none->¬ bQ a1 R2 (ablk ap):=λhn=>hM2.not (aT hop hn).2 (hoi hn)
       have HoiU:=Z5 hoiU
       obtain ⟨d0,d1,d2,hfU⟩:=HS U hbU
       have hBU:=hbU.size
       clear hL1 hrow1 hl1 hnz1 hiff hOinv hoiU ci ri ck hpr ct fk ft k3 hjn' hz' hop hM2 hOr
       go_upto_if 69 with fail
       go_cut [] (λwx=>∃R3,aO wx W.heap.size a1 n c1 R3 (bu O L1 t k)/\aC U wx (bQ a1 R2) (bQ a1 R3))
       case first =>
        by_cases hp1:nth (ai L1 t) k=1
        ·have hp1':(nth (ai L1 t) k != 1)=false:=by simp [hp1]
         have Hn:Hid (bu O L1 t k=L1):=by show _=_;rw [bu,KX (by rw [HOinv.out];exact Hiff.2 hp1)]
         clear hp1
         go_wp2_with fail
         go_meet
         exact ⟨R2,by rw [Hn.out];exact r,Pz _ _⟩
        ·have hp1':(nth (ai L1 t) k != 1)=true:=by simpa using hp1
         obtain ⟨N,hN⟩:∃N,(ai L1 t).map (mulR P m mod (gL P m mod (nth (ai L1 t) k)))=N:=⟨_,rfl⟩
         have Hn:Hid (bu O L1 t k=L1.set t N):=by show _=_;rw [bu,KY (by rw [HOinv.out];exact λh=>hp1 (Hiff.1 h)),HOinv.out,<- hN,<- HO.out];rfl
         have hQ:∀V,PY U V->V.cell? ⟨w.heap.size,0,none⟩=some (cG P)/\V.cell? ⟨w.heap.size,1,none⟩=some (cG m)/\V.cell? ⟨w.heap.size,2,none⟩=some (.slice am mn cm) /\
           V.cell? ⟨ablk a1,aJ a1+t,none⟩=some (.slice (aM R2 t).1 len (aM R2 t).2)/\V.cell? ⟨ablk (aM R2 t).1,aJ (aM R2 t).1+k,none⟩=some (cG (nth (ai L1 t) k))/\V.frozen? ⟨ablk a1,aJ a1+t,none⟩=false/\PY U V :=
          λV H=>⟨aB H d0,aB H d1,aB H d2,aB H tr,aB H tc,(r.af H).frozen Q,H⟩
         have HQ:=Z5 hQ
         have Hin:Hid (∀V,PY U V->Calls prog 226 #[.agg #[cG P,cG m,.slice am mn cm],cG (nth (ai L1 t) k)] V λe w'=>e = .returned (cG (gL P m mod (nth (ai L1 t) k)))/\PY V w') :=
          λV H=>Fa P m am mn cm mod _ V (hfU.af H) hel
         have Hsc:Hid (∀V,PY U V->Calls prog 225 #[.agg #[cG P,cG m,.slice am mn cm],cG (gL P m mod (nth (ai L1 t) k)),.slice (aM R2 t).1 len (aM R2 t).2] V (cQ V N)) :=
          λV H=>by rw [<- hN];exact Aj P m am mn cm mod _ _ len _ _ V (hfU.af H) (BG hf.rf mod _) (ti.af H) Hrow1.2 hlen
         have HF:Hid (∀V5 a5 c5,V5.ownsRow U.heap.size 3 1 (.slice a5 N.length c5) N.length (N.map (Value.int .i64))->PY U V5 ->
           ∃R3,aO (V5.setCell ⟨ablk a1,aJ a1+t,none⟩ (.slice a5 N.length c5)) W.heap.size a1 n c1 R3 (bu O L1 t k)/\aC U (V5.setCell ⟨ablk a1,aJ a1+t,none⟩ (.slice a5 N.length c5)) (bQ a1 R2) (bQ a1 R3)) :=
          λV5 a5 c5 h1 h2=>by rw [Hn.out];exact r.newRow Q h2 hBU h1
         clear hp1 hQ hN
         go_wp2_with fail
         obtain ⟨p,hp⟩:∃p,nth (ai L1 t) k=p:=⟨_,rfl⟩
         rw [hp] at HQ Hin Hsc
         obtain ⟨iv,hiv⟩:∃iv,gL P m mod p=iv:=⟨_,rfl⟩
         rw [hiv] at Hin Hsc
         rw [hp] at tc
         clear hp hiv
         have hap:∀(V:World) (v:Value),(V.setCell ⟨ablk a1,aJ a1+t,none⟩ v).cell? ⟨ablk (aM R2 t).1,aJ (aM R2 t).1+k,none⟩=V.cell? ⟨ablk (aM R2 t).1,aJ (aM R2 t).1+k,none⟩:=λV v=>by
          refine Le _ _ _ _ λe=>?_;have h0:(aM R2 t).1 ≠ none:=λh=>by have:=tp (by omega);rw [h] at this;cases this
          rcases r.tq t Q with h1 | h1
          ·exact h0 h1
          ·have h2:=congrArg Addr.block e;simp at h2;first | exact h1 h2 | exact h1 h2.symm
         have Hap:=Z5 hap
         have hBa:U.heap.size<=U.heap.size:=KT _
         have hBlk:W.heap.size<=ablk a1:=(r.lt _ (.inl ⟨r.ne (by omega),rfl⟩)).1
         have HbU:=Z5 hbU
         have HX2:Hid (∀V,PY W V->V.cell? ⟨w.heap.size,0,none⟩=some (cG P)/\V.cell? ⟨w.heap.size,1,none⟩=some (cG m)/\V.cell? ⟨w.heap.size,2,none⟩=some (.slice am mn cm)):=λV H=>⟨(HS V H).1,(HS V H).2.1,(HS V H).2.2.1⟩
         clear hap
         refine pY (λV=>V.cell? ⟨w.heap.size,0,none⟩=some (cG P)/\V.cell? ⟨w.heap.size,1,none⟩=some (cG m)/\V.cell? ⟨w.heap.size,2,none⟩=some (.slice am mn cm)/\V.cell? ⟨ablk a1,aJ a1+t,none⟩=some (.slice (aM R2 t).1 len (aM R2 t).2)/\V.cell? ⟨ablk (aM R2 t).1,aJ (aM R2 t).1+k,none⟩=some (cG p)) 18 (by kernel_rfl) (by exact ⟨d0,d1,d2,tr,tc⟩) λhI=>?_
         refine aR (i:=0) (v:=?_) rfl (by decide +kernel) (by decide +kernel) (by decide +kernel) (λ_ _ _ h=>h) (LX ⟨by rfl,?_⟩) hI ?_
         rotate_left
         ·intro V Z;(try dsimp only at Z);obtain ⟨E,e1,S,C,D⟩:=Z;go_simp;(try with_reducible rfl)
         clear hI;intro hI;(try simp only [Act.put,KW,K1,K2] at hI ⊢)
         refine aR (i:=1) (v:=?_) rfl (by decide +kernel) (by decide +kernel) (by decide +kernel) (λ_ _ _ h=>h) (LX ⟨by rfl,?_⟩) hI ?_
         rotate_left
         ·intro V Z;(try dsimp only at Z);obtain ⟨E,e1,S,C,D⟩:=Z;go_simp;(try with_reducible rfl)
         clear hI;intro hI;(try simp only [Act.put,KW,K1,K2] at hI ⊢)
         refine aR (i:=2) (v:=?_) rfl (by decide +kernel) (by decide +kernel) (by decide +kernel) (λ_ _ _ h=>h) (LX ⟨by rfl,?_⟩) hI ?_
         rotate_left
         ·intro V Z;(try dsimp only at Z);obtain ⟨E,e1,S,C,D⟩:=Z;go_simp;(try with_reducible rfl)
         clear hI;intro hI;(try simp only [Act.put,KW,K1,K2] at hI ⊢)
         refine aR (i:=3) (v:=?_) rfl (by decide +kernel) (by decide +kernel) (by decide +kernel) (λ_ _ _ h=>h) (LX ⟨by rfl,?_⟩) hI ?_
         rotate_left
         ·intro V Z;(try dsimp only at Z);obtain ⟨E,e1,S,C,D⟩:=Z;go_simp;(try with_reducible rfl)
         clear hI;intro hI;(try simp only [Act.put,KW,K1,K2] at hI ⊢)
         refine aR (i:=4) (v:=?_) rfl (by decide +kernel) (by decide +kernel) (by decide +kernel) (λ_ _ _ h=>h) (LX ⟨by rfl,?_⟩) hI ?_
         rotate_left
         ·intro V Z;(try dsimp only at Z);obtain ⟨E,e1,S,C,D⟩:=Z;go_simp;(try with_reducible rfl)
         clear hI;intro hI;(try simp only [Act.put,KW,K1,K2] at hI ⊢)
         refine aR (i:=5) (v:=?_) rfl (by decide +kernel) (by decide +kernel) (by decide +kernel) (λ_ _ _ h=>h) (LX ⟨by rfl,?_⟩) hI ?_
         rotate_left
         ·intro V Z;(try dsimp only at Z);obtain ⟨E,e1,S,C,D⟩:=Z;go_simp;(try with_reducible rfl)
         clear hI;intro hI;(try simp only [Act.put,KW,K1,K2] at hI ⊢)
         refine aR (i:=6) (v:=?_) rfl (by decide +kernel) (by decide +kernel) (by decide +kernel) (λ_ _ _ h=>h) (LX ⟨by rfl,?_⟩) hI ?_
         rotate_left
         ·intro V Z;(try dsimp only at Z);obtain ⟨E,e1,S,C,D⟩:=Z;go_simp;(try with_reducible rfl)
         clear hI;intro hI;(try simp only [Act.put,KW,K1,K2] at hI ⊢)
         refine aR (i:=7) (v:=?_) rfl (by decide +kernel) (by decide +kernel) (by decide +kernel) (λ_ _ _ h=>h) (LX ⟨by rfl,?_⟩) hI ?_
         rotate_left
         ·intro V Z;(try dsimp only at Z);obtain ⟨E,e1,S,C,D⟩:=Z;go_simp;(try with_reducible rfl)
         clear hI;intro hI;(try simp only [Act.put,KW,K1,K2] at hI ⊢)
         refine aR (i:=8) (v:=?_) rfl (by decide +kernel) (by decide +kernel) (by decide +kernel) (λ_ _ _ h=>h) (LX ⟨by rfl,?_⟩) hI ?_
         rotate_left
         ·intro V Z;(try dsimp only at Z);obtain ⟨E,e1,S,C,D⟩:=Z;go_simp;(try with_reducible rfl)
         clear hI;intro hI;(try simp only [Act.put,KW,K1,K2] at hI ⊢)
         refine aR (i:=9) (v:=?_) rfl (by decide +kernel) (by decide +kernel) (by decide +kernel) (λ_ _ _ h=>h) (LX ⟨by rfl,?_⟩) hI ?_
         rotate_left
         ·intro V Z;(try dsimp only at Z);obtain ⟨E,e1,S,C,D⟩:=Z;go_simp;(try with_reducible rfl)
         clear hI;intro hI;(try simp only [Act.put,KW,K1,K2] at hI ⊢)
         refine aR (i:=10) (v:=?_) rfl (by decide +kernel) (by decide +kernel) (by decide +kernel) (λ_ _ _ h=>h) (LX ⟨by rfl,?_⟩) hI ?_
         rotate_left
         ·intro V Z;(try dsimp only at Z);obtain ⟨E,e1,S,C,D⟩:=Z;go_simp;(try with_reducible rfl)
         clear hI;intro hI;(try simp only [Act.put,KW,K1,K2] at hI ⊢)
         refine aR (i:=12) (v:=?_) rfl (by decide +kernel) (by decide +kernel) (by decide +kernel) (λ_ _ _ h=>h) (LX ⟨by rfl,?_⟩) hI ?_
         rotate_left
         ·intro V Z;(try dsimp only at Z);obtain ⟨E,e1,S,C,D⟩:=Z;go_simp;(try with_reducible rfl)
         clear hI;intro hI;(try simp only [Act.put,KW,K1,K2] at hI ⊢)
         refine aR (i:=13) (v:=?_) rfl (by decide +kernel) (by decide +kernel) (by decide +kernel) (λ_ _ _ h=>h) (LX ⟨by rfl,?_⟩) hI ?_
         rotate_left
         ·intro V Z;(try dsimp only at Z);obtain ⟨E,e1,S,C,D⟩:=Z;go_simp;(try with_reducible rfl)
         clear hI;intro hI;(try simp only [Act.put,KW,K1,K2] at hI ⊢)
         refine aR (i:=14) (v:=?_) rfl (by decide +kernel) (by decide +kernel) (by decide +kernel) (λ_ _ _ h=>h) (LX ⟨by rfl,?_⟩) hI ?_
         rotate_left
         ·intro V Z;(try dsimp only at Z);obtain ⟨E,e1,S,C,D⟩:=Z;go_simp;(try with_reducible rfl)
         clear hI;intro hI;(try simp only [Act.put,KW,K1,K2] at hI ⊢)
         refine aR (i:=15) (v:=?_) rfl (by decide +kernel) (by decide +kernel) (by decide +kernel) (λ_ _ _ h=>h) (LX ⟨by rfl,?_⟩) hI ?_
         rotate_left
         ·intro V Z;(try dsimp only at Z);obtain ⟨E,e1,S,C,D⟩:=Z;go_simp;(try with_reducible rfl)
         clear hI;intro hI;(try simp only [Act.put,KW,K1,K2] at hI ⊢)
         refine l9 (i:=11) (by decide +kernel) (by omega) hI.1 rfl (λK hK=>?_)
         go_simp
         go_at_call 226;((with_reducible refine (Hin.out _ (KU _ _).drew).mono ?_);rintro e w4 ⟨rfl,hb4⟩;obtain ⟨q0,q1,q2,q3,q4,q5,q6⟩:=HQ.out w4 (Pm (KU _ _).drew hb4))
         refine hK _ _ (by exact ⟨q0,q1,q2,q3,q4⟩) (λhI=>?_)
         clear hK K
         refine l9 (i:=16) (by decide +kernel) (by omega) hI.1 rfl (λK hK=>?_)
         go_simp
         go_at_call 225;((with_reducible refine (Hsc.out _ q6).mono ?_);rintro e w5 ⟨a5,c5,rfl,hown5,hb5⟩;obtain ⟨s0,s1,s2,s3,s4,s5,s6⟩:=HQ.out w5 (Pm q6 hb5))
         refine hK _ _ (by exact ⟨s0,s1,s2,s3,s4⟩) (λhI=>?_)
         clear hK K
         refine aR (i:=17) (v:=?_) rfl (by decide +kernel) (by decide +kernel) (by decide +kernel) (λ_ _ _ h=>h) (LX ⟨by rfl,?_⟩) hI ?_
         rotate_left
         ·intro V Z;(try dsimp only at Z);obtain ⟨E,e1,S,C,D⟩:=Z;go_simp;(try with_reducible rfl)
         clear hI;intro hI;(try simp only [Act.put,KW,K1,K2] at hI ⊢)
         refine sk (i:=18) (by decide +kernel) (by omega) (by decide +kernel) rfl (λK hK=>?_)
         go_simp
         refine hK _ _ ?_
         clear hK K
         have Ho5:=Z5 (aY hown5 q6.size)
         clear hown5
         go_wp2_with fail
         go_meet
         exact HF _ _ _ Ho5.out s6
       obtain ⟨R3,hO3,hM3⟩:=hcut
       generalize wc=T at *
       have hbT:PY W T:=hbU.trans (hM3.below (λb' hb'=>(r.lt b' hb').1) hbU.size)
       have hrw2:=hrw1.norm Hcl.out (t:=t) (c:=k) (by rw [Hl1.out];exact Q) (by omega) Hnz1.out
       have hl2:(bu O L1 t k).length=n:=by rw [dy];exact Hl1
       have Hl2:=Z5 hl2
       have hopT:=hM3.own hopU HoiU.out
       have hoiT:ap ≠ none->¬ bQ a1 R3 (ablk ap):=λhn=>hM3.not (aT hopU hn).2 (HoiU hn)
       have HoiT:=Z5 hoiT
       clear hl2 hoiT tr ti tc tp hel d0 d1 d2 hfU hopU hM3
       obtain ⟨L2,hL2⟩:∃L2,bu O L1 t k=L2:=⟨_,rfl⟩
       rw [hL2] at hO3 hrw2 Hl2 HL1
       clear hL2
       go_wp2_with fail
       go_loopw [13] (λiv wx=>∃(i:Nat) (A:LA),i<=n/\iv = cG i/\aO wx W.heap.size a1 n c1 A (clearTo O t k L2 i)/\aC T wx (bQ a1 R3) (bQ a1 A)) (λiv _=>n - (intOf iv).toNat)
       case atStart=>exact ⟨0,R3,K0 _,rfl,hO3,Pz _ _⟩
       case round =>
        obtain ⟨i,A,hi,rfl,hOi,hMi⟩:=hrel
        generalize wr=X at *
        have hbX:PY W X:=hbT.trans (hMi.below (λb' hb'=>(hO3.lt b' hb').1) hbT.size)
        obtain ⟨d0,d1,d2,hfX⟩:=HS X hbX
        by_cases hin:i<n
        ·have hrwi:=PI Hcl.out hrw2 (t:=t) (c:=k) (by rw [Hl2.out];exact Q) (by omega) i (by rw [Hl2.out];exact hi)
         have hli:(clearTo O t k L2 i).length=n:=by rw [dA];exact Hl2
         have hstep:clearTo O t k L2 (i+1)=if i=t then clearTo O t k L2 i else (clearTo O t k L2 i).set i (cR O (ai (clearTo O t k L2 i) t) k (ai (clearTo O t k L2 i) i)):=rfl
         have Hstep:=Z5 hstep
         obtain ⟨Li,hLi⟩:∃Li,clearTo O t k L2 i=Li:=⟨_,rfl⟩
         rw [hLi] at hrwi hli Hstep hOi
         have hri:=hrwi.row (i:=i) (by omega)
         have hrt:=hrwi.row (i:=t) (by omega)
         have ci:=hOi.cell hin
         have ct:=hOi.cell Q
         have ii:=hOi.ints hin
         have it:=hOi.ints Q
         rw [hri.1] at ci ii
         rw [hrt.1] at ct it
         have ck:=ii.cell k (by omega)
         have hpi:=ii.pl
         have hxel:eW P m (nth (ai Li i) k):=hri.2 _ (aG (by rw [hri.1];omega))
         have Hri:=Z5 hri
         have Hrt:=Z5 hrt
         clear hri hrt hli hstep hLi
         by_cases hit:i=t
         ·have hit':((i:Int) != t)=false:=by simp [hit]
          have Hn:Hid (clearTo O t k L2 (i+1)=Li):=by show _=_;rw [Hstep.out,KX hit]
          clear hit
          go_wp2_with fail
          go_roundw
          case rel=>exact ⟨i+1,A,by omega,by go_num,by rw [Hn.out];exact hOi,hMi⟩
          case measure=>simp [intOf] <;> omega
         ·have hit':((i:Int) != t)=true:=by simp;omega
          by_cases hx0:nth (ai Li i) k=0
          ·have hx0':(nth (ai Li i) k != 0)=false:=by simp [hx0]
           have Hn:Hid (clearTo O t k L2 (i+1)=Li):=by show _=_;rw [Hstep.out,KY hit,cR,KX hx0,lr]
           clear hit hx0
           go_wp2_with fail
           go_roundw
           case rel=>exact ⟨i+1,A,by omega,by go_num,by rw [Hn.out];exact hOi,hMi⟩
           case measure=>simp [intOf] <;> omega
          ·have hx0':(nth (ai Li i) k != 0)=true:=by simpa using hx0
           obtain ⟨N,hN⟩:∃N,bX O (ai Li i) (fneg P m (nth (ai Li i) k)) (ai Li t)=N:=⟨_,rfl⟩
           have Hn:Hid (clearTo O t k L2 (i+1)=Li.set i N):=by show _=_;rw [Hstep.out,KY hit,cR,KY hx0,<- hN,<- HO.out];rfl
           have hQ:∀V,PY X V->V.cell? ⟨w.heap.size,0,none⟩=some (cG P)/\V.cell? ⟨w.heap.size,1,none⟩=some (cG m)/\V.cell? ⟨w.heap.size,2,none⟩=some (.slice am mn cm) /\
             V.cell? ⟨ablk a1,aJ a1+i,none⟩=some (.slice (aM A i).1 len (aM A i).2)/\V.cell? ⟨ablk a1,aJ a1+t,none⟩=some (.slice (aM A t).1 len (aM A t).2)/\V.cell? ⟨ablk (aM A i).1,aJ (aM A i).1+k,none⟩=some (cG (nth (ai Li i) k))/\V.frozen? ⟨ablk a1,aJ a1+i,none⟩=false/\PY X V :=
            λV H=>⟨aB H d0,aB H d1,aB H d2,aB H ci,aB H ct,aB H ck,(hOi.af H).frozen hin,H⟩
           have HQ:=Z5 hQ
           have Hng:Hid (∀V,PY X V->Calls prog 107 #[.agg #[cG P,cG m,.slice am mn cm],cG (nth (ai Li i) k)] V λe w'=>e = .returned (cG (fneg P m (nth (ai Li i) k)))/\PY V w') :=
            λV H=>rj P m am mn cm _ V hf.rf (hf.rf.iQ hxel)
           have Had:Hid (∀V,PY X V->Calls prog 227 #[.agg #[cG P,cG m,.slice am mn cm],.slice (aM A i).1 len (aM A i).2,cG (fneg P m (nth (ai Li i) k)),.slice (aM A t).1 len (aM A t).2] V (cQ V N)) :=
            λV H=>by rw [<- hN,<- HO.out];exact na P m am mn cm mod _ len _ _ _ _ _ _ V (hfX.af H) (vB hf.rf.res _) (ii.af H) (it.af H) Hri.2 Hrt.2 hlen
           have HF:Hid (∀V5 a5 c5,V5.ownsRow X.heap.size 3 1 (.slice a5 N.length c5) N.length (N.map (Value.int .i64))->PY X V5 ->
             ∃R5,aO (V5.setCell ⟨ablk a1,aJ a1+i,none⟩ (.slice a5 N.length c5)) W.heap.size a1 n c1 R5 (clearTo O t k L2 (i+1))/\aC X (V5.setCell ⟨ablk a1,aJ a1+i,none⟩ (.slice a5 N.length c5)) (bQ a1 A) (bQ a1 R5)) :=
            λV5 a5 c5 h1 h2=>by rw [Hn.out];exact hOi.newRow hin h2 hbX.size h1
           have Hit:=Z5 hit
           clear hit hx0 hQ hN Hn
           obtain ⟨p,hp⟩:∃p,nth (ai Li i) k=p:=⟨_,rfl⟩
           rw [hp] at HQ Hng Had ck hx0'
           obtain ⟨iv,hiv⟩:∃iv,fneg P m p=iv:=⟨_,rfl⟩
           rw [hiv] at Hng Had
           clear hp hiv
           have hap:∀(V:World) (v:Value),(V.setCell ⟨ablk a1,aJ a1+i,none⟩ v).cell? ⟨ablk (aM A i).1,aJ (aM A i).1+k,none⟩=V.cell? ⟨ablk (aM A i).1,aJ (aM A i).1+k,none⟩ /\
             (V.setCell ⟨ablk a1,aJ a1+i,none⟩ v).cell? ⟨ablk a1,aJ a1+t,none⟩=V.cell? ⟨ablk a1,aJ a1+t,none⟩:=λV v=>by
            refine ⟨Le _ _ _ _ λe=>?_,Le _ _ _ _ (by have:=Hit.out;simp <;> omega)⟩;have h0:(aM A i).1 ≠ none:=λh=>by have:=hpi (by omega);rw [h] at this;cases this
            rcases hOi.tq i hin with h1 | h1
            ·exact h0 h1
            ·have h2:=congrArg Addr.block e;simp at h2;first | exact h1 h2 | exact h1 h2.symm
           have Hap:=Z5 hap
           have hBlk:W.heap.size<=ablk a1:=(hOi.lt _ (.inl ⟨hOi.ne (by omega),rfl⟩)).1
           have HbX:=Z5 hbX
           have HX2:Hid (∀V,PY W V->V.cell? ⟨w.heap.size,0,none⟩=some (cG P)/\V.cell? ⟨w.heap.size,1,none⟩=some (cG m)/\V.cell? ⟨w.heap.size,2,none⟩=some (.slice am mn cm)):=λV H=>⟨(HS V H).1,(HS V H).2.1,(HS V H).2.2.1⟩
           clear hap
           go_wp2_with fail
           refine pY (λV=>V.cell? ⟨w.heap.size,0,none⟩=some (cG P)/\V.cell? ⟨w.heap.size,1,none⟩=some (cG m)/\V.cell? ⟨w.heap.size,2,none⟩=some (.slice am mn cm)/\V.cell? ⟨ablk a1,aJ a1+i,none⟩=some (.slice (aM A i).1 len (aM A i).2)/\V.cell? ⟨ablk a1,aJ a1+t,none⟩=some (.slice (aM A t).1 len (aM A t).2)/\V.cell? ⟨ablk (aM A i).1,aJ (aM A i).1+k,none⟩=some (cG p)) 22 (by kernel_rfl) (by exact ⟨d0,d1,d2,ci,ct,ck⟩) λhI=>?_
           refine aR (i:=0) (v:=?_) rfl (by decide +kernel) (by decide +kernel) (by decide +kernel) (λ_ _ _ h=>h) (LX ⟨by rfl,?_⟩) hI ?_
           rotate_left
           ·intro V Z;(try dsimp only at Z);obtain ⟨E,e1,S,C,D,e5⟩:=Z;go_simp;(try with_reducible rfl)
           clear hI;intro hI;(try simp only [Act.put,KW,K1,K2] at hI ⊢)
           refine aR (i:=1) (v:=?_) rfl (by decide +kernel) (by decide +kernel) (by decide +kernel) (λ_ _ _ h=>h) (LX ⟨by rfl,?_⟩) hI ?_
           rotate_left
           ·intro V Z;(try dsimp only at Z);obtain ⟨E,e1,S,C,D,e5⟩:=Z;go_simp;(try with_reducible rfl)
           clear hI;intro hI;(try simp only [Act.put,KW,K1,K2] at hI ⊢)
           refine aR (i:=2) (v:=?_) rfl (by decide +kernel) (by decide +kernel) (by decide +kernel) (λ_ _ _ h=>h) (LX ⟨by rfl,?_⟩) hI ?_
           rotate_left
           ·intro V Z;(try dsimp only at Z);obtain ⟨E,e1,S,C,D,e5⟩:=Z;go_simp;(try with_reducible rfl)
           clear hI;intro hI;(try simp only [Act.put,KW,K1,K2] at hI ⊢)
           refine aR (i:=3) (v:=?_) rfl (by decide +kernel) (by decide +kernel) (by decide +kernel) (λ_ _ _ h=>h) (LX ⟨by rfl,?_⟩) hI ?_
           rotate_left
           ·intro V Z;(try dsimp only at Z);obtain ⟨E,e1,S,C,D,e5⟩:=Z;go_simp;(try with_reducible rfl)
           clear hI;intro hI;(try simp only [Act.put,KW,K1,K2] at hI ⊢)
           refine aR (i:=4) (v:=?_) rfl (by decide +kernel) (by decide +kernel) (by decide +kernel) (λ_ _ _ h=>h) (LX ⟨by rfl,?_⟩) hI ?_
           rotate_left
           ·intro V Z;(try dsimp only at Z);obtain ⟨E,e1,S,C,D,e5⟩:=Z;go_simp;(try with_reducible rfl)
           clear hI;intro hI;(try simp only [Act.put,KW,K1,K2] at hI ⊢)
           refine aR (i:=5) (v:=?_) rfl (by decide +kernel) (by decide +kernel) (by decide +kernel) (λ_ _ _ h=>h) (LX ⟨by rfl,?_⟩) hI ?_
           rotate_left
           ·intro V Z;(try dsimp only at Z);obtain ⟨E,e1,S,C,D,e5⟩:=Z;go_simp;(try with_reducible rfl)
           clear hI;intro hI;(try simp only [Act.put,KW,K1,K2] at hI ⊢)
           refine aR (i:=6) (v:=?_) rfl (by decide +kernel) (by decide +kernel) (by decide +kernel) (λ_ _ _ h=>h) (LX ⟨by rfl,?_⟩) hI ?_
           rotate_left
           ·intro V Z;(try dsimp only at Z);obtain ⟨E,e1,S,C,D,e5⟩:=Z;go_simp;(try with_reducible rfl)
           clear hI;intro hI;(try simp only [Act.put,KW,K1,K2] at hI ⊢)
           refine aR (i:=7) (v:=?_) rfl (by decide +kernel) (by decide +kernel) (by decide +kernel) (λ_ _ _ h=>h) (LX ⟨by rfl,?_⟩) hI ?_
           rotate_left
           ·intro V Z;(try dsimp only at Z);obtain ⟨E,e1,S,C,D,e5⟩:=Z;go_simp;(try with_reducible rfl)
           clear hI;intro hI;(try simp only [Act.put,KW,K1,K2] at hI ⊢)
           refine aR (i:=8) (v:=?_) rfl (by decide +kernel) (by decide +kernel) (by decide +kernel) (λ_ _ _ h=>h) (LX ⟨by rfl,?_⟩) hI ?_
           rotate_left
           ·intro V Z;(try dsimp only at Z);obtain ⟨E,e1,S,C,D,e5⟩:=Z;go_simp;(try with_reducible rfl)
           clear hI;intro hI;(try simp only [Act.put,KW,K1,K2] at hI ⊢)
           refine aR (i:=9) (v:=?_) rfl (by decide +kernel) (by decide +kernel) (by decide +kernel) (λ_ _ _ h=>h) (LX ⟨by rfl,?_⟩) hI ?_
           rotate_left
           ·intro V Z;(try dsimp only at Z);obtain ⟨E,e1,S,C,D,e5⟩:=Z;go_simp;(try with_reducible rfl)
           clear hI;intro hI;(try simp only [Act.put,KW,K1,K2] at hI ⊢)
           refine aR (i:=10) (v:=?_) rfl (by decide +kernel) (by decide +kernel) (by decide +kernel) (λ_ _ _ h=>h) (LX ⟨by rfl,?_⟩) hI ?_
           rotate_left
           ·intro V Z;(try dsimp only at Z);obtain ⟨E,e1,S,C,D,e5⟩:=Z;go_simp;(try with_reducible rfl)
           clear hI;intro hI;(try simp only [Act.put,KW,K1,K2] at hI ⊢)
           refine aR (i:=11) (v:=?_) rfl (by decide +kernel) (by decide +kernel) (by decide +kernel) (λ_ _ _ h=>h) (LX ⟨by rfl,?_⟩) hI ?_
           rotate_left
           ·intro V Z;(try dsimp only at Z);obtain ⟨E,e1,S,C,D,e5⟩:=Z;go_simp;(try with_reducible rfl)
           clear hI;intro hI;(try simp only [Act.put,KW,K1,K2] at hI ⊢)
           refine aR (i:=12) (v:=?_) rfl (by decide +kernel) (by decide +kernel) (by decide +kernel) (λ_ _ _ h=>h) (LX ⟨by rfl,?_⟩) hI ?_
           rotate_left
           ·intro V Z;(try dsimp only at Z);obtain ⟨E,e1,S,C,D,e5⟩:=Z;go_simp;(try with_reducible rfl)
           clear hI;intro hI;(try simp only [Act.put,KW,K1,K2] at hI ⊢)
           refine aR (i:=13) (v:=?_) rfl (by decide +kernel) (by decide +kernel) (by decide +kernel) (λ_ _ _ h=>h) (LX ⟨by rfl,?_⟩) hI ?_
           rotate_left
           ·intro V Z;(try dsimp only at Z);obtain ⟨E,e1,S,C,D,e5⟩:=Z;go_simp;(try with_reducible rfl)
           clear hI;intro hI;(try simp only [Act.put,KW,K1,K2] at hI ⊢)
           refine aR (i:=14) (v:=?_) rfl (by decide +kernel) (by decide +kernel) (by decide +kernel) (λ_ _ _ h=>h) (LX ⟨by rfl,?_⟩) hI ?_
           rotate_left
           ·intro V Z;(try dsimp only at Z);obtain ⟨E,e1,S,C,D,e5⟩:=Z;go_simp;(try with_reducible rfl)
           clear hI;intro hI;(try simp only [Act.put,KW,K1,K2] at hI ⊢)
           refine aR (i:=16) (v:=?_) rfl (by decide +kernel) (by decide +kernel) (by decide +kernel) (λ_ _ _ h=>h) (LX ⟨by rfl,?_⟩) hI ?_
           rotate_left
           ·intro V Z;(try dsimp only at Z);obtain ⟨E,e1,S,C,D,e5⟩:=Z;go_simp;(try with_reducible rfl)
           clear hI;intro hI;(try simp only [Act.put,KW,K1,K2] at hI ⊢)
           refine aR (i:=17) (v:=?_) rfl (by decide +kernel) (by decide +kernel) (by decide +kernel) (λ_ _ _ h=>h) (LX ⟨by rfl,?_⟩) hI ?_
           rotate_left
           ·intro V Z;(try dsimp only at Z);obtain ⟨E,e1,S,C,D,e5⟩:=Z;go_simp;(try with_reducible rfl)
           clear hI;intro hI;(try simp only [Act.put,KW,K1,K2] at hI ⊢)
           refine aR (i:=18) (v:=?_) rfl (by decide +kernel) (by decide +kernel) (by decide +kernel) (λ_ _ _ h=>h) (LX ⟨by rfl,?_⟩) hI ?_
           rotate_left
           ·intro V Z;(try dsimp only at Z);obtain ⟨E,e1,S,C,D,e5⟩:=Z;go_simp;(try with_reducible rfl)
           clear hI;intro hI;(try simp only [Act.put,KW,K1,K2] at hI ⊢)
           refine aR (i:=19) (v:=?_) rfl (by decide +kernel) (by decide +kernel) (by decide +kernel) (λ_ _ _ h=>h) (LX ⟨by rfl,?_⟩) hI ?_
           rotate_left
           ·intro V Z;(try dsimp only at Z);obtain ⟨E,e1,S,C,D,e5⟩:=Z;go_simp;(try with_reducible rfl)
           clear hI;intro hI;(try simp only [Act.put,KW,K1,K2] at hI ⊢)
           refine l9 (i:=15) (by decide +kernel) (by omega) hI.1 rfl (λK hK=>?_)
           go_simp
           go_at_call 107;((with_reducible refine (Hng.out _ (KU _ _).drew).mono ?_);rintro e w4 ⟨rfl,hb4⟩;obtain ⟨q0,q1,q2,q3,q4,q5,q7,q6⟩:=HQ.out w4 (Pm (KU _ _).drew hb4))
           refine hK _ _ (by exact ⟨q0,q1,q2,q3,q4,q5⟩) (λhI=>?_)
           clear hK K
           refine l9 (i:=20) (by decide +kernel) (by omega) hI.1 rfl (λK hK=>?_)
           go_simp
           go_at_call 227;((with_reducible refine (Had.out _ q6).mono ?_);rintro e w5 ⟨a5,c5,rfl,hown5,hb5⟩;obtain ⟨s0,s1,s2,s3,s4,s5,s7,s6⟩:=HQ.out w5 (Pm q6 hb5))
           refine hK _ _ (by exact ⟨s0,s1,s2,s3,s4,s5⟩) (λhI=>?_)
           clear hK K
           refine aR (i:=21) (v:=?_) rfl (by decide +kernel) (by decide +kernel) (by decide +kernel) (λ_ _ _ h=>h) (LX ⟨by rfl,?_⟩) hI ?_
           rotate_left
           ·intro V Z;(try dsimp only at Z);obtain ⟨E,e1,S,C,D,e5⟩:=Z;go_simp;(try with_reducible rfl)
           clear hI;intro hI;(try simp only [Act.put,KW,K1,K2] at hI ⊢)
           refine sk (i:=22) (by decide +kernel) (by omega) (by decide +kernel) rfl (λK hK=>?_)
           go_simp
           refine hK _ _ ?_
           clear hK K
           have Ho5:=Z5 (aY hown5 q6.size)
           have Hs6:=Z5 s6
           clear hown5 HQ Hng Had q0 q1 q2 q3 q4 q5 q6 q7 s0 s1 s2 s3 s4 s5 s6 s7
           go_wp2_with fail
           go_roundw
           case rel =>
            obtain ⟨R5,hO5,hM5⟩:=HF _ _ _ Ho5.out Hs6.out
            exact ⟨i+1,R5,by omega,by go_num,hO5,hMi.trans hM5⟩
           case measure=>simp [intOf] <;> omega
        ·obtain rfl:i=n:=by omega
         have hopX:=hMi.own hopT HoiT.out
         have hoiX:ap ≠ none->¬ bQ a1 A (ablk ap):=λhn=>hMi.not (aT hopT hn).2 (HoiT hn)
         have HoiX:=Z5 hoiX
         have hcn:=bm X (cG k) 3
         have hbn:=an X (.cells #[cG k] 3)
         have hsz:=hbX.size
         clear hoiX
         go_wp2_with (at_builtin;refine aS rfl _ _ 22 3 rfl (cG 0) 8 underlying22 bh rfl W.heap.size ap t cp _ rfl (hopX.alloc _) ⟨X.heap.size,0,none⟩ 1 (cG k) rfl hcn rfl (by omega) (by unfold maxLen;omega) (by simp;omega) ?_;intro a3 c3 w3 hown3 hgr hap3)
         go_roundw
         case rel =>
          have hnx:aD O L (k+1)=(clearTo O t k L2 i,Pv ++ [(k:Int)]):=by rw [dZ hst.out (by rw [z.out,Ht.out];exact Q),Ht.out,KY (by rw [Hf.out,z.out];omega),Hf.out,HL1.out]
          have hne:∀b',bQ a1 A b'->eY ap b':=λb' hb'=>by
           by_cases hn:ap=none
           ·exact .inl hn
           ·exact .inr λe=>HoiX hn (by rw [e];exact hb')
          have hOn:=hOi.af hbn
          have hO6:aO w3 W.heap.size a1 i c1 A (clearTo O t k L2 i):=hOn.bp λb' hb'=>hgr.block b' (hOn.lt b' hb').2 λe=>(hne b' hb').own t cp e.symm
          have hb3:PY W w3:=Pp (L5 hbX (hbn.mono hsz)) (hopX.alloc _) hgr (KT _) (K9 hsz hbn.size)
          have hrw3:=PI Hcl.out hrw2 (t:=t) (c:=k) (by rw [Hl2.out];exact Q) (by omega) i (by rw [Hl2.out];exact hi)
          have ho4:a3 ≠ none->¬ bQ a1 A (ablk a3):=λhn hI=>by
           rcases hap3 _ (hOn.lt _ hI).2 (hne _ hI) with h1 | h1
           ·exact hn h1
           ·exact h1 rfl
          have hPl2:(Pv ++ [(k:Int)]).length=t+1:=by rw [K6,Ht.out];rfl
          refine ⟨k+1,A,a3,c3,clearTo O t k L2 i,Pv ++ [(k:Int)],by omega,by go_num,by rw [hPl2];go_num,by rw [hPl2],hnx.symm,hO6,?_,ho4,hb3,hrw3,by rw [hPl2];omega⟩
          rw [hPl2];simpa using hown3
         case measure=>simp [intOf] <;> omega
     ·obtain rfl:j=n:=by omega
      have Hn:Hid ((Lk,Pv)=aD O L (k+1)):=by show _=_;rw [dZ hst.out (by rw [z.out,Ht.out];exact Q),Ht.out,KX (by rw [hfr.out,jK (by rw [z.out];exact KT _),z.out])]
      have hjj:decide ((j:Int)<j)=false:=by simp
      go_wp2_with fail
      go_roundw
      case rel=>exact ⟨k+1,R',ap,cp,Lk,Pv,by omega,by go_num,by rw [Ht.out],by rw [Ht.out],Hn,hOr,by rw [Ht.out];exact hop,hoi,hbr,hrw,by rw [Ht.out];exact hPn⟩
      case measure=>simp [intOf] <;> omega
   ·have hPe:Pv.length=n:=by omega
    have hfull:(Lk,Pv)=aD O L Y:=by rw [show Y=k+(Y - k) by omega,gw (by rw [<- hst.out,hPe,<- Hlen.out]),<- hst.out]
    have Hfull:=Z5 hfull
    have hPe':decide ((Pv.length:Int)<n)=false:=by simp;omega
    clear hfull hPe
    go_wp2_with fail
    go_ret2
    exact Hfin _ _ _ _ _ _ _ _ Hfull.out (hOr.mono hbW.size) (aY hop hbW.size) (Pm hbW hbr)
  ·obtain rfl:k=Y:=by omega
   have hk':decide ((k:Int)<k)=false:=by simp
   go_wp2_with fail
   go_ret2
   exact Hfin _ _ _ _ _ _ _ _ hst.out (hOr.mono hbW.size) (aY hop hbW.size) (Pm hbW hbr)
theorem xx {N:Int} {l:LI} (h:fP N l=true):∀k,k<l.length->(k:Int)<=nth l k
 | 0,Z=>(ie h Z).1
 | k+1,Z=>by have Y:=xx h k (by omega);have:=(ie h Z).2.2 (by omega);rw [M7] at this;omega
theorem mx {N:Int} {l:LI} (h:fP N l=true) (Z:0<=N):(l.length:Int)<=N:=by
 by_cases h0:l.length=0
 ·omega
 ·have h1:=xx h (l.length - 1) (by omega);have h2:=(ie h (k:=l.length - 1) (by omega)).2.1;omega
theorem di {P M:Int} {mod:LI} {N:Int} {L:Ll} (h:aI P M mod N L=0):∃m:Nat,N=m/\1<=m/\m<=64/\L.length<=256/\bt (ah P M.toNat mod).El m L:=by obtain ⟨h1,h2,h3,Z⟩:=aL h;obtain ⟨U,K⟩:=eJ Z;obtain ⟨H,Y⟩:=nc U;obtain ⟨m,rfl,hm,S,Q⟩:=me Y;exact ⟨m,rfl,by omega,by omega,S,Q⟩
def dr (x:Nat):Nat->LI
 | 0=>[]
 | k+1=>if x.testBit k=true then dr x k ++ [(k:Int)] else dr x k
section
open Go.RowKit
end
def Ps:=@Vc.at
def Py:=@aO.push
def PE:=@aO.empty
def PK:=@Vc.redTo
def PT:=@cF.own
def PW:=@bL.own
end Go.Proofs.YthglbncgemdcbaaGreat
