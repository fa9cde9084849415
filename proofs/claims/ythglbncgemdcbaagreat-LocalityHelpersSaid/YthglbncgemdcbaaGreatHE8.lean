import Derived.Test.YthglbncgemdcbaaGreatHE6
import Derived.Laws.Bits64
import Derived.Laws.Bits64b
import Derived.OpenShut
import Derived.ShutString
import Derived.ChangeOld
import Derived.Deep.Matrix
namespace Go.Proofs.YthglbncgemdcbaaGreat
set_option linter.all false
set_option maxRecDepth 100000
set_option maxHeartbeats 1600000
open Go.RowKit Go.Proofs.Tryz
section
variable {w : World} {b : Nat} {G : bX}
@[go_sem high] theorem run_slice_h0 {P : Program} (w : World) (t : TypeId) (a : OA) (len cap : Nat) (ht : P.underlying t=some (.slice (P.elem t))) (kh : IntKind) (h : Int) (h0 : 0<=h) (h2 : h<=cap) :
  (Instr.slice t (.slice a len cap) none (some (.int kh h)) none).run P w=((sizeOf (P.elem t)).run P w).andThen λ_ w=>.ok (.slice a h.toNat cap) w:=by rw [run_slice_h w t a len cap ht kh h h0 h2];congr 1;funext s w;congr 1;simp only [sliced,Nat.zero_mul,Addr.add,if_true,Nat.sub_zero,LX,ite_self]
@[go_sem high] theorem run_slice_hm0 {P : Program} (w : World) (t : TypeId) (a : OA) (len cap : Nat) (ht : P.underlying t=some (.slice (P.elem t))) (kh km : IntKind) (h m : Int) (h0 : 0<=h) (h2 : h<=m) (h3 : m<=cap) :
  (Instr.slice t (.slice a len cap) none (some (.int kh h)) (some (.int km m))).run P w=((sizeOf (P.elem t)).run P w).andThen λ_ w=>.ok (.slice a h.toNat m.toNat) w:=by rw [run_slice_hm w t a len cap ht kh km h m h0 h2 h3];congr 1;funext s w;congr 1;simp only [sliced,Nat.zero_mul,Addr.add,if_true,Nat.sub_zero,LX,ite_self]
theorem BE {L : Ll} {k i : Nat} (h : i<k) : ai (L.take k) i=ai L i:=by simp only [ai,GY,Jb,GV h]
structure bA (B : Nat) (w : World) (a : OA) (n : Nat) (l : LI) : Prop where
 ints : Ints w a n l
 lo : 0<n->B<=ablk a
structure bQ (B : Nat) (w : World) (a : OA) (n : Nat) (l : Ll) : Prop where
 len : l.length=n
 pl : Pl a n
 max : n<=maxLen
 lo : 0<n->B<=ablk a
 cell : ∀i,i<n->∃b m c,w.cell? ⟨ablk a,aL a+i,none⟩=some (.slice b m c)/\bA B w b m (ai l i)
theorem bA.mono {B B' : Nat} {w : World} {a : OA} {n : Nat} {l : LI} (h : bA B w a n l) (hB : B'<=B) : bA B' w a n l:=⟨h.ints,λhn=>H7 hB (h.lo hn)⟩
theorem bQ.mono {B B' : Nat} {w : World} {a : OA} {n : Nat} {l : Ll} (h : bQ B w a n l) (hB : B'<=B) : bQ B' w a n l :=
 ⟨h.len,h.pl,h.max,λhn=>H7 hB (h.lo hn),λi hi=>by obtain ⟨b,m,c,h1,h2⟩:=h.cell i hi;exact ⟨b,m,c,h1,h2.mono hB⟩⟩
theorem bQ.jX {B : Nat} {w : World} {a : OA} {n : Nat} {l : Ll} (h : bQ B w a n l) : bC w a n l :=
 ⟨h.len,h.pl,h.max,λi hi=>by obtain ⟨b,m,c,h1,h2⟩:=h.cell i hi;exact ⟨b,m,c,h1,h2.ints⟩⟩
theorem bA.bq {B : Nat} {w V : World} {a : OA} {n : Nat} {l : LI} (h : bA B w a n l) (hb : ∀b,B<=b->b<w.heap.size->V.heap[b]? = w.heap[b]?) : bA B V a n l :=
 ⟨h.ints.of_block λhn=>hb _ (h.lo hn) (h.ints.lt hn),h.lo⟩
theorem bQ.bq {B : Nat} {w V : World} {a : OA} {n : Nat} {l : Ll} (h : bQ B w a n l) (hb : ∀b,B<=b->b<w.heap.size->V.heap[b]? = w.heap[b]?) : bQ B V a n l:=by refine ⟨h.len,h.pl,h.max,h.lo,λi hi=>?_⟩;obtain ⟨b,m,c,h1,h2⟩:=h.cell i hi;exact ⟨b,m,c,(Ii (w:=w) (a:=⟨ablk a,aL a+i,none⟩) (hb _ (h.lo (by omega)) (G8 w _ h1))).trans h1,h2.bq hb⟩
theorem bA.af {B : Nat} {w V : World} {a : OA} {n : Nat} {l : LI} (h : bA B w a n l) (hb : Mv w V) : bA B V a n l:=h.bq λb _ h2=>hb.block b h2
theorem bQ.af {B : Nat} {w V : World} {a : OA} {n : Nat} {l : Ll} (h : bQ B w a n l) (hb : Mv w V) : bQ B V a n l:=h.bq λb _ h2=>hb.block b h2
theorem bA.setCell {B : Nat} {w : World} {a : OA} {n : Nat} {l : LI} (h : bA B w a n l) {p : Addr} (hp : p.block<B) (v : Value) : bA B (w.setCell p v) a n l :=
 h.bq λb h1 _=>Ia _ _ _ _ (by omega)
theorem bQ.setCell {B : Nat} {w : World} {a : OA} {n : Nat} {l : Ll} (h : bQ B w a n l) {p : Addr} (hp : p.block<B) (v : Value) : bQ B (w.setCell p v) a n l :=
 h.bq λb h1 _=>Ia _ _ _ _ (by omega)
theorem bA.own {w : World} {B : Nat} {e : TypeId} {a : OA} {c n : Nat} {l : LI} (h : w.ownsRow B e 1 (.slice a n c) n (l.map (Value.int .i64))) : bA B w a n l :=
 ⟨(L0 h).1,λhn=>(bu h 0 hn).2.2.1⟩
theorem bQ.own {w : World} {B : Nat} {a : OA} {n c : Nat} {R : LA} {L : Ll} (h : aP w B a n c R L) : bQ B w a n L :=
 ⟨h.ll,h.pl,h.max,λhn=>(dP h.own hn).1,λ_ hi=>⟨_,_,_,h.cell hi,bA.own (h.row _ hi)⟩⟩
theorem bQ.take {B : Nat} {w : World} {a : OA} {n : Nat} {L : Ll} (h : bQ B w a n L) {k : Nat} (hk : k<=n) : bQ B w a k (L.take k):=by refine ⟨by rw [Ir,h.len];omega,λh0=>h.pl (by omega),H7 hk h.max,λh0=>h.lo (by omega),λi hi=>?_⟩;rw [BE hi];exact h.cell i (by omega)
def bL (G : bX) (L : Ll) (m : Nat) : Ll:=(aC G.ops L m).1.take (aC G.ops L m).2.length
def bh (G : bX) (L : Ll) (m : Nat) : LI:=(aC G.ops L m).2
theorem dB (G : bX) (L : Ll) (m : Nat) : (bL G L m).length=(bh G L m).length:=by have h1:=ef G.ops L m;have h2:=bV G.ops L m;unfold bL bh;rw [Ir];omega
def qL (G : bX) (L : Ll) (m : Nat) (w : World) (e : Ending) (w' : World) : Prop :=
 ∃a ap cp,e = .returned (.tuple #[.slice a (bh G L m).length (bh G L m).length,.slice ap (bh G L m).length cp])/\bQ w.heap.size w' a (bh G L m).length (bL G L m)/\bA w.heap.size w' ap (bh G L m).length (bh G L m)/\Mv w w'
def AB (G : bX) (L : Ll) (m : Nat) (w : World) (e : Ending) (w' : World) : Prop :=
 ∃a c ap cp,e = .returned (.tuple #[.slice a (bh G L m).length c,.slice ap (bh G L m).length cp])/\bQ w.heap.size w' a (bh G L m).length (bL G L m)/\bA w.heap.size w' ap (bh G L m).length (bh G L m)/\Mv w w'
theorem pC (a : OA) (n c m : Nat) (L : Ll) (h : dz w b G) (hi : bC w a n L) (hR : bG G.El m L) (hm : m<=1000000) (hn : n<=1000000) :
  Calls prog 177 #[.pointer (some ⟨b,0,none⟩),.slice a n c,.int .i64 m] w (qL G L m w):=by
 have Hlen:=Z5 hi.len;have HR:=Z5 hR;have hLm : ∀l ∈ L,l.length<=1000000:=λl hl=>by rw [(hR l hl).1];exact hm
 have HLm:=Z5 hLm;clear hLm hR;go_enter func177,ntmps177;go_wp2_with fail;refine (AU a n c L hi hn HLm.out).mono ?_;rintro e w1 ⟨a1,c1,R1,rfl,hO1,hb1⟩;go_wp2_with fail;refine (q9 w a1 L.length c1 m m R1 L h hb1 hO1 HR.out (GQ _) hm (by rw [Hlen.out];exact hn)).mono ?_;rintro e w2 ⟨R2,ap,cp,d,rfl,hO2,hp2,hM2,hb2⟩;have hpl:=ef G.ops L m;have hcap:=mP hO2.own;have hpv:=(bA.own hp2).mono hb1.size;have hmt:=(bQ.own hO2).take (k:=(aC G.ops L m).2.length) hpl.2;have hF : qL G L m w (.returned (.tuple #[.slice a1 (aC G.ops L m).2.length (aC G.ops L m).2.length,.slice ap (aC G.ops L m).2.length cp])) w2:=⟨a1,ap,cp,rfl,hmt,hpv,hb2⟩
 have HF:=Z5 hF;have hle : (aC G.ops L m).2.length<=c1:=H7 hpl.2 hcap;clear hF hpv hmt hp2 hcap hpl;generalize (aC G.ops L m).2.length=k at *;go_wp2_with fail;go_ret2;simpa using HF.out
theorem rS (a : OA) (n c m : Nat) (L : Ll) (h : dz w b G) (hi : bC w a n L) (hR : bG G.El m L) (hm : m<=1000000) (hn : n<=1000000) :
  Calls prog 177 #[.pointer (some ⟨b,0,none⟩),.slice a n c,.int .i64 m] w (AB G L m w) :=
 (pC a n c m L h hi hR hm hn).mono λ_ _ ⟨a1,ap,cp,h1⟩=>⟨a1,_,ap,cp,h1⟩
end
def dk (P M : Int) (mod : LI) (cols : Int) (L : Ll) : Int :=
 if ba P M mod=true then eU (ah P M.toNat mod).q cols L else 1
def su (P M : Int) (mod : LI) (cols : Int) (L : Ll) (w : World) (e : Ending) (w' : World) : Prop :=
 Mv w w'/\(
 (dk P M mod cols L ≠ 0/\e = .returned (.tuple #[.agg #[.int .i64 0,.slice none 0 0],.slice none 0 0,.int .i64 (dk P M mod cols L)])) \/
 (dk P M mod cols L=0/\∃m : Nat,cols=m/\∃a ap cp,e = .returned (.tuple #[.agg #[.int .i64 m,.slice a (bh (ah P M.toNat mod) L m).length (bh (ah P M.toNat mod) L m).length],.slice ap (bh (ah P M.toNat mod) L m).length cp,.int .i64 0]) /\
  bQ w.heap.size w' a (bh (ah P M.toNat mod) L m).length (bL (ah P M.toNat mod) L m)/\bA w.heap.size w' ap (bh (ah P M.toNat mod) L m).length (bh (ah P M.toNat mod) L m)))
def Cz (P M : Int) (mod : LI) (cols : Int) (L : Ll) (w : World) (e : Ending) (w' : World) : Prop :=
 Mv w w'/\(
 (dk P M mod cols L ≠ 0/\e = .returned (.tuple #[.agg #[.int .i64 0,.slice none 0 0],.slice none 0 0,.int .i64 (dk P M mod cols L)])) \/
 (dk P M mod cols L=0/\∃m : Nat,cols=m/\∃a c ap cp,e = .returned (.tuple #[.agg #[.int .i64 m,.slice a (bh (ah P M.toNat mod) L m).length c],.slice ap (bh (ah P M.toNat mod) L m).length cp,.int .i64 0]) /\
  bQ w.heap.size w' a (bh (ah P M.toNat mod) L m).length (bL (ah P M.toNat mod) L m)/\bA w.heap.size w' ap (bh (ah P M.toNat mod) L m).length (bh (ah P M.toNat mod) L m)))
theorem kG {q cols : Int} {L : Ll} (h : eU q cols L=0) : ∃m : Nat,cols=m/\m<=256/\L.length<=256/\bG (λx=>0<=x/\x<q) m L:=by
 unfold eU at h;split at h
 ·omega
 ·rename_i h1;split at h
  ·omega
  ·rename_i h2;split at h
   ·rename_i h3;refine ⟨cols.toNat,by omega,by omega,by omega,λr hr=>?_⟩;have h4 : gW cols L=true:=by simpa using h2
    unfold gW at h4;rw [IG] at h4 h3;have h5:=h4 r hr;have h6:=h3 r hr;unfold dR gE at h6;rw [IG] at h6;refine ⟨by simp at h5;omega,λx hx=>?_⟩;have h7:=h6 x hx;simpa using h7
   ·omega
theorem nC {q cols : Int} {L : Ll} : matsE q [(cols,L)]=eU q cols L:=by
 simp only [matsE];split
 ·rename_i h;exact h.symm
 ·rfl
theorem gY (P M : Int) (am : OA) (mn cm : Nat) (mod : LI) (cols : Int) (a : OA) (n c : Nat) (L : Ll) (w : World) (hmod : Ints w am mn mod) (hi : bC w a n L) :
  Calls prog 118 #[.agg #[.int .i64 P,.int .i64 M,.slice am mn cm],.agg #[.int .i64 cols,.slice a n c]] w (su P M mod cols L w):=by
 have Hlen:=Z5 hi.len;go_enter func118,ntmps118;go_wp2_with fail;obtain ⟨W,hW⟩ : ∃W : World,W=((((w.alloc (.cells #[.int .i64 P,.int .i64 M,.slice am mn cm] 24)).alloc (.cells #[.int .i64 cols,.slice a n c] 94)).alloc (.cells #[.int .i64 0,.slice none 0 0] 94)).alloc (.cells #[.int .i64 cols,.slice a n c] 94)):=⟨_,rfl⟩
 rw [<- hW];have hbW : Mv w W:=by rw [hW];exact ((((GS _ _).alloc (GQ _) _).alloc (by simp) _).alloc (by simp;omega) _).alloc (by simp;omega) _
 have hsW : W.heap.size=w.heap.size+4:=by rw [hW];simp
 have q1 : W.cell? ⟨w.heap.size+1,0,none⟩=some (.int .i64 cols)/\W.cell? ⟨w.heap.size+1,1,none⟩=some (.slice a n c):=by rw [hW];exact ⟨bp (bp (aE _ _ _ (by simp) 0) _) _,bp (bp (aE _ _ _ (by simp) 1) _) _⟩
 have q2 : W.cell? ⟨w.heap.size+1+1,0,none⟩=some (.int .i64 0)/\W.cell? ⟨w.heap.size+1+1,1,none⟩=some (.slice none 0 0)/\W.frozen? ⟨w.heap.size+1+1,0,none⟩=false/\W.frozen? ⟨w.heap.size+1+1,1,none⟩=false:=by rw [hW];exact ⟨bp (aE _ _ _ (by simp) 0) _,bp (aE _ _ _ (by simp) 1) _,dL (by simp) (eZ _ _ _ (by simp) 0) _,dL (by simp) (eZ _ _ _ (by simp) 1) _⟩
 have q3 : W.cell? ⟨w.heap.size+1+1+1,0,none⟩=some (.int .i64 cols)/\W.cell? ⟨w.heap.size+1+1+1,1,none⟩=some (.slice a n c):=by rw [hW];exact ⟨aE _ _ _ (by simp) 0,aE _ _ _ (by simp) 1⟩
 have hiW:=hi.af hbW;have hMs : A3 W (some ⟨w.heap.size+1+1+1,0,none⟩) 1 [(cols,L)]:=⟨rfl,λ_=>rfl,by unfold maxLen;omega,λi hi=>by
  have : i=0:=by simp at hi;omega
  subst this;exact ⟨a,n,c,by simpa using q3.1,by simpa using q3.2,hiW⟩⟩
 have HsW:=Z5 hsW;clear hW hsW;refine (vH P M am mn cm mod _ 1 1 _ W (hmod.af hbW) hMs).mono ?_;rintro e w1 ⟨hb1,hcase⟩;have hbw1:=LY hbW hb1;have hq : ∀V,Mv W V->V.cell? ⟨w.heap.size+1,0,none⟩=some (.int .i64 cols)/\V.cell? ⟨w.heap.size+1,1,none⟩=some (.slice a n c)/\V.cell? ⟨w.heap.size+1+1,0,none⟩=some (.int .i64 0)/\V.cell? ⟨w.heap.size+1+1,1,none⟩=some (.slice none 0 0)/\V.frozen? ⟨w.heap.size+1+1,0,none⟩=false/\V.frozen? ⟨w.heap.size+1+1,1,none⟩=false:=by intro V hV;have hs:=HsW.out;exact ⟨ak hV q1.1,ak hV q1.2,ak hV q2.1,ak hV q2.2.1,(hV.frozen (p:=⟨w.heap.size+1+1,0,none⟩) (by simp [hs])).trans q2.2.2.1,(hV.frozen (p:=⟨w.heap.size+1+1,1,none⟩) (by simp [hs])).trans q2.2.2.2⟩
 have Hq:=Z5 hq;clear hq q1 q2 q3;rcases hcase with ⟨hB,rfl⟩ | ⟨hB,er,h0,h1,rfl⟩ | ⟨hB,h1,b,rfl,hG,hbl⟩
 ·obtain ⟨r1,r2,r3,r4,r5,r6⟩:=Hq.out w1 hb1;have HB : Hid (dk P M mod cols L=1):=by show _=_;rw [dk,hB];rfl
  clear hB;go_wp2_with fail;refine bodyPost_ret (v:=.tuple #[.agg #[.int .i64 0,.slice none 0 0],.slice none 0 0,.int .i64 1]) (by simp [results,results118,go_sem,r3,r4]) rfl ⟨(hbw1.setCell (by simp;omega) _).setCell (by simp;omega) _,.inl ⟨by rw [HB.out];omega,by rw [HB.out]⟩⟩
 ·obtain ⟨r1,r2,r3,r4,r5,r6⟩:=Hq.out w1 hb1;have HB : Hid (dk P M mod cols L=er):=by show _=_;rw [dk,hB,GV rfl,<- h1,nC]
  have He : Hid (er ≠ 0):=h0;have he' : (er != 0)=true:=by simpa using h0
  clear hB h0 h1;go_wp2_with fail;refine bodyPost_ret (v:=.tuple #[.agg #[.int .i64 0,.slice none 0 0],.slice none 0 0,.int .i64 er]) (by simp [results,results118,go_sem,r3,r4]) rfl ⟨(hbw1.setCell (by simp;omega) _).setCell (by simp;omega) _,.inl ⟨by rw [HB.out];exact He.out,by rw [HB.out]⟩⟩
 ·obtain ⟨r1,r2,r3,r4,r5,r6⟩:=Hq.out w1 hb1;rw [nC] at h1;obtain ⟨m,rfl,hm,hn,hR⟩:=kG h1;have HB : Hid (dk P M mod m L=0):=by show _=_;rw [dk,hB,GV rfl,h1]
  clear hB h1;go_wp2_with fail;refine (pC a n c m L hG (hiW.af hb1) hR (by omega) (by rw [<- Hlen.out];omega)).mono ?_;rintro e w2 ⟨a2,ap,cp,rfl,hM2,hp2,hb2⟩;have hbw2:=LY hbw1 hb2;obtain ⟨r1,r2,r3,r4,r5,r6⟩:=Hq.out w2 (LY hb1 hb2);have hF : su P M mod m L w (.returned (.tuple #[.agg #[.int .i64 m,.slice a2 (bh (ah P M.toNat mod) L m).length (bh (ah P M.toNat mod) L m).length],.slice ap (bh (ah P M.toNat mod) L m).length cp,.int .i64 0])) ((w2.setCell ⟨w.heap.size+1+1,0,none⟩ (.int .i64 m)).setCell ⟨w.heap.size+1+1,1,none⟩ (.slice a2 (bh (ah P M.toNat mod) L m).length (bh (ah P M.toNat mod) L m).length)):=by
   have hs:=HsW.out;have hs1:=hb1.size;refine ⟨(hbw2.setCell (by simp;omega) _).setCell (by simp;omega) _,.inr ⟨HB.out,m,rfl,a2,ap,cp,rfl,?_,?_⟩⟩
   ·exact ((hM2.setCell (p:=⟨w.heap.size+1+1,0,none⟩) (by simp;omega) _).setCell (p:=⟨w.heap.size+1+1,1,none⟩) (by simp;omega) _).mono (by omega)
   ·exact ((hp2.setCell (p:=⟨w.heap.size+1+1,0,none⟩) (by simp;omega) _).setCell (p:=⟨w.heap.size+1+1,1,none⟩) (by simp;omega) _).mono (by omega)
  have HF:=Z5 hF;clear hF hM2 hp2;generalize (bh (ah P M.toNat mod) L m).length=k at *;go_wp2_with fail;exact bodyPost_ret (v:=.tuple #[.agg #[.int .i64 m,.slice a2 k k],.slice ap k cp,.int .i64 0]) (by simp [results,results118,go_sem,r3,r4]) rfl HF.out
theorem lf (P M : Int) (am : OA) (mn cm : Nat) (mod : LI) (cols : Int) (a : OA) (n c : Nat) (L : Ll) (w : World) (hmod : Ints w am mn mod) (hi : bC w a n L) :
  Calls prog 118 #[.agg #[.int .i64 P,.int .i64 M,.slice am mn cm],.agg #[.int .i64 cols,.slice a n c]] w (Cz P M mod cols L w) :=
 (gY P M am mn cm mod cols a n c L w hmod hi).mono λ_ _ ⟨hb,h⟩=>⟨hb,h.imp id λ⟨h0,m,h1,a1,ap,cp,h2⟩=>⟨h0,m,h1,a1,_,ap,cp,h2⟩⟩
section
theorem nU {l l' : LI} {k : Nat} (h : l.take k=l'.take k) (h1 : k<l.length) (h2 : k<l'.length) (he : nth l k=nth l' k) : l.take (k+1)=l'.take (k+1):=by rw [Hj h1,Hj h2,h,<- aj h1,<- aj h2,he]
theorem mM {l l' : Ll} {k : Nat} (h : l.take k=l'.take k) (h1 : k<l.length) (h2 : k<l'.length) (he : ai l k=ai l' k) : l.take (k+1)=l'.take (k+1):=by rw [Hj h1,Hj h2,h,<- aD h1,<- aD h2,he]
variable {w : World}
theorem Bh (a : OA) (n c : Nat) (l : LI) (a' : OA) (n' c' : Nat) (l' : LI) (h : Ints w a n l) (h' : Ints w a' n' l') :
  Calls prog 240 #[.slice a n c,.slice a' n' c'] w (fR w (decide (l=l'))):=by
 have Hl:=Z5 h.len;have Hl':=Z5 h'.len;have hpl:=h.pl;have hpl':=h'.pl;have hmax:=h.max;unfold maxLen at hmax;by_cases hn : n=n'
 ·subst hn;have hnn : ((n : Int) != n)=false:=by simp
  go_enter func240,ntmps240;go_wp2_with fail;go_loopw [13] (λiv wr=>∃k : Nat,k<=n/\iv = .int .i64 k/\Hid (l.take k=l'.take k)/\aY w wr) (λi _=>n - (intOf i).toNat);case atStart=>exact ⟨0,G0 _,rfl,rfl,L7 _⟩
  case round =>
   obtain ⟨k,hk,rfl,htk,hd⟩:=hrel
   by_cases hlt : k<n
   ·have c1:=(h.drawn hd).cell k hlt
    have c2:=(h'.drawn hd).cell k hlt
    by_cases he : nth l k=nth l' k
    ·have he' : (nth l k != nth l' k)=false:=by simpa using he
     have Hs : Hid (l.take (k+1)=l'.take (k+1)):=nU htk.out (by rw [Hl.out];exact hlt) (by rw [Hl'.out];exact hlt) he
     clear he
     go_wp2_with fail
     go_quiet (fail)
     go_wp2
     go_roundw
     case rel=>exact ⟨k+1,by omega,by go_num,Hs.out,hd.drewN _⟩
     case measure=>simp [intOf] <;> omega
    ·have he' : (nth l k != nth l' k)=true:=by simpa using he
     have Hs : Hid (decide (l=l')=false):=by show _=_;simp;intro e;exact he (by rw [e])
     clear he
     go_wp2_with fail
     go_quiet (fail)
     go_wp2
     go_ret
     exact ⟨aR Hs.out.symm,hd.drewN _⟩
   ·obtain rfl : k=n:=by omega
    have Hs : Hid (decide (l=l')=true):=by show _=_;have:=htk.out;rw [H6 (by rw [Hl.out];exact GQ _),H6 (by rw [Hl'.out];exact GQ _)] at this;simpa using this
    go_wp2_with fail
    go_ret
    exact ⟨aR Hs.out.symm,hd⟩
 ·have hnn : ((n : Int) != n')=true:=by simp;omega
  have Hs : Hid (decide (l=l')=false):=by show _=_;simp;intro e;have e1:=Hl.out;have e2:=Hl'.out;rw [e] at e1;omega
  clear hn;go_enter func240,ntmps240;go_wp2_with fail;go_ret;exact ⟨aR Hs.out.symm,L7 _⟩
theorem rj (a : OA) (n c : Nat) (l : Ll) (a' : OA) (n' c' : Nat) (l' : Ll) (h : bC w a n l) (h' : bC w a' n' l') :
  Calls prog 239 #[.slice a n c,.slice a' n' c',.func (.func 240) #[] #[]] w (fR w (decide (l=l'))):=by
 have Hl:=Z5 h.len;have Hl':=Z5 h'.len;have hpl:=h.pl;have hpl':=h'.pl;have hmax:=h.max;unfold maxLen at hmax;by_cases hn : n=n'
 ·subst hn;have hnn : ((n : Int) != n)=false:=by simp
  go_enter func239,ntmps239;go_wp2_with fail;go_loopw [17] (λiv wr=>∃k : Nat,k<=n/\iv = .int .i64 k/\Hid (l.take k=l'.take k)/\aY w wr) (λi _=>n - (intOf i).toNat);case atStart=>exact ⟨0,G0 _,rfl,rfl,L7 _⟩
  case round =>
   obtain ⟨k,hk,rfl,htk,hd⟩:=hrel
   by_cases hlt : k<n
   ·obtain ⟨b1,n1,d1,c1,i1⟩:=(h.drawn hd).cell k hlt
    obtain ⟨b2,n2,d2,c2,i2⟩:=(h'.drawn hd).cell k hlt
    go_wp2_with fail
    refine (Bh _ _ _ _ _ _ _ _ i1 i2).mono ?_
    rintro e w2 ⟨rfl,hd2⟩
    by_cases he : ai l k=ai l' k
    ·have he' : decide (ai l k=ai l' k)=true:=by simpa using he
     have Hs : Hid (l.take (k+1)=l'.take (k+1)):=mM htk.out (by rw [Hl.out];exact hlt) (by rw [Hl'.out];exact hlt) he
     rw [he']
     clear he he'
     go_wp2_with fail
     go_roundw
     case rel=>exact ⟨k+1,by omega,by go_num,Hs.out,hd.trans hd2⟩
     case measure=>simp [intOf] <;> omega
    ·have he' : decide (ai l k=ai l' k)=false:=by simpa using he
     have Hs : Hid (decide (l=l')=false):=by show _=_;simp;intro e;exact he (by rw [e])
     rw [he']
     clear he he'
     go_wp2_with fail
     go_ret
     exact ⟨aR Hs.out.symm,hd.trans hd2⟩
   ·obtain rfl : k=n:=by omega
    have Hs : Hid (decide (l=l')=true):=by show _=_;have:=htk.out;rw [H6 (by rw [Hl.out];exact GQ _),H6 (by rw [Hl'.out];exact GQ _)] at this;simpa using this
    go_wp2_with fail
    go_ret
    exact ⟨aR Hs.out.symm,hd⟩
 ·have hnn : ((n : Int) != n')=true:=by simp;omega
  have Hs : Hid (decide (l=l')=false):=by show _=_;simp;intro e;have e1:=Hl.out;have e2:=Hl'.out;rw [e] at e1;omega
  clear hn;go_enter func239,ntmps239;go_wp2_with fail;go_ret;exact ⟨aR Hs.out.symm,L7 _⟩
end
def db (P M : Int) (mod : LI) (cols : Int) (L : Ll) : Int :=
 if dk P M mod cols L=0 then (if bL (ah P M.toNat mod) L cols.toNat=L then 0 else 5) else dk P M mod cols L
def r9 (P M : Int) (mod : LI) (cols : Int) (a : OA) (n c : Nat) (L : Ll) (w : World) (e : Ending) (w' : World) : Prop :=
 Mv w w'/\(
 (db P M mod cols L ≠ 0/\e = .returned (.tuple #[.agg #[.pointer none,.int .i64 0,.slice none 0 0,.slice none 0 0],.int .i64 (db P M mod cols L)])) \/
 (db P M mod cols L=0/\∃(m b : Nat),cols=m/\∃ap cp,e = .returned (.tuple #[.agg #[.pointer (some ⟨b,0,none⟩),.int .i64 m,.slice a n c,.slice ap (bh (ah P M.toNat mod) L m).length cp],.int .i64 0]) /\
  vY w.heap.size w' b (ah P M.toNat mod)/\w.heap.size<=b/\bA w.heap.size w' ap (bh (ah P M.toNat mod) L m).length (bh (ah P M.toNat mod) L m)))
theorem iY (P M : Int) (am : OA) (mn cm : Nat) (mod : LI) (cols : Int) (a : OA) (n c : Nat) (L : Ll) (w : World) (hmod : Ints w am mn mod) (hi : bC w a n L) :
  Calls prog 190 #[.agg #[.int .i64 P,.int .i64 M,.slice am mn cm],.agg #[.int .i64 cols,.slice a n c]] w (r9 P M mod cols a n c L w):=by
 have Hlen:=Z5 hi.len;go_enter func190,ntmps190;go_wp2_with fail;obtain ⟨W,hW⟩ : ∃W : World,W=(((w.alloc (.cells #[.int .i64 P,.int .i64 M,.slice am mn cm] 24)).alloc (.cells #[.int .i64 cols,.slice a n c] 94)).alloc (.cells #[.pointer none,.int .i64 0,.slice none 0 0,.slice none 0 0] 210)):=⟨_,rfl⟩
 rw [<- hW];have hbW : Mv w W:=by rw [hW];exact jI _ _ _ _
 have hsW : W.heap.size=w.heap.size+3:=by rw [hW];simp
 have x0 : aO W w.heap.size [.int .i64 P,.int .i64 M,.slice am mn cm]:=by rw [hW];exact ((LZ _ _ _ rfl).alloc _).alloc _
 have x1 : aO W (w.heap.size+1) [.int .i64 cols,.slice a n c]:=by rw [hW];exact (LZ _ _ _ (by simp)).alloc _
 have x2 : aO W (w.heap.size+1+1) [.pointer none,.int .i64 0,.slice none 0 0,.slice none 0 0]:=by rw [hW];exact LZ _ _ _ (by simp)
 have HX:=Z5 (Hi x0 (Hi x1 x2));have HsW:=Z5 hsW;have hiW:=hi.af hbW;have hmW:=hmod.af hbW;clear hW hsW x0 x1 x2;refine (lf P M am mn cm mod cols a n c L W hmW hiW).mono ?_;rintro e w1 ⟨hb1,⟨he,rfl⟩ | ⟨he,m,rfl,a2,c2,ap,cp,rfl,hM2,hp2⟩⟩
 ·have hbw1:=LY hbW hb1;have HB : Hid (db P M mod cols L=dk P M mod cols L):=by show _=_;rw [db,GU he]
  have HE:=Z5 he;have he' : (dk P M mod cols L != 0)=true:=by simpa using he
  clear he;generalize dk P M mod cols L=er at *;have x2:=HX.out.2.2.af hb1;have f0:=x2.frozen 0;have f1:=x2.frozen 1;have f2:=x2.frozen 2;have f3:=x2.frozen 3;have k0:=x2.cell 0 rfl;have k1:=x2.cell 1 rfl;have k2:=x2.cell 2 rfl;have k3:=x2.cell 3 rfl;clear x2;have hz : w.heap.size+1+1<w1.heap.size:=by have:=hb1.size;have:=HsW.out;omega
  go_wp2_with fail;exact bodyPost_ret (v:=.tuple #[.agg #[.pointer none,.int .i64 0,.slice none 0 0,.slice none 0 0],.int .i64 er]) (by simp [results,results190,go_sem,k0,k1,k2,k3,hz]) rfl
   ⟨(((((hbw1.setCell (by simp;omega) _).setCell (by simp;omega) _).setCell (by simp;omega) _).setCell (by simp;omega) _).alloc (by simp;omega) _),.inl ⟨by rw [HB.out];exact HE.out,by rw [HB.out]⟩⟩
 ·have hbw1:=LY hbW hb1;have hb2 : Mv w1 (w1.alloc (.cells #[.int .i64 m,.slice a2 (bh (ah P M.toNat mod) L m).length c2] 94)):=an _ _;have hz : w.heap.size+1+1<w1.heap.size:=by have:=hb1.size;have:=HsW.out;omega
  have x1:=HX.out.2.1.af hb1;have j0:=x1.cell 0 rfl;have j1:=x1.cell 1 rfl;have He:=Z5 he;have hz1 : w.heap.size+1<w1.heap.size:=by omega
  clear x1 he;go_wp2_with fail;refine (rj _ _ _ _ _ _ _ _ (hM2.jX.af hb2) ((hiW.af hb1).af hb2)).mono ?_;rintro e w3 ⟨rfl,hd3⟩;have hb3 : Mv w1 w3:=LY hb2 hd3.below;have hbw3:=LY hbw1 hb3;have hz3 : w.heap.size+1+1<w3.heap.size:=It hz hb3.size;have x0:=(HX.out.1.af hb1).af hb3;have x1:=(HX.out.2.1.af hb1).af hb3;have x2:=(HX.out.2.2.af hb1).af hb3;by_cases hc : bL (ah P M.toNat mod) L m=L
  ·have hc' : decide (bL (ah P M.toNat mod) L m=L)=true:=by simpa using hc
   have HB : Hid (db P M mod m L=0):=by show _=_;rw [db,GV He.out,GW,GV hc]
   rw [hc'];have hmW3:=(hmW.af hb1).af hb3;have i0:=x0.cell 0 rfl;have i1:=x0.cell 1 rfl;have i2:=x0.cell 2 rfl;have hfb : ba P M mod=true:=by
    have:=He.out;unfold dk at this;split at this
    ·assumption
    ·omega
   have Hfb:=Z5 hfb;clear hc hc' x0 x1 hfb;go_wp2_with fail;refine (dn P M am mn cm mod w3 hmW3).mono ?_;rintro e w4 (⟨hB,rfl,hb4⟩ | ⟨hB,b,rfl,hG,hbl,hb4⟩)
   ·rw [Hfb.out] at hB;cases hB
   ·clear hB;have hbw4:=LY hbw3 hb4;have x1:=((HX.out.2.1.af hb1).af hb3).af hb4;have x2:=((HX.out.2.2.af hb1).af hb3).af hb4;have j0:=x1.cell 0 rfl;have j1:=x1.cell 1 rfl;have f0:=x2.frozen 0;have f1:=x2.frozen 1;have f2:=x2.frozen 2;have f3:=x2.frozen 3;have k0:=x2.cell 0 rfl;have k1:=x2.cell 1 rfl;have k2:=x2.cell 2 rfl;have k3:=x2.cell 3 rfl;have hp4:=(hp2.af hb3).af hb4;have hF : r9 P M mod m a n c L w (.returned (.tuple #[.agg #[.pointer (some ⟨b,0,none⟩),.int .i64 m,.slice a n c,.slice ap (bh (ah P M.toNat mod) L m).length cp],.int .i64 0]))
      ((((w4.setCell ⟨w.heap.size+1+1,0,none⟩ (.pointer (some ⟨b,0,none⟩))).setCell ⟨w.heap.size+1+1,1,none⟩ (.int .i64 m)).setCell ⟨w.heap.size+1+1,2,none⟩ (.slice a n c)).setCell ⟨w.heap.size+1+1,3,none⟩ (.slice ap (bh (ah P M.toNat mod) L m).length cp)):=by
     have hs:=HsW.out;have hs3:=hb3.size;refine ⟨(((hbw4.setCell (by simp;omega) _).setCell (by simp;omega) _).setCell (by simp;omega) _).setCell (by simp;omega) _,.inr ⟨HB.out,m,b,rfl,ap,cp,rfl,?_,?_,?_⟩⟩
     ·exact ((((hG.setCell (by simp;omega) _).setCell (by simp;omega) _).setCell (by simp;omega) _).setCell (by simp;omega) _).mono (by omega)
     ·omega
     ·exact ((((hp4.setCell (by simp;omega) _).setCell (by simp;omega) _).setCell (by simp;omega) _).setCell (by simp;omega) _).mono (by omega)
    have HF:=Z5 hF;clear hF hp4 hp2 x1 x2;generalize (bh (ah P M.toNat mod) L m).length=k at *;go_wp2_with fail;exact bodyPost_ret (v:=.tuple #[.agg #[.pointer (some ⟨b,0,none⟩),.int .i64 m,.slice a n c,.slice ap k cp],.int .i64 0]) (by simp [results,results190,go_sem,k0,k1,k2,k3]) rfl HF.out
  ·have hc' : decide (bL (ah P M.toNat mod) L m=L)=false:=by simpa using hc
   have HB : Hid (db P M mod m L=5):=by show _=_;rw [db,GV He.out,GW,GU hc]
   rw [hc'];have f0:=x2.frozen 0;have f1:=x2.frozen 1;have f2:=x2.frozen 2;have f3:=x2.frozen 3;have k0:=x2.cell 0 rfl;have k1:=x2.cell 1 rfl;have k2:=x2.cell 2 rfl;have k3:=x2.cell 3 rfl;clear hc hc' x0 x1 x2;go_wp2_with fail;exact bodyPost_ret (v:=.tuple #[.agg #[.pointer none,.int .i64 0,.slice none 0 0,.slice none 0 0],.int .i64 5]) (by simp [results,results190,go_sem,k0,k1,k2,k3]) rfl
    ⟨(((hbw3.setCell (by simp;omega) _).setCell (by simp;omega) _).setCell (by simp;omega) _).setCell (by simp;omega) _,.inl ⟨by rw [HB.out];omega,by rw [HB.out]⟩⟩
theorem py (P M : Int) (am : OA) (mn cm : Nat) (mod : LI) (cols : Int) (a : OA) (n c : Nat) (L : Ll) (w : World) (hmod : Ints w am mn mod) (hi : bC w a n L) :
  Calls prog 143 #[.agg #[.int .i64 P,.int .i64 M,.slice am mn cm],.agg #[.int .i64 cols,.slice a n c]] w λe w'=>e = .returned (.int .i64 (db P M mod cols L))/\Mv w w':=by
 have Hal:=Z5 (du w (.cells #[.int .i64 P,.int .i64 M,.slice am mn cm] 24) (.cells #[.int .i64 cols,.slice a n c] 94));go_enter func143,ntmps143;go_wp2_with fail;have hb:=Hal.out;generalize (w.alloc (.cells #[.int .i64 P,.int .i64 M,.slice am mn cm] 24)).alloc (.cells #[.int .i64 cols,.slice a n c] 94)=W at *;refine (iY P M am mn cm mod cols a n c L W (hmod.af hb) (hi.af hb)).mono ?_;rintro e w1 ⟨hb1,⟨he,rfl⟩ | ⟨he,m,b,rfl,ap,cp,rfl,hG,hbl,hp⟩⟩
 ·have hbw:=LY hb hb1;clear he;go_wp2_with fail;go_ret;exact ⟨rfl,hbw.alloc hbw.size _⟩
 ·have hbw:=LY hb hb1;have He:=Z5 he;clear he hp;generalize (bh (ah P M.toNat mod) L m).length=k at *;go_wp2_with fail;go_ret;exact ⟨aK He.out.symm,hbw.alloc hbw.size _⟩
theorem mL (P M : Int) (am : OA) (mn cm : Nat) (N : Int) (a : OA) (n c : Nat) (w : World) :
  Calls prog 91 #[.agg #[.int .i64 P,.int .i64 M,.slice am mn cm,.int .i64 N,.slice a n c]] w λe w'=>e = .returned (.agg #[.int .i64 N,.slice a n c])/\Mv w w':=by go_enter func91,ntmps91;go_wp2_with fail;exact bodyPost_ret (v:=.agg #[.int .i64 N,.slice a n c]) (by simp [results,results91,go_sem]) rfl ⟨rfl,du _ _ _⟩
def gK (n : Int) : Int:=if n<1\/64<n then 4 else 0
theorem pr (n : Int) (w : World) : Calls prog 119 #[.int .i64 n] w λe w'=>e = .returned (.int .i64 (gK n))/\w=w':=by
 by_cases h1 : n<1
 ·have Hf : Hid (gK n=4):=by show _=_;rw [gK,GV (.inl h1)]
  go_enter func119,ntmps119;go_wp2;go_ret;exact ⟨aK Hf.out.symm,rfl⟩
 ·have h1' : decide (n<1)=false:=by simpa using h1
  by_cases h2 : 64<n
  ·have Hf : Hid (gK n=4):=by show _=_;rw [gK,GV (.inr h2)]
   go_enter func119,ntmps119;go_wp2;go_ret;exact ⟨aK Hf.out.symm,rfl⟩
  ·have Hf : Hid (gK n=0):=by show _=_;rw [gK,GU (by omega)]
   have h2' : decide (64<n)=false:=by simpa using h2
   go_enter func119,ntmps119;go_wp2;go_ret;exact ⟨aK Hf.out.symm,rfl⟩
def aG (P M : Int) (mod : LI) (N : Int) (L : Ll) : Int :=
 if ba P M mod=true then (if gK N=0 then db P M mod N L else 4) else 1
theorem b8 (P M : Int) (am : OA) (mn cm : Nat) (mod : LI) (N : Int) (a : OA) (n c : Nat) (L : Ll) (w : World) (hmod : Ints w am mn mod) (hi : bC w a n L) :
  Calls prog 88 #[.agg #[.int .i64 P,.int .i64 M,.slice am mn cm,.int .i64 N,.slice a n c]] w λe w'=>e = .returned (.int .i64 (aG P M mod N L))/\Mv w w':=by
 go_enter func88,ntmps88;go_wp2_with fail;obtain ⟨W,hW⟩ : ∃W : World,W=w.alloc (.cells #[.int .i64 P,.int .i64 M,.slice am mn cm,.int .i64 N,.slice a n c] 27):=⟨_,rfl⟩
 rw [<- hW];have hbW : Mv w W:=by rw [hW];exact an _ _
 have x0 : aO W w.heap.size [.int .i64 P,.int .i64 M,.slice am mn cm,.int .i64 N,.slice a n c]:=by rw [hW];exact LZ _ _ _ rfl
 have HX:=Z5 x0;clear hW x0;refine (qq P M am mn cm mod W (hmod.af hbW)).mono ?_;rintro e w1 ⟨rfl,hb1⟩;have hbw1:=LY hbW hb1;by_cases hB : ba P M mod=true
 ·have hE : bT (ba P M mod)=0:=by rw [hB];rfl
  rw [hE];have HB : Hid (aG P M mod N L=if gK N=0 then db P M mod N L else 4):=by show _=_;rw [aG,GV hB]
  have x1:=HX.out.af hb1;have c3:=x1.cell 3 rfl;clear hE hB x1;go_wp2_with fail;refine (pr N w1).mono ?_;rintro e w2 ⟨rfl,rfl⟩;by_cases hl : gK N=0
  ·have HB2 : Hid (aG P M mod N L=db P M mod N L):=by show _=_;rw [HB.out,GV hl]
   rw [hl];clear hl;go_wp2_with fail;have hS : ∀V,Mv w1 V->V.cell? ⟨w.heap.size,0,none⟩=some (.int .i64 P)/\V.cell? ⟨w.heap.size,1,none⟩=some (.int .i64 M)/\V.cell? ⟨w.heap.size,2,none⟩=some (.slice am mn cm)/\V.cell? ⟨w.heap.size,3,none⟩=some (.int .i64 N)/\V.cell? ⟨w.heap.size,4,none⟩=some (.slice a n c)/\Ints V am mn mod/\bC V a n L/\Mv w1 V:=by intro V hV;have x1:=(HX.out.af hb1).af hV;exact ⟨x1.cell 0 rfl,x1.cell 1 rfl,x1.cell 2 rfl,x1.cell 3 rfl,x1.cell 4 rfl,((hmod.af hbW).af hb1).af hV,((hi.af hbW).af hb1).af hV,hV⟩
   have HS:=Z5 hS;clear hS c3;go_region_held3 (λV=>V.cell? ⟨w.heap.size,0,none⟩=some (.int .i64 P)/\V.cell? ⟨w.heap.size,1,none⟩=some (.int .i64 M)/\V.cell? ⟨w.heap.size,2,none⟩=some (.slice am mn cm)/\V.cell? ⟨w.heap.size,3,none⟩=some (.int .i64 N)/\V.cell? ⟨w.heap.size,4,none⟩=some (.slice a n c)/\Ints V am mn mod/\bC V a n L/\Mv w1 V)
    ((refine HS.out _ ?_;first | exact (GS _ _).drew | (go_split_ands;exact LY (by assumption) (by assumption))))
    (first
     | (go_at_call 91;((with_reducible refine (mL P M am mn cm N a n c _).mono ?_);rintro e w4 ⟨rfl,hb4⟩))
     | (go_at_call 143;((with_reducible refine (py P M am mn cm mod N a n c L _ (by go_split_ands;assumption) (by go_split_ands;assumption)).mono ?_);rintro e w5 ⟨rfl,hb5⟩)))
   go_wp2_with fail;go_ret;exact ⟨aK HB2.out.symm,LY hbw1 (by go_split_ands;assumption)⟩
  ·have HB2 : Hid (aG P M mod N L=4):=by show _=_;rw [HB.out,GU hl]
   have hl4 : gK N=4:=by unfold gK at hl ⊢;split <;> simp_all
   rw [hl4];clear hl hl4;go_wp2_with fail;go_ret;exact ⟨aK HB2.out.symm,hbw1⟩
 ·have hE : bT (ba P M mod)=1:=by
   have : ba P M mod=false:=by simpa using hB
   rw [this];rfl
  rw [hE];have HB : Hid (aG P M mod N L=1):=by show _=_;rw [aG,GU hB]
  clear hE hB;go_wp2_with fail;go_ret;exact ⟨aK HB.out.symm,hbw1⟩
theorem aQ {P M : Int} {mod : LI} {N : Int} {L : Ll} (h : aG P M mod N L=0) : ba P M mod=true/\1<=N/\N<=64/\db P M mod N L=0:=by
 unfold aG at h;split at h
 ·rename_i h1;split at h
  ·rename_i h2;unfold gK at h2;split at h2
   ·omega
   ·exact ⟨h1,by omega,by omega,h⟩
  ·omega
 ·omega
theorem fA {P M : Int} {mod : LI} {N : Int} {L : Ll} (h : db P M mod N L=0) : dk P M mod N L=0/\bL (ah P M.toNat mod) L N.toNat=L:=by
 unfold db at h;split at h
 ·rename_i h1;split at h
  ·rename_i h2;exact ⟨h1,h2⟩
  ·omega
 ·rename_i h1;exact absurd h h1
theorem lI {P M : Int} {mod : LI} {N : Int} {L : Ll} (h : dk P M mod N L=0) : ba P M mod=true/\eU (ah P M.toNat mod).q N L=0:=by
 unfold dk at h;split at h
 ·rename_i h1;exact ⟨h1,h⟩
 ·omega
def oI (N : Int) (l : LI) (k : Nat) : Bool:=decide (0<=nth l k) && decide (nth l k<N) && (k == 0 || decide (nth l (k - 1)<nth l k))
def uY (N : Int) (l : LI) (k : Nat) : Bool:=(List.range k).all (oI N l)
def jR (N : Int) (l : LI) : Bool:=uY N l l.length
theorem rO {N : Int} {l : LI} {k : Nat} (h : uY N l k=true) (hk : oI N l k=true) : uY N l (k+1)=true:=by unfold uY at *;rw [I7,Kl,h];simp [hk]
theorem Eg {N : Int} {l : LI} {k n : Nat} (hk : k<n) (h : oI N l k=false) : uY N l n=false:=by unfold uY;rw [Jy];exact ⟨k,List.mem_range.2 hk,by simp [h]⟩
theorem jm {N : Int} {l : LI} (h : jR N l=true) {k : Nat} (hk : k<l.length) : 0<=nth l k/\nth l k<N/\(0<k->nth l (k - 1)<nth l k):=by unfold jR uY at h;rw [IG] at h;have:=h k (List.mem_range.2 hk);unfold oI at this;simp only [Ib,Kj,Iy,beq_iff_eq] at this;exact ⟨this.1.1,this.1.2,λh0=>by rcases this.2 with h1 | h1;omega;exact h1⟩
def bF (L : Ll) (i : Nat) : LI:=L.map λr=>nth r i
theorem dZ (L : Ll) (i : Nat) : (bF L i).length=L.length:=by simp [bF]
theorem dH (L : Ll) (i k : Nat) (hk : k<L.length) : nth (bF L i) k=nth (ai L k) i:=by rw [aj (by rw [dZ];exact hk),aD hk];simp [bF]
def fnz : LI->Nat
 | []=>0
 | x :: l=>if x=0 then fnz l+1 else 0
theorem C8 : ∀l,fnz l<=l.length
 | []=>GQ _
 | x :: l=>by have:=C8 l;unfold fnz;split <;> simp <;> omega
theorem Dv : ∀(l : LI) (k : Nat),k<l.length->(∀j,j<k->nth l j=0)->nth l k ≠ 0->fnz l=k
 | [],k,h,_,_=>by simp at h
 | x :: l,0,_,_,h=>by unfold fnz;rw [GU (by simpa [nth] using h)]
 | x :: l,k+1,h,h0,h1=>by
  have hx : x=0:=by simpa [nth] using h0 0 (by omega)
  unfold fnz;rw [GV hx,Dv l k (by simpa using h) (λj hj=>by simpa [nth] using h0 (j+1) (by omega)) (by simpa [nth] using h1)]
theorem xa : ∀(l : LI),(∀j,j<l.length->nth l j=0)->fnz l=l.length
 | [],_=>rfl
 | x :: l,h=>by
  have hx : x=0:=by simpa [nth] using h 0 (by simp)
  unfold fnz;rw [GV hx,xa l (λj hj=>by simpa [nth] using h (j+1) (by simpa using hj))];rfl
theorem lE : ∀(l : LI),fnz l<l.length->nth l (fnz l) ≠ 0
 | [],h=>by simp at h
 | x :: l,h=>by
  unfold fnz at h ⊢;split
  ·rename_i hx;rw [GV hx] at h;have:=lE l (by simpa using h);simpa [nth] using this
  ·rename_i hx;simpa [nth] using hx
theorem wO : ∀(l : LI) (j : Nat),j<fnz l->nth l j=0
 | [],j,h=>by simp [fnz] at h
 | x :: l,j,h=>by
  unfold fnz at h;split at h
  ·rename_i hx;match j with
   | 0=>simpa [nth] using hx
   | j+1=>have:=wO l j (by omega);simpa [nth] using this
  ·omega
def uv (l : LI) : Int:=if fnz l<l.length then fnz l else -1
section
def dA (O : aM) (v : LI) (x : Int) (r : LI) : LI:=List.zipWith (λp y=>O.add p (O.neg (O.mul x y))) v r
theorem eD (O : aM) (v : LI) (x : Int) (r : LI) (h : r.length=v.length) : (dA O v x r).length=v.length:=by simp [dA,h]
theorem ek (O : aM) (v : LI) (x : Int) (r : LI) (i : Nat) (h : r.length=v.length) (hi : i<v.length) : nth (dA O v x r) i=O.add (nth v i) (O.neg (O.mul x (nth r i))):=by rw [aj (show i<(dA O v x r).length by rw [eD _ _ _ _ h];exact hi),aj (show i<r.length by omega),aj hi];simp [dA]
def dQ (O : aM) (u : LI) (p : Int) (r : LI) : LI:=if nth u p.toNat=0 then u else dA O u (nth u p.toNat) r
def redTo (O : aM) (L : Ll) (Q : LI) (v : LI) : Nat->LI
 | 0=>v
 | k+1=>dQ O (redTo O L Q v k) (nth Q k) (ai L k)
structure BS where
 rows : Ll
 place : LI
def BS.red (O : aM) (s : BS) (v : LI) : LI:=redTo O s.rows s.place v s.rows.length
def BS.fI (O : aM) (s : BS) (v : LI) : Bool:=decide (fnz (s.red O v)<(s.red O v).length)
def BS.next (O : aM) (s : BS) (v : LI) : BS :=
 if s.fI O v=true then ⟨s.rows ++ [(s.red O v).map (O.mul (O.inv (nth (s.red O v) (fnz (s.red O v)))))],s.place ++ [(fnz (s.red O v) : Int)]⟩ else s
structure BS.Ok (El : Int->Prop) (n : Nat) (s : BS) : Prop where
 rws : bG El n s.rows
 len : s.place.length=s.rows.length
 plc : ∀i,i<s.rows.length->0<=nth s.place i/\nth s.place i<n
theorem sD {O : aM} {El : Int->Prop} (hO : oF O El) {v r : LI} {x : Int} (hv : ∀y ∈ v,El y) (hr : ∀y ∈ r,El y) (hx : El x) : ∀y ∈ dA O v x r,El y:=by intro y hy;unfold dA at hy;rw [Ki] at hy;obtain ⟨i,hi,rfl⟩:=hy;rw [JT];exact hO.add _ _ (hv _ (Iw _)) (hO.neg _ (hO.mul _ _ hx (hr _ (Iw _))))
theorem ku {O : aM} {El : Int->Prop} (hO : oF O El) {n : Nat} {L : Ll} {Q v : LI} (hL : bG El n L) (hQ : ∀i,i<L.length->0<=nth Q i/\nth Q i<n)
  (hv : v.length=n/\∀y ∈ v,El y) : ∀k,k<=L.length->(redTo O L Q v k).length=n/\∀y ∈ redTo O L Q v k,El y
 | 0,_=>hv
 | k+1,hk=>by
  have ih:=ku hO hL hQ hv k (by omega);have hr:=hL.row (i:=k) (by omega);have hq:=hQ k (by omega);rw [redTo,dQ];split
  ·exact ih
  ·exact ⟨by rw [eD _ _ _ _ (by omega)];exact ih.1,sD hO ih.2 hr.2 (ih.2 _ (aH (by omega)))⟩
theorem BS.Ok.next {O : aM} {El : Int->Prop} (hO : oF O El) {n : Nat} {s : BS} (h : s.Ok El n) {v : LI} (hv : v.length=n/\∀y ∈ v,El y) : (s.next O v).Ok El n:=by
 unfold BS.next;split
 ·rename_i ht;have hu:=ku hO h.rws h.plc hv s.rows.length (GQ _);have hf : fnz (s.red O v)<(s.red O v).length:=by simpa [BS.fI] using ht
  have hne:=lE _ hf;have hul : (s.red O v).length=n:=hu.1;have hue : ∀y ∈ s.red O v,El y:=hu.2;refine ⟨λr hr=>?_,by simp [h.len],λi hi=>?_⟩
  ·rcases List.mem_append.1 hr with h1 | h1
   ·exact h.rws r h1
   ·rw [List.mem_singleton.1 h1];refine ⟨by rw [H8];exact hul,λy hy=>?_⟩;obtain ⟨z,hz,rfl⟩:=List.mem_map.1 hy;exact hO.mul _ _ (hO.inv _ (hue _ (aH hf)) hne) (hue z hz)
  ·simp only [H5,Ij] at hi;by_cases h1 : i<s.rows.length
   ·have:=h.plc i h1;have e : nth (s.place ++ [(fnz (s.red O v) : Int)]) i=nth s.place i:=by simp only [nth,GY];rw [Ie (by rw [h.len];exact h1)]
    rw [e];exact this
   ·obtain rfl : i=s.rows.length:=by omega
    have e : nth (s.place ++ [(fnz (s.red O v) : Int)]) s.rows.length=fnz (s.red O v):=by simp only [nth,GY];rw [<- h.len];simp
    rw [e];omega
 ·exact h
structure pZ (w : World) (B bb b : Nat) (ar : OA) (cr : Nat) (R : LA) (ap : OA) (cp : Nat) (s : BS) : Prop where
 bB : B<=bb
 c0 : w.cell? ⟨bb,0,none⟩=some (.pointer (some ⟨b,0,none⟩))
 c1 : w.cell? ⟨bb,1,none⟩=some (.slice ar s.rows.length cr)
 c2 : w.cell? ⟨bb,2,none⟩=some (.slice ap s.rows.length cp)
 fr : ∀i,w.frozen? ⟨bb,i,none⟩=false
 om : aP w B ar s.rows.length cr R s.rows
 pl : w.ownsRow B 3 1 (.slice ap s.rows.length cp) s.rows.length (s.place.map (Value.int .i64))
 d1 : ¬ bI ar R bb
 d2 : eA ap bb
 d3 : ap ≠ none->¬ bI ar R (ablk ap)
def xw (bb : Nat) (ar : OA) (R : LA) (ap : OA) (x : Nat) : Prop:=x=bb\/bI ar R x\/(ap ≠ none/\x=ablk ap)
theorem uK {w w' : World} {B : Nat} {e : TypeId} {a : OA} {c n : Nat} {xs : List Value} (h : w.ownsRow B e 1 (.slice a n c) n xs) (hb : a ≠ none->w'.heap[ablk a]? = w.heap[ablk a]?) : w'.ownsRow B e 1 (.slice a n c) n xs:=by
 by_cases ha : a=none
 ·subst ha;refine ⟨h.1,?_⟩;rcases h.2 with h2 | ⟨g,cap,cur,hv,_⟩
  ·exact .inl h2
  ·cases hv
 ·exact eB h (hb ha)
namespace pZ
variable {w w' : World} {B bb b : Nat} {ar : OA} {cr : Nat} {R : LA} {ap : OA} {cp : Nat} {s : BS}
theorem lt (h : pZ w B bb b ar cr R ap cp s) (x : Nat) (hx : xw bb ar R ap x) : B<=x/\x<w.heap.size:=by
 rcases hx with rfl | hx | ⟨h1,rfl⟩
 ·exact ⟨h.bB,G8 w _ h.c0⟩
 ·exact h.om.lt x hx
 ·exact aS h.pl h1
theorem bq (h : pZ w B bb b ar cr R ap cp s) (hb : ∀x,xw bb ar R ap x->w'.heap[x]? = w.heap[x]?) : pZ w' B bb b ar cr R ap cp s:=by
 have hbb:=hb bb (.inl rfl);exact ⟨h.bB,(Ii (w:=w) (a:=⟨bb,0,none⟩) hbb).trans h.c0,(Ii (w:=w) (a:=⟨bb,1,none⟩) hbb).trans h.c1,(Ii (w:=w) (a:=⟨bb,2,none⟩) hbb).trans h.c2,
  λi=>(Ix (w:=w) (a:=⟨bb,i,none⟩) hbb).trans (h.fr i),h.om.bq λx hx=>hb x (.inr (.inl hx)),uK h.pl λha=>hb _ (.inr (.inr ⟨ha,rfl⟩)),h.d1,h.d2,h.d3⟩
theorem af (h : pZ w B bb b ar cr R ap cp s) (hb : Mv w w') : pZ w' B bb b ar cr R ap cp s:=h.bq λx hx=>hb.block x (h.lt x hx).2
theorem only (h : pZ w B bb b ar cr R ap cp s) {av : OA} (ho : bU av w w') (hav : av ≠ none->¬ xw bb ar R ap (ablk av)) : pZ w' B bb b ar cr R ap cp s :=
 h.bq λx hx=>ho.block x (h.lt x hx).2 λ⟨h1,h2⟩=>hav h1 (h2 ▸ hx)
end pZ
theorem aP.push {w w' : World} {B : Nat} {a : OA} {n c : Nat} {R : LA} {L : Ll} (h : aP w B a n c R L) {r : OA} {rc : Nat} {l : LI}
  (hr : w.ownsRow B 3 1 (.slice r l.length rc) l.length (l.map (Value.int .i64))) (hra : r ≠ none->¬ bI a R (ablk r))
  {a' : OA} {c' : Nat} (hown : w'.ownsRow B 22 1 (.slice a' (n+1) c') (n+1) (List.zipWith jn R L ++ [.slice r l.length rc])) (hg : w.grownBy w' (Value.slice a n c).ownBlock)
  (hap : ∀b,b<w.heap.size->eA a b->eA a' b) : aP w' B a' (n+1) c' (R ++ [(r,rc)]) (L ++ [l]):=by
 have hn' : a' ≠ none:=by
  intro e;have:=(Me hown)
  obtain ⟨x,y,hv,hp⟩:=this;cases hv
  have:=hp (by omega);rw [e] at this;cases this
 have nthL : ∀i,ai (L ++ [l]) i=if i<n then ai L i else if i=n then l else []:=by
  intro i;simp only [ai,GY];by_cases h1 : i<n
  ·rw [GV h1,Ie (by rw [h.ll];exact h1)]
  ·rw [GU h1];by_cases h2 : i=n
   ·subst h2;rw [GV rfl,<- h.ll];simp
   ·rw [GU h2,I0 (by simp [h.ll];omega)];rfl
 have nthAA : ∀i,aJ (R ++ [(r,rc)]) i=if i<n then aJ R i else if i=n then (r,rc) else (none,0):=by
  intro i;simp only [aJ,GY];by_cases h1 : i<n
  ·rw [GV h1,Ie (by rw [h.rl];exact h1)]
  ·rw [GU h1];by_cases h2 : i=n
   ·subst h2;rw [GV rfl,<- h.rl];simp
   ·rw [GU h2,I0 (by simp [h.rl];omega)];rfl
 have rowKeep : ∀ {x : OA} {cx m : Nat} {xs : List Value},w.ownsRow B 3 1 (.slice x m cx) m xs->(x ≠ none->eA a (ablk x))->w'.ownsRow B 3 1 (.slice x m cx) m xs:=by intro x cx m xs ho h2;exact uK ho λhx=>hg.block _ (aS ho hx).2 λe=>(h2 hx).own n c e.symm
 have rA : r ≠ none->eA a (ablk r):=λhr0=>by
  by_cases ha : a=none
  ·exact .inl ha
  ·exact .inr λe=>hra hr0 (.inl ⟨ha,e.symm⟩)
 have oA : ∀i,i<n->(aJ R i).1 ≠ none->eA a (ablk (aJ R i).1):=λi hi hx=>by
  rcases h.qT i hi with h2 | h2
  ·exact absurd h2 hx
  ·exact .inr λe=>h2 e.symm
 have toA : ∀ {x : OA} {cx m : Nat} {xs : List Value},w.ownsRow B 3 1 (.slice x m cx) m xs->(x ≠ none->eA a (ablk x))->eA x (ablk a'):=by
  intro x cx m xs ho h2;by_cases hx : x=none
  ·exact .inl hx
  ·rcases hap _ (aS ho hx).2 (h2 hx) with h3 | h3
   ·exact absurd h3 hn'
   ·exact .inr λe=>h3 e.symm
 have ezip : List.zipWith jn (R ++ [(r,rc)]) (L ++ [l])=List.zipWith jn R L ++ [.slice r l.length rc]:=by rw [List.zipWith_append (by rw [h.rl,h.ll])];rfl
 refine ⟨by simp [h.rl],by simp [h.ll],by rw [ezip];exact hown,λi hi=>?_,λi hi=>?_,λi j hi hj hij=>?_⟩
 ·rw [nthL,nthAA];by_cases h1 : i<n
  ·simp only [GV h1];exact rowKeep (h.row i h1) (oA i h1)
  ·obtain rfl : i=n:=by omega
   simp only [GU h1,if_true];exact rowKeep hr rA
 ·rw [nthAA];by_cases h1 : i<n
  ·simp only [GV h1];exact toA (h.row i h1) (oA i h1)
  ·obtain rfl : i=n:=by omega
   simp only [GU h1,if_true];exact toA hr rA
 ·rw [nthAA,nthAA];by_cases h1 : i<n
  ·by_cases h2 : j<n
   ·simp only [GV h1,GV h2];exact h.sep i j h1 h2 hij
   ·obtain rfl : j=n:=by omega
    simp only [GV h1,GU h2,if_true];by_cases hr0 : r=none
    ·exact .inr (.inl hr0)
    ·by_cases hx : (aJ R i).1=none
     ·exact .inl hx
     ·exact .inr (.inr λe=>hra hr0 (by rw [e];exact aP.jg (by rw [h.rl];exact h1) hx))
  ·obtain rfl : i=n:=by omega
   have h2 : j<i:=by omega
   simp only [GU h1,GV h2,if_true];by_cases hr0 : r=none
   ·exact .inl hr0
   ·by_cases hx : (aJ R j).1=none
    ·exact .inr (.inl hx)
    ·exact .inr (.inr λe=>hra hr0 (by rw [<- e];exact aP.jg (by rw [h.rl];exact h2) hx))
theorem bI.push {w : World} {B : Nat} {a : OA} {n c : Nat} {R : LA} {L : Ll} (h : aP w B a n c R L) {r : OA} {rc : Nat} {a' : OA}
  (hap : ∀b,b<w.heap.size->eA a b->eA a' b) {x : Nat} (hx : bI a' (R ++ [(r,rc)]) x) : bI a R x\/(r ≠ none/\x=ablk r)\/w.heap.size<=x:=by
 rcases hx with ⟨h1,rfl⟩ | ⟨i,hi,h1,rfl⟩
 ·by_cases hlt : ablk a'<w.heap.size
  ·by_cases h2 : eA a (ablk a')
   ·rcases hap _ hlt h2 with h3 | h3
    ·exact absurd h3 h1
    ·exact absurd rfl h3
   ·left;left;refine ⟨λe=>h2 (.inl e),?_⟩;apply Iv;intro e;exact h2 (.inr λe2=>e e2.symm)
  ·exact .inr (.inr (by omega))
 ·simp only [H5,Ij] at hi;by_cases h2 : i<R.length
  ·have e : aJ (R ++ [(r,rc)]) i=aJ R i:=by simp only [aJ,GY];rw [Ie h2]
   rw [e] at h1 ⊢;exact .inl (aP.jg h2 h1)
  ·obtain rfl : i=R.length:=by omega
   have e : aJ (R ++ [(r,rc)]) R.length=(r,rc):=by simp [aJ]
   rw [e] at h1 ⊢;exact .inr (.inl ⟨h1,rfl⟩)
namespace pZ
variable {V w4 w5 X w6 : World} {B bb b : Nat} {ar : OA} {cr : Nat} {R : LA} {ap : OA} {cp : Nat} {s : BS}
theorem Fk {a4 a5 : OA} {c4 c5 k : Nat} {N : LI} {o : Obj} (h : pZ V B bb b ar cr R ap cp s) (hk : s.rows.length=k) (hVB : B<=V.heap.size) (hb4 : Mv V w4)
  (hown4 : w4.ownsRow V.heap.size 3 1 (.slice a4 N.length c4) N.length (N.map (Value.int .i64)))
  (hown5 : w5.ownsRow B 22 1 (.slice a5 (k+1) c5) (k+1) (List.zipWith jn R s.rows ++ [.slice a4 N.length c4])) (hgr5 : (w4.alloc o).grownBy w5 (Value.slice ar k cr).ownBlock)
  (hap5 : ∀x,x<(w4.alloc o).heap.size->eA ar x->eA a5 x) (p1 : ∃v,w5.cell? ⟨bb,1,none⟩=some v) :
  ∃ar' cr' R',(w5.setCell ⟨bb,1,none⟩ (.slice a5 (k+1) c5)).cell? ⟨bb,1,none⟩=some (.slice ar' (k+1) cr')/\aP (w5.setCell ⟨bb,1,none⟩ (.slice a5 (k+1) c5)) B ar' (k+1) cr' R' (s.rows ++ [N]) /\
   aB V (w5.setCell ⟨bb,1,none⟩ (.slice a5 (k+1) c5)) (λx=>x=bb\/bI ar R x) (λx=>x=bb\/bI ar' R' x)/\¬ bI ar' R' bb /\
   (∀i v,i ≠ 1->V.cell? ⟨bb,i,none⟩=some v->(w5.setCell ⟨bb,1,none⟩ (.slice a5 (k+1) c5)).cell? ⟨bb,i,none⟩=some v)/\∀i,(w5.setCell ⟨bb,1,none⟩ (.slice a5 (k+1) c5)).frozen? ⟨bb,i,none⟩=false:=by
 have hbo : Mv V (w4.alloc o):=LY hb4 (an _ _);have hO4:=h.om.af hbo;rw [hk] at hO4;have hr : (w4.alloc o).ownsRow B 3 1 (.slice a4 N.length c4) N.length (N.map (Value.int .i64)):=bd (bj hown4 (an _ _)) hVB;have hra : a4 ≠ none->¬ bI ar R (ablk a4):=λh0 hI=>by have h1:=(aS hown4 h0).1;have h2:=(h.om.lt _ hI).2;omega
 have hP:=aP.push hO4 hr hra hown5 hgr5 hap5;have hbb:=h.lt bb (.inl rfl);have haptb : eA ar bb:=by
  by_cases ha : ar=none
  ·exact .inl ha
  ·exact .inr λe=>h.d1 (.inl ⟨ha,e.symm⟩)
 have hsz:=hbo.size;have hpush:=λ{x : Nat} (hx : bI a5 (R ++ [(a4,c4)]) x)=>bI.push hO4 hap5 hx;have hd : ¬ bI a5 (R ++ [(a4,c4)]) bb:=λhI=>by
  rcases hpush hI with h1 | ⟨h1,h2⟩ | h1
  ·exact h.d1 h1
  ·have:=(aS hown4 h1).1;omega
  ·omega
 obtain ⟨v,p1⟩:=p1;refine ⟨a5,c5,R ++ [(a4,c4)],Ih _ _ _ p1,hP.bq λx hx=>Ia _ _ _ _ λe=>hd (by rw [show bb=x from e.symm];exact hx),?_,hd,λi v hi hv=>?_,λi=>?_⟩;rotate_left
 ·rw [H9 _ _ _ _ (by simp <;> omega)];exact cX hgr5 (ak hbo hv) haptb
 ·rw [IM];exact (Ix (w:=w4.alloc o) (a:=⟨bb,i,none⟩) (hgr5.block bb (by omega) λe=>haptb.own k cr e.symm)).trans (dr hbo hbb.2 (h.fr i))
 have hb0 : Below 0 w5 (w5.setCell ⟨bb,1,none⟩ (.slice a5 (k+1) c5)):=(GS 0 w5).setCell (G0 _) _;refine ⟨hb0.os.trans (hgr5.os.trans hbo.os),hb0.tape.trans (hgr5.tape.trans hbo.tape),hb0.output.trans (hgr5.output.trans hbo.output),H7 hbo.size (H7 hgr5.size hb0.size),λx hx hI=>?_,λx hx=>?_⟩
 ·rw [Ia _ _ _ _ λe=>hI (.inl e)];rw [hgr5.block x (by omega) λe=>?_]
  ·exact hbo.block x hx
  ·apply hI;right;left;cases ar with
   | none=>simp [Value.ownBlock] at e
   | some y=>simp [Value.ownBlock] at e;exact ⟨by simp,by rw [e];rfl⟩
 ·rcases hx with rfl | hx
  ·exact .inl (.inl rfl)
  ·rcases hpush hx with h1 | ⟨h1,h2⟩ | h1
   ·exact .inl (.inr h1)
   ·exact .inr (by have:=(aS hown4 h1).1;omega)
   ·exact .inr (by omega)
theorem FD {a6 : OA} {c6 k : Nat} {f : Int} {L : Ll} {Q : LI} {o : Obj} (hB : B<=bb) (x0 : X.cell? ⟨bb,0,none⟩=some (.pointer (some ⟨b,0,none⟩))) (x1 : X.cell? ⟨bb,1,none⟩=some (.slice ar (k+1) cr))
  (x2 : ∃v,X.cell? ⟨bb,2,none⟩=some v)
  (xf : ∀i,X.frozen? ⟨bb,i,none⟩=false) (hO : aP X B ar (k+1) cr R L) (hp : X.ownsRow B 3 1 (.slice ap k cp) k (Q.map (Value.int .i64))) (d1 : ¬ bI ar R bb) (d2 : eA ap bb) (d3 : ap ≠ none->¬ bI ar R (ablk ap))
  (hown6 : w6.ownsRow B 3 1 (.slice a6 (k+1) c6) (k+1) (Q.map (Value.int .i64) ++ [.int .i64 f])) (hgr6 : (X.alloc o).grownBy w6 (Value.slice ap k cp).ownBlock)
  (hap6 : ∀x,x<(X.alloc o).heap.size->eA ap x->eA a6 x) :
  pZ (w6.setCell ⟨bb,2,none⟩ (.slice a6 (k+1) c6)) B bb b ar cr R a6 c6 ⟨L,Q ++ [f]⟩ /\
   aB X (w6.setCell ⟨bb,2,none⟩ (.slice a6 (k+1) c6)) (xw bb ar R ap) (xw bb ar R a6):=by
 have hbb : bb<X.heap.size:=G8 X _ x0;have hbo : Mv X (X.alloc o):=an _ _;have hsz:=hbo.size;have hne : a6 ≠ none:=λe=>by
  obtain ⟨y,z,hv,hp⟩:=Me hown6;cases hv
  have:=hp (by omega);rw [e] at this;cases this
 have aptOf : ∀ {x : Nat},eA ap x->x<X.heap.size->x ≠ ablk a6:=λh2 hx e=>by
  rcases hap6 _ (by omega) h2 with h3 | h3
  ·exact hne h3
  ·exact h3 e.symm
 have hbb6:=aptOf d2 hbb;have blk : ∀x,x<X.heap.size->x ≠ bb->eA ap x->(w6.setCell ⟨bb,2,none⟩ (.slice a6 (k+1) c6)).heap[x]? = X.heap[x]?:=λx hx h1 h2=>by rw [Ia _ _ _ _ h1,hgr6.block x (by omega) λe=>h2.own k cp e.symm];exact hbo.block x hx
 have aptO : ∀x,bI ar R x->eA ap x:=λx hx=>by
  by_cases h0 : ap=none
  ·exact .inl h0
  ·exact .inr λe=>d3 h0 (e ▸ hx)
 have c6k : ∀i v,X.cell? ⟨bb,i,none⟩=some v->w6.cell? ⟨bb,i,none⟩=some v:=λi v hv=>cX hgr6 (bp hv _) d2;have hLl : L.length=k+1:=hO.ll;have hQl : Q.length=k:=by simpa using iQ hp
 have hO6 : aP (w6.setCell ⟨bb,2,none⟩ (.slice a6 (k+1) c6)) B ar (k+1) cr R L:=hO.bq λx hx=>blk x (hO.lt x hx).2 (λe=>d1 (e ▸ hx)) (aptO x hx);obtain ⟨v2,x2⟩:=x2;refine ⟨⟨hB,?_,?_,?_,λi=>?_,?_,?_,d1,.inr λe=>hbb6 e.symm,λ_ hI=>?_⟩,?_⟩
 ·rw [H9 _ _ _ _ (by simp)];exact c6k _ _ x0
 ·rw [H9 _ _ _ _ (by simp)];simpa [hLl] using c6k _ _ x1
 ·simp only [hLl];exact Ih _ _ _ (c6k _ _ x2)
 ·rw [IM];exact (Ix (w:=X.alloc o) (a:=⟨bb,i,none⟩) (hgr6.block bb (by omega) λe=>d2.own k cp e.symm)).trans (dL hbb (xf i) _)
 ·simp only [hLl];exact hO6
 ·simp only [hLl];have:=dF hown6 (p:=⟨bb,2,none⟩) (.slice a6 (k+1) c6) (.inr λe=>hbb6 e.symm);simpa using this
 ·exact aptOf (aptO _ hI) (hO.lt _ hI).2 rfl
 ·have hb0 : Below 0 w6 (w6.setCell ⟨bb,2,none⟩ (.slice a6 (k+1) c6)):=(GS 0 w6).setCell (G0 _) _;refine ⟨hb0.os.trans (hgr6.os.trans hbo.os),hb0.tape.trans (hgr6.tape.trans hbo.tape),hb0.output.trans (hgr6.output.trans hbo.output),H7 hbo.size (H7 hgr6.size hb0.size),λx hx hI=>?_,λx hx=>?_⟩
  ·refine blk x hx (λe=>hI (.inl e)) ?_;by_cases h0 : ap=none
   ·exact .inl h0
   ·exact .inr λe=>hI (.inr (.inr ⟨h0,e.symm⟩))
  ·rcases hx with rfl | hx | ⟨h1,rfl⟩
   ·exact .inl (.inl rfl)
   ·exact .inl (.inr (.inl hx))
   ·by_cases hlt : ablk a6<X.heap.size
    ·left;right;right;apply Iv;intro hn;have hA : eA ap (ablk a6):=by
      by_cases h0 : ap=none
      ·exact .inl h0
      ·exact .inr λe=>hn ⟨h0,e.symm⟩
     exact aptOf hA hlt rfl
    ·exact .inr (by omega)
end pZ
end
def Cc (w0 : World) (bb b : Nat) (ar : OA) (R : LA) (ap av : OA) (O : aM) (s : BS) (v : LI) (w : World) (e : Ending) (w' : World) : Prop :=
 ∃ar' cr' R' ap' cp',e = .returned (.bool (s.fI O v))/\pZ w' w0.heap.size bb b ar' cr' R' ap' cp' (s.next O v) /\
  aB w w' (λx=>xw bb ar R ap x\/(av ≠ none/\x=ablk av)) (xw bb ar' R' ap')
def grTo (O : aM) (L : Ll) (Q : LI) : Nat->BS × LI
 | 0=>(⟨[],[]⟩,[])
 | k+1=>((grTo O L Q k).1.next O (bF L (nth Q k).toNat),if (grTo O L Q k).1.fI O (bF L (nth Q k).toNat)=true then (grTo O L Q k).2 ++ [nth Q k] else (grTo O L Q k).2)
def uF (O : aM) (L : Ll) (Q : LI) : LI:=(grTo O L Q Q.length).2
theorem BS.Cb (O : aM) (s : BS) (v : LI) : (s.next O v).rows.length<=s.rows.length+1:=by unfold BS.next;split <;> simp
theorem aP.empty (w : World) (B : Nat) : aP w B none 0 0 [] [] :=
 ⟨rfl,rfl,cF,λi hi=>by omega,λi hi=>by omega,λi j hi=>by omega⟩
theorem pZ.start {w : World} {B bb b : Nat} (hB : B<=bb) (h : aO w bb [.pointer (some ⟨b,0,none⟩),.slice none 0 0,.slice none 0 0]) : pZ w B bb b none 0 [] none 0 ⟨[],[]⟩ :=
 ⟨hB,h.cell 0 rfl,h.cell 1 rfl,h.cell 2 rfl,λi=>h.frozen i,aP.empty w B,cF,λhI=>by
  rcases hI with ⟨h1,_⟩ | ⟨i,hi,_⟩
  ·exact h1 rfl
  ·simp at hi,.inl rfl,λh1=>absurd rfl h1⟩
theorem DG {El : Int->Prop} {m : Nat} {L : Ll} (h : bG El m L) {i : Nat} (hi : i<m) : (bF L i).length=L.length/\∀y ∈ bF L i,El y:=by refine ⟨dZ _ _,λy hy=>?_⟩;unfold bF at hy;obtain ⟨r,hr,rfl⟩:=List.mem_map.1 hy;exact (h r hr).2 _ (aH (by rw [(h r hr).1];exact hi))
theorem wX {N : Int} {l : LI} (h : jR N l=true) : ∀k,k<l.length->(k : Int)<=nth l k
 | 0,hk=>(jm h hk).1
 | k+1,hk=>by have ih:=wX h k (by omega);have:=(jm h hk).2.2 (by omega);rw [J0] at this;omega
theorem so {N : Int} {l : LI} (h : jR N l=true) (hN : 0<=N) : (l.length : Int)<=N:=by
 by_cases h0 : l.length=0
 ·omega
 ·have h1:=wX h (l.length - 1) (by omega);have h2:=(jm h (k:=l.length - 1) (by omega)).2.1;omega
theorem dT {P M : Int} {mod : LI} {N : Int} {L : Ll} (h : aG P M mod N L=0) : ∃m : Nat,N=m/\1<=m/\m<=64/\L.length<=256/\bG (ah P M.toNat mod).El m L:=by obtain ⟨h1,h2,h3,h4⟩:=aQ h;obtain ⟨h5,h6⟩:=fA h4;obtain ⟨h7,h8⟩:=lI h5;obtain ⟨m,rfl,hm,hl,hR⟩:=kG h8;exact ⟨m,rfl,by omega,by omega,hl,hR⟩
def cQ (x : Nat) : Nat->LI
 | 0=>[]
 | k+1=>if x.testBit k=true then cQ x k ++ [(k : Int)] else cQ x k
def qp (x : Nat) : Nat:=18446744073709551615 ^^^ x
theorem rX (x i : Nat) (hi : i<64) : (qp x).testBit i = !x.testBit i:=by
 have h : (18446744073709551615 : Nat).testBit i=true:=by have:=Nat.testBit_two_pow_sub_one 64 i;rw [show (2 : Nat) ^ 64 - 1=18446744073709551615 by decide] at this;rw [this];simp [hi]
 rw [qp,LJ,h];simp
def FW (O : aM) (L : Ll) (N x : Nat) : Int:=(uF O L (cQ x N)).length+(uF O L (cQ (qp x) N)).length - L.length
section
open Go.RowKit
end
def cJ (l : LI) : LI:=l.mergeSort λx y=>decide (x<=y)
theorem dc (l : LI) : (cJ l).Perm l:=List.mergeSort_perm l _
theorem eX (l : LI) : (cJ l).length=l.length:=(dc l).length_eq
theorem yh (l : LI) : (cJ l).Pairwise λx y=>x<=y:=by have h:=List.pairwise_mergeSort (le:=λx y : Int=>decide (x<=y)) (λa b c h1 h2=>by simp at *;omega) (λa b=>by simp;omega) l;exact h.imp λh=>by simpa using h
theorem j5 : ∀ {l l' : LI},l.Pairwise (λx y=>x<=y)->l'.Pairwise (λx y=>x<=y)->l.Perm l'->l=l'
 | [],l',_,_,h=>by rw [List.nil_perm] at h;exact h.symm
 | x :: l,[],_,_,h=>by rw [List.perm_nil] at h;exact h
 | x :: l,y :: l',h1,h2,h=>by
  rw [JK] at h1 h2;have hx : x ∈ y :: l':=h.subset (Lm ..);have hy : y ∈ x :: l:=h.symm.subset (Lm ..);have e : x=y:=by
   rcases List.mem_cons.1 hx with e | hx
   ·exact e
   ·rcases List.mem_cons.1 hy with e | hy
    ·exact e.symm
    ·have:=h1.1 y hy;have:=h2.1 x hx;omega
  subst e;rw [j5 h1.2 h2.2 (List.Perm.cons_inv h)]
theorem mR {l l' : LI} (h : l'.Pairwise λx y=>x<=y) (hp : l'.Perm l) : l'=cJ l:=j5 h (yh l) (hp.trans (dc l).symm)
theorem qV {l : LI} (h : ∀i j,i<j->j<l.length->nth l i ≠ nth l j) : l.Nodup:=by unfold List.Nodup;rw [Kv];intro i j hi hj hij;have:=h i j hij hj;rwa [aj hi,aj hj] at this
section
open Go.RowKit
end
section
theorem aP.setOther {w : World} {B : Nat} {a : OA} {n c : Nat} {R : LA} {L : Ll} (h : aP w B a n c R L) {p : Addr} (hp : p.block<B) (v : Value) : aP (w.setCell p v) B a n c R L :=
 h.bq λb hb=>Ia _ _ _ _ (by have:=(h.lt b hb).1;omega)
structure kZ (w : World) (g : Nat) (x : Value) (a : OA) (k c : Nat) (R : LA) (L : Ll) : Prop where
 lt : g<w.heap.size
 c0 : w.cell? ⟨g,0,none⟩=some x
 c1 : w.cell? ⟨g,1,none⟩=some (.slice a k c)
 fr : ∀i,w.frozen? ⟨g,i,none⟩=false
 om : aP w (g+1) a k c R L
namespace kZ
variable {w w' w4 w5 : World} {g : Nat} {x : Value} {a : OA} {k c : Nat} {R : LA} {L : Ll}
theorem af (h : kZ w g x a k c R L) (hb : Mv w w') : kZ w' g x a k c R L :=
 ⟨It h.lt hb.size,ak hb h.c0,ak hb h.c1,λi=>dr hb h.lt (h.fr i),h.om.af hb⟩
theorem qT (h : kZ w g x a k c R L) : eA a g:=by
 by_cases ha : a=none
 ·exact .inl ha
 ·exact .inr λe=>by have:=(aS h.om.own ha).1;omega
theorem tT {o : Obj} (h : kZ w4 g x a k c R L) (hgr5 : (w4.alloc o).grownBy w5 (Value.slice a k c).ownBlock) : w5.cell? ⟨g,0,none⟩=some x/\w5.cell? ⟨g,1,none⟩=some (.slice a k c)/\w5.frozen? ⟨g,1,none⟩=false:=by
 have hb1:=an w4 o;have hlt:=h.lt;have hs1:=hb1.size;exact ⟨cX hgr5 (bp h.c0 o) h.qT,cX hgr5 (bp h.c1 o) h.qT,
  (Ix (w:=w4.alloc o) (a:=⟨g,1,none⟩) (hgr5.block g (by omega) λe=>h.qT.own k c e.symm)).trans (dL h.lt (h.fr 1) _)⟩
theorem push {a4 a5 : OA} {n4 c4 c5 : Nat} {N : LI} {o : Obj} (h : kZ w4 g x a k c R L) (hn4 : N.length=n4)
  (hown4 : w4.ownsRow (g+1) 3 1 (.slice a4 n4 c4) n4 (N.map (Value.int .i64))) (hra : a4 ≠ none->¬ bI a R (ablk a4))
  (hown5 : w5.ownsRow (g+1) 22 1 (.slice a5 (k+1) c5) (k+1) (List.zipWith jn R L ++ [.slice a4 n4 c4])) (hgr5 : (w4.alloc o).grownBy w5 (Value.slice a k c).ownBlock)
  (hap5 : ∀x,x<(w4.alloc o).heap.size->eA a x->eA a5 x) :
  kZ (w5.setCell ⟨g,1,none⟩ (.slice a5 (k+1) c5)) g x a5 (k+1) c5 (R ++ [(a4,c4)]) (L ++ [N])/\Below g w4 (w5.setCell ⟨g,1,none⟩ (.slice a5 (k+1) c5)):=by
 subst hn4;have hb1:=an w4 o;have hO:=h.om.af hb1;have hr:=bj hown4 hb1;have hP:=aP.push hO hr hra hown5 hgr5 hap5;have hlt:=h.lt;have hs1:=hb1.size;have hB5 : Below (g+1) w4 w5:=L3 (hb1.mono (by omega)) hO.own hgr5 (GQ _) (by omega);have hs:=hB5.size;have k0:=cX hgr5 (bp h.c0 o) h.qT;have k1:=cX hgr5 (bp h.c1 o) h.qT;refine ⟨⟨by simp;omega,?_,Ih _ _ _ k1,λi=>?_,hP.setOther (by simp) _⟩,(hB5.mono (by omega)).setCell (by simp) _⟩
 ·rw [H9 _ _ _ _ (by simp)];exact k0
 ·rw [IM];exact (Ix (w:=w4.alloc o) (a:=⟨g,i,none⟩) (hgr5.block g (by omega) λe=>h.qT.own k c e.symm)).trans (dL h.lt (h.fr i) _)
theorem start {U : World} {g : Nat} {x : Value} (hU : aO U g [x,.slice none 0 0]) : kZ U g x none 0 0 [] [] :=
 ⟨hU.1,hU.cell 0 rfl,hU.cell 1 rfl,hU.frozen,aP.empty _ _⟩
end kZ
end
section
theorem sL (f : LI->LI) (L : Ll) {i : Nat} (h : i<L.length) : ai (L.map f) i=f (ai L i):=by rw [aD (by simpa using h),aD h,IF]
def I2 (a : OA) (R : LA) (a2 : OA) (S : LA) (b : Nat) : Prop:=bI a R b\/bI a2 S b
structure mj (w : World) (B : Nat) (a : OA) (n c : Nat) (R : LA) (a2 : OA) (c2 : Nat) (S : LA) (len : Nat) (J : Ll) : Prop where
 om1 : aP w B a n c R (J.map (List.take len))
 om2 : aP w B a2 n c2 S (J.map (List.drop len))
 dis : ∀b,bI a R b->¬ bI a2 S b
namespace mj
variable {w w' w1 : World} {B : Nat} {a : OA} {n c : Nat} {R R' : LA} {a2 : OA} {c2 : Nat} {S S' : LA} {len : Nat} {J J' : Ll}
theorem lt (h : mj w B a n c R a2 c2 S len J) (b : Nat) (hb : I2 a R a2 S b) : B<=b/\b<w.heap.size:=by
 rcases hb with hb | hb
 ·exact h.om1.lt b hb
 ·exact h.om2.lt b hb
theorem new (h : mj w B a n c R a2 c2 S len J) {b : Nat} (hb : w.heap.size<=b) : ¬ I2 a R a2 S b:=λh'=>by have:=h.lt b h';omega
theorem af (h : mj w B a n c R a2 c2 S len J) (hb : Mv w w') : mj w' B a n c R a2 c2 S len J:=⟨h.om1.af hb,h.om2.af hb,h.dis⟩
theorem ll (h : mj w B a n c R a2 c2 S len J) : J.length=n:=by have:=h.om1.ll;simpa using this
theorem cell (h : mj w B a n c R a2 c2 S len J) {i : Nat} (hi : i<n) (hl : len<=(ai J i).length) : w.cell? ⟨ablk a,aL a+i,none⟩=some (.slice (aJ R i).1 len (aJ R i).2):=by have h1:=h.om1.cell hi;rw [sL _ J (by rw [h.ll];exact hi),Ir,LP hl] at h1;exact h1
theorem ints (h : mj w B a n c R a2 c2 S len J) {i : Nat} (hi : i<n) (hl : len<=(ai J i).length) : Ints w (aJ R i).1 len ((ai J i).take len):=by have h1:=h.om1.ints hi;rw [sL _ J (by rw [h.ll];exact hi),Ir,LP hl] at h1;exact h1
end mj
variable {w : World} {b : Nat} {G : bX}
end
section
variable {w : World} {b : Nat} {G : bX}
end

section
open Go.RowKit
end
section
open Go.ChangeShapes Go.WideShapes Go.ChangeAt Go.RowKit
theorem Tryz.own : ownKnob prog.godebug=none:=by kernel_rfl
theorem Tryz.laid : laidOutB prog=true:=by kernel_rfl
section
variable {H : Type} {enc : TypeId × Value->H} {W : World} {held : Bool} {fuel : Nat} {cs : List Value} {x : DataW H × List MemPlace}
theorem qt {a : Addr} {v : Value} {i : Nat} (h : W.cell? (a.add i)=some v) : W.cell? ⟨a.block,a.off+i,none⟩=some v:=by
 have hs:=LG h;obtain ⟨b,o,s⟩:=a;by_cases h0 : i=0
 ·subst h0;simp only [Addr.add,if_true] at hs h;subst hs;exact h
 ·simpa [Addr.add,h0] using h
theorem qM {a : Addr} {v : Value} (h : W.cell? (a.add 0)=some v) : a=⟨a.block,a.off,none⟩:=by have hs:=LG h;obtain ⟨b,o,s⟩:=a;simp only [Addr.add,if_true] at hs;subst hs;rfl
theorem ld (l : LI) (n i : Nat) (h : i<n) : nth (l.take n) i=l.getD i 0:=by unfold nth;simp only [GY,Jb];rw [GV h]
theorem nR (h : DataW.trod enc prog W 0 (λ_=>true) held fuel 22 cs=some x) : ∃a n c l,cs=[.slice a n c]/\Ints W a n l:=by
 rcases open_ints underlying22 underlying3 (by kernel_rfl) h with ⟨hcs,_⟩ | ⟨a,len,cap,zs,hcs,_,hl,hm,hz,_,hcell,_⟩
 ·exact ⟨none,0,0,[],hcs,L6 _ _⟩
 ·simp only [if_true] at hz;refine ⟨some a,len,cap,zs.take len,hcs,⟨by simp;omega,λh0=>?_,by omega,λi hi=>?_⟩⟩
  ·exact congrArg some (qM (hcell 0 (by omega)))
  ·rw [ld _ _ _ hi];exact qt (hcell i (by omega))
theorem xY (h : DataW.trod enc prog W 0 (λ_=>true) held fuel 25 cs=some x) : ∃a n c L,cs=[.slice a n c]/\bC W a n L:=by
 rcases Go.Deep.open_int_rows underlying25 underlying22 underlying3 (by kernel_rfl) (by kernel_rfl) h with ⟨hcs,_⟩ | ⟨a,len,cap,A,Ln,C,Z,hcs,_,hl,hm,_,hrows⟩
 ·exact ⟨none,0,0,[],hcs,⟨rfl,λh0=>by omega,by unfold maxLen;omega,λi hi=>by omega⟩⟩
 ·refine ⟨some a,len,cap,(List.range len).map (λr=>(Z r).take (Ln r)),hcs,⟨by simp,λh0=>congrArg some (qM (hrows 0 (by omega)).1),by omega,λr hr=>?_⟩⟩;obtain ⟨h1,h2,h3,h4,_,h5,h6⟩:=hrows r (by omega);refine ⟨A r,Ln r,C r,qt h1,?_⟩;have e : ai ((List.range len).map (λr=>(Z r).take (Ln r))) r=(Z r).take (Ln r):=by unfold ai;simp [GY,Js,List.getElem?_range hr]
  rw [e];match hA : A r,h5,h6 with
  | none,h5,_ =>
   have h0 : Ln r=0:=by have:=h5 rfl;omega
   rw [h0]
   exact L6 _ _
  | some b,_,h6 =>
   obtain ⟨_,h7⟩:=h6 b rfl
   exact ⟨by simp;omega,λh0=>congrArg some (qM (h7 0 (by omega))),by omega,λi hi=>by rw [ld _ _ _ hi];exact qt (h7 i (by omega))⟩
end
section
variable {H : Type} {enc : TypeId × Value->H} {W : World} {held : Bool} {b0 : Nat} {v : Value} {d : DataW H} {p : List MemPlace}
theorem CG (hv : Value.okWide prog W .any b0 22 v) (h : DataW.Trod enc prog W 0 (λ_=>true) held 22 v d p) : ∃a n c l,v = .slice a n c/\Ints W a n l:=by obtain ⟨a,n,c,rfl⟩:=okWide_slice underlying22 hv;obtain ⟨fuel,hf⟩:=h;obtain ⟨a',n',c',l,e,hi⟩:=nR hf;simp [Value.cells] at e;obtain ⟨rfl,rfl,rfl⟩:=e;exact ⟨_,_,_,l,rfl,hi⟩
theorem Cv (hv : Value.okWide prog W .any b0 27 v) (h : DataW.Trod enc prog W 0 (λ_=>true) held 27 v d p) :
  ∃(P M : Int) (am : OA) (mn cm : Nat) (mod : LI) (N : Int) (a : OA) (n c : Nat) (L : Ll),v = .agg #[.int .i64 P,.int .i64 M,.slice am mn cm,.int .i64 N,.slice a n c]/\Ints W am mn mod/\bC W a n L:=by
 obtain ⟨cs,rfl,hsz⟩:=okWide_struct underlying27 hv;rw [show prog.cellsOf 27 = 5 by kernel_rfl] at hsz;obtain ⟨l⟩:=cs;match l,hsz with
 | [v0,v1,v2,v3,v4],_ =>
 obtain ⟨fuel,hf⟩:=h;obtain ⟨xs,n0,_,_,_,hlen,hfs⟩:=Ly underlying27 hf;obtain ⟨y0,y1,y2,rfl⟩ : ∃y0 y1 y2,xs=[y0,y1,y2]:=by
  match xs,hlen with
  | [y0,y1,y2],_=>exact ⟨y0,y1,y2,rfl⟩
 have k24 : prog.cellsOf 24 = 3:=by kernel_rfl
 have k3 : prog.cellsOf 3 = 1:=by kernel_rfl
 have k22 : prog.cellsOf 22 = 1:=by kernel_rfl
 have k25 : prog.cellsOf 25 = 1:=by kernel_rfl
 have g0 : DataW.trod enc prog W 0 (λ_=>true) held n0 24 [v0,v1,v2]=some y0:=by simpa [Value.cells,k24] using hfs 0 _ rfl
 have g1 : DataW.trod enc prog W 0 (λ_=>true) held n0 3 [v3]=some y1:=by simpa [Value.cells,k3] using hfs 1 _ rfl
 have g2 : DataW.trod enc prog W 0 (λ_=>true) held n0 25 [v4]=some y2:=by simpa [Value.cells,k25] using hfs 2 _ rfl
 obtain ⟨xs',n1,_,_,_,hlen',hfs'⟩:=Ly underlying24 g0;obtain ⟨z0,z1,z2,rfl⟩ : ∃z0 z1 z2,xs'=[z0,z1,z2]:=by
  match xs',hlen' with
  | [z0,z1,z2],_=>exact ⟨z0,z1,z2,rfl⟩
 have q0 : DataW.trod enc prog W 0 (λ_=>true) held n1 3 [v0]=some z0:=by simpa [k3] using hfs' 0 _ rfl
 have q1 : DataW.trod enc prog W 0 (λ_=>true) held n1 3 [v1]=some z1:=by simpa [k3] using hfs' 1 _ rfl
 have q2 : DataW.trod enc prog W 0 (λ_=>true) held n1 22 [v2]=some z2:=by simpa [k22] using hfs' 2 _ rfl
 obtain ⟨P,eP,_,_⟩:=Lc underlying3 q0;obtain ⟨M,eM,_,_⟩:=Lc underlying3 q1;obtain ⟨N,eN,_,_⟩:=Lc underlying3 g1;obtain ⟨am,mn,cm,mod,eI,hI⟩:=nR q2;obtain ⟨a,n,c,L,eL,hL⟩:=xY g2;simp at eP eM eN eI eL;subst eP eM eN eI eL;exact ⟨P,M,am,mn,cm,mod,N,a,n,c,L,rfl,hI,hL⟩
end
end
def Mi:=@aP.push
def Mp:=@bQ.own
def Mr:=@aP.empty
def Mt:=@bA.own
end Go.Proofs.YthglbncgemdcbaaGreat
