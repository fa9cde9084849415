import Derived.Test.YthglbncgemdcbaaGreatS6
import Derived.Laws.Bits64
import Derived.Laws.Bits64b
import Derived.OpenShut
import Derived.ShutString
import Derived.ChangeOld
import Derived.Deep.Matrix
namespace Go.Proofs.YthglbncgemdcbaaGreat
set_option linter.all false
set_option maxRecDepth 100000
set_option maxHeartbeats 1600000
open Go.RowKit Go.Proofs.Tryz
section
variable {w : World} {b : Nat} {G : dn}
@[go_sem high] theorem run_slice_h0 {P : Program} (w : World) (t : TypeId) (a : OA) (len cap : Nat) (ht : P.underlying t=some (.slice (P.elem t))) (kh : IntKind) (h : Int) (h0 : 0<=h) (h2 : h<=cap) :
  (Instr.slice t (.slice a len cap) none (some (.int kh h)) none).run P w=((sizeOf (P.elem t)).run P w).andThen λ_ w=>.ok (.slice a h.toNat cap) w:=by rw [run_slice_h w t a len cap ht kh h h0 h2];congr 1;funext s w;congr 1;simp only [sliced,Nat.zero_mul,Addr.add,if_true,Nat.sub_zero,RW,ite_self]
@[go_sem high] theorem run_slice_hm0 {P : Program} (w : World) (t : TypeId) (a : OA) (len cap : Nat) (ht : P.underlying t=some (.slice (P.elem t))) (kh km : IntKind) (h m : Int) (h0 : 0<=h) (h2 : h<=m) (h3 : m<=cap) :
  (Instr.slice t (.slice a len cap) none (some (.int kh h)) (some (.int km m))).run P w=((sizeOf (P.elem t)).run P w).andThen λ_ w=>.ok (.slice a h.toNat m.toNat) w:=by rw [run_slice_hm w t a len cap ht kh km h m h0 h2 h3];congr 1;funext s w;congr 1;simp only [sliced,Nat.zero_mul,Addr.add,if_true,Nat.sub_zero,RW,ite_self]
theorem F6 {L : ZZ} {k i : Nat} (h : i<k) : ai (L.take k) i=ai L i:=by simp only [ai,Ng,OE,Nd h]
structure cR (B : Nat) (w : World) (a : OA) (n : Nat) (l : Lz) : Prop where
 ints : Ints w a n l
 lo : 0<n->B<=ablk a
structure dq (B : Nat) (w : World) (a : OA) (n : Nat) (l : ZZ) : Prop where
 len : l.length=n
 pl : Pl a n
 max : n<=maxLen
 lo : 0<n->B<=ablk a
 cell : ∀i,i<n->∃b m c,w.cell? ⟨ablk a,aK a+i,none⟩=some (.slice b m c)/\cR B w b m (ai l i)
theorem cR.mono {B B' : Nat} {w : World} {a : OA} {n : Nat} {l : Lz} (h : cR B w a n l) (hB : B'<=B) : cR B' w a n l:=⟨h.ints,λhn=>Nr hB (h.lo hn)⟩
theorem dq.mono {B B' : Nat} {w : World} {a : OA} {n : Nat} {l : ZZ} (h : dq B w a n l) (hB : B'<=B) : dq B' w a n l :=
 ⟨h.len,h.pl,h.max,λhn=>Nr hB (h.lo hn),λi hi=>by obtain ⟨b,m,c,h1,h2⟩:=h.cell i hi;exact ⟨b,m,c,h1,h2.mono hB⟩⟩
theorem dq.jt {B : Nat} {w : World} {a : OA} {n : Nat} {l : ZZ} (h : dq B w a n l) : br w a n l :=
 ⟨h.len,h.pl,h.max,λi hi=>by obtain ⟨b,m,c,h1,h2⟩:=h.cell i hi;exact ⟨b,m,c,h1,h2.ints⟩⟩
theorem cR.bq {B : Nat} {w V : World} {a : OA} {n : Nat} {l : Lz} (h : cR B w a n l) (hb : ∀b,B<=b->b<w.heap.size->V.heap[b]? = w.heap[b]?) : cR B V a n l :=
 ⟨h.ints.of_block λhn=>hb _ (h.lo hn) (h.ints.lt hn),h.lo⟩
theorem dq.bq {B : Nat} {w V : World} {a : OA} {n : Nat} {l : ZZ} (h : dq B w a n l) (hb : ∀b,B<=b->b<w.heap.size->V.heap[b]? = w.heap[b]?) : dq B V a n l:=by refine ⟨h.len,h.pl,h.max,h.lo,λi hi=>?_⟩;obtain ⟨b,m,c,h1,h2⟩:=h.cell i hi;exact ⟨b,m,c,(NT (w:=w) (a:=⟨ablk a,aK a+i,none⟩) (hb _ (h.lo (by omega)) (Nt w _ h1))).trans h1,h2.bq hb⟩
theorem cR.ah {B : Nat} {w V : World} {a : OA} {n : Nat} {l : Lz} (h : cR B w a n l) (hb : SW w V) : cR B V a n l:=h.bq λb _ h2=>hb.block b h2
theorem dq.ah {B : Nat} {w V : World} {a : OA} {n : Nat} {l : ZZ} (h : dq B w a n l) (hb : SW w V) : dq B V a n l:=h.bq λb _ h2=>hb.block b h2
theorem cR.setCell {B : Nat} {w : World} {a : OA} {n : Nat} {l : Lz} (h : cR B w a n l) {p : Addr} (hp : p.block<B) (v : Value) : cR B (w.setCell p v) a n l :=
 h.bq λb h1 _=>Nz _ _ _ _ (by omega)
theorem dq.setCell {B : Nat} {w : World} {a : OA} {n : Nat} {l : ZZ} (h : dq B w a n l) {p : Addr} (hp : p.block<B) (v : Value) : dq B (w.setCell p v) a n l :=
 h.bq λb h1 _=>Nz _ _ _ _ (by omega)
theorem cR.own {w : World} {B : Nat} {e : TypeId} {a : OA} {c n : Nat} {l : Lz} (h : w.ownsRow B e 1 (.slice a n c) n (l.map (Value.int .i64))) : cR B w a n l :=
 ⟨(R6 h).1,λhn=>(cJ h 0 hn).2.2.1⟩
theorem dq.own {w : World} {B : Nat} {a : OA} {n c : Nat} {R : Z4} {L : ZZ} (h : aT w B a n c R L) : dq B w a n L :=
 ⟨h.ll,h.pl,h.max,λhn=>(eA h.own hn).1,λ_ hi=>⟨_,_,_,h.cell hi,cR.own (h.row _ hi)⟩⟩
theorem dq.take {B : Nat} {w : World} {a : OA} {n : Nat} {L : ZZ} (h : dq B w a n L) {k : Nat} (hk : k<=n) : dq B w a k (L.take k):=by refine ⟨by rw [NG,h.len];omega,λh0=>h.pl (by omega),Nr hk h.max,λh0=>h.lo (by omega),λi hi=>?_⟩;rw [F6 hi];exact h.cell i (by omega)
def dc (G : dn) (L : ZZ) (m : Nat) : ZZ:=(aD G.ops L m).1.take (aD G.ops L m).2.length
def bw (G : dn) (L : ZZ) (m : Nat) : Lz:=(aD G.ops L m).2
theorem eo (G : dn) (L : ZZ) (m : Nat) : (dc G L m).length=(bw G L m).length:=by have h1:=fh G.ops L m;have h2:=bX G.ops L m;unfold dc bw;rw [NG];omega
def wv (G : dn) (L : ZZ) (m : Nat) (w : World) (e : Ending) (w' : World) : Prop :=
 ∃a ap cp,e = .returned (.tuple #[.slice a (bw G L m).length (bw G L m).length,.slice ap (bw G L m).length cp])/\dq w.heap.size w' a (bw G L m).length (dc G L m)/\cR w.heap.size w' ap (bw G L m).length (bw G L m)/\SW w w'
def Gs (G : dn) (L : ZZ) (m : Nat) (w : World) (e : Ending) (w' : World) : Prop :=
 ∃a c ap cp,e = .returned (.tuple #[.slice a (bw G L m).length c,.slice ap (bw G L m).length cp])/\dq w.heap.size w' a (bw G L m).length (dc G L m)/\cR w.heap.size w' ap (bw G L m).length (bw G L m)/\SW w w'
theorem vN (a : OA) (n c m : Nat) (L : ZZ) (h : ew w b G) (hi : br w a n L) (hR : bp G.El m L) (hm : m<=1000000) (hn : n<=1000000) :
  Calls prog 177 #[.pointer (some ⟨b,0,none⟩),.slice a n c,.int .i64 m] w (wv G L m w):=by
 have Hlen:=Z5 hi.len;have HR:=Z5 hR;have hLm : ∀l ∈ L,l.length<=1000000:=λl hl=>by rw [(hR l hl).1];exact hm
 have HLm:=Z5 hLm;clear hLm hR;go_enter func177,ntmps177;go_wp2_with fail;refine (F5 a n c L hi hn HLm.out).mono ?_;rintro e w1 ⟨a1,c1,R1,rfl,hO1,hb1⟩;go_wp2_with fail;refine (xY w a1 L.length c1 m m R1 L h hb1 hO1 HR.out (Na _) hm (by rw [Hlen.out];exact hn)).mono ?_;rintro e w2 ⟨R2,ap,cp,d,rfl,hO2,hp2,hM2,hb2⟩;have hpl:=fh G.ops L m;have hcap:=ox hO2.own;have hpv:=(cR.own hp2).mono hb1.size;have hmt:=(dq.own hO2).take (k:=(aD G.ops L m).2.length) hpl.2;have hF : wv G L m w (.returned (.tuple #[.slice a1 (aD G.ops L m).2.length (aD G.ops L m).2.length,.slice ap (aD G.ops L m).2.length cp])) w2:=⟨a1,ap,cp,rfl,hmt,hpv,hb2⟩
 have HF:=Z5 hF;have hle : (aD G.ops L m).2.length<=c1:=Nr hpl.2 hcap;clear hF hpv hmt hp2 hcap hpl;generalize (aD G.ops L m).2.length=k at *;go_wp2_with fail;go_ret2;simpa using HF.out
theorem yO (a : OA) (n c m : Nat) (L : ZZ) (h : ew w b G) (hi : br w a n L) (hR : bp G.El m L) (hm : m<=1000000) (hn : n<=1000000) :
  Calls prog 177 #[.pointer (some ⟨b,0,none⟩),.slice a n c,.int .i64 m] w (Gs G L m w) :=
 (vN a n c m L h hi hR hm hn).mono λ_ _ ⟨a1,ap,cp,h1⟩=>⟨a1,_,ap,cp,h1⟩
end
def eJ (P M : Int) (mod : Lz) (cols : Int) (L : ZZ) : Int :=
 if bA P M mod=true then iB (af P M.toNat mod).q cols L else 1
def yC (P M : Int) (mod : Lz) (cols : Int) (L : ZZ) (w : World) (e : Ending) (w' : World) : Prop :=
 SW w w'/\(
 (eJ P M mod cols L ≠ 0/\e = .returned (.tuple #[.agg #[.int .i64 0,.slice none 0 0],.slice none 0 0,.int .i64 (eJ P M mod cols L)])) \/
 (eJ P M mod cols L=0/\∃m : Nat,cols=m/\∃a ap cp,e = .returned (.tuple #[.agg #[.int .i64 m,.slice a (bw (af P M.toNat mod) L m).length (bw (af P M.toNat mod) L m).length],.slice ap (bw (af P M.toNat mod) L m).length cp,.int .i64 0]) /\
  dq w.heap.size w' a (bw (af P M.toNat mod) L m).length (dc (af P M.toNat mod) L m)/\cR w.heap.size w' ap (bw (af P M.toNat mod) L m).length (bw (af P M.toNat mod) L m)))
def Je (P M : Int) (mod : Lz) (cols : Int) (L : ZZ) (w : World) (e : Ending) (w' : World) : Prop :=
 SW w w'/\(
 (eJ P M mod cols L ≠ 0/\e = .returned (.tuple #[.agg #[.int .i64 0,.slice none 0 0],.slice none 0 0,.int .i64 (eJ P M mod cols L)])) \/
 (eJ P M mod cols L=0/\∃m : Nat,cols=m/\∃a c ap cp,e = .returned (.tuple #[.agg #[.int .i64 m,.slice a (bw (af P M.toNat mod) L m).length c],.slice ap (bw (af P M.toNat mod) L m).length cp,.int .i64 0]) /\
  dq w.heap.size w' a (bw (af P M.toNat mod) L m).length (dc (af P M.toNat mod) L m)/\cR w.heap.size w' ap (bw (af P M.toNat mod) L m).length (bw (af P M.toNat mod) L m)))
theorem qC {q cols : Int} {L : ZZ} (h : iB q cols L=0) : ∃m : Nat,cols=m/\m<=256/\L.length<=256/\bp (λx=>0<=x/\x<q) m L:=by
 unfold iB at h;split at h
 ·omega
 ·rename_i h1;split at h
  ·omega
  ·rename_i h2;split at h
   ·rename_i h3;refine ⟨cols.toNat,by omega,by omega,by omega,λr hr=>?_⟩;have h4 : lZ cols L=true:=by simpa using h2
    unfold lZ at h4;rw [NW] at h4 h3;have h5:=h4 r hr;have h6:=h3 r hr;unfold dY jR at h6;rw [NW] at h6;refine ⟨by simp at h5;omega,λx hx=>?_⟩;have h7:=h6 x hx;simpa using h7
   ·omega
theorem tu {q cols : Int} {L : ZZ} : matsE q [(cols,L)]=iB q cols L:=by
 simp only [matsE];split
 ·rename_i h;exact h.symm
 ·rfl
theorem lO (P M : Int) (am : OA) (mn cm : Nat) (mod : Lz) (cols : Int) (a : OA) (n c : Nat) (L : ZZ) (w : World) (hmod : Ints w am mn mod) (hi : br w a n L) :
  Calls prog 118 #[.agg #[.int .i64 P,.int .i64 M,.slice am mn cm],.agg #[.int .i64 cols,.slice a n c]] w (yC P M mod cols L w):=by
 have Hlen:=Z5 hi.len;go_enter func118,ntmps118;go_wp2_with fail;obtain ⟨W,hW⟩ : ∃W : World,W=((((w.alloc (.cells #[.int .i64 P,.int .i64 M,.slice am mn cm] 24)).alloc (.cells #[.int .i64 cols,.slice a n c] 94)).alloc (.cells #[.int .i64 0,.slice none 0 0] 94)).alloc (.cells #[.int .i64 cols,.slice a n c] 94)):=⟨_,rfl⟩
 rw [<- hW];have hbW : SW w W:=by rw [hW];exact ((((Nc _ _).alloc (Na _) _).alloc (by simp) _).alloc (by simp;omega) _).alloc (by simp;omega) _
 have hsW : W.heap.size=w.heap.size+4:=by rw [hW];simp
 have q1 : W.cell? ⟨w.heap.size+1,0,none⟩=some (.int .i64 cols)/\W.cell? ⟨w.heap.size+1,1,none⟩=some (.slice a n c):=by rw [hW];exact ⟨bu (bu (aI _ _ _ (by simp) 0) _) _,bu (bu (aI _ _ _ (by simp) 1) _) _⟩
 have q2 : W.cell? ⟨w.heap.size+1+1,0,none⟩=some (.int .i64 0)/\W.cell? ⟨w.heap.size+1+1,1,none⟩=some (.slice none 0 0)/\W.frozen? ⟨w.heap.size+1+1,0,none⟩=false/\W.frozen? ⟨w.heap.size+1+1,1,none⟩=false:=by rw [hW];exact ⟨bu (aI _ _ _ (by simp) 0) _,bu (aI _ _ _ (by simp) 1) _,dX (by simp) (i7 _ _ _ (by simp) 0) _,dX (by simp) (i7 _ _ _ (by simp) 1) _⟩
 have q3 : W.cell? ⟨w.heap.size+1+1+1,0,none⟩=some (.int .i64 cols)/\W.cell? ⟨w.heap.size+1+1+1,1,none⟩=some (.slice a n c):=by rw [hW];exact ⟨aI _ _ _ (by simp) 0,aI _ _ _ (by simp) 1⟩
 have hiW:=hi.ah hbW;have hMs : Ds W (some ⟨w.heap.size+1+1+1,0,none⟩) 1 [(cols,L)]:=⟨rfl,λ_=>rfl,by unfold maxLen;omega,λi hi=>by
  have : i=0:=by simp at hi;omega
  subst this;exact ⟨a,n,c,by simpa using q3.1,by simpa using q3.2,hiW⟩⟩
 have HsW:=Z5 hsW;clear hW hsW;refine (wV P M am mn cm mod _ 1 1 _ W (hmod.ah hbW) hMs).mono ?_;rintro e w1 ⟨hb1,hcase⟩;have hbw1:=RZ hbW hb1;have hq : ∀V,SW W V->V.cell? ⟨w.heap.size+1,0,none⟩=some (.int .i64 cols)/\V.cell? ⟨w.heap.size+1,1,none⟩=some (.slice a n c)/\V.cell? ⟨w.heap.size+1+1,0,none⟩=some (.int .i64 0)/\V.cell? ⟨w.heap.size+1+1,1,none⟩=some (.slice none 0 0)/\V.frozen? ⟨w.heap.size+1+1,0,none⟩=false/\V.frozen? ⟨w.heap.size+1+1,1,none⟩=false:=by intro V hV;have hs:=HsW.out;exact ⟨aB hV q1.1,aB hV q1.2,aB hV q2.1,aB hV q2.2.1,(hV.frozen (p:=⟨w.heap.size+1+1,0,none⟩) (by simp [hs])).trans q2.2.2.1,(hV.frozen (p:=⟨w.heap.size+1+1,1,none⟩) (by simp [hs])).trans q2.2.2.2⟩
 have Hq:=Z5 hq;clear hq q1 q2 q3;rcases hcase with ⟨hB,rfl⟩ | ⟨hB,er,h0,h1,rfl⟩ | ⟨hB,h1,b,rfl,hG,hbl⟩
 ·obtain ⟨r1,r2,r3,r4,r5,r6⟩:=Hq.out w1 hb1;have HB : Hid (eJ P M mod cols L=1):=by show _=_;rw [eJ,hB];rfl
  clear hB;go_wp2_with fail;refine bodyPost_ret (v:=.tuple #[.agg #[.int .i64 0,.slice none 0 0],.slice none 0 0,.int .i64 1]) (by simp [results,results118,go_sem,r3,r4]) rfl ⟨(hbw1.setCell (by simp;omega) _).setCell (by simp;omega) _,.inl ⟨by rw [HB.out];omega,by rw [HB.out]⟩⟩
 ·obtain ⟨r1,r2,r3,r4,r5,r6⟩:=Hq.out w1 hb1;have HB : Hid (eJ P M mod cols L=er):=by show _=_;rw [eJ,hB,Nd rfl,<- h1,tu]
  have He : Hid (er ≠ 0):=h0;have he' : (er != 0)=true:=by simpa using h0
  clear hB h0 h1;go_wp2_with fail;refine bodyPost_ret (v:=.tuple #[.agg #[.int .i64 0,.slice none 0 0],.slice none 0 0,.int .i64 er]) (by simp [results,results118,go_sem,r3,r4]) rfl ⟨(hbw1.setCell (by simp;omega) _).setCell (by simp;omega) _,.inl ⟨by rw [HB.out];exact He.out,by rw [HB.out]⟩⟩
 ·obtain ⟨r1,r2,r3,r4,r5,r6⟩:=Hq.out w1 hb1;rw [tu] at h1;obtain ⟨m,rfl,hm,hn,hR⟩:=qC h1;have HB : Hid (eJ P M mod m L=0):=by show _=_;rw [eJ,hB,Nd rfl,h1]
  clear hB h1;go_wp2_with fail;refine (vN a n c m L hG (hiW.ah hb1) hR (by omega) (by rw [<- Hlen.out];omega)).mono ?_;rintro e w2 ⟨a2,ap,cp,rfl,hM2,hp2,hb2⟩;have hbw2:=RZ hbw1 hb2;obtain ⟨r1,r2,r3,r4,r5,r6⟩:=Hq.out w2 (RZ hb1 hb2);have hF : yC P M mod m L w (.returned (.tuple #[.agg #[.int .i64 m,.slice a2 (bw (af P M.toNat mod) L m).length (bw (af P M.toNat mod) L m).length],.slice ap (bw (af P M.toNat mod) L m).length cp,.int .i64 0])) ((w2.setCell ⟨w.heap.size+1+1,0,none⟩ (.int .i64 m)).setCell ⟨w.heap.size+1+1,1,none⟩ (.slice a2 (bw (af P M.toNat mod) L m).length (bw (af P M.toNat mod) L m).length)):=by
   have hs:=HsW.out;have hs1:=hb1.size;refine ⟨(hbw2.setCell (by simp;omega) _).setCell (by simp;omega) _,.inr ⟨HB.out,m,rfl,a2,ap,cp,rfl,?_,?_⟩⟩
   ·exact ((hM2.setCell (p:=⟨w.heap.size+1+1,0,none⟩) (by simp;omega) _).setCell (p:=⟨w.heap.size+1+1,1,none⟩) (by simp;omega) _).mono (by omega)
   ·exact ((hp2.setCell (p:=⟨w.heap.size+1+1,0,none⟩) (by simp;omega) _).setCell (p:=⟨w.heap.size+1+1,1,none⟩) (by simp;omega) _).mono (by omega)
  have HF:=Z5 hF;clear hF hM2 hp2;generalize (bw (af P M.toNat mod) L m).length=k at *;go_wp2_with fail;exact bodyPost_ret (v:=.tuple #[.agg #[.int .i64 m,.slice a2 k k],.slice ap k cp,.int .i64 0]) (by simp [results,results118,go_sem,r3,r4]) rfl HF.out
theorem qN (P M : Int) (am : OA) (mn cm : Nat) (mod : Lz) (cols : Int) (a : OA) (n c : Nat) (L : ZZ) (w : World) (hmod : Ints w am mn mod) (hi : br w a n L) :
  Calls prog 118 #[.agg #[.int .i64 P,.int .i64 M,.slice am mn cm],.agg #[.int .i64 cols,.slice a n c]] w (Je P M mod cols L w) :=
 (lO P M am mn cm mod cols a n c L w hmod hi).mono λ_ _ ⟨hb,h⟩=>⟨hb,h.imp id λ⟨h0,m,h1,a1,ap,cp,h2⟩=>⟨h0,m,h1,a1,_,ap,cp,h2⟩⟩
section
theorem ug {l l' : Lz} {k : Nat} (h : l.take k=l'.take k) (h1 : k<l.length) (h2 : k<l'.length) (he : nth l k=nth l' k) : l.take (k+1)=l'.take (k+1):=by rw [Nj h1,Nj h2,h,<- aj h1,<- aj h2,he]
theorem sJ {l l' : ZZ} {k : Nat} (h : l.take k=l'.take k) (h1 : k<l.length) (h2 : k<l'.length) (he : ai l k=ai l' k) : l.take (k+1)=l'.take (k+1):=by rw [Nj h1,Nj h2,h,<- aC h1,<- aC h2,he]
variable {w : World}
theorem Gn (a : OA) (n c : Nat) (l : Lz) (a' : OA) (n' c' : Nat) (l' : Lz) (h : Ints w a n l) (h' : Ints w a' n' l') :
  Calls prog 240 #[.slice a n c,.slice a' n' c'] w (i6 w (decide (l=l'))):=by
 have Hl:=Z5 h.len;have Hl':=Z5 h'.len;have hpl:=h.pl;have hpl':=h'.pl;have hmax:=h.max;unfold maxLen at hmax;by_cases hn : n=n'
 ·subst hn;have hnn : ((n : Int) != n)=false:=by simp
  go_enter func240,ntmps240;go_wp2_with fail;go_loopw [13] (λiv wr=>∃k : Nat,k<=n/\iv = .int .i64 k/\Hid (l.take k=l'.take k)/\bf w wr) (λi _=>n - (intOf i).toNat);case atStart=>exact ⟨0,Ni _,rfl,rfl,Sf _⟩
  case round =>
   obtain ⟨k,hk,rfl,htk,hd⟩:=hrel
   by_cases hlt : k<n
   ·have c1:=(h.drawn hd).cell k hlt
    have c2:=(h'.drawn hd).cell k hlt
    by_cases he : nth l k=nth l' k
    ·have he' : (nth l k != nth l' k)=false:=by simpa using he
     have Hs : Hid (l.take (k+1)=l'.take (k+1)):=ug htk.out (by rw [Hl.out];exact hlt) (by rw [Hl'.out];exact hlt) he
     clear he
     go_wp2_with fail
     go_quiet (fail)
     go_wp2
     go_roundw
     case rel=>exact ⟨k+1,by omega,by go_num,Hs.out,hd.drewN _⟩
     case measure=>simp [intOf] <;> omega
    ·have he' : (nth l k != nth l' k)=true:=by simpa using he
     have Hs : Hid (decide (l=l')=false):=by show _=_;simp;intro e;exact he (by rw [e])
     clear he
     go_wp2_with fail
     go_quiet (fail)
     go_wp2
     go_ret
     exact ⟨aZ Hs.out.symm,hd.drewN _⟩
   ·obtain rfl : k=n:=by omega
    have Hs : Hid (decide (l=l')=true):=by show _=_;have:=htk.out;rw [No (by rw [Hl.out];exact Na _),No (by rw [Hl'.out];exact Na _)] at this;simpa using this
    go_wp2_with fail
    go_ret
    exact ⟨aZ Hs.out.symm,hd⟩
 ·have hnn : ((n : Int) != n')=true:=by simp;omega
  have Hs : Hid (decide (l=l')=false):=by show _=_;simp;intro e;have e1:=Hl.out;have e2:=Hl'.out;rw [e] at e1;omega
  clear hn;go_enter func240,ntmps240;go_wp2_with fail;go_ret;exact ⟨aZ Hs.out.symm,Sf _⟩
theorem xV (a : OA) (n c : Nat) (l : ZZ) (a' : OA) (n' c' : Nat) (l' : ZZ) (h : br w a n l) (h' : br w a' n' l') :
  Calls prog 239 #[.slice a n c,.slice a' n' c',.func (.func 240) #[] #[]] w (i6 w (decide (l=l'))):=by
 have Hl:=Z5 h.len;have Hl':=Z5 h'.len;have hpl:=h.pl;have hpl':=h'.pl;have hmax:=h.max;unfold maxLen at hmax;by_cases hn : n=n'
 ·subst hn;have hnn : ((n : Int) != n)=false:=by simp
  go_enter func239,ntmps239;go_wp2_with fail;go_loopw [17] (λiv wr=>∃k : Nat,k<=n/\iv = .int .i64 k/\Hid (l.take k=l'.take k)/\bf w wr) (λi _=>n - (intOf i).toNat);case atStart=>exact ⟨0,Ni _,rfl,rfl,Sf _⟩
  case round =>
   obtain ⟨k,hk,rfl,htk,hd⟩:=hrel
   by_cases hlt : k<n
   ·obtain ⟨b1,n1,d1,c1,i1⟩:=(h.drawn hd).cell k hlt
    obtain ⟨b2,n2,d2,c2,i2⟩:=(h'.drawn hd).cell k hlt
    go_wp2_with fail
    refine (Gn _ _ _ _ _ _ _ _ i1 i2).mono ?_
    rintro e w2 ⟨rfl,hd2⟩
    by_cases he : ai l k=ai l' k
    ·have he' : decide (ai l k=ai l' k)=true:=by simpa using he
     have Hs : Hid (l.take (k+1)=l'.take (k+1)):=sJ htk.out (by rw [Hl.out];exact hlt) (by rw [Hl'.out];exact hlt) he
     rw [he']
     clear he he'
     go_wp2_with fail
     go_roundw
     case rel=>exact ⟨k+1,by omega,by go_num,Hs.out,hd.trans hd2⟩
     case measure=>simp [intOf] <;> omega
    ·have he' : decide (ai l k=ai l' k)=false:=by simpa using he
     have Hs : Hid (decide (l=l')=false):=by show _=_;simp;intro e;exact he (by rw [e])
     rw [he']
     clear he he'
     go_wp2_with fail
     go_ret
     exact ⟨aZ Hs.out.symm,hd.trans hd2⟩
   ·obtain rfl : k=n:=by omega
    have Hs : Hid (decide (l=l')=true):=by show _=_;have:=htk.out;rw [No (by rw [Hl.out];exact Na _),No (by rw [Hl'.out];exact Na _)] at this;simpa using this
    go_wp2_with fail
    go_ret
    exact ⟨aZ Hs.out.symm,hd⟩
 ·have hnn : ((n : Int) != n')=true:=by simp;omega
  have Hs : Hid (decide (l=l')=false):=by show _=_;simp;intro e;have e1:=Hl.out;have e2:=Hl'.out;rw [e] at e1;omega
  clear hn;go_enter func239,ntmps239;go_wp2_with fail;go_ret;exact ⟨aZ Hs.out.symm,Sf _⟩
end
def eB (P M : Int) (mod : Lz) (cols : Int) (L : ZZ) : Int :=
 if eJ P M mod cols L=0 then (if dc (af P M.toNat mod) L cols.toNat=L then 0 else 5) else eJ P M mod cols L
def yh (P M : Int) (mod : Lz) (cols : Int) (a : OA) (n c : Nat) (L : ZZ) (w : World) (e : Ending) (w' : World) : Prop :=
 SW w w'/\(
 (eB P M mod cols L ≠ 0/\e = .returned (.tuple #[.agg #[.pointer none,.int .i64 0,.slice none 0 0,.slice none 0 0],.int .i64 (eB P M mod cols L)])) \/
 (eB P M mod cols L=0/\∃(m b : Nat),cols=m/\∃ap cp,e = .returned (.tuple #[.agg #[.pointer (some ⟨b,0,none⟩),.int .i64 m,.slice a n c,.slice ap (bw (af P M.toNat mod) L m).length cp],.int .i64 0]) /\
  BT w.heap.size w' b (af P M.toNat mod)/\w.heap.size<=b/\cR w.heap.size w' ap (bw (af P M.toNat mod) L m).length (bw (af P M.toNat mod) L m)))
theorem my (P M : Int) (am : OA) (mn cm : Nat) (mod : Lz) (cols : Int) (a : OA) (n c : Nat) (L : ZZ) (w : World) (hmod : Ints w am mn mod) (hi : br w a n L) :
  Calls prog 190 #[.agg #[.int .i64 P,.int .i64 M,.slice am mn cm],.agg #[.int .i64 cols,.slice a n c]] w (yh P M mod cols a n c L w):=by
 have Hlen:=Z5 hi.len;go_enter func190,ntmps190;go_wp2_with fail;obtain ⟨W,hW⟩ : ∃W : World,W=(((w.alloc (.cells #[.int .i64 P,.int .i64 M,.slice am mn cm] 24)).alloc (.cells #[.int .i64 cols,.slice a n c] 94)).alloc (.cells #[.pointer none,.int .i64 0,.slice none 0 0,.slice none 0 0] 210)):=⟨_,rfl⟩
 rw [<- hW];have hbW : SW w W:=by rw [hW];exact mF _ _ _ _
 have hsW : W.heap.size=w.heap.size+3:=by rw [hW];simp
 have x0 : aN W w.heap.size [.int .i64 P,.int .i64 M,.slice am mn cm]:=by rw [hW];exact ((R9 _ _ _ rfl).alloc _).alloc _
 have x1 : aN W (w.heap.size+1) [.int .i64 cols,.slice a n c]:=by rw [hW];exact (R9 _ _ _ (by simp)).alloc _
 have x2 : aN W (w.heap.size+1+1) [.pointer none,.int .i64 0,.slice none 0 0,.slice none 0 0]:=by rw [hW];exact R9 _ _ _ (by simp)
 have HX:=Z5 (Np x0 (Np x1 x2));have HsW:=Z5 hsW;have hiW:=hi.ah hbW;have hmW:=hmod.ah hbW;clear hW hsW x0 x1 x2;refine (qN P M am mn cm mod cols a n c L W hmW hiW).mono ?_;rintro e w1 ⟨hb1,⟨he,rfl⟩ | ⟨he,m,rfl,a2,c2,ap,cp,rfl,hM2,hp2⟩⟩
 ·have hbw1:=RZ hbW hb1;have HB : Hid (eB P M mod cols L=eJ P M mod cols L):=by show _=_;rw [eB,Nf he]
  have HE:=Z5 he;have he' : (eJ P M mod cols L != 0)=true:=by simpa using he
  clear he;generalize eJ P M mod cols L=er at *;have x2:=HX.out.2.2.ah hb1;have f0:=x2.frozen 0;have f1:=x2.frozen 1;have f2:=x2.frozen 2;have f3:=x2.frozen 3;have k0:=x2.cell 0 rfl;have k1:=x2.cell 1 rfl;have k2:=x2.cell 2 rfl;have k3:=x2.cell 3 rfl;clear x2;have hz : w.heap.size+1+1<w1.heap.size:=by have:=hb1.size;have:=HsW.out;omega
  go_wp2_with fail;exact bodyPost_ret (v:=.tuple #[.agg #[.pointer none,.int .i64 0,.slice none 0 0,.slice none 0 0],.int .i64 er]) (by simp [results,results190,go_sem,k0,k1,k2,k3,hz]) rfl
   ⟨(((((hbw1.setCell (by simp;omega) _).setCell (by simp;omega) _).setCell (by simp;omega) _).setCell (by simp;omega) _).alloc (by simp;omega) _),.inl ⟨by rw [HB.out];exact HE.out,by rw [HB.out]⟩⟩
 ·have hbw1:=RZ hbW hb1;have hb2 : SW w1 (w1.alloc (.cells #[.int .i64 m,.slice a2 (bw (af P M.toNat mod) L m).length c2] 94)):=an _ _;have hz : w.heap.size+1+1<w1.heap.size:=by have:=hb1.size;have:=HsW.out;omega
  have x1:=HX.out.2.1.ah hb1;have j0:=x1.cell 0 rfl;have j1:=x1.cell 1 rfl;have He:=Z5 he;have hz1 : w.heap.size+1<w1.heap.size:=by omega
  clear x1 he;go_wp2_with fail;refine (xV _ _ _ _ _ _ _ _ (hM2.jt.ah hb2) ((hiW.ah hb1).ah hb2)).mono ?_;rintro e w3 ⟨rfl,hd3⟩;have hb3 : SW w1 w3:=RZ hb2 hd3.below;have hbw3:=RZ hbw1 hb3;have hz3 : w.heap.size+1+1<w3.heap.size:=NR hz hb3.size;have x0:=(HX.out.1.ah hb1).ah hb3;have x1:=(HX.out.2.1.ah hb1).ah hb3;have x2:=(HX.out.2.2.ah hb1).ah hb3;by_cases hc : dc (af P M.toNat mod) L m=L
  ·have hc' : decide (dc (af P M.toNat mod) L m=L)=true:=by simpa using hc
   have HB : Hid (eB P M mod m L=0):=by show _=_;rw [eB,Nd He.out,Nb,Nd hc]
   rw [hc'];have hmW3:=(hmW.ah hb1).ah hb3;have i0:=x0.cell 0 rfl;have i1:=x0.cell 1 rfl;have i2:=x0.cell 2 rfl;have hfb : bA P M mod=true:=by
    have:=He.out;unfold eJ at this;split at this
    ·assumption
    ·omega
   have Hfb:=Z5 hfb;clear hc hc' x0 x1 hfb;go_wp2_with fail;refine (ef P M am mn cm mod w3 hmW3).mono ?_;rintro e w4 (⟨hB,rfl,hb4⟩ | ⟨hB,b,rfl,hG,hbl,hb4⟩)
   ·rw [Hfb.out] at hB;cases hB
   ·clear hB;have hbw4:=RZ hbw3 hb4;have x1:=((HX.out.2.1.ah hb1).ah hb3).ah hb4;have x2:=((HX.out.2.2.ah hb1).ah hb3).ah hb4;have j0:=x1.cell 0 rfl;have j1:=x1.cell 1 rfl;have f0:=x2.frozen 0;have f1:=x2.frozen 1;have f2:=x2.frozen 2;have f3:=x2.frozen 3;have k0:=x2.cell 0 rfl;have k1:=x2.cell 1 rfl;have k2:=x2.cell 2 rfl;have k3:=x2.cell 3 rfl;have hp4:=(hp2.ah hb3).ah hb4;have hF : yh P M mod m a n c L w (.returned (.tuple #[.agg #[.pointer (some ⟨b,0,none⟩),.int .i64 m,.slice a n c,.slice ap (bw (af P M.toNat mod) L m).length cp],.int .i64 0]))
      ((((w4.setCell ⟨w.heap.size+1+1,0,none⟩ (.pointer (some ⟨b,0,none⟩))).setCell ⟨w.heap.size+1+1,1,none⟩ (.int .i64 m)).setCell ⟨w.heap.size+1+1,2,none⟩ (.slice a n c)).setCell ⟨w.heap.size+1+1,3,none⟩ (.slice ap (bw (af P M.toNat mod) L m).length cp)):=by
     have hs:=HsW.out;have hs3:=hb3.size;refine ⟨(((hbw4.setCell (by simp;omega) _).setCell (by simp;omega) _).setCell (by simp;omega) _).setCell (by simp;omega) _,.inr ⟨HB.out,m,b,rfl,ap,cp,rfl,?_,?_,?_⟩⟩
     ·exact ((((hG.setCell (by simp;omega) _).setCell (by simp;omega) _).setCell (by simp;omega) _).setCell (by simp;omega) _).mono (by omega)
     ·omega
     ·exact ((((hp4.setCell (by simp;omega) _).setCell (by simp;omega) _).setCell (by simp;omega) _).setCell (by simp;omega) _).mono (by omega)
    have HF:=Z5 hF;clear hF hp4 hp2 x1 x2;generalize (bw (af P M.toNat mod) L m).length=k at *;go_wp2_with fail;exact bodyPost_ret (v:=.tuple #[.agg #[.pointer (some ⟨b,0,none⟩),.int .i64 m,.slice a n c,.slice ap k cp],.int .i64 0]) (by simp [results,results190,go_sem,k0,k1,k2,k3]) rfl HF.out
  ·have hc' : decide (dc (af P M.toNat mod) L m=L)=false:=by simpa using hc
   have HB : Hid (eB P M mod m L=5):=by show _=_;rw [eB,Nd He.out,Nb,Nf hc]
   rw [hc'];have f0:=x2.frozen 0;have f1:=x2.frozen 1;have f2:=x2.frozen 2;have f3:=x2.frozen 3;have k0:=x2.cell 0 rfl;have k1:=x2.cell 1 rfl;have k2:=x2.cell 2 rfl;have k3:=x2.cell 3 rfl;clear hc hc' x0 x1 x2;go_wp2_with fail;exact bodyPost_ret (v:=.tuple #[.agg #[.pointer none,.int .i64 0,.slice none 0 0,.slice none 0 0],.int .i64 5]) (by simp [results,results190,go_sem,k0,k1,k2,k3]) rfl
    ⟨(((hbw3.setCell (by simp;omega) _).setCell (by simp;omega) _).setCell (by simp;omega) _).setCell (by simp;omega) _,.inl ⟨by rw [HB.out];omega,by rw [HB.out]⟩⟩
theorem xo (P M : Int) (am : OA) (mn cm : Nat) (mod : Lz) (cols : Int) (a : OA) (n c : Nat) (L : ZZ) (w : World) (hmod : Ints w am mn mod) (hi : br w a n L) :
  Calls prog 143 #[.agg #[.int .i64 P,.int .i64 M,.slice am mn cm],.agg #[.int .i64 cols,.slice a n c]] w λe w'=>e = .returned (.int .i64 (eB P M mod cols L))/\SW w w':=by
 have Hal:=Z5 (bN w (.cells #[.int .i64 P,.int .i64 M,.slice am mn cm] 24) (.cells #[.int .i64 cols,.slice a n c] 94));go_enter func143,ntmps143;go_wp2_with fail;have hb:=Hal.out;generalize (w.alloc (.cells #[.int .i64 P,.int .i64 M,.slice am mn cm] 24)).alloc (.cells #[.int .i64 cols,.slice a n c] 94)=W at *;refine (my P M am mn cm mod cols a n c L W (hmod.ah hb) (hi.ah hb)).mono ?_;rintro e w1 ⟨hb1,⟨he,rfl⟩ | ⟨he,m,b,rfl,ap,cp,rfl,hG,hbl,hp⟩⟩
 ·have hbw:=RZ hb hb1;clear he;go_wp2_with fail;go_ret;exact ⟨rfl,hbw.alloc hbw.size _⟩
 ·have hbw:=RZ hb hb1;have He:=Z5 he;clear he hp;generalize (bw (af P M.toNat mod) L m).length=k at *;go_wp2_with fail;go_ret;exact ⟨aP He.out.symm,hbw.alloc hbw.size _⟩
theorem qE (P M : Int) (am : OA) (mn cm : Nat) (N : Int) (a : OA) (n c : Nat) (w : World) :
  Calls prog 91 #[.agg #[.int .i64 P,.int .i64 M,.slice am mn cm,.int .i64 N,.slice a n c]] w λe w'=>e = .returned (.agg #[.int .i64 N,.slice a n c])/\SW w w':=by go_enter func91,ntmps91;go_wp2_with fail;exact bodyPost_ret (v:=.agg #[.int .i64 N,.slice a n c]) (by simp [results,results91,go_sem]) rfl ⟨rfl,bN _ _ _⟩
def kY (n : Int) : Int:=if n<1\/64<n then 4 else 0
theorem wK (n : Int) (w : World) : Calls prog 119 #[.int .i64 n] w λe w'=>e = .returned (.int .i64 (kY n))/\w=w':=by
 by_cases h1 : n<1
 ·have Hf : Hid (kY n=4):=by show _=_;rw [kY,Nd (.inl h1)]
  go_enter func119,ntmps119;go_wp2;go_ret;exact ⟨aP Hf.out.symm,rfl⟩
 ·have h1' : decide (n<1)=false:=by simpa using h1
  by_cases h2 : 64<n
  ·have Hf : Hid (kY n=4):=by show _=_;rw [kY,Nd (.inr h2)]
   go_enter func119,ntmps119;go_wp2;go_ret;exact ⟨aP Hf.out.symm,rfl⟩
  ·have Hf : Hid (kY n=0):=by show _=_;rw [kY,Nf (by omega)]
   have h2' : decide (64<n)=false:=by simpa using h2
   go_enter func119,ntmps119;go_wp2;go_ret;exact ⟨aP Hf.out.symm,rfl⟩
def aF (P M : Int) (mod : Lz) (N : Int) (L : ZZ) : Int :=
 if bA P M mod=true then (if kY N=0 then eB P M mod N L else 4) else 1
theorem dr (P M : Int) (am : OA) (mn cm : Nat) (mod : Lz) (N : Int) (a : OA) (n c : Nat) (L : ZZ) (w : World) (hmod : Ints w am mn mod) (hi : br w a n L) :
  Calls prog 88 #[.agg #[.int .i64 P,.int .i64 M,.slice am mn cm,.int .i64 N,.slice a n c]] w λe w'=>e = .returned (.int .i64 (aF P M mod N L))/\SW w w':=by
 go_enter func88,ntmps88;go_wp2_with fail;obtain ⟨W,hW⟩ : ∃W : World,W=w.alloc (.cells #[.int .i64 P,.int .i64 M,.slice am mn cm,.int .i64 N,.slice a n c] 27):=⟨_,rfl⟩
 rw [<- hW];have hbW : SW w W:=by rw [hW];exact an _ _
 have x0 : aN W w.heap.size [.int .i64 P,.int .i64 M,.slice am mn cm,.int .i64 N,.slice a n c]:=by rw [hW];exact R9 _ _ _ rfl
 have HX:=Z5 x0;clear hW x0;refine (xH P M am mn cm mod W (hmod.ah hbW)).mono ?_;rintro e w1 ⟨rfl,hb1⟩;have hbw1:=RZ hbW hb1;by_cases hB : bA P M mod=true
 ·have hE : dF (bA P M mod)=0:=by rw [hB];rfl
  rw [hE];have HB : Hid (aF P M mod N L=if kY N=0 then eB P M mod N L else 4):=by show _=_;rw [aF,Nd hB]
  have x1:=HX.out.ah hb1;have c3:=x1.cell 3 rfl;clear hE hB x1;go_wp2_with fail;refine (wK N w1).mono ?_;rintro e w2 ⟨rfl,rfl⟩;by_cases hl : kY N=0
  ·have HB2 : Hid (aF P M mod N L=eB P M mod N L):=by show _=_;rw [HB.out,Nd hl]
   rw [hl];clear hl;go_wp2_with fail;have hS : ∀V,SW w1 V->V.cell? ⟨w.heap.size,0,none⟩=some (.int .i64 P)/\V.cell? ⟨w.heap.size,1,none⟩=some (.int .i64 M)/\V.cell? ⟨w.heap.size,2,none⟩=some (.slice am mn cm)/\V.cell? ⟨w.heap.size,3,none⟩=some (.int .i64 N)/\V.cell? ⟨w.heap.size,4,none⟩=some (.slice a n c)/\Ints V am mn mod/\br V a n L/\SW w1 V:=by intro V hV;have x1:=(HX.out.ah hb1).ah hV;exact ⟨x1.cell 0 rfl,x1.cell 1 rfl,x1.cell 2 rfl,x1.cell 3 rfl,x1.cell 4 rfl,((hmod.ah hbW).ah hb1).ah hV,((hi.ah hbW).ah hb1).ah hV,hV⟩
   have HS:=Z5 hS;clear hS c3;go_region_held3 (λV=>V.cell? ⟨w.heap.size,0,none⟩=some (.int .i64 P)/\V.cell? ⟨w.heap.size,1,none⟩=some (.int .i64 M)/\V.cell? ⟨w.heap.size,2,none⟩=some (.slice am mn cm)/\V.cell? ⟨w.heap.size,3,none⟩=some (.int .i64 N)/\V.cell? ⟨w.heap.size,4,none⟩=some (.slice a n c)/\Ints V am mn mod/\br V a n L/\SW w1 V)
    ((refine HS.out _ ?_;first | exact (Nc _ _).drew | (go_split_ands;exact RZ (by assumption) (by assumption))))
    (first
     | (go_at_call 91;((with_reducible refine (qE P M am mn cm N a n c _).mono ?_);rintro e w4 ⟨rfl,hb4⟩))
     | (go_at_call 143;((with_reducible refine (xo P M am mn cm mod N a n c L _ (by go_split_ands;assumption) (by go_split_ands;assumption)).mono ?_);rintro e w5 ⟨rfl,hb5⟩)))
   go_wp2_with fail;go_ret;exact ⟨aP HB2.out.symm,RZ hbw1 (by go_split_ands;assumption)⟩
  ·have HB2 : Hid (aF P M mod N L=4):=by show _=_;rw [HB.out,Nf hl]
   have hl4 : kY N=4:=by unfold kY at hl ⊢;split <;> simp_all
   rw [hl4];clear hl hl4;go_wp2_with fail;go_ret;exact ⟨aP HB2.out.symm,hbw1⟩
 ·have hE : dF (bA P M mod)=1:=by
   have : bA P M mod=false:=by simpa using hB
   rw [this];rfl
  rw [hE];have HB : Hid (aF P M mod N L=1):=by show _=_;rw [aF,Nf hB]
  clear hE hB;go_wp2_with fail;go_ret;exact ⟨aP HB.out.symm,hbw1⟩
theorem aG {P M : Int} {mod : Lz} {N : Int} {L : ZZ} (h : aF P M mod N L=0) : bA P M mod=true/\1<=N/\N<=64/\eB P M mod N L=0:=by
 unfold aF at h;split at h
 ·rename_i h1;split at h
  ·rename_i h2;unfold kY at h2;split at h2
   ·omega
   ·exact ⟨h1,by omega,by omega,h⟩
  ·omega
 ·omega
theorem eS {P M : Int} {mod : Lz} {N : Int} {L : ZZ} (h : eB P M mod N L=0) : eJ P M mod N L=0/\dc (af P M.toNat mod) L N.toNat=L:=by
 unfold eB at h;split at h
 ·rename_i h1;split at h
  ·rename_i h2;exact ⟨h1,h2⟩
  ·omega
 ·rename_i h1;exact absurd h h1
theorem nP {P M : Int} {mod : Lz} {N : Int} {L : ZZ} (h : eJ P M mod N L=0) : bA P M mod=true/\iB (af P M.toNat mod).q N L=0:=by
 unfold eJ at h;split at h
 ·rename_i h1;exact ⟨h1,h⟩
 ·omega
def fb (N : Int) (l : Lz) (k : Nat) : Bool:=decide (0<=nth l k) && decide (nth l k<N) && (k == 0 || decide (nth l (k - 1)<nth l k))
def nM (N : Int) (l : Lz) (k : Nat) : Bool:=(List.range k).all (fb N l)
def dk (N : Int) (l : Lz) : Bool:=nM N l l.length
theorem fH {N : Int} {l : Lz} {k : Nat} (h : nM N l k=true) (hk : fb N l k=true) : nM N l (k+1)=true:=by unfold nM at *;rw [Ou,Qq,h];simp [hk]
theorem sY {N : Int} {l : Lz} {k n : Nat} (hk : k<n) (h : fb N l k=false) : nM N l n=false:=by unfold nM;rw [OU];exact ⟨k,List.mem_range.2 hk,by simp [h]⟩
theorem iI {N : Int} {l : Lz} (h : dk N l=true) {k : Nat} (hk : k<l.length) : 0<=nth l k/\nth l k<N/\(0<k->nth l (k - 1)<nth l k):=by unfold dk nM at h;rw [NW] at h;have:=h k (List.mem_range.2 hk);unfold fb at this;simp only [NK,Qp,N8,beq_iff_eq] at this;exact ⟨this.1.1,this.1.2,λh0=>by rcases this.2 with h1 | h1;omega;exact h1⟩
def aR (L : ZZ) (i : Nat) : Lz:=L.map λr=>nth r i
theorem db (L : ZZ) (i : Nat) : (aR L i).length=L.length:=by simp [aR]
theorem cI (L : ZZ) (i k : Nat) (hk : k<L.length) : nth (aR L i) k=nth (ai L k) i:=by rw [aj (by rw [db];exact hk),aC hk];simp [aR]
def fnz : Lz->Nat
 | []=>0
 | x :: l=>if x=0 then fnz l+1 else 0
theorem Ju : ∀l,fnz l<=l.length
 | []=>Na _
 | x :: l=>by have:=Ju l;unfold fnz;split <;> simp <;> omega
theorem vU : ∀(l : Lz) (k : Nat),k<l.length->(∀j,j<k->nth l j=0)->nth l k ≠ 0->fnz l=k
 | [],k,h,_,_=>by simp at h
 | x :: l,0,_,_,h=>by unfold fnz;rw [Nf (by simpa [nth] using h)]
 | x :: l,k+1,h,h0,h1=>by
  have hx : x=0:=by simpa [nth] using h0 0 (by omega)
  unfold fnz;rw [Nd hx,vU l k (by simpa using h) (λj hj=>by simpa [nth] using h0 (j+1) (by omega)) (by simpa [nth] using h1)]
theorem rX : ∀(l : Lz),(∀j,j<l.length->nth l j=0)->fnz l=l.length
 | [],_=>rfl
 | x :: l,h=>by
  have hx : x=0:=by simpa [nth] using h 0 (by simp)
  unfold fnz;rw [Nd hx,rX l (λj hj=>by simpa [nth] using h (j+1) (by simpa using hj))];rfl
theorem pz : ∀(l : Lz),fnz l<l.length->nth l (fnz l) ≠ 0
 | [],h=>by simp at h
 | x :: l,h=>by
  unfold fnz at h ⊢;split
  ·rename_i hx;rw [Nd hx] at h;have:=pz l (by simpa using h);simpa [nth] using this
  ·rename_i hx;simpa [nth] using hx
theorem B3 : ∀(l : Lz) (j : Nat),j<fnz l->nth l j=0
 | [],j,h=>by simp [fnz] at h
 | x :: l,j,h=>by
  unfold fnz at h;split at h
  ·rename_i hx;match j with
   | 0=>simpa [nth] using hx
   | j+1=>have:=B3 l j (by omega);simpa [nth] using this
  ·omega
def oQ (l : Lz) : Int:=if fnz l<l.length then fnz l else -1
section
def ez (O : aL) (v : Lz) (x : Int) (r : Lz) : Lz:=List.zipWith (λp y=>O.add p (O.neg (O.mul x y))) v r
theorem fZ (O : aL) (v : Lz) (x : Int) (r : Lz) (h : r.length=v.length) : (ez O v x r).length=v.length:=by simp [ez,h]
theorem ga (O : aL) (v : Lz) (x : Int) (r : Lz) (i : Nat) (h : r.length=v.length) (hi : i<v.length) : nth (ez O v x r) i=O.add (nth v i) (O.neg (O.mul x (nth r i))):=by rw [aj (show i<(ez O v x r).length by rw [fZ _ _ _ _ h];exact hi),aj (show i<r.length by omega),aj hi];simp [ez]
def eK (O : aL) (u : Lz) (p : Int) (r : Lz) : Lz:=if nth u p.toNat=0 then u else ez O u (nth u p.toNat) r
def redTo (O : aL) (L : ZZ) (Q : Lz) (v : Lz) : Nat->Lz
 | 0=>v
 | k+1=>eK O (redTo O L Q v k) (nth Q k) (ai L k)
structure BS where
 rows : ZZ
 place : Lz
def BS.red (O : aL) (s : BS) (v : Lz) : Lz:=redTo O s.rows s.place v s.rows.length
def BS.eF (O : aL) (s : BS) (v : Lz) : Bool:=decide (fnz (s.red O v)<(s.red O v).length)
def BS.next (O : aL) (s : BS) (v : Lz) : BS :=
 if s.eF O v=true then ⟨s.rows ++ [(s.red O v).map (O.mul (O.inv (nth (s.red O v) (fnz (s.red O v)))))],s.place ++ [(fnz (s.red O v) : Int)]⟩ else s
structure BS.Ok (El : Int->Prop) (n : Nat) (s : BS) : Prop where
 rws : bp El n s.rows
 len : s.place.length=s.rows.length
 plc : ∀i,i<s.rows.length->0<=nth s.place i/\nth s.place i<n
theorem yZ {O : aL} {El : Int->Prop} (hO : uT O El) {v r : Lz} {x : Int} (hv : ∀y ∈ v,El y) (hr : ∀y ∈ r,El y) (hx : El x) : ∀y ∈ ez O v x r,El y:=by intro y hy;unfold ez at hy;rw [Qm] at hy;obtain ⟨i,hi,rfl⟩:=hy;rw [PV];exact hO.add _ _ (hv _ (NO _)) (hO.neg _ (hO.mul _ _ hx (hr _ (NO _))))
theorem mO {O : aL} {El : Int->Prop} (hO : uT O El) {n : Nat} {L : ZZ} {Q v : Lz} (hL : bp El n L) (hQ : ∀i,i<L.length->0<=nth Q i/\nth Q i<n)
  (hv : v.length=n/\∀y ∈ v,El y) : ∀k,k<=L.length->(redTo O L Q v k).length=n/\∀y ∈ redTo O L Q v k,El y
 | 0,_=>hv
 | k+1,hk=>by
  have ih:=mO hO hL hQ hv k (by omega);have hr:=hL.row (i:=k) (by omega);have hq:=hQ k (by omega);rw [redTo,eK];split
  ·exact ih
  ·exact ⟨by rw [fZ _ _ _ _ (by omega)];exact ih.1,yZ hO ih.2 hr.2 (ih.2 _ (aH (by omega)))⟩
theorem BS.Ok.next {O : aL} {El : Int->Prop} (hO : uT O El) {n : Nat} {s : BS} (h : s.Ok El n) {v : Lz} (hv : v.length=n/\∀y ∈ v,El y) : (s.next O v).Ok El n:=by
 unfold BS.next;split
 ·rename_i ht;have hu:=mO hO h.rws h.plc hv s.rows.length (Na _);have hf : fnz (s.red O v)<(s.red O v).length:=by simpa [BS.eF] using ht
  have hne:=pz _ hf;have hul : (s.red O v).length=n:=hu.1;have hue : ∀y ∈ s.red O v,El y:=hu.2;refine ⟨λr hr=>?_,by simp [h.len],λi hi=>?_⟩
  ·rcases List.mem_append.1 hr with h1 | h1
   ·exact h.rws r h1
   ·rw [List.mem_singleton.1 h1];refine ⟨by rw [Nq];exact hul,λy hy=>?_⟩;obtain ⟨z,hz,rfl⟩:=List.mem_map.1 hy;exact hO.mul _ _ (hO.inv _ (hue _ (aH hf)) hne) (hue z hz)
  ·simp only [Nl,ND] at hi;by_cases h1 : i<s.rows.length
   ·have:=h.plc i h1;have e : nth (s.place ++ [(fnz (s.red O v) : Int)]) i=nth s.place i:=by simp only [nth,Ng];rw [Ny (by rw [h.len];exact h1)]
    rw [e];exact this
   ·obtain rfl : i=s.rows.length:=by omega
    have e : nth (s.place ++ [(fnz (s.red O v) : Int)]) s.rows.length=fnz (s.red O v):=by simp only [nth,Ng];rw [<- h.len];simp
    rw [e];omega
 ·exact h
structure rJ (w : World) (B bb b : Nat) (ar : OA) (cr : Nat) (R : Z4) (ap : OA) (cp : Nat) (s : BS) : Prop where
 bB : B<=bb
 c0 : w.cell? ⟨bb,0,none⟩=some (.pointer (some ⟨b,0,none⟩))
 c1 : w.cell? ⟨bb,1,none⟩=some (.slice ar s.rows.length cr)
 c2 : w.cell? ⟨bb,2,none⟩=some (.slice ap s.rows.length cp)
 fr : ∀i,w.frozen? ⟨bb,i,none⟩=false
 om : aT w B ar s.rows.length cr R s.rows
 pl : w.ownsRow B 3 1 (.slice ap s.rows.length cp) s.rows.length (s.place.map (Value.int .i64))
 d1 : ¬ cU ar R bb
 d2 : gE ap bb
 d3 : ap ≠ none->¬ cU ar R (ablk ap)
def vo (bb : Nat) (ar : OA) (R : Z4) (ap : OA) (x : Nat) : Prop:=x=bb\/cU ar R x\/(ap ≠ none/\x=ablk ap)
theorem DK {w w' : World} {B : Nat} {e : TypeId} {a : OA} {c n : Nat} {xs : List Value} (h : w.ownsRow B e 1 (.slice a n c) n xs) (hb : a ≠ none->w'.heap[ablk a]? = w.heap[ablk a]?) : w'.ownsRow B e 1 (.slice a n c) n xs:=by
 by_cases ha : a=none
 ·subst ha;refine ⟨h.1,?_⟩;rcases h.2 with h2 | ⟨g,cap,cur,hv,_⟩
  ·exact .inl h2
  ·cases hv
 ·exact gZ h (hb ha)
namespace rJ
variable {w w' : World} {B bb b : Nat} {ar : OA} {cr : Nat} {R : Z4} {ap : OA} {cp : Nat} {s : BS}
theorem lt (h : rJ w B bb b ar cr R ap cp s) (x : Nat) (hx : vo bb ar R ap x) : B<=x/\x<w.heap.size:=by
 rcases hx with rfl | hx | ⟨h1,rfl⟩
 ·exact ⟨h.bB,Nt w _ h.c0⟩
 ·exact h.om.lt x hx
 ·exact aY h.pl h1
theorem bq (h : rJ w B bb b ar cr R ap cp s) (hb : ∀x,vo bb ar R ap x->w'.heap[x]? = w.heap[x]?) : rJ w' B bb b ar cr R ap cp s:=by
 have hbb:=hb bb (.inl rfl);exact ⟨h.bB,(NT (w:=w) (a:=⟨bb,0,none⟩) hbb).trans h.c0,(NT (w:=w) (a:=⟨bb,1,none⟩) hbb).trans h.c1,(NT (w:=w) (a:=⟨bb,2,none⟩) hbb).trans h.c2,
  λi=>(N1 (w:=w) (a:=⟨bb,i,none⟩) hbb).trans (h.fr i),h.om.bq λx hx=>hb x (.inr (.inl hx)),DK h.pl λha=>hb _ (.inr (.inr ⟨ha,rfl⟩)),h.d1,h.d2,h.d3⟩
theorem ah (h : rJ w B bb b ar cr R ap cp s) (hb : SW w w') : rJ w' B bb b ar cr R ap cp s:=h.bq λx hx=>hb.block x (h.lt x hx).2
theorem only (h : rJ w B bb b ar cr R ap cp s) {av : OA} (ho : dp av w w') (hav : av ≠ none->¬ vo bb ar R ap (ablk av)) : rJ w' B bb b ar cr R ap cp s :=
 h.bq λx hx=>ho.block x (h.lt x hx).2 λ⟨h1,h2⟩=>hav h1 (h2 ▸ hx)
end rJ
theorem aT.push {w w' : World} {B : Nat} {a : OA} {n c : Nat} {R : Z4} {L : ZZ} (h : aT w B a n c R L) {r : OA} {rc : Nat} {l : Lz}
  (hr : w.ownsRow B 3 1 (.slice r l.length rc) l.length (l.map (Value.int .i64))) (hra : r ≠ none->¬ cU a R (ablk r))
  {a' : OA} {c' : Nat} (hown : w'.ownsRow B 22 1 (.slice a' (n+1) c') (n+1) (List.zipWith l5 R L ++ [.slice r l.length rc])) (hg : w.grownBy w' (Value.slice a n c).ownBlock)
  (hap : ∀b,b<w.heap.size->gE a b->gE a' b) : aT w' B a' (n+1) c' (R ++ [(r,rc)]) (L ++ [l]):=by
 have hn' : a' ≠ none:=by
  intro e;have:=(Sv hown)
  obtain ⟨x,y,hv,hp⟩:=this;cases hv
  have:=hp (by omega);rw [e] at this;cases this
 have nthL : ∀i,ai (L ++ [l]) i=if i<n then ai L i else if i=n then l else []:=by
  intro i;simp only [ai,Ng];by_cases h1 : i<n
  ·rw [Nd h1,Ny (by rw [h.ll];exact h1)]
  ·rw [Nf h1];by_cases h2 : i=n
   ·subst h2;rw [Nd rfl,<- h.ll];simp
   ·rw [Nf h2,Oo (by simp [h.ll];omega)];rfl
 have nthAA : ∀i,aV (R ++ [(r,rc)]) i=if i<n then aV R i else if i=n then (r,rc) else (none,0):=by
  intro i;simp only [aV,Ng];by_cases h1 : i<n
  ·rw [Nd h1,Ny (by rw [h.rl];exact h1)]
  ·rw [Nf h1];by_cases h2 : i=n
   ·subst h2;rw [Nd rfl,<- h.rl];simp
   ·rw [Nf h2,Oo (by simp [h.rl];omega)];rfl
 have rowKeep : ∀ {x : OA} {cx m : Nat} {xs : List Value},w.ownsRow B 3 1 (.slice x m cx) m xs->(x ≠ none->gE a (ablk x))->w'.ownsRow B 3 1 (.slice x m cx) m xs:=by intro x cx m xs ho h2;exact DK ho λhx=>hg.block _ (aY ho hx).2 λe=>(h2 hx).own n c e.symm
 have rA : r ≠ none->gE a (ablk r):=λhr0=>by
  by_cases ha : a=none
  ·exact .inl ha
  ·exact .inr λe=>hra hr0 (.inl ⟨ha,e.symm⟩)
 have oA : ∀i,i<n->(aV R i).1 ≠ none->gE a (ablk (aV R i).1):=λi hi hx=>by
  rcases h.sL i hi with h2 | h2
  ·exact absurd h2 hx
  ·exact .inr λe=>h2 e.symm
 have toA : ∀ {x : OA} {cx m : Nat} {xs : List Value},w.ownsRow B 3 1 (.slice x m cx) m xs->(x ≠ none->gE a (ablk x))->gE x (ablk a'):=by
  intro x cx m xs ho h2;by_cases hx : x=none
  ·exact .inl hx
  ·rcases hap _ (aY ho hx).2 (h2 hx) with h3 | h3
   ·exact absurd h3 hn'
   ·exact .inr λe=>h3 e.symm
 have ezip : List.zipWith l5 (R ++ [(r,rc)]) (L ++ [l])=List.zipWith l5 R L ++ [.slice r l.length rc]:=by rw [List.zipWith_append (by rw [h.rl,h.ll])];rfl
 refine ⟨by simp [h.rl],by simp [h.ll],by rw [ezip];exact hown,λi hi=>?_,λi hi=>?_,λi j hi hj hij=>?_⟩
 ·rw [nthL,nthAA];by_cases h1 : i<n
  ·simp only [Nd h1];exact rowKeep (h.row i h1) (oA i h1)
  ·obtain rfl : i=n:=by omega
   simp only [Nf h1,if_true];exact rowKeep hr rA
 ·rw [nthAA];by_cases h1 : i<n
  ·simp only [Nd h1];exact toA (h.row i h1) (oA i h1)
  ·obtain rfl : i=n:=by omega
   simp only [Nf h1,if_true];exact toA hr rA
 ·rw [nthAA,nthAA];by_cases h1 : i<n
  ·by_cases h2 : j<n
   ·simp only [Nd h1,Nd h2];exact h.sep i j h1 h2 hij
   ·obtain rfl : j=n:=by omega
    simp only [Nd h1,Nf h2,if_true];by_cases hr0 : r=none
    ·exact .inr (.inl hr0)
    ·by_cases hx : (aV R i).1=none
     ·exact .inl hx
     ·exact .inr (.inr λe=>hra hr0 (by rw [e];exact aT.mS (by rw [h.rl];exact h1) hx))
  ·obtain rfl : i=n:=by omega
   have h2 : j<i:=by omega
   simp only [Nf h1,Nd h2,if_true];by_cases hr0 : r=none
   ·exact .inl hr0
   ·by_cases hx : (aV R j).1=none
    ·exact .inr (.inl hx)
    ·exact .inr (.inr λe=>hra hr0 (by rw [<- e];exact aT.mS (by rw [h.rl];exact h2) hx))
theorem cU.push {w : World} {B : Nat} {a : OA} {n c : Nat} {R : Z4} {L : ZZ} (h : aT w B a n c R L) {r : OA} {rc : Nat} {a' : OA}
  (hap : ∀b,b<w.heap.size->gE a b->gE a' b) {x : Nat} (hx : cU a' (R ++ [(r,rc)]) x) : cU a R x\/(r ≠ none/\x=ablk r)\/w.heap.size<=x:=by
 rcases hx with ⟨h1,rfl⟩ | ⟨i,hi,h1,rfl⟩
 ·by_cases hlt : ablk a'<w.heap.size
  ·by_cases h2 : gE a (ablk a')
   ·rcases hap _ hlt h2 with h3 | h3
    ·exact absurd h3 h1
    ·exact absurd rfl h3
   ·left;left;refine ⟨λe=>h2 (.inl e),?_⟩;apply NH;intro e;exact h2 (.inr λe2=>e e2.symm)
  ·exact .inr (.inr (by omega))
 ·simp only [Nl,ND] at hi;by_cases h2 : i<R.length
  ·have e : aV (R ++ [(r,rc)]) i=aV R i:=by simp only [aV,Ng];rw [Ny h2]
   rw [e] at h1 ⊢;exact .inl (aT.mS h2 h1)
  ·obtain rfl : i=R.length:=by omega
   have e : aV (R ++ [(r,rc)]) R.length=(r,rc):=by simp [aV]
   rw [e] at h1 ⊢;exact .inr (.inl ⟨h1,rfl⟩)
namespace rJ
variable {V w4 w5 X w6 : World} {B bb b : Nat} {ar : OA} {cr : Nat} {R : Z4} {ap : OA} {cp : Nat} {s : BS}
theorem JC {a4 a5 : OA} {c4 c5 k : Nat} {N : Lz} {o : Obj} (h : rJ V B bb b ar cr R ap cp s) (hk : s.rows.length=k) (hVB : B<=V.heap.size) (hb4 : SW V w4)
  (hown4 : w4.ownsRow V.heap.size 3 1 (.slice a4 N.length c4) N.length (N.map (Value.int .i64)))
  (hown5 : w5.ownsRow B 22 1 (.slice a5 (k+1) c5) (k+1) (List.zipWith l5 R s.rows ++ [.slice a4 N.length c4])) (hgr5 : (w4.alloc o).grownBy w5 (Value.slice ar k cr).ownBlock)
  (hap5 : ∀x,x<(w4.alloc o).heap.size->gE ar x->gE a5 x) (p1 : ∃v,w5.cell? ⟨bb,1,none⟩=some v) :
  ∃ar' cr' R',(w5.setCell ⟨bb,1,none⟩ (.slice a5 (k+1) c5)).cell? ⟨bb,1,none⟩=some (.slice ar' (k+1) cr')/\aT (w5.setCell ⟨bb,1,none⟩ (.slice a5 (k+1) c5)) B ar' (k+1) cr' R' (s.rows ++ [N]) /\
   aE V (w5.setCell ⟨bb,1,none⟩ (.slice a5 (k+1) c5)) (λx=>x=bb\/cU ar R x) (λx=>x=bb\/cU ar' R' x)/\¬ cU ar' R' bb /\
   (∀i v,i ≠ 1->V.cell? ⟨bb,i,none⟩=some v->(w5.setCell ⟨bb,1,none⟩ (.slice a5 (k+1) c5)).cell? ⟨bb,i,none⟩=some v)/\∀i,(w5.setCell ⟨bb,1,none⟩ (.slice a5 (k+1) c5)).frozen? ⟨bb,i,none⟩=false:=by
 have hbo : SW V (w4.alloc o):=RZ hb4 (an _ _);have hO4:=h.om.ah hbo;rw [hk] at hO4;have hr : (w4.alloc o).ownsRow B 3 1 (.slice a4 N.length c4) N.length (N.map (Value.int .i64)):=aX (bd hown4 (an _ _)) hVB;have hra : a4 ≠ none->¬ cU ar R (ablk a4):=λh0 hI=>by have h1:=(aY hown4 h0).1;have h2:=(h.om.lt _ hI).2;omega
 have hP:=aT.push hO4 hr hra hown5 hgr5 hap5;have hbb:=h.lt bb (.inl rfl);have haptb : gE ar bb:=by
  by_cases ha : ar=none
  ·exact .inl ha
  ·exact .inr λe=>h.d1 (.inl ⟨ha,e.symm⟩)
 have hsz:=hbo.size;have hpush:=λ{x : Nat} (hx : cU a5 (R ++ [(a4,c4)]) x)=>cU.push hO4 hap5 hx;have hd : ¬ cU a5 (R ++ [(a4,c4)]) bb:=λhI=>by
  rcases hpush hI with h1 | ⟨h1,h2⟩ | h1
  ·exact h.d1 h1
  ·have:=(aY hown4 h1).1;omega
  ·omega
 obtain ⟨v,p1⟩:=p1;refine ⟨a5,c5,R ++ [(a4,c4)],NJ _ _ _ p1,hP.bq λx hx=>Nz _ _ _ _ λe=>hd (by rw [show bb=x from e.symm];exact hx),?_,hd,λi v hi hv=>?_,λi=>?_⟩;rotate_left
 ·rw [NC _ _ _ _ (by simp <;> omega)];exact bT hgr5 (aB hbo hv) haptb
 ·rw [Oq];exact (N1 (w:=w4.alloc o) (a:=⟨bb,i,none⟩) (hgr5.block bb (by omega) λe=>haptb.own k cr e.symm)).trans (eT hbo hbb.2 (h.fr i))
 have hb0 : Below 0 w5 (w5.setCell ⟨bb,1,none⟩ (.slice a5 (k+1) c5)):=(Nc 0 w5).setCell (Ni _) _;refine ⟨hb0.os.trans (hgr5.os.trans hbo.os),hb0.tape.trans (hgr5.tape.trans hbo.tape),hb0.output.trans (hgr5.output.trans hbo.output),Nr hbo.size (Nr hgr5.size hb0.size),λx hx hI=>?_,λx hx=>?_⟩
 ·rw [Nz _ _ _ _ λe=>hI (.inl e)];rw [hgr5.block x (by omega) λe=>?_]
  ·exact hbo.block x hx
  ·apply hI;right;left;cases ar with
   | none=>simp [Value.ownBlock] at e
   | some y=>simp [Value.ownBlock] at e;exact ⟨by simp,by rw [e];rfl⟩
 ·rcases hx with rfl | hx
  ·exact .inl (.inl rfl)
  ·rcases hpush hx with h1 | ⟨h1,h2⟩ | h1
   ·exact .inl (.inr h1)
   ·exact .inr (by have:=(aY hown4 h1).1;omega)
   ·exact .inr (by omega)
theorem JT {a6 : OA} {c6 k : Nat} {f : Int} {L : ZZ} {Q : Lz} {o : Obj} (hB : B<=bb) (x0 : X.cell? ⟨bb,0,none⟩=some (.pointer (some ⟨b,0,none⟩))) (x1 : X.cell? ⟨bb,1,none⟩=some (.slice ar (k+1) cr))
  (x2 : ∃v,X.cell? ⟨bb,2,none⟩=some v)
  (xf : ∀i,X.frozen? ⟨bb,i,none⟩=false) (hO : aT X B ar (k+1) cr R L) (hp : X.ownsRow B 3 1 (.slice ap k cp) k (Q.map (Value.int .i64))) (d1 : ¬ cU ar R bb) (d2 : gE ap bb) (d3 : ap ≠ none->¬ cU ar R (ablk ap))
  (hown6 : w6.ownsRow B 3 1 (.slice a6 (k+1) c6) (k+1) (Q.map (Value.int .i64) ++ [.int .i64 f])) (hgr6 : (X.alloc o).grownBy w6 (Value.slice ap k cp).ownBlock)
  (hap6 : ∀x,x<(X.alloc o).heap.size->gE ap x->gE a6 x) :
  rJ (w6.setCell ⟨bb,2,none⟩ (.slice a6 (k+1) c6)) B bb b ar cr R a6 c6 ⟨L,Q ++ [f]⟩ /\
   aE X (w6.setCell ⟨bb,2,none⟩ (.slice a6 (k+1) c6)) (vo bb ar R ap) (vo bb ar R a6):=by
 have hbb : bb<X.heap.size:=Nt X _ x0;have hbo : SW X (X.alloc o):=an _ _;have hsz:=hbo.size;have hne : a6 ≠ none:=λe=>by
  obtain ⟨y,z,hv,hp⟩:=Sv hown6;cases hv
  have:=hp (by omega);rw [e] at this;cases this
 have aptOf : ∀ {x : Nat},gE ap x->x<X.heap.size->x ≠ ablk a6:=λh2 hx e=>by
  rcases hap6 _ (by omega) h2 with h3 | h3
  ·exact hne h3
  ·exact h3 e.symm
 have hbb6:=aptOf d2 hbb;have blk : ∀x,x<X.heap.size->x ≠ bb->gE ap x->(w6.setCell ⟨bb,2,none⟩ (.slice a6 (k+1) c6)).heap[x]? = X.heap[x]?:=λx hx h1 h2=>by rw [Nz _ _ _ _ h1,hgr6.block x (by omega) λe=>h2.own k cp e.symm];exact hbo.block x hx
 have aptO : ∀x,cU ar R x->gE ap x:=λx hx=>by
  by_cases h0 : ap=none
  ·exact .inl h0
  ·exact .inr λe=>d3 h0 (e ▸ hx)
 have c6k : ∀i v,X.cell? ⟨bb,i,none⟩=some v->w6.cell? ⟨bb,i,none⟩=some v:=λi v hv=>bT hgr6 (bu hv _) d2;have hLl : L.length=k+1:=hO.ll;have hQl : Q.length=k:=by simpa using kS hp
 have hO6 : aT (w6.setCell ⟨bb,2,none⟩ (.slice a6 (k+1) c6)) B ar (k+1) cr R L:=hO.bq λx hx=>blk x (hO.lt x hx).2 (λe=>d1 (e ▸ hx)) (aptO x hx);obtain ⟨v2,x2⟩:=x2;refine ⟨⟨hB,?_,?_,?_,λi=>?_,?_,?_,d1,.inr λe=>hbb6 e.symm,λ_ hI=>?_⟩,?_⟩
 ·rw [NC _ _ _ _ (by simp)];exact c6k _ _ x0
 ·rw [NC _ _ _ _ (by simp)];simpa [hLl] using c6k _ _ x1
 ·simp only [hLl];exact NJ _ _ _ (c6k _ _ x2)
 ·rw [Oq];exact (N1 (w:=X.alloc o) (a:=⟨bb,i,none⟩) (hgr6.block bb (by omega) λe=>d2.own k cp e.symm)).trans (dX hbb (xf i) _)
 ·simp only [hLl];exact hO6
 ·simp only [hLl];have:=fU hown6 (p:=⟨bb,2,none⟩) (.slice a6 (k+1) c6) (.inr λe=>hbb6 e.symm);simpa using this
 ·exact aptOf (aptO _ hI) (hO.lt _ hI).2 rfl
 ·have hb0 : Below 0 w6 (w6.setCell ⟨bb,2,none⟩ (.slice a6 (k+1) c6)):=(Nc 0 w6).setCell (Ni _) _;refine ⟨hb0.os.trans (hgr6.os.trans hbo.os),hb0.tape.trans (hgr6.tape.trans hbo.tape),hb0.output.trans (hgr6.output.trans hbo.output),Nr hbo.size (Nr hgr6.size hb0.size),λx hx hI=>?_,λx hx=>?_⟩
  ·refine blk x hx (λe=>hI (.inl e)) ?_;by_cases h0 : ap=none
   ·exact .inl h0
   ·exact .inr λe=>hI (.inr (.inr ⟨h0,e.symm⟩))
  ·rcases hx with rfl | hx | ⟨h1,rfl⟩
   ·exact .inl (.inl rfl)
   ·exact .inl (.inr (.inl hx))
   ·by_cases hlt : ablk a6<X.heap.size
    ·left;right;right;apply NH;intro hn;have hA : gE ap (ablk a6):=by
      by_cases h0 : ap=none
      ·exact .inl h0
      ·exact .inr λe=>hn ⟨h0,e.symm⟩
     exact aptOf hA hlt rfl
    ·exact .inr (by omega)
end rJ
end
def CC (w0 : World) (bb b : Nat) (ar : OA) (R : Z4) (ap av : OA) (O : aL) (s : BS) (v : Lz) (w : World) (e : Ending) (w' : World) : Prop :=
 ∃ar' cr' R' ap' cp',e = .returned (.bool (s.eF O v))/\rJ w' w0.heap.size bb b ar' cr' R' ap' cp' (s.next O v) /\
  aE w w' (λx=>vo bb ar R ap x\/(av ≠ none/\x=ablk av)) (vo bb ar' R' ap')
def grTo (O : aL) (L : ZZ) (Q : Lz) : Nat->BS × Lz
 | 0=>(⟨[],[]⟩,[])
 | k+1=>((grTo O L Q k).1.next O (aR L (nth Q k).toNat),if (grTo O L Q k).1.eF O (aR L (nth Q k).toNat)=true then (grTo O L Q k).2 ++ [nth Q k] else (grTo O L Q k).2)
def kC (O : aL) (L : ZZ) (Q : Lz) : Lz:=(grTo O L Q Q.length).2
theorem BS.Ct (O : aL) (s : BS) (v : Lz) : (s.next O v).rows.length<=s.rows.length+1:=by unfold BS.next;split <;> simp
theorem aT.empty (w : World) (B : Nat) : aT w B none 0 0 [] [] :=
 ⟨rfl,rfl,bV,λi hi=>by omega,λi hi=>by omega,λi j hi=>by omega⟩
theorem rJ.start {w : World} {B bb b : Nat} (hB : B<=bb) (h : aN w bb [.pointer (some ⟨b,0,none⟩),.slice none 0 0,.slice none 0 0]) : rJ w B bb b none 0 [] none 0 ⟨[],[]⟩ :=
 ⟨hB,h.cell 0 rfl,h.cell 1 rfl,h.cell 2 rfl,λi=>h.frozen i,aT.empty w B,bV,λhI=>by
  rcases hI with ⟨h1,_⟩ | ⟨i,hi,_⟩
  ·exact h1 rfl
  ·simp at hi,.inl rfl,λh1=>absurd rfl h1⟩
theorem EE {El : Int->Prop} {m : Nat} {L : ZZ} (h : bp El m L) {i : Nat} (hi : i<m) : (aR L i).length=L.length/\∀y ∈ aR L i,El y:=by refine ⟨db _ _,λy hy=>?_⟩;unfold aR at hy;obtain ⟨r,hr,rfl⟩:=List.mem_map.1 hy;exact (h r hr).2 _ (aH (by rw [(h r hr).1];exact hi))
theorem B1 {N : Int} {l : Lz} (h : dk N l=true) : ∀k,k<l.length->(k : Int)<=nth l k
 | 0,hk=>(iI h hk).1
 | k+1,hk=>by have ih:=B1 h k (by omega);have:=(iI h hk).2.2 (by omega);rw [PB] at this;omega
theorem jx {N : Int} {l : Lz} (h : dk N l=true) (hN : 0<=N) : (l.length : Int)<=N:=by
 by_cases h0 : l.length=0
 ·omega
 ·have h1:=B1 h (l.length - 1) (by omega);have h2:=(iI h (k:=l.length - 1) (by omega)).2.1;omega
theorem bJ {P M : Int} {mod : Lz} {N : Int} {L : ZZ} (h : aF P M mod N L=0) : ∃m : Nat,N=m/\1<=m/\m<=64/\L.length<=256/\bp (af P M.toNat mod).El m L:=by obtain ⟨h1,h2,h3,h4⟩:=aG h;obtain ⟨h5,h6⟩:=eS h4;obtain ⟨h7,h8⟩:=nP h5;obtain ⟨m,rfl,hm,hl,hR⟩:=qC h8;exact ⟨m,rfl,by omega,by omega,hl,hR⟩
def dS (x : Nat) : Nat->Lz
 | 0=>[]
 | k+1=>if x.testBit k=true then dS x k ++ [(k : Int)] else dS x k
def wS (x : Nat) : Nat:=18446744073709551615 ^^^ x
theorem yA (x i : Nat) (hi : i<64) : (wS x).testBit i = !x.testBit i:=by
 have h : (18446744073709551615 : Nat).testBit i=true:=by have:=Nat.testBit_two_pow_sub_one 64 i;rw [show (2 : Nat) ^ 64 - 1=18446744073709551615 by decide] at this;rw [this];simp [hi]
 rw [wS,RM,h];simp
def LH (O : aL) (L : ZZ) (N x : Nat) : Int:=(kC O L (dS x N)).length+(kC O L (dS (wS x) N)).length - L.length
section
open Go.RowKit
end
def dt (l : Lz) : Lz:=l.mergeSort λx y=>decide (x<=y)
theorem eC (l : Lz) : (dt l).Perm l:=List.mergeSort_perm l _
theorem gv (l : Lz) : (dt l).length=l.length:=(eC l).length_eq
theorem Ex (l : Lz) : (dt l).Pairwise λx y=>x<=y:=by have h:=List.pairwise_mergeSort (le:=λx y : Int=>decide (x<=y)) (λa b c h1 h2=>by simp at *;omega) (λa b=>by simp;omega) l;exact h.imp λh=>by simpa using h
theorem qd : ∀ {l l' : Lz},l.Pairwise (λx y=>x<=y)->l'.Pairwise (λx y=>x<=y)->l.Perm l'->l=l'
 | [],l',_,_,h=>by rw [List.nil_perm] at h;exact h.symm
 | x :: l,[],_,_,h=>by rw [List.perm_nil] at h;exact h
 | x :: l,y :: l',h1,h2,h=>by
  rw [PF] at h1 h2;have hx : x ∈ y :: l':=h.subset (P5 ..);have hy : y ∈ x :: l:=h.symm.subset (P5 ..);have e : x=y:=by
   rcases List.mem_cons.1 hx with e | hx
   ·exact e
   ·rcases List.mem_cons.1 hy with e | hy
    ·exact e.symm
    ·have:=h1.1 y hy;have:=h2.1 x hx;omega
  subst e;rw [qd h1.2 h2.2 (List.Perm.cons_inv h)]
theorem nY {l l' : Lz} (h : l'.Pairwise λx y=>x<=y) (hp : l'.Perm l) : l'=dt l:=qd h (Ex l) (hp.trans (eC l).symm)
theorem xR {l : Lz} (h : ∀i j,i<j->j<l.length->nth l i ≠ nth l j) : l.Nodup:=by unfold List.Nodup;rw [OY];intro i j hi hj hij;have:=h i j hij hj;rwa [aj hi,aj hj] at this
section
open Go.RowKit
end
section
theorem aT.setOther {w : World} {B : Nat} {a : OA} {n c : Nat} {R : Z4} {L : ZZ} (h : aT w B a n c R L) {p : Addr} (hp : p.block<B) (v : Value) : aT (w.setCell p v) B a n c R L :=
 h.bq λb hb=>Nz _ _ _ _ (by have:=(h.lt b hb).1;omega)
structure qK (w : World) (g : Nat) (x : Value) (a : OA) (k c : Nat) (R : Z4) (L : ZZ) : Prop where
 lt : g<w.heap.size
 c0 : w.cell? ⟨g,0,none⟩=some x
 c1 : w.cell? ⟨g,1,none⟩=some (.slice a k c)
 fr : ∀i,w.frozen? ⟨g,i,none⟩=false
 om : aT w (g+1) a k c R L
namespace qK
variable {w w' w4 w5 : World} {g : Nat} {x : Value} {a : OA} {k c : Nat} {R : Z4} {L : ZZ}
theorem ah (h : qK w g x a k c R L) (hb : SW w w') : qK w' g x a k c R L :=
 ⟨NR h.lt hb.size,aB hb h.c0,aB hb h.c1,λi=>eT hb h.lt (h.fr i),h.om.ah hb⟩
theorem sL (h : qK w g x a k c R L) : gE a g:=by
 by_cases ha : a=none
 ·exact .inl ha
 ·exact .inr λe=>by have:=(aY h.om.own ha).1;omega
theorem AO {o : Obj} (h : qK w4 g x a k c R L) (hgr5 : (w4.alloc o).grownBy w5 (Value.slice a k c).ownBlock) : w5.cell? ⟨g,0,none⟩=some x/\w5.cell? ⟨g,1,none⟩=some (.slice a k c)/\w5.frozen? ⟨g,1,none⟩=false:=by
 have hb1:=an w4 o;have hlt:=h.lt;have hs1:=hb1.size;exact ⟨bT hgr5 (bu h.c0 o) h.sL,bT hgr5 (bu h.c1 o) h.sL,
  (N1 (w:=w4.alloc o) (a:=⟨g,1,none⟩) (hgr5.block g (by omega) λe=>h.sL.own k c e.symm)).trans (dX h.lt (h.fr 1) _)⟩
theorem push {a4 a5 : OA} {n4 c4 c5 : Nat} {N : Lz} {o : Obj} (h : qK w4 g x a k c R L) (hn4 : N.length=n4)
  (hown4 : w4.ownsRow (g+1) 3 1 (.slice a4 n4 c4) n4 (N.map (Value.int .i64))) (hra : a4 ≠ none->¬ cU a R (ablk a4))
  (hown5 : w5.ownsRow (g+1) 22 1 (.slice a5 (k+1) c5) (k+1) (List.zipWith l5 R L ++ [.slice a4 n4 c4])) (hgr5 : (w4.alloc o).grownBy w5 (Value.slice a k c).ownBlock)
  (hap5 : ∀x,x<(w4.alloc o).heap.size->gE a x->gE a5 x) :
  qK (w5.setCell ⟨g,1,none⟩ (.slice a5 (k+1) c5)) g x a5 (k+1) c5 (R ++ [(a4,c4)]) (L ++ [N])/\Below g w4 (w5.setCell ⟨g,1,none⟩ (.slice a5 (k+1) c5)):=by
 subst hn4;have hb1:=an w4 o;have hO:=h.om.ah hb1;have hr:=bd hown4 hb1;have hP:=aT.push hO hr hra hown5 hgr5 hap5;have hlt:=h.lt;have hs1:=hb1.size;have hB5 : Below (g+1) w4 w5:=Sa (hb1.mono (by omega)) hO.own hgr5 (Na _) (by omega);have hs:=hB5.size;have k0:=bT hgr5 (bu h.c0 o) h.sL;have k1:=bT hgr5 (bu h.c1 o) h.sL;refine ⟨⟨by simp;omega,?_,NJ _ _ _ k1,λi=>?_,hP.setOther (by simp) _⟩,(hB5.mono (by omega)).setCell (by simp) _⟩
 ·rw [NC _ _ _ _ (by simp)];exact k0
 ·rw [Oq];exact (N1 (w:=w4.alloc o) (a:=⟨g,i,none⟩) (hgr5.block g (by omega) λe=>h.sL.own k c e.symm)).trans (dX h.lt (h.fr i) _)
theorem start {U : World} {g : Nat} {x : Value} (hU : aN U g [x,.slice none 0 0]) : qK U g x none 0 0 [] [] :=
 ⟨hU.1,hU.cell 0 rfl,hU.cell 1 rfl,hU.frozen,aT.empty _ _⟩
end qK
end
section
theorem qu (f : Lz->Lz) (L : ZZ) {i : Nat} (h : i<L.length) : ai (L.map f) i=f (ai L i):=by rw [aC (by simpa using h),aC h,NZ]
def I2 (a : OA) (R : Z4) (a2 : OA) (S : Z4) (b : Nat) : Prop:=cU a R b\/cU a2 S b
structure nD (w : World) (B : Nat) (a : OA) (n c : Nat) (R : Z4) (a2 : OA) (c2 : Nat) (S : Z4) (len : Nat) (J : ZZ) : Prop where
 om1 : aT w B a n c R (J.map (List.take len))
 om2 : aT w B a2 n c2 S (J.map (List.drop len))
 dis : ∀b,cU a R b->¬ cU a2 S b
namespace nD
variable {w w' w1 : World} {B : Nat} {a : OA} {n c : Nat} {R R' : Z4} {a2 : OA} {c2 : Nat} {S S' : Z4} {len : Nat} {J J' : ZZ}
theorem lt (h : nD w B a n c R a2 c2 S len J) (b : Nat) (hb : I2 a R a2 S b) : B<=b/\b<w.heap.size:=by
 rcases hb with hb | hb
 ·exact h.om1.lt b hb
 ·exact h.om2.lt b hb
theorem new (h : nD w B a n c R a2 c2 S len J) {b : Nat} (hb : w.heap.size<=b) : ¬ I2 a R a2 S b:=λh'=>by have:=h.lt b h';omega
theorem ah (h : nD w B a n c R a2 c2 S len J) (hb : SW w w') : nD w' B a n c R a2 c2 S len J:=⟨h.om1.ah hb,h.om2.ah hb,h.dis⟩
theorem ll (h : nD w B a n c R a2 c2 S len J) : J.length=n:=by have:=h.om1.ll;simpa using this
theorem cell (h : nD w B a n c R a2 c2 S len J) {i : Nat} (hi : i<n) (hl : len<=(ai J i).length) : w.cell? ⟨ablk a,aK a+i,none⟩=some (.slice (aV R i).1 len (aV R i).2):=by have h1:=h.om1.cell hi;rw [qu _ J (by rw [h.ll];exact hi),NG,RP hl] at h1;exact h1
theorem ints (h : nD w B a n c R a2 c2 S len J) {i : Nat} (hi : i<n) (hl : len<=(ai J i).length) : Ints w (aV R i).1 len ((ai J i).take len):=by have h1:=h.om1.ints hi;rw [qu _ J (by rw [h.ll];exact hi),NG,RP hl] at h1;exact h1
end nD
variable {w : World} {b : Nat} {G : dn}
end
section
variable {w : World} {b : Nat} {G : dn}
end
def swp (X : Lz) (j : Nat) : Lz:=(X.set j (nth X (j - 1))).set (j - 1) (nth X j)
theorem E5 {X : Lz} {j : Nat} (h0 : 0<j) (hj : j<X.length) (i : Nat) : nth (swp X j) i=if i=j - 1 then nth X j else if i=j then nth X (j - 1) else nth X i:=by unfold swp;rw [eh _ _ _ _ (by simp;omega),eh _ _ _ _ hj]
def A9 (X : Lz) (k : Nat) : Prop:=∀p q,p<q->q<k->nth X p<=nth X q
def Cw (X : Lz) (i j : Nat) : Prop:=∀p q,p<q->q<=i->q ≠ j->nth X p<=nth X q
theorem A9.start {X : Lz} {i : Nat} (h : A9 X i) : Cw X i i:=λp q h1 h2 h3=>h p q h1 (by omega)
theorem Cw.step {X : Lz} {i j : Nat} (h : Cw X i j) (h0 : 0<j) (hji : j<=i) (hj : j<X.length) (hlt : nth X j<nth X (j - 1)) : Cw (swp X j) i (j - 1):=λp q h1 h2 h3=>by
 rw [E5 h0 hj,E5 h0 hj];by_cases e1 : q=j
 ·subst e1;rw [Nf h3,Nd rfl];by_cases e2 : p=q - 1
  ·rw [Nd e2];omega
  ·rw [Nf e2,Nf (by omega)];exact h p (q - 1) (by omega) (by omega) (by omega)
 ·rw [Nf h3,Nf e1];by_cases e2 : p=j - 1
  ·rw [Nd e2];exact h j q (by omega) h2 e1
  ·rw [Nf e2];by_cases e3 : p=j
   ·rw [Nd e3];exact h (j - 1) q (by omega) h2 e1
   ·rw [Nf e3];exact h p q h1 h2 e1
theorem Cw.done {X : Lz} {i j : Nat} (h : Cw X i j) (hji : j<=i) (hd : j=0\/nth X (j - 1)<=nth X j) : A9 X (i+1):=λp q h1 h2=>by
 by_cases e : q=j
 ·subst e;rcases hd with hd | hd
  ·omega
  ·by_cases e2 : p=q - 1
   ·rw [e2];exact hd
   ·exact QQ (h p (q - 1) (by omega) (by omega) (by omega)) hd
 ·exact h p q h1 (by omega) e
theorem A9.sort {X Q : Lz} {k : Nat} (h : A9 X k) (hk : X.length<=k) (hp : X.Perm Q) : X=dt Q:=by refine nY ?_ hp;rw [OY];intro i j hi hj hij;have:=h i j hij (by omega);rwa [aj hi,aj hj] at this
section
open Go.RowKit
end
section
open Go.ChangeShapes Go.WideShapes Go.ChangeAt Go.RowKit
theorem Tryz.own : ownKnob prog.godebug=none:=by kernel_rfl
theorem Tryz.laid : laidOutB prog=true:=by kernel_rfl
section
variable {H : Type} {enc : TypeId × Value->H} {W : World} {held : Bool} {fuel : Nat} {cs : List Value} {x : DataW H × List MemPlace}
theorem sP {a : Addr} {v : Value} {i : Nat} (h : W.cell? (a.add i)=some v) : W.cell? ⟨a.block,a.off+i,none⟩=some v:=by
 have hs:=RH h;obtain ⟨b,o,s⟩:=a;by_cases h0 : i=0
 ·subst h0;simp only [Addr.add,if_true] at hs h;subst hs;exact h
 ·simpa [Addr.add,h0] using h
theorem sN {a : Addr} {v : Value} (h : W.cell? (a.add 0)=some v) : a=⟨a.block,a.off,none⟩:=by have hs:=RH h;obtain ⟨b,o,s⟩:=a;simp only [Addr.add,if_true] at hs;subst hs;rfl
theorem qR (l : Lz) (n i : Nat) (h : i<n) : nth (l.take n) i=l.getD i 0:=by unfold nth;simp only [Ng,OE];rw [Nd h]
theorem oX (h : DataW.trod enc prog W 0 (λ_=>true) held fuel 22 cs=some x) : ∃a n c l,cs=[.slice a n c]/\Ints W a n l:=by
 rcases open_ints underlying22 underlying3 (by kernel_rfl) h with ⟨hcs,_⟩ | ⟨a,len,cap,zs,hcs,_,hl,hm,hz,_,hcell,_⟩
 ·exact ⟨none,0,0,[],hcs,Sd _ _⟩
 ·simp only [if_true] at hz;refine ⟨some a,len,cap,zs.take len,hcs,⟨by simp;omega,λh0=>?_,by omega,λi hi=>?_⟩⟩
  ·exact congrArg some (sN (hcell 0 (by omega)))
  ·rw [qR _ _ _ hi];exact sP (hcell i (by omega))
theorem rB (h : DataW.trod enc prog W 0 (λ_=>true) held fuel 25 cs=some x) : ∃a n c L,cs=[.slice a n c]/\br W a n L:=by
 rcases Go.Deep.open_int_rows underlying25 underlying22 underlying3 (by kernel_rfl) (by kernel_rfl) h with ⟨hcs,_⟩ | ⟨a,len,cap,A,Ln,C,Z,hcs,_,hl,hm,_,hrows⟩
 ·exact ⟨none,0,0,[],hcs,⟨rfl,λh0=>by omega,by unfold maxLen;omega,λi hi=>by omega⟩⟩
 ·refine ⟨some a,len,cap,(List.range len).map (λr=>(Z r).take (Ln r)),hcs,⟨by simp,λh0=>congrArg some (sN (hrows 0 (by omega)).1),by omega,λr hr=>?_⟩⟩;obtain ⟨h1,h2,h3,h4,_,h5,h6⟩:=hrows r (by omega);refine ⟨A r,Ln r,C r,sP h1,?_⟩;have e : ai ((List.range len).map (λr=>(Z r).take (Ln r))) r=(Z r).take (Ln r):=by unfold ai;simp [Ng,Pr,List.getElem?_range hr]
  rw [e];match hA : A r,h5,h6 with
  | none,h5,_ =>
   have h0 : Ln r=0:=by have:=h5 rfl;omega
   rw [h0]
   exact Sd _ _
  | some b,_,h6 =>
   obtain ⟨_,h7⟩:=h6 b rfl
   exact ⟨by simp;omega,λh0=>congrArg some (sN (h7 0 (by omega))),by omega,λi hi=>by rw [qR _ _ _ hi];exact sP (h7 i (by omega))⟩
end
section
variable {H : Type} {enc : TypeId × Value->H} {W : World} {held : Bool} {b0 : Nat} {v : Value} {d : DataW H} {p : List MemPlace}
theorem pd (hv : Value.okWide prog W .any b0 27 v) (h : DataW.Trod enc prog W 0 (λ_=>true) held 27 v d p) :
  ∃(P M : Int) (am : OA) (mn cm : Nat) (mod : Lz) (N : Int) (a : OA) (n c : Nat) (L : ZZ),v = .agg #[.int .i64 P,.int .i64 M,.slice am mn cm,.int .i64 N,.slice a n c]/\Ints W am mn mod/\br W a n L:=by
 obtain ⟨cs,rfl,hsz⟩:=okWide_struct underlying27 hv;rw [show prog.cellsOf 27 = 5 by kernel_rfl] at hsz;obtain ⟨l⟩:=cs;match l,hsz with
 | [v0,v1,v2,v3,v4],_ =>
 obtain ⟨fuel,hf⟩:=h;obtain ⟨xs,n0,_,_,_,hlen,hfs⟩:=Qa underlying27 hf;obtain ⟨y0,y1,y2,rfl⟩ : ∃y0 y1 y2,xs=[y0,y1,y2]:=by
  match xs,hlen with
  | [y0,y1,y2],_=>exact ⟨y0,y1,y2,rfl⟩
 have k24 : prog.cellsOf 24 = 3:=by kernel_rfl
 have k3 : prog.cellsOf 3 = 1:=by kernel_rfl
 have k22 : prog.cellsOf 22 = 1:=by kernel_rfl
 have k25 : prog.cellsOf 25 = 1:=by kernel_rfl
 have g0 : DataW.trod enc prog W 0 (λ_=>true) held n0 24 [v0,v1,v2]=some y0:=by simpa [Value.cells,k24] using hfs 0 _ rfl
 have g1 : DataW.trod enc prog W 0 (λ_=>true) held n0 3 [v3]=some y1:=by simpa [Value.cells,k3] using hfs 1 _ rfl
 have g2 : DataW.trod enc prog W 0 (λ_=>true) held n0 25 [v4]=some y2:=by simpa [Value.cells,k25] using hfs 2 _ rfl
 obtain ⟨xs',n1,_,_,_,hlen',hfs'⟩:=Qa underlying24 g0;obtain ⟨z0,z1,z2,rfl⟩ : ∃z0 z1 z2,xs'=[z0,z1,z2]:=by
  match xs',hlen' with
  | [z0,z1,z2],_=>exact ⟨z0,z1,z2,rfl⟩
 have q0 : DataW.trod enc prog W 0 (λ_=>true) held n1 3 [v0]=some z0:=by simpa [k3] using hfs' 0 _ rfl
 have q1 : DataW.trod enc prog W 0 (λ_=>true) held n1 3 [v1]=some z1:=by simpa [k3] using hfs' 1 _ rfl
 have q2 : DataW.trod enc prog W 0 (λ_=>true) held n1 22 [v2]=some z2:=by simpa [k22] using hfs' 2 _ rfl
 obtain ⟨P,eP,_,_⟩:=PS underlying3 q0;obtain ⟨M,eM,_,_⟩:=PS underlying3 q1;obtain ⟨N,eN,_,_⟩:=PS underlying3 g1;obtain ⟨am,mn,cm,mod,eI,hI⟩:=oX q2;obtain ⟨a,n,c,L,eL,hL⟩:=rB g2;simp at eP eM eN eI eL;subst eP eM eN eI eL;exact ⟨P,M,am,mn,cm,mod,N,a,n,c,L,rfl,hI,hL⟩
end
end
def Sk:=@aT.push
def Sn:=@aT.empty
def SL:=@dq.own
def SP:=@cR.own
end Go.Proofs.YthglbncgemdcbaaGreat
