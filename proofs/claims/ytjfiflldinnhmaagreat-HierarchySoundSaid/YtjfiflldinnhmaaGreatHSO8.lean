import Derived.Test.YtjfiflldinnhmaaGreatHSO6
namespace Go.Proofs.YtjfiflldinnhmaaGreat
set_option linter.all false
set_option maxRecDepth 100000
set_option maxHeartbeats 3200000
open Go.RowKit Go.Proofs.Tryz
section
variable {w : World} {b : Nat} {G : cC}
@[go_sem high] theorem run_slice_h0 {P : Program} (w : World) (t : TypeId) (a : OA) (len cap : Nat) (ht : P.underlying t=some (.slice (P.elem t))) (kh : IntKind) (h : Int) (h0 : 0<=h) (h2 : h<=cap) :
  (Instr.slice t (.slice a len cap) none (some (.int kh h)) none).run P w=((sizeOf (P.elem t)).run P w).andThen λ_ w=>.ok (.slice a h.toNat cap) w:=by rw [run_slice_h w t a len cap ht kh h h0 h2];congr 1;funext s w;congr 1;simp only [sliced,Nat.zero_mul,Addr.add,if_true,H7,I7,ite_self]
@[go_sem high] theorem run_slice_hm0 {P : Program} (w : World) (t : TypeId) (a : OA) (len cap : Nat) (ht : P.underlying t=some (.slice (P.elem t))) (kh km : IntKind) (h m : Int) (h0 : 0<=h) (h2 : h<=m) (h3 : m<=cap) :
  (Instr.slice t (.slice a len cap) none (some (.int kh h)) (some (.int km m))).run P w=((sizeOf (P.elem t)).run P w).andThen λ_ w=>.ok (.slice a h.toNat m.toNat) w:=by rw [run_slice_hm w t a len cap ht kh km h m h0 h2 h3];congr 1;funext s w;congr 1;simp only [sliced,Nat.zero_mul,Addr.add,if_true,H7,I7,ite_self]
theorem pZ {L : LL} {k i : Nat} (h : i<k) : af (L.take k) i=af L i:=by simp only [af,EJ,FE,EH h]
theorem bY.take {w : World} {a : OA} {n : Nat} {L : LL} (h : bY w a n L) {k : Nat} (hk : k<=n) : bY w a k (L.take k):=by refine ⟨by rw [Fg,h.len];omega,λh0=>h.pl (by omega),ET hk h.max,λi hi=>?_⟩;rw [pZ hi];exact h.cell i (by omega)
structure cQ (B : Nat) (w : World) (a : OA) (n : Nat) (l : LI) : Prop where
 ints : Ints w a n l
 lo : 0<n->B<=ah a
structure bX (B : Nat) (w : World) (a : OA) (n : Nat) (l : LL) : Prop where
 len : l.length=n
 pl : Pl a n
 max : n<=maxLen
 lo : 0<n->B<=ah a
 cell : ∀i,i<n->∃b m c,w.cell? ⟨ah a,aG a+i,none⟩=some (.slice b m c)/\cQ B w b m (af l i)
theorem cQ.mono {B B' : Nat} {w : World} {a : OA} {n : Nat} {l : LI} (h : cQ B w a n l) (hB : B'<=B) : cQ B' w a n l:=⟨h.ints,λhn=>ET hB (h.lo hn)⟩
theorem bX.mono {B B' : Nat} {w : World} {a : OA} {n : Nat} {l : LL} (h : bX B w a n l) (hB : B'<=B) : bX B' w a n l :=
 ⟨h.len,h.pl,h.max,λhn=>ET hB (h.lo hn),λi hi=>by obtain ⟨b,m,c,h1,h2⟩:=h.cell i hi;exact ⟨b,m,c,h1,h2.mono hB⟩⟩
theorem bX.pA {B : Nat} {w : World} {a : OA} {n : Nat} {l : LL} (h : bX B w a n l) : bY w a n l :=
 ⟨h.len,h.pl,h.max,λi hi=>by obtain ⟨b,m,c,h1,h2⟩:=h.cell i hi;exact ⟨b,m,c,h1,h2.ints⟩⟩
theorem cQ.bt {B : Nat} {w V : World} {a : OA} {n : Nat} {l : LI} (h : cQ B w a n l) (hb : ∀b,B<=b->b<w.heap.size->V.heap[b]? = w.heap[b]?) : cQ B V a n l :=
 ⟨h.ints.of_block λhn=>hb _ (h.lo hn) (h.ints.lt hn),h.lo⟩
theorem bX.bt {B : Nat} {w V : World} {a : OA} {n : Nat} {l : LL} (h : bX B w a n l) (hb : ∀b,B<=b->b<w.heap.size->V.heap[b]? = w.heap[b]?) : bX B V a n l:=by refine ⟨h.len,h.pl,h.max,h.lo,λi hi=>?_⟩;obtain ⟨b,m,c,h1,h2⟩:=h.cell i hi;exact ⟨b,m,c,(E4 (w:=w) (a:=⟨ah a,aG a+i,none⟩) (hb _ (h.lo (by omega)) (EP w _ h1))).trans h1,h2.bt hb⟩
theorem cQ.aa {B : Nat} {w V : World} {a : OA} {n : Nat} {l : LI} (h : cQ B w a n l) (hb : JA w V) : cQ B V a n l:=h.bt λb _ h2=>hb.block b h2
theorem bX.aa {B : Nat} {w V : World} {a : OA} {n : Nat} {l : LL} (h : bX B w a n l) (hb : JA w V) : bX B V a n l:=h.bt λb _ h2=>hb.block b h2
theorem cQ.setCell {B : Nat} {w : World} {a : OA} {n : Nat} {l : LI} (h : cQ B w a n l) {p : Addr} (hp : p.block<B) (v : Value) : cQ B (w.setCell p v) a n l :=
 h.bt λb h1 _=>EZ _ _ _ _ (by omega)
theorem bX.setCell {B : Nat} {w : World} {a : OA} {n : Nat} {l : LL} (h : bX B w a n l) {p : Addr} (hp : p.block<B) (v : Value) : bX B (w.setCell p v) a n l :=
 h.bt λb h1 _=>EZ _ _ _ _ (by omega)
theorem cQ.own {w : World} {B : Nat} {e : TypeId} {a : OA} {c n : Nat} {l : LI} (h : w.ownsRow B e 1 (.slice a n c) n (l.map (Value.int .i64))) : cQ B w a n l :=
 ⟨(I9 h).1,λhn=>(bs h 0 hn).2.2.1⟩
theorem bX.own {w : World} {B : Nat} {a : OA} {n c : Nat} {R : LA} {L : LL} (h : aN w B a n c R L) : bX B w a n L :=
 ⟨h.ll,h.pl,h.max,λhn=>(ez h.own hn).1,λ_ hi=>⟨_,_,_,h.cell hi,cQ.own (h.row _ hi)⟩⟩
theorem bX.take {B : Nat} {w : World} {a : OA} {n : Nat} {L : LL} (h : bX B w a n L) {k : Nat} (hk : k<=n) : bX B w a k (L.take k):=by refine ⟨by rw [Fg,h.len];omega,λh0=>h.pl (by omega),ET hk h.max,λh0=>h.lo (by omega),λi hi=>?_⟩;rw [pZ hi];exact h.cell i (by omega)
def dM (G : cC) (L : LL) (m : Nat) : LL:=(aB G.ops L m).1.take (aB G.ops L m).2.length
def dD (G : cC) (L : LL) (m : Nat) : LI:=(aB G.ops L m).2
theorem fR (G : cC) (L : LL) (m : Nat) : (dM G L m).length=(dD G L m).length:=by have h1:=e9 G.ops L m;have h2:=cN G.ops L m;unfold dM dD;rw [Fg];omega
def qn (G : cC) (L : LL) (m : Nat) (w : World) (e : Ending) (w' : World) : Prop :=
 ∃a c ap cp,e = .returned (.tuple #[.slice a (dD G L m).length c,.slice ap (dD G L m).length cp])/\bX w.heap.size w' a (dD G L m).length (dM G L m)/\cQ w.heap.size w' ap (dD G L m).length (dD G L m)/\JA w w'
theorem me (a : OA) (n c m : Nat) (L : LL) (h : dY w b G) (hi : bY w a n L) (hR : bx G.El m L) (hm : m<=1000000) (hn : n<=1000000) :
  Calls prog 192 #[.pointer (some ⟨b,0,none⟩),.slice a n c,.int .i64 m] w (qn G L m w):=by
 have Hlen:=Z5 hi.len;have HR:=Z5 hR;have hLm : ∀l ∈ L,l.length<=1000000:=λl hl=>by rw [(hR l hl).1];exact hm
 have HLm:=Z5 hLm;clear hLm hR;go_enter func192,ntmps192;go_wp2_with fail;refine (yZ a n c L hi hn HLm.out).mono ?_;rintro e w1 ⟨a1,c1,R1,rfl,hO1,hb1⟩;go_wp2_with fail;refine (pU w a1 L.length c1 m m R1 L h hb1 hO1 HR.out (EF _) hm (by rw [Hlen.out];exact hn)).mono ?_;rintro e w2 ⟨R2,ap,cp,d,rfl,hO2,hp2,hM2,hb2⟩;have hpl:=e9 G.ops L m;have hcap:=nE hO2.own;have hpv:=(cQ.own hp2).mono hb1.size;have hmt:=(bX.own hO2).take (k:=(aB G.ops L m).2.length) hpl.2;have hF : qn G L m w (.returned (.tuple #[.slice a1 (aB G.ops L m).2.length (aB G.ops L m).2.length,.slice ap (aB G.ops L m).2.length cp])) w2:=⟨a1,_,ap,cp,rfl,hmt,hpv,hb2⟩
 have HF:=Z5 hF;have hle : (aB G.ops L m).2.length<=c1:=ET hpl.2 hcap;clear hF hpv hmt hp2 hcap hpl;generalize (aB G.ops L m).2.length=k at *;go_wp2_with fail;go_ret2;simpa using HF.out
end
def dC (P M : Int) (mod : LI) (cols : Int) (L : LL) : Int :=
 if bA P M mod=true then ed (an P M.toNat mod).q cols L else 1
def uh (P M : Int) (mod : LI) (cols : Int) (L : LL) (w : World) (e : Ending) (w' : World) : Prop :=
 JA w w'/\(
 (dC P M mod cols L ≠ 0/\e = .returned (.tuple #[.agg #[.int .i64 0,.slice none 0 0],.slice none 0 0,.int .i64 (dC P M mod cols L)])) \/
 (dC P M mod cols L=0/\∃m : Nat,cols=m/\∃a c ap cp,e = .returned (.tuple #[.agg #[.int .i64 m,.slice a (dD (an P M.toNat mod) L m).length c],.slice ap (dD (an P M.toNat mod) L m).length cp,.int .i64 0]) /\
  bX w.heap.size w' a (dD (an P M.toNat mod) L m).length (dM (an P M.toNat mod) L m)/\cQ w.heap.size w' ap (dD (an P M.toNat mod) L m).length (dD (an P M.toNat mod) L m)))
theorem gG {q cols : Int} {L : LL} (h : ed q cols L=0) : ∃m : Nat,cols=m/\m<=256/\L.length<=256/\bx (λx=>0<=x/\x<q) m L:=by
 unfold ed at h;split at h
 ·omega
 ·rename_i h1;split at h
  ·omega
  ·rename_i h2;split at h
   ·rename_i h3;refine ⟨cols.toNat,by omega,by omega,by omega,λr hr=>?_⟩;have h4 : gR cols L=true:=by simpa using h2
    unfold gR at h4;rw [Fs] at h4 h3;have h5:=h4 r hr;have h6:=h3 r hr;unfold jj gZ at h6;rw [Fs] at h6;refine ⟨by simp at h5;omega,λx hx=>?_⟩;have h7:=h6 x hx;simpa using h7
   ·omega
theorem iY {q cols : Int} {L : LL} : gv q [(cols,L)]=ed q cols L:=by
 simp only [gv];split
 ·rename_i h;exact h.symm
 ·rfl
theorem iO (P M : Int) (am : OA) (mn cm : Nat) (mod : LI) (cols : Int) (a : OA) (n c : Nat) (L : LL) (w : World) (hmod : Ints w am mn mod) (hi : bY w a n L) :
  Calls prog 133 #[.agg #[.int .i64 P,.int .i64 M,.slice am mn cm],.agg #[.int .i64 cols,.slice a n c]] w (uh P M mod cols L w):=by
 have Hlen:=Z5 hi.len;go_enter func133,ntmps133;go_wp2_with fail;obtain ⟨W,hW⟩ : ∃W : World,W=((((w.alloc (.cells #[.int .i64 P,.int .i64 M,.slice am mn cm] 24)).alloc (.cells #[.int .i64 cols,.slice a n c] 87)).alloc (.cells #[.int .i64 0,.slice none 0 0] 87)).alloc (.cells #[.int .i64 cols,.slice a n c] 87)):=⟨_,rfl⟩
 rw [<- hW];have hbW : JA w W:=by rw [hW];exact ((((EI _ _).alloc (EF _) _).alloc (by simp) _).alloc (by simp;omega) _).alloc (by simp;omega) _
 have hsW : W.heap.size=w.heap.size+4:=by rw [hW];simp
 have q1 : W.cell? ⟨w.heap.size+1,0,none⟩=some (.int .i64 cols)/\W.cell? ⟨w.heap.size+1,1,none⟩=some (.slice a n c):=by rw [hW];exact ⟨aJ (aJ (aC _ _ _ (by simp) 0) _) _,aJ (aJ (aC _ _ _ (by simp) 1) _) _⟩
 have q2 : W.cell? ⟨w.heap.size+1+1,0,none⟩=some (.int .i64 0)/\W.cell? ⟨w.heap.size+1+1,1,none⟩=some (.slice none 0 0)/\W.frozen? ⟨w.heap.size+1+1,0,none⟩=false/\W.frozen? ⟨w.heap.size+1+1,1,none⟩=false:=by rw [hW];exact ⟨aJ (aC _ _ _ (by simp) 0) _,aJ (aC _ _ _ (by simp) 1) _,bV (by simp) (iT _ _ _ (by simp) 0) _,bV (by simp) (iT _ _ _ (by simp) 1) _⟩
 have q3 : W.cell? ⟨w.heap.size+1+1+1,0,none⟩=some (.int .i64 cols)/\W.cell? ⟨w.heap.size+1+1+1,1,none⟩=some (.slice a n c):=by rw [hW];exact ⟨aC _ _ _ (by simp) 0,aC _ _ _ (by simp) 1⟩
 have hiW:=hi.aa hbW;have hMs : rF W (some ⟨w.heap.size+1+1+1,0,none⟩) 1 [(cols,L)]:=⟨rfl,λ_=>rfl,by unfold maxLen;omega,λi hi=>by
  have : i=0:=by simp at hi;omega
  subst this;exact ⟨a,n,c,by simpa using q3.1,by simpa using q3.2,hiW⟩⟩
 have HsW:=Z5 hsW;clear hW hsW;refine (jQ P M am mn cm mod _ 1 1 _ W (hmod.aa hbW) hMs).mono ?_;rintro e w1 ⟨hb1,hcase⟩;have hbw1:=I8 hbW hb1;have hq : ∀V,JA W V->V.cell? ⟨w.heap.size+1,0,none⟩=some (.int .i64 cols)/\V.cell? ⟨w.heap.size+1,1,none⟩=some (.slice a n c)/\V.cell? ⟨w.heap.size+1+1,0,none⟩=some (.int .i64 0)/\V.cell? ⟨w.heap.size+1+1,1,none⟩=some (.slice none 0 0)/\V.frozen? ⟨w.heap.size+1+1,0,none⟩=false/\V.frozen? ⟨w.heap.size+1+1,1,none⟩=false:=by intro V hV;have hs:=HsW.out;exact ⟨aj hV q1.1,aj hV q1.2,aj hV q2.1,aj hV q2.2.1,(hV.frozen (p:=⟨w.heap.size+1+1,0,none⟩) (by simp [hs])).trans q2.2.2.1,(hV.frozen (p:=⟨w.heap.size+1+1,1,none⟩) (by simp [hs])).trans q2.2.2.2⟩
 have Hq:=Z5 hq;clear hq q1 q2 q3;rcases hcase with ⟨hB,rfl⟩ | ⟨hB,er,h0,h1,rfl⟩ | ⟨hB,h1,b,rfl,hG,hbl⟩
 ·obtain ⟨r1,r2,r3,r4,r5,r6⟩:=Hq.out w1 hb1;have HB : Hid (dC P M mod cols L=1):=by show _=_;rw [dC,hB];rfl
  clear hB;go_wp2_with fail;refine bodyPost_ret (v:=.tuple #[.agg #[.int .i64 0,.slice none 0 0],.slice none 0 0,.int .i64 1]) (by simp [results,results133,go_sem,r3,r4]) rfl ⟨(hbw1.setCell (by simp;omega) _).setCell (by simp;omega) _,.inl ⟨by rw [HB.out];omega,by rw [HB.out]⟩⟩
 ·obtain ⟨r1,r2,r3,r4,r5,r6⟩:=Hq.out w1 hb1;have HB : Hid (dC P M mod cols L=er):=by show _=_;rw [dC,hB,EH rfl,<- h1,iY]
  have He : Hid (er ≠ 0):=h0;have he' : (er != 0)=true:=by simpa using h0
  clear hB h0 h1;go_wp2_with fail;refine bodyPost_ret (v:=.tuple #[.agg #[.int .i64 0,.slice none 0 0],.slice none 0 0,.int .i64 er]) (by simp [results,results133,go_sem,r3,r4]) rfl ⟨(hbw1.setCell (by simp;omega) _).setCell (by simp;omega) _,.inl ⟨by rw [HB.out];exact He.out,by rw [HB.out]⟩⟩
 ·obtain ⟨r1,r2,r3,r4,r5,r6⟩:=Hq.out w1 hb1;rw [iY] at h1;obtain ⟨m,rfl,hm,hn,hR⟩:=gG h1;have HB : Hid (dC P M mod m L=0):=by show _=_;rw [dC,hB,EH rfl,h1]
  clear hB h1;go_wp2_with fail;refine (me a n c m L hG (hiW.aa hb1) hR (by omega) (by rw [<- Hlen.out];omega)).mono ?_;rintro e w2 ⟨a2,c2,ap,cp,rfl,hM2,hp2,hb2⟩;have hbw2:=I8 hbw1 hb2;obtain ⟨r1,r2,r3,r4,r5,r6⟩:=Hq.out w2 (I8 hb1 hb2);have hF : uh P M mod m L w (.returned (.tuple #[.agg #[.int .i64 m,.slice a2 (dD (an P M.toNat mod) L m).length c2],.slice ap (dD (an P M.toNat mod) L m).length cp,.int .i64 0])) ((w2.setCell ⟨w.heap.size+1+1,0,none⟩ (.int .i64 m)).setCell ⟨w.heap.size+1+1,1,none⟩ (.slice a2 (dD (an P M.toNat mod) L m).length c2)):=by
   have hs:=HsW.out;have hs1:=hb1.size;refine ⟨(hbw2.setCell (by simp;omega) _).setCell (by simp;omega) _,.inr ⟨HB.out,m,rfl,a2,c2,ap,cp,rfl,?_,?_⟩⟩
   ·exact ((hM2.setCell (p:=⟨w.heap.size+1+1,0,none⟩) (by simp;omega) _).setCell (p:=⟨w.heap.size+1+1,1,none⟩) (by simp;omega) _).mono (by omega)
   ·exact ((hp2.setCell (p:=⟨w.heap.size+1+1,0,none⟩) (by simp;omega) _).setCell (p:=⟨w.heap.size+1+1,1,none⟩) (by simp;omega) _).mono (by omega)
  have HF:=Z5 hF;clear hF hM2 hp2;generalize (dD (an P M.toNat mod) L m).length=k at *;go_wp2_with fail;exact bodyPost_ret (v:=.tuple #[.agg #[.int .i64 m,.slice a2 k c2],.slice ap k cp,.int .i64 0]) (by simp [results,results133,go_sem,r3,r4]) rfl HF.out
section
theorem mF {l l' : LI} {k : Nat} (h : l.take k=l'.take k) (h1 : k<l.length) (h2 : k<l'.length) (he : nth l k=nth l' k) : l.take (k+1)=l'.take (k+1):=by rw [EV h1,EV h2,h,<- ai h1,<- ai h2,he]
theorem kV {l l' : LL} {k : Nat} (h : l.take k=l'.take k) (h1 : k<l.length) (h2 : k<l'.length) (he : af l k=af l' k) : l.take (k+1)=l'.take (k+1):=by rw [EV h1,EV h2,h,<- aE h1,<- aE h2,he]
variable {w : World}
theorem xY (a : OA) (n c : Nat) (l : LI) (a' : OA) (n' c' : Nat) (l' : LI) (h : Ints w a n l) (h' : Ints w a' n' l') :
  Calls prog 191 #[.slice a n c,.slice a' n' c'] w (jW w (decide (l=l'))):=by
 have Hl:=Z5 h.len;have Hl':=Z5 h'.len;have hpl:=h.pl;have hpl':=h'.pl;have hmax:=h.max;unfold maxLen at hmax;by_cases hn : n=n'
 ·subst hn;have hnn : ((n : Int) != n)=false:=by simp
  go_enter func191,ntmps191;go_wp2_with fail;go_loopw [13] (λiv wr=>∃k : Nat,k<=n/\iv = .int .i64 k/\Hid (l.take k=l'.take k)/\bf w wr) (λi _=>n - (intOf i).toNat);case atStart=>exact ⟨0,EL _,rfl,rfl,Je _⟩
  case round =>
   obtain ⟨k,hk,rfl,htk,hd⟩:=hrel
   by_cases hlt : k<n
   ·have c1:=(h.drawn hd).cell k hlt
    have c2:=(h'.drawn hd).cell k hlt
    by_cases he : nth l k=nth l' k
    ·have he' : (nth l k != nth l' k)=false:=by simpa using he
     have Hs : Hid (l.take (k+1)=l'.take (k+1)):=mF htk.out (by rw [Hl.out];exact hlt) (by rw [Hl'.out];exact hlt) he
     clear he
     go_wp2_with fail
     go_quiet (fail)
     go_wp2
     go_roundw
     case rel=>exact ⟨k+1,by omega,by go_num,Hs.out,hd.drewN _⟩
     case measure=>simp [intOf] <;> omega
    ·have he' : (nth l k != nth l' k)=true:=by simpa using he
     have Hs : Hid (decide (l=l')=false):=by show _=_;simp;intro e;exact he (by rw [e])
     clear he
     go_wp2_with fail
     go_quiet (fail)
     go_wp2
     go_ret
     exact ⟨bj Hs.out.symm,hd.drewN _⟩
   ·obtain rfl : k=n:=by omega
    have Hs : Hid (decide (l=l')=true):=by show _=_;have:=htk.out;rw [ES (by rw [Hl.out];exact EF _),ES (by rw [Hl'.out];exact EF _)] at this;simpa using this
    go_wp2_with fail
    go_ret
    exact ⟨bj Hs.out.symm,hd⟩
 ·have hnn : ((n : Int) != n')=true:=by simp;omega
  have Hs : Hid (decide (l=l')=false):=by show _=_;simp;intro e;have e1:=Hl.out;have e2:=Hl'.out;rw [e] at e1;omega
  clear hn;go_enter func191,ntmps191;go_wp2_with fail;go_ret;exact ⟨bj Hs.out.symm,Je _⟩
theorem pE (a : OA) (n c : Nat) (l : LL) (a' : OA) (n' c' : Nat) (l' : LL) (h : bY w a n l) (h' : bY w a' n' l') :
  Calls prog 190 #[.slice a n c,.slice a' n' c',.func (.func 191) #[] #[]] w (jW w (decide (l=l'))):=by
 have Hl:=Z5 h.len;have Hl':=Z5 h'.len;have hpl:=h.pl;have hpl':=h'.pl;have hmax:=h.max;unfold maxLen at hmax;by_cases hn : n=n'
 ·subst hn;have hnn : ((n : Int) != n)=false:=by simp
  go_enter func190,ntmps190;go_wp2_with fail;go_loopw [17] (λiv wr=>∃k : Nat,k<=n/\iv = .int .i64 k/\Hid (l.take k=l'.take k)/\bf w wr) (λi _=>n - (intOf i).toNat);case atStart=>exact ⟨0,EL _,rfl,rfl,Je _⟩
  case round =>
   obtain ⟨k,hk,rfl,htk,hd⟩:=hrel
   by_cases hlt : k<n
   ·obtain ⟨b1,n1,d1,c1,i1⟩:=(h.drawn hd).cell k hlt
    obtain ⟨b2,n2,d2,c2,i2⟩:=(h'.drawn hd).cell k hlt
    go_wp2_with fail
    refine (xY _ _ _ _ _ _ _ _ i1 i2).mono ?_
    rintro e w2 ⟨rfl,hd2⟩
    by_cases he : af l k=af l' k
    ·have he' : decide (af l k=af l' k)=true:=by simpa using he
     have Hs : Hid (l.take (k+1)=l'.take (k+1)):=kV htk.out (by rw [Hl.out];exact hlt) (by rw [Hl'.out];exact hlt) he
     rw [he']
     clear he he'
     go_wp2_with fail
     go_roundw
     case rel=>exact ⟨k+1,by omega,by go_num,Hs.out,hd.trans hd2⟩
     case measure=>simp [intOf] <;> omega
    ·have he' : decide (af l k=af l' k)=false:=by simpa using he
     have Hs : Hid (decide (l=l')=false):=by show _=_;simp;intro e;exact he (by rw [e])
     rw [he']
     clear he he'
     go_wp2_with fail
     go_ret
     exact ⟨bj Hs.out.symm,hd.trans hd2⟩
   ·obtain rfl : k=n:=by omega
    have Hs : Hid (decide (l=l')=true):=by show _=_;have:=htk.out;rw [ES (by rw [Hl.out];exact EF _),ES (by rw [Hl'.out];exact EF _)] at this;simpa using this
    go_wp2_with fail
    go_ret
    exact ⟨bj Hs.out.symm,hd⟩
 ·have hnn : ((n : Int) != n')=true:=by simp;omega
  have Hs : Hid (decide (l=l')=false):=by show _=_;simp;intro e;have e1:=Hl.out;have e2:=Hl'.out;rw [e] at e1;omega
  clear hn;go_enter func190,ntmps190;go_wp2_with fail;go_ret;exact ⟨bj Hs.out.symm,Je _⟩
end
def dX (P M : Int) (mod : LI) (cols : Int) (L : LL) : Int :=
 if dC P M mod cols L=0 then (if dM (an P M.toNat mod) L cols.toNat=L then 0 else 5) else dC P M mod cols L
def qL (P M : Int) (mod : LI) (cols : Int) (a : OA) (n c : Nat) (L : LL) (w : World) (e : Ending) (w' : World) : Prop :=
 JA w w'/\(
 (dX P M mod cols L ≠ 0/\e = .returned (.tuple #[.agg #[.pointer none,.int .i64 0,.slice none 0 0,.slice none 0 0],.int .i64 (dX P M mod cols L)])) \/
 (dX P M mod cols L=0/\∃(m b : Nat),cols=m/\∃ap cp,e = .returned (.tuple #[.agg #[.pointer (some ⟨b,0,none⟩),.int .i64 m,.slice a n c,.slice ap (dD (an P M.toNat mod) L m).length cp],.int .i64 0]) /\
  yA w.heap.size w' b (an P M.toNat mod)/\w.heap.size<=b/\cQ w.heap.size w' ap (dD (an P M.toNat mod) L m).length (dD (an P M.toNat mod) L m)))
theorem kp (P M : Int) (am : OA) (mn cm : Nat) (mod : LI) (cols : Int) (a : OA) (n c : Nat) (L : LL) (w : World) (hmod : Ints w am mn mod) (hi : bY w a n L) :
  Calls prog 128 #[.agg #[.int .i64 P,.int .i64 M,.slice am mn cm],.agg #[.int .i64 cols,.slice a n c]] w (qL P M mod cols a n c L w):=by
 have Hlen:=Z5 hi.len;go_enter func128,ntmps128;go_wp2_with fail;obtain ⟨W,hW⟩ : ∃W : World,W=(((w.alloc (.cells #[.int .i64 P,.int .i64 M,.slice am mn cm] 24)).alloc (.cells #[.int .i64 cols,.slice a n c] 87)).alloc (.cells #[.pointer none,.int .i64 0,.slice none 0 0,.slice none 0 0] 153)):=⟨_,rfl⟩
 rw [<- hW];have hbW : JA w W:=by rw [hW];exact ph _ _ _ _
 have hsW : W.heap.size=w.heap.size+3:=by rw [hW];simp
 have x0 : ba W w.heap.size [.int .i64 P,.int .i64 M,.slice am mn cm]:=by rw [hW];exact ((Ja _ _ _ rfl).alloc _).alloc _
 have x1 : ba W (w.heap.size+1) [.int .i64 cols,.slice a n c]:=by rw [hW];exact (Ja _ _ _ (by simp)).alloc _
 have x2 : ba W (w.heap.size+1+1) [.pointer none,.int .i64 0,.slice none 0 0,.slice none 0 0]:=by rw [hW];exact Ja _ _ _ (by simp)
 have HX:=Z5 (E6 x0 (E6 x1 x2));have HsW:=Z5 hsW;have hiW:=hi.aa hbW;have hmW:=hmod.aa hbW;clear hW hsW x0 x1 x2;refine (iO P M am mn cm mod cols a n c L W hmW hiW).mono ?_;rintro e w1 ⟨hb1,⟨he,rfl⟩ | ⟨he,m,rfl,a2,c2,ap,cp,rfl,hM2,hp2⟩⟩
 ·have hbw1:=I8 hbW hb1;have HB : Hid (dX P M mod cols L=dC P M mod cols L):=by show _=_;rw [dX,EG he]
  have HE:=Z5 he;have he' : (dC P M mod cols L != 0)=true:=by simpa using he
  clear he;generalize dC P M mod cols L=er at *;have x2:=HX.out.2.2.aa hb1;have f0:=x2.frozen 0;have f1:=x2.frozen 1;have f2:=x2.frozen 2;have f3:=x2.frozen 3;have k0:=x2.cell 0 rfl;have k1:=x2.cell 1 rfl;have k2:=x2.cell 2 rfl;have k3:=x2.cell 3 rfl;clear x2;have hz : w.heap.size+1+1<w1.heap.size:=by have:=hb1.size;have:=HsW.out;omega
  go_wp2_with fail;exact bodyPost_ret (v:=.tuple #[.agg #[.pointer none,.int .i64 0,.slice none 0 0,.slice none 0 0],.int .i64 er]) (by simp [results,results128,go_sem,k0,k1,k2,k3,hz]) rfl
   ⟨(((((hbw1.setCell (by simp;omega) _).setCell (by simp;omega) _).setCell (by simp;omega) _).setCell (by simp;omega) _).alloc (by simp;omega) _),.inl ⟨by rw [HB.out];exact HE.out,by rw [HB.out]⟩⟩
 ·have hbw1:=I8 hbW hb1;have hb2 : JA w1 (w1.alloc (.cells #[.int .i64 m,.slice a2 (dD (an P M.toNat mod) L m).length c2] 87)):=aA _ _;have hz : w.heap.size+1+1<w1.heap.size:=by have:=hb1.size;have:=HsW.out;omega
  have x1:=HX.out.2.1.aa hb1;have j0:=x1.cell 0 rfl;have j1:=x1.cell 1 rfl;have He:=Z5 he;have hz1 : w.heap.size+1<w1.heap.size:=by omega
  clear x1 he;go_wp2_with fail;refine (pE _ _ _ _ _ _ _ _ (hM2.pA.aa hb2) ((hiW.aa hb1).aa hb2)).mono ?_;rintro e w3 ⟨rfl,hd3⟩;have hb3 : JA w1 w3:=I8 hb2 hd3.below;have hbw3:=I8 hbw1 hb3;have hz3 : w.heap.size+1+1<w3.heap.size:=Fc hz hb3.size;have x0:=(HX.out.1.aa hb1).aa hb3;have x1:=(HX.out.2.1.aa hb1).aa hb3;have x2:=(HX.out.2.2.aa hb1).aa hb3;by_cases hc : dM (an P M.toNat mod) L m=L
  ·have hc' : decide (dM (an P M.toNat mod) L m=L)=true:=by simpa using hc
   have HB : Hid (dX P M mod m L=0):=by show _=_;rw [dX,EH He.out,EM,EH hc]
   rw [hc'];have hmW3:=(hmW.aa hb1).aa hb3;have i0:=x0.cell 0 rfl;have i1:=x0.cell 1 rfl;have i2:=x0.cell 2 rfl;have hfb : bA P M mod=true:=by
    have:=He.out;unfold dC at this;split at this
    ·assumption
    ·omega
   have Hfb:=Z5 hfb;clear hc hc' x0 x1 hfb;go_wp2_with fail;refine (fD P M am mn cm mod w3 hmW3).mono ?_;rintro e w4 (⟨hB,rfl,hb4⟩ | ⟨hB,b,rfl,hG,hbl,hb4⟩)
   ·rw [Hfb.out] at hB;cases hB
   ·clear hB;have hbw4:=I8 hbw3 hb4;have x1:=((HX.out.2.1.aa hb1).aa hb3).aa hb4;have x2:=((HX.out.2.2.aa hb1).aa hb3).aa hb4;have j0:=x1.cell 0 rfl;have j1:=x1.cell 1 rfl;have f0:=x2.frozen 0;have f1:=x2.frozen 1;have f2:=x2.frozen 2;have f3:=x2.frozen 3;have k0:=x2.cell 0 rfl;have k1:=x2.cell 1 rfl;have k2:=x2.cell 2 rfl;have k3:=x2.cell 3 rfl;have hp4:=(hp2.aa hb3).aa hb4;have hF : qL P M mod m a n c L w (.returned (.tuple #[.agg #[.pointer (some ⟨b,0,none⟩),.int .i64 m,.slice a n c,.slice ap (dD (an P M.toNat mod) L m).length cp],.int .i64 0]))
      ((((w4.setCell ⟨w.heap.size+1+1,0,none⟩ (.pointer (some ⟨b,0,none⟩))).setCell ⟨w.heap.size+1+1,1,none⟩ (.int .i64 m)).setCell ⟨w.heap.size+1+1,2,none⟩ (.slice a n c)).setCell ⟨w.heap.size+1+1,3,none⟩ (.slice ap (dD (an P M.toNat mod) L m).length cp)):=by
     have hs:=HsW.out;have hs3:=hb3.size;refine ⟨(((hbw4.setCell (by simp;omega) _).setCell (by simp;omega) _).setCell (by simp;omega) _).setCell (by simp;omega) _,.inr ⟨HB.out,m,b,rfl,ap,cp,rfl,?_,?_,?_⟩⟩
     ·exact ((((hG.setCell (by simp;omega) _).setCell (by simp;omega) _).setCell (by simp;omega) _).setCell (by simp;omega) _).mono (by omega)
     ·omega
     ·exact ((((hp4.setCell (by simp;omega) _).setCell (by simp;omega) _).setCell (by simp;omega) _).setCell (by simp;omega) _).mono (by omega)
    have HF:=Z5 hF;clear hF hp4 hp2 x1 x2;generalize (dD (an P M.toNat mod) L m).length=k at *;go_wp2_with fail;exact bodyPost_ret (v:=.tuple #[.agg #[.pointer (some ⟨b,0,none⟩),.int .i64 m,.slice a n c,.slice ap k cp],.int .i64 0]) (by simp [results,results128,go_sem,k0,k1,k2,k3]) rfl HF.out
  ·have hc' : decide (dM (an P M.toNat mod) L m=L)=false:=by simpa using hc
   have HB : Hid (dX P M mod m L=5):=by show _=_;rw [dX,EH He.out,EM,EG hc]
   rw [hc'];have f0:=x2.frozen 0;have f1:=x2.frozen 1;have f2:=x2.frozen 2;have f3:=x2.frozen 3;have k0:=x2.cell 0 rfl;have k1:=x2.cell 1 rfl;have k2:=x2.cell 2 rfl;have k3:=x2.cell 3 rfl;clear hc hc' x0 x1 x2;go_wp2_with fail;exact bodyPost_ret (v:=.tuple #[.agg #[.pointer none,.int .i64 0,.slice none 0 0,.slice none 0 0],.int .i64 5]) (by simp [results,results128,go_sem,k0,k1,k2,k3]) rfl
    ⟨(((hbw3.setCell (by simp;omega) _).setCell (by simp;omega) _).setCell (by simp;omega) _).setCell (by simp;omega) _,.inl ⟨by rw [HB.out];omega,by rw [HB.out]⟩⟩
theorem oz (P M : Int) (am : OA) (mn cm : Nat) (mod : LI) (cols : Int) (a : OA) (n c : Nat) (L : LL) (w : World) (hmod : Ints w am mn mod) (hi : bY w a n L) :
  Calls prog 122 #[.agg #[.int .i64 P,.int .i64 M,.slice am mn cm],.agg #[.int .i64 cols,.slice a n c]] w λe w'=>e = .returned (.int .i64 (dX P M mod cols L))/\JA w w':=by
 have Hal:=Z5 (fI w (.cells #[.int .i64 P,.int .i64 M,.slice am mn cm] 24) (.cells #[.int .i64 cols,.slice a n c] 87));go_enter func122,ntmps122;go_wp2_with fail;have hb:=Hal.out;generalize (w.alloc (.cells #[.int .i64 P,.int .i64 M,.slice am mn cm] 24)).alloc (.cells #[.int .i64 cols,.slice a n c] 87)=W at *;refine (kp P M am mn cm mod cols a n c L W (hmod.aa hb) (hi.aa hb)).mono ?_;rintro e w1 ⟨hb1,⟨he,rfl⟩ | ⟨he,m,b,rfl,ap,cp,rfl,hG,hbl,hp⟩⟩
 ·have hbw:=I8 hb hb1;clear he;go_wp2_with fail;go_ret;exact ⟨rfl,hbw.alloc hbw.size _⟩
 ·have hbw:=I8 hb hb1;have He:=Z5 he;clear he hp;generalize (dD (an P M.toNat mod) L m).length=k at *;go_wp2_with fail;go_ret;exact ⟨aF He.out.symm,hbw.alloc hbw.size _⟩
theorem Cy (P M : Int) (am : OA) (mn cm : Nat) (N : Int) (a : OA) (n c : Nat) (w : World) :
  Calls prog 107 #[.agg #[.int .i64 P,.int .i64 M,.slice am mn cm,.int .i64 N,.slice a n c]] w λe w'=>e = .returned (.agg #[.int .i64 N,.slice a n c])/\JA w w':=by go_enter func107,ntmps107;go_wp2_with fail;exact bodyPost_ret (v:=.agg #[.int .i64 N,.slice a n c]) (by simp [results,results107,go_sem]) rfl ⟨rfl,fI _ _ _⟩
def gY (n : Int) : Int:=if n<1\/64<n then 4 else 0
theorem n9 (n : Int) (w : World) : Calls prog 121 #[.int .i64 n] w λe w'=>e = .returned (.int .i64 (gY n))/\w=w':=by
 by_cases h1 : n<1
 ·have Hf : Hid (gY n=4):=by show _=_;rw [gY,EH (.inl h1)]
  go_enter func121,ntmps121;go_wp2;go_ret;exact ⟨aF Hf.out.symm,rfl⟩
 ·have h1' : decide (n<1)=false:=by simpa using h1
  by_cases h2 : 64<n
  ·have Hf : Hid (gY n=4):=by show _=_;rw [gY,EH (.inr h2)]
   go_enter func121,ntmps121;go_wp2;go_ret;exact ⟨aF Hf.out.symm,rfl⟩
  ·have Hf : Hid (gY n=0):=by show _=_;rw [gY,EG (by omega)]
   have h2' : decide (64<n)=false:=by simpa using h2
   go_enter func121,ntmps121;go_wp2;go_ret;exact ⟨aF Hf.out.symm,rfl⟩
def aZ (P M : Int) (mod : LI) (N : Int) (L : LL) : Int :=
 if bA P M mod=true then (if gY N=0 then dX P M mod N L else 4) else 1
theorem dU (P M : Int) (am : OA) (mn cm : Nat) (mod : LI) (N : Int) (a : OA) (n c : Nat) (L : LL) (w : World) (hmod : Ints w am mn mod) (hi : bY w a n L) :
  Calls prog 57 #[.agg #[.int .i64 P,.int .i64 M,.slice am mn cm,.int .i64 N,.slice a n c]] w λe w'=>e = .returned (.int .i64 (aZ P M mod N L))/\JA w w':=by
 go_enter func57,ntmps57;go_wp2_with fail;obtain ⟨W,hW⟩ : ∃W : World,W=w.alloc (.cells #[.int .i64 P,.int .i64 M,.slice am mn cm,.int .i64 N,.slice a n c] 27):=⟨_,rfl⟩
 rw [<- hW];have hbW : JA w W:=by rw [hW];exact aA _ _
 have x0 : ba W w.heap.size [.int .i64 P,.int .i64 M,.slice am mn cm,.int .i64 N,.slice a n c]:=by rw [hW];exact Ja _ _ _ rfl
 have HX:=Z5 x0;clear hW x0;refine (oE P M am mn cm mod W (hmod.aa hbW)).mono ?_;rintro e w1 ⟨rfl,hb1⟩;have hbw1:=I8 hbW hb1;by_cases hB : bA P M mod=true
 ·have hE : bP (bA P M mod)=0:=by rw [hB];rfl
  rw [hE];have HB : Hid (aZ P M mod N L=if gY N=0 then dX P M mod N L else 4):=by show _=_;rw [aZ,EH hB]
  have x1:=HX.out.aa hb1;have c3:=x1.cell 3 rfl;clear hE hB x1;go_wp2_with fail;refine (n9 N w1).mono ?_;rintro e w2 ⟨rfl,rfl⟩;by_cases hl : gY N=0
  ·have HB2 : Hid (aZ P M mod N L=dX P M mod N L):=by show _=_;rw [HB.out,EH hl]
   rw [hl];clear hl;go_wp2_with fail;have hS : ∀V,JA w1 V->V.cell? ⟨w.heap.size,0,none⟩=some (.int .i64 P)/\V.cell? ⟨w.heap.size,1,none⟩=some (.int .i64 M)/\V.cell? ⟨w.heap.size,2,none⟩=some (.slice am mn cm)/\V.cell? ⟨w.heap.size,3,none⟩=some (.int .i64 N)/\V.cell? ⟨w.heap.size,4,none⟩=some (.slice a n c)/\Ints V am mn mod/\bY V a n L/\JA w1 V:=by intro V hV;have x1:=(HX.out.aa hb1).aa hV;exact ⟨x1.cell 0 rfl,x1.cell 1 rfl,x1.cell 2 rfl,x1.cell 3 rfl,x1.cell 4 rfl,((hmod.aa hbW).aa hb1).aa hV,((hi.aa hbW).aa hb1).aa hV,hV⟩
   have HS:=Z5 hS;clear hS c3;go_region_held3 (λV=>V.cell? ⟨w.heap.size,0,none⟩=some (.int .i64 P)/\V.cell? ⟨w.heap.size,1,none⟩=some (.int .i64 M)/\V.cell? ⟨w.heap.size,2,none⟩=some (.slice am mn cm)/\V.cell? ⟨w.heap.size,3,none⟩=some (.int .i64 N)/\V.cell? ⟨w.heap.size,4,none⟩=some (.slice a n c)/\Ints V am mn mod/\bY V a n L/\JA w1 V)
    ((refine HS.out _ ?_;first | exact (EI _ _).drew | (go_split_ands;exact I8 (by assumption) (by assumption))))
    (first
     | (go_at_call 107;((with_reducible refine (Cy P M am mn cm N a n c _).mono ?_);rintro e w4 ⟨rfl,hb4⟩))
     | (go_at_call 122;((with_reducible refine (oz P M am mn cm mod N a n c L _ (by go_split_ands;assumption) (by go_split_ands;assumption)).mono ?_);rintro e w5 ⟨rfl,hb5⟩)))
   go_wp2_with fail;go_ret;exact ⟨aF HB2.out.symm,I8 hbw1 (by go_split_ands;assumption)⟩
  ·have HB2 : Hid (aZ P M mod N L=4):=by show _=_;rw [HB.out,EG hl]
   have hl4 : gY N=4:=by unfold gY at hl ⊢;split <;> simp_all
   rw [hl4];clear hl hl4;go_wp2_with fail;go_ret;exact ⟨aF HB2.out.symm,hbw1⟩
 ·have hE : bP (bA P M mod)=1:=by
   have : bA P M mod=false:=by simpa using hB
   rw [this];rfl
  rw [hE];have HB : Hid (aZ P M mod N L=1):=by show _=_;rw [aZ,EG hB]
  clear hE hB;go_wp2_with fail;go_ret;exact ⟨aF HB.out.symm,hbw1⟩
def uE (P M : Int) (mod : LI) (N : Int) (L : LL) (w : World) (e : Ending) (w' : World) : Prop :=
 JA w w'/\((aZ P M mod N L ≠ 0/\e = .returned (.tuple #[.pointer none,.int .i64 (aZ P M mod N L)])) \/
 (aZ P M mod N L=0/\∃b,e = .returned (.tuple #[.pointer (some ⟨b,0,none⟩),.int .i64 0])/\dY w' b (an P M.toNat mod)))
theorem dq {P M : Int} {mod : LI} {N : Int} {L : LL} (h : aZ P M mod N L=0) : bA P M mod=true/\1<=N/\N<=64/\dX P M mod N L=0:=by
 unfold aZ at h;split at h
 ·rename_i h1;split at h
  ·rename_i h2;unfold gY at h2;split at h2
   ·omega
   ·exact ⟨h1,by omega,by omega,h⟩
  ·omega
 ·omega
theorem iE {P M : Int} {mod : LI} {N : Int} {L : LL} (h : dX P M mod N L=0) : dC P M mod N L=0/\dM (an P M.toNat mod) L N.toNat=L:=by
 unfold dX at h;split at h
 ·rename_i h1;split at h
  ·rename_i h2;exact ⟨h1,h2⟩
  ·omega
 ·rename_i h1;exact absurd h h1
theorem e8 {P M : Int} {mod : LI} {N : Int} {L : LL} (h : dC P M mod N L=0) : bA P M mod=true/\ed (an P M.toNat mod).q N L=0:=by
 unfold dC at h;split at h
 ·rename_i h1;exact ⟨h1,h⟩
 ·omega
theorem ug (P M : Int) (am : OA) (mn cm : Nat) (mod : LI) (N : Int) (a : OA) (n c : Nat) (L : LL) (w : World) (hmod : Ints w am mn mod) (hi : bY w a n L) :
  Calls prog 60 #[.agg #[.int .i64 P,.int .i64 M,.slice am mn cm,.int .i64 N,.slice a n c]] w (uE P M mod N L w):=by
 go_enter func60,ntmps60;go_wp2_with fail;obtain ⟨W,hW⟩ : ∃W : World,W=w.alloc (.cells #[.int .i64 P,.int .i64 M,.slice am mn cm,.int .i64 N,.slice a n c] 27):=⟨_,rfl⟩
 rw [<- hW];have hbW : JA w W:=by rw [hW];exact aA _ _
 have x0 : ba W w.heap.size [.int .i64 P,.int .i64 M,.slice am mn cm,.int .i64 N,.slice a n c]:=by rw [hW];exact Ja _ _ _ rfl
 have HX:=Z5 x0;clear hW x0;refine (dU P M am mn cm mod N a n c L W (hmod.aa hbW) (hi.aa hbW)).mono ?_;rintro e w1 ⟨rfl,hb1⟩;have hbw1:=I8 hbW hb1;by_cases hE : aZ P M mod N L=0
 ·obtain ⟨hf,_⟩:=dq hE;have HE:=Z5 hE;have Hf:=Z5 hf;rw [hE];have x1:=HX.out.aa hb1;have c0:=x1.cell 0 rfl;have c1:=x1.cell 1 rfl;have c2:=x1.cell 2 rfl;have hm1:=(hmod.aa hbW).aa hb1;clear hE x1 hf;go_wp2_with fail;refine (fD P M am mn cm mod w1 hm1).mono ?_;rintro e w2 (⟨hB,rfl,hb2⟩ | ⟨hB,b,rfl,hG,hbl,hb2⟩)
  ·rw [Hf.out] at hB;cases hB
  ·clear hB;have hg:=hG.gf;go_wp2_with fail;go_ret2;exact ⟨I8 hbw1 hb2,.inr ⟨HE.out,b,rfl,hg⟩⟩
 ·have HE:=Z5 hE;have hE' : (aZ P M mod N L != 0)=true:=by simpa using hE
  clear hE;go_wp2_with fail;go_ret2;exact ⟨hbw1,.inl ⟨HE.out,rfl⟩⟩
def fo (N : Int) (l : LI) (k : Nat) : Bool:=decide (0<=nth l k) && decide (nth l k<N) && (k == 0 || decide (nth l (k - 1)<nth l k))
def lM (N : Int) (l : LI) (k : Nat) : Bool:=(List.range k).all (fo N l)
def bI (N : Int) (l : LI) : Bool:=lM N l l.length
theorem fK {N : Int} {l : LI} {k : Nat} (h : lM N l k=true) (hk : fo N l k=true) : lM N l (k+1)=true:=by unfold lM at *;rw [FW,GQ,h];simp [hk]
theorem qW {N : Int} {l : LI} {k n : Nat} (hk : k<n) (h : fo N l k=false) : lM N l n=false:=by unfold lM;rw [F6];exact ⟨k,List.mem_range.2 hk,by simp [h]⟩
theorem fY {N : Int} {l : LI} (h : bI N l=true) {k : Nat} (hk : k<l.length) : 0<=nth l k/\nth l k<N/\(0<k->nth l (k - 1)<nth l k):=by unfold bI lM at h;rw [Fs] at h;have:=h k (List.mem_range.2 hk);unfold fo at this;simp only [EW,GP,E3,beq_iff_eq] at this;exact ⟨this.1.1,this.1.2,λh0=>by rcases this.2 with h1 | h1;omega;exact h1⟩
def jt (N : Int) (S : LL) : Int:=if S.all (bI N) then 0 else 6
theorem Br (P M : Int) (am : OA) (mn cm : Nat) (N : Int) (a : OA) (n c : Nat) (sa : OA) (ns cs : Nat) (S : LL) (w : World) (hi : bY w sa ns S) :
  Calls prog 61 #[.agg #[.int .i64 P,.int .i64 M,.slice am mn cm,.int .i64 N,.slice a n c],.slice sa ns cs] w λe w'=>e = .returned (.int .i64 (jt N S))/\JA w w':=by
 have Hlen:=Z5 hi.len;have hpl:=hi.pl;have hmax:=hi.max;unfold maxLen at hmax;go_enter func61,ntmps61;go_wp2_with fail;obtain ⟨W,hW⟩ : ∃W : World,W=w.alloc (.cells #[.int .i64 P,.int .i64 M,.slice am mn cm,.int .i64 N,.slice a n c] 27):=⟨_,rfl⟩
 rw [<- hW];have hbW : JA w W:=by rw [hW];exact aA _ _
 have c3 : W.cell? ⟨w.heap.size,3,none⟩=some (.int .i64 N):=by rw [hW];exact aC _ _ _ rfl 3
 have hiW:=hi.aa hbW;clear hW;go_loop [11] (λiv=>∃k : Nat,k<=ns/\iv = .int .i64 k/\Hid ((S.take k).all (bI N)=true)) (λiv=>ns - (intOf iv).toNat);case atStart=>exact ⟨0,EL _,rfl,by show _=_;simp⟩
 case round =>
  obtain ⟨k,hk,rfl,hall⟩:=hrel
  by_cases hlt : k<ns
  ·obtain ⟨ra,rn,rc,hcell,hrow⟩:=hiW.cell k hlt
   have hkS : k<S.length:=by rw [Hlen.out];exact hlt
   have Hrl:=Z5 hrow.len
   have hpr:=hrow.pl
   have hmr:=hrow.max
   unfold maxLen at hmr
   have Hng : Hid (af S k=S[k]):=aE hkS
   generalize af S k=l at *
   go_wp2_with fail
   go_loop [17] (λiv=>∃j : Nat,j<=rn/\iv = .int .i64 j/\Hid (lM N l j=true)) (λiv=>rn - (intOf iv).toNat)
   case atStart=>exact ⟨0,EL _,rfl,by show _=_;simp [lM]⟩
   case round =>
    obtain ⟨j,hj,rfl,hok⟩:=hrel
    by_cases hlt2 : j<rn
    ·have cj:=hrow.cell j hlt2
     have hbad : fo N l j=false->jt N S=6:=λhb=>by
      rw [jt,EG];have h1 : bI N S[k]=false:=by rw [<- Hng.out];exact qW (by rw [Hrl.out];exact hlt2) hb
      rw [cJ hkS h1];simp
     have Hbad:=Z5 hbad
     clear hbad
     by_cases h0 : 0<=nth l j
     ·by_cases h1 : nth l j<N
      ·have d1 : decide (nth l j<0)=false:=by simp;omega
       have d2 : decide (N<=nth l j)=false:=by simp;omega
       by_cases hj0 : j=0
       ·subst hj0
        have Hgood : Hid (fo N l 0=true):=by show _=_;unfold fo;simp [h0,h1]
        rw [GY] at cj
        go_wp2_with fail
        go_round
        case rel=>exact ⟨1,by omega,by go_num,fK hok.out Hgood.out⟩
        case measure=>simp [intOf] <;> omega
       ·have cp:=hrow.cell (j - 1) (by omega)
        have e1 : ((j : Int) - 1).toNat=j - 1:=by omega
        have d3 : decide (0<(j : Int))=true:=by simp;omega
        have d4 : (0 : Int)<=(j : Int) - 1:=by omega
        have d5 : (1 : Int)<=(j : Int):=by omega
        have d6 : (j : Int) - 1<rn:=by omega
        by_cases h2 : nth l (j - 1)<nth l j
        ·have Hgood : Hid (fo N l j=true):=by show _=_;unfold fo;simp [h0,h1,h2]
         have h2' : decide (nth l j<=nth l (j - 1))=false:=by simp;omega
         clear hj0 e1
         go_wp2_with fail
         go_round
         case rel=>exact ⟨j+1,by omega,by go_num,fK hok.out Hgood.out⟩
         case measure=>simp [intOf] <;> omega
        ·have Hb : Hid (jt N S=6):=Hbad.out (by unfold fo;simp [h2,hj0])
         have h2' : decide (nth l j<=nth l (j - 1))=true:=by simp;omega
         clear hj0 e1
         go_wp2_with fail
         go_ret
         exact ⟨aF Hb.out.symm,hbW⟩
      ·have Hb : Hid (jt N S=6):=Hbad.out (by unfold fo;simp [h1])
       have d1 : decide (nth l j<0)=false:=by simp;omega
       have d2 : decide (N<=nth l j)=true:=by simp;omega
       go_wp2_with fail
       go_ret
       exact ⟨aF Hb.out.symm,hbW⟩
     ·have Hb : Hid (jt N S=6):=Hbad.out (by unfold fo;simp [h0])
      have d1 : decide (nth l j<0)=true:=by simp;omega
      go_wp2_with fail
      go_ret
      exact ⟨aF Hb.out.symm,hbW⟩
    ·obtain rfl : j=rn:=by omega
     have Hg : Hid (bI N S[k]=true):=by show _=_;rw [<- Hng.out,bI,Hrl.out];exact hok.out
     go_wp2_with fail
     go_round
     case rel=>exact ⟨k+1,by omega,by go_num,cK hkS hall.out Hg.out⟩
     case measure=>simp [intOf] <;> omega
  ·obtain rfl : k=ns:=by omega
   have Hg : Hid (jt N S=0):=by have:=hall.out;rw [ES (by rw [Hlen.out];exact EF _)] at this;show _=_;rw [jt,EH this]
   go_wp2_with fail
   go_ret
   exact ⟨aF Hg.out.symm,hbW⟩
def aQ (L : LL) (i : Nat) : LI:=L.map λr=>nth r i
theorem b8 (L : LL) (i : Nat) : (aQ L i).length=L.length:=by simp [aQ]
theorem bR (L : LL) (i k : Nat) (hk : k<L.length) : nth (aQ L i) k=nth (af L k) i:=by rw [ai (by rw [b8];exact hk),aE hk];simp [aQ]
theorem vy (P M : Int) (am : OA) (mn cm : Nat) (N : Int) (a : OA) (n c : Nat) (L : LL) (i : Nat) (w : World) (hi : bY w a n L) (hL : ∀r ∈ L,i<r.length) (hn : n<=1000000) :
  Calls prog 127 #[.agg #[.int .i64 P,.int .i64 M,.slice am mn cm,.int .i64 N,.slice a n c],.int .i64 i] w (cB w (aQ L i)):=by
 have Hlen:=Z5 hi.len;have hpl:=hi.pl;have HL:=Z5 hL;clear hL;go_enter func127,ntmps127;go_wp2_with (at_make;refine bZ rfl _ _ 22 3 rfl (.int .i64 0) 8 underlying22 bh rfl n rfl rfl (by omega) (by unfold maxLen;omega) ?_;intro a1 w1 hown hbel hge hlt;have c4 : w1.cell? ⟨w.heap.size,4,none⟩=some (.slice a n c):=aj hbel (aC _ _ _ rfl 4));have hbw : JA w w1:=I8 (aA w _) hbel;have hs1 : w.heap.size+1<=ah a1:=by simpa using hge
 have hown1 : w1.ownsRow w.heap.size 3 1 (.slice a1 n n) n (List.replicate n (.int .i64 0)):=aW hown (by simp);clear hown hbel hge;go_loopw [15] (λiv wr=>∃k : Nat,k<=n/\iv = .int .i64 k /\
   wr.ownsRow w.heap.size 3 1 (.slice a1 n n) n ((cH ((aQ L i).take k) k n).map (Value.int .i64))/\JA w wr)
  (λi _=>n - (intOf i).toNat)
 case atStart=>exact ⟨0,EL _,rfl,by simpa [cH] using hown1,hbw⟩
 case round =>
  obtain ⟨k,hk,rfl,hown,hbel⟩:=hrel
  obtain ⟨hints,hmine⟩:=I9 hown
  have hpl1:=hints.pl
  by_cases hlt : k<n
  ·obtain ⟨ra,rn,rc,hcell,hrow⟩:=(hi.aa hbel).cell k hlt
   have hkL : k<L.length:=by rw [Hlen.out];exact hlt
   have hri : i<rn:=by rw [<- hrow.len,aE hkL];exact HL.out _ (Fj hkL)
   have ci:=hrow.cell i hri
   have hpr:=hrow.pl
   have hf:=(hmine (by omega)).2 k hlt
   have hc2:=hints.cell k hlt
   have hB:=(hmine (by omega)).1
   have Hv:=Z5 (bR L i k hkL)
   go_wp2_with fail
   go_roundw
   case rel =>
    refine ⟨k+1,by omega,by go_num,?_,hbel.setCell hB _⟩
    have h:=bz hown k hlt (.int .i64 (nth (af L k) i))
    rw [<- Ff,en _ _ _ _ (by rw [Fg,b8];omega) hlt] at h
    rw [EV (by rw [b8];omega),<- ai,Hv.out]
    exact h
   case measure=>simp [intOf] <;> omega
  ·obtain rfl : k=n:=by omega
   have hl : (aQ L i).length=k:=by rw [b8];exact Hlen.out
   rw [eZ,ES (by omega)] at hown
   have Hl:=Z5 hl
   clear hl
   go_wp2_with fail
   go_ret
   exact ⟨a1,k,by rw [Hl.out];rfl,by rw [Hl.out];exact hown,hbel⟩
def iQ : LI->Nat
 | []=>0
 | x :: l=>if x=0 then iQ l+1 else 0
theorem AH : ∀l,iQ l<=l.length
 | []=>EF _
 | x :: l=>by have:=AH l;unfold iQ;split <;> simp <;> omega
theorem wg : ∀(l : LI) (k : Nat),k<l.length->(∀j,j<k->nth l j=0)->nth l k ≠ 0->iQ l=k
 | [],k,h,_,_=>by simp at h
 | x :: l,0,_,_,h=>by unfold iQ;rw [EG (by simpa [nth] using h)]
 | x :: l,k+1,h,h0,h1=>by
  have hx : x=0:=by simpa [nth] using h0 0 (by omega)
  unfold iQ;rw [EH hx,wg l k (by simpa using h) (λj hj=>by simpa [nth] using h0 (j+1) (by omega)) (by simpa [nth] using h1)]
theorem nP : ∀(l : LI),(∀j,j<l.length->nth l j=0)->iQ l=l.length
 | [],_=>rfl
 | x :: l,h=>by
  have hx : x=0:=by simpa [nth] using h 0 (by simp)
  unfold iQ;rw [EH hx,nP l (λj hj=>by simpa [nth] using h (j+1) (by simpa using hj))];rfl
theorem jB : ∀(l : LI),iQ l<l.length->nth l (iQ l) ≠ 0
 | [],h=>by simp at h
 | x :: l,h=>by
  unfold iQ at h ⊢;split
  ·rename_i hx;rw [EH hx] at h;have:=jB l (by simpa using h);simpa [nth] using this
  ·rename_i hx;simpa [nth] using hx
theorem te : ∀(l : LI) (j : Nat),j<iQ l->nth l j=0
 | [],j,h=>by simp [iQ] at h
 | x :: l,j,h=>by
  unfold iQ at h;split at h
  ·rename_i hx;match j with
   | 0=>simpa [nth] using hx
   | j+1=>have:=te l j (by omega);simpa [nth] using this
  ·omega
theorem qE (x : Int) (w : World) : Calls prog 188 #[.int .i64 x] w λe w'=>e = .returned (.bool (x != 0))/\w=w':=by go_enter func188,ntmps188;go_wp2;go_ret;exact ⟨rfl,rfl⟩
def jz (l : LI) : Int:=if iQ l<l.length then iQ l else -1
theorem uc (a : OA) (n c : Nat) (l : LI) (w : World) (hi : Ints w a n l) :
  Calls prog 114 #[.slice a n c,.func (.func 188) #[] #[]] w λe w'=>e = .returned (.int .i64 (jz l))/\w=w':=by
 have Hlen:=Z5 hi.len;have hpl:=hi.pl;have hmax:=hi.max;unfold maxLen at hmax;go_enter func114,ntmps114;go_wp2_with fail;go_loop [8] (λiv=>∃k : Nat,k<=n/\iv = .int .i64 k/\Hid (∀j,j<k->nth l j=0)) (λiv=>n - (intOf iv).toNat);case atStart=>exact ⟨0,EL _,rfl,λj hj=>by omega⟩
 case round =>
  obtain ⟨k,hk,rfl,hall⟩:=hrel
  by_cases hlt : k<n
  ·have ck:=hi.cell k hlt
   by_cases hz : nth l k=0
   ·have hz' : (nth l k != 0)=false:=by simpa using hz
    have Hz:=Z5 hz
    clear hz
    go_wp2_with fail
    refine (qE _ _).mono ?_
    rintro e w' ⟨rfl,rfl⟩
    go_wp2_with fail
    go_round
    case rel=>exact ⟨k+1,by omega,by go_num,λj hj=>by
     rcases Fm j k with h | h
     ·exact hall.out j h
     ·rw [show j=k by omega];exact Hz.out⟩
    case measure=>simp [intOf] <;> omega
   ·have hz' : (nth l k != 0)=true:=by simpa using hz
    have Hf : Hid (jz l=k):=by show _=_;have:=wg l k (by rw [Hlen.out];exact hlt) hall.out hz;rw [jz,this,EH (by rw [Hlen.out];exact hlt)]
    clear hz
    go_wp2_with fail
    refine (qE _ _).mono ?_
    rintro e w' ⟨rfl,rfl⟩
    go_wp2_with fail
    go_ret
    exact ⟨aF Hf.out.symm,rfl⟩
  ·obtain rfl : k=n:=by omega
   have Hf : Hid (jz l = -1):=by show _=_;have:=nP l (by rw [Hlen.out];exact hall.out);rw [jz,this,EG (by omega)]
   go_wp2_with fail
   go_ret
   exact ⟨aF Hf.out.symm,rfl⟩
section
def dj (O : aL) (v : LI) (x : Int) (r : LI) : LI:=List.zipWith (λp y=>O.add p (O.neg (O.mul x y))) v r
theorem dS (O : aL) (v : LI) (x : Int) (r : LI) (h : r.length=v.length) : (dj O v x r).length=v.length:=by simp [dj,h]
theorem dH (O : aL) (v : LI) (x : Int) (r : LI) (i : Nat) (h : r.length=v.length) (hi : i<v.length) : nth (dj O v x r) i=O.add (nth v i) (O.neg (O.mul x (nth r i))):=by rw [ai (show i<(dj O v x r).length by rw [dS _ _ _ _ h];exact hi),ai (show i<r.length by omega),ai hi];simp [dj]
def dw (O : aL) (u : LI) (p : Int) (r : LI) : LI:=if nth u p.toNat=0 then u else dj O u (nth u p.toNat) r
def bN (O : aL) (L : LL) (Q : LI) (v : LI) : Nat->LI
 | 0=>v
 | k+1=>dw O (bN O L Q v k) (nth Q k) (af L k)
structure BS where
 rows : LL
 place : LI
def BS.red (O : aL) (s : BS) (v : LI) : LI:=bN O s.rows s.place v s.rows.length
def BS.dF (O : aL) (s : BS) (v : LI) : Bool:=decide (iQ (s.red O v)<(s.red O v).length)
def BS.next (O : aL) (s : BS) (v : LI) : BS :=
 if s.dF O v=true then ⟨s.rows ++ [(s.red O v).map (O.mul (O.inv (nth (s.red O v) (iQ (s.red O v)))))],s.place ++ [(iQ (s.red O v) : Int)]⟩ else s
structure BS.Ok (El : Int->Prop) (n : Nat) (s : BS) : Prop where
 rws : bx El n s.rows
 len : s.place.length=s.rows.length
 plc : ∀i,i<s.rows.length->0<=nth s.place i/\nth s.place i<n
theorem qx {O : aL} {El : Int->Prop} (hO : pz O El) {v r : LI} {x : Int} (hv : ∀y ∈ v,El y) (hr : ∀y ∈ r,El y) (hx : El x) : ∀y ∈ dj O v x r,El y:=by intro y hy;unfold dj at hy;rw [GN] at hy;obtain ⟨i,hi,rfl⟩:=hy;rw [GO];exact hO.add _ _ (hv _ (Fj _)) (hO.neg _ (hO.mul _ _ hx (hr _ (Fj _))))
theorem lh {O : aL} {El : Int->Prop} (hO : pz O El) {n : Nat} {L : LL} {Q v : LI} (hL : bx El n L) (hQ : ∀i,i<L.length->0<=nth Q i/\nth Q i<n)
  (hv : v.length=n/\∀y ∈ v,El y) : ∀k,k<=L.length->(bN O L Q v k).length=n/\∀y ∈ bN O L Q v k,El y
 | 0,_=>hv
 | k+1,hk=>by
  have ih:=lh hO hL hQ hv k (by omega);have hr:=hL.row (i:=k) (by omega);have hq:=hQ k (by omega);rw [bN,dw];split
  ·exact ih
  ·exact ⟨by rw [dS _ _ _ _ (by omega)];exact ih.1,qx hO ih.2 hr.2 (ih.2 _ (aO (by omega)))⟩
theorem BS.Ok.next {O : aL} {El : Int->Prop} (hO : pz O El) {n : Nat} {s : BS} (h : s.Ok El n) {v : LI} (hv : v.length=n/\∀y ∈ v,El y) : (s.next O v).Ok El n:=by
 unfold BS.next;split
 ·rename_i ht;have hu:=lh hO h.rws h.plc hv s.rows.length (EF _);have hf : iQ (s.red O v)<(s.red O v).length:=by simpa [BS.dF] using ht
  have hne:=jB _ hf;have hul : (s.red O v).length=n:=hu.1;have hue : ∀y ∈ s.red O v,El y:=hu.2;refine ⟨λr hr=>?_,by simp [h.len],λi hi=>?_⟩
  ·rcases List.mem_append.1 hr with h1 | h1
   ·exact h.rws r h1
   ·rw [List.mem_singleton.1 h1];refine ⟨by rw [Fo];exact hul,λy hy=>?_⟩;obtain ⟨z,hz,rfl⟩:=List.mem_map.1 hy;exact hO.mul _ _ (hO.inv _ (hue _ (aO hf)) hne) (hue z hz)
  ·simp only [ER,E0] at hi;by_cases h1 : i<s.rows.length
   ·have:=h.plc i h1;have e : nth (s.place ++ [(iQ (s.red O v) : Int)]) i=nth s.place i:=by simp only [nth,EJ];rw [E2 (by rw [h.len];exact h1)]
    rw [e];exact this
   ·obtain rfl : i=s.rows.length:=by omega
    have e : nth (s.place ++ [(iQ (s.red O v) : Int)]) s.rows.length=iQ (s.red O v):=by simp only [nth,EJ];rw [<- h.len];simp
    rw [e];omega
 ·exact h
structure kQ (w : World) (B bb b : Nat) (ar : OA) (cr : Nat) (R : LA) (ap : OA) (cp : Nat) (s : BS) : Prop where
 bB : B<=bb
 c0 : w.cell? ⟨bb,0,none⟩=some (.pointer (some ⟨b,0,none⟩))
 c1 : w.cell? ⟨bb,1,none⟩=some (.slice ar s.rows.length cr)
 c2 : w.cell? ⟨bb,2,none⟩=some (.slice ap s.rows.length cp)
 fr : ∀i,w.frozen? ⟨bb,i,none⟩=false
 om : aN w B ar s.rows.length cr R s.rows
 pl : w.ownsRow B 3 1 (.slice ap s.rows.length cp) s.rows.length (s.place.map (Value.int .i64))
 d1 : ¬ bH ar R bb
 d2 : db ap bb
 d3 : ap ≠ none->¬ bH ar R (ah ap)
def pr (bb : Nat) (ar : OA) (R : LA) (ap : OA) (x : Nat) : Prop:=x=bb\/bH ar R x\/(ap ≠ none/\x=ah ap)
theorem Aj {w w' : World} {B : Nat} {e : TypeId} {a : OA} {c n : Nat} {xs : List Value} (h : w.ownsRow B e 1 (.slice a n c) n xs) (hb : a ≠ none->w'.heap[ah a]? = w.heap[ah a]?) : w'.ownsRow B e 1 (.slice a n c) n xs:=by
 by_cases ha : a=none
 ·subst ha;refine ⟨h.1,?_⟩;rcases h.2 with h2 | ⟨g,cap,cur,hv,_⟩
  ·exact .inl h2
  ·cases hv
 ·exact gI h (hb ha)
namespace kQ
variable {w w' : World} {B bb b : Nat} {ar : OA} {cr : Nat} {R : LA} {ap : OA} {cp : Nat} {s : BS}
theorem lt (h : kQ w B bb b ar cr R ap cp s) (x : Nat) (hx : pr bb ar R ap x) : B<=x/\x<w.heap.size:=by
 rcases hx with rfl | hx | ⟨h1,rfl⟩
 ·exact ⟨h.bB,EP w _ h.c0⟩
 ·exact h.om.lt x hx
 ·exact aU h.pl h1
theorem bt (h : kQ w B bb b ar cr R ap cp s) (hb : ∀x,pr bb ar R ap x->w'.heap[x]? = w.heap[x]?) : kQ w' B bb b ar cr R ap cp s:=by
 have hbb:=hb bb (.inl rfl);exact ⟨h.bB,(E4 (w:=w) (a:=⟨bb,0,none⟩) hbb).trans h.c0,(E4 (w:=w) (a:=⟨bb,1,none⟩) hbb).trans h.c1,(E4 (w:=w) (a:=⟨bb,2,none⟩) hbb).trans h.c2,
  λi=>(E5 (w:=w) (a:=⟨bb,i,none⟩) hbb).trans (h.fr i),h.om.bt λx hx=>hb x (.inr (.inl hx)),Aj h.pl λha=>hb _ (.inr (.inr ⟨ha,rfl⟩)),h.d1,h.d2,h.d3⟩
theorem aa (h : kQ w B bb b ar cr R ap cp s) (hb : JA w w') : kQ w' B bb b ar cr R ap cp s:=h.bt λx hx=>hb.block x (h.lt x hx).2
theorem only (h : kQ w B bb b ar cr R ap cp s) {av : OA} (ho : bT av w w') (hav : av ≠ none->¬ pr bb ar R ap (ah av)) : kQ w' B bb b ar cr R ap cp s :=
 h.bt λx hx=>ho.block x (h.lt x hx).2 λ⟨h1,h2⟩=>hav h1 (h2 ▸ hx)
end kQ
theorem aN.push {w w' : World} {B : Nat} {a : OA} {n c : Nat} {R : LA} {L : LL} (h : aN w B a n c R L) {r : OA} {rc : Nat} {l : LI}
  (hr : w.ownsRow B 3 1 (.slice r l.length rc) l.length (l.map (Value.int .i64))) (hra : r ≠ none->¬ bH a R (ah r))
  {a' : OA} {c' : Nat} (hown : w'.ownsRow B 22 1 (.slice a' (n+1) c') (n+1) (List.zipWith gU R L ++ [.slice r l.length rc])) (hg : w.grownBy w' (Value.slice a n c).ownBlock)
  (hap : ∀b,b<w.heap.size->db a b->db a' b) : aN w' B a' (n+1) c' (R ++ [(r,rc)]) (L ++ [l]):=by
 have hn' : a' ≠ none:=by
  intro e;have:=(Jl hown)
  obtain ⟨x,y,hv,hp⟩:=this;cases hv
  have:=hp (by omega);rw [e] at this;cases this
 have nthL : ∀i,af (L ++ [l]) i=if i<n then af L i else if i=n then l else []:=by
  intro i;simp only [af,EJ];by_cases h1 : i<n
  ·rw [EH h1,E2 (by rw [h.ll];exact h1)]
  ·rw [EG h1];by_cases h2 : i=n
   ·subst h2;rw [EH rfl,<- h.ll];simp
   ·rw [EG h2,FC (by simp [h.ll];omega)];rfl
 have nthAA : ∀i,aK (R ++ [(r,rc)]) i=if i<n then aK R i else if i=n then (r,rc) else (none,0):=by
  intro i;simp only [aK,EJ];by_cases h1 : i<n
  ·rw [EH h1,E2 (by rw [h.rl];exact h1)]
  ·rw [EG h1];by_cases h2 : i=n
   ·subst h2;rw [EH rfl,<- h.rl];simp
   ·rw [EG h2,FC (by simp [h.rl];omega)];rfl
 have rowKeep : ∀ {x : OA} {cx m : Nat} {xs : List Value},w.ownsRow B 3 1 (.slice x m cx) m xs->(x ≠ none->db a (ah x))->w'.ownsRow B 3 1 (.slice x m cx) m xs:=by intro x cx m xs ho h2;exact Aj ho λhx=>hg.block _ (aU ho hx).2 λe=>(h2 hx).own n c e.symm
 have rA : r ≠ none->db a (ah r):=λhr0=>by
  by_cases ha : a=none
  ·exact .inl ha
  ·exact .inr λe=>hra hr0 (.inl ⟨ha,e.symm⟩)
 have oA : ∀i,i<n->(aK R i).1 ≠ none->db a (ah (aK R i).1):=λi hi hx=>by
  rcases h.mM i hi with h2 | h2
  ·exact absurd h2 hx
  ·exact .inr λe=>h2 e.symm
 have toA : ∀ {x : OA} {cx m : Nat} {xs : List Value},w.ownsRow B 3 1 (.slice x m cx) m xs->(x ≠ none->db a (ah x))->db x (ah a'):=by
  intro x cx m xs ho h2;by_cases hx : x=none
  ·exact .inl hx
  ·rcases hap _ (aU ho hx).2 (h2 hx) with h3 | h3
   ·exact absurd h3 hn'
   ·exact .inr λe=>h3 e.symm
 have ezip : List.zipWith gU (R ++ [(r,rc)]) (L ++ [l])=List.zipWith gU R L ++ [.slice r l.length rc]:=by rw [List.zipWith_append (by rw [h.rl,h.ll])];rfl
 refine ⟨by simp [h.rl],by simp [h.ll],by rw [ezip];exact hown,λi hi=>?_,λi hi=>?_,λi j hi hj hij=>?_⟩
 ·rw [nthL,nthAA];by_cases h1 : i<n
  ·simp only [EH h1];exact rowKeep (h.row i h1) (oA i h1)
  ·obtain rfl : i=n:=by omega
   simp only [EG h1,if_true];exact rowKeep hr rA
 ·rw [nthAA];by_cases h1 : i<n
  ·simp only [EH h1];exact toA (h.row i h1) (oA i h1)
  ·obtain rfl : i=n:=by omega
   simp only [EG h1,if_true];exact toA hr rA
 ·rw [nthAA,nthAA];by_cases h1 : i<n
  ·by_cases h2 : j<n
   ·simp only [EH h1,EH h2];exact h.sep i j h1 h2 hij
   ·obtain rfl : j=n:=by omega
    simp only [EH h1,EG h2,if_true];by_cases hr0 : r=none
    ·exact .inr (.inl hr0)
    ·by_cases hx : (aK R i).1=none
     ·exact .inl hx
     ·exact .inr (.inr λe=>hra hr0 (by rw [e];exact aN.ku (by rw [h.rl];exact h1) hx))
  ·obtain rfl : i=n:=by omega
   have h2 : j<i:=by omega
   simp only [EG h1,EH h2,if_true];by_cases hr0 : r=none
   ·exact .inl hr0
   ·by_cases hx : (aK R j).1=none
    ·exact .inr (.inl hx)
    ·exact .inr (.inr λe=>hra hr0 (by rw [<- e];exact aN.ku (by rw [h.rl];exact h2) hx))
theorem bH.push {w : World} {B : Nat} {a : OA} {n c : Nat} {R : LA} {L : LL} (h : aN w B a n c R L) {r : OA} {rc : Nat} {a' : OA}
  (hap : ∀b,b<w.heap.size->db a b->db a' b) {x : Nat} (hx : bH a' (R ++ [(r,rc)]) x) : bH a R x\/(r ≠ none/\x=ah r)\/w.heap.size<=x:=by
 rcases hx with ⟨h1,rfl⟩ | ⟨i,hi,h1,rfl⟩
 ·by_cases hlt : ah a'<w.heap.size
  ·by_cases h2 : db a (ah a')
   ·rcases hap _ hlt h2 with h3 | h3
    ·exact absurd h3 h1
    ·exact absurd rfl h3
   ·left;left;refine ⟨λe=>h2 (.inl e),?_⟩;apply Fe;intro e;exact h2 (.inr λe2=>e e2.symm)
  ·exact .inr (.inr (by omega))
 ·simp only [ER,E0] at hi;by_cases h2 : i<R.length
  ·have e : aK (R ++ [(r,rc)]) i=aK R i:=by simp only [aK,EJ];rw [E2 h2]
   rw [e] at h1 ⊢;exact .inl (aN.ku h2 h1)
  ·obtain rfl : i=R.length:=by omega
   have e : aK (R ++ [(r,rc)]) R.length=(r,rc):=by simp [aK]
   rw [e] at h1 ⊢;exact .inr (.inl ⟨h1,rfl⟩)
namespace kQ
variable {V w4 w5 X w6 : World} {B bb b : Nat} {ar : OA} {cr : Nat} {R : LA} {ap : OA} {cp : Nat} {s : BS}
theorem Bp {a4 a5 : OA} {c4 c5 k : Nat} {N : LI} {o : Obj} (h : kQ V B bb b ar cr R ap cp s) (hk : s.rows.length=k) (hVB : B<=V.heap.size) (hb4 : JA V w4)
  (hown4 : w4.ownsRow V.heap.size 3 1 (.slice a4 N.length c4) N.length (N.map (Value.int .i64)))
  (hown5 : w5.ownsRow B 22 1 (.slice a5 (k+1) c5) (k+1) (List.zipWith gU R s.rows ++ [.slice a4 N.length c4])) (hgr5 : (w4.alloc o).grownBy w5 (Value.slice ar k cr).ownBlock)
  (hap5 : ∀x,x<(w4.alloc o).heap.size->db ar x->db a5 x) (p1 : ∃v,w5.cell? ⟨bb,1,none⟩=some v) :
  ∃ar' cr' R',(w5.setCell ⟨bb,1,none⟩ (.slice a5 (k+1) c5)).cell? ⟨bb,1,none⟩=some (.slice ar' (k+1) cr')/\aN (w5.setCell ⟨bb,1,none⟩ (.slice a5 (k+1) c5)) B ar' (k+1) cr' R' (s.rows ++ [N]) /\
   aw V (w5.setCell ⟨bb,1,none⟩ (.slice a5 (k+1) c5)) (λx=>x=bb\/bH ar R x) (λx=>x=bb\/bH ar' R' x)/\¬ bH ar' R' bb /\
   (∀i v,i ≠ 1->V.cell? ⟨bb,i,none⟩=some v->(w5.setCell ⟨bb,1,none⟩ (.slice a5 (k+1) c5)).cell? ⟨bb,i,none⟩=some v)/\∀i,(w5.setCell ⟨bb,1,none⟩ (.slice a5 (k+1) c5)).frozen? ⟨bb,i,none⟩=false:=by
 have hbo : JA V (w4.alloc o):=I8 hb4 (aA _ _);have hO4:=h.om.aa hbo;rw [hk] at hO4;have hr : (w4.alloc o).ownsRow B 3 1 (.slice a4 N.length c4) N.length (N.map (Value.int .i64)):=aW (aY hown4 (aA _ _)) hVB;have hra : a4 ≠ none->¬ bH ar R (ah a4):=λh0 hI=>by have h1:=(aU hown4 h0).1;have h2:=(h.om.lt _ hI).2;omega
 have hP:=aN.push hO4 hr hra hown5 hgr5 hap5;have hbb:=h.lt bb (.inl rfl);have haptb : db ar bb:=by
  by_cases ha : ar=none
  ·exact .inl ha
  ·exact .inr λe=>h.d1 (.inl ⟨ha,e.symm⟩)
 have hsz:=hbo.size;have hpush:=λ{x : Nat} (hx : bH a5 (R ++ [(a4,c4)]) x)=>bH.push hO4 hap5 hx;have hd : ¬ bH a5 (R ++ [(a4,c4)]) bb:=λhI=>by
  rcases hpush hI with h1 | ⟨h1,h2⟩ | h1
  ·exact h.d1 h1
  ·have:=(aU hown4 h1).1;omega
  ·omega
 obtain ⟨v,p1⟩:=p1;refine ⟨a5,c5,R ++ [(a4,c4)],EX _ _ _ p1,hP.bt λx hx=>EZ _ _ _ _ λe=>hd (by rw [show bb=x from e.symm];exact hx),?_,hd,λi v hi hv=>?_,λi=>?_⟩;rotate_left
 ·rw [EY _ _ _ _ (by simp <;> omega)];exact bF hgr5 (aj hbo hv) haptb
 ·rw [Fp];exact (E5 (w:=w4.alloc o) (a:=⟨bb,i,none⟩) (hgr5.block bb (by omega) λe=>haptb.own k cr e.symm)).trans (iq hbo hbb.2 (h.fr i))
 have hb0 : Below 0 w5 (w5.setCell ⟨bb,1,none⟩ (.slice a5 (k+1) c5)):=(EI 0 w5).setCell (EL _) _;refine ⟨hb0.os.trans (hgr5.os.trans hbo.os),hb0.tape.trans (hgr5.tape.trans hbo.tape),hb0.output.trans (hgr5.output.trans hbo.output),ET hbo.size (ET hgr5.size hb0.size),λx hx hI=>?_,λx hx=>?_⟩
 ·rw [EZ _ _ _ _ λe=>hI (.inl e)];rw [hgr5.block x (by omega) λe=>?_]
  ·exact hbo.block x hx
  ·apply hI;right;left;cases ar with
   | none=>simp [Value.ownBlock] at e
   | some y=>simp [Value.ownBlock] at e;exact ⟨by simp,by rw [e];rfl⟩
 ·rcases hx with rfl | hx
  ·exact .inl (.inl rfl)
  ·rcases hpush hx with h1 | ⟨h1,h2⟩ | h1
   ·exact .inl (.inr h1)
   ·exact .inr (by have:=(aU hown4 h1).1;omega)
   ·exact .inr (by omega)
theorem AD {a6 : OA} {c6 k : Nat} {f : Int} {L : LL} {Q : LI} {o : Obj} (hB : B<=bb) (x0 : X.cell? ⟨bb,0,none⟩=some (.pointer (some ⟨b,0,none⟩))) (x1 : X.cell? ⟨bb,1,none⟩=some (.slice ar (k+1) cr))
  (x2 : ∃v,X.cell? ⟨bb,2,none⟩=some v)
  (xf : ∀i,X.frozen? ⟨bb,i,none⟩=false) (hO : aN X B ar (k+1) cr R L) (hp : X.ownsRow B 3 1 (.slice ap k cp) k (Q.map (Value.int .i64))) (d1 : ¬ bH ar R bb) (d2 : db ap bb) (d3 : ap ≠ none->¬ bH ar R (ah ap))
  (hown6 : w6.ownsRow B 3 1 (.slice a6 (k+1) c6) (k+1) (Q.map (Value.int .i64) ++ [.int .i64 f])) (hgr6 : (X.alloc o).grownBy w6 (Value.slice ap k cp).ownBlock)
  (hap6 : ∀x,x<(X.alloc o).heap.size->db ap x->db a6 x) :
  kQ (w6.setCell ⟨bb,2,none⟩ (.slice a6 (k+1) c6)) B bb b ar cr R a6 c6 ⟨L,Q ++ [f]⟩ /\
   aw X (w6.setCell ⟨bb,2,none⟩ (.slice a6 (k+1) c6)) (pr bb ar R ap) (pr bb ar R a6):=by
 have hbb : bb<X.heap.size:=EP X _ x0;have hbo : JA X (X.alloc o):=aA _ _;have hsz:=hbo.size;have hne : a6 ≠ none:=λe=>by
  obtain ⟨y,z,hv,hp⟩:=Jl hown6;cases hv
  have:=hp (by omega);rw [e] at this;cases this
 have aptOf : ∀ {x : Nat},db ap x->x<X.heap.size->x ≠ ah a6:=λh2 hx e=>by
  rcases hap6 _ (by omega) h2 with h3 | h3
  ·exact hne h3
  ·exact h3 e.symm
 have hbb6:=aptOf d2 hbb;have blk : ∀x,x<X.heap.size->x ≠ bb->db ap x->(w6.setCell ⟨bb,2,none⟩ (.slice a6 (k+1) c6)).heap[x]? = X.heap[x]?:=λx hx h1 h2=>by rw [EZ _ _ _ _ h1,hgr6.block x (by omega) λe=>h2.own k cp e.symm];exact hbo.block x hx
 have aptO : ∀x,bH ar R x->db ap x:=λx hx=>by
  by_cases h0 : ap=none
  ·exact .inl h0
  ·exact .inr λe=>d3 h0 (e ▸ hx)
 have c6k : ∀i v,X.cell? ⟨bb,i,none⟩=some v->w6.cell? ⟨bb,i,none⟩=some v:=λi v hv=>bF hgr6 (aJ hv _) d2;have hLl : L.length=k+1:=hO.ll;have hQl : Q.length=k:=by simpa using iw hp
 have hO6 : aN (w6.setCell ⟨bb,2,none⟩ (.slice a6 (k+1) c6)) B ar (k+1) cr R L:=hO.bt λx hx=>blk x (hO.lt x hx).2 (λe=>d1 (e ▸ hx)) (aptO x hx);obtain ⟨v2,x2⟩:=x2;refine ⟨⟨hB,?_,?_,?_,λi=>?_,?_,?_,d1,.inr λe=>hbb6 e.symm,λ_ hI=>?_⟩,?_⟩
 ·rw [EY _ _ _ _ (by simp)];exact c6k _ _ x0
 ·rw [EY _ _ _ _ (by simp)];simpa [hLl] using c6k _ _ x1
 ·simp only [hLl];exact EX _ _ _ (c6k _ _ x2)
 ·rw [Fp];exact (E5 (w:=X.alloc o) (a:=⟨bb,i,none⟩) (hgr6.block bb (by omega) λe=>d2.own k cp e.symm)).trans (bV hbb (xf i) _)
 ·simp only [hLl];exact hO6
 ·simp only [hLl];have:=cY hown6 (p:=⟨bb,2,none⟩) (.slice a6 (k+1) c6) (.inr λe=>hbb6 e.symm);simpa using this
 ·exact aptOf (aptO _ hI) (hO.lt _ hI).2 rfl
 ·have hb0 : Below 0 w6 (w6.setCell ⟨bb,2,none⟩ (.slice a6 (k+1) c6)):=(EI 0 w6).setCell (EL _) _;refine ⟨hb0.os.trans (hgr6.os.trans hbo.os),hb0.tape.trans (hgr6.tape.trans hbo.tape),hb0.output.trans (hgr6.output.trans hbo.output),ET hbo.size (ET hgr6.size hb0.size),λx hx hI=>?_,λx hx=>?_⟩
  ·refine blk x hx (λe=>hI (.inl e)) ?_;by_cases h0 : ap=none
   ·exact .inl h0
   ·exact .inr λe=>hI (.inr (.inr ⟨h0,e.symm⟩))
  ·rcases hx with rfl | hx | ⟨h1,rfl⟩
   ·exact .inl (.inl rfl)
   ·exact .inl (.inr (.inl hx))
   ·by_cases hlt : ah a6<X.heap.size
    ·left;right;right;apply Fe;intro hn;have hA : db ap (ah a6):=by
      by_cases h0 : ap=none
      ·exact .inl h0
      ·exact .inr λe=>hn ⟨h0,e.symm⟩
     exact aptOf hA hlt rfl
    ·exact .inr (by omega)
end kQ
end
def eH (l : LI) : LI:=l.mergeSort λx y=>decide (x<=y)
theorem eW (l : LI) : (eH l).Perm l:=List.mergeSort_perm l _
theorem fH (l : LI) : (eH l).length=l.length:=(eW l).length_eq
theorem wu (l : LI) : (eH l).Pairwise λx y=>x<=y:=by have h:=List.pairwise_mergeSort (le:=λx y : Int=>decide (x<=y)) (λa b c h1 h2=>by simp at *;omega) (λa b=>by simp;omega) l;exact h.imp λh=>by simpa using h
theorem jK : ∀ {l l' : LI},l.Pairwise (λx y=>x<=y)->l'.Pairwise (λx y=>x<=y)->l.Perm l'->l=l'
 | [],l',_,_,h=>by rw [List.nil_perm] at h;exact h.symm
 | x :: l,[],_,_,h=>by rw [List.perm_nil] at h;exact h
 | x :: l,y :: l',h1,h2,h=>by
  rw [Gi] at h1 h2;have hx : x ∈ y :: l':=h.subset (Ix ..);have hy : y ∈ x :: l:=h.symm.subset (Ix ..);have e : x=y:=by
   rcases List.mem_cons.1 hx with e | hx
   ·exact e
   ·rcases List.mem_cons.1 hy with e | hy
    ·exact e.symm
    ·have:=h1.1 y hy;have:=h2.1 x hx;omega
  subst e;rw [jK h1.2 h2.2 (List.Perm.cons_inv h)]
theorem je {l l' : LI} (h : l'.Pairwise λx y=>x<=y) (hp : l'.Perm l) : l'=eH l:=jK h (wu l) (hp.trans (eW l).symm)
theorem pQ {l : LI} (h : ∀i j,i<j->j<l.length->nth l i ≠ nth l j) : l.Nodup:=by unfold List.Nodup;rw [F3];intro i j hi hj hij;have:=h i j hij hj;rwa [ai hi,ai hj] at this
section
theorem p3 (f : LI->LI) (L : LL) {i : Nat} (h : i<L.length) : af (L.map f) i=f (af L i):=by rw [aE (by simpa using h),aE h,FZ]
def I2 (a : OA) (R : LA) (a2 : OA) (S : LA) (b : Nat) : Prop:=bH a R b\/bH a2 S b
structure jq (w : World) (B : Nat) (a : OA) (n c : Nat) (R : LA) (a2 : OA) (c2 : Nat) (S : LA) (len : Nat) (J : LL) : Prop where
 om1 : aN w B a n c R (J.map (List.take len))
 om2 : aN w B a2 n c2 S (J.map (List.drop len))
 dis : ∀b,bH a R b->¬ bH a2 S b
namespace jq
variable {w w' w1 : World} {B : Nat} {a : OA} {n c : Nat} {R R' : LA} {a2 : OA} {c2 : Nat} {S S' : LA} {len : Nat} {J J' : LL}
theorem lt (h : jq w B a n c R a2 c2 S len J) (b : Nat) (hb : I2 a R a2 S b) : B<=b/\b<w.heap.size:=by
 rcases hb with hb | hb
 ·exact h.om1.lt b hb
 ·exact h.om2.lt b hb
theorem new (h : jq w B a n c R a2 c2 S len J) {b : Nat} (hb : w.heap.size<=b) : ¬ I2 a R a2 S b:=λh'=>by have:=h.lt b h';omega
theorem aa (h : jq w B a n c R a2 c2 S len J) (hb : JA w w') : jq w' B a n c R a2 c2 S len J:=⟨h.om1.aa hb,h.om2.aa hb,h.dis⟩
theorem ll (h : jq w B a n c R a2 c2 S len J) : J.length=n:=by have:=h.om1.ll;simpa using this
theorem cell (h : jq w B a n c R a2 c2 S len J) {i : Nat} (hi : i<n) (hl : len<=(af J i).length) : w.cell? ⟨ah a,aG a+i,none⟩=some (.slice (aK R i).1 len (aK R i).2):=by have h1:=h.om1.cell hi;rw [p3 _ J (by rw [h.ll];exact hi),Fg,I1 hl] at h1;exact h1
theorem ints (h : jq w B a n c R a2 c2 S len J) {i : Nat} (hi : i<n) (hl : len<=(af J i).length) : Ints w (aK R i).1 len ((af J i).take len):=by have h1:=h.om1.ints hi;rw [p3 _ J (by rw [h.ll];exact hi),Fg,I1 hl] at h1;exact h1
end jq
variable {w : World} {b : Nat} {G : cC}
end
section
variable {w : World} {b : Nat} {G : cC}
theorem jq.bt {w' : World} {B : Nat} {a : OA} {n c : Nat} {R : LA} {a2 : OA} {c2 : Nat} {S : LA} {len : Nat} {J : LL} (h : jq w B a n c R a2 c2 S len J) (hb : ∀b,I2 a R a2 S b->w'.heap[b]? = w.heap[b]?) : jq w' B a n c R a2 c2 S len J :=
 ⟨h.om1.bt λb hb'=>hb b (.inl hb'),h.om2.bt λb hb'=>hb b (.inr hb'),h.dis⟩
end
def swp (X : LI) (j : Nat) : LI:=(X.set j (nth X (j - 1))).set (j - 1) (nth X j)
theorem xS {X : LI} {j : Nat} (h0 : 0<j) (hj : j<X.length) (i : Nat) : nth (swp X j) i=if i=j - 1 then nth X j else if i=j then nth X (j - 1) else nth X i:=by unfold swp;rw [cX _ _ _ _ (by simp;omega),cX _ _ _ _ hj]
def A2 (X : LI) (k : Nat) : Prop:=∀p q,p<q->q<k->nth X p<=nth X q
def zj (X : LI) (i j : Nat) : Prop:=∀p q,p<q->q<=i->q ≠ j->nth X p<=nth X q
theorem A2.start {X : LI} {i : Nat} (h : A2 X i) : zj X i i:=λp q h1 h2 h3=>h p q h1 (by omega)
theorem zj.step {X : LI} {i j : Nat} (h : zj X i j) (h0 : 0<j) (hji : j<=i) (hj : j<X.length) (hlt : nth X j<nth X (j - 1)) : zj (swp X j) i (j - 1):=λp q h1 h2 h3=>by
 rw [xS h0 hj,xS h0 hj];by_cases e1 : q=j
 ·subst e1;rw [EG h3,EH rfl];by_cases e2 : p=q - 1
  ·rw [EH e2];omega
  ·rw [EG e2,EG (by omega)];exact h p (q - 1) (by omega) (by omega) (by omega)
 ·rw [EG h3,EG e1];by_cases e2 : p=j - 1
  ·rw [EH e2];exact h j q (by omega) h2 e1
  ·rw [EG e2];by_cases e3 : p=j
   ·rw [EH e3];exact h (j - 1) q (by omega) h2 e1
   ·rw [EG e3];exact h p q h1 h2 e1
theorem zj.done {X : LI} {i j : Nat} (h : zj X i j) (hji : j<=i) (hd : j=0\/nth X (j - 1)<=nth X j) : A2 X (i+1):=λp q h1 h2=>by
 by_cases e : q=j
 ·subst e;rcases hd with hd | hd
  ·omega
  ·by_cases e2 : p=q - 1
   ·rw [e2];exact hd
   ·exact H4 (h p (q - 1) (by omega) (by omega) (by omega)) hd
 ·exact h p q h1 (by omega) e
theorem A2.sort {X Q : LI} {k : Nat} (h : A2 X k) (hk : X.length<=k) (hp : X.Perm Q) : X=eH Q:=by refine je ?_ hp;rw [F3];intro i j hi hj hij;have:=h i j hij (by omega);rwa [ai hi,ai hj] at this
def Jt:=@aN.push
end Go.Proofs.YtjfiflldinnhmaaGreat
