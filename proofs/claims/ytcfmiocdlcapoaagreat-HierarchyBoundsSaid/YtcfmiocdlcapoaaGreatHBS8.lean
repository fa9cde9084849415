import Derived.Test.YtcfmiocdlcapoaaGreatHBS6
namespace Go.Proofs.YtcfmiocdlcapoaaGreat
set_option linter.all false
set_option maxRecDepth 100000
set_option maxHeartbeats 3200000
open Go.RowKit Tryz
section
variable {w : World} {b : Nat} {G : cJ}
@[go_sem high] theorem run_slice_h0 {P : Program} (w : World) (t : TypeId) (a : OA) (len cap : Nat) (ht : P.underlying t=some (.slice (P.elem t))) (kh : IntKind) (h : Int) (h0 : 0<=h) (h2 : h<=cap) :
  (Instr.slice t (.slice a len cap) none (some (.int kh h)) none).run P w=((sizeOf (P.elem t)).run P w).andThen λ_ w=>.ok (.slice a h.toNat cap) w:=by rw [run_slice_h w t a len cap ht kh h h0 h2];congr 1;funext s w;congr 1;simp only [sliced,PS,Addr.add,if_true,OS,QP,ite_self]
@[go_sem high] theorem run_slice_hm0 {P : Program} (w : World) (t : TypeId) (a : OA) (len cap : Nat) (ht : P.underlying t=some (.slice (P.elem t))) (kh km : IntKind) (h m : Int) (h0 : 0<=h) (h2 : h<=m) (h3 : m<=cap) :
  (Instr.slice t (.slice a len cap) none (some (.int kh h)) (some (.int km m))).run P w=((sizeOf (P.elem t)).run P w).andThen λ_ w=>.ok (.slice a h.toNat m.toNat) w:=by rw [run_slice_hm w t a len cap ht kh km h m h0 h2 h3];congr 1;funext s w;congr 1;simp only [sliced,PS,Addr.add,if_true,OS,QP,ite_self]
theorem uX {L : ZZ} {k i : Nat} (h : i<k) : ai (L.take k) i=ai L i:=by simp only [ai,Mk,Nj,Mg h]
theorem cU.take {w : World} {a : OA} {n : Nat} {L : ZZ} (h : cU w a n L) {k : Nat} (hk : k<=n) : cU w a k (L.take k):=by refine ⟨by rw [MJ,h.len];omega,λh0=>h.pl (by omega),Mt hk h.max,λi hi=>?_⟩;rw [uX hi];exact h.cell i (by omega)
structure cA (B : Nat) (w : World) (a : OA) (n : Nat) (l : Lz) : Prop where
 ints : Ints w a n l
 lo : 0<n->B<=an a
structure bX (B : Nat) (w : World) (a : OA) (n : Nat) (l : ZZ) : Prop where
 len : l.length=n
 pl : Pl a n
 max : n<=maxLen
 lo : 0<n->B<=an a
 cell : ∀i,i<n->∃b m c,w.cell? ⟨an a,aP a+i,none⟩=some (.slice b m c)/\cA B w b m (ai l i)
theorem cA.mono {B B' : Nat} {w : World} {a : OA} {n : Nat} {l : Lz} (h : cA B w a n l) (hB : B'<=B) : cA B' w a n l:=⟨h.ints,λhn=>Mt hB (h.lo hn)⟩
theorem bX.mono {B B' : Nat} {w : World} {a : OA} {n : Nat} {l : ZZ} (h : bX B w a n l) (hB : B'<=B) : bX B' w a n l :=
 ⟨h.len,h.pl,h.max,λhn=>Mt hB (h.lo hn),λi hi=>by obtain ⟨b,m,c,h1,h2⟩:=h.cell i hi;exact ⟨b,m,c,h1,h2.mono hB⟩⟩
theorem bX.rC {B : Nat} {w : World} {a : OA} {n : Nat} {l : ZZ} (h : bX B w a n l) : cU w a n l :=
 ⟨h.len,h.pl,h.max,λi hi=>by obtain ⟨b,m,c,h1,h2⟩:=h.cell i hi;exact ⟨b,m,c,h1,h2.ints⟩⟩
theorem cA.bu {B : Nat} {w V : World} {a : OA} {n : Nat} {l : Lz} (h : cA B w a n l) (hb : ∀b,B<=b->b<w.heap.size->V.heap[b]? = w.heap[b]?) : cA B V a n l :=
 ⟨h.ints.of_block λhn=>hb _ (h.lo hn) (h.ints.lt hn),h.lo⟩
theorem bX.bu {B : Nat} {w V : World} {a : OA} {n : Nat} {l : ZZ} (h : bX B w a n l) (hb : ∀b,B<=b->b<w.heap.size->V.heap[b]? = w.heap[b]?) : bX B V a n l:=by refine ⟨h.len,h.pl,h.max,h.lo,λi hi=>?_⟩;obtain ⟨b,m,c,h1,h2⟩:=h.cell i hi;exact ⟨b,m,c,(MI (w:=w) (a:=⟨an a,aP a+i,none⟩) (hb _ (h.lo (by omega)) (Mn w _ h1))).trans h1,h2.bu hb⟩
theorem cA.ah {B : Nat} {w V : World} {a : OA} {n : Nat} {l : Lz} (h : cA B w a n l) (hb : Rs w V) : cA B V a n l:=h.bu λb _ h2=>hb.block b h2
theorem bX.ah {B : Nat} {w V : World} {a : OA} {n : Nat} {l : ZZ} (h : bX B w a n l) (hb : Rs w V) : bX B V a n l:=h.bu λb _ h2=>hb.block b h2
theorem cA.setCell {B : Nat} {w : World} {a : OA} {n : Nat} {l : Lz} (h : cA B w a n l) {p : Addr} (hp : p.block<B) (v : Value) : cA B (w.setCell p v) a n l :=
 h.bu λb h1 _=>MB _ _ _ _ (by omega)
theorem bX.setCell {B : Nat} {w : World} {a : OA} {n : Nat} {l : ZZ} (h : bX B w a n l) {p : Addr} (hp : p.block<B) (v : Value) : bX B (w.setCell p v) a n l :=
 h.bu λb h1 _=>MB _ _ _ _ (by omega)
theorem cA.own {w : World} {B : Nat} {e : TypeId} {a : OA} {c n : Nat} {l : Lz} (h : w.ownsRow B e 1 (.slice a n c) n (l.map (Value.int .i64))) : cA B w a n l :=
 ⟨(QR h).1,λhn=>(bC h 0 hn).2.2.1⟩
theorem bX.own {w : World} {B : Nat} {a : OA} {n c : Nat} {R : Z4} {L : ZZ} (h : aY w B a n c R L) : bX B w a n L :=
 ⟨h.ll,h.pl,h.max,λhn=>(fG h.own hn).1,λ_ hi=>⟨_,_,_,h.cell hi,cA.own (h.row _ hi)⟩⟩
theorem bX.take {B : Nat} {w : World} {a : OA} {n : Nat} {L : ZZ} (h : bX B w a n L) {k : Nat} (hk : k<=n) : bX B w a k (L.take k):=by refine ⟨by rw [MJ,h.len];omega,λh0=>h.pl (by omega),Mt hk h.max,λh0=>h.lo (by omega),λi hi=>?_⟩;rw [uX hi];exact h.cell i (by omega)
def eW (G : cJ) (L : ZZ) (m : Nat) : ZZ:=(aC G.ops L m).1.take (aC G.ops L m).2.length
def ee (G : cJ) (L : ZZ) (m : Nat) : Lz:=(aC G.ops L m).2
theorem iW (G : cJ) (L : ZZ) (m : Nat) : (eW G L m).length=(ee G L m).length:=by have h1:=fH G.ops L m;have h2:=cN G.ops L m;unfold eW ee;rw [MJ];omega
def uT (G : cJ) (L : ZZ) (m : Nat) (w : World) (e : Ending) (w' : World) : Prop :=
 ∃a c ap cp,e = .returned (.tuple #[.slice a (ee G L m).length c,.slice ap (ee G L m).length cp])/\bX w.heap.size w' a (ee G L m).length (eW G L m)/\cA w.heap.size w' ap (ee G L m).length (ee G L m)/\Rs w w'
theorem o8 (a : OA) (n c m : Nat) (L : ZZ) (h : dW w b G) (hi : cU w a n L) (hR : bx G.El m L) (hm : m<=1000000) (hn : n<=1000000) :
  Calls prog 146 #[.pointer (some ⟨b,0,none⟩),.slice a n c,.int .i64 m] w (uT G L m w):=by
 have Hlen:=Z5 hi.len;have HR:=Z5 hR;have hLm : ∀l ∈ L,l.length<=1000000:=λl hl=>by rw [(hR l hl).1];exact hm
 have HLm:=Z5 hLm;clear hLm hR;go_enter func146,ntmps146;go_wp2_with fail;refine (vw a n c L hi hn HLm.out).mono ?_;rintro e w1 ⟨a1,c1,R1,rfl,hO1,hb1⟩;go_wp2_with fail;refine (ux w a1 L.length c1 m m R1 L h hb1 hO1 HR.out (Mf _) hm (by rw [Hlen.out];exact hn)).mono ?_;rintro e w2 ⟨R2,ap,cp,d,rfl,hO2,hp2,hM2,hb2⟩;have hpl:=fH G.ops L m;have hcap:=rz hO2.own;have hpv:=(cA.own hp2).mono hb1.size;have hmt:=(bX.own hO2).take (k:=(aC G.ops L m).2.length) hpl.2;have hF : uT G L m w (.returned (.tuple #[.slice a1 (aC G.ops L m).2.length (aC G.ops L m).2.length,.slice ap (aC G.ops L m).2.length cp])) w2:=⟨a1,_,ap,cp,rfl,hmt,hpv,hb2⟩
 have HF:=Z5 hF;have hle : (aC G.ops L m).2.length<=c1:=Mt hpl.2 hcap;clear hF hpv hmt hp2 hcap hpl;generalize (aC G.ops L m).2.length=k at *;go_wp2_with fail;go_ret2;simpa using HF.out
end
def ef (P M : Int) (mod : Lz) (cols : Int) (L : ZZ) : Int :=
 if bQ P M mod=true then eZ (aa P M.toNat mod).q cols L else 1
def yS (P M : Int) (mod : Lz) (cols : Int) (L : ZZ) (w : World) (e : Ending) (w' : World) : Prop :=
 Rs w w'/\(
 (ef P M mod cols L ≠ 0/\e = .returned (.tuple #[.agg #[.int .i64 0,.slice none 0 0],.slice none 0 0,.int .i64 (ef P M mod cols L)])) \/
 (ef P M mod cols L=0/\∃m : Nat,cols=m/\∃a c ap cp,e = .returned (.tuple #[.agg #[.int .i64 m,.slice a (ee (aa P M.toNat mod) L m).length c],.slice ap (ee (aa P M.toNat mod) L m).length cp,.int .i64 0]) /\
  bX w.heap.size w' a (ee (aa P M.toNat mod) L m).length (eW (aa P M.toNat mod) L m)/\cA w.heap.size w' ap (ee (aa P M.toNat mod) L m).length (ee (aa P M.toNat mod) L m)))
theorem jr {q cols : Int} {L : ZZ} (h : eZ q cols L=0) : ∃m : Nat,cols=m/\m<=256/\L.length<=256/\bx (λx=>0<=x/\x<q) m L:=by
 unfold eZ at h;split at h
 ·omega
 ·rename_i h1;split at h
  ·omega
  ·rename_i h2;split at h
   ·rename_i h3;refine ⟨cols.toNat,by omega,by omega,by omega,λr hr=>?_⟩;have h4 : iy cols L=true:=by simpa using h2
    unfold iy at h4;rw [MX] at h4 h3;have h5:=h4 r hr;have h6:=h3 r hr;unfold kD jO at h6;rw [MX] at h6;refine ⟨by simp at h5;omega,λx hx=>?_⟩;have h7:=h6 x hx;simpa using h7
   ·omega
theorem jq {q cols : Int} {L : ZZ} : jd q [(cols,L)]=eZ q cols L:=by
 simp only [jd];split
 ·rename_i h;exact h.symm
 ·rfl
theorem ki (P M : Int) (am : OA) (mn cm : Nat) (mod : Lz) (cols : Int) (a : OA) (n c : Nat) (L : ZZ) (w : World) (hmod : Ints w am mn mod) (hi : cU w a n L) :
  Calls prog 158 #[.agg #[.int .i64 P,.int .i64 M,.slice am mn cm],.agg #[.int .i64 cols,.slice a n c]] w (yS P M mod cols L w):=by
 have Hlen:=Z5 hi.len;go_enter func158,ntmps158;go_wp2_with fail;obtain ⟨W,hW⟩ : ∃W : World,W=((((w.alloc (.cells #[.int .i64 P,.int .i64 M,.slice am mn cm] 24)).alloc (.cells #[.int .i64 cols,.slice a n c] 82)).alloc (.cells #[.int .i64 0,.slice none 0 0] 82)).alloc (.cells #[.int .i64 cols,.slice a n c] 82)):=⟨_,rfl⟩
 rw [<- hW];have hbW : Rs w W:=by rw [hW];exact ((((Mi _ _).alloc (Mf _) _).alloc (by simp) _).alloc (by simp;omega) _).alloc (by simp;omega) _
 have hsW : W.heap.size=w.heap.size+4:=by rw [hW];simp
 have q1 : W.cell? ⟨w.heap.size+1,0,none⟩=some (.int .i64 cols)/\W.cell? ⟨w.heap.size+1,1,none⟩=some (.slice a n c):=by rw [hW];exact ⟨aM (aM (aE _ _ _ (by simp) 0) _) _,aM (aM (aE _ _ _ (by simp) 1) _) _⟩
 have q2 : W.cell? ⟨w.heap.size+1+1,0,none⟩=some (.int .i64 0)/\W.cell? ⟨w.heap.size+1+1,1,none⟩=some (.slice none 0 0)/\W.frozen? ⟨w.heap.size+1+1,0,none⟩=false/\W.frozen? ⟨w.heap.size+1+1,1,none⟩=false:=by rw [hW];exact ⟨aM (aE _ _ _ (by simp) 0) _,aM (aE _ _ _ (by simp) 1) _,cR (by simp) (kN _ _ _ (by simp) 0) _,cR (by simp) (kN _ _ _ (by simp) 1) _⟩
 have q3 : W.cell? ⟨w.heap.size+1+1+1,0,none⟩=some (.int .i64 cols)/\W.cell? ⟨w.heap.size+1+1+1,1,none⟩=some (.slice a n c):=by rw [hW];exact ⟨aE _ _ _ (by simp) 0,aE _ _ _ (by simp) 1⟩
 have hiW:=hi.ah hbW;have hMs : uE W (some ⟨w.heap.size+1+1+1,0,none⟩) 1 [(cols,L)]:=⟨rfl,λ_=>rfl,by unfold maxLen;omega,λi hi=>by
  have : i=0:=by simp at hi;omega
  subst this;exact ⟨a,n,c,by simpa using q3.1,by simpa using q3.2,hiW⟩⟩
 have HsW:=Z5 hsW;clear hW hsW;refine (kH P M am mn cm mod _ 1 1 _ W (hmod.ah hbW) hMs).mono ?_;rintro e w1 ⟨hb1,hcase⟩;have hbw1:=QQ hbW hb1;have hq : ∀V,Rs W V->V.cell? ⟨w.heap.size+1,0,none⟩=some (.int .i64 cols)/\V.cell? ⟨w.heap.size+1,1,none⟩=some (.slice a n c)/\V.cell? ⟨w.heap.size+1+1,0,none⟩=some (.int .i64 0)/\V.cell? ⟨w.heap.size+1+1,1,none⟩=some (.slice none 0 0)/\V.frozen? ⟨w.heap.size+1+1,0,none⟩=false/\V.frozen? ⟨w.heap.size+1+1,1,none⟩=false:=by intro V hV;have hs:=HsW.out;exact ⟨aA hV q1.1,aA hV q1.2,aA hV q2.1,aA hV q2.2.1,(hV.frozen (p:=⟨w.heap.size+1+1,0,none⟩) (by simp [hs])).trans q2.2.2.1,(hV.frozen (p:=⟨w.heap.size+1+1,1,none⟩) (by simp [hs])).trans q2.2.2.2⟩
 have Hq:=Z5 hq;clear hq q1 q2 q3;rcases hcase with ⟨hB,rfl⟩ | ⟨hB,er,h0,h1,rfl⟩ | ⟨hB,h1,b,rfl,hG,hbl⟩
 ·obtain ⟨r1,r2,r3,r4,r5,r6⟩:=Hq.out w1 hb1;have HB : Hid (ef P M mod cols L=1):=by show _=_;rw [ef,hB];rfl
  clear hB;go_wp2_with fail;refine bodyPost_ret (v:=.tuple #[.agg #[.int .i64 0,.slice none 0 0],.slice none 0 0,.int .i64 1]) (by simp [results,results158,go_sem,r3,r4]) rfl ⟨(hbw1.setCell (by simp;omega) _).setCell (by simp;omega) _,.inl ⟨by rw [HB.out];omega,by rw [HB.out]⟩⟩
 ·obtain ⟨r1,r2,r3,r4,r5,r6⟩:=Hq.out w1 hb1;have HB : Hid (ef P M mod cols L=er):=by show _=_;rw [ef,hB,Mg rfl,<- h1,jq]
  have He : Hid (er ≠ 0):=h0;have he' : (er != 0)=true:=by simpa using h0
  clear hB h0 h1;go_wp2_with fail;refine bodyPost_ret (v:=.tuple #[.agg #[.int .i64 0,.slice none 0 0],.slice none 0 0,.int .i64 er]) (by simp [results,results158,go_sem,r3,r4]) rfl ⟨(hbw1.setCell (by simp;omega) _).setCell (by simp;omega) _,.inl ⟨by rw [HB.out];exact He.out,by rw [HB.out]⟩⟩
 ·obtain ⟨r1,r2,r3,r4,r5,r6⟩:=Hq.out w1 hb1;rw [jq] at h1;obtain ⟨m,rfl,hm,hn,hR⟩:=jr h1;have HB : Hid (ef P M mod m L=0):=by show _=_;rw [ef,hB,Mg rfl,h1]
  clear hB h1;go_wp2_with fail;refine (o8 a n c m L hG (hiW.ah hb1) hR (by omega) (by rw [<- Hlen.out];omega)).mono ?_;rintro e w2 ⟨a2,c2,ap,cp,rfl,hM2,hp2,hb2⟩;have hbw2:=QQ hbw1 hb2;obtain ⟨r1,r2,r3,r4,r5,r6⟩:=Hq.out w2 (QQ hb1 hb2);have hF : yS P M mod m L w (.returned (.tuple #[.agg #[.int .i64 m,.slice a2 (ee (aa P M.toNat mod) L m).length c2],.slice ap (ee (aa P M.toNat mod) L m).length cp,.int .i64 0])) ((w2.setCell ⟨w.heap.size+1+1,0,none⟩ (.int .i64 m)).setCell ⟨w.heap.size+1+1,1,none⟩ (.slice a2 (ee (aa P M.toNat mod) L m).length c2)):=by
   have hs:=HsW.out;have hs1:=hb1.size;refine ⟨(hbw2.setCell (by simp;omega) _).setCell (by simp;omega) _,.inr ⟨HB.out,m,rfl,a2,c2,ap,cp,rfl,?_,?_⟩⟩
   ·exact ((hM2.setCell (p:=⟨w.heap.size+1+1,0,none⟩) (by simp;omega) _).setCell (p:=⟨w.heap.size+1+1,1,none⟩) (by simp;omega) _).mono (by omega)
   ·exact ((hp2.setCell (p:=⟨w.heap.size+1+1,0,none⟩) (by simp;omega) _).setCell (p:=⟨w.heap.size+1+1,1,none⟩) (by simp;omega) _).mono (by omega)
  have HF:=Z5 hF;clear hF hM2 hp2;generalize (ee (aa P M.toNat mod) L m).length=k at *;go_wp2_with fail;exact bodyPost_ret (v:=.tuple #[.agg #[.int .i64 m,.slice a2 k c2],.slice ap k cp,.int .i64 0]) (by simp [results,results158,go_sem,r3,r4]) rfl HF.out
section
theorem qg {l l' : Lz} {k : Nat} (h : l.take k=l'.take k) (h1 : k<l.length) (h2 : k<l'.length) (he : nth l k=nth l' k) : l.take (k+1)=l'.take (k+1):=by rw [Mu h1,Mu h2,h,<- aj h1,<- aj h2,he]
theorem nT {l l' : ZZ} {k : Nat} (h : l.take k=l'.take k) (h1 : k<l.length) (h2 : k<l'.length) (he : ai l k=ai l' k) : l.take (k+1)=l'.take (k+1):=by rw [Mu h1,Mu h2,h,<- aF h1,<- aF h2,he]
variable {w : World}
theorem EN (a : OA) (n c : Nat) (l : Lz) (a' : OA) (n' c' : Nat) (l' : Lz) (h : Ints w a n l) (h' : Ints w a' n' l') :
  Calls prog 209 #[.slice a n c,.slice a' n' c'] w (mw w (decide (l=l'))):=by
 have Hl:=Z5 h.len;have Hl':=Z5 h'.len;have hpl:=h.pl;have hpl':=h'.pl;have hmax:=h.max;unfold maxLen at hmax;by_cases hn : n=n'
 ·subst hn;have hnn : ((n : Int) != n)=false:=by simp
  go_enter func209,ntmps209;go_wp2_with fail;go_loopw [13] (λiv wr=>∃k : Nat,k<=n/\iv = .int .i64 k/\Hid (l.take k=l'.take k)/\bs w wr) (λi _=>n - (intOf i).toNat);case atStart=>exact ⟨0,Mj _,rfl,rfl,QW _⟩
  case round =>
   obtain ⟨k,hk,rfl,htk,hd⟩:=hrel
   by_cases hlt : k<n
   ·have c1:=(h.drawn hd).cell k hlt
    have c2:=(h'.drawn hd).cell k hlt
    by_cases he : nth l k=nth l' k
    ·have he' : (nth l k != nth l' k)=false:=by simpa using he
     have Hs : Hid (l.take (k+1)=l'.take (k+1)):=qg htk.out (by rw [Hl.out];exact hlt) (by rw [Hl'.out];exact hlt) he
     clear he
     go_wp2_with fail
     go_quiet (fail)
     go_wp2
     go_roundw
     case rel=>exact ⟨k+1,by omega,by go_num,Hs.out,hd.drewN _⟩
     case measure=>simp [intOf] <;> omega
    ·have he' : (nth l k != nth l' k)=true:=by simpa using he
     have Hs : Hid (decide (l=l')=false):=by show _=_;simp;intro e;exact he (by rw [e])
     clear he
     go_wp2_with fail
     go_quiet (fail)
     go_wp2
     go_ret
     exact ⟨bz Hs.out.symm,hd.drewN _⟩
   ·obtain rfl : k=n:=by omega
    have Hs : Hid (decide (l=l')=true):=by show _=_;have:=htk.out;rw [Ms (by rw [Hl.out];exact Mf _),Ms (by rw [Hl'.out];exact Mf _)] at this;simpa using this
    go_wp2_with fail
    go_ret
    exact ⟨bz Hs.out.symm,hd⟩
 ·have hnn : ((n : Int) != n')=true:=by simp;omega
  have Hs : Hid (decide (l=l')=false):=by show _=_;simp;intro e;have e1:=Hl.out;have e2:=Hl'.out;rw [e] at e1;omega
  clear hn;go_enter func209,ntmps209;go_wp2_with fail;go_ret;exact ⟨bz Hs.out.symm,QW _⟩
theorem ur (a : OA) (n c : Nat) (l : ZZ) (a' : OA) (n' c' : Nat) (l' : ZZ) (h : cU w a n l) (h' : cU w a' n' l') :
  Calls prog 208 #[.slice a n c,.slice a' n' c',.func (.func 209) #[] #[]] w (mw w (decide (l=l'))):=by
 have Hl:=Z5 h.len;have Hl':=Z5 h'.len;have hpl:=h.pl;have hpl':=h'.pl;have hmax:=h.max;unfold maxLen at hmax;by_cases hn : n=n'
 ·subst hn;have hnn : ((n : Int) != n)=false:=by simp
  go_enter func208,ntmps208;go_wp2_with fail;go_loopw [17] (λiv wr=>∃k : Nat,k<=n/\iv = .int .i64 k/\Hid (l.take k=l'.take k)/\bs w wr) (λi _=>n - (intOf i).toNat);case atStart=>exact ⟨0,Mj _,rfl,rfl,QW _⟩
  case round =>
   obtain ⟨k,hk,rfl,htk,hd⟩:=hrel
   by_cases hlt : k<n
   ·obtain ⟨b1,n1,d1,c1,i1⟩:=(h.drawn hd).cell k hlt
    obtain ⟨b2,n2,d2,c2,i2⟩:=(h'.drawn hd).cell k hlt
    go_wp2_with fail
    refine (EN _ _ _ _ _ _ _ _ i1 i2).mono ?_
    rintro e w2 ⟨rfl,hd2⟩
    by_cases he : ai l k=ai l' k
    ·have he' : decide (ai l k=ai l' k)=true:=by simpa using he
     have Hs : Hid (l.take (k+1)=l'.take (k+1)):=nT htk.out (by rw [Hl.out];exact hlt) (by rw [Hl'.out];exact hlt) he
     rw [he']
     clear he he'
     go_wp2_with fail
     go_roundw
     case rel=>exact ⟨k+1,by omega,by go_num,Hs.out,hd.trans hd2⟩
     case measure=>simp [intOf] <;> omega
    ·have he' : decide (ai l k=ai l' k)=false:=by simpa using he
     have Hs : Hid (decide (l=l')=false):=by show _=_;simp;intro e;exact he (by rw [e])
     rw [he']
     clear he he'
     go_wp2_with fail
     go_ret
     exact ⟨bz Hs.out.symm,hd.trans hd2⟩
   ·obtain rfl : k=n:=by omega
    have Hs : Hid (decide (l=l')=true):=by show _=_;have:=htk.out;rw [Ms (by rw [Hl.out];exact Mf _),Ms (by rw [Hl'.out];exact Mf _)] at this;simpa using this
    go_wp2_with fail
    go_ret
    exact ⟨bz Hs.out.symm,hd⟩
 ·have hnn : ((n : Int) != n')=true:=by simp;omega
  have Hs : Hid (decide (l=l')=false):=by show _=_;simp;intro e;have e1:=Hl.out;have e2:=Hl'.out;rw [e] at e1;omega
  clear hn;go_enter func208,ntmps208;go_wp2_with fail;go_ret;exact ⟨bz Hs.out.symm,QW _⟩
end
def eF (P M : Int) (mod : Lz) (cols : Int) (L : ZZ) : Int :=
 if ef P M mod cols L=0 then (if eW (aa P M.toNat mod) L cols.toNat=L then 0 else 5) else ef P M mod cols L
def vd (P M : Int) (mod : Lz) (cols : Int) (a : OA) (n c : Nat) (L : ZZ) (w : World) (e : Ending) (w' : World) : Prop :=
 Rs w w'/\(
 (eF P M mod cols L ≠ 0/\e = .returned (.tuple #[.agg #[.pointer none,.int .i64 0,.slice none 0 0,.slice none 0 0],.int .i64 (eF P M mod cols L)])) \/
 (eF P M mod cols L=0/\∃(m b : Nat),cols=m/\∃ap cp,e = .returned (.tuple #[.agg #[.pointer (some ⟨b,0,none⟩),.int .i64 m,.slice a n c,.slice ap (ee (aa P M.toNat mod) L m).length cp],.int .i64 0]) /\
  E2 w.heap.size w' b (aa P M.toNat mod)/\w.heap.size<=b/\cA w.heap.size w' ap (ee (aa P M.toNat mod) L m).length (ee (aa P M.toNat mod) L m)))
theorem mS (P M : Int) (am : OA) (mn cm : Nat) (mod : Lz) (cols : Int) (a : OA) (n c : Nat) (L : ZZ) (w : World) (hmod : Ints w am mn mod) (hi : cU w a n L) :
  Calls prog 142 #[.agg #[.int .i64 P,.int .i64 M,.slice am mn cm],.agg #[.int .i64 cols,.slice a n c]] w (vd P M mod cols a n c L w):=by
 have Hlen:=Z5 hi.len;go_enter func142,ntmps142;go_wp2_with fail;obtain ⟨W,hW⟩ : ∃W : World,W=(((w.alloc (.cells #[.int .i64 P,.int .i64 M,.slice am mn cm] 24)).alloc (.cells #[.int .i64 cols,.slice a n c] 82)).alloc (.cells #[.pointer none,.int .i64 0,.slice none 0 0,.slice none 0 0] 162)):=⟨_,rfl⟩
 rw [<- hW];have hbW : Rs w W:=by rw [hW];exact tu _ _ _ _
 have hsW : W.heap.size=w.heap.size+3:=by rw [hW];simp
 have x0 : bf W w.heap.size [.int .i64 P,.int .i64 M,.slice am mn cm]:=by rw [hW];exact ((QS _ _ _ rfl).alloc _).alloc _
 have x1 : bf W (w.heap.size+1) [.int .i64 cols,.slice a n c]:=by rw [hW];exact (QS _ _ _ (by simp)).alloc _
 have x2 : bf W (w.heap.size+1+1) [.pointer none,.int .i64 0,.slice none 0 0,.slice none 0 0]:=by rw [hW];exact QS _ _ _ (by simp)
 have HX:=Z5 (My x0 (My x1 x2));have HsW:=Z5 hsW;have hiW:=hi.ah hbW;have hmW:=hmod.ah hbW;clear hW hsW x0 x1 x2;refine (ki P M am mn cm mod cols a n c L W hmW hiW).mono ?_;rintro e w1 ⟨hb1,⟨he,rfl⟩ | ⟨he,m,rfl,a2,c2,ap,cp,rfl,hM2,hp2⟩⟩
 ·have hbw1:=QQ hbW hb1;have HB : Hid (eF P M mod cols L=ef P M mod cols L):=by show _=_;rw [eF,Mh he]
  have HE:=Z5 he;have he' : (ef P M mod cols L != 0)=true:=by simpa using he
  clear he;generalize ef P M mod cols L=er at *;have x2:=HX.out.2.2.ah hb1;have f0:=x2.frozen 0;have f1:=x2.frozen 1;have f2:=x2.frozen 2;have f3:=x2.frozen 3;have k0:=x2.cell 0 rfl;have k1:=x2.cell 1 rfl;have k2:=x2.cell 2 rfl;have k3:=x2.cell 3 rfl;clear x2;have hz : w.heap.size+1+1<w1.heap.size:=by have:=hb1.size;have:=HsW.out;omega
  go_wp2_with fail;exact bodyPost_ret (v:=.tuple #[.agg #[.pointer none,.int .i64 0,.slice none 0 0,.slice none 0 0],.int .i64 er]) (by simp [results,results142,go_sem,k0,k1,k2,k3,hz]) rfl
   ⟨(((((hbw1.setCell (by simp;omega) _).setCell (by simp;omega) _).setCell (by simp;omega) _).setCell (by simp;omega) _).alloc (by simp;omega) _),.inl ⟨by rw [HB.out];exact HE.out,by rw [HB.out]⟩⟩
 ·have hbw1:=QQ hbW hb1;have hb2 : Rs w1 (w1.alloc (.cells #[.int .i64 m,.slice a2 (ee (aa P M.toNat mod) L m).length c2] 82)):=aB _ _;have hz : w.heap.size+1+1<w1.heap.size:=by have:=hb1.size;have:=HsW.out;omega
  have x1:=HX.out.2.1.ah hb1;have j0:=x1.cell 0 rfl;have j1:=x1.cell 1 rfl;have He:=Z5 he;have hz1 : w.heap.size+1<w1.heap.size:=by omega
  clear x1 he;go_wp2_with fail;refine (ur _ _ _ _ _ _ _ _ (hM2.rC.ah hb2) ((hiW.ah hb1).ah hb2)).mono ?_;rintro e w3 ⟨rfl,hd3⟩;have hb3 : Rs w1 w3:=QQ hb2 hd3.below;have hbw3:=QQ hbw1 hb3;have hz3 : w.heap.size+1+1<w3.heap.size:=ME hz hb3.size;have x0:=(HX.out.1.ah hb1).ah hb3;have x1:=(HX.out.2.1.ah hb1).ah hb3;have x2:=(HX.out.2.2.ah hb1).ah hb3;by_cases hc : eW (aa P M.toNat mod) L m=L
  ·have hc' : decide (eW (aa P M.toNat mod) L m=L)=true:=by simpa using hc
   have HB : Hid (eF P M mod m L=0):=by show _=_;rw [eF,Mg He.out,Mm,Mg hc]
   rw [hc'];have hmW3:=(hmW.ah hb1).ah hb3;have i0:=x0.cell 0 rfl;have i1:=x0.cell 1 rfl;have i2:=x0.cell 2 rfl;have hfb : bQ P M mod=true:=by
    have:=He.out;unfold ef at this;split at this
    ·assumption
    ·omega
   have Hfb:=Z5 hfb;clear hc hc' x0 x1 hfb;go_wp2_with fail;refine (fX P M am mn cm mod w3 hmW3).mono ?_;rintro e w4 (⟨hB,rfl,hb4⟩ | ⟨hB,b,rfl,hG,hbl,hb4⟩)
   ·rw [Hfb.out] at hB;cases hB
   ·clear hB;have hbw4:=QQ hbw3 hb4;have x1:=((HX.out.2.1.ah hb1).ah hb3).ah hb4;have x2:=((HX.out.2.2.ah hb1).ah hb3).ah hb4;have j0:=x1.cell 0 rfl;have j1:=x1.cell 1 rfl;have f0:=x2.frozen 0;have f1:=x2.frozen 1;have f2:=x2.frozen 2;have f3:=x2.frozen 3;have k0:=x2.cell 0 rfl;have k1:=x2.cell 1 rfl;have k2:=x2.cell 2 rfl;have k3:=x2.cell 3 rfl;have hp4:=(hp2.ah hb3).ah hb4;have hF : vd P M mod m a n c L w (.returned (.tuple #[.agg #[.pointer (some ⟨b,0,none⟩),.int .i64 m,.slice a n c,.slice ap (ee (aa P M.toNat mod) L m).length cp],.int .i64 0]))
      ((((w4.setCell ⟨w.heap.size+1+1,0,none⟩ (.pointer (some ⟨b,0,none⟩))).setCell ⟨w.heap.size+1+1,1,none⟩ (.int .i64 m)).setCell ⟨w.heap.size+1+1,2,none⟩ (.slice a n c)).setCell ⟨w.heap.size+1+1,3,none⟩ (.slice ap (ee (aa P M.toNat mod) L m).length cp)):=by
     have hs:=HsW.out;have hs3:=hb3.size;refine ⟨(((hbw4.setCell (by simp;omega) _).setCell (by simp;omega) _).setCell (by simp;omega) _).setCell (by simp;omega) _,.inr ⟨HB.out,m,b,rfl,ap,cp,rfl,?_,?_,?_⟩⟩
     ·exact ((((hG.setCell (by simp;omega) _).setCell (by simp;omega) _).setCell (by simp;omega) _).setCell (by simp;omega) _).mono (by omega)
     ·omega
     ·exact ((((hp4.setCell (by simp;omega) _).setCell (by simp;omega) _).setCell (by simp;omega) _).setCell (by simp;omega) _).mono (by omega)
    have HF:=Z5 hF;clear hF hp4 hp2 x1 x2;generalize (ee (aa P M.toNat mod) L m).length=k at *;go_wp2_with fail;exact bodyPost_ret (v:=.tuple #[.agg #[.pointer (some ⟨b,0,none⟩),.int .i64 m,.slice a n c,.slice ap k cp],.int .i64 0]) (by simp [results,results142,go_sem,k0,k1,k2,k3]) rfl HF.out
  ·have hc' : decide (eW (aa P M.toNat mod) L m=L)=false:=by simpa using hc
   have HB : Hid (eF P M mod m L=5):=by show _=_;rw [eF,Mg He.out,Mm,Mh hc]
   rw [hc'];have f0:=x2.frozen 0;have f1:=x2.frozen 1;have f2:=x2.frozen 2;have f3:=x2.frozen 3;have k0:=x2.cell 0 rfl;have k1:=x2.cell 1 rfl;have k2:=x2.cell 2 rfl;have k3:=x2.cell 3 rfl;clear hc hc' x0 x1 x2;go_wp2_with fail;exact bodyPost_ret (v:=.tuple #[.agg #[.pointer none,.int .i64 0,.slice none 0 0,.slice none 0 0],.int .i64 5]) (by simp [results,results142,go_sem,k0,k1,k2,k3]) rfl
    ⟨(((hbw3.setCell (by simp;omega) _).setCell (by simp;omega) _).setCell (by simp;omega) _).setCell (by simp;omega) _,.inl ⟨by rw [HB.out];omega,by rw [HB.out]⟩⟩
theorem tD (P M : Int) (am : OA) (mn cm : Nat) (mod : Lz) (cols : Int) (a : OA) (n c : Nat) (L : ZZ) (w : World) (hmod : Ints w am mn mod) (hi : cU w a n L) :
  Calls prog 126 #[.agg #[.int .i64 P,.int .i64 M,.slice am mn cm],.agg #[.int .i64 cols,.slice a n c]] w λe w'=>e = .returned (.int .i64 (eF P M mod cols L))/\Rs w w':=by
 have Hal:=Z5 (iD w (.cells #[.int .i64 P,.int .i64 M,.slice am mn cm] 24) (.cells #[.int .i64 cols,.slice a n c] 82));go_enter func126,ntmps126;go_wp2_with fail;have hb:=Hal.out;generalize (w.alloc (.cells #[.int .i64 P,.int .i64 M,.slice am mn cm] 24)).alloc (.cells #[.int .i64 cols,.slice a n c] 82)=W at *;refine (mS P M am mn cm mod cols a n c L W (hmod.ah hb) (hi.ah hb)).mono ?_;rintro e w1 ⟨hb1,⟨he,rfl⟩ | ⟨he,m,b,rfl,ap,cp,rfl,hG,hbl,hp⟩⟩
 ·have hbw:=QQ hb hb1;clear he;go_wp2_with fail;go_ret;exact ⟨rfl,hbw.alloc hbw.size _⟩
 ·have hbw:=QQ hb hb1;have He:=Z5 he;clear he hp;generalize (ee (aa P M.toNat mod) L m).length=k at *;go_wp2_with fail;go_ret;exact ⟨aI He.out.symm,hbw.alloc hbw.size _⟩
theorem Jg (P M : Int) (am : OA) (mn cm : Nat) (N : Int) (a : OA) (n c : Nat) (w : World) :
  Calls prog 73 #[.agg #[.int .i64 P,.int .i64 M,.slice am mn cm,.int .i64 N,.slice a n c]] w λe w'=>e = .returned (.agg #[.int .i64 N,.slice a n c])/\Rs w w':=by go_enter func73,ntmps73;go_wp2_with fail;exact bodyPost_ret (v:=.agg #[.int .i64 N,.slice a n c]) (by simp [results,results73,go_sem]) rfl ⟨rfl,iD _ _ _⟩
def jJ (n : Int) : Int:=if n<1\/64<n then 4 else 0
theorem tA (n : Int) (w : World) : Calls prog 125 #[.int .i64 n] w λe w'=>e = .returned (.int .i64 (jJ n))/\w=w':=by
 by_cases h1 : n<1
 ·have Hf : Hid (jJ n=4):=by show _=_;rw [jJ,Mg (.inl h1)]
  go_enter func125,ntmps125;go_wp2;go_ret;exact ⟨aI Hf.out.symm,rfl⟩
 ·have h1' : decide (n<1)=false:=by simpa using h1
  by_cases h2 : 64<n
  ·have Hf : Hid (jJ n=4):=by show _=_;rw [jJ,Mg (.inr h2)]
   go_enter func125,ntmps125;go_wp2;go_ret;exact ⟨aI Hf.out.symm,rfl⟩
  ·have Hf : Hid (jJ n=0):=by show _=_;rw [jJ,Mh (by omega)]
   have h2' : decide (64<n)=false:=by simpa using h2
   go_enter func125,ntmps125;go_wp2;go_ret;exact ⟨aI Hf.out.symm,rfl⟩
def aH (P M : Int) (mod : Lz) (N : Int) (L : ZZ) : Int :=
 if bQ P M mod=true then (if jJ N=0 then eF P M mod N L else 4) else 1
theorem ez (P M : Int) (am : OA) (mn cm : Nat) (mod : Lz) (N : Int) (a : OA) (n c : Nat) (L : ZZ) (w : World) (hmod : Ints w am mn mod) (hi : cU w a n L) :
  Calls prog 61 #[.agg #[.int .i64 P,.int .i64 M,.slice am mn cm,.int .i64 N,.slice a n c]] w λe w'=>e = .returned (.int .i64 (aH P M mod N L))/\Rs w w':=by
 go_enter func61,ntmps61;go_wp2_with fail;obtain ⟨W,hW⟩ : ∃W : World,W=w.alloc (.cells #[.int .i64 P,.int .i64 M,.slice am mn cm,.int .i64 N,.slice a n c] 27):=⟨_,rfl⟩
 rw [<- hW];have hbW : Rs w W:=by rw [hW];exact aB _ _
 have x0 : bf W w.heap.size [.int .i64 P,.int .i64 M,.slice am mn cm,.int .i64 N,.slice a n c]:=by rw [hW];exact QS _ _ _ rfl
 have HX:=Z5 x0;clear hW x0;refine (rX P M am mn cm mod W (hmod.ah hbW)).mono ?_;rintro e w1 ⟨rfl,hb1⟩;have hbw1:=QQ hbW hb1;by_cases hB : bQ P M mod=true
 ·have hE : cH (bQ P M mod)=0:=by rw [hB];rfl
  rw [hE];have HB : Hid (aH P M mod N L=if jJ N=0 then eF P M mod N L else 4):=by show _=_;rw [aH,Mg hB]
  have x1:=HX.out.ah hb1;have c3:=x1.cell 3 rfl;clear hE hB x1;go_wp2_with fail;refine (tA N w1).mono ?_;rintro e w2 ⟨rfl,rfl⟩;by_cases hl : jJ N=0
  ·have HB2 : Hid (aH P M mod N L=eF P M mod N L):=by show _=_;rw [HB.out,Mg hl]
   rw [hl];clear hl;go_wp2_with fail;have hS : ∀V,Rs w1 V->V.cell? ⟨w.heap.size,0,none⟩=some (.int .i64 P)/\V.cell? ⟨w.heap.size,1,none⟩=some (.int .i64 M)/\V.cell? ⟨w.heap.size,2,none⟩=some (.slice am mn cm)/\V.cell? ⟨w.heap.size,3,none⟩=some (.int .i64 N)/\V.cell? ⟨w.heap.size,4,none⟩=some (.slice a n c)/\Ints V am mn mod/\cU V a n L/\Rs w1 V:=by intro V hV;have x1:=(HX.out.ah hb1).ah hV;exact ⟨x1.cell 0 rfl,x1.cell 1 rfl,x1.cell 2 rfl,x1.cell 3 rfl,x1.cell 4 rfl,((hmod.ah hbW).ah hb1).ah hV,((hi.ah hbW).ah hb1).ah hV,hV⟩
   have HS:=Z5 hS;clear hS c3;go_region_held3 (λV=>V.cell? ⟨w.heap.size,0,none⟩=some (.int .i64 P)/\V.cell? ⟨w.heap.size,1,none⟩=some (.int .i64 M)/\V.cell? ⟨w.heap.size,2,none⟩=some (.slice am mn cm)/\V.cell? ⟨w.heap.size,3,none⟩=some (.int .i64 N)/\V.cell? ⟨w.heap.size,4,none⟩=some (.slice a n c)/\Ints V am mn mod/\cU V a n L/\Rs w1 V)
    ((refine HS.out _ ?_;first | exact (Mi _ _).drew | (go_split_ands;exact QQ (by assumption) (by assumption))))
    (first
     | (go_at_call 73;((with_reducible refine (Jg P M am mn cm N a n c _).mono ?_);rintro e w4 ⟨rfl,hb4⟩))
     | (go_at_call 126;((with_reducible refine (tD P M am mn cm mod N a n c L _ (by go_split_ands;assumption) (by go_split_ands;assumption)).mono ?_);rintro e w5 ⟨rfl,hb5⟩)))
   go_wp2_with fail;go_ret;exact ⟨aI HB2.out.symm,QQ hbw1 (by go_split_ands;assumption)⟩
  ·have HB2 : Hid (aH P M mod N L=4):=by show _=_;rw [HB.out,Mh hl]
   have hl4 : jJ N=4:=by unfold jJ at hl ⊢;split <;> simp_all
   rw [hl4];clear hl hl4;go_wp2_with fail;go_ret;exact ⟨aI HB2.out.symm,hbw1⟩
 ·have hE : cH (bQ P M mod)=1:=by
   have : bQ P M mod=false:=by simpa using hB
   rw [this];rfl
  rw [hE];have HB : Hid (aH P M mod N L=1):=by show _=_;rw [aH,Mh hB]
  clear hE hB;go_wp2_with fail;go_ret;exact ⟨aI HB.out.symm,hbw1⟩
def Ab (P M : Int) (mod : Lz) (N : Int) (L : ZZ) (w : World) (e : Ending) (w' : World) : Prop :=
 Rs w w'/\((aH P M mod N L ≠ 0/\e = .returned (.tuple #[.pointer none,.int .i64 (aH P M mod N L)])) \/
 (aH P M mod N L=0/\∃b,e = .returned (.tuple #[.pointer (some ⟨b,0,none⟩),.int .i64 0])/\dW w' b (aa P M.toNat mod)))
theorem bL {P M : Int} {mod : Lz} {N : Int} {L : ZZ} (h : aH P M mod N L=0) : bQ P M mod=true/\1<=N/\N<=64/\eF P M mod N L=0:=by
 unfold aH at h;split at h
 ·rename_i h1;split at h
  ·rename_i h2;unfold jJ at h2;split at h2
   ·omega
   ·exact ⟨h1,by omega,by omega,h⟩
  ·omega
 ·omega
theorem dK {P M : Int} {mod : Lz} {N : Int} {L : ZZ} (h : eF P M mod N L=0) : ef P M mod N L=0/\eW (aa P M.toNat mod) L N.toNat=L:=by
 unfold eF at h;split at h
 ·rename_i h1;split at h
  ·rename_i h2;exact ⟨h1,h2⟩
  ·omega
 ·rename_i h1;exact absurd h h1
theorem fF {P M : Int} {mod : Lz} {N : Int} {L : ZZ} (h : ef P M mod N L=0) : bQ P M mod=true/\eZ (aa P M.toNat mod).q N L=0:=by
 unfold ef at h;split at h
 ·rename_i h1;exact ⟨h1,h⟩
 ·omega
theorem qx (P M : Int) (am : OA) (mn cm : Nat) (mod : Lz) (N : Int) (a : OA) (n c : Nat) (L : ZZ) (w : World) (hmod : Ints w am mn mod) (hi : cU w a n L) :
  Calls prog 67 #[.agg #[.int .i64 P,.int .i64 M,.slice am mn cm,.int .i64 N,.slice a n c]] w (Ab P M mod N L w):=by
 go_enter func67,ntmps67;go_wp2_with fail;obtain ⟨W,hW⟩ : ∃W : World,W=w.alloc (.cells #[.int .i64 P,.int .i64 M,.slice am mn cm,.int .i64 N,.slice a n c] 27):=⟨_,rfl⟩
 rw [<- hW];have hbW : Rs w W:=by rw [hW];exact aB _ _
 have x0 : bf W w.heap.size [.int .i64 P,.int .i64 M,.slice am mn cm,.int .i64 N,.slice a n c]:=by rw [hW];exact QS _ _ _ rfl
 have HX:=Z5 x0;clear hW x0;refine (ez P M am mn cm mod N a n c L W (hmod.ah hbW) (hi.ah hbW)).mono ?_;rintro e w1 ⟨rfl,hb1⟩;have hbw1:=QQ hbW hb1;by_cases hE : aH P M mod N L=0
 ·obtain ⟨hf,_⟩:=bL hE;have HE:=Z5 hE;have Hf:=Z5 hf;rw [hE];have x1:=HX.out.ah hb1;have c0:=x1.cell 0 rfl;have c1:=x1.cell 1 rfl;have c2:=x1.cell 2 rfl;have hm1:=(hmod.ah hbW).ah hb1;clear hE x1 hf;go_wp2_with fail;refine (fX P M am mn cm mod w1 hm1).mono ?_;rintro e w2 (⟨hB,rfl,hb2⟩ | ⟨hB,b,rfl,hG,hbl,hb2⟩)
  ·rw [Hf.out] at hB;cases hB
  ·clear hB;have hg:=hG.gf;go_wp2_with fail;go_ret2;exact ⟨QQ hbw1 hb2,.inr ⟨HE.out,b,rfl,hg⟩⟩
 ·have HE:=Z5 hE;have hE' : (aH P M mod N L != 0)=true:=by simpa using hE
  clear hE;go_wp2_with fail;go_ret2;exact ⟨hbw1,.inl ⟨HE.out,rfl⟩⟩
def gq (N : Int) (l : Lz) (k : Nat) : Bool:=decide (0<=nth l k) && decide (nth l k<N) && (k == 0 || decide (nth l (k - 1)<nth l k))
def nc (N : Int) (l : Lz) (k : Nat) : Bool:=(List.range k).all (gq N l)
def bG (N : Int) (l : Lz) : Bool:=nc N l l.length
theorem gL {N : Int} {l : Lz} {k : Nat} (h : nc N l k=true) (hk : gq N l k=true) : nc N l (k+1)=true:=by unfold nc at *;rw [Nx,Pb,h];simp [hk]
theorem xM {N : Int} {l : Lz} {k n : Nat} (hk : k<n) (h : gq N l k=false) : nc N l n=false:=by unfold nc;rw [N1];exact ⟨k,List.mem_range.2 hk,by simp [h]⟩
theorem gr {N : Int} {l : Lz} (h : bG N l=true) {k : Nat} (hk : k<l.length) : 0<=nth l k/\nth l k<N/\(0<k->nth l (k - 1)<nth l k):=by unfold bG nc at h;rw [MX] at h;have:=h k (List.mem_range.2 hk);unfold gq at this;simp only [MC,Pc,MG,beq_iff_eq] at this;exact ⟨this.1.1,this.1.2,λh0=>by rcases this.2 with h1 | h1;omega;exact h1⟩
def lF (N : Int) (S : ZZ) : Int:=if S.all (bG N) then 0 else 6
theorem FW (P M : Int) (am : OA) (mn cm : Nat) (N : Int) (a : OA) (n c : Nat) (sa : OA) (ns cs : Nat) (S : ZZ) (w : World) (hi : cU w sa ns S) :
  Calls prog 221 #[.agg #[.int .i64 P,.int .i64 M,.slice am mn cm,.int .i64 N,.slice a n c],.slice sa ns cs] w λe w'=>e = .returned (.int .i64 (lF N S))/\Rs w w':=by
 have Hlen:=Z5 hi.len;have hpl:=hi.pl;have hmax:=hi.max;unfold maxLen at hmax;go_enter func221,ntmps221;go_wp2_with fail;obtain ⟨W,hW⟩ : ∃W : World,W=w.alloc (.cells #[.int .i64 P,.int .i64 M,.slice am mn cm,.int .i64 N,.slice a n c] 27):=⟨_,rfl⟩
 rw [<- hW];have hbW : Rs w W:=by rw [hW];exact aB _ _
 have c3 : W.cell? ⟨w.heap.size,3,none⟩=some (.int .i64 N):=by rw [hW];exact aE _ _ _ rfl 3
 have hiW:=hi.ah hbW;clear hW;go_loop [11] (λiv=>∃k : Nat,k<=ns/\iv = .int .i64 k/\Hid ((S.take k).all (bG N)=true)) (λiv=>ns - (intOf iv).toNat);case atStart=>exact ⟨0,Mj _,rfl,by show _=_;simp⟩
 case round =>
  obtain ⟨k,hk,rfl,hall⟩:=hrel
  by_cases hlt : k<ns
  ·obtain ⟨ra,rn,rc,hcell,hrow⟩:=hiW.cell k hlt
   have hkS : k<S.length:=by rw [Hlen.out];exact hlt
   have Hrl:=Z5 hrow.len
   have hpr:=hrow.pl
   have hmr:=hrow.max
   unfold maxLen at hmr
   have Hng : Hid (ai S k=S[k]):=aF hkS
   generalize ai S k=l at *
   go_wp2_with fail
   go_loop [17] (λiv=>∃j : Nat,j<=rn/\iv = .int .i64 j/\Hid (nc N l j=true)) (λiv=>rn - (intOf iv).toNat)
   case atStart=>exact ⟨0,Mj _,rfl,by show _=_;simp [nc]⟩
   case round =>
    obtain ⟨j,hj,rfl,hok⟩:=hrel
    by_cases hlt2 : j<rn
    ·have cj:=hrow.cell j hlt2
     have hbad : gq N l j=false->lF N S=6:=λhb=>by
      rw [lF,Mh];have h1 : bG N S[k]=false:=by rw [<- Hng.out];exact xM (by rw [Hrl.out];exact hlt2) hb
      rw [dw hkS h1];simp
     have Hbad:=Z5 hbad
     clear hbad
     by_cases h0 : 0<=nth l j
     ·by_cases h1 : nth l j<N
      ·have d1 : decide (nth l j<0)=false:=by simp;omega
       have d2 : decide (N<=nth l j)=false:=by simp;omega
       by_cases hj0 : j=0
       ·subst hj0
        have Hgood : Hid (gq N l 0=true):=by show _=_;unfold gq;simp [h0,h1]
        rw [Pm] at cj
        go_wp2_with fail
        go_round
        case rel=>exact ⟨1,by omega,by go_num,gL hok.out Hgood.out⟩
        case measure=>simp [intOf] <;> omega
       ·have cp:=hrow.cell (j - 1) (by omega)
        have e1 : ((j : Int) - 1).toNat=j - 1:=by omega
        have d3 : decide (0<(j : Int))=true:=by simp;omega
        have d4 : (0 : Int)<=(j : Int) - 1:=by omega
        have d5 : (1 : Int)<=(j : Int):=by omega
        have d6 : (j : Int) - 1<rn:=by omega
        by_cases h2 : nth l (j - 1)<nth l j
        ·have Hgood : Hid (gq N l j=true):=by show _=_;unfold gq;simp [h0,h1,h2]
         have h2' : decide (nth l j<=nth l (j - 1))=false:=by simp;omega
         clear hj0 e1
         go_wp2_with fail
         go_round
         case rel=>exact ⟨j+1,by omega,by go_num,gL hok.out Hgood.out⟩
         case measure=>simp [intOf] <;> omega
        ·have Hb : Hid (lF N S=6):=Hbad.out (by unfold gq;simp [h2,hj0])
         have h2' : decide (nth l j<=nth l (j - 1))=true:=by simp;omega
         clear hj0 e1
         go_wp2_with fail
         go_ret
         exact ⟨aI Hb.out.symm,hbW⟩
      ·have Hb : Hid (lF N S=6):=Hbad.out (by unfold gq;simp [h1])
       have d1 : decide (nth l j<0)=false:=by simp;omega
       have d2 : decide (N<=nth l j)=true:=by simp;omega
       go_wp2_with fail
       go_ret
       exact ⟨aI Hb.out.symm,hbW⟩
     ·have Hb : Hid (lF N S=6):=Hbad.out (by unfold gq;simp [h0])
      have d1 : decide (nth l j<0)=true:=by simp;omega
      go_wp2_with fail
      go_ret
      exact ⟨aI Hb.out.symm,hbW⟩
    ·obtain rfl : j=rn:=by omega
     have Hg : Hid (bG N S[k]=true):=by show _=_;rw [<- Hng.out,bG,Hrl.out];exact hok.out
     go_wp2_with fail
     go_round
     case rel=>exact ⟨k+1,by omega,by go_num,dx hkS hall.out Hg.out⟩
     case measure=>simp [intOf] <;> omega
  ·obtain rfl : k=ns:=by omega
   have Hg : Hid (lF N S=0):=by have:=hall.out;rw [Ms (by rw [Hlen.out];exact Mf _)] at this;show _=_;rw [lF,Mg this]
   go_wp2_with fail
   go_ret
   exact ⟨aI Hg.out.symm,hbW⟩
def aK (L : ZZ) (i : Nat) : Lz:=L.map λr=>nth r i
theorem cC (L : ZZ) (i : Nat) : (aK L i).length=L.length:=by simp [aK]
theorem bM (L : ZZ) (i k : Nat) (hk : k<L.length) : nth (aK L i) k=nth (ai L k) i:=by rw [aj (by rw [cC];exact hk),aF hk];simp [aK]
theorem Ba (P M : Int) (am : OA) (mn cm : Nat) (N : Int) (a : OA) (n c : Nat) (L : ZZ) (i : Nat) (w : World) (hi : cU w a n L) (hL : ∀r ∈ L,i<r.length) (hn : n<=1000000) :
  Calls prog 133 #[.agg #[.int .i64 P,.int .i64 M,.slice am mn cm,.int .i64 N,.slice a n c],.int .i64 i] w (cX w (aK L i)):=by
 have Hlen:=Z5 hi.len;have hpl:=hi.pl;have HL:=Z5 hL;clear hL;go_enter func133,ntmps133;go_wp2_with (at_make;refine b9 rfl _ _ 22 3 rfl (.int .i64 0) 8 underlying22 bt rfl n rfl rfl (by omega) (by unfold maxLen;omega) ?_;intro a1 w1 hown hbel hge hlt;have c4 : w1.cell? ⟨w.heap.size,4,none⟩=some (.slice a n c):=aA hbel (aE _ _ _ rfl 4));have hbw : Rs w w1:=QQ (aB w _) hbel;have hs1 : w.heap.size+1<=an a1:=by simpa using hge
 have hown1 : w1.ownsRow w.heap.size 3 1 (.slice a1 n n) n (List.replicate n (.int .i64 0)):=bg hown (by simp);clear hown hbel hge;go_loopw [15] (λiv wr=>∃k : Nat,k<=n/\iv = .int .i64 k /\
   wr.ownsRow w.heap.size 3 1 (.slice a1 n n) n ((dn ((aK L i).take k) k n).map (Value.int .i64))/\Rs w wr)
  (λi _=>n - (intOf i).toNat)
 case atStart=>exact ⟨0,Mj _,rfl,by simpa [dn] using hown1,hbw⟩
 case round =>
  obtain ⟨k,hk,rfl,hown,hbel⟩:=hrel
  obtain ⟨hints,hmine⟩:=QR hown
  have hpl1:=hints.pl
  by_cases hlt : k<n
  ·obtain ⟨ra,rn,rc,hcell,hrow⟩:=(hi.ah hbel).cell k hlt
   have hkL : k<L.length:=by rw [Hlen.out];exact hlt
   have hri : i<rn:=by rw [<- hrow.len,aF hkL];exact HL.out _ (MM hkL)
   have ci:=hrow.cell i hri
   have hpr:=hrow.pl
   have hf:=(hmine (by omega)).2 k hlt
   have hc2:=hints.cell k hlt
   have hB:=(hmine (by omega)).1
   have Hv:=Z5 (bM L i k hkL)
   go_wp2_with fail
   go_roundw
   case rel =>
    refine ⟨k+1,by omega,by go_num,?_,hbel.setCell hB _⟩
    have h:=bN hown k hlt (.int .i64 (nth (ai L k) i))
    rw [<- MH,fK _ _ _ _ (by rw [MJ,cC];omega) hlt] at h
    rw [Mu (by rw [cC];omega),<- aj,Hv.out]
    exact h
   case measure=>simp [intOf] <;> omega
  ·obtain rfl : k=n:=by omega
   have hl : (aK L i).length=k:=by rw [cC];exact Hlen.out
   rw [gD,Ms (by omega)] at hown
   have Hl:=Z5 hl
   clear hl
   go_wp2_with fail
   go_ret
   exact ⟨a1,k,by rw [Hl.out];rfl,by rw [Hl.out];exact hown,hbel⟩
def gJ : Lz->Nat
 | []=>0
 | x :: l=>if x=0 then gJ l+1 else 0
theorem GP : ∀l,gJ l<=l.length
 | []=>Mf _
 | x :: l=>by have:=GP l;unfold gJ;split <;> simp <;> omega
theorem yj : ∀(l : Lz) (k : Nat),k<l.length->(∀j,j<k->nth l j=0)->nth l k ≠ 0->gJ l=k
 | [],k,h,_,_=>by simp at h
 | x :: l,0,_,_,h=>by unfold gJ;rw [Mh (by simpa [nth] using h)]
 | x :: l,k+1,h,h0,h1=>by
  have hx : x=0:=by simpa [nth] using h0 0 (by omega)
  unfold gJ;rw [Mg hx,yj l k (by simpa using h) (λj hj=>by simpa [nth] using h0 (j+1) (by omega)) (by simpa [nth] using h1)]
theorem oT : ∀(l : Lz),(∀j,j<l.length->nth l j=0)->gJ l=l.length
 | [],_=>rfl
 | x :: l,h=>by
  have hx : x=0:=by simpa [nth] using h 0 (by simp)
  unfold gJ;rw [Mg hx,oT l (λj hj=>by simpa [nth] using h (j+1) (by simpa using hj))];rfl
theorem kn : ∀(l : Lz),gJ l<l.length->nth l (gJ l) ≠ 0
 | [],h=>by simp at h
 | x :: l,h=>by
  unfold gJ at h ⊢;split
  ·rename_i hx;rw [Mg hx] at h;have:=kn l (by simpa using h);simpa [nth] using this
  ·rename_i hx;simpa [nth] using hx
theorem lT : ∀(l : Lz) (j : Nat),j<gJ l->nth l j=0
 | [],j,h=>by simp [gJ] at h
 | x :: l,j,h=>by
  unfold gJ at h;split at h
  ·rename_i hx;match j with
   | 0=>simpa [nth] using hx
   | j+1=>have:=lT l j (by omega);simpa [nth] using this
  ·omega
theorem vm (x : Int) (w : World) : Calls prog 192 #[.int .i64 x] w λe w'=>e = .returned (.bool (x != 0))/\w=w':=by go_enter func192,ntmps192;go_wp2;go_ret;exact ⟨rfl,rfl⟩
def i6 (l : Lz) : Int:=if gJ l<l.length then gJ l else -1
theorem Aw (a : OA) (n c : Nat) (l : Lz) (w : World) (hi : Ints w a n l) :
  Calls prog 97 #[.slice a n c,.func (.func 192) #[] #[]] w λe w'=>e = .returned (.int .i64 (i6 l))/\w=w':=by
 have Hlen:=Z5 hi.len;have hpl:=hi.pl;have hmax:=hi.max;unfold maxLen at hmax;go_enter func97,ntmps97;go_wp2_with fail;go_loop [8] (λiv=>∃k : Nat,k<=n/\iv = .int .i64 k/\Hid (∀j,j<k->nth l j=0)) (λiv=>n - (intOf iv).toNat);case atStart=>exact ⟨0,Mj _,rfl,λj hj=>by omega⟩
 case round =>
  obtain ⟨k,hk,rfl,hall⟩:=hrel
  by_cases hlt : k<n
  ·have ck:=hi.cell k hlt
   by_cases hz : nth l k=0
   ·have hz' : (nth l k != 0)=false:=by simpa using hz
    have Hz:=Z5 hz
    clear hz
    go_wp2_with fail
    refine (vm _ _).mono ?_
    rintro e w' ⟨rfl,rfl⟩
    go_wp2_with fail
    go_round
    case rel=>exact ⟨k+1,by omega,by go_num,λj hj=>by
     rcases MU j k with h | h
     ·exact hall.out j h
     ·rw [show j=k by omega];exact Hz.out⟩
    case measure=>simp [intOf] <;> omega
   ·have hz' : (nth l k != 0)=true:=by simpa using hz
    have Hf : Hid (i6 l=k):=by show _=_;have:=yj l k (by rw [Hlen.out];exact hlt) hall.out hz;rw [i6,this,Mg (by rw [Hlen.out];exact hlt)]
    clear hz
    go_wp2_with fail
    refine (vm _ _).mono ?_
    rintro e w' ⟨rfl,rfl⟩
    go_wp2_with fail
    go_ret
    exact ⟨aI Hf.out.symm,rfl⟩
  ·obtain rfl : k=n:=by omega
   have Hf : Hid (i6 l = -1):=by show _=_;have:=oT l (by rw [Hlen.out];exact hall.out);rw [i6,this,Mh (by omega)]
   go_wp2_with fail
   go_ret
   exact ⟨aI Hf.out.symm,rfl⟩
section
def dZ (O : aJ) (v : Lz) (x : Int) (r : Lz) : Lz:=List.zipWith (λp y=>O.add p (O.neg (O.mul x y))) v r
theorem fp (O : aJ) (v : Lz) (x : Int) (r : Lz) (h : r.length=v.length) : (dZ O v x r).length=v.length:=by simp [dZ,h]
theorem eX (O : aJ) (v : Lz) (x : Int) (r : Lz) (i : Nat) (h : r.length=v.length) (hi : i<v.length) : nth (dZ O v x r) i=O.add (nth v i) (O.neg (O.mul x (nth r i))):=by rw [aj (show i<(dZ O v x r).length by rw [fp _ _ _ _ h];exact hi),aj (show i<r.length by omega),aj hi];simp [dZ]
def eE (O : aJ) (u : Lz) (p : Int) (r : Lz) : Lz:=if nth u p.toNat=0 then u else dZ O u (nth u p.toNat) r
def bU (O : aJ) (L : ZZ) (Q : Lz) (v : Lz) : Nat->Lz
 | 0=>v
 | k+1=>eE O (bU O L Q v k) (nth Q k) (ai L k)
structure BS where
 rows : ZZ
 place : Lz
def BS.red (O : aJ) (s : BS) (v : Lz) : Lz:=bU O s.rows s.place v s.rows.length
def BS.eh (O : aJ) (s : BS) (v : Lz) : Bool:=decide (gJ (s.red O v)<(s.red O v).length)
def BS.next (O : aJ) (s : BS) (v : Lz) : BS :=
 if s.eh O v=true then ⟨s.rows ++ [(s.red O v).map (O.mul (O.inv (nth (s.red O v) (gJ (s.red O v)))))],s.place ++ [(gJ (s.red O v) : Int)]⟩ else s
structure BS.Ok (El : Int->Prop) (n : Nat) (s : BS) : Prop where
 rws : bx El n s.rows
 len : s.place.length=s.rows.length
 plc : ∀i,i<s.rows.length->0<=nth s.place i/\nth s.place i<n
theorem vD {O : aJ} {El : Int->Prop} (hO : sV O El) {v r : Lz} {x : Int} (hv : ∀y ∈ v,El y) (hr : ∀y ∈ r,El y) (hx : El x) : ∀y ∈ dZ O v x r,El y:=by intro y hy;unfold dZ at hy;rw [O7] at hy;obtain ⟨i,hi,rfl⟩:=hy;rw [O8];exact hO.add _ _ (hv _ (MM _)) (hO.neg _ (hO.mul _ _ hx (hr _ (MM _))))
theorem oL {O : aJ} {El : Int->Prop} (hO : sV O El) {n : Nat} {L : ZZ} {Q v : Lz} (hL : bx El n L) (hQ : ∀i,i<L.length->0<=nth Q i/\nth Q i<n)
  (hv : v.length=n/\∀y ∈ v,El y) : ∀k,k<=L.length->(bU O L Q v k).length=n/\∀y ∈ bU O L Q v k,El y
 | 0,_=>hv
 | k+1,hk=>by
  have ih:=oL hO hL hQ hv k (by omega);have hr:=hL.row (i:=k) (by omega);have hq:=hQ k (by omega);rw [bU,eE];split
  ·exact ih
  ·exact ⟨by rw [fp _ _ _ _ (by omega)];exact ih.1,vD hO ih.2 hr.2 (ih.2 _ (aN (by omega)))⟩
theorem BS.Ok.next {O : aJ} {El : Int->Prop} (hO : sV O El) {n : Nat} {s : BS} (h : s.Ok El n) {v : Lz} (hv : v.length=n/\∀y ∈ v,El y) : (s.next O v).Ok El n:=by
 unfold BS.next;split
 ·rename_i ht;have hu:=oL hO h.rws h.plc hv s.rows.length (Mf _);have hf : gJ (s.red O v)<(s.red O v).length:=by simpa [BS.eh] using ht
  have hne:=kn _ hf;have hul : (s.red O v).length=n:=hu.1;have hue : ∀y ∈ s.red O v,El y:=hu.2;refine ⟨λr hr=>?_,by simp [h.len],λi hi=>?_⟩
  ·rcases List.mem_append.1 hr with h1 | h1
   ·exact h.rws r h1
   ·rw [List.mem_singleton.1 h1];refine ⟨by rw [Mx];exact hul,λy hy=>?_⟩;obtain ⟨z,hz,rfl⟩:=List.mem_map.1 hy;exact hO.mul _ _ (hO.inv _ (hue _ (aN hf)) hne) (hue z hz)
  ·simp only [Mp,Mz] at hi;by_cases h1 : i<s.rows.length
   ·have:=h.plc i h1;have e : nth (s.place ++ [(gJ (s.red O v) : Int)]) i=nth s.place i:=by simp only [nth,Mk];rw [ML (by rw [h.len];exact h1)]
    rw [e];exact this
   ·obtain rfl : i=s.rows.length:=by omega
    have e : nth (s.place ++ [(gJ (s.red O v) : Int)]) s.rows.length=gJ (s.red O v):=by simp only [nth,Mk];rw [<- h.len];simp
    rw [e];omega
 ·exact h
structure nS (w : World) (B bb b : Nat) (ar : OA) (cr : Nat) (R : Z4) (ap : OA) (cp : Nat) (s : BS) : Prop where
 bB : B<=bb
 c0 : w.cell? ⟨bb,0,none⟩=some (.pointer (some ⟨b,0,none⟩))
 c1 : w.cell? ⟨bb,1,none⟩=some (.slice ar s.rows.length cr)
 c2 : w.cell? ⟨bb,2,none⟩=some (.slice ap s.rows.length cp)
 fr : ∀i,w.frozen? ⟨bb,i,none⟩=false
 om : aY w B ar s.rows.length cr R s.rows
 pl : w.ownsRow B 3 1 (.slice ap s.rows.length cp) s.rows.length (s.place.map (Value.int .i64))
 d1 : ¬ bS ar R bb
 d2 : cF ap bb
 d3 : ap ≠ none->¬ bS ar R (an ap)
def td (bb : Nat) (ar : OA) (R : Z4) (ap : OA) (x : Nat) : Prop:=x=bb\/bS ar R x\/(ap ≠ none/\x=an ap)
theorem FH {w w' : World} {B : Nat} {e : TypeId} {a : OA} {c n : Nat} {xs : List Value} (h : w.ownsRow B e 1 (.slice a n c) n xs) (hb : a ≠ none->w'.heap[an a]? = w.heap[an a]?) : w'.ownsRow B e 1 (.slice a n c) n xs:=by
 by_cases ha : a=none
 ·subst ha;refine ⟨h.1,?_⟩;rcases h.2 with h2 | ⟨g,cap,cur,hv,_⟩
  ·exact .inl h2
  ·cases hv
 ·exact js h (hb ha)
namespace nS
variable {w w' : World} {B bb b : Nat} {ar : OA} {cr : Nat} {R : Z4} {ap : OA} {cp : Nat} {s : BS}
theorem lt (h : nS w B bb b ar cr R ap cp s) (x : Nat) (hx : td bb ar R ap x) : B<=x/\x<w.heap.size:=by
 rcases hx with rfl | hx | ⟨h1,rfl⟩
 ·exact ⟨h.bB,Mn w _ h.c0⟩
 ·exact h.om.lt x hx
 ·exact aZ h.pl h1
theorem bu (h : nS w B bb b ar cr R ap cp s) (hb : ∀x,td bb ar R ap x->w'.heap[x]? = w.heap[x]?) : nS w' B bb b ar cr R ap cp s:=by
 have hbb:=hb bb (.inl rfl);exact ⟨h.bB,(MI (w:=w) (a:=⟨bb,0,none⟩) hbb).trans h.c0,(MI (w:=w) (a:=⟨bb,1,none⟩) hbb).trans h.c1,(MI (w:=w) (a:=⟨bb,2,none⟩) hbb).trans h.c2,
  λi=>(MD (w:=w) (a:=⟨bb,i,none⟩) hbb).trans (h.fr i),h.om.bu λx hx=>hb x (.inr (.inl hx)),FH h.pl λha=>hb _ (.inr (.inr ⟨ha,rfl⟩)),h.d1,h.d2,h.d3⟩
theorem ah (h : nS w B bb b ar cr R ap cp s) (hb : Rs w w') : nS w' B bb b ar cr R ap cp s:=h.bu λx hx=>hb.block x (h.lt x hx).2
theorem only (h : nS w B bb b ar cr R ap cp s) {av : OA} (ho : de av w w') (hav : av ≠ none->¬ td bb ar R ap (an av)) : nS w' B bb b ar cr R ap cp s :=
 h.bu λx hx=>ho.block x (h.lt x hx).2 λ⟨h1,h2⟩=>hav h1 (h2 ▸ hx)
end nS
theorem aY.push {w w' : World} {B : Nat} {a : OA} {n c : Nat} {R : Z4} {L : ZZ} (h : aY w B a n c R L) {r : OA} {rc : Nat} {l : Lz}
  (hr : w.ownsRow B 3 1 (.slice r l.length rc) l.length (l.map (Value.int .i64))) (hra : r ≠ none->¬ bS a R (an r))
  {a' : OA} {c' : Nat} (hown : w'.ownsRow B 22 1 (.slice a' (n+1) c') (n+1) (List.zipWith jx R L ++ [.slice r l.length rc])) (hg : w.grownBy w' (Value.slice a n c).ownBlock)
  (hap : ∀b,b<w.heap.size->cF a b->cF a' b) : aY w' B a' (n+1) c' (R ++ [(r,rc)]) (L ++ [l]):=by
 have hn' : a' ≠ none:=by
  intro e;have:=(Q0 hown)
  obtain ⟨x,y,hv,hp⟩:=this;cases hv
  have:=hp (by omega);rw [e] at this;cases this
 have nthL : ∀i,ai (L ++ [l]) i=if i<n then ai L i else if i=n then l else []:=by
  intro i;simp only [ai,Mk];by_cases h1 : i<n
  ·rw [Mg h1,ML (by rw [h.ll];exact h1)]
  ·rw [Mh h1];by_cases h2 : i=n
   ·subst h2;rw [Mg rfl,<- h.ll];simp
   ·rw [Mh h2,Nf (by simp [h.ll];omega)];rfl
 have nthAA : ∀i,aV (R ++ [(r,rc)]) i=if i<n then aV R i else if i=n then (r,rc) else (none,0):=by
  intro i;simp only [aV,Mk];by_cases h1 : i<n
  ·rw [Mg h1,ML (by rw [h.rl];exact h1)]
  ·rw [Mh h1];by_cases h2 : i=n
   ·subst h2;rw [Mg rfl,<- h.rl];simp
   ·rw [Mh h2,Nf (by simp [h.rl];omega)];rfl
 have rowKeep : ∀ {x : OA} {cx m : Nat} {xs : List Value},w.ownsRow B 3 1 (.slice x m cx) m xs->(x ≠ none->cF a (an x))->w'.ownsRow B 3 1 (.slice x m cx) m xs:=by intro x cx m xs ho h2;exact FH ho λhx=>hg.block _ (aZ ho hx).2 λe=>(h2 hx).own n c e.symm
 have rA : r ≠ none->cF a (an r):=λhr0=>by
  by_cases ha : a=none
  ·exact .inl ha
  ·exact .inr λe=>hra hr0 (.inl ⟨ha,e.symm⟩)
 have oA : ∀i,i<n->(aV R i).1 ≠ none->cF a (an (aV R i).1):=λi hi hx=>by
  rcases h.uq i hi with h2 | h2
  ·exact absurd h2 hx
  ·exact .inr λe=>h2 e.symm
 have toA : ∀ {x : OA} {cx m : Nat} {xs : List Value},w.ownsRow B 3 1 (.slice x m cx) m xs->(x ≠ none->cF a (an x))->cF x (an a'):=by
  intro x cx m xs ho h2;by_cases hx : x=none
  ·exact .inl hx
  ·rcases hap _ (aZ ho hx).2 (h2 hx) with h3 | h3
   ·exact absurd h3 hn'
   ·exact .inr λe=>h3 e.symm
 have ezip : List.zipWith jx (R ++ [(r,rc)]) (L ++ [l])=List.zipWith jx R L ++ [.slice r l.length rc]:=by rw [List.zipWith_append (by rw [h.rl,h.ll])];rfl
 refine ⟨by simp [h.rl],by simp [h.ll],by rw [ezip];exact hown,λi hi=>?_,λi hi=>?_,λi j hi hj hij=>?_⟩
 ·rw [nthL,nthAA];by_cases h1 : i<n
  ·simp only [Mg h1];exact rowKeep (h.row i h1) (oA i h1)
  ·obtain rfl : i=n:=by omega
   simp only [Mh h1,if_true];exact rowKeep hr rA
 ·rw [nthAA];by_cases h1 : i<n
  ·simp only [Mg h1];exact toA (h.row i h1) (oA i h1)
  ·obtain rfl : i=n:=by omega
   simp only [Mh h1,if_true];exact toA hr rA
 ·rw [nthAA,nthAA];by_cases h1 : i<n
  ·by_cases h2 : j<n
   ·simp only [Mg h1,Mg h2];exact h.sep i j h1 h2 hij
   ·obtain rfl : j=n:=by omega
    simp only [Mg h1,Mh h2,if_true];by_cases hr0 : r=none
    ·exact .inr (.inl hr0)
    ·by_cases hx : (aV R i).1=none
     ·exact .inl hx
     ·exact .inr (.inr λe=>hra hr0 (by rw [e];exact aY.l6 (by rw [h.rl];exact h1) hx))
  ·obtain rfl : i=n:=by omega
   have h2 : j<i:=by omega
   simp only [Mh h1,Mg h2,if_true];by_cases hr0 : r=none
   ·exact .inl hr0
   ·by_cases hx : (aV R j).1=none
    ·exact .inr (.inl hx)
    ·exact .inr (.inr λe=>hra hr0 (by rw [<- e];exact aY.l6 (by rw [h.rl];exact h2) hx))
theorem bS.push {w : World} {B : Nat} {a : OA} {n c : Nat} {R : Z4} {L : ZZ} (h : aY w B a n c R L) {r : OA} {rc : Nat} {a' : OA}
  (hap : ∀b,b<w.heap.size->cF a b->cF a' b) {x : Nat} (hx : bS a' (R ++ [(r,rc)]) x) : bS a R x\/(r ≠ none/\x=an r)\/w.heap.size<=x:=by
 rcases hx with ⟨h1,rfl⟩ | ⟨i,hi,h1,rfl⟩
 ·by_cases hlt : an a'<w.heap.size
  ·by_cases h2 : cF a (an a')
   ·rcases hap _ hlt h2 with h3 | h3
    ·exact absurd h3 h1
    ·exact absurd rfl h3
   ·left;left;refine ⟨λe=>h2 (.inl e),?_⟩;apply Mv;intro e;exact h2 (.inr λe2=>e e2.symm)
  ·exact .inr (.inr (by omega))
 ·simp only [Mp,Mz] at hi;by_cases h2 : i<R.length
  ·have e : aV (R ++ [(r,rc)]) i=aV R i:=by simp only [aV,Mk];rw [ML h2]
   rw [e] at h1 ⊢;exact .inl (aY.l6 h2 h1)
  ·obtain rfl : i=R.length:=by omega
   have e : aV (R ++ [(r,rc)]) R.length=(r,rc):=by simp [aV]
   rw [e] at h1 ⊢;exact .inr (.inl ⟨h1,rfl⟩)
namespace nS
variable {V w4 w5 X w6 : World} {B bb b : Nat} {ar : OA} {cr : Nat} {R : Z4} {ap : OA} {cp : Nat} {s : BS}
theorem Ii {a4 a5 : OA} {c4 c5 k : Nat} {N : Lz} {o : Obj} (h : nS V B bb b ar cr R ap cp s) (hk : s.rows.length=k) (hVB : B<=V.heap.size) (hb4 : Rs V w4)
  (hown4 : w4.ownsRow V.heap.size 3 1 (.slice a4 N.length c4) N.length (N.map (Value.int .i64)))
  (hown5 : w5.ownsRow B 22 1 (.slice a5 (k+1) c5) (k+1) (List.zipWith jx R s.rows ++ [.slice a4 N.length c4])) (hgr5 : (w4.alloc o).grownBy w5 (Value.slice ar k cr).ownBlock)
  (hap5 : ∀x,x<(w4.alloc o).heap.size->cF ar x->cF a5 x) (p1 : ∃v,w5.cell? ⟨bb,1,none⟩=some v) :
  ∃ar' cr' R',(w5.setCell ⟨bb,1,none⟩ (.slice a5 (k+1) c5)).cell? ⟨bb,1,none⟩=some (.slice ar' (k+1) cr')/\aY (w5.setCell ⟨bb,1,none⟩ (.slice a5 (k+1) c5)) B ar' (k+1) cr' R' (s.rows ++ [N]) /\
   aw V (w5.setCell ⟨bb,1,none⟩ (.slice a5 (k+1) c5)) (λx=>x=bb\/bS ar R x) (λx=>x=bb\/bS ar' R' x)/\¬ bS ar' R' bb /\
   (∀i v,i ≠ 1->V.cell? ⟨bb,i,none⟩=some v->(w5.setCell ⟨bb,1,none⟩ (.slice a5 (k+1) c5)).cell? ⟨bb,i,none⟩=some v)/\∀i,(w5.setCell ⟨bb,1,none⟩ (.slice a5 (k+1) c5)).frozen? ⟨bb,i,none⟩=false:=by
 have hbo : Rs V (w4.alloc o):=QQ hb4 (aB _ _);have hO4:=h.om.ah hbo;rw [hk] at hO4;have hr : (w4.alloc o).ownsRow B 3 1 (.slice a4 N.length c4) N.length (N.map (Value.int .i64)):=bg (ba hown4 (aB _ _)) hVB;have hra : a4 ≠ none->¬ bS ar R (an a4):=λh0 hI=>by have h1:=(aZ hown4 h0).1;have h2:=(h.om.lt _ hI).2;omega
 have hP:=aY.push hO4 hr hra hown5 hgr5 hap5;have hbb:=h.lt bb (.inl rfl);have haptb : cF ar bb:=by
  by_cases ha : ar=none
  ·exact .inl ha
  ·exact .inr λe=>h.d1 (.inl ⟨ha,e.symm⟩)
 have hsz:=hbo.size;have hpush:=λ{x : Nat} (hx : bS a5 (R ++ [(a4,c4)]) x)=>bS.push hO4 hap5 hx;have hd : ¬ bS a5 (R ++ [(a4,c4)]) bb:=λhI=>by
  rcases hpush hI with h1 | ⟨h1,h2⟩ | h1
  ·exact h.d1 h1
  ·have:=(aZ hown4 h1).1;omega
  ·omega
 obtain ⟨v,p1⟩:=p1;refine ⟨a5,c5,R ++ [(a4,c4)],Mw _ _ _ p1,hP.bu λx hx=>MB _ _ _ _ λe=>hd (by rw [show bb=x from e.symm];exact hx),?_,hd,λi v hi hv=>?_,λi=>?_⟩;rotate_left
 ·rw [MA _ _ _ _ (by simp <;> omega)];exact bA hgr5 (aA hbo hv) haptb
 ·rw [MW];exact (MD (w:=w4.alloc o) (a:=⟨bb,i,none⟩) (hgr5.block bb (by omega) λe=>haptb.own k cr e.symm)).trans (j9 hbo hbb.2 (h.fr i))
 have hb0 : Below 0 w5 (w5.setCell ⟨bb,1,none⟩ (.slice a5 (k+1) c5)):=(Mi 0 w5).setCell (Mj _) _;refine ⟨hb0.os.trans (hgr5.os.trans hbo.os),hb0.tape.trans (hgr5.tape.trans hbo.tape),hb0.output.trans (hgr5.output.trans hbo.output),Mt hbo.size (Mt hgr5.size hb0.size),λx hx hI=>?_,λx hx=>?_⟩
 ·rw [MB _ _ _ _ λe=>hI (.inl e)];rw [hgr5.block x (by omega) λe=>?_]
  ·exact hbo.block x hx
  ·apply hI;right;left;cases ar with
   | none=>simp [Value.ownBlock] at e
   | some y=>simp [Value.ownBlock] at e;exact ⟨by simp,by rw [e];rfl⟩
 ·rcases hx with rfl | hx
  ·exact .inl (.inl rfl)
  ·rcases hpush hx with h1 | ⟨h1,h2⟩ | h1
   ·exact .inl (.inr h1)
   ·exact .inr (by have:=(aZ hown4 h1).1;omega)
   ·exact .inr (by omega)
theorem FD {a6 : OA} {c6 k : Nat} {f : Int} {L : ZZ} {Q : Lz} {o : Obj} (hB : B<=bb) (x0 : X.cell? ⟨bb,0,none⟩=some (.pointer (some ⟨b,0,none⟩))) (x1 : X.cell? ⟨bb,1,none⟩=some (.slice ar (k+1) cr))
  (x2 : ∃v,X.cell? ⟨bb,2,none⟩=some v)
  (xf : ∀i,X.frozen? ⟨bb,i,none⟩=false) (hO : aY X B ar (k+1) cr R L) (hp : X.ownsRow B 3 1 (.slice ap k cp) k (Q.map (Value.int .i64))) (d1 : ¬ bS ar R bb) (d2 : cF ap bb) (d3 : ap ≠ none->¬ bS ar R (an ap))
  (hown6 : w6.ownsRow B 3 1 (.slice a6 (k+1) c6) (k+1) (Q.map (Value.int .i64) ++ [.int .i64 f])) (hgr6 : (X.alloc o).grownBy w6 (Value.slice ap k cp).ownBlock)
  (hap6 : ∀x,x<(X.alloc o).heap.size->cF ap x->cF a6 x) :
  nS (w6.setCell ⟨bb,2,none⟩ (.slice a6 (k+1) c6)) B bb b ar cr R a6 c6 ⟨L,Q ++ [f]⟩ /\
   aw X (w6.setCell ⟨bb,2,none⟩ (.slice a6 (k+1) c6)) (td bb ar R ap) (td bb ar R a6):=by
 have hbb : bb<X.heap.size:=Mn X _ x0;have hbo : Rs X (X.alloc o):=aB _ _;have hsz:=hbo.size;have hne : a6 ≠ none:=λe=>by
  obtain ⟨y,z,hv,hp⟩:=Q0 hown6;cases hv
  have:=hp (by omega);rw [e] at this;cases this
 have aptOf : ∀ {x : Nat},cF ap x->x<X.heap.size->x ≠ an a6:=λh2 hx e=>by
  rcases hap6 _ (by omega) h2 with h3 | h3
  ·exact hne h3
  ·exact h3 e.symm
 have hbb6:=aptOf d2 hbb;have J5 : ∀x,x<X.heap.size->x ≠ bb->cF ap x->(w6.setCell ⟨bb,2,none⟩ (.slice a6 (k+1) c6)).heap[x]? = X.heap[x]?:=λx hx h1 h2=>by rw [MB _ _ _ _ h1,hgr6.block x (by omega) λe=>h2.own k cp e.symm];exact hbo.block x hx
 have aptO : ∀x,bS ar R x->cF ap x:=λx hx=>by
  by_cases h0 : ap=none
  ·exact .inl h0
  ·exact .inr λe=>d3 h0 (e ▸ hx)
 have c6k : ∀i v,X.cell? ⟨bb,i,none⟩=some v->w6.cell? ⟨bb,i,none⟩=some v:=λi v hv=>bA hgr6 (aM hv _) d2;have hLl : L.length=k+1:=hO.ll;have hQl : Q.length=k:=by simpa using jT hp
 have hO6 : aY (w6.setCell ⟨bb,2,none⟩ (.slice a6 (k+1) c6)) B ar (k+1) cr R L:=hO.bu λx hx=>J5 x (hO.lt x hx).2 (λe=>d1 (e ▸ hx)) (aptO x hx);obtain ⟨v2,x2⟩:=x2;refine ⟨⟨hB,?_,?_,?_,λi=>?_,?_,?_,d1,.inr λe=>hbb6 e.symm,λ_ hI=>?_⟩,?_⟩
 ·rw [MA _ _ _ _ (by simp)];exact c6k _ _ x0
 ·rw [MA _ _ _ _ (by simp)];simpa [hLl] using c6k _ _ x1
 ·simp only [hLl];exact Mw _ _ _ (c6k _ _ x2)
 ·rw [MW];exact (MD (w:=X.alloc o) (a:=⟨bb,i,none⟩) (hgr6.block bb (by omega) λe=>d2.own k cp e.symm)).trans (cR hbb (xf i) _)
 ·simp only [hLl];exact hO6
 ·simp only [hLl];have:=du hown6 (p:=⟨bb,2,none⟩) (.slice a6 (k+1) c6) (.inr λe=>hbb6 e.symm);simpa using this
 ·exact aptOf (aptO _ hI) (hO.lt _ hI).2 rfl
 ·have hb0 : Below 0 w6 (w6.setCell ⟨bb,2,none⟩ (.slice a6 (k+1) c6)):=(Mi 0 w6).setCell (Mj _) _;refine ⟨hb0.os.trans (hgr6.os.trans hbo.os),hb0.tape.trans (hgr6.tape.trans hbo.tape),hb0.output.trans (hgr6.output.trans hbo.output),Mt hbo.size (Mt hgr6.size hb0.size),λx hx hI=>?_,λx hx=>?_⟩
  ·refine J5 x hx (λe=>hI (.inl e)) ?_;by_cases h0 : ap=none
   ·exact .inl h0
   ·exact .inr λe=>hI (.inr (.inr ⟨h0,e.symm⟩))
  ·rcases hx with rfl | hx | ⟨h1,rfl⟩
   ·exact .inl (.inl rfl)
   ·exact .inl (.inr (.inl hx))
   ·by_cases hlt : an a6<X.heap.size
    ·left;right;right;apply Mv;intro hn;have hA : cF ap (an a6):=by
      by_cases h0 : ap=none
      ·exact .inl h0
      ·exact .inr λe=>hn ⟨h0,e.symm⟩
     exact aptOf hA hlt rfl
    ·exact .inr (by omega)
end nS
end
def b8 (l : Lz) : Lz:=l.mergeSort λx y=>decide (x<=y)
theorem dE (l : Lz) : (b8 l).Perm l:=List.mergeSort_perm l _
theorem gK (l : Lz) : (b8 l).length=l.length:=(dE l).length_eq
theorem sF (l : Lz) : (b8 l).Pairwise λx y=>x<=y:=by have h:=List.pairwise_mergeSort (le:=λx y : Int=>decide (x<=y)) (λa b c h1 h2=>by simp at *;omega) (λa b=>by simp;omega) l;exact h.imp λh=>by simpa using h
theorem lM : ∀ {l l' : Lz},l.Pairwise (λx y=>x<=y)->l'.Pairwise (λx y=>x<=y)->l.Perm l'->l=l'
 | [],l',_,_,h=>by rw [List.nil_perm] at h;exact h.symm
 | x :: l,[],_,_,h=>by rw [List.perm_nil] at h;exact h
 | x :: l,y :: l',h1,h2,h=>by
  rw [Of] at h1 h2;have hx : x ∈ y :: l':=h.subset (Nl ..);have hy : y ∈ x :: l:=h.symm.subset (Nl ..);have e : x=y:=by
   rcases List.mem_cons.1 hx with e | hx
   ·exact e
   ·rcases List.mem_cons.1 hy with e | hy
    ·exact e.symm
    ·have:=h1.1 y hy;have:=h2.1 x hx;omega
  subst e;rw [lM h1.2 h2.2 (List.Perm.cons_inv h)]
theorem lf {l l' : Lz} (h : l'.Pairwise λx y=>x<=y) (hp : l'.Perm l) : l'=b8 l:=lM h (sF l) (hp.trans (dE l).symm)
theorem ug {l : Lz} (h : ∀i j,i<j->j<l.length->nth l i ≠ nth l j) : l.Nodup:=by unfold List.Nodup;rw [Nz];intro i j hi hj hij;have:=h i j hij hj;rwa [aj hi,aj hj] at this
theorem BE {m : Int} {l : Lz} (hn : l.Nodup) (hb : ∀x ∈ l,0<=x/\x<m) : bG m (b8 l)=true:=by
 have h1:=sF l;have h2 : (b8 l).Nodup:=(dE l).nodup_iff.2 hn;have h3 : ∀x ∈ b8 l,0<=x/\x<m:=λx hx=>hb x ((dE l).subset hx);rw [Nz] at h1;unfold List.Nodup at h2;rw [Nz] at h2;have key : ∀k,(∀i,i<k->gq m (b8 l) i=true)->nc m (b8 l) k=true:=λk=>by
  induction k with
  | zero=>intro _;rfl
  | succ k ih=>intro h;exact gL (ih λi hi=>h i (by omega)) (h k (by omega))
 unfold bG;refine key _ λi hi=>?_;have h4:=h3 _ (MM hi);unfold gq;rw [aj hi];by_cases h0 : i=0
 ·simp [h0] at h4 ⊢;omega
 ·have h5:=h1 (i - 1) i (by omega) hi (by omega);have h6:=h2 (i - 1) i (by omega) hi (by omega);rw [aj (show i - 1<(b8 l).length by omega)];simp;omega
def swp (X : Lz) (j : Nat) : Lz:=(X.set j (nth X (j - 1))).set (j - 1) (nth X j)
theorem CJ {X : Lz} {j : Nat} (h0 : 0<j) (hj : j<X.length) (i : Nat) : nth (swp X j) i=if i=j - 1 then nth X j else if i=j then nth X (j - 1) else nth X i:=by unfold swp;rw [dD _ _ _ _ (by simp;omega),dD _ _ _ _ hj]
def Ia (X : Lz) (k : Nat) : Prop:=∀p q,p<q->q<k->nth X p<=nth X q
def Dv (X : Lz) (i j : Nat) : Prop:=∀p q,p<q->q<=i->q ≠ j->nth X p<=nth X q
theorem Ia.start {X : Lz} {i : Nat} (h : Ia X i) : Dv X i i:=λp q h1 h2 h3=>h p q h1 (by omega)
theorem Dv.step {X : Lz} {i j : Nat} (h : Dv X i j) (h0 : 0<j) (hji : j<=i) (hj : j<X.length) (hlt : nth X j<nth X (j - 1)) : Dv (swp X j) i (j - 1):=λp q h1 h2 h3=>by
 rw [CJ h0 hj,CJ h0 hj];by_cases e1 : q=j
 ·subst e1;rw [Mh h3,Mg rfl];by_cases e2 : p=q - 1
  ·rw [Mg e2];omega
  ·rw [Mh e2,Mh (by omega)];exact h p (q - 1) (by omega) (by omega) (by omega)
 ·rw [Mh h3,Mh e1];by_cases e2 : p=j - 1
  ·rw [Mg e2];exact h j q (by omega) h2 e1
  ·rw [Mh e2];by_cases e3 : p=j
   ·rw [Mg e3];exact h (j - 1) q (by omega) h2 e1
   ·rw [Mh e3];exact h p q h1 h2 e1
theorem Dv.done {X : Lz} {i j : Nat} (h : Dv X i j) (hji : j<=i) (hd : j=0\/nth X (j - 1)<=nth X j) : Ia X (i+1):=λp q h1 h2=>by
 by_cases e : q=j
 ·subst e;rcases hd with hd | hd
  ·omega
  ·by_cases e2 : p=q - 1
   ·rw [e2];exact hd
   ·exact OM (h p (q - 1) (by omega) (by omega) (by omega)) hd
 ·exact h p q h1 (by omega) e
theorem Ia.sort {X Q : Lz} {k : Nat} (h : Ia X k) (hk : X.length<=k) (hp : X.Perm Q) : X=b8 Q:=by refine lf ?_ hp;rw [Nz];intro i j hi hj hij;have:=h i j hij (by omega);rwa [aj hi,aj hj] at this
def dN : Nat->Nat->Nat
 | _,0=>1
 | 0,_+1=>0
 | n+1,k+1=>dN n k+dN n (k+1)
theorem ym (k : Nat) : ∀n,((List.range n).map λi=>dN i k).sum=dN n (k+1)
 | 0=>by simp [dN]
 | n+1=>by rw [Nx,M3,QN,ym k n];simp [dN];omega
theorem oU : ∀n k,n<k->dN n k=0
 | 0,k+1,_=>by rw [dN]
 | n+1,k+1,h=>by rw [dN,oU n k (by omega),oU n (k+1) (by omega)]
theorem r9 : ∀n,dN n n=1
 | 0=>by rw [dN]
 | n+1=>by rw [dN,r9 n,oU n (n+1) (by omega)]
theorem jk (n : Nat) : dN n 0=1:=by cases n <;> rw [dN]
theorem Al (n k : Nat) : dN (n+1) (k+1)=dN n k+dN n (k+1):=by rw [dN]
theorem qY : ∀n k,(k+1) * dN (n+1) (k+1)=(n+1) * dN n k
 | 0,0=>by simp [dN]
 | 0,k+1=>by simp [dN]
 | n+1,0=>by have h:=qY n 0;rw [jk] at h;rw [Al (n+1) 0,jk];omega
 | n+1,k+1=>by
  have h1:=qY n k;have h2:=qY n (k+1);rw [dN,O6,h2];have h3 : dN (n+1) (k+1)=dN n k+dN n (k+1):=by rw [dN]
  have e : (k+1+1) * dN (n+1) (k+1)=(k+1) * dN (n+1) (k+1)+dN (n+1) (k+1):=by rw [Ou,Qg]
  rw [e,h1];have e2 : (n+1+1) * dN (n+1) (k+1)=(n+1) * dN (n+1) (k+1)+dN (n+1) (k+1):=by rw [Ou,Qg]
  rw [e2];have e3 : (n+1) * dN (n+1) (k+1)=(n+1) * dN n k+(n+1) * dN n (k+1):=by rw [h3,O6]
  rw [e3];omega
theorem oc : ∀n k,k<=n->1<=dN n k
 | n,0,_=>by rw [jk];exact Mf _
 | n+1,k+1,h=>by rw [dN];have:=oc n k (by omega);omega
theorem Gb {n k : Nat} : dN n k<=dN (n+1) (k+1):=by rw [dN];omega
theorem sk : ∀n k,k<=n->dN n k=dN n (n - k)
 | 0,0,_=>rfl
 | n+1,0,_=>by rw [jk,OS,r9]
 | n+1,k+1,h=>by
  rw [show n+1 - (k+1)=n - k by omega];by_cases e : k=n
  ·subst e;rw [r9,NS,jk]
  ·obtain ⟨d,hd⟩ : ∃d,n - k=d+1:=⟨n - k - 1,by omega⟩
   rw [hd,dN,dN,sk n k (by omega),sk n (k+1) (by omega),hd,show n - (k+1)=d by omega];omega
def DS (n k : Nat) : Int:=if dN n k<=65536 then dN n k else 0
def ED (n k : Nat) : Int:=if dN n k<=65536 then 0 else 8
theorem FJ (n k i : Nat) : dN (n - k+i) i * (n - k+(i+1)) / (i+1)=dN (n - k+(i+1)) (i+1):=by have h:=qY (n - k+i) i;rw [<- N5,Pn,<- h,Nat.mul_div_cancel_left _ (by omega)]
theorem vp {n k : Nat} (hk : k<=n) : ∀d i,i+d=k->dN (n - k+i) i<=dN n k
 | 0,i,h=>by
  obtain rfl : i=k:=by omega
  rw [show n - i+i=n by omega];exact Mf _
 | d+1,i,h=>by refine Mt ?_ (vp hk d (i+1) (by omega));rw [<- N5];exact Gb
def dh (l : Lz) : Nat->Int
 | 0=>1
 | k+1=>dh l k * nth l k
def EM (most : Int) (l : Lz) : Int:=if dh l l.length<=most then dh l l.length else 0
def Bz (most : Int) (l : Lz) : Int:=if dh l l.length<=most then 0 else 8
theorem tE {l : Lz} (h : ∀x ∈ l,1<=x) : ∀k,k<=l.length->1<=dh l k
 | 0,_=>by simp [dh]
 | k+1,hk=>by have ih:=tE h k (by omega);have hx:=h _ (aN (show k<l.length by omega));rw [dh];have:=Nh ih hx (by omega) (by omega);omega
theorem qF {l : Lz} (h : ∀x ∈ l,1<=x) (i : Nat) : ∀d,i+d<=l.length->dh l i<=dh l (i+d)
 | 0,_=>Ob _
 | d+1,hd=>by have ih:=qF h i d (by omega);have hp:=tE h (i+d) (by omega);have hx:=h _ (aN (show i+d<l.length by omega));rw [<- N5,dh];have:=Nh (Ob (dh l (i+d))) hx (by omega) (by omega);omega
theorem div_lt_iff {most x o : Int} (hx : 1<=x) (ho : 0<=o) (hm : 0<=most) : most.tdiv x<o ↔ most<o * x:=by rw [Om hm];exact Int.ediv_lt_iff_lt_mul (by omega)
def Re:=@aY.push
def Ro:=@bX.own
end Go.Proofs.YtcfmiocdlcapoaaGreat
