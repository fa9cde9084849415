import Derived.Test.YtcfmiocdlcapoaaGreatMCS6
namespace Go.Proofs.YtcfmiocdlcapoaaGreat
set_option linter.all false
set_option maxRecDepth 100000
set_option maxHeartbeats 3200000
open Go.RowKit Go.Proofs.Tryz
section
variable {w : World} {b : Nat} {G : cW}
@[go_sem high] theorem run_slice_h0 {P : Program} (w : World) (t : TypeId) (a : OA) (len cap : Nat) (ht : P.underlying t=some (.slice (P.elem t))) (kh : IntKind) (h : Int) (h0 : 0<=h) (h2 : h<=cap) :
  (Instr.slice t (.slice a len cap) none (some (.int kh h)) none).run P w=((sizeOf (P.elem t)).run P w).andThen λ_ w=>.ok (.slice a h.toNat cap) w:=by rw [run_slice_h w t a len cap ht kh h h0 h2];congr 1;funext s w;congr 1;simp only [sliced,MT,Addr.add,if_true,ML,Ng,ite_self]
@[go_sem high] theorem run_slice_hm0 {P : Program} (w : World) (t : TypeId) (a : OA) (len cap : Nat) (ht : P.underlying t=some (.slice (P.elem t))) (kh km : IntKind) (h m : Int) (h0 : 0<=h) (h2 : h<=m) (h3 : m<=cap) :
  (Instr.slice t (.slice a len cap) none (some (.int kh h)) (some (.int km m))).run P w=((sizeOf (P.elem t)).run P w).andThen λ_ w=>.ok (.slice a h.toNat m.toNat) w:=by rw [run_slice_hm w t a len cap ht kh km h m h0 h2 h3];congr 1;funext s w;congr 1;simp only [sliced,MT,Addr.add,if_true,ML,Ng,ite_self]
theorem BT {L : Ll} {k i : Nat} (h : i<k) : an (L.take k) i=an L i:=by simp only [an,Jc,J9,I6 h]
structure dW (B : Nat) (w : World) (a : OA) (n : Nat) (l : Lz) : Prop where
 ints : Ints w a n l
 lo : 0<n->B<=aj a
structure cH (B : Nat) (w : World) (a : OA) (n : Nat) (l : Ll) : Prop where
 len : l.length=n
 pl : Pl a n
 max : n<=maxLen
 lo : 0<n->B<=aj a
 cell : ∀i,i<n->∃b m c,w.cell? ⟨aj a,aL a+i,none⟩=some (.slice b m c)/\dW B w b m (an l i)
theorem dW.mono {B B' : Nat} {w : World} {a : OA} {n : Nat} {l : Lz} (h : dW B w a n l) (hB : B'<=B) : dW B' w a n l:=⟨h.ints,λhn=>Ji hB (h.lo hn)⟩
theorem cH.mono {B B' : Nat} {w : World} {a : OA} {n : Nat} {l : Ll} (h : cH B w a n l) (hB : B'<=B) : cH B' w a n l :=
 ⟨h.len,h.pl,h.max,λhn=>Ji hB (h.lo hn),λi hi=>by obtain ⟨b,m,c,h1,h2⟩:=h.cell i hi;exact ⟨b,m,c,h1,h2.mono hB⟩⟩
theorem cH.l7 {B : Nat} {w : World} {a : OA} {n : Nat} {l : Ll} (h : cH B w a n l) : ch w a n l :=
 ⟨h.len,h.pl,h.max,λi hi=>by obtain ⟨b,m,c,h1,h2⟩:=h.cell i hi;exact ⟨b,m,c,h1,h2.ints⟩⟩
theorem dW.bj {B : Nat} {w V : World} {a : OA} {n : Nat} {l : Lz} (h : dW B w a n l) (hb : ∀b,B<=b->b<w.heap.size->V.heap[b]? = w.heap[b]?) : dW B V a n l :=
 ⟨h.ints.of_block λhn=>hb _ (h.lo hn) (h.ints.lt hn),h.lo⟩
theorem cH.bj {B : Nat} {w V : World} {a : OA} {n : Nat} {l : Ll} (h : cH B w a n l) (hb : ∀b,B<=b->b<w.heap.size->V.heap[b]? = w.heap[b]?) : cH B V a n l:=by refine ⟨h.len,h.pl,h.max,h.lo,λi hi=>?_⟩;obtain ⟨b,m,c,h1,h2⟩:=h.cell i hi;exact ⟨b,m,c,(JG (w:=w) (a:=⟨aj a,aL a+i,none⟩) (hb _ (h.lo (by omega)) (Jf w _ h1))).trans h1,h2.bj hb⟩
theorem dW.aa {B : Nat} {w V : World} {a : OA} {n : Nat} {l : Lz} (h : dW B w a n l) (hb : NS w V) : dW B V a n l:=h.bj λb _ h2=>hb.block b h2
theorem cH.aa {B : Nat} {w V : World} {a : OA} {n : Nat} {l : Ll} (h : cH B w a n l) (hb : NS w V) : cH B V a n l:=h.bj λb _ h2=>hb.block b h2
theorem dW.setCell {B : Nat} {w : World} {a : OA} {n : Nat} {l : Lz} (h : dW B w a n l) {p : Addr} (hp : p.block<B) (v : Value) : dW B (w.setCell p v) a n l :=
 h.bj λb h1 _=>Jr _ _ _ _ (by omega)
theorem cH.setCell {B : Nat} {w : World} {a : OA} {n : Nat} {l : Ll} (h : cH B w a n l) {p : Addr} (hp : p.block<B) (v : Value) : cH B (w.setCell p v) a n l :=
 h.bj λb h1 _=>Jr _ _ _ _ (by omega)
theorem dW.own {w : World} {B : Nat} {e : TypeId} {a : OA} {c n : Nat} {l : Lz} (h : w.ownsRow B e 1 (.slice a n c) n (l.map (Value.int .i64))) : dW B w a n l :=
 ⟨(Ni h).1,λhn=>(bW h 0 hn).2.2.1⟩
theorem cH.own {w : World} {B : Nat} {a : OA} {n c : Nat} {R : La} {L : Ll} (h : aP w B a n c R L) : cH B w a n L :=
 ⟨h.ll,h.pl,h.max,λhn=>(fB h.own hn).1,λ_ hi=>⟨_,_,_,h.cell hi,dW.own (h.row _ hi)⟩⟩
theorem cH.take {B : Nat} {w : World} {a : OA} {n : Nat} {L : Ll} (h : cH B w a n L) {k : Nat} (hk : k<=n) : cH B w a k (L.take k):=by refine ⟨by rw [Jy,h.len];omega,λh0=>h.pl (by omega),Ji hk h.max,λh0=>h.lo (by omega),λi hi=>?_⟩;rw [BT hi];exact h.cell i (by omega)
def pD (G : cW) (L : Ll) (m : Nat) : Ll:=(aD G.ops L m).1.take (aD G.ops L m).2.length
def fJ (G : cW) (L : Ll) (m : Nat) : Lz:=(aD G.ops L m).2
theorem wh (G : cW) (L : Ll) (m : Nat) : (pD G L m).length=(fJ G L m).length:=by have h1:=jd G.ops L m;have h2:=b9 G.ops L m;unfold pD fJ;rw [Jy];omega
def tm (G : cW) (L : Ll) (m : Nat) (w : World) (e : Ending) (w' : World) : Prop :=
 ∃a c ap cp,e = .returned (.tuple #[.slice a (fJ G L m).length c,.slice ap (fJ G L m).length cp])/\cH w.heap.size w' a (fJ G L m).length (pD G L m)/\dW w.heap.size w' ap (fJ G L m).length (fJ G L m)/\NS w w'
theorem Bx (a : OA) (n c m : Nat) (L : Ll) (h : dT w b G) (hi : ch w a n L) (hR : cw G.El m L) (hm : m<=1000000) (hn : n<=1000000) :
  Calls prog 146 #[.pointer (some ⟨b,0,none⟩),.slice a n c,.int .i64 m] w (tm G L m w):=by
 have Hlen:=Z5 hi.len;have HR:=Z5 hR;have hLm : ∀l ∈ L,l.length<=1000000:=λl hl=>by rw [(hR l hl).1];exact hm
 have HLm:=Z5 hLm;clear hLm hR;go_enter func146,ntmps146;go_wp2_with fail;refine (tq a n c L hi hn HLm.out).mono ?_;rintro e w1 ⟨a1,c1,R1,rfl,hO1,hb1⟩;go_wp2_with fail;refine (sy w a1 L.length c1 m m R1 L h hb1 hO1 HR.out (IZ _) hm (by rw [Hlen.out];exact hn)).mono ?_;rintro e w2 ⟨R2,ap,cp,d,rfl,hO2,hp2,hM2,hb2⟩;have hpl:=jd G.ops L m;have hcap:=nR hO2.own;have hpv:=(dW.own hp2).mono hb1.size;have hmt:=(cH.own hO2).take (k:=(aD G.ops L m).2.length) hpl.2;have hF : tm G L m w (.returned (.tuple #[.slice a1 (aD G.ops L m).2.length (aD G.ops L m).2.length,.slice ap (aD G.ops L m).2.length cp])) w2:=⟨a1,_,ap,cp,rfl,hmt,hpv,hb2⟩
 have HF:=Z5 hF;have hle : (aD G.ops L m).2.length<=c1:=Ji hpl.2 hcap;clear hF hpv hmt hp2 hcap hpl;generalize (aD G.ops L m).2.length=k at *;go_wp2_with fail;go_ret2;simpa using HF.out
end
def fI (P M : Int) (mod : Lz) (cols : Int) (L : Ll) : Int :=
 if bp P M mod=true then eW (ah P M.toNat mod).q cols L else 1
def vU (P M : Int) (mod : Lz) (cols : Int) (L : Ll) (w : World) (e : Ending) (w' : World) : Prop :=
 NS w w'/\(
 (fI P M mod cols L ≠ 0/\e = .returned (.tuple #[.agg #[.int .i64 0,.slice none 0 0],.slice none 0 0,.int .i64 (fI P M mod cols L)])) \/
 (fI P M mod cols L=0/\∃m : Nat,cols=m/\∃a c ap cp,e = .returned (.tuple #[.agg #[.int .i64 m,.slice a (fJ (ah P M.toNat mod) L m).length c],.slice ap (fJ (ah P M.toNat mod) L m).length cp,.int .i64 0]) /\
  cH w.heap.size w' a (fJ (ah P M.toNat mod) L m).length (pD (ah P M.toNat mod) L m)/\dW w.heap.size w' ap (fJ (ah P M.toNat mod) L m).length (fJ (ah P M.toNat mod) L m)))
theorem lE {q cols : Int} {L : Ll} (h : eW q cols L=0) : ∃m : Nat,cols=m/\m<=256/\L.length<=256/\cw (λx=>0<=x/\x<q) m L:=by
 unfold eW at h;split at h
 ·omega
 ·rename_i h1;split at h
  ·omega
  ·rename_i h2;split at h
   ·rename_i h3;refine ⟨cols.toNat,by omega,by omega,by omega,λr hr=>?_⟩;have h4 : kg cols L=true:=by simpa using h2
    unfold kg at h4;rw [JO] at h4 h3;have h5:=h4 r hr;have h6:=h3 r hr;unfold iM jj at h6;rw [JO] at h6;refine ⟨by simp at h5;omega,λx hx=>?_⟩;have h7:=h6 x hx;simpa using h7
   ·omega
theorem lJ {q cols : Int} {L : Ll} : iG q [(cols,L)]=eW q cols L:=by
 simp only [iG];split
 ·rename_i h;exact h.symm
 ·rfl
theorem sE (P M : Int) (am : OA) (mn cm : Nat) (mod : Lz) (cols : Int) (a : OA) (n c : Nat) (L : Ll) (w : World) (hmod : Ints w am mn mod) (hi : ch w a n L) :
  Calls prog 158 #[.agg #[.int .i64 P,.int .i64 M,.slice am mn cm],.agg #[.int .i64 cols,.slice a n c]] w (vU P M mod cols L w):=by
 have Hlen:=Z5 hi.len;go_enter func158,ntmps158;go_wp2_with fail;obtain ⟨W,hW⟩ : ∃W : World,W=((((w.alloc (.cells #[.int .i64 P,.int .i64 M,.slice am mn cm] 24)).alloc (.cells #[.int .i64 cols,.slice a n c] 82)).alloc (.cells #[.int .i64 0,.slice none 0 0] 82)).alloc (.cells #[.int .i64 cols,.slice a n c] 82)):=⟨_,rfl⟩
 rw [<- hW];have hbW : NS w W:=by rw [hW];exact ((((I1 _ _).alloc (IZ _) _).alloc (by simp) _).alloc (by simp;omega) _).alloc (by simp;omega) _
 have hsW : W.heap.size=w.heap.size+4:=by rw [hW];simp
 have q1 : W.cell? ⟨w.heap.size+1,0,none⟩=some (.int .i64 cols)/\W.cell? ⟨w.heap.size+1,1,none⟩=some (.slice a n c):=by rw [hW];exact ⟨aY (aY (aG _ _ _ (by simp) 0) _) _,aY (aY (aG _ _ _ (by simp) 1) _) _⟩
 have q2 : W.cell? ⟨w.heap.size+1+1,0,none⟩=some (.int .i64 0)/\W.cell? ⟨w.heap.size+1+1,1,none⟩=some (.slice none 0 0)/\W.frozen? ⟨w.heap.size+1+1,0,none⟩=false/\W.frozen? ⟨w.heap.size+1+1,1,none⟩=false:=by rw [hW];exact ⟨aY (aG _ _ _ (by simp) 0) _,aY (aG _ _ _ (by simp) 1) _,ef (by simp) (n7 _ _ _ (by simp) 0) _,ef (by simp) (n7 _ _ _ (by simp) 1) _⟩
 have q3 : W.cell? ⟨w.heap.size+1+1+1,0,none⟩=some (.int .i64 cols)/\W.cell? ⟨w.heap.size+1+1+1,1,none⟩=some (.slice a n c):=by rw [hW];exact ⟨aG _ _ _ (by simp) 0,aG _ _ _ (by simp) 1⟩
 have hiW:=hi.aa hbW;have hMs : yh W (some ⟨w.heap.size+1+1+1,0,none⟩) 1 [(cols,L)]:=⟨rfl,λ_=>rfl,by unfold maxLen;omega,λi hi=>by
  have : i=0:=by simp at hi;omega
  subst this;exact ⟨a,n,c,by simpa using q3.1,by simpa using q3.2,hiW⟩⟩
 have HsW:=Z5 hsW;clear hW hsW;refine (nj P M am mn cm mod _ 1 1 _ W (hmod.aa hbW) hMs).mono ?_;rintro e w1 ⟨hb1,hcase⟩;have hbw1:=Nh hbW hb1;have hq : ∀V,NS W V->V.cell? ⟨w.heap.size+1,0,none⟩=some (.int .i64 cols)/\V.cell? ⟨w.heap.size+1,1,none⟩=some (.slice a n c)/\V.cell? ⟨w.heap.size+1+1,0,none⟩=some (.int .i64 0)/\V.cell? ⟨w.heap.size+1+1,1,none⟩=some (.slice none 0 0)/\V.frozen? ⟨w.heap.size+1+1,0,none⟩=false/\V.frozen? ⟨w.heap.size+1+1,1,none⟩=false:=by intro V hV;have hs:=HsW.out;exact ⟨aB hV q1.1,aB hV q1.2,aB hV q2.1,aB hV q2.2.1,(hV.frozen (p:=⟨w.heap.size+1+1,0,none⟩) (by simp [hs])).trans q2.2.2.1,(hV.frozen (p:=⟨w.heap.size+1+1,1,none⟩) (by simp [hs])).trans q2.2.2.2⟩
 have Hq:=Z5 hq;clear hq q1 q2 q3;rcases hcase with ⟨hB,rfl⟩ | ⟨hB,er,h0,h1,rfl⟩ | ⟨hB,h1,b,rfl,hG,hbl⟩
 ·obtain ⟨r1,r2,r3,r4,r5,r6⟩:=Hq.out w1 hb1;have HB : Hid (fI P M mod cols L=1):=by show _=_;rw [fI,hB];rfl
  clear hB;go_wp2_with fail;refine bodyPost_ret (v:=.tuple #[.agg #[.int .i64 0,.slice none 0 0],.slice none 0 0,.int .i64 1]) (by simp [results,results158,go_sem,r3,r4]) rfl ⟨(hbw1.setCell (by simp;omega) _).setCell (by simp;omega) _,.inl ⟨by rw [HB.out];omega,by rw [HB.out]⟩⟩
 ·obtain ⟨r1,r2,r3,r4,r5,r6⟩:=Hq.out w1 hb1;have HB : Hid (fI P M mod cols L=er):=by show _=_;rw [fI,hB,I6 rfl,<- h1,lJ]
  have He : Hid (er ≠ 0):=h0;have he' : (er != 0)=true:=by simpa using h0
  clear hB h0 h1;go_wp2_with fail;refine bodyPost_ret (v:=.tuple #[.agg #[.int .i64 0,.slice none 0 0],.slice none 0 0,.int .i64 er]) (by simp [results,results158,go_sem,r3,r4]) rfl ⟨(hbw1.setCell (by simp;omega) _).setCell (by simp;omega) _,.inl ⟨by rw [HB.out];exact He.out,by rw [HB.out]⟩⟩
 ·obtain ⟨r1,r2,r3,r4,r5,r6⟩:=Hq.out w1 hb1;rw [lJ] at h1;obtain ⟨m,rfl,hm,hn,hR⟩:=lE h1;have HB : Hid (fI P M mod m L=0):=by show _=_;rw [fI,hB,I6 rfl,h1]
  clear hB h1;go_wp2_with fail;refine (Bx a n c m L hG (hiW.aa hb1) hR (by omega) (by rw [<- Hlen.out];omega)).mono ?_;rintro e w2 ⟨a2,c2,ap,cp,rfl,hM2,hp2,hb2⟩;have hbw2:=Nh hbw1 hb2;obtain ⟨r1,r2,r3,r4,r5,r6⟩:=Hq.out w2 (Nh hb1 hb2);have hF : vU P M mod m L w (.returned (.tuple #[.agg #[.int .i64 m,.slice a2 (fJ (ah P M.toNat mod) L m).length c2],.slice ap (fJ (ah P M.toNat mod) L m).length cp,.int .i64 0])) ((w2.setCell ⟨w.heap.size+1+1,0,none⟩ (.int .i64 m)).setCell ⟨w.heap.size+1+1,1,none⟩ (.slice a2 (fJ (ah P M.toNat mod) L m).length c2)):=by
   have hs:=HsW.out;have hs1:=hb1.size;refine ⟨(hbw2.setCell (by simp;omega) _).setCell (by simp;omega) _,.inr ⟨HB.out,m,rfl,a2,c2,ap,cp,rfl,?_,?_⟩⟩
   ·exact ((hM2.setCell (p:=⟨w.heap.size+1+1,0,none⟩) (by simp;omega) _).setCell (p:=⟨w.heap.size+1+1,1,none⟩) (by simp;omega) _).mono (by omega)
   ·exact ((hp2.setCell (p:=⟨w.heap.size+1+1,0,none⟩) (by simp;omega) _).setCell (p:=⟨w.heap.size+1+1,1,none⟩) (by simp;omega) _).mono (by omega)
  have HF:=Z5 hF;clear hF hM2 hp2;generalize (fJ (ah P M.toNat mod) L m).length=k at *;go_wp2_with fail;exact bodyPost_ret (v:=.tuple #[.agg #[.int .i64 m,.slice a2 k c2],.slice ap k cp,.int .i64 0]) (by simp [results,results158,go_sem,r3,r4]) rfl HF.out
section
theorem oZ {l l' : Lz} {k : Nat} (h : l.take k=l'.take k) (h1 : k<l.length) (h2 : k<l'.length) (he : nth l k=nth l' k) : l.take (k+1)=l'.take (k+1):=by rw [Ja h1,Ja h2,h,<- ai h1,<- ai h2,he]
theorem nP {l l' : Ll} {k : Nat} (h : l.take k=l'.take k) (h1 : k<l.length) (h2 : k<l'.length) (he : an l k=an l' k) : l.take (k+1)=l'.take (k+1):=by rw [Ja h1,Ja h2,h,<- aE h1,<- aE h2,he]
variable {w : World}
theorem CJ (a : OA) (n c : Nat) (l : Lz) (a' : OA) (n' c' : Nat) (l' : Lz) (h : Ints w a n l) (h' : Ints w a' n' l') :
  Calls prog 209 #[.slice a n c,.slice a' n' c'] w (jR w (decide (l=l'))):=by
 have Hl:=Z5 h.len;have Hl':=Z5 h'.len;have hpl:=h.pl;have hpl':=h'.pl;have hmax:=h.max;unfold maxLen at hmax;by_cases hn : n=n'
 ·subst hn;have hnn : ((n : Int) != n)=false:=by simp
  go_enter func209,ntmps209;go_wp2_with fail;go_loopw [13] (λiv wr=>∃k : Nat,k<=n/\iv = .int .i64 k/\Hid (l.take k=l'.take k)/\bf w wr) (λi _=>n - (intOf i).toNat);case atStart=>exact ⟨0,I7 _,rfl,rfl,No _⟩
  case round =>
   obtain ⟨k,hk,rfl,htk,hd⟩:=hrel
   by_cases hlt : k<n
   ·have c1:=(h.drawn hd).cell k hlt
    have c2:=(h'.drawn hd).cell k hlt
    by_cases he : nth l k=nth l' k
    ·have he' : (nth l k != nth l' k)=false:=by simpa using he
     have Hs : Hid (l.take (k+1)=l'.take (k+1)):=oZ htk.out (by rw [Hl.out];exact hlt) (by rw [Hl'.out];exact hlt) he
     clear he
     go_wp2_with fail
     go_quiet (fail)
     go_wp2
     go_roundw
     case rel=>exact ⟨k+1,by omega,by go_num,Hs.out,hd.drewN _⟩
     case measure=>simp [intOf] <;> omega
    ·have he' : (nth l k != nth l' k)=true:=by simpa using he
     have Hs : Hid (decide (l=l')=false):=by show _=_;simp;intro e;exact he (by rw [e])
     clear he
     go_wp2_with fail
     go_quiet (fail)
     go_wp2
     go_ret
     exact ⟨bd Hs.out.symm,hd.drewN _⟩
   ·obtain rfl : k=n:=by omega
    have Hs : Hid (decide (l=l')=true):=by show _=_;have:=htk.out;rw [I8 (by rw [Hl.out];exact IZ _),I8 (by rw [Hl'.out];exact IZ _)] at this;simpa using this
    go_wp2_with fail
    go_ret
    exact ⟨bd Hs.out.symm,hd⟩
 ·have hnn : ((n : Int) != n')=true:=by simp;omega
  have Hs : Hid (decide (l=l')=false):=by show _=_;simp;intro e;have e1:=Hl.out;have e2:=Hl'.out;rw [e] at e1;omega
  clear hn;go_enter func209,ntmps209;go_wp2_with fail;go_ret;exact ⟨bd Hs.out.symm,No _⟩
theorem r8 (a : OA) (n c : Nat) (l : Ll) (a' : OA) (n' c' : Nat) (l' : Ll) (h : ch w a n l) (h' : ch w a' n' l') :
  Calls prog 208 #[.slice a n c,.slice a' n' c',.func (.func 209) #[] #[]] w (jR w (decide (l=l'))):=by
 have Hl:=Z5 h.len;have Hl':=Z5 h'.len;have hpl:=h.pl;have hpl':=h'.pl;have hmax:=h.max;unfold maxLen at hmax;by_cases hn : n=n'
 ·subst hn;have hnn : ((n : Int) != n)=false:=by simp
  go_enter func208,ntmps208;go_wp2_with fail;go_loopw [17] (λiv wr=>∃k : Nat,k<=n/\iv = .int .i64 k/\Hid (l.take k=l'.take k)/\bf w wr) (λi _=>n - (intOf i).toNat);case atStart=>exact ⟨0,I7 _,rfl,rfl,No _⟩
  case round =>
   obtain ⟨k,hk,rfl,htk,hd⟩:=hrel
   by_cases hlt : k<n
   ·obtain ⟨b1,n1,d1,c1,i1⟩:=(h.drawn hd).cell k hlt
    obtain ⟨b2,n2,d2,c2,i2⟩:=(h'.drawn hd).cell k hlt
    go_wp2_with fail
    refine (CJ _ _ _ _ _ _ _ _ i1 i2).mono ?_
    rintro e w2 ⟨rfl,hd2⟩
    by_cases he : an l k=an l' k
    ·have he' : decide (an l k=an l' k)=true:=by simpa using he
     have Hs : Hid (l.take (k+1)=l'.take (k+1)):=nP htk.out (by rw [Hl.out];exact hlt) (by rw [Hl'.out];exact hlt) he
     rw [he']
     clear he he'
     go_wp2_with fail
     go_roundw
     case rel=>exact ⟨k+1,by omega,by go_num,Hs.out,hd.trans hd2⟩
     case measure=>simp [intOf] <;> omega
    ·have he' : decide (an l k=an l' k)=false:=by simpa using he
     have Hs : Hid (decide (l=l')=false):=by show _=_;simp;intro e;exact he (by rw [e])
     rw [he']
     clear he he'
     go_wp2_with fail
     go_ret
     exact ⟨bd Hs.out.symm,hd.trans hd2⟩
   ·obtain rfl : k=n:=by omega
    have Hs : Hid (decide (l=l')=true):=by show _=_;have:=htk.out;rw [I8 (by rw [Hl.out];exact IZ _),I8 (by rw [Hl'.out];exact IZ _)] at this;simpa using this
    go_wp2_with fail
    go_ret
    exact ⟨bd Hs.out.symm,hd⟩
 ·have hnn : ((n : Int) != n')=true:=by simp;omega
  have Hs : Hid (decide (l=l')=false):=by show _=_;simp;intro e;have e1:=Hl.out;have e2:=Hl'.out;rw [e] at e1;omega
  clear hn;go_enter func208,ntmps208;go_wp2_with fail;go_ret;exact ⟨bd Hs.out.symm,No _⟩
end
def fb (P M : Int) (mod : Lz) (cols : Int) (L : Ll) : Int :=
 if fI P M mod cols L=0 then (if pD (ah P M.toNat mod) L cols.toNat=L then 0 else 5) else fI P M mod cols L
def sY (P M : Int) (mod : Lz) (cols : Int) (a : OA) (n c : Nat) (L : Ll) (w : World) (e : Ending) (w' : World) : Prop :=
 NS w w'/\(
 (fb P M mod cols L ≠ 0/\e = .returned (.tuple #[.agg #[.pointer none,.int .i64 0,.slice none 0 0,.slice none 0 0],.int .i64 (fb P M mod cols L)])) \/
 (fb P M mod cols L=0/\∃(m b : Nat),cols=m/\∃ap cp,e = .returned (.tuple #[.agg #[.pointer (some ⟨b,0,none⟩),.int .i64 m,.slice a n c,.slice ap (fJ (ah P M.toNat mod) L m).length cp],.int .i64 0]) /\
  EZ w.heap.size w' b (ah P M.toNat mod)/\w.heap.size<=b/\dW w.heap.size w' ap (fJ (ah P M.toNat mod) L m).length (fJ (ah P M.toNat mod) L m)))
theorem ma (P M : Int) (am : OA) (mn cm : Nat) (mod : Lz) (cols : Int) (a : OA) (n c : Nat) (L : Ll) (w : World) (hmod : Ints w am mn mod) (hi : ch w a n L) :
  Calls prog 142 #[.agg #[.int .i64 P,.int .i64 M,.slice am mn cm],.agg #[.int .i64 cols,.slice a n c]] w (sY P M mod cols a n c L w):=by
 have Hlen:=Z5 hi.len;go_enter func142,ntmps142;go_wp2_with fail;obtain ⟨W,hW⟩ : ∃W : World,W=(((w.alloc (.cells #[.int .i64 P,.int .i64 M,.slice am mn cm] 24)).alloc (.cells #[.int .i64 cols,.slice a n c] 82)).alloc (.cells #[.pointer none,.int .i64 0,.slice none 0 0,.slice none 0 0] 162)):=⟨_,rfl⟩
 rw [<- hW];have hbW : NS w W:=by rw [hW];exact nY _ _ _ _
 have hsW : W.heap.size=w.heap.size+3:=by rw [hW];simp
 have x0 : aZ W w.heap.size [.int .i64 P,.int .i64 M,.slice am mn cm]:=by rw [hW];exact ((Nj _ _ _ rfl).alloc _).alloc _
 have x1 : aZ W (w.heap.size+1) [.int .i64 cols,.slice a n c]:=by rw [hW];exact (Nj _ _ _ (by simp)).alloc _
 have x2 : aZ W (w.heap.size+1+1) [.pointer none,.int .i64 0,.slice none 0 0,.slice none 0 0]:=by rw [hW];exact Nj _ _ _ (by simp)
 have HX:=Z5 (Jg x0 (Jg x1 x2));have HsW:=Z5 hsW;have hiW:=hi.aa hbW;have hmW:=hmod.aa hbW;clear hW hsW x0 x1 x2;refine (sE P M am mn cm mod cols a n c L W hmW hiW).mono ?_;rintro e w1 ⟨hb1,⟨he,rfl⟩ | ⟨he,m,rfl,a2,c2,ap,cp,rfl,hM2,hp2⟩⟩
 ·have hbw1:=Nh hbW hb1;have HB : Hid (fb P M mod cols L=fI P M mod cols L):=by show _=_;rw [fb,I5 he]
  have HE:=Z5 he;have he' : (fI P M mod cols L != 0)=true:=by simpa using he
  clear he;generalize fI P M mod cols L=er at *;have x2:=HX.out.2.2.aa hb1;have f0:=x2.frozen 0;have f1:=x2.frozen 1;have f2:=x2.frozen 2;have f3:=x2.frozen 3;have k0:=x2.cell 0 rfl;have k1:=x2.cell 1 rfl;have k2:=x2.cell 2 rfl;have k3:=x2.cell 3 rfl;clear x2;have hz : w.heap.size+1+1<w1.heap.size:=by have:=hb1.size;have:=HsW.out;omega
  go_wp2_with fail;exact bodyPost_ret (v:=.tuple #[.agg #[.pointer none,.int .i64 0,.slice none 0 0,.slice none 0 0],.int .i64 er]) (by simp [results,results142,go_sem,k0,k1,k2,k3,hz]) rfl
   ⟨(((((hbw1.setCell (by simp;omega) _).setCell (by simp;omega) _).setCell (by simp;omega) _).setCell (by simp;omega) _).alloc (by simp;omega) _),.inl ⟨by rw [HB.out];exact HE.out,by rw [HB.out]⟩⟩
 ·have hbw1:=Nh hbW hb1;have hb2 : NS w1 (w1.alloc (.cells #[.int .i64 m,.slice a2 (fJ (ah P M.toNat mod) L m).length c2] 82)):=aw _ _;have hz : w.heap.size+1+1<w1.heap.size:=by have:=hb1.size;have:=HsW.out;omega
  have x1:=HX.out.2.1.aa hb1;have j0:=x1.cell 0 rfl;have j1:=x1.cell 1 rfl;have He:=Z5 he;have hz1 : w.heap.size+1<w1.heap.size:=by omega
  clear x1 he;go_wp2_with fail;refine (r8 _ _ _ _ _ _ _ _ (hM2.l7.aa hb2) ((hiW.aa hb1).aa hb2)).mono ?_;rintro e w3 ⟨rfl,hd3⟩;have hb3 : NS w1 w3:=Nh hb2 hd3.below;have hbw3:=Nh hbw1 hb3;have hz3 : w.heap.size+1+1<w3.heap.size:=Jv hz hb3.size;have x0:=(HX.out.1.aa hb1).aa hb3;have x1:=(HX.out.2.1.aa hb1).aa hb3;have x2:=(HX.out.2.2.aa hb1).aa hb3;by_cases hc : pD (ah P M.toNat mod) L m=L
  ·have hc' : decide (pD (ah P M.toNat mod) L m=L)=true:=by simpa using hc
   have HB : Hid (fb P M mod m L=0):=by show _=_;rw [fb,I6 He.out,Jd,I6 hc]
   rw [hc'];have hmW3:=(hmW.aa hb1).aa hb3;have i0:=x0.cell 0 rfl;have i1:=x0.cell 1 rfl;have i2:=x0.cell 2 rfl;have hfb : bp P M mod=true:=by
    have:=He.out;unfold fI at this;split at this
    ·assumption
    ·omega
   have Hfb:=Z5 hfb;clear hc hc' x0 x1 hfb;go_wp2_with fail;refine (fG P M am mn cm mod w3 hmW3).mono ?_;rintro e w4 (⟨hB,rfl,hb4⟩ | ⟨hB,b,rfl,hG,hbl,hb4⟩)
   ·rw [Hfb.out] at hB;cases hB
   ·clear hB;have hbw4:=Nh hbw3 hb4;have x1:=((HX.out.2.1.aa hb1).aa hb3).aa hb4;have x2:=((HX.out.2.2.aa hb1).aa hb3).aa hb4;have j0:=x1.cell 0 rfl;have j1:=x1.cell 1 rfl;have f0:=x2.frozen 0;have f1:=x2.frozen 1;have f2:=x2.frozen 2;have f3:=x2.frozen 3;have k0:=x2.cell 0 rfl;have k1:=x2.cell 1 rfl;have k2:=x2.cell 2 rfl;have k3:=x2.cell 3 rfl;have hp4:=(hp2.aa hb3).aa hb4;have hF : sY P M mod m a n c L w (.returned (.tuple #[.agg #[.pointer (some ⟨b,0,none⟩),.int .i64 m,.slice a n c,.slice ap (fJ (ah P M.toNat mod) L m).length cp],.int .i64 0]))
      ((((w4.setCell ⟨w.heap.size+1+1,0,none⟩ (.pointer (some ⟨b,0,none⟩))).setCell ⟨w.heap.size+1+1,1,none⟩ (.int .i64 m)).setCell ⟨w.heap.size+1+1,2,none⟩ (.slice a n c)).setCell ⟨w.heap.size+1+1,3,none⟩ (.slice ap (fJ (ah P M.toNat mod) L m).length cp)):=by
     have hs:=HsW.out;have hs3:=hb3.size;refine ⟨(((hbw4.setCell (by simp;omega) _).setCell (by simp;omega) _).setCell (by simp;omega) _).setCell (by simp;omega) _,.inr ⟨HB.out,m,b,rfl,ap,cp,rfl,?_,?_,?_⟩⟩
     ·exact ((((hG.setCell (by simp;omega) _).setCell (by simp;omega) _).setCell (by simp;omega) _).setCell (by simp;omega) _).mono (by omega)
     ·omega
     ·exact ((((hp4.setCell (by simp;omega) _).setCell (by simp;omega) _).setCell (by simp;omega) _).setCell (by simp;omega) _).mono (by omega)
    have HF:=Z5 hF;clear hF hp4 hp2 x1 x2;generalize (fJ (ah P M.toNat mod) L m).length=k at *;go_wp2_with fail;exact bodyPost_ret (v:=.tuple #[.agg #[.pointer (some ⟨b,0,none⟩),.int .i64 m,.slice a n c,.slice ap k cp],.int .i64 0]) (by simp [results,results142,go_sem,k0,k1,k2,k3]) rfl HF.out
  ·have hc' : decide (pD (ah P M.toNat mod) L m=L)=false:=by simpa using hc
   have HB : Hid (fb P M mod m L=5):=by show _=_;rw [fb,I6 He.out,Jd,I5 hc]
   rw [hc'];have f0:=x2.frozen 0;have f1:=x2.frozen 1;have f2:=x2.frozen 2;have f3:=x2.frozen 3;have k0:=x2.cell 0 rfl;have k1:=x2.cell 1 rfl;have k2:=x2.cell 2 rfl;have k3:=x2.cell 3 rfl;clear hc hc' x0 x1 x2;go_wp2_with fail;exact bodyPost_ret (v:=.tuple #[.agg #[.pointer none,.int .i64 0,.slice none 0 0,.slice none 0 0],.int .i64 5]) (by simp [results,results142,go_sem,k0,k1,k2,k3]) rfl
    ⟨(((hbw3.setCell (by simp;omega) _).setCell (by simp;omega) _).setCell (by simp;omega) _).setCell (by simp;omega) _,.inl ⟨by rw [HB.out];omega,by rw [HB.out]⟩⟩
theorem rQ (P M : Int) (am : OA) (mn cm : Nat) (mod : Lz) (cols : Int) (a : OA) (n c : Nat) (L : Ll) (w : World) (hmod : Ints w am mn mod) (hi : ch w a n L) :
  Calls prog 126 #[.agg #[.int .i64 P,.int .i64 M,.slice am mn cm],.agg #[.int .i64 cols,.slice a n c]] w λe w'=>e = .returned (.int .i64 (fb P M mod cols L))/\NS w w':=by
 have Hal:=Z5 (dA w (.cells #[.int .i64 P,.int .i64 M,.slice am mn cm] 24) (.cells #[.int .i64 cols,.slice a n c] 82));go_enter func126,ntmps126;go_wp2_with fail;have hb:=Hal.out;generalize (w.alloc (.cells #[.int .i64 P,.int .i64 M,.slice am mn cm] 24)).alloc (.cells #[.int .i64 cols,.slice a n c] 82)=W at *;refine (ma P M am mn cm mod cols a n c L W (hmod.aa hb) (hi.aa hb)).mono ?_;rintro e w1 ⟨hb1,⟨he,rfl⟩ | ⟨he,m,b,rfl,ap,cp,rfl,hG,hbl,hp⟩⟩
 ·have hbw:=Nh hb hb1;clear he;go_wp2_with fail;go_ret;exact ⟨rfl,hbw.alloc hbw.size _⟩
 ·have hbw:=Nh hb hb1;have He:=Z5 he;clear he hp;generalize (fJ (ah P M.toNat mod) L m).length=k at *;go_wp2_with fail;go_ret;exact ⟨aH He.out.symm,hbw.alloc hbw.size _⟩
theorem AH (P M : Int) (am : OA) (mn cm : Nat) (N : Int) (a : OA) (n c : Nat) (w : World) :
  Calls prog 73 #[.agg #[.int .i64 P,.int .i64 M,.slice am mn cm,.int .i64 N,.slice a n c]] w λe w'=>e = .returned (.agg #[.int .i64 N,.slice a n c])/\NS w w':=by go_enter func73,ntmps73;go_wp2_with fail;exact bodyPost_ret (v:=.agg #[.int .i64 N,.slice a n c]) (by simp [results,results73,go_sem]) rfl ⟨rfl,dA _ _ _⟩
def jC (n : Int) : Int:=if n<1\/64<n then 4 else 0
theorem Ad (n : Int) (w : World) : Calls prog 125 #[.int .i64 n] w λe w'=>e = .returned (.int .i64 (jC n))/\w=w':=by
 by_cases h1 : n<1
 ·have Hf : Hid (jC n=4):=by show _=_;rw [jC,I6 (.inl h1)]
  go_enter func125,ntmps125;go_wp2;go_ret;exact ⟨aH Hf.out.symm,rfl⟩
 ·have h1' : decide (n<1)=false:=by simpa using h1
  by_cases h2 : 64<n
  ·have Hf : Hid (jC n=4):=by show _=_;rw [jC,I6 (.inr h2)]
   go_enter func125,ntmps125;go_wp2;go_ret;exact ⟨aH Hf.out.symm,rfl⟩
  ·have Hf : Hid (jC n=0):=by show _=_;rw [jC,I5 (by omega)]
   have h2' : decide (64<n)=false:=by simpa using h2
   go_enter func125,ntmps125;go_wp2;go_ret;exact ⟨aH Hf.out.symm,rfl⟩
def aJ (P M : Int) (mod : Lz) (N : Int) (L : Ll) : Int :=
 if bp P M mod=true then (if jC N=0 then fb P M mod N L else 4) else 1
theorem fN (P M : Int) (am : OA) (mn cm : Nat) (mod : Lz) (N : Int) (a : OA) (n c : Nat) (L : Ll) (w : World) (hmod : Ints w am mn mod) (hi : ch w a n L) :
  Calls prog 61 #[.agg #[.int .i64 P,.int .i64 M,.slice am mn cm,.int .i64 N,.slice a n c]] w λe w'=>e = .returned (.int .i64 (aJ P M mod N L))/\NS w w':=by
 go_enter func61,ntmps61;go_wp2_with fail;obtain ⟨W,hW⟩ : ∃W : World,W=w.alloc (.cells #[.int .i64 P,.int .i64 M,.slice am mn cm,.int .i64 N,.slice a n c] 27):=⟨_,rfl⟩
 rw [<- hW];have hbW : NS w W:=by rw [hW];exact aw _ _
 have x0 : aZ W w.heap.size [.int .i64 P,.int .i64 M,.slice am mn cm,.int .i64 N,.slice a n c]:=by rw [hW];exact Nj _ _ _ rfl
 have HX:=Z5 x0;clear hW x0;refine (rD P M am mn cm mod W (hmod.aa hbW)).mono ?_;rintro e w1 ⟨rfl,hb1⟩;have hbw1:=Nh hbW hb1;by_cases hB : bp P M mod=true
 ·have hE : cK (bp P M mod)=0:=by rw [hB];rfl
  rw [hE];have HB : Hid (aJ P M mod N L=if jC N=0 then fb P M mod N L else 4):=by show _=_;rw [aJ,I6 hB]
  have x1:=HX.out.aa hb1;have c3:=x1.cell 3 rfl;clear hE hB x1;go_wp2_with fail;refine (Ad N w1).mono ?_;rintro e w2 ⟨rfl,rfl⟩;by_cases hl : jC N=0
  ·have HB2 : Hid (aJ P M mod N L=fb P M mod N L):=by show _=_;rw [HB.out,I6 hl]
   rw [hl];clear hl;go_wp2_with fail;have hS : ∀V,NS w1 V->V.cell? ⟨w.heap.size,0,none⟩=some (.int .i64 P)/\V.cell? ⟨w.heap.size,1,none⟩=some (.int .i64 M)/\V.cell? ⟨w.heap.size,2,none⟩=some (.slice am mn cm)/\V.cell? ⟨w.heap.size,3,none⟩=some (.int .i64 N)/\V.cell? ⟨w.heap.size,4,none⟩=some (.slice a n c)/\Ints V am mn mod/\ch V a n L/\NS w1 V:=by intro V hV;have x1:=(HX.out.aa hb1).aa hV;exact ⟨x1.cell 0 rfl,x1.cell 1 rfl,x1.cell 2 rfl,x1.cell 3 rfl,x1.cell 4 rfl,((hmod.aa hbW).aa hb1).aa hV,((hi.aa hbW).aa hb1).aa hV,hV⟩
   have HS:=Z5 hS;clear hS c3;go_region_held3 (λV=>V.cell? ⟨w.heap.size,0,none⟩=some (.int .i64 P)/\V.cell? ⟨w.heap.size,1,none⟩=some (.int .i64 M)/\V.cell? ⟨w.heap.size,2,none⟩=some (.slice am mn cm)/\V.cell? ⟨w.heap.size,3,none⟩=some (.int .i64 N)/\V.cell? ⟨w.heap.size,4,none⟩=some (.slice a n c)/\Ints V am mn mod/\ch V a n L/\NS w1 V)
    ((refine HS.out _ ?_;first | exact (I1 _ _).drew | (go_split_ands;exact Nh (by assumption) (by assumption))))
    (first
     | (go_at_call 73;((with_reducible refine (AH P M am mn cm N a n c _).mono ?_);rintro e w4 ⟨rfl,hb4⟩))
     | (go_at_call 126;((with_reducible refine (rQ P M am mn cm mod N a n c L _ (by go_split_ands;assumption) (by go_split_ands;assumption)).mono ?_);rintro e w5 ⟨rfl,hb5⟩)))
   go_wp2_with fail;go_ret;exact ⟨aH HB2.out.symm,Nh hbw1 (by go_split_ands;assumption)⟩
  ·have HB2 : Hid (aJ P M mod N L=4):=by show _=_;rw [HB.out,I5 hl]
   have hl4 : jC N=4:=by unfold jC at hl ⊢;split <;> simp_all
   rw [hl4];clear hl hl4;go_wp2_with fail;go_ret;exact ⟨aH HB2.out.symm,hbw1⟩
 ·have hE : cK (bp P M mod)=1:=by
   have : bp P M mod=false:=by simpa using hB
   rw [this];rfl
  rw [hE];have HB : Hid (aJ P M mod N L=1):=by show _=_;rw [aJ,I5 hB]
  clear hE hB;go_wp2_with fail;go_ret;exact ⟨aH HB.out.symm,hbw1⟩
def xB (P M : Int) (mod : Lz) (N : Int) (L : Ll) (w : World) (e : Ending) (w' : World) : Prop :=
 NS w w'/\((aJ P M mod N L ≠ 0/\e = .returned (.tuple #[.pointer none,.int .i64 (aJ P M mod N L)])) \/
 (aJ P M mod N L=0/\∃b,e = .returned (.tuple #[.pointer (some ⟨b,0,none⟩),.int .i64 0])/\dT w' b (ah P M.toNat mod)))
theorem bl {P M : Int} {mod : Lz} {N : Int} {L : Ll} (h : aJ P M mod N L=0) : bp P M mod=true/\1<=N/\N<=64/\fb P M mod N L=0:=by
 unfold aJ at h;split at h
 ·rename_i h1;split at h
  ·rename_i h2;unfold jC at h2;split at h2
   ·omega
   ·exact ⟨h1,by omega,by omega,h⟩
  ·omega
 ·omega
theorem dR {P M : Int} {mod : Lz} {N : Int} {L : Ll} (h : fb P M mod N L=0) : fI P M mod N L=0/\pD (ah P M.toNat mod) L N.toNat=L:=by
 unfold fb at h;split at h
 ·rename_i h1;split at h
  ·rename_i h2;exact ⟨h1,h2⟩
  ·omega
 ·rename_i h1;exact absurd h h1
theorem fo {P M : Int} {mod : Lz} {N : Int} {L : Ll} (h : fI P M mod N L=0) : bp P M mod=true/\eW (ah P M.toNat mod).q N L=0:=by
 unfold fI at h;split at h
 ·rename_i h1;exact ⟨h1,h⟩
 ·omega
theorem oR (P M : Int) (am : OA) (mn cm : Nat) (mod : Lz) (N : Int) (a : OA) (n c : Nat) (L : Ll) (w : World) (hmod : Ints w am mn mod) (hi : ch w a n L) :
  Calls prog 67 #[.agg #[.int .i64 P,.int .i64 M,.slice am mn cm,.int .i64 N,.slice a n c]] w (xB P M mod N L w):=by
 go_enter func67,ntmps67;go_wp2_with fail;obtain ⟨W,hW⟩ : ∃W : World,W=w.alloc (.cells #[.int .i64 P,.int .i64 M,.slice am mn cm,.int .i64 N,.slice a n c] 27):=⟨_,rfl⟩
 rw [<- hW];have hbW : NS w W:=by rw [hW];exact aw _ _
 have x0 : aZ W w.heap.size [.int .i64 P,.int .i64 M,.slice am mn cm,.int .i64 N,.slice a n c]:=by rw [hW];exact Nj _ _ _ rfl
 have HX:=Z5 x0;clear hW x0;refine (fN P M am mn cm mod N a n c L W (hmod.aa hbW) (hi.aa hbW)).mono ?_;rintro e w1 ⟨rfl,hb1⟩;have hbw1:=Nh hbW hb1;by_cases hE : aJ P M mod N L=0
 ·obtain ⟨hf,_⟩:=bl hE;have HE:=Z5 hE;have Hf:=Z5 hf;rw [hE];have x1:=HX.out.aa hb1;have c0:=x1.cell 0 rfl;have c1:=x1.cell 1 rfl;have c2:=x1.cell 2 rfl;have hm1:=(hmod.aa hbW).aa hb1;clear hE x1 hf;go_wp2_with fail;refine (fG P M am mn cm mod w1 hm1).mono ?_;rintro e w2 (⟨hB,rfl,hb2⟩ | ⟨hB,b,rfl,hG,hbl,hb2⟩)
  ·rw [Hf.out] at hB;cases hB
  ·clear hB;have hg:=hG.gf;go_wp2_with fail;go_ret2;exact ⟨Nh hbw1 hb2,.inr ⟨HE.out,b,rfl,hg⟩⟩
 ·have HE:=Z5 hE;have hE' : (aJ P M mod N L != 0)=true:=by simpa using hE
  clear hE;go_wp2_with fail;go_ret2;exact ⟨hbw1,.inl ⟨HE.out,rfl⟩⟩
def gg (N : Int) (l : Lz) (k : Nat) : Bool:=decide (0<=nth l k) && decide (nth l k<N) && (k == 0 || decide (nth l (k - 1)<nth l k))
def mS (N : Int) (l : Lz) (k : Nat) : Bool:=(List.range k).all (gg N l)
def cF (N : Int) (l : Lz) : Bool:=mS N l l.length
theorem gC {N : Int} {l : Lz} {k : Nat} (h : mS N l k=true) (hk : gg N l k=true) : mS N l (k+1)=true:=by unfold mS at *;rw [Kz,LD,h];simp [hk]
theorem uk {N : Int} {l : Lz} {k n : Nat} (hk : k<n) (h : gg N l k=false) : mS N l n=false:=by unfold mS;rw [Kq];exact ⟨k,List.mem_range.2 hk,by simp [h]⟩
theorem fC {N : Int} {l : Lz} (h : cF N l=true) {k : Nat} (hk : k<l.length) : 0<=nth l k/\nth l k<N/\(0<k->nth l (k - 1)<nth l k):=by unfold cF mS at h;rw [JO] at h;have:=h k (List.mem_range.2 hk);unfold gg at this;simp only [Jo,Mj,JH,beq_iff_eq] at this;exact ⟨this.1.1,this.1.2,λh0=>by rcases this.2 with h1 | h1;omega;exact h1⟩
def iF (N : Int) (S : Ll) : Int:=if S.all (cF N) then 0 else 6
theorem DZ (P M : Int) (am : OA) (mn cm : Nat) (N : Int) (a : OA) (n c : Nat) (sa : OA) (ns cs : Nat) (S : Ll) (w : World) (hi : ch w sa ns S) :
  Calls prog 221 #[.agg #[.int .i64 P,.int .i64 M,.slice am mn cm,.int .i64 N,.slice a n c],.slice sa ns cs] w λe w'=>e = .returned (.int .i64 (iF N S))/\NS w w':=by
 have Hlen:=Z5 hi.len;have hpl:=hi.pl;have hmax:=hi.max;unfold maxLen at hmax;go_enter func221,ntmps221;go_wp2_with fail;obtain ⟨W,hW⟩ : ∃W : World,W=w.alloc (.cells #[.int .i64 P,.int .i64 M,.slice am mn cm,.int .i64 N,.slice a n c] 27):=⟨_,rfl⟩
 rw [<- hW];have hbW : NS w W:=by rw [hW];exact aw _ _
 have c3 : W.cell? ⟨w.heap.size,3,none⟩=some (.int .i64 N):=by rw [hW];exact aG _ _ _ rfl 3
 have hiW:=hi.aa hbW;clear hW;go_loop [11] (λiv=>∃k : Nat,k<=ns/\iv = .int .i64 k/\Hid ((S.take k).all (cF N)=true)) (λiv=>ns - (intOf iv).toNat);case atStart=>exact ⟨0,I7 _,rfl,by show _=_;simp⟩
 case round =>
  obtain ⟨k,hk,rfl,hall⟩:=hrel
  by_cases hlt : k<ns
  ·obtain ⟨ra,rn,rc,hcell,hrow⟩:=hiW.cell k hlt
   have hkS : k<S.length:=by rw [Hlen.out];exact hlt
   have Hrl:=Z5 hrow.len
   have hpr:=hrow.pl
   have hmr:=hrow.max
   unfold maxLen at hmr
   have Hng : Hid (an S k=S[k]):=aE hkS
   generalize an S k=l at *
   go_wp2_with fail
   go_loop [17] (λiv=>∃j : Nat,j<=rn/\iv = .int .i64 j/\Hid (mS N l j=true)) (λiv=>rn - (intOf iv).toNat)
   case atStart=>exact ⟨0,I7 _,rfl,by show _=_;simp [mS]⟩
   case round =>
    obtain ⟨j,hj,rfl,hok⟩:=hrel
    by_cases hlt2 : j<rn
    ·have cj:=hrow.cell j hlt2
     have hbad : gg N l j=false->iF N S=6:=λhb=>by
      rw [iF,I5];have h1 : cF N S[k]=false:=by rw [<- Hng.out];exact uk (by rw [Hrl.out];exact hlt2) hb
      rw [db hkS h1];simp
     have Hbad:=Z5 hbad
     clear hbad
     by_cases h0 : 0<=nth l j
     ·by_cases h1 : nth l j<N
      ·have d1 : decide (nth l j<0)=false:=by simp;omega
       have d2 : decide (N<=nth l j)=false:=by simp;omega
       by_cases hj0 : j=0
       ·subst hj0
        have Hgood : Hid (gg N l 0=true):=by show _=_;unfold gg;simp [h0,h1]
        rw [MQ] at cj
        go_wp2_with fail
        go_round
        case rel=>exact ⟨1,by omega,by go_num,gC hok.out Hgood.out⟩
        case measure=>simp [intOf] <;> omega
       ·have cp:=hrow.cell (j - 1) (by omega)
        have e1 : ((j : Int) - 1).toNat=j - 1:=by omega
        have d3 : decide (0<(j : Int))=true:=by simp;omega
        have d4 : (0 : Int)<=(j : Int) - 1:=by omega
        have d5 : (1 : Int)<=(j : Int):=by omega
        have d6 : (j : Int) - 1<rn:=by omega
        by_cases h2 : nth l (j - 1)<nth l j
        ·have Hgood : Hid (gg N l j=true):=by show _=_;unfold gg;simp [h0,h1,h2]
         have h2' : decide (nth l j<=nth l (j - 1))=false:=by simp;omega
         clear hj0 e1
         go_wp2_with fail
         go_round
         case rel=>exact ⟨j+1,by omega,by go_num,gC hok.out Hgood.out⟩
         case measure=>simp [intOf] <;> omega
        ·have Hb : Hid (iF N S=6):=Hbad.out (by unfold gg;simp [h2,hj0])
         have h2' : decide (nth l j<=nth l (j - 1))=true:=by simp;omega
         clear hj0 e1
         go_wp2_with fail
         go_ret
         exact ⟨aH Hb.out.symm,hbW⟩
      ·have Hb : Hid (iF N S=6):=Hbad.out (by unfold gg;simp [h1])
       have d1 : decide (nth l j<0)=false:=by simp;omega
       have d2 : decide (N<=nth l j)=true:=by simp;omega
       go_wp2_with fail
       go_ret
       exact ⟨aH Hb.out.symm,hbW⟩
     ·have Hb : Hid (iF N S=6):=Hbad.out (by unfold gg;simp [h0])
      have d1 : decide (nth l j<0)=true:=by simp;omega
      go_wp2_with fail
      go_ret
      exact ⟨aH Hb.out.symm,hbW⟩
    ·obtain rfl : j=rn:=by omega
     have Hg : Hid (cF N S[k]=true):=by show _=_;rw [<- Hng.out,cF,Hrl.out];exact hok.out
     go_wp2_with fail
     go_round
     case rel=>exact ⟨k+1,by omega,by go_num,cX hkS hall.out Hg.out⟩
     case measure=>simp [intOf] <;> omega
  ·obtain rfl : k=ns:=by omega
   have Hg : Hid (iF N S=0):=by have:=hall.out;rw [I8 (by rw [Hlen.out];exact IZ _)] at this;show _=_;rw [iF,I6 this]
   go_wp2_with fail
   go_ret
   exact ⟨aH Hg.out.symm,hbW⟩
def bs (L : Ll) (i : Nat) : Lz:=L.map λr=>nth r i
theorem cQ (L : Ll) (i : Nat) : (bs L i).length=L.length:=by simp [bs]
theorem dX (L : Ll) (i k : Nat) (hk : k<L.length) : nth (bs L i) k=nth (an L k) i:=by rw [ai (by rw [cQ];exact hk),aE hk];simp [bs]
theorem zp (P M : Int) (am : OA) (mn cm : Nat) (N : Int) (a : OA) (n c : Nat) (L : Ll) (i : Nat) (w : World) (hi : ch w a n L) (hL : ∀r ∈ L,i<r.length) (hn : n<=1000000) :
  Calls prog 133 #[.agg #[.int .i64 P,.int .i64 M,.slice am mn cm,.int .i64 N,.slice a n c],.int .i64 i] w (dh w (bs L i)):=by
 have Hlen:=Z5 hi.len;have hpl:=hi.pl;have HL:=Z5 hL;clear hL;go_enter func133,ntmps133;go_wp2_with (at_make;refine cC rfl _ _ 22 3 rfl (.int .i64 0) 8 underlying22 ba rfl n rfl rfl (by omega) (by unfold maxLen;omega) ?_;intro a1 w1 hown hbel hge hlt;have c4 : w1.cell? ⟨w.heap.size,4,none⟩=some (.slice a n c):=aB hbel (aG _ _ _ rfl 4));have hbw : NS w w1:=Nh (aw w _) hbel;have hs1 : w.heap.size+1<=aj a1:=by simpa using hge
 have hown1 : w1.ownsRow w.heap.size 3 1 (.slice a1 n n) n (List.replicate n (.int .i64 0)):=aU hown (by simp);clear hown hbel hge;go_loopw [15] (λiv wr=>∃k : Nat,k<=n/\iv = .int .i64 k /\
   wr.ownsRow w.heap.size 3 1 (.slice a1 n n) n ((cU ((bs L i).take k) k n).map (Value.int .i64))/\NS w wr)
  (λi _=>n - (intOf i).toNat)
 case atStart=>exact ⟨0,I7 _,rfl,by simpa [cU] using hown1,hbw⟩
 case round =>
  obtain ⟨k,hk,rfl,hown,hbel⟩:=hrel
  obtain ⟨hints,hmine⟩:=Ni hown
  have hpl1:=hints.pl
  by_cases hlt : k<n
  ·obtain ⟨ra,rn,rc,hcell,hrow⟩:=(hi.aa hbel).cell k hlt
   have hkL : k<L.length:=by rw [Hlen.out];exact hlt
   have hri : i<rn:=by rw [<- hrow.len,aE hkL];exact HL.out _ (JA hkL)
   have ci:=hrow.cell i hri
   have hpr:=hrow.pl
   have hf:=(hmine (by omega)).2 k hlt
   have hc2:=hints.cell k hlt
   have hB:=(hmine (by omega)).1
   have Hv:=Z5 (dX L i k hkL)
   go_wp2_with fail
   go_roundw
   case rel =>
    refine ⟨k+1,by omega,by go_num,?_,hbel.setCell hB _⟩
    have h:=bT hown k hlt (.int .i64 (nth (an L k) i))
    rw [<- Jq,eO _ _ _ _ (by rw [Jy,cQ];omega) hlt] at h
    rw [Ja (by rw [cQ];omega),<- ai,Hv.out]
    exact h
   case measure=>simp [intOf] <;> omega
  ·obtain rfl : k=n:=by omega
   have hl : (bs L i).length=k:=by rw [cQ];exact Hlen.out
   rw [fy,I8 (by omega)] at hown
   have Hl:=Z5 hl
   clear hl
   go_wp2_with fail
   go_ret
   exact ⟨a1,k,by rw [Hl.out];rfl,by rw [Hl.out];exact hown,hbel⟩
def fY : Lz->Nat
 | []=>0
 | x :: l=>if x=0 then fY l+1 else 0
theorem Dj : ∀l,fY l<=l.length
 | []=>IZ _
 | x :: l=>by have:=Dj l;unfold fY;split <;> simp <;> omega
theorem uY : ∀(l : Lz) (k : Nat),k<l.length->(∀j,j<k->nth l j=0)->nth l k ≠ 0->fY l=k
 | [],k,h,_,_=>by simp at h
 | x :: l,0,_,_,h=>by unfold fY;rw [I5 (by simpa [nth] using h)]
 | x :: l,k+1,h,h0,h1=>by
  have hx : x=0:=by simpa [nth] using h0 0 (by omega)
  unfold fY;rw [I6 hx,uY l k (by simpa using h) (λj hj=>by simpa [nth] using h0 (j+1) (by omega)) (by simpa [nth] using h1)]
theorem nh : ∀(l : Lz),(∀j,j<l.length->nth l j=0)->fY l=l.length
 | [],_=>rfl
 | x :: l,h=>by
  have hx : x=0:=by simpa [nth] using h 0 (by simp)
  unfold fY;rw [I6 hx,nh l (λj hj=>by simpa [nth] using h (j+1) (by simpa using hj))];rfl
theorem iY : ∀(l : Lz),fY l<l.length->nth l (fY l) ≠ 0
 | [],h=>by simp at h
 | x :: l,h=>by
  unfold fY at h ⊢;split
  ·rename_i hx;rw [I6 hx] at h;have:=iY l (by simpa using h);simpa [nth] using this
  ·rename_i hx;simpa [nth] using hx
theorem jS : ∀(l : Lz) (j : Nat),j<fY l->nth l j=0
 | [],j,h=>by simp [fY] at h
 | x :: l,j,h=>by
  unfold fY at h;split at h
  ·rename_i hx;match j with
   | 0=>simpa [nth] using hx
   | j+1=>have:=jS l j (by omega);simpa [nth] using this
  ·omega
theorem tM (x : Int) (w : World) : Calls prog 192 #[.int .i64 x] w λe w'=>e = .returned (.bool (x != 0))/\w=w':=by go_enter func192,ntmps192;go_wp2;go_ret;exact ⟨rfl,rfl⟩
def iD (l : Lz) : Int:=if fY l<l.length then fY l else -1
theorem xy (a : OA) (n c : Nat) (l : Lz) (w : World) (hi : Ints w a n l) :
  Calls prog 97 #[.slice a n c,.func (.func 192) #[] #[]] w λe w'=>e = .returned (.int .i64 (iD l))/\w=w':=by
 have Hlen:=Z5 hi.len;have hpl:=hi.pl;have hmax:=hi.max;unfold maxLen at hmax;go_enter func97,ntmps97;go_wp2_with fail;go_loop [8] (λiv=>∃k : Nat,k<=n/\iv = .int .i64 k/\Hid (∀j,j<k->nth l j=0)) (λiv=>n - (intOf iv).toNat);case atStart=>exact ⟨0,I7 _,rfl,λj hj=>by omega⟩
 case round =>
  obtain ⟨k,hk,rfl,hall⟩:=hrel
  by_cases hlt : k<n
  ·have ck:=hi.cell k hlt
   by_cases hz : nth l k=0
   ·have hz' : (nth l k != 0)=false:=by simpa using hz
    have Hz:=Z5 hz
    clear hz
    go_wp2_with fail
    refine (tM _ _).mono ?_
    rintro e w' ⟨rfl,rfl⟩
    go_wp2_with fail
    go_round
    case rel=>exact ⟨k+1,by omega,by go_num,λj hj=>by
     rcases JV j k with h | h
     ·exact hall.out j h
     ·rw [show j=k by omega];exact Hz.out⟩
    case measure=>simp [intOf] <;> omega
   ·have hz' : (nth l k != 0)=true:=by simpa using hz
    have Hf : Hid (iD l=k):=by show _=_;have:=uY l k (by rw [Hlen.out];exact hlt) hall.out hz;rw [iD,this,I6 (by rw [Hlen.out];exact hlt)]
    clear hz
    go_wp2_with fail
    refine (tM _ _).mono ?_
    rintro e w' ⟨rfl,rfl⟩
    go_wp2_with fail
    go_ret
    exact ⟨aH Hf.out.symm,rfl⟩
  ·obtain rfl : k=n:=by omega
   have Hf : Hid (iD l = -1):=by show _=_;have:=nh l (by rw [Hlen.out];exact hall.out);rw [iD,this,I5 (by omega)]
   go_wp2_with fail
   go_ret
   exact ⟨aH Hf.out.symm,rfl⟩
section
def dF (O : aS) (v : Lz) (x : Int) (r : Lz) : Lz:=List.zipWith (λp y=>O.add p (O.neg (O.mul x y))) v r
theorem dY (O : aS) (v : Lz) (x : Int) (r : Lz) (h : r.length=v.length) : (dF O v x r).length=v.length:=by simp [dF,h]
theorem eF (O : aS) (v : Lz) (x : Int) (r : Lz) (i : Nat) (h : r.length=v.length) (hi : i<v.length) : nth (dF O v x r) i=O.add (nth v i) (O.neg (O.mul x (nth r i))):=by rw [ai (show i<(dF O v x r).length by rw [dY _ _ _ _ h];exact hi),ai (show i<r.length by omega),ai hi];simp [dF]
def dG (O : aS) (u : Lz) (p : Int) (r : Lz) : Lz:=if nth u p.toNat=0 then u else dF O u (nth u p.toNat) r
def bu (O : aS) (L : Ll) (Q : Lz) (v : Lz) : Nat->Lz
 | 0=>v
 | k+1=>dG O (bu O L Q v k) (nth Q k) (an L k)
structure BS where
 rows : Ll
 place : Lz
def BS.red (O : aS) (s : BS) (v : Lz) : Lz:=bu O s.rows s.place v s.rows.length
def BS.dz (O : aS) (s : BS) (v : Lz) : Bool:=decide (fY (s.red O v)<(s.red O v).length)
def BS.next (O : aS) (s : BS) (v : Lz) : BS :=
 if s.dz O v=true then ⟨s.rows ++ [(s.red O v).map (O.mul (O.inv (nth (s.red O v) (fY (s.red O v)))))],s.place ++ [(fY (s.red O v) : Int)]⟩ else s
structure BS.Ok (El : Int->Prop) (n : Nat) (s : BS) : Prop where
 rws : cw El n s.rows
 len : s.place.length=s.rows.length
 plc : ∀i,i<s.rows.length->0<=nth s.place i/\nth s.place i<n
theorem sS {O : aS} {El : Int->Prop} (hO : vO O El) {v r : Lz} {x : Int} (hv : ∀y ∈ v,El y) (hr : ∀y ∈ r,El y) (hx : El x) : ∀y ∈ dF O v x r,El y:=by intro y hy;unfold dF at hy;rw [LB] at hy;obtain ⟨i,hi,rfl⟩:=hy;rw [LC];exact hO.add _ _ (hv _ (JA _)) (hO.neg _ (hO.mul _ _ hx (hr _ (JA _))))
theorem kT {O : aS} {El : Int->Prop} (hO : vO O El) {n : Nat} {L : Ll} {Q v : Lz} (hL : cw El n L) (hQ : ∀i,i<L.length->0<=nth Q i/\nth Q i<n)
  (hv : v.length=n/\∀y ∈ v,El y) : ∀k,k<=L.length->(bu O L Q v k).length=n/\∀y ∈ bu O L Q v k,El y
 | 0,_=>hv
 | k+1,hk=>by
  have ih:=kT hO hL hQ hv k (by omega);have hr:=hL.row (i:=k) (by omega);have hq:=hQ k (by omega);rw [bu,dG];split
  ·exact ih
  ·exact ⟨by rw [dY _ _ _ _ (by omega)];exact ih.1,sS hO ih.2 hr.2 (ih.2 _ (aK (by omega)))⟩
theorem BS.Ok.next {O : aS} {El : Int->Prop} (hO : vO O El) {n : Nat} {s : BS} (h : s.Ok El n) {v : Lz} (hv : v.length=n/\∀y ∈ v,El y) : (s.next O v).Ok El n:=by
 unfold BS.next;split
 ·rename_i ht;have hu:=kT hO h.rws h.plc hv s.rows.length (IZ _);have hf : fY (s.red O v)<(s.red O v).length:=by simpa [BS.dz] using ht
  have hne:=iY _ hf;have hul : (s.red O v).length=n:=hu.1;have hue : ∀y ∈ s.red O v,El y:=hu.2;refine ⟨λr hr=>?_,by simp [h.len],λi hi=>?_⟩
  ·rcases List.mem_append.1 hr with h1 | h1
   ·exact h.rws r h1
   ·rw [List.mem_singleton.1 h1];refine ⟨by rw [Jl];exact hul,λy hy=>?_⟩;obtain ⟨z,hz,rfl⟩:=List.mem_map.1 hy;exact hO.mul _ _ (hO.inv _ (hue _ (aK hf)) hne) (hue z hz)
  ·simp only [Jh,Js] at hi;by_cases h1 : i<s.rows.length
   ·have:=h.plc i h1;have e : nth (s.place ++ [(fY (s.red O v) : Int)]) i=nth s.place i:=by simp only [nth,Jc];rw [JF (by rw [h.len];exact h1)]
    rw [e];exact this
   ·obtain rfl : i=s.rows.length:=by omega
    have e : nth (s.place ++ [(fY (s.red O v) : Int)]) s.rows.length=fY (s.red O v):=by simp only [nth,Jc];rw [<- h.len];simp
    rw [e];omega
 ·exact h
structure mL (w : World) (B bb b : Nat) (ar : OA) (cr : Nat) (R : La) (ap : OA) (cp : Nat) (s : BS) : Prop where
 bB : B<=bb
 c0 : w.cell? ⟨bb,0,none⟩=some (.pointer (some ⟨b,0,none⟩))
 c1 : w.cell? ⟨bb,1,none⟩=some (.slice ar s.rows.length cr)
 c2 : w.cell? ⟨bb,2,none⟩=some (.slice ap s.rows.length cp)
 fr : ∀i,w.frozen? ⟨bb,i,none⟩=false
 om : aP w B ar s.rows.length cr R s.rows
 pl : w.ownsRow B 3 1 (.slice ap s.rows.length cp) s.rows.length (s.place.map (Value.int .i64))
 d1 : ¬ bS ar R bb
 d2 : cJ ap bb
 d3 : ap ≠ none->¬ bS ar R (aj ap)
def qH (bb : Nat) (ar : OA) (R : La) (ap : OA) (x : Nat) : Prop:=x=bb\/bS ar R x\/(ap ≠ none/\x=aj ap)
theorem zX {w w' : World} {B : Nat} {e : TypeId} {a : OA} {c n : Nat} {xs : List Value} (h : w.ownsRow B e 1 (.slice a n c) n xs) (hb : a ≠ none->w'.heap[aj a]? = w.heap[aj a]?) : w'.ownsRow B e 1 (.slice a n c) n xs:=by
 by_cases ha : a=none
 ·subst ha;refine ⟨h.1,?_⟩;rcases h.2 with h2 | ⟨g,cap,cur,hv,_⟩
  ·exact .inl h2
  ·cases hv
 ·exact iV h (hb ha)
namespace mL
variable {w w' : World} {B bb b : Nat} {ar : OA} {cr : Nat} {R : La} {ap : OA} {cp : Nat} {s : BS}
theorem lt (h : mL w B bb b ar cr R ap cp s) (x : Nat) (hx : qH bb ar R ap x) : B<=x/\x<w.heap.size:=by
 rcases hx with rfl | hx | ⟨h1,rfl⟩
 ·exact ⟨h.bB,Jf w _ h.c0⟩
 ·exact h.om.lt x hx
 ·exact aM h.pl h1
theorem bj (h : mL w B bb b ar cr R ap cp s) (hb : ∀x,qH bb ar R ap x->w'.heap[x]? = w.heap[x]?) : mL w' B bb b ar cr R ap cp s:=by
 have hbb:=hb bb (.inl rfl);exact ⟨h.bB,(JG (w:=w) (a:=⟨bb,0,none⟩) hbb).trans h.c0,(JG (w:=w) (a:=⟨bb,1,none⟩) hbb).trans h.c1,(JG (w:=w) (a:=⟨bb,2,none⟩) hbb).trans h.c2,
  λi=>(JJ (w:=w) (a:=⟨bb,i,none⟩) hbb).trans (h.fr i),h.om.bj λx hx=>hb x (.inr (.inl hx)),zX h.pl λha=>hb _ (.inr (.inr ⟨ha,rfl⟩)),h.d1,h.d2,h.d3⟩
theorem aa (h : mL w B bb b ar cr R ap cp s) (hb : NS w w') : mL w' B bb b ar cr R ap cp s:=h.bj λx hx=>hb.block x (h.lt x hx).2
theorem only (h : mL w B bb b ar cr R ap cp s) {av : OA} (ho : cP av w w') (hav : av ≠ none->¬ qH bb ar R ap (aj av)) : mL w' B bb b ar cr R ap cp s :=
 h.bj λx hx=>ho.block x (h.lt x hx).2 λ⟨h1,h2⟩=>hav h1 (h2 ▸ hx)
end mL
theorem aP.push {w w' : World} {B : Nat} {a : OA} {n c : Nat} {R : La} {L : Ll} (h : aP w B a n c R L) {r : OA} {rc : Nat} {l : Lz}
  (hr : w.ownsRow B 3 1 (.slice r l.length rc) l.length (l.map (Value.int .i64))) (hra : r ≠ none->¬ bS a R (aj r))
  {a' : OA} {c' : Nat} (hown : w'.ownsRow B 22 1 (.slice a' (n+1) c') (n+1) (List.zipWith eY R L ++ [.slice r l.length rc])) (hg : w.grownBy w' (Value.slice a n c).ownBlock)
  (hap : ∀b,b<w.heap.size->cJ a b->cJ a' b) : aP w' B a' (n+1) c' (R ++ [(r,rc)]) (L ++ [l]):=by
 have hn' : a' ≠ none:=by
  intro e;have:=(Nx hown)
  obtain ⟨x,y,hv,hp⟩:=this;cases hv
  have:=hp (by omega);rw [e] at this;cases this
 have nthL : ∀i,an (L ++ [l]) i=if i<n then an L i else if i=n then l else []:=by
  intro i;simp only [an,Jc];by_cases h1 : i<n
  ·rw [I6 h1,JF (by rw [h.ll];exact h1)]
  ·rw [I5 h1];by_cases h2 : i=n
   ·subst h2;rw [I6 rfl,<- h.ll];simp
   ·rw [I5 h2,JZ (by simp [h.ll];omega)];rfl
 have nthAA : ∀i,aO (R ++ [(r,rc)]) i=if i<n then aO R i else if i=n then (r,rc) else (none,0):=by
  intro i;simp only [aO,Jc];by_cases h1 : i<n
  ·rw [I6 h1,JF (by rw [h.rl];exact h1)]
  ·rw [I5 h1];by_cases h2 : i=n
   ·subst h2;rw [I6 rfl,<- h.rl];simp
   ·rw [I5 h2,JZ (by simp [h.rl];omega)];rfl
 have rowKeep : ∀ {x : OA} {cx m : Nat} {xs : List Value},w.ownsRow B 3 1 (.slice x m cx) m xs->(x ≠ none->cJ a (aj x))->w'.ownsRow B 3 1 (.slice x m cx) m xs:=by intro x cx m xs ho h2;exact zX ho λhx=>hg.block _ (aM ho hx).2 λe=>(h2 hx).own n c e.symm
 have rA : r ≠ none->cJ a (aj r):=λhr0=>by
  by_cases ha : a=none
  ·exact .inl ha
  ·exact .inr λe=>hra hr0 (.inl ⟨ha,e.symm⟩)
 have oA : ∀i,i<n->(aO R i).1 ≠ none->cJ a (aj (aO R i).1):=λi hi hx=>by
  rcases h.sB i hi with h2 | h2
  ·exact absurd h2 hx
  ·exact .inr λe=>h2 e.symm
 have toA : ∀ {x : OA} {cx m : Nat} {xs : List Value},w.ownsRow B 3 1 (.slice x m cx) m xs->(x ≠ none->cJ a (aj x))->cJ x (aj a'):=by
  intro x cx m xs ho h2;by_cases hx : x=none
  ·exact .inl hx
  ·rcases hap _ (aM ho hx).2 (h2 hx) with h3 | h3
   ·exact absurd h3 hn'
   ·exact .inr λe=>h3 e.symm
 have ezip : List.zipWith eY (R ++ [(r,rc)]) (L ++ [l])=List.zipWith eY R L ++ [.slice r l.length rc]:=by rw [Mz (by rw [h.rl,h.ll])];rfl
 refine ⟨by simp [h.rl],by simp [h.ll],by rw [ezip];exact hown,λi hi=>?_,λi hi=>?_,λi j hi hj hij=>?_⟩
 ·rw [nthL,nthAA];by_cases h1 : i<n
  ·simp only [I6 h1];exact rowKeep (h.row i h1) (oA i h1)
  ·obtain rfl : i=n:=by omega
   simp only [I5 h1,if_true];exact rowKeep hr rA
 ·rw [nthAA];by_cases h1 : i<n
  ·simp only [I6 h1];exact toA (h.row i h1) (oA i h1)
  ·obtain rfl : i=n:=by omega
   simp only [I5 h1,if_true];exact toA hr rA
 ·rw [nthAA,nthAA];by_cases h1 : i<n
  ·by_cases h2 : j<n
   ·simp only [I6 h1,I6 h2];exact h.sep i j h1 h2 hij
   ·obtain rfl : j=n:=by omega
    simp only [I6 h1,I5 h2,if_true];by_cases hr0 : r=none
    ·exact .inr (.inl hr0)
    ·by_cases hx : (aO R i).1=none
     ·exact .inl hx
     ·exact .inr (.inr λe=>hra hr0 (by rw [e];exact aP.lZ (by rw [h.rl];exact h1) hx))
  ·obtain rfl : i=n:=by omega
   have h2 : j<i:=by omega
   simp only [I5 h1,I6 h2,if_true];by_cases hr0 : r=none
   ·exact .inl hr0
   ·by_cases hx : (aO R j).1=none
    ·exact .inr (.inl hx)
    ·exact .inr (.inr λe=>hra hr0 (by rw [<- e];exact aP.lZ (by rw [h.rl];exact h2) hx))
theorem bS.push {w : World} {B : Nat} {a : OA} {n c : Nat} {R : La} {L : Ll} (h : aP w B a n c R L) {r : OA} {rc : Nat} {a' : OA}
  (hap : ∀b,b<w.heap.size->cJ a b->cJ a' b) {x : Nat} (hx : bS a' (R ++ [(r,rc)]) x) : bS a R x\/(r ≠ none/\x=aj r)\/w.heap.size<=x:=by
 rcases hx with ⟨h1,rfl⟩ | ⟨i,hi,h1,rfl⟩
 ·by_cases hlt : aj a'<w.heap.size
  ·by_cases h2 : cJ a (aj a')
   ·rcases hap _ hlt h2 with h3 | h3
    ·exact absurd h3 h1
    ·exact absurd rfl h3
   ·left;left;refine ⟨λe=>h2 (.inl e),?_⟩;apply JE;intro e;exact h2 (.inr λe2=>e e2.symm)
  ·exact .inr (.inr (by omega))
 ·simp only [Jh,Js] at hi;by_cases h2 : i<R.length
  ·have e : aO (R ++ [(r,rc)]) i=aO R i:=by simp only [aO,Jc];rw [JF h2]
   rw [e] at h1 ⊢;exact .inl (aP.lZ h2 h1)
  ·obtain rfl : i=R.length:=by omega
   have e : aO (R ++ [(r,rc)]) R.length=(r,rc):=by simp [aO]
   rw [e] at h1 ⊢;exact .inr (.inl ⟨h1,rfl⟩)
namespace mL
variable {V w4 w5 X w6 : World} {B bb b : Nat} {ar : OA} {cr : Nat} {R : La} {ap : OA} {cp : Nat} {s : BS}
theorem CY {a4 a5 : OA} {c4 c5 k : Nat} {N : Lz} {o : Obj} (h : mL V B bb b ar cr R ap cp s) (hk : s.rows.length=k) (hVB : B<=V.heap.size) (hb4 : NS V w4)
  (hown4 : w4.ownsRow V.heap.size 3 1 (.slice a4 N.length c4) N.length (N.map (Value.int .i64)))
  (hown5 : w5.ownsRow B 22 1 (.slice a5 (k+1) c5) (k+1) (List.zipWith eY R s.rows ++ [.slice a4 N.length c4])) (hgr5 : (w4.alloc o).grownBy w5 (Value.slice ar k cr).ownBlock)
  (hap5 : ∀x,x<(w4.alloc o).heap.size->cJ ar x->cJ a5 x) (p1 : ∃v,w5.cell? ⟨bb,1,none⟩=some v) :
  ∃ar' cr' R',(w5.setCell ⟨bb,1,none⟩ (.slice a5 (k+1) c5)).cell? ⟨bb,1,none⟩=some (.slice ar' (k+1) cr')/\aP (w5.setCell ⟨bb,1,none⟩ (.slice a5 (k+1) c5)) B ar' (k+1) cr' R' (s.rows ++ [N]) /\
   aA V (w5.setCell ⟨bb,1,none⟩ (.slice a5 (k+1) c5)) (λx=>x=bb\/bS ar R x) (λx=>x=bb\/bS ar' R' x)/\¬ bS ar' R' bb /\
   (∀i v,i ≠ 1->V.cell? ⟨bb,i,none⟩=some v->(w5.setCell ⟨bb,1,none⟩ (.slice a5 (k+1) c5)).cell? ⟨bb,i,none⟩=some v)/\∀i,(w5.setCell ⟨bb,1,none⟩ (.slice a5 (k+1) c5)).frozen? ⟨bb,i,none⟩=false:=by
 have hbo : NS V (w4.alloc o):=Nh hb4 (aw _ _);have hO4:=h.om.aa hbo;rw [hk] at hO4;have hr : (w4.alloc o).ownsRow B 3 1 (.slice a4 N.length c4) N.length (N.map (Value.int .i64)):=aU (aX hown4 (aw _ _)) hVB;have hra : a4 ≠ none->¬ bS ar R (aj a4):=λh0 hI=>by have h1:=(aM hown4 h0).1;have h2:=(h.om.lt _ hI).2;omega
 have hP:=aP.push hO4 hr hra hown5 hgr5 hap5;have hbb:=h.lt bb (.inl rfl);have haptb : cJ ar bb:=by
  by_cases ha : ar=none
  ·exact .inl ha
  ·exact .inr λe=>h.d1 (.inl ⟨ha,e.symm⟩)
 have hsz:=hbo.size;have hpush:=λ{x : Nat} (hx : bS a5 (R ++ [(a4,c4)]) x)=>bS.push hO4 hap5 hx;have hd : ¬ bS a5 (R ++ [(a4,c4)]) bb:=λhI=>by
  rcases hpush hI with h1 | ⟨h1,h2⟩ | h1
  ·exact h.d1 h1
  ·have:=(aM hown4 h1).1;omega
  ·omega
 obtain ⟨v,p1⟩:=p1;refine ⟨a5,c5,R ++ [(a4,c4)],Jk _ _ _ p1,hP.bj λx hx=>Jr _ _ _ _ λe=>hd (by rw [show bb=x from e.symm];exact hx),?_,hd,λi v hi hv=>?_,λi=>?_⟩;rotate_left
 ·rw [Jw _ _ _ _ (by simp <;> omega)];exact bC hgr5 (aB hbo hv) haptb
 ·rw [J8];exact (JJ (w:=w4.alloc o) (a:=⟨bb,i,none⟩) (hgr5.block bb (by omega) λe=>haptb.own k cr e.symm)).trans (jn hbo hbb.2 (h.fr i))
 have hb0 : Below 0 w5 (w5.setCell ⟨bb,1,none⟩ (.slice a5 (k+1) c5)):=(I1 0 w5).setCell (I7 _) _;refine ⟨hb0.os.trans (hgr5.os.trans hbo.os),hb0.tape.trans (hgr5.tape.trans hbo.tape),hb0.output.trans (hgr5.output.trans hbo.output),Ji hbo.size (Ji hgr5.size hb0.size),λx hx hI=>?_,λx hx=>?_⟩
 ·rw [Jr _ _ _ _ λe=>hI (.inl e)];rw [hgr5.block x (by omega) λe=>?_]
  ·exact hbo.block x hx
  ·apply hI;right;left;cases ar with
   | none=>simp [Value.ownBlock] at e
   | some y=>simp [Value.ownBlock] at e;exact ⟨by simp,by rw [e];rfl⟩
 ·rcases hx with rfl | hx
  ·exact .inl (.inl rfl)
  ·rcases hpush hx with h1 | ⟨h1,h2⟩ | h1
   ·exact .inl (.inr h1)
   ·exact .inr (by have:=(aM hown4 h1).1;omega)
   ·exact .inr (by omega)
theorem Dv {a6 : OA} {c6 k : Nat} {f : Int} {L : Ll} {Q : Lz} {o : Obj} (hB : B<=bb) (x0 : X.cell? ⟨bb,0,none⟩=some (.pointer (some ⟨b,0,none⟩))) (x1 : X.cell? ⟨bb,1,none⟩=some (.slice ar (k+1) cr))
  (x2 : ∃v,X.cell? ⟨bb,2,none⟩=some v)
  (xf : ∀i,X.frozen? ⟨bb,i,none⟩=false) (hO : aP X B ar (k+1) cr R L) (hp : X.ownsRow B 3 1 (.slice ap k cp) k (Q.map (Value.int .i64))) (d1 : ¬ bS ar R bb) (d2 : cJ ap bb) (d3 : ap ≠ none->¬ bS ar R (aj ap))
  (hown6 : w6.ownsRow B 3 1 (.slice a6 (k+1) c6) (k+1) (Q.map (Value.int .i64) ++ [.int .i64 f])) (hgr6 : (X.alloc o).grownBy w6 (Value.slice ap k cp).ownBlock)
  (hap6 : ∀x,x<(X.alloc o).heap.size->cJ ap x->cJ a6 x) :
  mL (w6.setCell ⟨bb,2,none⟩ (.slice a6 (k+1) c6)) B bb b ar cr R a6 c6 ⟨L,Q ++ [f]⟩ /\
   aA X (w6.setCell ⟨bb,2,none⟩ (.slice a6 (k+1) c6)) (qH bb ar R ap) (qH bb ar R a6):=by
 have hbb : bb<X.heap.size:=Jf X _ x0;have hbo : NS X (X.alloc o):=aw _ _;have hsz:=hbo.size;have hne : a6 ≠ none:=λe=>by
  obtain ⟨y,z,hv,hp⟩:=Nx hown6;cases hv
  have:=hp (by omega);rw [e] at this;cases this
 have aptOf : ∀ {x : Nat},cJ ap x->x<X.heap.size->x ≠ aj a6:=λh2 hx e=>by
  rcases hap6 _ (by omega) h2 with h3 | h3
  ·exact hne h3
  ·exact h3 e.symm
 have hbb6:=aptOf d2 hbb;have EY : ∀x,x<X.heap.size->x ≠ bb->cJ ap x->(w6.setCell ⟨bb,2,none⟩ (.slice a6 (k+1) c6)).heap[x]? = X.heap[x]?:=λx hx h1 h2=>by rw [Jr _ _ _ _ h1,hgr6.block x (by omega) λe=>h2.own k cp e.symm];exact hbo.block x hx
 have aptO : ∀x,bS ar R x->cJ ap x:=λx hx=>by
  by_cases h0 : ap=none
  ·exact .inl h0
  ·exact .inr λe=>d3 h0 (e ▸ hx)
 have c6k : ∀i v,X.cell? ⟨bb,i,none⟩=some v->w6.cell? ⟨bb,i,none⟩=some v:=λi v hv=>bC hgr6 (aY hv _) d2;have hLl : L.length=k+1:=hO.ll;have hQl : Q.length=k:=by simpa using iP hp
 have hO6 : aP (w6.setCell ⟨bb,2,none⟩ (.slice a6 (k+1) c6)) B ar (k+1) cr R L:=hO.bj λx hx=>EY x (hO.lt x hx).2 (λe=>d1 (e ▸ hx)) (aptO x hx);obtain ⟨v2,x2⟩:=x2;refine ⟨⟨hB,?_,?_,?_,λi=>?_,?_,?_,d1,.inr λe=>hbb6 e.symm,λ_ hI=>?_⟩,?_⟩
 ·rw [Jw _ _ _ _ (by simp)];exact c6k _ _ x0
 ·rw [Jw _ _ _ _ (by simp)];simpa [hLl] using c6k _ _ x1
 ·simp only [hLl];exact Jk _ _ _ (c6k _ _ x2)
 ·rw [J8];exact (JJ (w:=X.alloc o) (a:=⟨bb,i,none⟩) (hgr6.block bb (by omega) λe=>d2.own k cp e.symm)).trans (ef hbb (xf i) _)
 ·simp only [hLl];exact hO6
 ·simp only [hLl];have:=dS hown6 (p:=⟨bb,2,none⟩) (.slice a6 (k+1) c6) (.inr λe=>hbb6 e.symm);simpa using this
 ·exact aptOf (aptO _ hI) (hO.lt _ hI).2 rfl
 ·have hb0 : Below 0 w6 (w6.setCell ⟨bb,2,none⟩ (.slice a6 (k+1) c6)):=(I1 0 w6).setCell (I7 _) _;refine ⟨hb0.os.trans (hgr6.os.trans hbo.os),hb0.tape.trans (hgr6.tape.trans hbo.tape),hb0.output.trans (hgr6.output.trans hbo.output),Ji hbo.size (Ji hgr6.size hb0.size),λx hx hI=>?_,λx hx=>?_⟩
  ·refine EY x hx (λe=>hI (.inl e)) ?_;by_cases h0 : ap=none
   ·exact .inl h0
   ·exact .inr λe=>hI (.inr (.inr ⟨h0,e.symm⟩))
  ·rcases hx with rfl | hx | ⟨h1,rfl⟩
   ·exact .inl (.inl rfl)
   ·exact .inl (.inr (.inl hx))
   ·by_cases hlt : aj a6<X.heap.size
    ·left;right;right;apply JE;intro hn;have hA : cJ ap (aj a6):=by
      by_cases h0 : ap=none
      ·exact .inl h0
      ·exact .inr λe=>hn ⟨h0,e.symm⟩
     exact aptOf hA hlt rfl
    ·exact .inr (by omega)
end mL
end
def bA (l : Lz) : Lz:=l.mergeSort λx y=>decide (x<=y)
theorem dc (l : Lz) : (bA l).Perm l:=List.mergeSort_perm l _
theorem dy (l : Lz) : (bA l).length=l.length:=(dc l).length_eq
theorem ry (l : Lz) : (bA l).Pairwise λx y=>x<=y:=by have h:=List.pairwise_mergeSort (le:=λx y : Int=>decide (x<=y)) (λa b c h1 h2=>by simp at *;omega) (λa b=>by simp;omega) l;exact h.imp λh=>by simpa using h
theorem kZ : ∀ {l l' : Lz},l.Pairwise (λx y=>x<=y)->l'.Pairwise (λx y=>x<=y)->l.Perm l'->l=l'
 | [],l',_,_,h=>by rw [List.nil_perm] at h;exact h.symm
 | x :: l,[],_,_,h=>by rw [List.perm_nil] at h;exact h
 | x :: l,y :: l',h1,h2,h=>by
  rw [KN] at h1 h2;have hx : x ∈ y :: l':=h.subset (J4 ..);have hy : y ∈ x :: l:=h.symm.subset (J4 ..);have e : x=y:=by
   rcases List.mem_cons.1 hx with e | hx
   ·exact e
   ·rcases List.mem_cons.1 hy with e | hy
    ·exact e.symm
    ·have:=h1.1 y hy;have:=h2.1 x hx;omega
  subst e;rw [kZ h1.2 h2.2 (List.Perm.cons_inv h)]
theorem j5 {l l' : Lz} (h : l'.Pairwise λx y=>x<=y) (hp : l'.Perm l) : l'=bA l:=kZ h (ry l) (hp.trans (dc l).symm)
theorem sq {l : Lz} (h : ∀i j,i<j->j<l.length->nth l i ≠ nth l j) : l.Nodup:=by unfold List.Nodup;rw [Km];intro i j hi hj hij;have:=h i j hij hj;rwa [ai hi,ai hj] at this
theorem Ae {m : Int} {l : Lz} (hn : l.Nodup) (hb : ∀x ∈ l,0<=x/\x<m) : cF m (bA l)=true:=by
 have h1:=ry l;have h2 : (bA l).Nodup:=(dc l).nodup_iff.2 hn;have h3 : ∀x ∈ bA l,0<=x/\x<m:=λx hx=>hb x ((dc l).subset hx);rw [Km] at h1;unfold List.Nodup at h2;rw [Km] at h2;have key : ∀k,(∀i,i<k->gg m (bA l) i=true)->mS m (bA l) k=true:=λk=>by
  induction k with
  | zero=>intro _;rfl
  | succ k ih=>intro h;exact gC (ih λi hi=>h i (by omega)) (h k (by omega))
 unfold cF;refine key _ λi hi=>?_;have h4:=h3 _ (JA hi);unfold gg;rw [ai hi];by_cases h0 : i=0
 ·simp [h0] at h4 ⊢;omega
 ·have h5:=h1 (i - 1) i (by omega) hi (by omega);have h6:=h2 (i - 1) i (by omega) hi (by omega);rw [ai (show i - 1<(bA l).length by omega)];simp;omega
def swp (X : Lz) (j : Nat) : Lz:=(X.set j (nth X (j - 1))).set (j - 1) (nth X j)
theorem A4 {X : Lz} {j : Nat} (h0 : 0<j) (hj : j<X.length) (i : Nat) : nth (swp X j) i=if i=j - 1 then nth X j else if i=j then nth X (j - 1) else nth X i:=by unfold swp;rw [gP _ _ _ _ (by simp;omega),gP _ _ _ _ hj]
theorem EC {X : Lz} {j : Nat} (h0 : 0<j) (hj : j<X.length) : (swp X j).Perm X:=by
 obtain ⟨A,u,v,C,rfl,hA⟩ : ∃A u v C,X=A ++ u :: v :: C/\A.length+1=j:=by
  refine ⟨X.take (j - 1),X[j - 1],X[j],X.drop (j+1),?_,by rw [Jy];omega⟩;have h1 : X.drop (j - 1)=X[j - 1] :: X.drop j:=by rw [Jt (by omega)];congr 2;omega
  rw [<- Jt hj,<- h1,Lt]
 subst hA;have h1 : nth (A ++ u :: v :: C) A.length=u:=by unfold nth;simp
 have h2 : nth (A ++ u :: v :: C) (A.length+1)=v:=by unfold nth;simp [List.getElem?_append]
 have h3 : swp (A ++ u :: v :: C) (A.length+1)=A ++ v :: u :: C:=by unfold swp;rw [JU,h1,h2];simp [List.set_append]
 rw [h3];exact List.Perm.append_left A (Nc u v C)
def wE (X : Lz) (k : Nat) : Prop:=∀p q,p<q->q<k->nth X p<=nth X q
def ya (X : Lz) (i j : Nat) : Prop:=∀p q,p<q->q<=i->q ≠ j->nth X p<=nth X q
theorem wE.start {X : Lz} {i : Nat} (h : wE X i) : ya X i i:=λp q h1 h2 h3=>h p q h1 (by omega)
theorem ya.step {X : Lz} {i j : Nat} (h : ya X i j) (h0 : 0<j) (hji : j<=i) (hj : j<X.length) (hlt : nth X j<nth X (j - 1)) : ya (swp X j) i (j - 1):=λp q h1 h2 h3=>by
 rw [A4 h0 hj,A4 h0 hj];by_cases e1 : q=j
 ·subst e1;rw [I5 h3,I6 rfl];by_cases e2 : p=q - 1
  ·rw [I6 e2];omega
  ·rw [I5 e2,I5 (by omega)];exact h p (q - 1) (by omega) (by omega) (by omega)
 ·rw [I5 h3,I5 e1];by_cases e2 : p=j - 1
  ·rw [I6 e2];exact h j q (by omega) h2 e1
  ·rw [I5 e2];by_cases e3 : p=j
   ·rw [I6 e3];exact h (j - 1) q (by omega) h2 e1
   ·rw [I5 e3];exact h p q h1 h2 e1
theorem ya.done {X : Lz} {i j : Nat} (h : ya X i j) (hji : j<=i) (hd : j=0\/nth X (j - 1)<=nth X j) : wE X (i+1):=λp q h1 h2=>by
 by_cases e : q=j
 ·subst e;rcases hd with hd | hd
  ·omega
  ·by_cases e2 : p=q - 1
   ·rw [e2];exact hd
   ·exact Mf (h p (q - 1) (by omega) (by omega) (by omega)) hd
 ·exact h p q h1 (by omega) e
theorem wE.sort {X Q : Lz} {k : Nat} (h : wE X k) (hk : X.length<=k) (hp : X.Perm Q) : X=bA Q:=by refine j5 ?_ hp;rw [Km];intro i j hi hj hij;have:=h i j hij (by omega);rwa [ai hi,ai hj] at this
theorem Da (L L2 : Ll) (i : Nat) : an (L ++ L2) i=if i<L.length then an L i else an L2 (i - L.length):=by
 simp only [an,Jc];by_cases h1 : i<L.length
 ·rw [I6 h1,JF h1]
 ·rw [I5 h1,Kv (by omega)]
theorem Dt (L L2 : La) (i : Nat) : aO (L ++ L2) i=if i<L.length then aO L i else aO L2 (i - L.length):=by
 simp only [aO,Jc];by_cases h1 : i<L.length
 ·rw [I6 h1,JF h1]
 ·rw [I5 h1,Kv (by omega)]
theorem aP.FP {w w' : World} {B C : Nat} {a : OA} {n c : Nat} {R : La} {L : Ll} (h : aP w B a n c R L)
  {a2 : OA} {n2 c2 : Nat} {R2 : La} {L2 : Ll} (h2 : aP w C a2 n2 c2 R2 L2) (hBC : B<=C) (hsep : ∀b,bS a R b->b<C)
  {a' : OA} {c' : Nat} (hown : w'.ownsRow B 22 1 (.slice a' (n+n2) c') (n+n2) (List.zipWith eY R L ++ List.zipWith eY R2 L2)) (hg : w.grownBy w' (Value.slice a n c).ownBlock)
  (hap : ∀b,b<w.heap.size->cJ a b->cJ a' b) : aP w' B a' (n+n2) c' (R ++ R2) (L ++ L2):=by
 have hn' : 0<n+n2->a' ≠ none:=by
  intro hp e;obtain ⟨x,y,hv,hp'⟩:=Nx hown;cases hv
  have:=hp' hp;rw [e] at this;cases this
 have rowKeep : ∀ {x : OA} {cx m : Nat} {xs : List Value},w.ownsRow B 3 1 (.slice x m cx) m xs->(x ≠ none->cJ a (aj x))->w'.ownsRow B 3 1 (.slice x m cx) m xs:=by intro x cx m xs ho h2;exact zX ho λhx=>hg.block _ (aM ho hx).2 λe=>(h2 hx).own n c e.symm
 have oA : ∀i,i<n->(aO R i).1 ≠ none->cJ a (aj (aO R i).1):=λi hi hx=>by
  rcases h.sB i hi with h2 | h2
  ·exact absurd h2 hx
  ·exact .inr λe=>h2 e.symm
 have lo2 : ∀i,i<n2->(aO R2 i).1 ≠ none->C<=aj (aO R2 i).1:=λi hi hx=>(aM (h2.row i hi) hx).1;have aC : a ≠ none->aj a<C:=λhx=>hsep _ (.inl ⟨hx,rfl⟩);have rC : ∀i,i<n->(aO R i).1 ≠ none->aj (aO R i).1<C:=λi hi hx=>hsep _ (.inr ⟨i,by rw [h.rl];exact hi,hx,rfl⟩);have oA2 : ∀i,i<n2->(aO R2 i).1 ≠ none->cJ a (aj (aO R2 i).1):=λi hi hx=>by
  by_cases ha : a=none
  ·exact .inl ha
  ·have:=aC ha;have:=lo2 i hi hx;exact .inr (by omega)
 have toA : 0<n+n2->∀ {x : OA} {cx m : Nat} {xs : List Value},w.ownsRow B 3 1 (.slice x m cx) m xs->(x ≠ none->cJ a (aj x))->cJ x (aj a'):=by
  intro hp x cx m xs ho h2;by_cases hx : x=none
  ·exact .inl hx
  ·rcases hap _ (aM ho hx).2 (h2 hx) with h3 | h3
   ·exact absurd h3 (hn' hp)
   ·exact .inr λe=>h3 e.symm
 have ezip : List.zipWith eY (R ++ R2) (L ++ L2)=List.zipWith eY R L ++ List.zipWith eY R2 L2:=Mz (by rw [h.rl,h.ll]);have eL : ∀i,an (L ++ L2) i=if i<n then an L i else an L2 (i - n):=λi=>by rw [Da,h.ll]
 have eA : ∀i,aO (R ++ R2) i=if i<n then aO R i else aO R2 (i - n):=λi=>by rw [Dt,h.rl]
 refine ⟨by simp [h.rl,h2.rl],by simp [h.ll,h2.ll],by rw [ezip];exact hown,λi hi=>?_,λi hi=>?_,λi j hi hj hij=>?_⟩
 ·rw [eL,eA];by_cases h1 : i<n
  ·simp only [I6 h1];exact rowKeep (h.row i h1) (oA i h1)
  ·simp only [I5 h1];exact rowKeep (aU (h2.row (i - n) (by omega)) hBC) (oA2 (i - n) (by omega))
 ·rw [eA];by_cases h1 : i<n
  ·rw [I6 h1];exact toA (by omega) (h.row i h1) (oA i h1)
  ·rw [I5 h1];exact toA (by omega) (aU (h2.row (i - n) (by omega)) hBC) (oA2 (i - n) (by omega))
 ·rw [eA,eA];by_cases h1 : i<n <;> by_cases h3 : j<n
  ·rw [I6 h1,I6 h3];exact h.sep i j h1 h3 hij
  ·rw [I6 h1,I5 h3];by_cases hx : (aO R i).1=none
   ·exact .inl hx
   ·refine .inr ?_;by_cases hy : (aO R2 (j - n)).1=none
    ·exact .inl hy
    ·have:=rC i h1 hx;have:=lo2 (j - n) (by omega) hy;exact .inr (by omega)
  ·rw [I5 h1,I6 h3];by_cases hx : (aO R2 (i - n)).1=none
   ·exact .inl hx
   ·refine .inr ?_;by_cases hy : (aO R j).1=none
    ·exact .inl hy
    ·have:=rC j h3 hy;have:=lo2 (i - n) (by omega) hx;exact .inr (by omega)
  ·rw [I5 h1,I5 h3];exact h2.sep (i - n) (j - n) (by omega) (by omega) (by omega)
def Ny:=@aP.push
def NG:=@cH.own
def NO:=@bS.push
end Go.Proofs.YtcfmiocdlcapoaaGreat
