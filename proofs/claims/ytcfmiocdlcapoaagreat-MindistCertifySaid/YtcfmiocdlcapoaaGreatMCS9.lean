import Derived.Test.YtcfmiocdlcapoaaGreatMCS6
namespace Go.Proofs.YtcfmiocdlcapoaaGreat
set_option linter.all false
set_option maxRecDepth 100000
set_option maxHeartbeats 4000000
open Go.RowKit Go.Proofs.Tryz
section
theorem bL (f : Lz->Lz) (L : Ll) {i : Nat} (h : i<L.length) : an (L.map f) i=f (an L i):=by rw [aE (by simpa using h),aE h,Lx]
theorem oX (f : Lz->Lz) (J : Ll) {t k : Nat} (ht : t<J.length) (hk : k<J.length) : bh (J.map f) t k=(bh J t k).map f:=by unfold bh;rw [bL f J ht,bL f J hk,Jq,Jq]
theorem iS (l : Lz) {len k : Nat} (h : k<len) : nth (l.take len) k=nth l k:=by unfold nth;simp only [Jc,J9];rw [I6 h]
theorem oT (O : aS) (v u : Lz) (s : Int) (len : Nat) : (bP O v s u).take len=bP O (v.take len) s (u.take len):=by unfold bP;rw [List.take_zipWith]
theorem xo (O : aS) (v u : Lz) (s : Int) (len : Nat) : (bP O v s u).drop len=bP O (v.drop len) s (u.drop len):=by unfold bP;rw [List.drop_zipWith]
def I2 (a : OA) (R : La) (a2 : OA) (S : La) (b : Nat) : Prop:=bS a R b\/bS a2 S b
structure dM (w : World) (B : Nat) (a : OA) (n c : Nat) (R : La) (a2 : OA) (c2 : Nat) (S : La) (len : Nat) (J : Ll) : Prop where
 om1 : aP w B a n c R (J.map (List.take len))
 om2 : aP w B a2 n c2 S (J.map (List.drop len))
 dis : ∀b,bS a R b->¬ bS a2 S b
namespace dM
variable {w w' w1 : World} {B : Nat} {a : OA} {n c : Nat} {R R' : La} {a2 : OA} {c2 : Nat} {S S' : La} {len : Nat} {J J' : Ll}
theorem lt (h : dM w B a n c R a2 c2 S len J) (b : Nat) (hb : I2 a R a2 S b) : B<=b/\b<w.heap.size:=by
 rcases hb with hb | hb
 ·exact h.om1.lt b hb
 ·exact h.om2.lt b hb
theorem new (h : dM w B a n c R a2 c2 S len J) {b : Nat} (hb : w.heap.size<=b) : ¬ I2 a R a2 S b:=λh'=>by have:=h.lt b h';omega
theorem aa (h : dM w B a n c R a2 c2 S len J) (hb : NS w w') : dM w' B a n c R a2 c2 S len J:=⟨h.om1.aa hb,h.om2.aa hb,h.dis⟩
theorem ll (h : dM w B a n c R a2 c2 S len J) : J.length=n:=by have:=h.om1.ll;simpa using this
theorem cell (h : dM w B a n c R a2 c2 S len J) {i : Nat} (hi : i<n) (hl : len<=(an J i).length) : w.cell? ⟨aj a,aL a+i,none⟩=some (.slice (aO R i).1 len (aO R i).2):=by have h1:=h.om1.cell hi;rw [bL _ J (by rw [h.ll];exact hi),Jy,LF hl] at h1;exact h1
theorem ints (h : dM w B a n c R a2 c2 S len J) {i : Nat} (hi : i<n) (hl : len<=(an J i).length) : Ints w (aO R i).1 len ((an J i).take len):=by have h1:=h.om1.ints hi;rw [bL _ J (by rw [h.ll];exact hi),Jy,LF hl] at h1;exact h1
theorem DB (h : dM w B a n c R a2 c2 S len J) (m1 : aA w w1 (bS a R) (bS a R')) : aP w1 B a2 n c2 S (J.map (List.drop len)) :=
 h.om2.bj λb hb=>m1.block b (h.om2.lt b hb).2 λhI=>h.dis b hI hb
theorem EL {L' A' : Ll} (h : dM w B a n c R a2 c2 S len J) (m1 : aA w w1 (bS a R) (bS a R')) (o1 : aP w1 B a n c R' L') (m2 : aA w1 w' (bS a2 S) (bS a2 S')) (o2 : aP w' B a2 n c2 S' A')
  (e1 : L'=J'.map (List.take len)) (e2 : A'=J'.map (List.drop len)) : dM w' B a n c R' a2 c2 S' len J'/\aA w w' (I2 a R a2 S) (I2 a R' a2 S'):=by
 subst e1 e2;have hs:=m1.size;have hnS : ∀b,bS a R' b->¬ bS a2 S b:=λb hb hS=>by
  rcases m1.grow b hb with h1 | h1
  ·exact h.dis b h1 hS
  ·have:=(h.om2.lt b hS).2;omega
 refine ⟨⟨o1.bj λb hb=>m2.block b (o1.lt b hb).2 (hnS b hb),o2,λb hb hb2=>?_⟩,⟨m2.os.trans m1.os,m2.tape.trans m1.tape,m2.output.trans m1.output,Ji m1.size m2.size,λb hb hI=>?_,λb hb=>?_⟩⟩
 ·rcases m2.grow b hb2 with h1 | h1
  ·exact hnS b hb h1
  ·have:=(o1.lt b hb).2;omega
 ·rw [m2.block b (by omega) λh1=>hI (.inr h1)];exact m1.block b hb λh1=>hI (.inl h1)
 ·rcases hb with hb | hb
  ·rcases m1.grow b hb with h1 | h1
   ·exact .inl (.inl h1)
   ·exact .inr h1
  ·rcases m2.grow b hb with h1 | h1
   ·exact .inl (.inr h1)
   ·exact .inr (by omega)
end dM
theorem zD {w : World} (c0' c1' : Value) (p q : Nat) (a : OA) (n c : Nat) (a2 : OA) (n2 c2 : Nat) (X : World->Prop) (h1 : w.cell? ⟨p,0,none⟩=some (.slice a n c)) (hn2 : 0<n2) (hn3 : n2<=1000000)
  (hf : Calls prog 250 #[.slice a n c,c0',c1'] w λe w1=>e = .returned (.tuple #[])/\w1.cell? ⟨q,0,none⟩=some (.slice a2 n2 c2) /\
   Calls prog 250 #[.slice a2 n2 c2,c0',c1'] w1 λe w'=>e = .returned (.tuple #[])/\X w') :
  Calls prog 249 #[.func (.func 250) #[] #[c0',c1'],.pointer (some ⟨p,0,none⟩),.pointer (some ⟨q,0,none⟩)] w
   λe w'=>e = .returned (.tuple #[])/\X w':=by
 have Hf:=Z5 hf;have hn0 : decide ((0 : Int)<n2)=true:=by simp;omega
 clear hf;go_enter func249,ntmps249;go_wp2_with fail;refine Hf.out.mono ?_;rintro e w1 ⟨rfl,hq,hc⟩;have Hc:=Z5 hc;clear hc;go_wp2_with fail;refine Hc.out.mono ?_;rintro e w2 ⟨rfl,hX⟩;go_wp2_with fail;go_end0;exact ⟨rfl,hX⟩
theorem zJ {w : World} (c0' c1' c2' : Value) (p q : Nat) (a : OA) (n c : Nat) (a2 : OA) (n2 c2 : Nat) (X : World->Prop) (h1 : w.cell? ⟨p,0,none⟩=some (.slice a n c)) (hn2 : 0<n2) (hn3 : n2<=1000000)
  (hf : Calls prog 251 #[.slice a n c,c0',c1',c2'] w λe w1=>e = .returned (.tuple #[])/\w1.cell? ⟨q,0,none⟩=some (.slice a2 n2 c2) /\
   Calls prog 251 #[.slice a2 n2 c2,c0',c1',c2'] w1 λe w'=>e = .returned (.tuple #[])/\X w') :
  Calls prog 249 #[.func (.func 251) #[] #[c0',c1',c2'],.pointer (some ⟨p,0,none⟩),.pointer (some ⟨q,0,none⟩)] w
   λe w'=>e = .returned (.tuple #[])/\X w':=by
 have Hf:=Z5 hf;have hn0 : decide ((0 : Int)<n2)=true:=by simp;omega
 clear hf;go_enter func249,ntmps249;go_wp2_with fail;refine Hf.out.mono ?_;rintro e w1 ⟨rfl,hq,hc⟩;have Hc:=Z5 hc;clear hc;go_wp2_with fail;refine Hc.out.mono ?_;rintro e w2 ⟨rfl,hX⟩;go_wp2_with fail;go_end0;exact ⟨rfl,hX⟩
theorem zg {w : World} (c0' c1' c2' c3' : Value) (p q : Nat) (a : OA) (n c : Nat) (a2 : OA) (n2 c2 : Nat) (X : World->Prop) (h1 : w.cell? ⟨p,0,none⟩=some (.slice a n c)) (hn2 : 0<n2) (hn3 : n2<=1000000)
  (hf : Calls prog 252 #[.slice a n c,c0',c1',c2',c3'] w λe w1=>e = .returned (.tuple #[])/\w1.cell? ⟨q,0,none⟩=some (.slice a2 n2 c2) /\
   Calls prog 252 #[.slice a2 n2 c2,c0',c1',c2',c3'] w1 λe w'=>e = .returned (.tuple #[])/\X w') :
  Calls prog 249 #[.func (.func 252) #[] #[c0',c1',c2',c3'],.pointer (some ⟨p,0,none⟩),.pointer (some ⟨q,0,none⟩)] w
   λe w'=>e = .returned (.tuple #[])/\X w':=by
 have Hf:=Z5 hf;have hn0 : decide ((0 : Int)<n2)=true:=by simp;omega
 clear hf;go_enter func249,ntmps249;go_wp2_with fail;refine Hf.out.mono ?_;rintro e w1 ⟨rfl,hq,hc⟩;have Hc:=Z5 hc;clear hc;go_wp2_with fail;refine Hc.out.mono ?_;rintro e w2 ⟨rfl,hX⟩;go_wp2_with fail;go_end0;exact ⟨rfl,hX⟩
variable {w : World} {b : Nat} {G : cW}
theorem BV (B : Nat) (a : OA) (n c : Nat) (R : La) (a2 : OA) (c2 : Nat) (S : La) (len : Nat) (J : Ll) (p q pk pt k t : Nat) (hO : dM w B a n c R a2 c2 S len J)
  (hp : w.cell? ⟨p,0,none⟩=some (.slice a n c)) (hq : w.cell? ⟨q,0,none⟩=some (.slice a2 n c2)) (nq : ¬ I2 a R a2 S q)
  (hk : w.cell? ⟨pk,0,none⟩=some (.int .i64 k)) (ht : w.cell? ⟨pt,0,none⟩=some (.int .i64 t)) (hkn : k<n) (htn : t<n) (hkt : k ≠ t) (nk : ¬ I2 a R a2 S pk) (nt : ¬ I2 a R a2 S pt) (hn : n<=1000000) :
  Calls prog 249 #[.func (.func 250) #[] #[.pointer (some ⟨pk,0,none⟩),.pointer (some ⟨pt,0,none⟩)],.pointer (some ⟨p,0,none⟩),.pointer (some ⟨q,0,none⟩)] w
   λe w'=>e = .returned (.tuple #[])/\∃R' S',dM w' B a n c R' a2 c2 S' len (bh J t k)/\aA w w' (I2 a R a2 S) (I2 a R' a2 S'):=by have hJ:=hO.ll;refine zD _ _ p q a n c a2 n c2 _ hp (by omega) (by omega) ((qT B a n c R _ pk pt k t hO.om1 hk ht hkn htn hkt (λh=>nk (.inl h)) (λh=>nt (.inl h))).mono ?_);rintro e w1 ⟨rfl,R',o1,m1⟩;refine ⟨rfl,m1.cell hq (λh=>nq (.inl h)),(qT B a2 n c2 S _ pk pt k t (hO.DB m1) (m1.cell hk (λh=>nk (.inl h))) (m1.cell ht (λh=>nt (.inl h))) hkn htn hkt (λh=>nk (.inr h)) (λh=>nt (.inr h))).mono ?_⟩;rintro e w2 ⟨rfl,S',o2,m2⟩;exact ⟨rfl,R',S',hO.EL m1 o1 m2 o2 (oX _ J (by omega) (by omega)) (oX _ J (by omega) (by omega))⟩
theorem Au (w0 : World) (a : OA) (n c : Nat) (R : La) (a2 : OA) (c2 : Nat) (S : La) (len m : Nat) (J : Ll) (p q pg ps pt : Nat) (s : Int) (t : Nat) (hO : dM w w0.heap.size a n c R a2 c2 S len J)
  (hp : w.cell? ⟨p,0,none⟩=some (.slice a n c)) (hq : w.cell? ⟨q,0,none⟩=some (.slice a2 n c2)) (nq : ¬ I2 a R a2 S q)
  (h : dT w0 b G) (hb : NS w0 w)
  (hg : w.cell? ⟨pg,0,none⟩=some (.pointer (some ⟨b,0,none⟩))) (hs : w.cell? ⟨ps,0,none⟩=some (.int .i64 s)) (ht : w.cell? ⟨pt,0,none⟩=some (.int .i64 t)) (htn : t<n) (hse : G.El s)
  (ng : ¬ I2 a R a2 S pg) (ns : ¬ I2 a R a2 S ps) (nt : ¬ I2 a R a2 S pt) (hel : G.Bz (an J t)) (hln : (an J t).length<=1000000) (hn : n<=1000000) :
  Calls prog 249 #[.func (.func 251) #[] #[.pointer (some ⟨pg,0,none⟩),.pointer (some ⟨ps,0,none⟩),.pointer (some ⟨pt,0,none⟩)],.pointer (some ⟨p,0,none⟩),.pointer (some ⟨q,0,none⟩)] w
   λe w'=>e = .returned (.tuple #[])/\∃R' S',dM w' w0.heap.size a n c R' a2 c2 S' len (J.set t ((an J t).map (G.mul s)))/\aA w w' (I2 a R a2 S) (I2 a R' a2 S'):=by
 have hJ:=hO.ll;have htJ : t<J.length:=by omega
 refine zJ _ _ _ p q a n c a2 n c2 _ hp (by omega) (by omega) ((oz w0 a n c R _ pg ps pt s t hO.om1 h hb hg hs ht htn hse (by rw [bL _ J htJ];exact λx hx=>hel x (JY hx)) (by rw [bL _ J htJ,Jy];omega)).mono ?_);rintro e w1 ⟨rfl,R',o1,m1⟩;have hb1 : NS w0 w1:=hb.trans (m1.below (λb' hb'=>(hO.om1.lt b' hb').1) hb.size);refine ⟨rfl,m1.cell hq (λh=>nq (.inl h)),(oz w0 a2 n c2 S _ pg ps pt s t (hO.DB m1) h hb1 (m1.cell hg (λh=>ng (.inl h))) (m1.cell hs (λh=>ns (.inl h))) (m1.cell ht (λh=>nt (.inl h))) htn hse (by rw [bL _ J htJ];exact λx hx=>hel x (KV hx)) (by rw [bL _ J htJ,Kg];omega)).mono ?_⟩;rintro e w2 ⟨rfl,S',o2,m2⟩;exact ⟨rfl,R',S',hO.EL m1 o1 m2 o2 (by rw [bL _ J htJ,Jq,List.map_take]) (by rw [bL _ J htJ,Jq,List.map_drop])⟩
theorem Ar (w0 : World) (a : OA) (n c : Nat) (R : La) (a2 : OA) (c2 : Nat) (S : La) (len m : Nat) (J : Ll) (p q pg pi px pt : Nat) (i : Nat) (x : Int) (t : Nat) (hO : dM w w0.heap.size a n c R a2 c2 S len J)
  (hp : w.cell? ⟨p,0,none⟩=some (.slice a n c)) (hq : w.cell? ⟨q,0,none⟩=some (.slice a2 n c2)) (nq : ¬ I2 a R a2 S q)
  (h : dT w0 b G) (hb : NS w0 w)
  (hg : w.cell? ⟨pg,0,none⟩=some (.pointer (some ⟨b,0,none⟩))) (hi : w.cell? ⟨pi,0,none⟩=some (.int .i64 i)) (hx : w.cell? ⟨px,0,none⟩=some (.int .i64 x)) (ht : w.cell? ⟨pt,0,none⟩=some (.int .i64 t))
  (hin : i<n) (htn : t<n) (hit : i ≠ t) (hxe : G.El x) (ng : ¬ I2 a R a2 S pg) (ni : ¬ I2 a R a2 S pi) (nx : ¬ I2 a R a2 S px) (nt : ¬ I2 a R a2 S pt) (hei : G.Bz (an J i)) (het : G.Bz (an J t)) (hli : (an J i).length=m) (hlt : (an J t).length=m) (hlm : len<=m) (hn : n<=1000000) :
  Calls prog 249 #[.func (.func 252) #[] #[.pointer (some ⟨pg,0,none⟩),.pointer (some ⟨pi,0,none⟩),.pointer (some ⟨px,0,none⟩),.pointer (some ⟨pt,0,none⟩)],.pointer (some ⟨p,0,none⟩),.pointer (some ⟨q,0,none⟩)] w
   λe w'=>e = .returned (.tuple #[])/\dM w' w0.heap.size a n c R a2 c2 S len (J.set i (bP G.ops (an J i) (G.neg x) (an J t)))/\aA w w' (I2 a R a2 S) (I2 a R a2 S):=by
 have hJ:=hO.ll;have htJ : t<J.length:=by omega
 have hiJ : i<J.length:=by omega
 refine zg _ _ _ _ p q a n c a2 n c2 _ hp (by omega) (by omega) ((oq w0 a n c R _ pg pi px pt len i x t hO.om1 h hb hg hi hx ht hin htn hit hxe (λh=>ng (.inl h)) (λh=>ni (.inl h)) (λh=>nx (.inl h)) (λh=>nt (.inl h))
  (by rw [bL _ J hiJ];exact λx hx=>hei x (JY hx)) (by rw [bL _ J htJ];exact λx hx=>het x (JY hx)) (by rw [bL _ J hiJ,Jy];omega) (by rw [bL _ J htJ,Jy];omega)).mono ?_)
 rintro e w1 ⟨rfl,o1,m1⟩;have hb1 : NS w0 w1:=hb.trans (m1.below (λb' hb'=>(hO.om1.lt b' hb').1) hb.size);refine ⟨rfl,m1.cell hq (λh=>nq (.inl h)),(oq w0 a2 n c2 S _ pg pi px pt (m - len) i x t (hO.DB m1) h hb1 (m1.cell hg (λh=>ng (.inl h))) (m1.cell hi (λh=>ni (.inl h))) (m1.cell hx (λh=>nx (.inl h))) (m1.cell ht (λh=>nt (.inl h))) hin htn hit hxe
  (λh=>ng (.inr h)) (λh=>ni (.inr h)) (λh=>nx (.inr h)) (λh=>nt (.inr h))
  (by rw [bL _ J hiJ];exact λx hx=>hei x (KV hx)) (by rw [bL _ J htJ];exact λx hx=>het x (KV hx)) (by rw [bL _ J hiJ,Kg];omega) (by rw [bL _ J htJ,Kg];omega)).mono ?_⟩
 rintro e w2 ⟨rfl,o2,m2⟩;exact ⟨rfl,hO.EL m1 o1 m2 o2 (by rw [bL _ J hiJ,bL _ J htJ,Jq,oT]) (by rw [bL _ J hiJ,bL _ J htJ,Jq,xo])⟩
end
section
variable {w : World} {b : Nat} {G : cW}
theorem dM.bj {w' : World} {B : Nat} {a : OA} {n c : Nat} {R : La} {a2 : OA} {c2 : Nat} {S : La} {len : Nat} {J : Ll} (h : dM w B a n c R a2 c2 S len J) (hb : ∀b,I2 a R a2 S b->w'.heap[b]? = w.heap[b]?) : dM w' B a n c R a2 c2 S len J :=
 ⟨h.om1.bj λb hb'=>hb b (.inl hb'),h.om2.bj λb hb'=>hb b (.inr hb'),h.dis⟩
def tg (w0 : World) (a : OA) (n c : Nat) (R : La) (ae : OA) (ce : Nat) (S : La) (len : Nat) (L : Ll) (m : Nat) (G : cW) (w : World) (e : Ending) (w' : World) : Prop :=
 ∃R' S' ap cp d,e = .returned (.tuple #[.slice ap (aD G.ops L m).2.length cp,.int .i64 d])/\dM w' w0.heap.size a n c R' ae ce S' len (aD G.ops L m).1 /\
  w'.ownsRow w.heap.size 3 1 (.slice ap (aD G.ops L m).2.length cp) (aD G.ops L m).2.length ((aD G.ops L m).2.map (Value.int .i64))/\aA w w' (I2 a R ae S) (I2 a R' ae S')/\NS w0 w'
theorem qK (w0 : World) (a : OA) (n c m len tot : Nat) (R : La) (ae : OA) (ce : Nat) (S : La) (L : Ll) (h : dT w0 b G) (hb : NS w0 w) (hO : dM w w0.heap.size a n c R ae ce S len L)
  (hR : cw G.El tot L) (hml : m<=len) (hlt : len<=tot) (hlen : tot<=1000000) (hn : n<=1000000) :
  Calls prog 214 #[.pointer (some ⟨b,0,none⟩),.slice a n c,.int .i64 m,.slice ae n ce] w (tg w0 a n c R ae ce S len L m G w):=by
 have hfin : ∀w' R' S' ap cp d Lk P,(Lk,P)=aD G.ops L m->dM w' w0.heap.size a n c R' ae ce S' len Lk->w'.ownsRow w.heap.size 3 1 (.slice ap P.length cp) P.length (P.map (Value.int .i64))->aA w w' (I2 a R ae S) (I2 a R' ae S') ->
   tg w0 a n c R ae ce S len L m G w (.returned (.tuple #[.slice ap P.length cp,.int .i64 d])) w':=by
  intro w' R' S' ap cp d Lk P he h1 h2 h3;have e1 : (aD G.ops L m).1=Lk:=by rw [<- he]
  have e2 : (aD G.ops L m).2=P:=by rw [<- he]
  refine ⟨R',S',ap,cp,d,?_,?_,?_,h3,hb.trans (h3.below (λb' hb'=>(hO.lt b' hb').1) hb.size)⟩
  ·rw [e2]
  ·rw [e1];exact h1
  ·rw [e2];exact h2
 have Hfin:=Z5 hfin;clear hfin;have hpl:=hO.om1.pl;have hGe : G.El 1:=⟨by omega,by have:=h.q2;omega⟩
 have hal:=((I1 w.heap.size w).alloc (IZ _) (.cells #[.pointer (some ⟨b,0,none⟩)] 95))
 go_enter func214,ntmps214;have hmf : ∀(fn : Fn) (first cap : Array Value) (w : World),(Instr.makeFunc fn first cap).run prog w = .ok (.func fn first cap) w:=λ_ _ _ _=>rfl;go_wp2_with fail;obtain ⟨W0,hW0⟩ : ∃W0 : World,W0=((w.alloc (.cells #[.pointer (some ⟨b,0,none⟩)] 95)).alloc (.cells #[.slice a n c] 25)).alloc (.cells #[.slice ae n ce] 25):=⟨_,rfl⟩
 rw [<- hW0];have hbW0 : NS w W0:=by rw [hW0];exact ((hal.alloc (by simp) _).alloc (by simp;omega) _)
 have hsW0 : w.heap.size+1+1+1=W0.heap.size:=by rw [hW0];simp
 have q0 : W0.cell? ⟨w.heap.size,0,none⟩=some (.pointer (some ⟨b,0,none⟩)):=by rw [hW0];exact aY (aY (bk _ _ _) _) _
 have q1 : W0.cell? ⟨w.heap.size+1,0,none⟩=some (.slice a n c):=by rw [hW0];exact aY (bM _ _ _ (by simp)) _
 have q2 : W0.cell? ⟨w.heap.size+1+1,0,none⟩=some (.slice ae n ce):=by rw [hW0];exact bM _ _ _ (by simp)
 have HsW0:=Z5 hsW0;clear hsW0 hW0 hal;go_loopw [10,12,13] (λdv pv cv wr=>∃(k : Nat) (R' : La) (S' : La) (ap : OA) (cp : Nat) (d : Int) (Lk : Ll) (P : Lz),k<=m/\cv = .int .i64 k/\pv = .slice ap P.length cp/\dv = .int .i64 d /\
   Hid ((Lk,P)=aD G.ops L k)/\dM wr w0.heap.size a n c R' ae ce S' len Lk/\wr.ownsRow (w.heap.size+1+1+1) 3 1 (.slice ap P.length cp) P.length (P.map (Value.int .i64))/\Hid (ap ≠ none->¬ I2 a R' ae S' (aj ap)) /\
   aA W0 wr (I2 a R ae S) (I2 a R' ae S')/\cw G.El tot Lk/\G.El d/\P.length<=n)
  (λ_ _ cv _=>m - (intOf cv).toNat)
 case atStart =>
  exact ⟨0,R,S,none,0,1,L,[],I7 _,rfl,rfl,rfl,rfl,hO.aa hbW0,bX,λh=>absurd rfl h,Ns _ _,hR,hGe,I7 _⟩
 case round =>
  obtain ⟨k,R',S',ap,cp,d,Lk,P,hkm,rfl,rfl,rfl,hst,hOr,hop,hoi,hmv,hrw,hde,hPn⟩:=hrel
  generalize wr=V at *
  have r0:=hmv.cell q0 (hO.new (IZ _))
  have r1:=hmv.cell q1 (hO.new (by simp))
  have r2:=hmv.cell q2 (hO.new (by simp;omega))
  have hmw : aA w V (I2 a R ae S) (I2 a R' ae S'):=(Nn hbW0 _).trans hmv
  have hLkn : Lk.length=n:=hOr.ll
  have HLkn:=Z5 hLkn
  clear hLkn
  by_cases hk : k<m
  ·by_cases hPl : P.length<n
   ·have hPl' : (P.length : Int)<n:=by omega
    have hk' : (k : Int)<m:=by omega
    go_wp2_with fail
    obtain ⟨Y,hY⟩ : ∃Y : World,Y=(V.alloc (.cells #[.int .i64 P.length] 3)).alloc (.cells #[.int .i64 P.length] 3):=⟨_,rfl⟩
    rw [<- hY]
    have hbY : NS V Y:=by rw [hY];exact ((I1 _ _).alloc (IZ _) _).alloc (by simp) _
    have hYs : Y.heap.size=V.heap.size+2:=by rw [hY];simp
    have yt : Y.cell? ⟨V.heap.size,0,none⟩=some (.int .i64 P.length):=by rw [hY];exact aY (bk _ _ _) _
    have yk : Y.cell? ⟨V.heap.size+1,0,none⟩=some (.int .i64 P.length):=by rw [hY];exact bM _ _ _ (by simp)
    have yf : Y.frozen? ⟨V.heap.size+1,0,none⟩=false:=by rw [hY];simp
    have HYs:=Z5 hYs
    have HPn:=Z5 hPn
    clear hY hYs
    go_loopw [] (λwx=>∃j : Nat,P.length<=j/\j<=n/\Hid (bn Lk k P.length=bn Lk k j)/\wx.cell? ⟨V.heap.size+1,0,none⟩=some (.int .i64 j)/\wx.frozen? ⟨V.heap.size+1,0,none⟩=false/\Below (V.heap.size+1) Y wx)
     (λwx=>n - (intOf ((wx.cell? ⟨V.heap.size+1,0,none⟩).getD undef)).toNat)
    case atStart=>exact ⟨P.length,IZ _,hPn,rfl,yk,yf,I1 _ _⟩
    case round =>
     obtain ⟨j,hj1,hj2,hfr,kx,kf,hYx⟩:=hrel
     have hbx : NS V wr:=hbY.trans (hYx.mono (by omega))
     have hOx:=hOr.aa hbx
     have x0:=aB hbx r0
     have x1:=aB hbx r1
     have x2:=aB hbx r2
     have xt : wr.cell? ⟨V.heap.size,0,none⟩=some (.int .i64 P.length):=(hYx.cell (by simp)).trans yt
     by_cases hjn : j<n
     ·have hLj : j<Lk.length:=by rw [HLkn.out];exact hjn
      have hrow:=hrw.row hLj
      have ci:=hOx.cell hjn (by rw [hrow.1];exact hlt)
      have ri:=hOx.ints hjn (by rw [hrow.1];exact hlt)
      have ck:=ri.cell k (by omega)
      rw [iS _ (show k<len by omega)] at ck
      have hpr:=ri.pl
      have hkl : (k : Int)<len:=by omega
      have hfs:=gh (c:=k) hLj
      by_cases hz : nth (an Lk j) k=0
      ·rw [I6 hz] at hfs
       have hz' : (nth (an Lk j) k == 0)=true:=by simpa using hz
       have Hf : Hid (bn Lk k P.length=bn Lk k (j+1)):=by show _=_;rw [hfr.out,hfs]
       clear hz hfs hrow
       go_wp2_with fail
       go_roundw
       case rel =>
        refine ⟨j+1,by omega,by omega,Hf.out,Jk _ _ _ kx,by rw [J8];exact kf,hYx.setCell (by simp) _⟩
       case measure=>rw [Jk _ _ _ kx,kx];simp [intOf] <;> omega
      ·rw [I5 hz] at hfs
       have hz' : (nth (an Lk j) k == 0)=false:=by simpa using hz
       have Hf : Hid (bn Lk k P.length=j):=by show _=_;rw [hfr.out,hfs]
       have hjn' : ((j : Int) == n)=false:=by simp;omega
       have Hz:=Z5 hz
       clear hz
       have Hrow:=Z5 hrow
       clear hfs hrow
       have n0 : ¬ I2 a R' ae S' w.heap.size:=hmv.not (by have:=HsW0.out;omega) (hO.new (IZ _))
       have n1 : ¬ I2 a R' ae S' (w.heap.size+1):=hmv.not (by have:=HsW0.out;omega) (hO.new (by omega))
       have n2 : ¬ I2 a R' ae S' (w.heap.size+1+1):=hmv.not (by have:=HsW0.out;omega) (hO.new (by omega))
       have nt : ¬ I2 a R' ae S' V.heap.size:=hOr.new (IZ _)
       have nk : ¬ I2 a R' ae S' (V.heap.size+1):=hOr.new (by omega)
       have hx0 : NS w0 wr:=hb.trans (aA.below (hmw.trans (Nn hbx _)) (λb' hb'=>(hO.lt b' hb').1) hb.size)
       have HN:=Z5 (Jg n0 (Jg n1 (Jg n2 (Jg nt nk))))
       clear n0 n1 n2 nt nk
       go_upto_if 58 with fail
       go_cut [10] (λdv wx=>∃(d' : Int) (R1 : La) (S1 : La),dv = .int .i64 d'/\G.El d'/\dM wx w0.heap.size a n c R1 ae ce S1 len (if j=P.length then Lk else bh Lk P.length j)/\aA wr wx (I2 a R' ae S') (I2 a R1 ae S1))
       case first =>
        by_cases hjt : j=P.length
        ·have hjt' : ((j : Int) != P.length)=false:=by simp [hjt]
         have Hm : Hid ((if j=P.length then Lk else bh Lk P.length j)=Lk):=I6 hjt
         clear hjt
         go_wp2_with fail
         go_meet
         exact ⟨d,R',S',rfl,hde,by rw [Hm.out];exact hOx,Ns _ _⟩
        ·have hjt' : ((j : Int) != P.length)=true:=by simp;omega
         have Hm : Hid ((if j=P.length then Lk else bh Lk P.length j)=bh Lk P.length j):=I5 hjt
         have hea:=BV w0.heap.size a n c R' ae ce S' len Lk (w.heap.size+1) (w.heap.size+1+1) (V.heap.size+1) V.heap.size j P.length hOx x1 x2 HN.out.2.2.1 kx xt hjn hPl hjt HN.out.2.2.2.2 HN.out.2.2.2.1 hn
         have Hea:=Z5 hea
         clear hjt hea
         go_wp2_with fail
         refine Hea.out.mono ?_
         rintro e w5 ⟨rfl,R1,S1,hO5,hM5⟩
         have z0:=hM5.cell x0 HN.out.1
         have hb5 : NS w0 w5:=hx0.trans (hM5.below (λb' hb'=>(hOx.lt b' hb').1) hx0.size)
         go_wp2_with fail
         refine (Gj d (h.aa hb5) hde).mono ?_
         rintro e w6 ⟨m6,rfl,rfl⟩
         go_wp2_with fail
         go_meet
         exact ⟨_,R1,S1,rfl,cW.ux h d,by rw [Hm.out];exact hO5.aa (below_drewN (I1 _ _) m6),hM5.trans (Nn (below_drewN (I1 _ _) m6) _)⟩
       obtain ⟨d',R1,S1,rfl,hde',hO1,hM1⟩:=hcut
       generalize wc=U at *
       obtain ⟨hrw1,hl1,hnz1⟩:=cw.flip (t:=P.length) hrw HLkn.out hPl hjn Hz.out
       have c0:=hM1.cell x0 HN.out.1
       have c1:=hM1.cell x1 HN.out.2.1
       have c2:=hM1.cell x2 HN.out.2.2.1
       have ct:=hM1.cell xt HN.out.2.2.2.1
       have m0 : ¬ I2 a R1 ae S1 w.heap.size:=hM1.not (Jf wr _ x0) HN.out.1
       have m1 : ¬ I2 a R1 ae S1 (w.heap.size+1):=hM1.not (Jf wr _ x1) HN.out.2.1
       have m2 : ¬ I2 a R1 ae S1 (w.heap.size+1+1):=hM1.not (Jf wr _ x2) HN.out.2.2.1
       have mt : ¬ I2 a R1 ae S1 V.heap.size:=hM1.not (Jf wr _ xt) HN.out.2.2.2.1
       have hc0 : NS w0 U:=hx0.trans (hM1.below (λb' hb'=>(hOx.lt b' hb').1) hx0.size)
       have HM:=Z5 (Jg m0 (Jg m1 (Jg m2 mt)))
       have HL1 : Hid (ed G.ops Lk P.length j k=aR G.ops P.length k (bm G.ops (if j=P.length then Lk else bh Lk P.length j) P.length k) n):=by show _=_;rw [gN,HLkn.out]
       generalize (if j=P.length then Lk else bh Lk P.length j)=L1 at *
       have hrow1:=hrw1.row (i:=P.length) (by omega)
       have tr:=hO1.cell hPl (by rw [hrow1.1];exact hlt)
       have ti:=hO1.ints hPl (by rw [hrow1.1];exact hlt)
       have tc:=ti.cell k (by omega)
       rw [iS _ (show k<len by omega)] at tc
       have tp:=ti.pl
       have hkl : (k : Int)<len:=by omega
       have hel : G.El (nth (an L1 P.length) k):=hrow1.2 _ (aK (by rw [hrow1.1];omega))
       have hG1:=h.aa hc0
       have HG1 : Hid (dT U.drew b G/\(∀n,dT (U.drewN n) b G)/\∀n,dT ((U.drewN n).alloc (.cells #[.int .i64 0] 3)) b G) :=
        ⟨hG1.aa (I1 _ _).drew,λn=>hG1.drewN n,λn=>(hG1.drewN n).aa ((I1 _ _).alloc (IZ _) _)⟩
       have Hnz:=Z5 hnz1
       have Hl1:=Z5 hl1
       have Hrow1:=Z5 hrow1
       clear hrow1 hl1 hnz1 m0 m1 m2 mt x0 x1 x2 xt kx kf ci ri ck hpr r0 r1 r2 yt yk yf q0 q1 q2
       go_upto_region 15 with fail
       go_cut [10] (λdv wx=>∃d2 : Int,dv = .int .i64 d2/\G.El d2/\bf U wx)
       case first =>
        go_region_held3 (λw'=>w'.cell? ⟨w.heap.size,0,none⟩=some (.pointer (some ⟨b,0,none⟩))/\w'.cell? ⟨w.heap.size+1,0,none⟩=some (.slice a n c)/\w'.cell? ⟨V.heap.size,0,none⟩=some (.int .i64 P.length) /\
          w'.cell? ⟨aj a,aL a+P.length,none⟩=some (.slice (aO R1 P.length).1 len (aO R1 P.length).2)/\w'.cell? ⟨aj (aO R1 P.length).1,aL (aO R1 P.length).1+k,none⟩=some (.int .i64 (nth (an L1 P.length) k)))
         (exact ⟨c0,c1,ct,tr,tc⟩)
         (first
         | (go_at_call 153;((with_reducible refine (n9 d' _ HG1.out.1 hde' hel).mono ?_);rintro e w4 ⟨m4,rfl,rfl⟩)))
        all_goals (
         go_step;go_step
         go_meet
         exact ⟨_,rfl,NJ h _ _,⟨_,rfl⟩⟩)
       obtain ⟨d2,rfl,hde2,m5,rfl⟩:=hcut
       have hS : ∀ W, NS U W → W.cell? ⟨w.heap.size, 0, none⟩ = some (.pointer (some ⟨b, 0, none⟩)) ∧ W.cell? ⟨w.heap.size + 1, 0, none⟩ = some (.slice a n c) ∧ W.cell? ⟨V.heap.size, 0, none⟩ = some (.int .i64 P.length) ∧
             W.cell? ⟨aj a,aL a+P.length,none⟩=some (.slice (aO R1 P.length).1 len (aO R1 P.length).2)/\W.cell? ⟨aj (aO R1 P.length).1,aL (aO R1 P.length).1+k,none⟩=some (.int .i64 (nth (an L1 P.length) k))/\NS U W :=
        λW hW=>⟨aB hW c0,aB hW c1,aB hW ct,aB hW tr,aB hW tc,hW⟩
       have HS:=Z5 hS
       clear hS
       go_upto_region 16 with fail
       go_cut [16,17] (λiv ev wx=>∃gi,iv = .pointer (some ⟨gi,0,none⟩)/\U.heap.size<=gi/\ev = .int .i64 0/\wx.cell? ⟨gi,0,none⟩=some (.int .i64 (G.inv (nth (an L1 P.length) k)))/\NS U wx)
       case first =>
        have hBU : NS U (U.drewN m5):=below_drewN (I1 _ _) m5
        have hfc : ∀k,((U.drewN k).alloc (.cells #[.int .i64 0] 3)).cell? ⟨U.heap.size,0,none⟩=some (.int .i64 0):=λk=>bk (U.drewN k) _ _
        have hfc2 : ∀k k',(((U.drewN k).alloc (.cells #[.int .i64 0] 3)).drewN k').cell? ⟨U.heap.size,0,none⟩=some (.int .i64 0):=λk _=>bk (U.drewN k) _ _
        have hff2 : ∀k k',(((U.drewN k).alloc (.cells #[.int .i64 0] 3)).drewN k').frozen? ⟨U.heap.size,0,none⟩=false:=λk _=>kb (U.drewN k) _ _
        have hff : ∀k,((U.drewN k).alloc (.cells #[.int .i64 0] 3)).frozen? ⟨U.heap.size,0,none⟩=false:=λk=>kb (U.drewN k) _ _
        go_region_held3 (λW=>W.cell? ⟨w.heap.size,0,none⟩=some (.pointer (some ⟨b,0,none⟩))/\W.cell? ⟨w.heap.size+1,0,none⟩=some (.slice a n c)/\W.cell? ⟨V.heap.size,0,none⟩=some (.int .i64 P.length) /\
          W.cell? ⟨aj a,aL a+P.length,none⟩=some (.slice (aO R1 P.length).1 len (aO R1 P.length).2)/\W.cell? ⟨aj (aO R1 P.length).1,aL (aO R1 P.length).1+k,none⟩=some (.int .i64 (nth (an L1 P.length) k))/\NS U W)
         ((refine HS.out _ ?_;first | exact hBU.drew | exact below_drewN (I1 _ _) _ | exact (below_drewN (I1 _ _) _).alloc (IZ _) _ | exact ((below_drewN (I1 _ _) _).alloc (IZ _) _).setCell (IZ _) _ | exact below_drewN ((below_drewN (I1 _ _) _).alloc (IZ _) _) _ | exact (below_drewN ((below_drewN (I1 _ _) _).alloc (IZ _) _) _).setCell (IZ _) _))
         (first
         | (go_at_call 193;((with_reducible refine (zB _ (HG1.out.2.1 _) hel Hnz.out).mono ?_);rintro e w4 ⟨m4,rfl,rfl⟩))
         | (go_at_call 193;((with_reducible refine (zB _ (HG1.out.2.2 _) hel Hnz.out).mono ?_);rintro e w4 ⟨m4,rfl,rfl⟩)))
        all_goals (
         go_step;go_step
         go_meet)
        ·exact ⟨U.heap.size,rfl,IZ _,rfl,Jk _ _ _ (hfc _),((below_drewN (I1 _ _) _).alloc (IZ _) _).setCell (IZ _) _⟩
        ·exact ⟨U.heap.size,rfl,IZ _,rfl,Jk _ _ _ (hfc2 _ _),(below_drewN ((below_drewN (I1 _ _) _).alloc (IZ _) _) _).setCell (IZ _) _⟩
       obtain ⟨gi,rfl,hgi,rfl,ig,hbi⟩:=hcut
       obtain ⟨i0,i1,it,ir,ic,_⟩:=HS.out wc hbi
       have i2:=aB hbi c2
       have hOi:=hO1.aa hbi
       have hci : NS w0 wc:=Ju hc0 (hbi.mono hc0.size)
       have hrw2:=hrw1.norm (NA h) (t:=P.length) (c:=k) (by rw [Hl1.out];exact hPl) (by omega) Hnz.out
       have hl2 : (bm G.ops L1 P.length k).length=n:=by rw [cZ];exact Hl1.out
       have Hl2:=Z5 hl2
       clear hl2
       go_upto_if 92 with fail
       go_cut [] (λwx=>∃R2 S2,dM wx w0.heap.size a n c R2 ae ce S2 len (bm G.ops L1 P.length k)/\aA U wx (I2 a R1 ae S1) (I2 a R2 ae S2))
       case first =>
        have hv : G.ops.inv (nth (an L1 P.length) k)=G.inv (nth (an L1 P.length) k):=rfl
        have Hv:=Z5 hv
        clear hv
        by_cases hi1 : G.inv (nth (an L1 P.length) k)=1
        ·have Hn : Hid (bm G.ops L1 P.length k=L1):=by show _=_;rw [bm,I6 (by rw [Hv.out];exact hi1)]
         have hi1' : (G.inv (nth (an L1 P.length) k) != 1)=false:=by simp [hi1]
         clear hi1
         go_wp2_with fail
         go_meet
         exact ⟨R1,S1,by rw [Hn.out];exact hOi,Nn hbi _⟩
        ·have Hn : Hid (bm G.ops L1 P.length k=L1.set P.length ((an L1 P.length).map (G.mul (G.inv (nth (an L1 P.length) k))))):=by show _=_;rw [bm,I5 (by rw [Hv.out];exact hi1)];rfl
         have hi1' : (G.inv (nth (an L1 P.length) k) != 1)=true:=by simpa using hi1
         have hea:=Au w0 a n c R1 ae ce S1 len tot L1 (w.heap.size+1) (w.heap.size+1+1) w.heap.size gi V.heap.size (G.inv (nth (an L1 P.length) k)) P.length hOi i1 i2 HM.out.2.2.1 h hci i0 ig it hPl (NP h _) HM.out.1 (hO1.new hgi) HM.out.2.2.2 Hrow1.out.2 (by rw [Hrow1.out.1];exact hlen) hn
         have Hea:=Z5 hea
         clear hi1 hea
         go_wp2_with fail
         refine Hea.out.mono ?_
         rintro e w5 ⟨rfl,R2,S2,hO5,hM5⟩
         go_wp2_with fail
         go_meet
         exact ⟨R2,S2,by rw [Hn.out];exact hO5,(Nn hbi _).trans hM5⟩
       obtain ⟨R2,S2,hO2,hM2⟩:=hcut
       generalize wc=T at *
       have t0:=hM2.cell c0 HM.out.1
       have t1:=hM2.cell c1 HM.out.2.1
       have t2:=hM2.cell c2 HM.out.2.2.1
       have tt:=hM2.cell ct HM.out.2.2.2
       have hc2 : NS w0 T:=hc0.trans (hM2.below (λb' hb'=>(hO1.lt b' hb').1) hc0.size)
       have k0 : ¬ I2 a R2 ae S2 w.heap.size:=hM2.not (Jf U _ c0) HM.out.1
       have k1 : ¬ I2 a R2 ae S2 (w.heap.size+1):=hM2.not (Jf U _ c1) HM.out.2.1
       have k2 : ¬ I2 a R2 ae S2 (w.heap.size+1+1):=hM2.not (Jf U _ c2) HM.out.2.2.1
       have k3 : ¬ I2 a R2 ae S2 V.heap.size:=hM2.not (Jf U _ ct) HM.out.2.2.2
       have HK:=Z5 (Jg k0 (Jg k1 (Jg k2 k3)))
       have hmT : aA W0 T (I2 a R ae S) (I2 a R2 ae S2):=hmv.trans ((Nn hbx _).trans (hM1.trans hM2))
       have hop1:=aX hop hbx
       have hop2:=hM1.own hop1 hoi.out
       have ho2 : ap ≠ none->¬ I2 a R1 ae S1 (aj ap):=λhn=>hM1.not (aM hop1 hn).2 (hoi.out hn)
       have hop3:=hM2.own hop2 ho2
       have ho3 : ap ≠ none->¬ I2 a R2 ae S2 (aj ap):=λhn=>hM2.not (aM hop2 hn).2 (ho2 hn)
       have Ho3:=Z5 ho3
       clear k0 k1 k2 k3 c0 c1 c2 ct tr ti tc tp i0 i1 i2 it ir ic ig hop hop1 hop2 ho2 ho3 hel
       generalize bm G.ops L1 P.length k=L2 at *
       go_upto_region 19 with fail
       go_wp2_with fail
       go_loopw [98] (λiv wx=>∃i : Nat,i<=n/\iv = .int .i64 i/\dM wx w0.heap.size a n c R2 ae ce S2 len (aR G.ops P.length k L2 i)/\aA T wx (I2 a R2 ae S2) (I2 a R2 ae S2)) (λiv _=>n - (intOf iv).toNat)
       case atStart=>exact ⟨0,I7 _,rfl,hO2,Ns _ _⟩
       case round =>
        obtain ⟨i,hi,rfl,hOi,hMi⟩:=hrel
        generalize wr=X at *
        have x0:=hMi.cell t0 HK.out.1
        have x1:=hMi.cell t1 HK.out.2.1
        have x2:=hMi.cell t2 HK.out.2.2.1
        have xt:=hMi.cell tt HK.out.2.2.2
        have hcx : NS w0 X:=hc2.trans (hMi.below (λb' hb'=>(hO2.lt b' hb').1) hc2.size)
        by_cases hin : i<n
        ·have hrwi:=Nv (NA h) hrw2 (t:=P.length) (c:=k) (by rw [Hl2.out];exact hPl) (by omega) i (by rw [Hl2.out];exact hi)
         have hli : (aR G.ops P.length k L2 i).length=n:=by rw [cY];exact Hl2.out
         have hstep : aR G.ops P.length k L2 (i+1)=if i=P.length then aR G.ops P.length k L2 i else (aR G.ops P.length k L2 i).set i (bY G.ops (an (aR G.ops P.length k L2 i) P.length) k (an (aR G.ops P.length k L2 i) i)):=rfl
         have Hstep:=Z5 hstep
         clear hstep
         generalize aR G.ops P.length k L2 i=Li at *
         have hri:=hrwi.row (i:=i) (by omega)
         have hrt:=hrwi.row (i:=P.length) (by omega)
         have ci:=hOi.cell hin (by rw [hri.1];exact hlt)
         have ii:=hOi.ints hin (by rw [hri.1];exact hlt)
         have ck:=ii.cell k (by omega)
         rw [iS _ (show k<len by omega)] at ck
         have hpi:=ii.pl
         have hxel : G.El (nth (an Li i) k):=hri.2 _ (aK (by rw [hri.1];omega))
         have Hri:=Z5 hri
         have Hrt:=Z5 hrt
         clear hri hrt hli
         have a1:=aY x1 (.cells #[.int .i64 i] 3)
         have a2:=bk X (.int .i64 i) 3
         have a3:=aY ci (.cells #[.int .i64 i] 3)
         have a4:=aY ck (.cells #[.int .i64 i] 3)
         have b1:=aY a1 (.cells #[.int .i64 (nth (an Li i) k)] 3)
         have b2:=aY a2 (.cells #[.int .i64 (nth (an Li i) k)] 3)
         have b3:=aY (aY xt (.cells #[.int .i64 i] 3)) (.cells #[.int .i64 (nth (an Li i) k)] 3)
         have b4 : ((X.alloc (.cells #[.int .i64 i] 3)).alloc (.cells #[.int .i64 (nth (an Li i) k)] 3)).cell? ⟨X.heap.size+1,0,none⟩=some (.int .i64 (nth (an Li i) k)):=bM _ _ _ (by simp)
         by_cases hit : i=P.length
         ·have hit' : ((i : Int) != P.length)=false:=by simp [hit]
          have Hn : Hid (aR G.ops P.length k L2 (i+1)=Li):=by show _=_;rw [Hstep.out,I6 hit]
          clear hit
          go_wp2_with fail
          go_roundw
          case rel=>exact ⟨i+1,by omega,by go_num,by rw [Hn.out];exact hOi.aa (((I1 _ _).alloc (IZ _) _).alloc (by simp) _),hMi.trans (Nn (((I1 _ _).alloc (IZ _) _).alloc (by simp) _) _)⟩
          case measure=>simp [intOf] <;> omega
         ·have hit' : ((i : Int) != P.length)=true:=by simp;omega
          by_cases hx0 : nth (an Li i) k=0
          ·have hx0' : (nth (an Li i) k != 0)=false:=by simp [hx0]
           have Hn : Hid (aR G.ops P.length k L2 (i+1)=Li):=by show _=_;rw [Hstep.out,I5 hit,bY,I6 hx0,jG]
           clear hit hx0
           go_wp2_with fail
           go_roundw
           case rel=>exact ⟨i+1,by omega,by go_num,by rw [Hn.out];exact hOi.aa (((I1 _ _).alloc (IZ _) _).alloc (by simp) _),hMi.trans (Nn (((I1 _ _).alloc (IZ _) _).alloc (by simp) _) _)⟩
           case measure=>simp [intOf] <;> omega
          ·have hx0' : (nth (an Li i) k != 0)=true:=by simpa using hx0
           have Hn : Hid (aR G.ops P.length k L2 (i+1)=Li.set i (bP G.ops (an Li i) (G.neg (nth (an Li i) k)) (an Li P.length))):=by show _=_;rw [Hstep.out,I5 hit,bY,I5 hx0];rfl
           have hbz : NS X ((X.alloc (.cells #[.int .i64 i] 3)).alloc (.cells #[.int .i64 (nth (an Li i) k)] 3)):=((I1 _ _).alloc (IZ _) _).alloc (by simp) _
           have zi : ((X.alloc (.cells #[.int .i64 i] 3)).alloc (.cells #[.int .i64 (nth (an Li i) k)] 3)).cell? ⟨X.heap.size,0,none⟩=some (.int .i64 i):=aY (bk _ _ _) _
           have zx : ((X.alloc (.cells #[.int .i64 i] 3)).alloc (.cells #[.int .i64 (nth (an Li i) k)] 3)).cell? ⟨X.heap.size+1,0,none⟩=some (.int .i64 (nth (an Li i) k)):=bM _ _ _ (by simp)
           have hea:=Ar w0 a n c R2 ae ce S2 len tot Li (w.heap.size+1) (w.heap.size+1+1) w.heap.size X.heap.size (X.heap.size+1) V.heap.size i (nth (an Li i) k) P.length (hOi.aa hbz) (aB hbz x1) (aB hbz x2) HK.out.2.2.1 h (hcx.trans (hbz.mono hcx.size)) (aB hbz x0) zi zx (aB hbz xt) hin hPl hit hxel
            HK.out.1 (hOi.new (IZ _)) (hOi.new (by omega)) HK.out.2.2.2 Hri.out.2 Hrt.out.2 Hri.out.1 Hrt.out.1 hlt hn
           have hmz:=hMi.trans (Nn hbz _)
           have Hmz:=Z5 hmz
           have Hea:=Z5 hea
           clear hit hx0 hea zi zx hbz hmz
           go_wp2_with fail
           refine Hea.out.mono ?_
           rintro e w5 ⟨rfl,hO5,hM5⟩
           go_wp2_with fail
           go_roundw
           case rel=>exact ⟨i+1,by omega,by go_num,by rw [Hn.out];exact hO5,Hmz.out.trans hM5⟩
           case measure=>simp [intOf] <;> omega
        ·obtain rfl : i=n:=by omega
         have hopx:=hMi.own hop3 Ho3.out
         have hsz0 : w.heap.size+1+1+1<=X.heap.size:=by have e1:=HsW0.out;have e2:=(hmT.trans hMi).size;omega
         have hcn:=bk X (.int .i64 k) 3
         have hbX:=(I1 X.heap.size X).alloc (IZ _) (.cells #[.int .i64 k] 3)
         have hpl8:=HPn.out
         go_wp2_with (at_builtin;refine bg rfl _ _ 22 3 rfl (.int .i64 0) 8 underlying22 ba rfl (w.heap.size+1+1+1) ap P.length cp _ rfl (hopx.alloc _) ⟨X.heap.size,0,none⟩ 1 (.int .i64 k) rfl hcn rfl (by omega) (by unfold maxLen;omega) (Ji hsz0 hbX.size) ?_;intro a3 c3 w3 hown3 hgr hap3)
         go_roundw
         case rel =>
          have hnx : aD G.ops L (k+1)=(aR G.ops P.length k L2 i,P ++ [(k : Int)]):=by rw [du hst.out (by rw [HLkn.out];exact hPl),I5 (by rw [Hf.out,HLkn.out];omega),Hf.out,HL1.out]
          have hne : ∀b',I2 a R2 ae S2 b'->cJ ap b':=λb' hb'=>by
           by_cases hn : ap=none
           ·exact .inl hn
           ·exact .inr λe=>Ho3.out hn (by rw [e];exact hb')
          have hO3 : dM w3 w0.heap.size a i c R2 ae ce S2 len (aR G.ops P.length k L2 i) :=
           (hOi.aa hbX).bj λb' hb'=>hgr.block b' ((hOi.aa hbX).lt b' hb').2 λe=>(hne b' hb').own P.length cp e.symm
          have hb3 : Below (w.heap.size+1+1+1) X w3:=Nk (hbX.mono hsz0) (hopx.alloc _) hgr (IZ _) (Ji hsz0 hbX.size)
          have hm3 : aA W0 w3 (I2 a R ae S) (I2 a R2 ae S2):=by have h1:=hmT.trans hMi;refine ⟨hb3.os.trans h1.os,hb3.tape.trans h1.tape,hb3.output.trans h1.output,Ji h1.size hb3.size,λb' hb' hI=>(hb3.block b' (by rw [HsW0.out];exact hb')).trans (h1.block b' hb' hI),h1.grow⟩
          have hrw3:=Nv (NA h) hrw2 (t:=P.length) (c:=k) (by rw [Hl2.out];exact hPl) (by omega) i (by rw [Hl2.out];exact hi)
          have ho4 : a3 ≠ none->¬ I2 a R2 ae S2 (aj a3):=λhn hI=>by
           rcases hap3 _ ((hOi.aa hbX).lt _ hI).2 (hne _ hI) with h1 | h1
           ·exact hn h1
           ·exact h1 rfl
          refine ⟨k+1,R2,S2,a3,c3,d2,aR G.ops P.length k L2 i,P ++ [(k : Int)],by omega,by go_num,by simp,rfl,hnx.symm,hO3,?_,ho4,hm3,hrw3,hde2,by simp;omega⟩
          simpa using hown3
         case measure=>simp [intOf] <;> omega
     ·obtain rfl : j=n:=by omega
      have Hn : Hid ((Lk,P)=aD G.ops L (k+1)):=by show _=_;rw [du hst.out (by rw [HLkn.out];exact hPl),I6 (by rw [hfr.out,jq (by rw [HLkn.out];exact IZ _),HLkn.out])]
      go_wp2_with fail
      go_roundw
      case rel =>
       have hmx : aA W0 wr (I2 a R ae S) (I2 a R' ae S'):=hmv.trans (Nn hbx _)
       exact ⟨k+1,R',S',ap,cp,d,Lk,P,by omega,by go_num,rfl,rfl,Hn.out,hOx,aX hop hbx,hoi.out,hmx,hrw,hde,HPn.out⟩
      case measure=>simp [intOf] <;> omega
   ·have hPe : P.length=n:=by omega
    have hfull : (Lk,P)=aD G.ops L m:=by rw [show m=k+(m - k) by omega,fu (by rw [<- hst.out,hPe,<- hO.ll]),<- hst.out]
    have Hfull:=Z5 hfull
    have hPe' : ((P.length : Int)<n)=False:=by simp;omega
    clear hfull hPe
    go_wp2_with fail
    go_ret2
    exact Hfin.out _ _ _ _ _ _ _ _ Hfull.out hOr (aU hop (by omega)) hmw
  ·obtain rfl : k=m:=by omega
   go_wp2_with fail
   go_ret2
   exact Hfin.out _ _ _ _ _ _ _ _ hst.out hOr (aU hop (by omega)) hmw
end
end Go.Proofs.YtcfmiocdlcapoaaGreat
