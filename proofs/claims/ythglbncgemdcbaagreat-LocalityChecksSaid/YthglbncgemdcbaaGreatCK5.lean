import Derived.Test.YthglbncgemdcbaaGreatCK4
namespace Go.Proofs.YthglbncgemdcbaaGreat
set_option linter.all false
set_option maxRecDepth 100000
set_option maxHeartbeats 4000000
open Go.RowKit Go.Proofs.Tryz
section
variable {w : World} {b : Nat} {G : cX}
theorem dg.dQ {a Z : OA} {R : LA} {w w' : World} (h : dg Z w w') (Y : Z ≠ none->bX a R (ablk Z)) : aD w w' (bX a R) (bX a R) :=
 ⟨h.os,h.tape,h.output,h.size,λb hb hI=>h.block b hb (λ⟨h1,h2⟩=>hI (by rw [h2];exact Y h1)),λ_ h=>.inl h⟩
theorem CB (H : World) (a : OA) (n c : Nat) (R : LA) (L : Ll) (F pi E A m : Nat) (i : Nat) (x : Int) (t : Nat) (V : aT w H.heap.size a n c R L)
  (h : ee H b G) (hb : OC H w)
  (hg : w.cell? ⟨F,0,none⟩=some (.pointer (some ⟨b,0,none⟩))) (hi : w.cell? ⟨pi,0,none⟩=some (.int .i64 i)) (hx : w.cell? ⟨E,0,none⟩=some (.int .i64 x)) (ht : w.cell? ⟨A,0,none⟩=some (.int .i64 t))
  (Y : i<n) (I : t<n) (hit : i ≠ t) (j : G.El x) (ng : ¬ bX a R F) (ni : ¬ bX a R pi) (nx : ¬ bX a R E) (nt : ¬ bX a R A) (hei : G.DU (ai L i)) (het : G.DU (ai L t)) (U : (ai L i).length=m) (K : (ai L t).length=m) :
  Calls prog 256 #[.slice a n c,.pointer (some ⟨F,0,none⟩),.pointer (some ⟨pi,0,none⟩),.pointer (some ⟨E,0,none⟩),.pointer (some ⟨A,0,none⟩)] w
   λe w'=>e = .returned (.tuple #[])/\aT w' H.heap.size a n c R (L.set i (bN G.ops (ai L i) (G.neg x) (ai L t)))/\aD w w' (bX a R) (bX a R):=by
 have hpl:=V.pl;have ct:=V.cell I;have ci:=V.cell Y;have ri:=V.row i Y;have rt:=V.ints I;have Q:=V.sep i t Y I hit;have hne : G.El (G.neg x):=cX.uX h x;rw [K] at ct rt;rw [U] at ci ri;have C : (aR R i).1=none\/(aR R t).1=none\/ablk (aR R t).1 ≠ ablk (aR R i).1:=Q;have S : ∀k,Calls prog 198 #[.pointer (some ⟨b,0,none⟩),.slice (aR R i).1 m (aR R i).2,.int .i64 (G.neg x),.slice (aR R t).1 m (aR R t).2] (w.drewN k)
   λe w'=>e = .returned (.tuple #[])/\(w'.cell? ⟨F,0,none⟩=some (.pointer (some ⟨b,0,none⟩))/\w'.cell? ⟨pi,0,none⟩=some (.int .i64 i)/\w'.cell? ⟨E,0,none⟩=some (.int .i64 x)/\w'.cell? ⟨A,0,none⟩=some (.int .i64 t) /\
    w'.cell? ⟨ablk a,aL a+t,none⟩=some (.slice (aR R t).1 m (aR R t).2)/\w'.cell? ⟨ablk a,aL a+i,none⟩=some (.slice (aR R i).1 m (aR R i).2))/\(aT w' H.heap.size a n c R (L.set i (bN G.ops (ai L i) (G.neg x) (ai L t)))/\aD w w' (bX a R) (bX a R)):=by
  intro k;have hd : bm w (w.drewN k):=⟨k,rfl⟩
  refine (F6 H _ _ m (ai L i) (G.neg x) _ _ (ai L t) h (hd.Ff hb) (bp ri hd.below) (rt.af hd.below) C hei het hne).mono ?_;rintro e w' ⟨rfl,D,Z⟩;have X : aD w w' (bX a R) (bX a R):=(N3 hd.below _).trans (Z.dQ (λhn=>aT.nh (by rw [V.rl];exact Y) hn));have N : ¬ ((aR R i).1 ≠ none/\ablk a=ablk (aR R i).1):=by
   rintro ⟨h1,h2⟩;rcases V.sP i Y with h3 | h3
   ·exact h1 h3
   ·exact h3 h2.symm
  refine ⟨rfl,⟨X.cell hg ng,X.cell hi ni,X.cell hx nx,X.cell ht nt,aD.cell (On (N3 hd.below _) Z) ct N,aD.cell (On (N3 hd.below _) Z) ci N⟩,?_,X⟩;have hOr:=V.af hd.below;have hl : (bN G.ops (ai L i) (G.neg x) (ai L t)).length=(ai L i).length:=cR _ _ _ _ (by rw [U,K]);refine hOr.Jk Y hl (by rw [U];exact D) λb hb hne=>Z.block b hb λ⟨h1,h2⟩=>?_;rcases hne with h3 | h3
  ·exact h1 h3
  ·exact h3 h2
 have B:=Z5 S;have hG:=h.af hb;have HG : Hid (ee w.drew b G/\∀n,ee (w.drewN n) b G):=⟨hG.af (JP _ _).drew,λn=>hG.drewN n⟩
 clear S Q C U K;generalize L.set i (bN G.ops (ai L i) (G.neg x) (ai L t))=L' at *;go_enter func256,ntmps256;go_wp2_with fail;go_region_held3 (fun w' => w'.cell? ⟨F, 0, none⟩ = some (.pointer (some ⟨b, 0, none⟩)) ∧ w'.cell? ⟨pi, 0, none⟩ = some (.int .i64 i) ∧ w'.cell? ⟨E, 0, none⟩ = some (.int .i64 x) ∧ w'.cell? ⟨A, 0, none⟩ = some (.int .i64 t) ∧
       w'.cell? ⟨ablk a,aL a+t,none⟩=some (.slice (aR R t).1 m (aR R t).2)/\w'.cell? ⟨ablk a,aL a+i,none⟩=some (.slice (aR R i).1 m (aR R i).2))
  (first | assumption | exact ⟨hg,hi,hx,ht,ct,ci⟩)
  (first
  | (go_at_call 103;((with_reducible refine (FT x HG.out.1 j).mono ?_);rintro e w4 ⟨m4,rfl,rfl⟩))
  | (go_at_call 198;((with_reducible refine (B.out _).mono ?_);rintro e w5 ⟨rfl,hS5,z,r⟩)))
 go_wp2_with fail;go_end0;exact ⟨rfl,z,r⟩
end
section
variable {w : World}
theorem Dc (c0 c1 : Value) (p q : Nat) (a : OA) (n c : Nat) (X : World->Prop) (h1 : w.cell? ⟨p,0,none⟩=some (.slice a n c))
  (Z : Calls prog 254 #[.slice a n c,c0,c1] w λe w'=>e = .returned (.tuple #[])/\w'.cell? ⟨q,0,none⟩=some (.slice none 0 0)/\X w') :
  Calls prog 253 #[.func (.func 254) #[] #[c0,c1],.pointer (some ⟨p,0,none⟩),.pointer (some ⟨q,0,none⟩)] w
   λe w'=>e = .returned (.tuple #[])/\X w':=by have Y:=Z5 Z;clear Z;go_enter func253,ntmps253;go_wp2_with fail;refine Y.out.mono ?_;rintro e w' ⟨rfl,U,V⟩;go_wp2_with fail;go_end0;exact ⟨rfl,V⟩
theorem CS (c0 c1 c2 : Value) (p q : Nat) (a : OA) (n c : Nat) (X : World->Prop) (h1 : w.cell? ⟨p,0,none⟩=some (.slice a n c))
  (Z : Calls prog 255 #[.slice a n c,c0,c1,c2] w λe w'=>e = .returned (.tuple #[])/\w'.cell? ⟨q,0,none⟩=some (.slice none 0 0)/\X w') :
  Calls prog 253 #[.func (.func 255) #[] #[c0,c1,c2],.pointer (some ⟨p,0,none⟩),.pointer (some ⟨q,0,none⟩)] w
   λe w'=>e = .returned (.tuple #[])/\X w':=by have Y:=Z5 Z;clear Z;go_enter func253,ntmps253;go_wp2_with fail;refine Y.out.mono ?_;rintro e w' ⟨rfl,U,V⟩;go_wp2_with fail;go_end0;exact ⟨rfl,V⟩
theorem B3 (c0 c1 c2 Y : Value) (p q : Nat) (a : OA) (n c : Nat) (X : World->Prop) (h1 : w.cell? ⟨p,0,none⟩=some (.slice a n c))
  (Z : Calls prog 256 #[.slice a n c,c0,c1,c2,Y] w λe w'=>e = .returned (.tuple #[])/\w'.cell? ⟨q,0,none⟩=some (.slice none 0 0)/\X w') :
  Calls prog 253 #[.func (.func 256) #[] #[c0,c1,c2,Y],.pointer (some ⟨p,0,none⟩),.pointer (some ⟨q,0,none⟩)] w
   λe w'=>e = .returned (.tuple #[])/\X w':=by have V:=Z5 Z;clear Z;go_enter func253,ntmps253;go_wp2_with fail;refine V.out.mono ?_;rintro e w' ⟨rfl,S,U⟩;go_wp2_with fail;go_end0;exact ⟨rfl,U⟩
end
section
structure bI (O : aM) (El : Int->Prop) : Prop where
 cl : qa O El
 zero : El 0
 one : El 1
 add_comm : ∀x y,El x->El y->O.add x y=O.add y x
 add_assoc : ∀x y z,El x->El y->El z->O.add (O.add x y) z=O.add x (O.add y z)
 add_zero : ∀x,El x->O.add x 0=x
 add_neg : ∀x,El x->O.add x (O.neg x)=0
 mul_comm : ∀x y,El x->El y->O.mul x y=O.mul y x
 mul_assoc : ∀x y z,El x->El y->El z->O.mul (O.mul x y) z=O.mul x (O.mul y z)
 one_mul : ∀x,El x->O.mul 1 x=x
 mul_add : ∀x y z,El x->El y->El z->O.mul x (O.add y z)=O.add (O.mul x y) (O.mul x z)
 mul_inv : ∀x,El x->x ≠ 0->O.mul x (O.inv x)=1
def pw (P : Int) (M : Nat) (mod : LI) (y : Int) : Nat->Int
 | 0=>1
 | k+1=>dh P M mod (pw P M mod y k) y
variable {P : Int} {M : Nat} {mod : LI} {q : Nat} {y : Int}
theorem o0 (h : kj P M) (y : Int) : ∀k,eH P M (pw P M mod y k)
 | 0=>vy h
 | k+1=>fs h _ _
theorem gS (h : kj P M) (y : Int) (a : Nat) : ∀b,dh P M mod (pw P M mod y a) (pw P M mod y b)=pw P M mod y (a+b)
 | 0=>by rw [pw,iA h,gM h (o0 h y a)];rfl
 | b+1=>by rw [pw,<- qQ h,gS h y a b];rfl
theorem s9 (y : Int) : ∀(n : Nat) (l : LI),(∀i,i<l.length->nth l i=pw P M mod y i)->l.Nodup->(∀e ∈ l,e ≠ 0) ->
  (∀i,i<(powTo (λz=>dh P M mod z y) n l (pw P M mod y l.length)).length->nth (powTo (λz=>dh P M mod z y) n l (pw P M mod y l.length)) i=pw P M mod y i) /\
  (powTo (λz=>dh P M mod z y) n l (pw P M mod y l.length)).Nodup/\∀e ∈ powTo (λz=>dh P M mod z y) n l (pw P M mod y l.length),e ≠ 0
 | 0,l,h1,h2,h3=>⟨h1,h2,h3⟩
 | n+1,l,h1,h2,h3=>by
  by_cases Z : pw P M mod y l.length=0\/pw P M mod y l.length ∈ l
  ·rw [iQ _ _ _ _ Z];exact ⟨h1,h2,h3⟩
  ·rw [qZ _ _ _ _ Z];have e : dh P M mod (pw P M mod y l.length) y=pw P M mod y (l ++ [pw P M mod y l.length]).length:=by simp [pw]
   rw [e];refine s9 y n _ (λi hi=>?_) ?_ ?_
   ·simp only [J0,Ka] at hi;by_cases Y : i<l.length
    ·rw [nth,JS,J8 Y,<- JS];exact h1 i Y
    ·obtain rfl : i=l.length:=by omega
     simp [nth]
   ·rw [K2];refine ⟨h2,by simp,λa ha b hb=>?_⟩;rw [List.mem_singleton.1 hb];intro e;exact Z (.inr (e ▸ ha))
   ·intro e he;rcases List.mem_append.1 he with h | h
    ·exact h3 e h
    ·rw [List.mem_singleton.1 h];intro e;exact Z (.inl e)
theorem Fe (h : kj P M) (Z : eH P M y) (q : Nat) :
  (∀i,i<(eK P M mod q y).length->nth (eK P M mod q y) i=pw P M mod y i)/\(eK P M mod q y).Nodup/\∀e ∈ eK P M mod q y,e ≠ 0:=by
 have e : pw P M mod y [(1 : Int)].length=y:=by show dh P M mod (pw P M mod y 0) y=y;rw [pw,gM h Z]
 have:=s9 (P:=P) (M:=M) (mod:=mod) y q [1] (λi hi=>by
  have : i=0:=by simp at hi;omega
  subst this;rfl) (by simp) (by simp)
 rw [e] at this;exact this
structure sr (P : Int) (M : Nat) (mod : LI) (q : Nat) (y : Int) (ex : LI) : Prop where
 res : kj P M
 q2 : 2<=q
 pq : (q : Int)=P ^ M
 yel : eH P M y
 len : ex.length=q - 1
 val : ∀i,i<q - 1->nth ex i=pw P M mod y i
 nodup : ex.Nodup
 ne : ∀e ∈ ex,e ≠ 0
 last : pw P M mod y (q - 1)=1
theorem sr.yj (h : kj P M) (V : (q : Int)=P ^ M) (X : eH P M y) (Z : fM P M mod q y=true) : sr P M mod q y (eK P M mod q y):=by
 have Y : 2<=q:=by have:=one_lt_pow h;omega
 simp only [fM,J9,beq_iff_eq] at Z;obtain ⟨h1,h2,h3⟩:=Fe (mod:=mod) h X q;refine ⟨h,Y,V,X,Z.1,λi hi=>h1 i (by omega),h2,h3,?_⟩;have:=Z.2;rw [h1 _ (by omega)] at this;rw [show q - 1=(q - 2)+1 by omega];exact this
namespace sr
variable {ex : LI}
theorem mem (g : sr P M mod q y ex) {e : Int} (he : eH P M e) (h0 : e ≠ 0) : e ∈ ex:=by
 apply Kg;intro S;have V : (e :: ex).Nodup:=List.nodup_cons.2 ⟨S,g.nodup⟩;have Y : ∀x ∈ e :: ex,x ∈ (List.range (q - 1)).map (λi : Nat=>(i : Int)+1):=by
  intro x X;have Z : eH P M x/\x ≠ 0:=by
   rcases List.mem_cons.1 X with rfl | X
   ·exact ⟨he,h0⟩
   ·refine ⟨?_,g.ne x X⟩;obtain ⟨i,hi,rfl⟩:=List.mem_iff_getElem.1 X;rw [<- aj hi,g.val i (by rw [<- g.len];exact hi)];exact o0 g.res y i
  rw [Md];have h1:=Z.1.1;have h2:=Z.1.2;have h3:=Z.2;have N:=g.pq;have U:=g.q2;exact ⟨(x - 1).toNat,by rw [MA];omega,by omega⟩
 have hle:=List.Nodup.length_le_of_subset V Y;simp at hle;have U:=g.q2;have Q:=g.len;omega
theorem log (g : sr P M mod q y ex) {e : Int} (he : eH P M e) (h0 : e ≠ 0) : ∃k,k<q - 1/\e=pw P M mod y k/\nth ex k=e:=by
 obtain ⟨i,hi,e1⟩:=List.mem_iff_getElem.1 (g.mem he h0);have Z : i<q - 1:=by rw [<- g.len];exact hi
 refine ⟨i,Z,?_,?_⟩
 ·rw [<- g.val i Z,aj hi,e1]
 ·rw [aj hi,e1]
theorem period (g : sr P M mod q y ex) (a : Nat) : ∀n,pw P M mod y (a+n * (q - 1))=pw P M mod y a
 | 0=>by simp
 | n+1=>by rw [show a+(n+1) * (q - 1)=(a+n * (q - 1))+(q - 1) by rw [Nat.add_mul];omega,<- gS g.res,g.last,iA g.res,gM g.res (o0 g.res y _),period g a n]
theorem red (g : sr P M mod q y ex) (a : Nat) : pw P M mod y (a % (q - 1))=pw P M mod y a:=by have h:=g.period (a % (q - 1)) (a / (q - 1));rw [<- h,Lj,Nat.mod_add_div]
theorem Ia (g : sr P M mod q y ex) (a : Nat) : pw P M mod y a ≠ 0:=by have Y:=g.q2;rw [<- g.red a];have Z : a % (q - 1)<q - 1:=LM _ (by omega);rw [<- g.val _ Z];exact g.ne _ (aI (by rw [g.len];exact Z))
theorem inj (g : sr P M mod q y ex) {i j : Nat} (hi : i<q - 1) (Y : j<q - 1) (h : nth ex i=nth ex j) : i=j:=by
 rw [aj (by rw [g.len];exact hi),aj (by rw [g.len];exact Y)] at h;have Z:=List.pairwise_iff_getElem.1 g.nodup;rcases Nat.lt_trichotomy i j with h1 | h1 | h1
 ·exact absurd h (Z i j _ _ h1)
 ·exact h1
 ·exact absurd h.symm (Z j i _ _ h1)
theorem tG (g : sr P M mod q y ex) {k : Nat} (Z : k<q - 1) : eH P M (nth ex k):=by rw [g.val k Z];exact o0 g.res y k
theorem sW (g : sr P M mod q y ex) : ∀k,k<=q - 1->∀j,j<k->nth (logTo q ex k) (nth ex j).toNat=j
 | 0,_,j,X=>by omega
 | k+1,S,j,X=>by
  have Z:=g.tG (k:=k) (by omega);have Y:=g.tG (k:=j) (by omega);have h1:=Z.1;have h2:=Z.2;have h3:=Y.1;have V:=g.pq;rw [logTo,eh _ _ _ _ (by rw [ib];omega)];by_cases e : j=k
  ·subst e;rw [JT rfl]
  ·rw [JR]
   ·exact sW g k (by omega) j (by omega)
   ·intro U;exact e (g.inj (by omega) (by omega) (by omega))
theorem Gt (g : sr P M mod q y ex) {k : Nat} (Z : k<q - 1) : nth (logTo q ex (q - 1)) (pw P M mod y k).toNat=k:=by rw [<- g.val k Z];exact g.sW (q - 1) (JO _) k Z
theorem pQ (g : sr P M mod q y ex) {x z : Int} (Y : eH P M x) (Z : eH P M z) : r8 q ex (logTo q ex (q - 1)) x z=dh P M mod x z:=by
 unfold r8;by_cases h0 : x=0\/z=0
 ·rw [JT h0];rcases h0 with rfl | rfl
  ·rw [iA g.res,n7 g.res]
  ·rw [n7 g.res]
 ·rw [JR h0];obtain ⟨a,ha,rfl,_⟩:=g.log Y (λe=>h0 (.inl e));obtain ⟨b,hb,rfl,_⟩:=g.log Z (λe=>h0 (.inr e));have X:=g.q2;rw [g.Gt ha,g.Gt hb,gS g.res];have e1 : ((a : Int)+b) % ((q : Int) - 1)=(((a+b) % (q - 1) : Nat) : Int):=by rw [Lp,Int.natCast_add,M5 (by omega)];rfl
  rw [e1,JQ,g.val _ (LM _ (by omega)),g.red]
theorem DG (g : sr P M mod q y ex) {x : Int} (Z : eH P M x) (h0 : x ≠ 0) : dh P M mod x (wm q ex (logTo q ex (q - 1)) x)=1:=by
 obtain ⟨a,ha,rfl,_⟩:=g.log Z h0;have Y:=g.q2;unfold wm;rw [g.Gt ha];have e1 : ((q : Int) - 1 - a) % ((q : Int) - 1)=(((q - 1 - a) % (q - 1) : Nat) : Int):=by rw [Lp,M5 (by omega),M5 (by omega)];rfl
 rw [e1,JQ,g.val _ (LM _ (by omega)),g.red,gS g.res,show a+(q - 1 - a)=q - 1 by omega,g.last]
theorem Gb (g : sr P M mod q y ex) (x : Int) : eH P M (wm q ex (logTo q ex (q - 1)) x):=by have Z:=g.q2;unfold wm;refine g.tG ?_;have h1:=Kw ((q : Int) - 1 - nth (logTo q ex (q - 1)) x.toNat) (show (q : Int) - 1 ≠ 0 by omega);have h2:=Kn ((q : Int) - 1 - nth (logTo q ex (q - 1)) x.toNat) (show 0<(q : Int) - 1 by omega);omega
theorem JK (g : sr P M mod q y ex) : bI (cX.ops ⟨P,M,q,ex,logTo q ex (q - 1)⟩) (eH P M):=by
 have hmul : ∀ {x z : Int},eH P M x->eH P M z->(cX.ops ⟨P,M,q,ex,logTo q ex (q - 1)⟩).mul x z=dh P M mod x z:=λZ Y=>g.pQ Z Y;have h:=g.res;have hinv : ∀x,eH P M ((cX.ops ⟨P,M,q,ex,logTo q ex (q - 1)⟩).inv x):=λx=>g.Gb x;refine ⟨⟨λx z _ _=>gC h x z,λx z Z Y=>?_,λx _=>uW h x,λx _ _=>hinv x⟩,um h,vy h,λx z _ _=>Ci h x z,λx z u _ _ _=>yL h x z u,λx Z=>GR h Z,λx _=>Da h x,?_,?_,?_,?_,?_⟩
 ·rw [hmul Z Y];exact fs h x z
 ·intro x z Z Y;rw [hmul Z Y,hmul Y Z,iA h]
 ·intro x z u Z Y hu;rw [hmul Z Y,hmul Y hu,hmul (fs h x z) hu,hmul Z (fs h z u),qQ h]
 ·intro x Z;rw [hmul (vy h) Z,gM h Z]
 ·intro x z u Z Y hu;have X : (cX.ops ⟨P,M,q,ex,logTo q ex (q - 1)⟩).add=fsum P M:=rfl;rw [X,hmul Z (gC h z u),hmul Z Y,hmul Z hu,Es h]
 ·intro x Z h0;rw [hmul Z (hinv x)];exact g.DG Z h0
end sr
theorem jU {P M : Int} {mod : LI} (h : bq P M mod=true) : ∃(m : Nat) (y : Int),M=m/\kj P m/\P ^ m<=256/\cB P m mod=true/\(aH P m).toNat=P ^ m/\sr P m mod (aH P m).toNat y (fG P m mod (aH P m).toNat):=by
 unfold bq at h;rw [J9] at h;obtain ⟨U,S⟩:=h;have Y:=U;simp only [cB,J9,bne_iff_ne,ne_eq] at Y;obtain ⟨N,H,D,E,L,F⟩:=iD Y.1.1;obtain ⟨m,rfl⟩ : ∃m : Nat,M=m:=⟨M.toNat,by omega⟩
 rw [JQ] at *;have Z : kj P m:=⟨N,by omega⟩
 have Q : ((aH P m).toNat : Int)=P ^ m:=by have:=one_lt_pow Z;omega
 have hne : fG P m mod (aH P m).toNat ≠ []:=by intro e;rw [e] at S;simp at S
 obtain ⟨y,K,I,V,X⟩:=oe hne;refine ⟨m,y,rfl,Z,L,U,Q,?_⟩;rw [X];exact sr.yj Z Q ⟨by omega,by omega⟩ V
theorem dH {P M : Int} {mod : LI} (h : bq P M mod=true) : bI (ah P M.toNat mod).ops (ah P M.toNat mod).El:=by
 obtain ⟨m,y,rfl,Y,_,_,Z,g⟩:=jU h;have e : (ah P ((m : Int).toNat) mod).El=eH P m:=by funext x;simp only [cX.El,ah,eH,JQ];rw [Z]
 rw [e];exact g.JK
end
structure RF (P : Int) (m : Nat) : Prop where
 p2 : 2<=P
 p256 : P<=256
 m1 : 1<=m
 m8 : m<=8
 pw : P ^ m<=256
theorem RF.res {P : Int} {m : Nat} (h : RF P m) : kj P m:=⟨h.p2,h.m1⟩
theorem RF.order {P : Int} {m : Nat} (h : RF P m) : aH P m=P ^ m:=by have:=h.p2;have:=h.p256;have:=h.m1;have:=h.m8;have e:=lf (p:=P) (m:=m) (by omega) (by simpa using h.pw);rwa [JQ] at e
theorem RF.of {P M : Int} (h : aH P M ≠ 0) : ∃m : Nat,M=m/\RF P m:=by obtain ⟨h1,h2,h3,Y,Z,X⟩:=iD h;exact ⟨M.toNat,by omega,⟨h1,h2,by omega,by omega,Z⟩⟩
theorem mc (P M : Int) (am : OA) (N cm : Nat) (w : World) :
  Calls prog 24 #[.agg #[.int .i64 P,.int .i64 M,.slice am N cm]] w λe w'=>e = .returned (.int .i64 (aH P M))/\OC w w':=by
 have Y:=Z5 (an w (.cells #[.int .i64 P,.int .i64 M,.slice am N cm] 24));by_cases h1 : P<2
 ·have X:=Z5 (iP (p:=P) (m:=M) (.inl h1));go_enter func24,ntmps24;go_wp2;go_ret;exact ⟨aK X.out.symm,Y.out⟩
 have h1' : decide (P<2)=false:=by simpa using h1
 by_cases h2 : M<1
 ·have X:=Z5 (iP (p:=P) (m:=M) (.inr (.inr (.inl h2))));go_enter func24,ntmps24;go_wp2;go_ret;exact ⟨aK X.out.symm,Y.out⟩
 have z : decide (M<1)=false:=by simpa using h2
 by_cases h3 : 8<M
 ·have X:=Z5 (iP (p:=P) (m:=M) (.inr (.inr (.inr h3))));go_enter func24,ntmps24;go_wp2;go_ret;exact ⟨aK X.out.symm,Y.out⟩
 have B : decide (8<M)=false:=by simpa using h3
 obtain ⟨n,rfl⟩ : ∃n : Nat,M=n:=⟨M.toNat,by omega⟩
 go_enter func24,ntmps24;go_wp2_with fail;obtain ⟨W,U⟩ : ∃W : World,W=w.alloc (.cells #[.int .i64 P,.int .i64 n,.slice am N cm] 24):=⟨_,rfl⟩
 rw [<- U];have V : OC w W:=by rw [U];exact an _ _
 have c0 : W.cell? ⟨w.heap.size,0,none⟩=some (.int .i64 P):=by rw [U];exact aF _ _ _ rfl 0
 have c1 : W.cell? ⟨w.heap.size,1,none⟩=some (.int .i64 n):=by rw [U];exact aF _ _ _ rfl 1
 clear U;go_loop [3,4] (λqv iv=>∃k : Nat,k<=n/\iv = .int .i64 k/\qv = .int .i64 (P ^ k)/\P ^ k<=256/\1<=P ^ k) (λ_ i=>n - (intOf i).toNat);case atStart=>exact ⟨0,JU _,rfl,by simp,by simp,by simp⟩
 case round =>
  obtain ⟨k,hk,rfl,rfl,hb,L⟩:=hrel
  have K : P ≠ 0:=by omega
  by_cases r : k<n
  ·have e1 : P ^ (k+1)=P ^ k * P:=KH _ _
   have D : (0 : Int)<=256 / P:=Lf (by omega) (by omega)
   have A : 256 / P<=256:=Lo _ (by omega)
   by_cases E : 256 / P<P ^ k
   ·have Z : aH P n=0:=l6 (by intro h;have j:=dS (show 1<=P by omega) (show k+1<=n by omega);rw [JQ] at h;have H : 256<P ^ k * P:=Na (by omega) E;omega)
    have Q:=Z5 Z
    clear e1 Z
    generalize P ^ k=q at *
    go_wp2
    go_ret
    exact ⟨aK Q.out.symm,V⟩
   ·have H : P ^ k * P<=256:=by have C:=Int.mul_le_mul_of_nonneg_right (show P ^ k<=256 / P by omega) (show 0<=P by omega);have h9:=Int.ediv_mul_le 256 K;omega
    have e3 : 1 * 1<=P ^ k * P:=L3 L (by omega) (by omega) (by omega)
    have S:=Z5 e1
    clear e1
    generalize P ^ k=q at *
    go_wp2
    go_round
    case rel=>exact ⟨k+1,by omega,by go_num,by rw [S.out],by rw [S.out];exact H,by rw [S.out];omega⟩
    case measure=>simp [intOf] <;> omega
  ·obtain rfl : k=n:=by omega
   by_cases F : 256<P
   ·have I : 1<=k:=by omega
    have j:=dS (show 1<=P by omega) I
    have C : P ^ 1=P:=by rw [KH,LK,Mo]
    omega
   ·have Q:=Z5 (lf (p:=P) (m:=k) (by omega) (by simpa using hb))
    go_wp2
    go_ret
    exact ⟨aK (by rw [Q.out];simp),V⟩
theorem rZ (n : Nat) (w : World) (h2 : 2<=n) (S : n<=256) :
  Calls prog 95 #[.int .i64 n] w λe w'=>e = .returned (.bool (fP n))/\w=w':=by
 go_enter func95,ntmps95;go_wp2;go_loop [3] (λL=>∃d : Nat,2<=d/\d<=n/\L = .int .i64 d/\Hid (∀e,2<=e->e<d->n % e ≠ 0)) (λd=>n+1 - (intOf d).toNat);case atStart=>exact ⟨2,JO _,h2,rfl,λe he Z=>by omega⟩
 case round =>
  obtain ⟨d,V,I,rfl,Y⟩:=hrel
  have N : (d : Int) ≠ 0:=by omega
  by_cases Q : d<n
  ·by_cases hm : n % d=0
   ·have U : ((n : Int) % d == 0)=true:=by simp;exact_mod_cast hm
    have X:=Z5 (tL V Q hm)
    clear hm
    go_wp2
    go_ret
    exact ⟨aU X.out.symm,rfl⟩
   ·have U : ((n : Int) % d == 0)=false:=by simp;exact_mod_cast hm
    have K:=Z5 hm
    clear hm
    go_wp2
    go_round
    case rel =>
     refine ⟨d+1,by omega,by omega,by go_num,λe he Z=>?_⟩
     rcases Kz e d with h | h
     ·exact Y.out e he h
     ·rw [show e=d from by omega];exact K.out
    case measure=>simp [intOf] <;> omega
  ·have X:=Z5 (qK (n:=n) λe he Z=>Y.out e he (by omega))
   go_wp2
   go_ret
   exact ⟨aU (by rw [X.out]),rfl⟩
theorem oV (x p : Int) (m : Nat) (w : World) (H : 0<=x) (S : x<=9223372036854775807) (I : 1<=p) (hm : m<=256) :
  Calls prog 151 #[.int .i64 x,.int .i64 p,.int .i64 m] w (db w (digs x p m)):=by
 go_enter func151,ntmps151;go_wp2_with (at_make;refine ch rfl _ _ 22 3 rfl (.int .i64 0) 8 underlying22 aV rfl m rfl rfl (by omega) (by unfold maxLen;omega) ?_;intro a D Z Y F X);go_loopw [0,8] (λL N wr=>∃k : Nat,k<=m/\N = .int .i64 k/\L = .int .i64 (iX x p k) /\
   wr.ownsRow w.heap.size 3 1 (.slice a m m) m ((dk (digs x p k) k m).map (Value.int .i64))/\OC w wr)
  (λ_ i _=>m - (intOf i).toNat)
 case atStart=>exact ⟨0,JU _,rfl,rfl,by simpa [dk,digs] using Z,Y⟩
 case round =>
  obtain ⟨k,C,rfl,rfl,Z,Y⟩:=hrel
  obtain ⟨hints,V⟩:=NZ Z
  have A:=uY x p H I k
  have K:=hints.pl
  by_cases X : k<m
  ·have E:=hints.cell k X
   have B:=(V (by omega)).2 k X
   have Q:=(V (by omega)).1
   go_wp2
   go_roundw
   case rel =>
    refine ⟨k+1,by omega,by go_num,rfl,?_,Y.setCell Q _⟩
    have h:=bC Z k X (.int .i64 (iX x p k % p))
    rw [<- Kh,fo _ _ _ _ (bF p k x) X,<- oz] at h
    exact h
   case measure=>simp [intOf] <;> omega
  ·obtain rfl : k=m:=by omega
   have U:=Z5 (bF p k x)
   rw [fR] at Z
   go_wp2
   go_ret
   exact ⟨a,k,by rw [U.out];rfl,by rw [U.out];exact Z,Y⟩
theorem AL (P M : Int) (am : OA) (X cm : Nat) (x : Int) (w : World) :
  Calls prog 141 #[.agg #[.int .i64 P,.int .i64 M,.slice am X cm],.int .i64 x] w λe w'=>e = .returned (.bool (gV (aH P M) x))/\OC w w':=by
 have Y:=Z5 (an w (.cells #[.int .i64 P,.int .i64 M,.slice am X cm] 24));by_cases h0 : 0<=x
 ·have Z : decide (0<=x)=true:=by simpa using h0
  have V : Hid (gV (aH P M) x=decide (x<aH P M)):=by show _=_;rw [gV,Z];simp
  clear h0;go_enter func141,ntmps141;go_wp2_with (go_at_call 24;refine (mc P M am X cm _).mono ?_;rintro e S ⟨rfl,U⟩);go_ret;exact ⟨aU (by rw [V.out]),NX Y.out U⟩
 ·have Z : decide (0<=x)=false:=by simpa using h0
  have V : Hid (gV (aH P M) x=false):=by show _=_;rw [gV,Z];simp
  clear h0;go_enter func141,ntmps141;go_wp2_with fail;go_ret;exact ⟨aU (by rw [V.out]),Y.out⟩
theorem Ha (P M : Int) (am : OA) (Z cm : Nat) (x : Int) (w : World) (V : gV (aH P M) x=true) :
  Calls prog 123 #[.agg #[.int .i64 P,.int .i64 M,.slice am Z cm],.int .i64 x] w λe w'=>e = .returned (.int .i64 x)/\OC w w':=by have X:=Z5 (an w (.cells #[.int .i64 P,.int .i64 M,.slice am Z cm] 24));have Hx:=Z5 V;clear V;go_enter func123,ntmps123;go_wp2_with fail;refine (AL P M am Z cm x _).mono ?_;rintro e U ⟨rfl,Y⟩;rw [Hx.out];go_wp2_with fail;go_ret;exact ⟨rfl,NX X.out Y⟩
theorem gG (P : Int) (m : Nat) (am : OA) (Y cm : Nat) (x : Int) (w : World) (Q : RF P m) (L : gV (aH P m) x=true) :
  Calls prog 161 #[.agg #[.int .i64 P,.int .i64 m,.slice am Y cm],.int .i64 x] w (db w (digs x P m)):=by
 have H : 0<=x/\x<256:=by have h1:=Q.order;have h2:=Q.pw;unfold gV at L;simp only [J9,Kt] at L;omega
 have F : 1<=P:=by have:=Q.p2;omega
 have hm:=Q.m8;have Hx:=Z5 L;clear L;go_enter func161,ntmps161;go_wp2_with fail;obtain ⟨W,N⟩ : ∃W : World,W=w.alloc (.cells #[.int .i64 P,.int .i64 m,.slice am Y cm] 24):=⟨_,rfl⟩
 rw [<- N];have X : OC w W:=by rw [N];exact an _ _
 have E : aO W w.heap.size [.int .i64 P,.int .i64 m,.slice am Y cm]:=by rw [N];exact NY _ _ _ rfl
 have B:=Z5 E;clear N E;have hS : ∀V,OC W V->V.cell? ⟨w.heap.size,0,none⟩=some (.int .i64 P)/\V.cell? ⟨w.heap.size,1,none⟩=some (.int .i64 m)/\V.cell? ⟨w.heap.size,2,none⟩=some (.slice am Y cm)/\OC W V:=by intro V D;have I:=B.out.af D;exact ⟨I.cell 0 rfl,I.cell 1 rfl,I.cell 2 rfl,D⟩
 have A:=Z5 hS;have U:=Z5 X;clear hS X;go_region_held3 (λV=>V.cell? ⟨w.heap.size,0,none⟩=some (.int .i64 P)/\V.cell? ⟨w.heap.size,1,none⟩=some (.int .i64 m)/\V.cell? ⟨w.heap.size,2,none⟩=some (.slice am Y cm)/\OC W V)
  ((refine A.out _ ?_;first | exact (JP _ _).drew | (go_split_ands;exact NX (by assumption) (by assumption))))
  (first
   | (go_at_call 123;((with_reducible refine (Ha P m am Y cm x _ Hx.out).mono ?_);rintro e r ⟨rfl,hb4⟩))
   | (go_at_call 151;((with_reducible refine (oV x P m _ H.1 (by omega) F (by omega)).mono ?_);rintro e j ⟨a5,C,rfl,Z,z⟩)))
 all_goals (
  have K : w.heap.size<=r.heap.size:=by have h1:=U.out.size;have h2:=hb4.size;have h3 : W.drew.heap.size=W.heap.size:=rfl;omega
  have S:=Z5 (bd Z K)
  clear Z
  go_wp2_with fail
  go_ret
  exact ⟨a5,C,rfl,S.out,NX U.out (by go_split_ands;assumption)⟩)
theorem mj (P : Int) (M : Int) (am : OA) (I cm : Nat) (a : OA) (n c : Nat) (l : LI) (w : World) (h : Ints w a n l) (hn : n<=1000) (F : 0<=P) (hP : P<=256)
  (hb : ∀k,0<=valu P (l.drop k) * P/\valu P (l.drop k) * P<=1000000000/\0<=nth l k/\nth l k<=1000000000) :
  Calls prog 162 #[.agg #[.int .i64 P,.int .i64 M,.slice am I cm],.slice a n c] w λe w'=>e = .returned (.int .i64 (valu P l))/\OC w w':=by
 have L:=Z5 hb;have Z:=Z5 h.len;clear hb;go_enter func162,ntmps162;go_wp2_with fail;obtain ⟨W,U⟩ : ∃W : World,W=w.alloc (.cells #[.int .i64 P,.int .i64 M,.slice am I cm] 24):=⟨_,rfl⟩
 rw [<- U];have Q : OC w W:=by rw [U];exact an _ _
 have D : W.cell? ⟨w.heap.size,0,none⟩=some (.int .i64 P):=by rw [U];exact aF _ _ _ rfl 0
 clear U;have U:=h.af Q;have B:=U.pl;go_loopw [5,6] (λH E wr=>∃k : Nat,k<=n/\E = .int .i64 ((k : Int) - 1)/\H = .int .i64 (valu P (l.drop k))/\bm W wr) (λ_ i _=>(intOf i+1).toNat);case atStart=>exact ⟨n,JO _,rfl,by rw [KD (by rw [Z.out];exact JO _)];rfl,N4 _⟩
 case round =>
  obtain ⟨k,hk,rfl,rfl,hd⟩:=hrel
  by_cases K : 0<k
  ·obtain ⟨j,rfl⟩ : ∃j,k=j+1:=⟨k - 1,by omega⟩
   have r:=(U.drawn hd).cell j (by omega)
   have c0:=hd.cell D
   have N : j<l.length:=by rw [Z.out];omega
   obtain ⟨z,b2,b3,b4⟩ : 0<=valu P (l.drop (j+1)) * P/\valu P (l.drop (j+1)) * P<=1000000000/\0<=nth l j/\nth l j<=1000000000:=⟨(L.out (j+1)).1,(L.out (j+1)).2.1,(L.out j).2.2⟩
   have e1 : ((j+1 : Nat) : Int) - 1=(j : Int):=by omega
   rw [e1]
   clear e1 K
   have V : valu P (l.drop (j+1)) * P+nth l j=valu P (l.drop j):=by rw [x8 l j N];simp only [valu];rw [K1 P,Int.add_comm]
   generalize valu P (l.drop (j+1))=X at *
   generalize nth l j=Y at *
   have S:=Z5 V
   clear V
   have e1 : (0 : Int)<=j:=by omega
   have e2 : (j : Int)<n:=by omega
   have A : IntKind.i64.wrap (X * P)=X * P:=J3 _ (by omega)
   have C : IntKind.i64.wrap (X * P+Y)=X * P+Y:=J3 _ (by omega)
   go_wp2_with fail
   go_quiet (fail)
   clear A C
   go_wp2
   go_roundw
   case rel=>exact ⟨j,by omega,by go_num,by rw [<- S.out],hd.drewN _⟩
   case measure=>simp [intOf] <;> omega
  ·obtain rfl : k=0:=by omega
   go_wp2_with fail
   go_ret
   exact ⟨by simp,NX Q hd.below⟩
def u5 (P : Int) (a b : LI) : LI:=List.zipWith (λu v=>(u+v) % P) a b
theorem sY {P : Int} : ∀(m : Nat) (x y : Int),valu P (u5 P (digs x P m) (digs y P m))=fsum P m x y
 | 0,_,_=>rfl
 | m+1,x,y=>by simp only [digs,u5,MZ,valu,fsum];have:=sY (P:=P) m (x / P) (y / P);unfold u5 at this;rw [this,Int.add_emod x y]
def sH (P : Int) (a : LI) : LI:=a.map λu=>(P - u) % P
theorem tA {P : Int} : ∀(m : Nat) (x : Int),valu P (sH P (digs x P m))=fneg P m x
 | 0,_=>rfl
 | m+1,x=>by simp only [digs,sH,MI,valu,fneg];have:=tA (P:=P) m (x / P);unfold sH at this;rw [this]
theorem dz.zip {P : Int} (Y : 0<P) (f : Int->Int->Int) (a b : LI) : dz P (List.zipWith (λu v=>(f u v) % P) a b):=by refine Oo Y λx Z=>?_;rw [Mr] at Z;obtain ⟨i,hi,rfl⟩:=Z;rw [L0];exact ⟨Kw _ (by omega),Kn _ Y⟩
theorem dz.JB {P : Int} (Y : 0<P) (a : LI) : dz P (sH P a):=by refine Oo Y λx Z=>?_;unfold sH at Z;obtain ⟨y,_,rfl⟩:=List.mem_map.1 Z;exact ⟨Kw _ (by omega),Kn _ Y⟩
theorem dz.JC {P : Int} {m : Nat} (Y : RF P m) {l : LI} (h : dz P l) (X : l.length=m) : ∀k,0<=valu P (l.drop k) * P/\valu P (l.drop k) * P<=1000000000/\0<=nth l k/\nth l k<=1000000000:=by
 intro k;have V : 0<P:=by have:=Y.p2;omega
 have Z:=Y.p256;have h1:=h.AN V X Y.pw k;have h2:=h k;have h3:=kJ h1.1 (show valu P (l.drop k)<=256 by omega) (show 0<=P by omega) Z;exact ⟨h3.1,by omega,h2.1,by omega⟩
theorem qU {P : Int} {m : Nat} (Z : RF P m) (x : Int) (i : Nat) : 0<=nth (digs x P m) i/\nth (digs x P m) i<P:=Ou (by have:=Z.p2;omega) m x i
theorem Dx (P : Int) (m : Nat) (am : OA) (mn cm : Nat) (x y : Int) (w : World) (z : RF P m) (hx : gV (aH P m) x=true) (hy : gV (aH P m) y=true) :
  Calls prog 113 #[.agg #[.int .i64 P,.int .i64 m,.slice am mn cm],.int .i64 x,.int .i64 y] w λe w'=>e = .returned (.int .i64 (fsum P m x y))/\OC w w':=by
 have hp2:=z.p2;have hp256:=z.p256;have hm8:=z.m8;have Hx:=Z5 hx;have Hy:=Z5 hy;have L:=Z5 (bF P m x);have Hdy:=Z5 (bF P m y);have Hbx:=Z5 (qU z x);have Hby:=Z5 (qU z y);have H : (u5 P (digs x P m) (digs y P m)).length=m:=by simp [u5,bF]
 have hNn : ∀i,i<m->nth (u5 P (digs x P m) (digs y P m)) i=(nth (digs x P m) i+nth (digs y P m) i) % P:=λi hi=>by rw [aj (by rw [H];exact hi),aj (by rw [bF];exact hi),aj (by rw [bF];exact hi)];simp [u5]
 have hNg : dz P (u5 P (digs x P m) (digs y P m)):=dz.zip (by omega) (λu v=>u+v) (digs x P m) (digs y P m);have hNd:=dz.JC z hNg H;have N:=Z5 H;have I:=Z5 hNn;have A:=Z5 hNd;have C:=Z5 (sY (P:=P) m x y);clear hx hy H hNn hNd hNg;go_enter func113,ntmps113;go_wp2_with fail;obtain ⟨W,hW⟩ : ∃W : World,W=w.alloc (.cells #[.int .i64 P,.int .i64 m,.slice am mn cm] 24):=⟨_,rfl⟩
 rw [<- hW];have hbW : OC w W:=by rw [hW];exact an _ _
 have x0 : aO W w.heap.size [.int .i64 P,.int .i64 m,.slice am mn cm]:=by rw [hW];exact NY _ _ _ rfl
 have HX:=Z5 x0;have hsW : w.heap.size<W.heap.size:=x0.1;clear hW x0;refine (gG P m am mn cm x W z Hx.out).mono ?_;rintro e w1 ⟨a1,c1,rfl,Z,hb1⟩;have Q:=HX.out.af hb1;have d0:=Q.cell 0 rfl;have d1:=Q.cell 1 rfl;have d2:=Q.cell 2 rfl;rw [L.out] at Z ⊢;clear Q;go_wp2_with fail;refine (gG P m am mn cm y w1 z Hy.out).mono ?_;rintro e w2 ⟨a2,c2,rfl,Y,hb2⟩;rw [Hdy.out] at Y ⊢;have hs1:=hb1.size;have V:=bp Z hb2;have hap : a1 ≠ none->ablk a1<w1.heap.size:=λh0=>(ba Z h0).2;have hi2:=(NZ Y).1;have hlo2 : 0<m->w1.heap.size<=ablk a2:=λh0=>(dT Y h0).1;have hap1 : a1 ≠ none->W.heap.size<=ablk a1:=λh0=>(ba Z h0).1;have hb12:=NX hb1 hb2;have hpl2:=hi2.pl;obtain ⟨D,hD⟩ : ∃D,digs x P m=D:=⟨_,rfl⟩
 obtain ⟨E,hE⟩ : ∃E,digs y P m=E:=⟨_,rfl⟩
 rw [hD] at V L Hbx N I A C;rw [hE] at hi2 Hdy Hby N I A C;obtain ⟨r,hNN⟩ : ∃r,u5 P D E=r:=⟨_,rfl⟩
 rw [hNN] at N I A C;clear hD hE hNN Z Y;go_wp2_with fail;go_loopw [9] (λiv wr=>∃k : Nat,k<=m/\iv = .int .i64 k/\wr.ownsRow W.heap.size 3 1 (.slice a1 m c1) m ((gj r D k).map (Value.int .i64))/\dg a1 w2 wr) (λiv _=>m - (intOf iv).toNat);case atStart=>exact ⟨0,JU _,rfl,by rw [fQ];exact V,Oi _ _⟩
 case round =>
  obtain ⟨k,hk,rfl,U,X⟩:=hrel
  have hbr : OC W wr:=hb12.trans (X.below hap1 (by have:=hb2.size;omega))
  by_cases S : k<m
  ·obtain ⟨F,hm1⟩:=NZ U
   have hi2r:=X.ints hi2 (by
    by_cases h0 : a1=none
    ·exact .inl h0
    ·exact .inr (.inr (by have h1:=hap h0;have h2:=hlo2 (by omega);omega)))
   have ca:=F.cell k S
   have cb:=hi2r.cell k S
   have fa:=(hm1 (by omega)).2 k S
   have hpl1:=F.pl
   have hkN : r.length=D.length:=by rw [N.out,L.out]
   have hkD : k<D.length:=by rw [L.out];exact S
   have K:=eQ r D k k hkN (by omega)
   rw [JR (by omega)] at K
   rw [K] at ca
   have j:=fA r D k hkN hkD
   have Hset:=Z5 j
   have Q:=HX.out.af hbr
   have d0:=Q.cell 0 rfl
   have b1:=Hbx.out k
   have b2:=Hby.out k
   have hP0 : P ≠ 0:=by omega
   have r5 : IntKind.i64.wrap (nth D k+nth E k)=nth D k+nth E k:=J3 _ (by omega)
   have r6 : (nth D k+nth E k).tmod P=(nth D k+nth E k) % P:=KP _ _ (by omega)
   have R7:=Z5 (I.out k S)
   clear K j hkN hkD Q
   go_wp2_with fail
   go_still_tail 15,(by kernel_rfl)
   change wpList _ _ _ _ _ wr.drew
   generalize B : wr.drew=wd
   have fd : wd.frozen? ⟨ablk a1,aL a1+k,none⟩=false:=by rw [<- B];exact fa
   have cd : wd.cell? ⟨ablk a1,aL a1+k,none⟩=some (.int .i64 (nth D k)):=by rw [<- B];exact ca
   have Hwd:=Z5 B
   clear B r5 r6
   go_wp2_with fail
   go_roundw
   case rel =>
    obtain rfl:=Hwd.out
    have hdr : bm wr wr.drew:=(N4 wr).drew
    refine ⟨k+1,by omega,by go_num,?_,X.trans ((Oa hdr).trans (Oc _ k _ (by intro e;have:=hpl1 (by omega);rw [e] at this;cases this)))⟩
    have h1:=bC (w:=wr.drew) U k S (.int .i64 ((nth D k+nth E k) % P))
    rw [<- Kh,<- R7.out,Hset.out] at h1
    rw [<- R7.out]
    exact h1
   case measure=>simp [intOf] <;> omega
  ·obtain rfl : k=m:=by omega
   rw [gx r D k N.out L.out] at U
   have F:=(NZ U).1
   have Q:=HX.out.af hbr
   have d0:=Q.cell 0 rfl
   have d1:=Q.cell 1 rfl
   have d2:=Q.cell 2 rfl
   clear Q
   go_wp2_with fail
   refine (mj P k am mn cm a1 k c1 r wr F (by omega) (by omega) (by omega) A.out).mono ?_
   rintro e w4 ⟨rfl,hb4⟩
   go_wp2_with fail
   go_ret
   exact ⟨aK C.out,NX (NX hbW hbr) hb4⟩
theorem nP (P : Int) (m : Nat) (am : OA) (mn cm : Nat) (x : Int) (w : World) (j : RF P m) (hx : gV (aH P m) x=true) :
  Calls prog 107 #[.agg #[.int .i64 P,.int .i64 m,.slice am mn cm],.int .i64 x] w λe w'=>e = .returned (.int .i64 (fneg P m x))/\OC w w':=by
 have hp2:=j.p2;have hp256:=j.p256;have hm8:=j.m8;have Hx:=Z5 hx;have S:=Z5 (bF P m x);have Hbx:=Z5 (qU j x);have L : (sH P (digs x P m)).length=m:=by simp [sH,bF]
 have hNn : ∀i,i<m->nth (sH P (digs x P m)) i=(P - nth (digs x P m) i) % P:=λi hi=>by rw [aj (by rw [L];exact hi),aj (by rw [bF];exact hi)];simp [sH]
 have hNd:=dz.JC j (dz.JB (by omega) (digs x P m)) L;have N:=Z5 L;have C:=Z5 hNn;have r:=Z5 hNd;have A:=Z5 (tA (P:=P) m x);clear hx L hNn hNd;go_enter func107,ntmps107;go_wp2_with fail;obtain ⟨W,hW⟩ : ∃W : World,W=w.alloc (.cells #[.int .i64 P,.int .i64 m,.slice am mn cm] 24):=⟨_,rfl⟩
 rw [<- hW];have hbW : OC w W:=by rw [hW];exact an _ _
 have x0 : aO W w.heap.size [.int .i64 P,.int .i64 m,.slice am mn cm]:=by rw [hW];exact NY _ _ _ rfl
 have HX:=Z5 x0;have hsW : w.heap.size<W.heap.size:=x0.1;clear hW x0;refine (gG P m am mn cm x W j Hx.out).mono ?_;rintro e w2 ⟨a1,c1,rfl,Y,hb1⟩;rw [S.out] at Y ⊢;have hs1:=hb1.size;have hap1 : a1 ≠ none->W.heap.size<=ablk a1:=λh0=>(ba Y h0).1;obtain ⟨D,hD⟩ : ∃D,digs x P m=D:=⟨_,rfl⟩
 rw [hD] at Y S Hbx N C r A;obtain ⟨K,hNN⟩ : ∃K,sH P D=K:=⟨_,rfl⟩
 rw [hNN] at N C r A;clear hD hNN;go_wp2_with fail;go_loopw [6] (λiv wr=>∃k : Nat,k<=m/\iv = .int .i64 k/\wr.ownsRow W.heap.size 3 1 (.slice a1 m c1) m ((gj K D k).map (Value.int .i64))/\dg a1 w2 wr) (λiv _=>m - (intOf iv).toNat);case atStart=>exact ⟨0,JU _,rfl,by rw [fQ];exact Y,Oi _ _⟩
 case round =>
  obtain ⟨k,hk,rfl,X,V⟩:=hrel
  have E : OC W wr:=hb1.trans (V.below hap1 (by omega))
  by_cases U : k<m
  ·obtain ⟨I,hm1⟩:=NZ X
   have ca:=I.cell k U
   have fa:=(hm1 (by omega)).2 k U
   have hpl1:=I.pl
   have B : K.length=D.length:=by rw [N.out,S.out]
   have hkD : k<D.length:=by rw [S.out];exact U
   have Q:=eQ K D k k B (by omega)
   rw [JR (by omega)] at Q
   rw [Q] at ca
   have F:=fA K D k B hkD
   have Hset:=Z5 F
   have z:=HX.out.af E
   have d0:=z.cell 0 rfl
   have b1:=Hbx.out k
   have hP0 : P ≠ 0:=by omega
   have r5 : IntKind.i64.wrap (P - nth D k)=P - nth D k:=J3 _ (by omega)
   obtain ⟨Z,hZ⟩ : ∃Z,(P - nth D k) % P=Z:=⟨_,rfl⟩
   have r6 : (P - nth D k).tmod P=Z:=by rw [<- hZ];exact KP _ _ (by omega)
   have R7 : Hid (nth K k=Z):=by show _=_;rw [<- hZ];exact C.out k U
   clear hZ
   clear Q F B hkD z
   go_wp2_with fail
   go_still_tail 13,(by kernel_rfl)
   change wpList _ _ _ _ _ wr.drew
   generalize H : wr.drew=wd
   have fd : wd.frozen? ⟨ablk a1,aL a1+k,none⟩=false:=by rw [<- H];exact fa
   have cd : wd.cell? ⟨ablk a1,aL a1+k,none⟩=some (.int .i64 (nth D k)):=by rw [<- H];exact ca
   have Hwd:=Z5 H
   clear H r5 r6
   go_wp2_with fail
   go_roundw
   case rel =>
    obtain rfl:=Hwd.out
    have hdr : bm wr wr.drew:=(N4 wr).drew
    refine ⟨k+1,by omega,by go_num,?_,V.trans ((Oa hdr).trans (Oc _ k _ (by intro e;have:=hpl1 (by omega);rw [e] at this;cases this)))⟩
    have h1:=bC (w:=wr.drew) X k U (.int .i64 Z)
    rw [<- Kh,<- R7.out,Hset.out] at h1
    rw [<- R7.out]
    exact h1
   case measure=>simp [intOf] <;> omega
  ·obtain rfl : k=m:=by omega
   rw [gx K D k N.out S.out] at X
   have I:=(NZ X).1
   have z:=HX.out.af E
   have d0:=z.cell 0 rfl
   have d1:=z.cell 1 rfl
   have d2:=z.cell 2 rfl
   clear z
   go_wp2_with fail
   refine (mj P k am mn cm a1 k c1 K wr I (by omega) (by omega) (by omega) r.out).mono ?_
   rintro e w4 ⟨rfl,hb4⟩
   go_wp2_with fail
   go_ret
   exact ⟨aK A.out,NX (NX hbW E) hb4⟩
def cvJ (P : Int) (a b : LI) (i : Nat) (c : LI) : Nat->LI
 | 0=>c
 | j+1=>(cvJ P a b i c j).set (i+j) ((nth (cvJ P a b i c j) (i+j)+nth a i * nth b j) % P)
def uj (P : Int) (a b : LI) (M n : Nat) : Nat->LI
 | 0=>List.replicate n 0
 | i+1=>cvJ P a b i (uj P a b M n i) M
def tf (P : Int) (M : Nat) (mod : LI) (i : Nat) (c : LI) : Nat->LI
 | 0=>c
 | j+1=>(tf P M mod i c j).set (i - M+j) ((nth (tf P M mod i c j) (i - M+j)+(P - nth (tf P M mod i c j) i) * nth mod j) % P)
def tU (P : Int) (M : Nat) (mod : LI) (c : LI) : Nat->LI
 | 0=>c
 | k+1=>tf P M mod (2 * M - 2 - k) (tU P M mod c k) M
def mulL (P : Int) (M : Nat) (mod : LI) (a b : LI) : LI:=(tU P M mod (uj P a b M (2 * M - 1) M) (M - 1)).take M
def mulR (P : Int) (M : Nat) (mod : LI) (x y : Int) : Int:=valu P (mulL P M mod (digs x P M) (digs y P M))
theorem dz.set {P : Int} {l : LI} (h : dz P l) (i : Nat) {x : Int} (h0 : 0<=x) (h1 : x<P) : dz P (l.set i x):=by
 intro j;by_cases hi : i<l.length
 ·rw [eh _ _ _ _ hi];split
  ·exact ⟨h0,h1⟩
  ·exact h j
 ·rw [LF (by omega)];exact h j
theorem dz.Ag {P : Int} (Z : 0<P) {l : LI} (h : dz P l) (i : Nat) (x : Int) : dz P (l.set i (x % P)):=h.set i (Kw _ (by omega)) (Kn _ Z)
theorem uk (P : Int) (a b : LI) (i : Nat) (c : LI) : ∀j,(cvJ P a b i c j).length=c.length
 | 0=>rfl
 | j+1=>by rw [cvJ,KG,uk P a b i c j]
theorem vJ {P : Int} (Z : 0<P) (a b : LI) (i : Nat) {c : LI} (h : dz P c) : ∀j,dz P (cvJ P a b i c j)
 | 0=>h
 | j+1=>dz.Ag Z (vJ Z a b i h j) _ _
theorem jb (P : Int) (a b : LI) (M n : Nat) : ∀i,(uj P a b M n i).length=n
 | 0=>by simp [uj]
 | i+1=>by rw [uj,uk,jb P a b M n i]
theorem pX {P : Int} (Z : 0<P) (a b : LI) (M n : Nat) : ∀i,dz P (uj P a b M n i)
 | 0=>dz.replicate Z n
 | i+1=>vJ Z a b i (pX Z a b M n i) M
theorem qh (P : Int) (M : Nat) (mod : LI) (i : Nat) (c : LI) : ∀j,(tf P M mod i c j).length=c.length
 | 0=>rfl
 | j+1=>by rw [tf,KG,qh P M mod i c j]
theorem uT {P : Int} (Z : 0<P) (M : Nat) (mod : LI) (i : Nat) {c : LI} (h : dz P c) : ∀j,dz P (tf P M mod i c j)
 | 0=>h
 | j+1=>dz.Ag Z (uT Z M mod i h j) _ _
theorem j9 (P : Int) (M : Nat) (mod : LI) (c : LI) : ∀k,(tU P M mod c k).length=c.length
 | 0=>rfl
 | k+1=>by rw [tU,qh,j9 P M mod c k]
theorem p6 {P : Int} (Z : 0<P) (M : Nat) (mod : LI) {c : LI} (h : dz P c) : ∀k,dz P (tU P M mod c k)
 | 0=>h
 | k+1=>uT Z M mod _ (p6 Z M mod h k) M
theorem dz.take {P : Int} (Z : 0<P) {l : LI} (h : dz P l) (k : Nat) : dz P (l.take k):=by
 intro i;have e : nth (l.take k) i=if i<k then nth l i else 0:=by simp only [nth,JS,K0];split <;> rfl
 rw [e];split
 ·exact h i
 ·omega
theorem xF (P : Int) {M : Nat} (mod : LI) (a b : LI) (Z : 1<=M) : (mulL P M mod a b).length=M:=by unfold mulL;rw [Ki,j9,jb];omega
theorem vT {P : Int} (Z : 0<P) (M : Nat) (mod : LI) (a b : LI) : dz P (mulL P M mod a b):=dz.take Z (p6 Z M mod (pX Z a b M _ M) _) M
structure xI (w : World) (P : Int) (m : Nat) (am : OA) (mn : Nat) (mod : LI) : Prop where
 ints : Ints w am mn mod
 low : 1<m->mn=m
 dig : dz P mod
theorem xI.af {w w' : World} {P : Int} {m : Nat} {am : OA} {Z : Nat} {mod : LI} (h : xI w P m am Z mod) (hb : OC w w') : xI w' P m am Z mod:=⟨h.ints.af hb,h.low,h.dig⟩
theorem xh {l : LI} {k i : Nat} (h : i<k) : nth (l.take k) i=nth l i:=by simp only [nth,JS,K0,JT h]
theorem Ints.take {w : World} {a : OA} {n : Nat} {l : LI} (h : Ints w a n l) {k : Nat} (Z : k<=n) : Ints w a k (l.take k) :=
 ⟨by rw [Ki,h.len];omega,λh0=>h.pl (by omega),J4 Z h.max,λi hi=>by rw [xh hi];exact h.cell i (by omega)⟩
theorem qn (P : Int) (m : Nat) (am : OA) (mn cm : Nat) (mod : LI) (x y : Int) (w : World) (hf : RF P m) (B : xI w P m am mn mod) (hx : gV (aH P m) x=true) (hy : gV (aH P m) y=true) :
  Calls prog 114 #[.agg #[.int .i64 P,.int .i64 m,.slice am mn cm],.int .i64 x,.int .i64 y] w λe w'=>e = .returned (.int .i64 (mulR P m mod x y))/\OC w w':=by
 have hp2:=hf.p2;have hp256:=hf.p256;have hm1:=hf.m1;have hm8:=hf.m8;have Hx:=Z5 hx;have Hy:=Z5 hy;have Hdx:=Z5 (bF P m x);have Hdy:=Z5 (bF P m y);have Hbx:=Z5 (qU hf x);have Hby:=Z5 (qU hf y);have Hbm:=Z5 B.dig;have hplm:=B.ints.pl;have Hlow:=Z5 B.low;obtain ⟨n,hn⟩ : ∃n : Nat,2 * m - 1=n:=⟨_,rfl⟩
 have hn1 : m<=n:=by omega
 have hn2 : n<=15:=by omega
 have Hn:=Z5 hn;have hnv : 2 * (m : Int) - 1=n:=by omega
 have hnv2 : 2 * (m : Int) - 2=(n : Int) - 1:=by omega
 have Hnv2:=Z5 hnv2;clear hx hy hn hnv2;go_enter func114,ntmps114;go_wp2_with fail;obtain ⟨W,hW⟩ : ∃W : World,W=w.alloc (.cells #[.int .i64 P,.int .i64 m,.slice am mn cm] 24):=⟨_,rfl⟩
 rw [<- hW];have hbW : OC w W:=by rw [hW];exact an _ _
 have x0 : aO W w.heap.size [.int .i64 P,.int .i64 m,.slice am mn cm]:=by rw [hW];exact NY _ _ _ rfl
 have HX:=Z5 x0;clear hW x0;have hmW:=B.af hbW;refine (gG P m am mn cm x W hf Hx.out).mono ?_;rintro e w1 ⟨a1,c1,rfl,H,hb1⟩;have x1:=HX.out.af hb1;have d0:=x1.cell 0 rfl;have d1:=x1.cell 1 rfl;have d2:=x1.cell 2 rfl;rw [Hdx.out] at H ⊢;clear x1;go_wp2_with fail;refine (gG P m am mn cm y w1 hf Hy.out).mono ?_;rintro e w2 ⟨a2,c2,rfl,Y,hb2⟩;rw [Hdy.out] at Y ⊢;have S:=NX hb1 hb2;have x1:=HX.out.af S;have d0:=x1.cell 0 rfl;have d1:=x1.cell 1 rfl;have d2:=x1.cell 2 rfl;have r:=((NZ H).1).af hb2;have hi2:=(NZ Y).1;have hpl1:=r.pl;have hpl2:=hi2.pl;have hm2:=hmW.af S;obtain ⟨D,hD⟩ : ∃D,digs x P m=D:=⟨_,rfl⟩
 obtain ⟨E,hE⟩ : ∃E,digs y P m=E:=⟨_,rfl⟩
 have HR : Hid (mulR P m mod x y=valu P (mulL P m mod D E)):=by show _=_;rw [mulR,hD,hE]
 rw [hD] at r Hdx Hbx;rw [hE] at hi2 Hdy Hby;clear hD hE H Y x1;go_wp2_with (at_make;refine ch rfl _ _ 22 3 rfl (.int .i64 0) 8 underlying22 aV rfl n rfl rfl (by omega) (by unfold maxLen;omega) ?_;intro a3 w3 hown3 U hge3 hlt3;have d0:=aB U d0;have d1:=aB U d1;have d2:=aB U d2);have hP : 0<P:=by omega
 have hS : ∀V,OC w2 V->V.cell? ⟨w.heap.size,0,none⟩=some (.int .i64 P)/\V.cell? ⟨w.heap.size,1,none⟩=some (.int .i64 m)/\V.cell? ⟨w.heap.size,2,none⟩=some (.slice am mn cm)/\Ints V a1 m D/\Ints V a2 m E/\Ints V am mn mod:=by intro V hV;have x1:=(HX.out.af S).af hV;exact ⟨x1.cell 0 rfl,x1.cell 1 rfl,x1.cell 2 rfl,r.af hV,hi2.af hV,hm2.ints.af hV⟩
 have HS:=Z5 hS;have HC : Hid (List.replicate n (Value.int .i64 0)=(uj P D E m n 0).map (Value.int .i64)):=by show _=_;simp [uj]
 rw [HC.out] at hown3;have ha3 : a3 ≠ none->w2.heap.size<=ablk a3:=λ_=>hge3;have hb23:=S.trans (U.mono S.size);clear hS d0 d1 d2 r hi2 hm2;go_loopw [10] (λK wr=>∃i : Nat,i<=m/\K = .int .i64 i/\wr.ownsRow w2.heap.size 3 1 (.slice a3 n n) n ((uj P D E m n i).map (Value.int .i64))/\dg a3 w3 wr) (λK _=>m - (intOf K).toNat);case atStart=>exact ⟨0,JU _,rfl,hown3,Oi _ _⟩
 case round =>
  obtain ⟨i,hi,rfl,F,L⟩:=hrel
  have hbr : OC w2 wr:=U.trans (L.below ha3 U.size)
  obtain ⟨d0,d1,d2,j1,j2,j3⟩:=HS.out wr hbr
  by_cases hlt : i<m
  ·have Hci : Hid (uj P D E m n (i+1)=cvJ P D E i (uj P D E m n i) m):=rfl
   have Hcd : Hid (dz P (uj P D E m n i)):=pX hP D E m n i
   have Hcl : Hid ((uj P D E m n i).length=n):=jb P D E m n i
   obtain ⟨C,hC⟩ : ∃C,uj P D E m n i=C:=⟨_,rfl⟩
   rw [hC] at F Hci Hcd Hcl
   clear hC
   go_wp2_with fail
   go_loopw [11] (λK wr=>∃j : Nat,j<=m/\K = .int .i64 j/\wr.ownsRow w2.heap.size 3 1 (.slice a3 n n) n ((cvJ P D E i C j).map (Value.int .i64))/\dg a3 w3 wr) (λK _=>m - (intOf K).toNat)
   case atStart=>exact ⟨0,JU _,rfl,F,L⟩
   case round =>
    obtain ⟨j,hj,rfl,Y,X⟩:=hrel
    have hbr2 : OC w2 wr:=U.trans (X.below ha3 U.size)
    obtain ⟨d0,d1,d2,j1,j2,j3⟩:=HS.out wr hbr2
    by_cases hlt2 : j<m
    ·have Q : Hid (cvJ P D E i C (j+1)=(cvJ P D E i C j).set (i+j) ((nth (cvJ P D E i C j) (i+j)+nth D i * nth E j) % P)):=rfl
     have z:=vJ hP D E i Hcd.out j (i+j)
     obtain ⟨T,hT⟩ : ∃T,cvJ P D E i C j=T:=⟨_,rfl⟩
     rw [hT] at Y Q z
     clear hT
     have hij : i+j<n:=by have:=Hn.out;omega
     obtain ⟨it,mt⟩:=NZ Y
     have ct:=it.cell (i+j) hij
     have ft:=(mt (by omega)).2 (i+j) hij
     have hplt:=it.pl
     have cD:=j1.cell i hlt
     have cE:=j2.cell j hlt2
     have bD:=Hbx.out i
     have bE:=Hby.out j
     have hme:=kJ bD.1 (show nth D i<=256 by omega) bE.1 (show nth E j<=256 by omega)
     have hP0 : P ≠ 0:=by omega
     obtain ⟨k,hk⟩ : ∃k,i+j=k:=⟨_,rfl⟩
     rw [hk] at ct ft Q z hij
     obtain ⟨Z,hZ⟩ : ∃Z,(nth T k+nth D i * nth E j) % P=Z:=⟨_,rfl⟩
     have Hcj2 : Hid (cvJ P D E i C (j+1)=T.set k Z):=by show _=_;rw [Q.out,hZ]
     have r1 : IntKind.i64.wrap ((i : Int)+j)=(k : Int):=by rw [J3 _ (by omega)];omega
     have r2 : IntKind.i64.wrap (nth D i * nth E j)=nth D i * nth E j:=J3 _ (by omega)
     have r3 : IntKind.i64.wrap (nth T k+nth D i * nth E j)=nth T k+nth D i * nth E j:=J3 _ (by omega)
     have r4 : (nth T k+nth D i * nth E j).tmod P=Z:=by rw [<- hZ];exact KP _ _ (by omega)
     have q1 : (0 : Int)<=k:=by omega
     have q2 : (k : Int)<n:=by omega
     clear hZ hk Q
     go_wp2_with fail
     go_still_tail 24,(by kernel_rfl)
     change wpList _ _ _ _ _ wr.drew
     generalize N : wr.drew=wd
     have fd : wd.frozen? ⟨ablk a3,aL a3+k,none⟩=false:=by rw [<- N];exact ft
     have cd : wd.cell? ⟨ablk a3,aL a3+k,none⟩=some (.int .i64 (nth T k)):=by rw [<- N];exact ct
     have Hwd:=Z5 N
     clear N r1 r2 r3 r4
     go_wp2_with fail
     go_roundw
     case rel =>
      obtain rfl:=Hwd.out
      have hdr : bm wr wr.drew:=(N4 wr).drew
      refine ⟨j+1,by omega,by go_num,?_,X.trans ((Oa hdr).trans (Oc _ k _ (by intro e;have:=hplt (by omega);rw [e] at this;cases this)))⟩
      have h1:=bC (w:=wr.drew) Y k hij (.int .i64 Z)
      rw [<- Kh,<- Hcj2.out] at h1
      exact h1
     case measure=>simp [intOf] <;> omega
    ·obtain rfl : j=m:=by omega
     go_wp2_with fail
     go_roundw
     case rel=>exact ⟨i+1,by omega,by go_num,by rw [Hci.out];exact Y,X⟩
     case measure=>simp [intOf] <;> omega
  ·obtain rfl : i=m:=by omega
   have hw2:=Hnv2.out
   obtain ⟨C,hC⟩ : ∃C,uj P D E i n i=C:=⟨_,rfl⟩
   have Hcd : Hid (dz P C):=by show dz P C;rw [<- hC];exact pX hP D E i n i
   have Hcl : Hid (C.length=n):=by show _=_;rw [<- hC];exact jb P D E i n i
   have HL : Hid (mulL P i mod D E=(tU P i mod C (i - 1)).take i):=by show _=_;rw [mulL,Hn.out,hC]
   rw [hC] at F
   clear hC
   go_wp2_with fail
   clear hw2 hnv
   go_loopw [12] (λK wr=>∃k t : Nat,t+k+1=n/\k<=i - 1/\K = .int .i64 t/\wr.ownsRow w2.heap.size 3 1 (.slice a3 n n) n ((tU P i mod C k).map (Value.int .i64))/\dg a3 w3 wr) (λK _=>(intOf K).toNat)
   case atStart=>exact ⟨0,n - 1,by omega,by omega,by congr 1;omega,F,L⟩
   case round =>
    obtain ⟨k,t,htk,hk,rfl,I,A⟩:=hrel
    have hbk : OC w2 wr:=U.trans (A.below ha3 U.size)
    obtain ⟨d0,d1,d2,j1,j2,j3⟩:=HS.out wr hbk
    by_cases hti : i<=t
    ·have hn':=Hn.out
     have r : 1<i:=by omega
     have hmn:=Hlow.out r
     have Hrk : Hid (tU P i mod C (k+1)=tf P i mod t (tU P i mod C k) i):=by show _=_;rw [tU,show 2 * i - 2 - k=t by omega]
     have Hrd : Hid (dz P (tU P i mod C k)):=p6 hP i mod Hcd.out k
     have Hrl : Hid ((tU P i mod C k).length=n):=by show _=_;rw [j9];exact Hcl.out
     obtain ⟨C2,hC2⟩ : ∃C2,tU P i mod C k=C2:=⟨_,rfl⟩
     rw [hC2] at I Hrk Hrd Hrl
     have Htk:=Z5 htk
     clear hC2 hn'
     go_wp2_with fail
     go_loopw [13] (λK wr=>∃j : Nat,j<=i/\K = .int .i64 j/\wr.ownsRow w2.heap.size 3 1 (.slice a3 n n) n ((tf P i mod t C2 j).map (Value.int .i64))/\dg a3 w3 wr) (λK _=>i - (intOf K).toNat)
     case atStart=>exact ⟨0,JU _,rfl,I,A⟩
     case round =>
      obtain ⟨j,hj,rfl,Y,X⟩:=hrel
      have hbr2 : OC w2 wr:=U.trans (X.below ha3 U.size)
      obtain ⟨d0,d1,d2,j1,j2,j3⟩:=HS.out wr hbr2
      by_cases hlt2 : j<i
      ·have Q : Hid (tf P i mod t C2 (j+1)=(tf P i mod t C2 j).set (t - i+j) ((nth (tf P i mod t C2 j) (t - i+j)+(P - nth (tf P i mod t C2 j) t) * nth mod j) % P)):=rfl
       have z:=uT hP i mod t Hrd.out j
       obtain ⟨T,hT⟩ : ∃T,tf P i mod t C2 j=T:=⟨_,rfl⟩
       rw [hT] at Y Q z
       clear hT
       obtain ⟨it,mt⟩:=NZ Y
       obtain ⟨u,hu⟩ : ∃u,t - i+j=u:=⟨_,rfl⟩
       have hun : u<n:=by omega
       have htn : t<n:=by omega
       have hjmn : j<mn:=by omega
       have ct:=it.cell u hun
       have ctt:=it.cell t htn
       have cM:=j3.cell j hjmn
       have ft:=(mt (by omega)).2 u hun
       have hplt:=it.pl
       have b1:=z u
       have b2:=z t
       have b3:=Hbm.out j
       have hme:=kJ (show 0<=P - nth T t by omega) (show P - nth T t<=256 by omega) b3.1 (show nth mod j<=256 by omega)
       have hP0 : P ≠ 0:=by omega
       rw [hu] at Q
       obtain ⟨Z,hZ⟩ : ∃Z,(nth T u+(P - nth T t) * nth mod j) % P=Z:=⟨_,rfl⟩
       have Hcj2 : Hid (tf P i mod t C2 (j+1)=T.set u Z):=by show _=_;rw [Q.out,hZ]
       obtain ⟨v,hv⟩ : ∃v,t - i=v:=⟨_,rfl⟩
       have r0 : IntKind.i64.wrap ((t : Int) - i)=(v : Int):=by rw [J3 _ (by omega)];omega
       have r1 : IntKind.i64.wrap ((v : Int)+j)=(u : Int):=by rw [J3 _ (by omega)];omega
       have r2 : IntKind.i64.wrap (P - nth T t)=P - nth T t:=J3 _ (by omega)
       have r3 : IntKind.i64.wrap ((P - nth T t) * nth mod j)=(P - nth T t) * nth mod j:=J3 _ (by omega)
       have r4 : IntKind.i64.wrap (nth T u+(P - nth T t) * nth mod j)=nth T u+(P - nth T t) * nth mod j:=J3 _ (by omega)
       have r5 : (nth T u+(P - nth T t) * nth mod j).tmod P=Z:=by rw [<- hZ];exact KP _ _ (by omega)
       have q1 : (0 : Int)<=u:=by omega
       have q2 : (u : Int)<n:=by omega
       have q3 : (t : Int)<n:=by omega
       have q4 : (j : Int)<mn:=by omega
       clear hZ hu hv Q htk hmn
       go_wp2_with fail
       go_still_tail 34,(by kernel_rfl)
       change wpList _ _ _ _ _ wr.drew
       generalize N : wr.drew=wd
       have fd : wd.frozen? ⟨ablk a3,aL a3+u,none⟩=false:=by rw [<- N];exact ft
       have cd : wd.cell? ⟨ablk a3,aL a3+u,none⟩=some (.int .i64 (nth T u)):=by rw [<- N];exact ct
       have Hwd:=Z5 N
       clear N r0 r1 r2 r3 r4 r5
       go_wp2_with fail
       go_roundw
       case rel =>
        obtain rfl:=Hwd.out
        have hdr : bm wr wr.drew:=(N4 wr).drew
        refine ⟨j+1,by omega,by go_num,?_,X.trans ((Oa hdr).trans (Oc _ u _ (by intro e;have:=hplt (by omega);rw [e] at this;cases this)))⟩
        have h1:=bC (w:=wr.drew) Y u hun (.int .i64 Z)
        rw [<- Kh,<- Hcj2.out] at h1
        exact h1
       case measure=>simp [intOf] <;> omega
      ·obtain rfl : j=i:=by omega
       go_wp2_with fail
       go_roundw
       case rel=>exact ⟨k+1,t - 1,by have:=Htk.out;omega,by have:=Htk.out;have:=Hn.out;omega,by congr 1;omega,by rw [Hrk.out];exact Y,X⟩
       case measure=>simp [intOf] <;> omega
    ·have hki : k=i - 1:=by have:=Hn.out;omega
     have hfin : Hid (valu P ((tU P i mod C k).take i)=mulR P i mod x y):=by show _=_;rw [HR.out,HL.out,hki]
     have hdig : dz P ((tU P i mod C k).take i):=dz.take hP (p6 hP i mod Hcd.out k) i
     have hlen : ((tU P i mod C k).take i).length=i:=by rw [Ki,j9,Hcl.out];omega
     have hbd:=dz.JC hf hdig hlen
     have hit:=(NZ I).1
     have hin : i<=n:=hn1
     have hit2 : Ints wr a3 i ((tU P i mod C k).take i):=hit.take hin
     have Hbd:=Z5 hbd
     have hin' : (i : Int)<=n:=by omega
     have hbwr : OC w wr:=(NX hbW S).trans (hbk.mono (by have h1:=S.size;have h2:=hbW.size;omega))
     have hS2 : ∀V,OC wr V->V.cell? ⟨w.heap.size,0,none⟩=some (.int .i64 P)/\V.cell? ⟨w.heap.size,1,none⟩=some (.int .i64 i)/\V.cell? ⟨w.heap.size,2,none⟩=some (.slice am mn cm)/\OC wr V :=
      λV hV=>⟨aB hV d0,aB hV d1,aB hV d2,hV⟩
     have HS2:=Z5 hS2
     have Hit2 : Hid (∀V,OC wr V->Ints V a3 i ((tU P i mod C k).take i)):=λV hV=>hit2.af hV
     clear hki hlen hdig hbd hS2 hit hit2 htk
     go_wp2_with fail
     go_region_held3 (λV=>V.cell? ⟨w.heap.size,0,none⟩=some (.int .i64 P)/\V.cell? ⟨w.heap.size,1,none⟩=some (.int .i64 i)/\V.cell? ⟨w.heap.size,2,none⟩=some (.slice am mn cm)/\OC wr V)
      ((refine HS2.out _ ?_;first | exact (JP _ _).drew | (go_split_ands;exact NX (by assumption) (by assumption))))
      (first
       | (go_at_call 162;((with_reducible refine (mj P i am mn cm a3 i n _ _ (Hit2.out _ (JP _ _).drew) (by omega) (by omega) (by omega) Hbd.out).mono ?_);rintro e w4 ⟨rfl,hb4⟩)))
     go_wp2_with fail
     go_ret
     exact ⟨aK hfin.out,NX hbwr (by go_split_ands;assumption)⟩
structure sO (w : World) (P : Int) (m : Nat) (am : OA) (mn : Nat) (mod : LI) : Prop where
 rf : RF P m
 mods : xI w P m am mn mod
theorem sO.af {w w' : World} {P : Int} {m : Nat} {am : OA} {Z : Nat} {mod : LI} (h : sO w P m am Z mod) (hb : OC w w') : sO w' P m am Z mod:=⟨h.rf,h.mods.af hb⟩
theorem RF.gV {P : Int} {m : Nat} (h : RF P m) {x : Int} (Z : eH P m x) : gV (aH P m) x=true:=by unfold Proofs.YthglbncgemdcbaaGreat.gV;rw [h.order];simp [Z.1,Z.2]
theorem uS {P : Int} {m : Nat} (h : RF P m) (mod : LI) (x y : Int) : eH P m (mulR P m mod x y):=by
 have Z : 0<P:=by have:=h.p2;omega
 have:=mO Z (mulL P m mod (digs x P m) (digs y P m)) (vT Z m mod _ _);rwa [xF P mod _ _ h.m1] at this
def invTo (f : Int->Int) : Nat->Int->Int
 | 0,_=>0
 | n+1,y=>if f y=1 then y else invTo f n (y+1)
def gn (P : Int) (m : Nat) (mod : LI) (x : Int) : Int:=invTo (mulR P m mod x) ((aH P m).toNat - 1) 1
def jW (P : Int) (m : Nat) (mod : LI) : aM:=⟨fsum P m,mulR P m mod,fneg P m,gn P m mod⟩
theorem wF (f : Int->Int) : ∀(n : Nat) (y : Int),0<=y->0<=invTo f n y/\(invTo f n y<y+n\/invTo f n y=0)
 | 0,y,h=>by simp [invTo]
 | n+1,y,h=>by
  unfold invTo;split
  ·omega
  ·have:=wF f n (y+1) (by omega);omega
theorem BA {P : Int} {m : Nat} (h : RF P m) (mod : LI) (x : Int) : eH P m (gn P m mod x):=by have h1:=wF (mulR P m mod x) ((aH P m).toNat - 1) 1 (by omega);have h2:=h.order;have h3:=one_lt_pow h.res;unfold gn eH;omega
theorem JJ {P : Int} {m : Nat} (h : RF P m) (mod : LI) : qa (jW P m mod) (eH P m) :=
 ⟨λx y _ _=>gC h.res x y,λx y _ _=>uS h mod x y,λx _=>uW h.res x,λx _ _=>BA h mod x⟩
theorem EE (P : Int) (m : Nat) (am : OA) (N cm : Nat) (mod : LI) (x : Int) (w : World) (hf : sO w P m am N mod) (hx : eH P m x) :
  Calls prog 226 #[.agg #[.int .i64 P,.int .i64 m,.slice am N cm],.int .i64 x] w λe w'=>e = .returned (.int .i64 (gn P m mod x))/\OC w w':=by
 have Z:=hf.rf;have Hq:=Z5 (Z.gV hx);have S:=Z.order;have E:=Z.pw;obtain ⟨q,j⟩ : ∃q : Nat,P ^ m=q:=⟨(P ^ m).toNat,by have:=one_lt_pow Z.res;omega⟩
 have hq2 : 2<=q:=by have:=one_lt_pow Z.res;omega
 have Y : aH P m=q:=by rw [S,j]
 have H:=Z5 Y;have HI : Hid (gn P m mod x=invTo (mulR P m mod x) (q - 1) 1):=by show _=_;rw [gn,Y];simp
 have Hel : Hid (∀k : Nat,k<q->gV (aH P m) k=true):=λk hk=>Z.gV ⟨by omega,by rw [j];omega⟩;have A : q<=256:=by omega
 clear S j Y E;go_enter func226,ntmps226;go_wp2_with fail;obtain ⟨W,D⟩ : ∃W : World,W=w.alloc (.cells #[.int .i64 P,.int .i64 m,.slice am N cm] 24):=⟨_,rfl⟩
 rw [<- D];have Q : OC w W:=by rw [D];exact an _ _
 have x0 : aO W w.heap.size [.int .i64 P,.int .i64 m,.slice am N cm]:=by rw [D];exact NY _ _ _ rfl
 have HX:=Z5 x0;clear D x0;have hfW:=hf.af Q;go_loopw [5] (λB wr=>∃y : Nat,1<=y/\y<=q/\B = .int .i64 y/\Hid (gn P m mod x=invTo (mulR P m mod x) (q - y) y)/\OC W wr) (λB _=>q - (intOf B).toNat);case atStart=>exact ⟨1,by omega,by omega,rfl,by show _=_;rw [HI.out];rfl,JP _ _⟩
 case round =>
  obtain ⟨y,hy1,hyq,rfl,hinv,L⟩:=hrel
  have V:=HX.out.af L
  have d0:=V.cell 0 rfl
  have d1:=V.cell 1 rfl
  have d2:=V.cell 2 rfl
  clear V
  go_wp2_with fail
  refine (mc P m am N cm wr).mono ?_
  rintro e w1 ⟨rfl,z⟩
  rw [H.out]
  have X:=NX L z
  have V:=HX.out.af X
  have d0:=V.cell 0 rfl
  have d1:=V.cell 1 rfl
  have d2:=V.cell 2 rfl
  clear V
  by_cases r : y<q
  ·have hlt' : (y : Int)<q:=by omega
   have K : invTo (mulR P m mod x) (q - y) y=if mulR P m mod x y=1 then (y : Int) else invTo (mulR P m mod x) (q - (y+1)) (y+1):=by rw [show q - y=(q - (y+1))+1 by omega,invTo]
   have F:=Z5 K
   clear K
   go_wp2_with fail
   refine (qn P m am N cm mod x y w1 Z ((hfW.af X).mods) Hq.out (Hel.out y r)).mono ?_
   rintro e w2 ⟨rfl,C⟩
   have U:=NX X C
   by_cases h1 : mulR P m mod x y=1
   ·have I : Hid (gn P m mod x=y):=by show _=_;rw [hinv.out,F.out,JT h1]
    rw [h1]
    clear h1
    go_wp2_with fail
    go_ret
    exact ⟨aK I.out.symm,NX Q U⟩
   ·have I : Hid (gn P m mod x=invTo (mulR P m mod x) (q - (y+1)) ((y+1 : Nat) : Int)):=by show _=_;rw [hinv.out,F.out,JR h1];rfl
    have h1' : (mulR P m mod x y == 1)=false:=by simpa using h1
    clear h1
    go_wp2_with fail
    go_roundw
    case rel=>exact ⟨y+1,by omega,by omega,by go_num,I.out,U⟩
    case measure=>simp [intOf] <;> omega
  ·obtain rfl : y=q:=by omega
   have I : Hid (gn P m mod x=0):=by show _=_;rw [hinv.out,MS];rfl
   go_wp2_with fail
   go_ret
   exact ⟨aK I.out.symm,NX Q X⟩
theorem zj (P : Int) (m : Nat) (am : OA) (L cm : Nat) (mod : LI) (s : Int) (a : OA) (n c : Nat) (l : LI) (w : World) (hf : sO w P m am L mod) (hs : eH P m s) (hi : Ints w a n l) (hl : ∀x ∈ l,eH P m x) (hn : n<=1000000) :
  Calls prog 225 #[.agg #[.int .i64 P,.int .i64 m,.slice am L cm],.int .i64 s,.slice a n c] w (db w (l.map (mulR P m mod s))):=by
 have H:=hf.rf;have Hs:=Z5 (H.gV hs);have X:=Z5 hi.len;have hpl:=hi.pl;have Hl : Hid (∀k,k<n->gV (aH P m) (nth l k)=true):=λk B=>H.gV (hl _ (aI (by rw [hi.len];exact B)));clear hl;go_enter func225,ntmps225;go_wp2_with (at_make;refine ch rfl _ _ 22 3 rfl (.int .i64 0) 8 underlying22 aV rfl n rfl rfl (by omega) (by unfold maxLen;omega) ?_;intro a1 w1 Z Y hge U);obtain ⟨W,A⟩ : ∃W : World,W=w.alloc (.cells #[.int .i64 P,.int .i64 m,.slice am L cm] 24):=⟨_,rfl⟩
 rw [<- A] at Z Y hge;have N : OC w W:=by rw [A];exact an _ _
 have x0 : aO W w.heap.size [.int .i64 P,.int .i64 m,.slice am L cm]:=by rw [A];exact NY _ _ _ rfl
 have r:=hf.af N;have hiW:=hi.af N;have hS : ∀k,k<n->∀V,OC W V->V.cell? ⟨w.heap.size,0,none⟩=some (.int .i64 P)/\V.cell? ⟨w.heap.size,1,none⟩=some (.int .i64 m)/\V.cell? ⟨w.heap.size,2,none⟩=some (.slice am L cm) /\
   V.cell? ⟨ablk a,aL a+k,none⟩=some (.int .i64 (nth l k))/\OC W V:=by intro k B V E;have x1:=x0.af E;exact ⟨x1.cell 0 rfl,x1.cell 1 rfl,x1.cell 2 rfl,(hiW.af E).cell k B,E⟩
 have HS:=Z5 hS;clear A x0 hS;go_loopw [8] (λiv wr=>∃k : Nat,k<=n/\iv = .int .i64 k /\
   wr.ownsRow W.heap.size 3 1 (.slice a1 n n) n ((dk ((l.take k).map (mulR P m mod s)) k n).map (Value.int .i64))/\OC W wr)
  (λi _=>n - (intOf i).toNat)
 case atStart=>exact ⟨0,JU _,rfl,by simpa [dk] using Z,Y⟩
 case round =>
  obtain ⟨k,B,rfl,Z,Y⟩:=hrel
  obtain ⟨hints,I⟩:=NZ Z
  have hpl1:=hints.pl
  by_cases U : k<n
  ·have z : Hid (∀V, OC W V -> V.cell? ⟨w.heap.size, 0, none⟩ = some (.int .i64 P) /\ V.cell? ⟨w.heap.size, 1, none⟩ = some (.int .i64 m) /\ V.cell? ⟨w.heap.size, 2, none⟩ = some (.slice am L cm) /\
     V.cell? ⟨ablk a,aL a+k,none⟩=some (.int .i64 (nth l k))/\OC W V):=HS.out k U
   have hB:=(I (by omega)).1
   have HB:=Z5 hB
   have S:=Z5 Y
   have HK : Hid (∀V,Below wr.drew.heap.size wr.drew V->(∃v,V.cell? ⟨ablk a1,aL a1+k,none⟩=some v)/\V.frozen? ⟨ablk a1,aL a1+k,none⟩=false/\OC wr V):=λV E=>by have C : OC wr V:=NX (JP _ _).drew E;have ho:=bp Z C;exact ⟨⟨_,(NZ ho).1.cell k U⟩,((NZ ho).2 (by omega)).2 k U,C⟩
   have F:=(r.af Y).mods
   have j : Hid (xI wr.drew P m am L mod):=F.af (JP _ _).drew
   clear hB Y F
   go_wp2_with fail
   go_region_held3 (λV=>V.cell? ⟨w.heap.size,0,none⟩=some (.int .i64 P)/\V.cell? ⟨w.heap.size,1,none⟩=some (.int .i64 m)/\V.cell? ⟨w.heap.size,2,none⟩=some (.slice am L cm) /\
     V.cell? ⟨ablk a,aL a+k,none⟩=some (.int .i64 (nth l k))/\OC W V)
    ((refine z.out _ ?_;first | exact S.out.drew | exact NX S.out Q | exact (NX S.out Q).setCell HB.out _))
    (first
     | (go_at_call 114;((with_reducible refine (qn P m am L cm mod s (nth l k) _ H j.out Hs.out (Hl.out k U)).mono ?_);rintro e w4 ⟨rfl,hb4⟩;obtain ⟨⟨v9,k9⟩,f9,Q⟩:=HK.out w4 hb4)))
   clear k9 f9
   go_wp2_with fail
   go_roundw
   case rel =>
    refine ⟨k+1,by omega,by go_num,?_,(NX S.out Q).setCell HB.out _⟩
    have h:=bC (bp Z Q) k U (.int .i64 (mulR P m mod s (nth l k)))
    rw [<- Kh,fo _ _ _ _ (by simp [X.out];omega) U] at h
    rw [JW (by rw [X.out];omega),Ko]
    rw [aj (by rw [X.out];omega)] at h ⊢
    exact h
   case measure=>simp [intOf] <;> omega
  ·obtain rfl : k=n:=by omega
   have K : dk ((l.take k).map (mulR P m mod s)) k k=l.map (mulR P m mod s):=by rw [fR,JX (by rw [X.out];exact JO _)]
   rw [K] at Z
   have D : Hid ((l.map (mulR P m mod s)).length=k):=by show _=_;simp [X.out]
   clear K
   go_wp2_with fail
   go_ret
   exact ⟨a1,k,by rw [D.out];rfl,by rw [D.out];exact bd Z N.size,NX N Y⟩
section
structure H9 (O O' : aM) (El : Int->Prop) : Prop where
 add : ∀x y,El x->El y->O.add x y=O'.add x y
 mul : ∀x y,El x->El y->O.mul x y=O'.mul x y
 neg : ∀x,El x->O.neg x=O'.neg x
 inv : ∀x,El x->x ≠ 0->O.inv x=O'.inv x
variable {O O' : aM} {El : Int->Prop}
theorem j7 (h : H9 O O' El) (U : qa O El) : ∀(v u : LI) (s : Int),(∀x ∈ v,El x)->(∀x ∈ u,El x)->El s->bN O v s u=bN O' v s u
 | [],_,_,_,_,_=>by simp [bN]
 | _ :: _,[],_,_,_,_=>by simp [bN]
 | x :: v,y :: u,s,V,hu,Z=>by have S:=j7 h U v u s (λz Y=>V z (by simp [Y])) (λz Y=>hu z (by simp [Y])) Z;unfold bN at S ⊢;have Q:=V x (by simp);have X:=hu y (by simp);simp only [MZ,S];rw [h.mul s y Z X,h.add x _ Q (by rw [<- h.mul s y Z X];exact U.mul s y Z X)]
theorem vH (h : H9 O O' El) (X : qa O El) {Y r : LI} {c m : Nat} (S : c<m) (U : Y.length=m/\∀x ∈ Y,El x) (V : r.length=m/\∀x ∈ r,El x) : cH O Y c r=cH O' Y c r:=by
 have Z : El (nth r c):=V.2 _ (aI (by omega));unfold cH;rw [h.neg _ Z];split
 ·rfl
 ·exact j7 h X _ _ _ V.2 U.2 (by rw [<- h.neg _ Z];exact X.neg _ Z)
theorem pd (h : H9 O O' El) (Y : qa O El) {m : Nat} {L : Ll} (V : bs El m L) {t c : Nat} (X : t<L.length) (Z : c<m) : ∀i,i<=L.length->clearTo O t c L i=clearTo O' t c L i
 | 0,_=>rfl
 | i+1,hi=>by
  have S:=pd h Y V X Z i (by omega);have U:=Og Y V X Z i (by omega);have Q:=dq O t c L i;unfold clearTo;rw [<- S];split
  ·rfl
  ·rw [vH h Y Z (U.row (by omega)) (U.row (by omega))]
theorem wA (h : H9 O O' El) (U : qa O El) {m : Nat} {L : Ll} (V : bs El m L) {t c : Nat} (X : t<L.length) (Q : c<m) (h0 : nth (ai L t) c ≠ 0) : bw O L t c=bw O' L t c:=by
 have Y:=V.row X;have Z : El (nth (ai L t) c):=Y.2 _ (aI (by omega));unfold bw;rw [h.inv _ Z h0];split
 ·rfl
 ·congr 1;refine Lh λx S=>?_;exact h.mul _ _ (by rw [<- h.inv _ Z h0];exact U.inv _ Z h0) (Y.2 x S)
theorem Ax (h : H9 O O' El) (U : qa O El) {m : Nat} {L : Ll} (N : bs El m L) {t k c : Nat} (Q : t<L.length) (K : k<L.length) (V : c<m) (h0 : nth (ai L k) c ≠ 0) (I : t<=k) :
  en O L t k c=en O' L t k c/\bs El m (en O L t k c):=by
 have Y : bs El m (if k=t then L else bt L t k):=by split;exact N;exact N.swap Q K
 have S : (if k=t then L else bt L t k).length=L.length:=by split;rfl;exact bG _ _ _
 have Z : nth (ai (if k=t then L else bt L t k) t) c ≠ 0:=by
  split
  ·rename_i e;subst e;exact h0
  ·rename_i e;have : ai (bt L t k) t=ai L k:=by unfold bt;rw [ei _ _ _ _ (by simpa using K),JR (by omega),ei _ _ _ _ Q,JT rfl]
   rw [this];exact h0
 rw [iB,iB,<- wA h U Y (by omega) V Z];have X:=Y.norm U (t:=t) (c:=c) (by omega) V Z;have H : (bw O (if k=t then L else bt L t k) t c).length=L.length:=by rw [dr,S]
 exact ⟨pd h U X (by omega) V _ (by omega),Og U X (by omega) V _ (by omega)⟩
theorem gy (h : H9 O O' El) (S : qa O El) {m : Nat} {L : Ll} (U : bs El m L) : ∀k,k<=m->aC O L k=aC O' L k/\bs El m (aC O L k).1
 | 0,_=>⟨rfl,U⟩
 | k+1,Q=>by
  obtain ⟨h1,h2⟩:=gy h S U k (by omega);obtain ⟨Lk,P,Z⟩ : ∃Lk P,aC O L k=(Lk,P):=⟨_,_,rfl⟩
  rw [Z] at h1 h2;have hlen : Lk.length=L.length:=by have:=bL O L k;rw [Z] at this;exact this
  by_cases Y : P.length<Lk.length
  ·rw [dR Z.symm Y,dR h1 Y];by_cases V : aZ Lk k P.length=Lk.length
   ·rw [JT V,JT V];exact ⟨rfl,h2⟩
   ·rw [JR V,JR V];have hb:=jV (L:=Lk) (c:=k) (k:=P.length) (by omega);have hne : nth (ai Lk (aZ Lk k P.length)) k ≠ 0:=gK Lk k (Lk.length - P.length) P.length (by have : findTo Lk k P.length (Lk.length - P.length)=aZ Lk k P.length:=rfl;omega);have X : aZ Lk k P.length<Lk.length:=by omega
    have:=Ax h S (L:=Lk) h2 (t:=P.length) (k:=aZ Lk k P.length) (c:=k) Y X (by omega) hne hb.1;exact ⟨by rw [this.1],this.2⟩
  ·have e : ∀(O : aM),aC O L k=(Lk,P)->aC O L (k+1)=(Lk,P):=λO he=>by rw [aC];simp only [he];rw [JR Y]
   rw [e O Z,e O' h1.symm];exact ⟨rfl,h2⟩
end
section
variable {P : Int} {M : Nat} {low : Nat->Int}
def yJ (M : Nat) (low : Nat->Int) (n : Nat) (c : LI) : Nat->Int:=λi=>sm n (λk=>nth c k * e8 M low k (eV 0) i)
theorem ID {n k : Nat} {c : LI} {z : Int} (f : Nat->Int) (Y : k<n) (Z : k<c.length) : sm n (λj=>nth (c.set k z) j * f j)=sm n (λj=>nth c j * f j)+(z - nth c k) * f k:=by
 have h1 : sm n (λj=>nth (c.set k z) j * f j)=sm n (λj=>nth c j * f j+(if j=k then (z - nth c k) * f k else 0)):=bR λj _=>by
  rw [eh _ _ _ _ Z];by_cases e : j=k
  ·subst e;rw [JT rfl,JT rfl,Ng];omega
  ·rw [JR e,JR e];omega
 rw [h1,uF];congr 1;rw [jC Y λi _ hne=>JR hne,JT rfl]
theorem xH {n k : Nat} {c : LI} {d : Int} (Y : k<n) (Z : k<c.length) :
  Cg P (yJ M low n (c.set k ((nth c k+d) % P))) (λi=>yJ M low n c i+d * e8 M low k (eV 0) i):=λi=>by
 simp only [yJ];rw [ID (λj=>e8 M low j (eV 0) i) Y Z];obtain ⟨e,he⟩:=nZ P (nth c k+d);refine ⟨e * e8 M low k (eV 0) i,?_⟩;have h1 : (nth c k+d) % P - nth c k=d+P * e:=by omega
 rw [h1,Nd,KV];omega
theorem Fp {a b : LI} {i n : Nat} {c : LI} (Z : c.length=n) : ∀j,i+j<=n ->
  Cg P (yJ M low n (cvJ P a b i c j)) (λs=>yJ M low n c s+sm j (λj=>nth a i * nth b j * e8 M low (i+j) (eV 0) s))
 | 0,_=>Oh (by funext s;simp [cvJ,sm])
 | j+1,X=>by have Y:=Fp (a:=a) (b:=b) (i:=i) Z j (by omega);rw [cvJ];refine (xH (by omega) (by rw [uk];omega)).trans ((Cg.add Y (Om P _)).trans (Oh ?_));funext s;simp only [sm];omega
theorem ED {a b : LI} {n : Nat} (Z : 2 * M - 1<=n) (Y : 1<=M) : ∀i,i<=M ->
  Cg P (yJ M low n (uj P a b M n i)) (λs=>sm i (λi=>sm M (λj=>nth a i * nth b j * e8 M low (i+j) (eV 0) s)))
 | 0,_=>Oh (by
  funext s;simp only [yJ,uj,sm];rw [bR (g:=λ_=>0) λk _=>by
   have : nth (List.replicate n 0) k=0:=by simp only [nth,JS,Ke];split <;> rfl
   rw [this,Int.zero_mul],jj])
 | i+1,hi=>by have X:=ED (a:=a) (b:=b) Z Y i (by omega);rw [uj];refine (Fp (jb P a b M n i) M (by omega)).trans ((Cg.add X (Om P _)).trans (Oh ?_));funext s;simp only [sm]
theorem Jc (Z : 1<=M) : e8 M low M (eV 0)=λi=>if i<M then - low i else 0:=by
 obtain ⟨m,rfl⟩ : ∃m,M=m+1:=⟨M - 1,by omega⟩
 rw [e8,AH m (by omega)];funext i;simp only [so,eV];by_cases h : i<m+1
 ·rw [JT h,JT h,L9];by_cases h0 : i=0
  ·rw [JT h0,JT rfl];omega
  ·rw [JR h0,JR (by omega),JT rfl];omega
 ·rw [JR h,JR h]
theorem IS (X : 1<=M) (t : Nat) : (λs=>sm M (λj=>low j * e8 M low (t+j) (eV 0) s))=λs=>- e8 M low (t+M) (eV 0) s:=by
 have h1 : (λs=>sm M (λj=>low j * e8 M low (t+j) (eV 0) s))=e8 M low t (λs=>sm M (λj=>low j * e8 M low j (eV 0) s)):=by rw [vM];funext s;refine bR λj _=>?_;rw [jy,nj]
 have h2 : (λs=>sm M (λj=>low j * e8 M low j (eV 0) s))=λs=>(-1) * e8 M low M (eV 0) s:=by
  funext s;rw [congrFun (Jc (low:=low) X) s];have h3 : sm M (λj=>low j * e8 M low j (eV 0) s)=sm M (λj=>low j * eV j s):=bR λj Y=>by rw [AH j Y]
  rw [h3];by_cases Z : s<M
  ·rw [jC Z λi _ hne=>by simp only [eV];rw [JR (by omega)];omega];rw [JT Z];simp [eV]
  ·rw [JR Z,bR (g:=λ_=>0) λj Y=>by simp only [eV];rw [JR (by omega)];omega,jj];rfl
 rw [h1,h2,jy];funext s;rw [<- nj];omega
theorem BT {mod : LI} {i : Nat} {c : LI} (hi : M<=i) (Z : i<c.length) : ∀j,j<=M->nth (tf P M mod i c j) i=nth c i
 | 0,_=>rfl
 | j+1,Y=>by rw [tf,eh _ _ _ _ (by rw [qh];omega),JR (by omega)];exact BT hi Z j (by omega)
theorem EN {mod : LI} {i : Nat} {c : LI} (hi : M<=i) (Z : i<c.length) : ∀j,j<=M ->
  Cg P (yJ M low i (tf P M mod i c j)) (λs=>yJ M low i c s+(- nth c i) * sm j (λj=>nth mod j * e8 M low (i - M+j) (eV 0) s))
 | 0,_=>Oh (by funext s;simp [tf,sm])
 | j+1,U=>by have V:=EN (mod:=mod) hi Z j (by omega);rw [tf,BT hi Z j (by omega)];refine (xH (by omega) (by rw [qh];omega)).trans ?_;refine (Cg.add V (Om P _)).trans ?_;intro s;simp only [sm];generalize sm j (λj=>nth mod j * e8 M low (i - M+j) (eV 0) s)=X;generalize e8 M low (i - M+j) (eV 0) s=Y;refine ⟨nth mod j * Y,?_⟩;simp only [K9,Ng,Int.neg_mul,KV];omega
theorem D4 {mod : LI} (Y : 1<=M) (Z : ∀j,low j=nth mod j) {c : LI} (X : c.length=2 * M - 1) : ∀k,k<=M - 1 ->
  Cg P (yJ M low (2 * M - 1 - k) (tU P M mod c k)) (yJ M low (2 * M - 1) c)
 | 0,_=>Om P _
 | k+1,U=>by
  have V:=D4 Y Z X k (by omega);rw [tU];refine Ov ?_ V;obtain ⟨i,hi⟩ : ∃i,2 * M - 2 - k=i:=⟨_,rfl⟩
  rw [hi,show 2 * M - 1 - (k+1)=i by omega,show 2 * M - 1 - k=i+1 by omega];refine (EN (low:=low) (by omega) (by rw [j9];omega) M (JO _)).trans (Oh ?_);funext s;have h1 : sm M (λj=>low j * e8 M low (i - M+j) (eV 0) s) = - e8 M low (i - M+M) (eV 0) s:=congrFun (IS (low:=low) Y (i - M)) s;rw [bR (g:=λj=>low j * e8 M low (i - M+j) (eV 0) s) λj _=>by rw [Z],h1,show i - M+M=i by omega];simp only [yJ,sm];rw [Int.neg_mul,Nf];omega
theorem xg (c : LI) (X : M<=c.length) : yJ M low M c=nth (c.take M):=by
 funext s;simp only [yJ];rw [bR (g:=λj=>nth c j * eV j s) λj Z=>by rw [AH j Z]];by_cases Y : s<M
 ·rw [jC Y λi _ hne=>by simp only [eV];rw [JR (by omega)];omega,xh Y];simp [eV]
 ·rw [i6 (by rw [Ki];omega),bR (g:=λ_=>0) λj Z=>by simp only [eV];rw [JR (by omega)];omega,jj]
end
theorem FQ {P : Int} {m : Nat} (V : RF P m) (mod : LI) (x y : Int) : mulR P m mod x y=dh P m mod x y:=by
 have Z:=V.res;have S:=Z.pos;have Y:=V.m1;refine (uS V mod x y).ext Z (fs Z x y) (Ov ?_ (fO S m mod x y).symm);have hd : dV P m (mulR P m mod x y)=nth (mulL P m mod (digs x P m) (digs y P m)):=by unfold dV mulR;have:=lD (P:=P) (mulL P m mod (digs x P m) (digs y P m)) (vT S m mod _ _);rw [xF P mod _ _ Y] at this;rw [this]
 rw [hd];have Q:=ED (P:=P) (M:=m) (low:=nth (lJ m mod)) (a:=digs x P m) (b:=digs y P m) (n:=2 * m - 1) (JO _) Y m (JO _);have N : Cg P (yJ m (nth (lJ m mod)) (2 * m - 1) (uj P (digs x P m) (digs y P m) m (2 * m - 1) m)) (fX m (nth (lJ m mod)) (dV P m x) (dV P m y)):=by rw [ky (mH P m y)];exact Q
 refine Ov ?_ N;unfold mulL;by_cases h1 : 1<m
 ·have X : ∀j,nth (lJ m mod) j=nth mod j:=λj=>by rw [lJ,JT h1]
  have U:=D4 (P:=P) Y X (jb P (digs x P m) (digs y P m) m (2 * m - 1) m) (m - 1) (JO _);rw [show 2 * m - 1 - (m - 1)=m by omega,xg _ (by rw [j9,jb];omega)] at U;exact U
 ·obtain rfl : m=1:=by omega
  rw [<- xg (M:=1) (low:=nth (lJ 1 mod)) _ (by rw [j9,jb];omega)];exact Om P _
def wL (q : Int) (k : Nat) : Int:=if q ^ k<=65536 then q ^ k else 0
def oa (q : Int) (k : Nat) : Int:=if q ^ k<=65536 then 0 else 8
theorem Bk {q : Int} {k : Nat} (h : q ^ k<=65536) : wL q k=q ^ k/\oa q k=0:=by simp [wL,oa,h]
theorem DL {q : Int} {k : Nat} (h : ¬ q ^ k<=65536) : wL q k=0/\oa q k=8:=by simp [wL,oa,h]
theorem AF {a b c d : Int} {k Z : IntKind} (h : a=b) (Y : c=d) : Ending.returned (.tuple #[.int k a,.int Z c]) = .returned (.tuple #[.int k b,.int Z d]):=by rw [h,Y]
theorem Gi (q : Int) (n : Nat) (w : World) (h2 : 2<=q) (Q : q<=256) (A : n<=1000000) :
  Calls prog 207 #[.int .i64 q,.int .i64 n,.int .i64 65536] w λe w'=>e = .returned (.tuple #[.int .i64 (wL q n),.int .i64 (oa q n)])/\w=w':=by
 go_enter func207,ntmps207;go_wp2_with fail;go_loop [1,8] (λF D=>∃k : Nat,k<=n/\F = .int .i64 ((n : Int) - k)/\D = .int .i64 (q ^ k)/\q ^ k<=65536/\1<=q ^ k) (λi _=>(intOf i).toNat);case atStart=>exact ⟨0,JU _,by simp,by simp,by simp,by simp⟩
 case round =>
  obtain ⟨k,B,rfl,rfl,hb,V⟩:=hrel
  have E : q ≠ 0:=by omega
  by_cases H : k<n
  ·have e1 : q ^ (k+1)=q ^ k * q:=KH _ _
   have L : (0 : Int)<=65536 / q:=Lf (by omega) (by omega)
   have I : 65536 / q<=65536:=Lo _ (by omega)
   by_cases N : 65536 / q<q ^ k
   ·have Z : ¬ q ^ n<=65536:=by intro h;have S:=dS (show 1<=q by omega) (show k+1<=n by omega);have K : 65536<q ^ k * q:=Na (by omega) N;omega
    have Y:=Z5 (DL Z)
    clear e1 Z
    generalize q ^ k=z at *
    go_wp2_with fail
    go_ret2
    exact ⟨AF Y.out.1.symm Y.out.2.symm,rfl⟩
   ·have S : q ^ k * q<=65536:=by have:=Int.mul_le_of_le_ediv (show (0 : Int)<q by omega) (show q ^ k<=65536 / q by omega);exact this
    have K : 1 * 1<=q ^ k * q:=L3 V (by omega) (by omega) (by omega)
    have X:=Z5 e1
    clear e1
    generalize U : q ^ k=z at *
    have C:=Z5 U
    clear U
    go_wp2_with fail
    go_round
    case rel=>exact ⟨k+1,by omega,by go_num,by rw [X.out],by rw [X.out];exact S,by rw [X.out];omega⟩
    case measure=>simp [intOf] <;> omega
  ·obtain rfl : k=n:=by omega
   have Y:=Z5 (Bk hb)
   generalize q ^ k=z at *
   go_wp2_with fail
   go_ret2
   exact ⟨AF Y.out.1.symm Y.out.2.symm,rfl⟩
end Go.Proofs.YthglbncgemdcbaaGreat
