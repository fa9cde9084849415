import Derived.Test.YthglbncgemdcbaaGreatCE4
namespace Go.Proofs.YthglbncgemdcbaaGreat
set_option linter.all false
set_option maxRecDepth 100000
set_option maxHeartbeats 4000000
open Go.RowKit Go.Proofs.Tryz
section
variable {w:World} {b:Nat} {G:cZ}
theorem db.dc {a Z:OA} {R:LA} {w w':World} (h:db Z w w') (Y:Z ≠ none->bQ a R (ablk Z)):aC w w' (bQ a R) (bQ a R) :=
 ⟨h.os,h.tape,h.output,h.size,λb hb hI=>h.block b hb (λ⟨h1,h2⟩=>hI (by rw [h2];exact Y h1)),λ_ h=>.inl h⟩
theorem Eo (F:World) (a:OA) (n c:Nat) (R:LA) (L:Ll) (A pi z E m:Nat) (i:Nat) (x:Int) (t:Nat) (U:aO w F.heap.size a n c R L)
  (h:dU F b G) (hb:PY F w)
  (hg:w.cell? ⟨A,0,none⟩=some (.pointer (some ⟨b,0,none⟩))) (hi:w.cell? ⟨pi,0,none⟩=some (cG i)) (hx:w.cell? ⟨z,0,none⟩=some (cG x)) (ht:w.cell? ⟨E,0,none⟩=some (cG t))
  (Y:i<n) (H:t<n) (hit:i ≠ t) (r:G.El x) (ng:¬ bQ a R A) (ni:¬ bQ a R pi) (nx:¬ bQ a R z) (nt:¬ bQ a R E) (hei:G.Ch (ai L i)) (het:G.Ch (ai L t)) (V:(ai L i).length=m) (K:(ai L t).length=m) :
  Calls prog 256 #[.slice a n c,.pointer (some ⟨A,0,none⟩),.pointer (some ⟨pi,0,none⟩),.pointer (some ⟨z,0,none⟩),.pointer (some ⟨E,0,none⟩)] w
   λe w'=>e = .returned (.tuple #[])/\aO w' F.heap.size a n c R (L.set i (bX G.ops (ai L i) (G.neg x) (ai L t)))/\aC w w' (bQ a R) (bQ a R):=by
 have hpl:=U.pl;have ct:=U.cell H;have ci:=U.cell Y;have ri:=U.row i Y;have rt:=U.ints H;have N:=U.sep i t Y H hit;have hne:G.El (G.neg x):=cZ.u9 h x;rw [K] at ct rt;rw [V] at ci ri;have C:(aM R i).1=none\/(aM R t).1=none\/ablk (aM R t).1 ≠ ablk (aM R i).1:=N;have S:∀k,Calls prog 198 #[.pointer (some ⟨b,0,none⟩),.slice (aM R i).1 m (aM R i).2,cG (G.neg x),.slice (aM R t).1 m (aM R t).2] (w.drewN k)
   λe w'=>e = .returned (.tuple #[])/\(w'.cell? ⟨A,0,none⟩=some (.pointer (some ⟨b,0,none⟩))/\w'.cell? ⟨pi,0,none⟩=some (cG i)/\w'.cell? ⟨z,0,none⟩=some (cG x)/\w'.cell? ⟨E,0,none⟩=some (cG t) /\
    w'.cell? ⟨ablk a,aJ a+t,none⟩=some (.slice (aM R t).1 m (aM R t).2)/\w'.cell? ⟨ablk a,aJ a+i,none⟩=some (.slice (aM R i).1 m (aM R i).2))/\(aO w' F.heap.size a n c R (L.set i (bX G.ops (ai L i) (G.neg x) (ai L t)))/\aC w w' (bQ a R) (bQ a R)):=by
  intro k;have hd:bg w (w.drewN k):=⟨k,rfl⟩
  refine (Ix F _ _ m (ai L i) (G.neg x) _ _ (ai L t) h (hd.Ag hb) (bf ri hd.below) (rt.af hd.below) C hei het hne).mono ?_;rintro e w' ⟨rfl,B,Z⟩;have X:aC w w' (bQ a R) (bQ a R):=(Pr hd.below _).trans (Z.dc (λhn=>aO.kg (by rw [U.rl];exact Y) hn));have Q:¬ ((aM R i).1 ≠ none/\ablk a=ablk (aM R i).1):=by
   rintro ⟨h1,h2⟩;rcases U.tq i Y with h3 | h3
   ·exact h1 h3
   ·exact h3 h2.symm
  refine ⟨rfl,⟨X.cell hg ng,X.cell hi ni,X.cell hx nx,X.cell ht nt,PS (PH (Pr hd.below _) Z) ct Q,PS (PH (Pr hd.below _) Z) ci Q⟩,?_,X⟩;have hOr:=U.af hd.below;have hl:(bX G.ops (ai L i) (G.neg x) (ai L t)).length=(ai L i).length:=dm _ _ _ _ (by rw [V,K]);refine hOr.Jc Y hl (by rw [V];exact B) λb hb hne=>Z.block b hb λ⟨h1,h2⟩=>?_;rcases hne with h3 | h3
  ·exact h1 h3
  ·exact h3 h2
 have D:=Z5 S;have hG:=h.af hb;have HG:Hid (dU w.drew b G/\∀n,dU (w.drewN n) b G):=⟨hG.af (KU _ _).drew,λn=>hG.drewN n⟩
 clear S N C V K;generalize L.set i (bX G.ops (ai L i) (G.neg x) (ai L t))=L' at *;go_enter func256,ntmps256;go_wp2_with fail;go_region_held3 (fun w' => w'.cell? ⟨A, 0, none⟩ = some (.pointer (some ⟨b, 0, none⟩)) ∧ w'.cell? ⟨pi, 0, none⟩ = some (cG i) ∧ w'.cell? ⟨z, 0, none⟩ = some (cG x) ∧ w'.cell? ⟨E, 0, none⟩ = some (cG t) ∧
       w'.cell? ⟨ablk a,aJ a+t,none⟩=some (.slice (aM R t).1 m (aM R t).2)/\w'.cell? ⟨ablk a,aJ a+i,none⟩=some (.slice (aM R i).1 m (aM R i).2))
  (first | assumption | exact ⟨hg,hi,hx,ht,ct,ci⟩)
  (first
  | (go_at_call 103;((with_reducible refine (IT x HG.out.1 r).mono ?_);rintro e w4 ⟨m4,rfl,rfl⟩))
  | (go_at_call 198;((with_reducible refine (D.out _).mono ?_);rintro e w5 ⟨rfl,hS5,hO5,j⟩)))
 go_wp2_with fail;go_end0;exact ⟨rfl,hO5,j⟩
end
section
variable {w:World}
theorem Ew (c0 c1:Value) (p q:Nat) (a:OA) (n c:Nat) (X:World->Prop) (h1:w.cell? ⟨p,0,none⟩=some (.slice a n c))
  (Z:Calls prog 254 #[.slice a n c,c0,c1] w λe w'=>e = .returned (.tuple #[])/\w'.cell? ⟨q,0,none⟩=some ds/\X w') :
  Calls prog 253 #[.func (.func 254) #[] #[c0,c1],.pointer (some ⟨p,0,none⟩),.pointer (some ⟨q,0,none⟩)] w
   λe w'=>e = .returned (.tuple #[])/\X w':=by have Y:=Z5 Z;clear Z;go_enter func253,ntmps253;go_wp2_with fail;refine Y.mono ?_;rintro e w' ⟨rfl,U,V⟩;go_wp2_with fail;go_end0;exact ⟨rfl,V⟩
theorem Em (c0 c1 c2:Value) (p q:Nat) (a:OA) (n c:Nat) (X:World->Prop) (h1:w.cell? ⟨p,0,none⟩=some (.slice a n c))
  (Z:Calls prog 255 #[.slice a n c,c0,c1,c2] w λe w'=>e = .returned (.tuple #[])/\w'.cell? ⟨q,0,none⟩=some ds/\X w') :
  Calls prog 253 #[.func (.func 255) #[] #[c0,c1,c2],.pointer (some ⟨p,0,none⟩),.pointer (some ⟨q,0,none⟩)] w
   λe w'=>e = .returned (.tuple #[])/\X w':=by have Y:=Z5 Z;clear Z;go_enter func253,ntmps253;go_wp2_with fail;refine Y.mono ?_;rintro e w' ⟨rfl,U,V⟩;go_wp2_with fail;go_end0;exact ⟨rfl,V⟩
theorem DQ (c0 c1 c2 Y:Value) (p q:Nat) (a:OA) (n c:Nat) (X:World->Prop) (h1:w.cell? ⟨p,0,none⟩=some (.slice a n c))
  (Z:Calls prog 256 #[.slice a n c,c0,c1,c2,Y] w λe w'=>e = .returned (.tuple #[])/\w'.cell? ⟨q,0,none⟩=some ds/\X w') :
  Calls prog 253 #[.func (.func 256) #[] #[c0,c1,c2,Y],.pointer (some ⟨p,0,none⟩),.pointer (some ⟨q,0,none⟩)] w
   λe w'=>e = .returned (.tuple #[])/\X w':=by have V:=Z5 Z;clear Z;go_enter func253,ntmps253;go_wp2_with fail;refine V.mono ?_;rintro e w' ⟨rfl,S,U⟩;go_wp2_with fail;go_end0;exact ⟨rfl,U⟩
end
section
structure bK (O:aP) (El:Int->Prop):Prop where
 cl:qC O El
 zero:El 0
 one:El 1
 add_comm:∀x y,El x->El y->O.add x y=O.add y x
 add_assoc:∀x y z,El x->El y->El z->O.add (O.add x y) z=O.add x (O.add y z)
 add_zero:∀x,El x->O.add x 0=x
 add_neg:∀x,El x->O.add x (O.neg x)=0
 mul_comm:∀x y,El x->El y->O.mul x y=O.mul y x
 mul_assoc:∀x y z,El x->El y->El z->O.mul (O.mul x y) z=O.mul x (O.mul y z)
 one_mul:∀x,El x->O.mul 1 x=x
 mul_add:∀x y z,El x->El y->El z->O.mul x (O.add y z)=O.add (O.mul x y) (O.mul x z)
 mul_inv:∀x,El x->x ≠ 0->O.mul x (O.inv x)=1
def pw (P:Int) (M:Nat) (mod:LI) (y:Int):Nat->Int
 | 0=>1
 | k+1=>dq P M mod (pw P M mod y k) y
variable {P:Int} {M:Nat} {mod:LI} {q:Nat} {y:Int}
theorem pQ (h:la P M) (y:Int):∀k,eW P M (pw P M mod y k)
 | 0=>vE h
 | k+1=>fH h _ _
theorem iP (h:la P M) (y:Int) (a:Nat):∀b,dq P M mod (pw P M mod y a) (pw P M mod y b)=pw P M mod y (a+b)
 | 0=>by rw [pw,jb h,ij h (pQ h y a)];rfl
 | b+1=>by rw [pw,<- s8 h,iP h y a b];rfl
theorem uM (y:Int):∀(n:Nat) (l:LI),(∀i,i<l.length->nth l i=pw P M mod y i)->l.Nodup->(∀e ∈ l,e ≠ 0) ->
  (∀i,i<(powTo (λz=>dq P M mod z y) n l (pw P M mod y l.length)).length->nth (powTo (λz=>dq P M mod z y) n l (pw P M mod y l.length)) i=pw P M mod y i) /\
  (powTo (λz=>dq P M mod z y) n l (pw P M mod y l.length)).Nodup/\∀e ∈ powTo (λz=>dq P M mod z y) n l (pw P M mod y l.length),e ≠ 0
 | 0,l,h1,h2,h3=>⟨h1,h2,h3⟩
 | n+1,l,h1,h2,h3=>by
  by_cases Z:pw P M mod y l.length=0\/pw P M mod y l.length ∈ l
  ·rw [jj _ _ _ _ Z];exact ⟨h1,h2,h3⟩
  ·rw [rZ _ _ _ _ Z];have e:dq P M mod (pw P M mod y l.length) y=pw P M mod y (l ++ [pw P M mod y l.length]).length:=by simp [pw]
   rw [e];refine uM y n _ (λi hi=>?_) ?_ ?_
   ·simp only [K6,Lo] at hi;by_cases Y:i<l.length
    ·rw [nth,KZ,Lg Y,<- KZ];exact h1 i Y
    ·obtain rfl:i=l.length:=by omega
     simp [nth]
   ·rw [Mq];refine ⟨h2,by simp,λa ha b hb=>?_⟩;rw [List.mem_singleton.1 hb];intro e;exact Z (.inr (e ▸ ha))
   ·intro e he;rcases List.mem_append.1 he with h | h
    ·exact h3 e h
    ·rw [List.mem_singleton.1 h];intro e;exact Z (.inl e)
theorem F0 (h:la P M) (Z:eW P M y) (q:Nat) :
  (∀i,i<(fb P M mod q y).length->nth (fb P M mod q y) i=pw P M mod y i)/\(fb P M mod q y).Nodup/\∀e ∈ fb P M mod q y,e ≠ 0:=by
 have e:pw P M mod y [(1:Int)].length=y:=by show dq P M mod (pw P M mod y 0) y=y;rw [pw,ij h Z]
 have:=uM (P:=P) (M:=M) (mod:=mod) y q [1] (λi hi=>by
  have:i=0:=by simp at hi;omega
  subst this;rfl) (by simp) (by simp)
 rw [e] at this;exact this
structure tH (P:Int) (M:Nat) (mod:LI) (q:Nat) (y:Int) (ex:LI):Prop where
 res:la P M
 q2:2<=q
 pq:(q:Int)=P ^ M
 yel:eW P M y
 len:ex.length=q - 1
 val:∀i,i<q - 1->nth ex i=pw P M mod y i
 nodup:ex.Nodup
 ne:∀e ∈ ex,e ≠ 0
 last:pw P M mod y (q - 1)=1
theorem tH.xu (h:la P M) (V:(q:Int)=P ^ M) (X:eW P M y) (Y:fX P M mod q y=true):tH P M mod q y (fb P M mod q y):=by
 have Z:2<=q:=by have:=one_lt_pow h;omega
 simp only [fX,Lm,beq_iff_eq] at Y;obtain ⟨h1,h2,h3⟩:=F0 (mod:=mod) h X q;refine ⟨h,Z,V,X,Y.1,λi hi=>h1 i (by omega),h2,h3,?_⟩;have:=Y.2;rw [h1 _ (by omega)] at this;rw [show q - 1=(q - 2)+1 by omega];exact this
namespace tH
variable {ex:LI}
theorem mem (g:tH P M mod q y ex) {e:Int} (he:eW P M e) (h0:e ≠ 0):e ∈ ex:=by
 apply Lr;intro U;have V:(e :: ex).Nodup:=List.nodup_cons.2 ⟨U,g.nodup⟩;have Y:∀x ∈ e :: ex,x ∈ (List.range (q - 1)).map (λi:Nat=>(i:Int)+1):=by
  intro x X;have Z:eW P M x/\x ≠ 0:=by
   rcases List.mem_cons.1 X with rfl | X
   ·exact ⟨he,h0⟩
   ·refine ⟨?_,g.ne x X⟩;obtain ⟨i,hi,rfl⟩:=List.mem_iff_getElem.1 X;rw [<- aj hi,g.val i (by rw [<- g.len];exact hi)];exact pQ g.res y i
  rw [Nv];have h1:=Z.1.1;have h2:=Z.1.2;have h3:=Z.2;have Q:=g.pq;have S:=g.q2;exact ⟨(x - 1).toNat,by rw [NX];omega,by omega⟩
 have hle:=List.Nodup.length_le_of_subset V Y;simp at hle;have S:=g.q2;have N:=g.len;omega
theorem log (g:tH P M mod q y ex) {e:Int} (he:eW P M e) (h0:e ≠ 0):∃k,k<q - 1/\e=pw P M mod y k/\nth ex k=e:=by
 obtain ⟨i,hi,e1⟩:=List.mem_iff_getElem.1 (g.mem he h0);have Z:i<q - 1:=by rw [<- g.len];exact hi
 refine ⟨i,Z,?_,?_⟩
 ·rw [<- g.val i Z,aj hi,e1]
 ·rw [aj hi,e1]
theorem period (g:tH P M mod q y ex) (a:Nat):∀n,pw P M mod y (a+n * (q - 1))=pw P M mod y a
 | 0=>by simp
 | n+1=>by rw [show a+(n+1) * (q - 1)=(a+n * (q - 1))+(q - 1) by rw [Nat.add_mul];omega,<- iP g.res,g.last,jb g.res,ij g.res (pQ g.res y _),period g a n]
theorem red (g:tH P M mod q y ex) (a:Nat):pw P M mod y (a % (q - 1))=pw P M mod y a:=by have h:=g.period (a % (q - 1)) (a / (q - 1));rw [<- h,Me,Nat.mod_add_div]
theorem Jd (g:tH P M mod q y ex) (a:Nat):pw P M mod y a ≠ 0:=by have Y:=g.q2;rw [<- g.red a];have Z:a % (q - 1)<q - 1:=MJ _ (by omega);rw [<- g.val _ Z];exact g.ne _ (aG (by rw [g.len];exact Z))
theorem inj (g:tH P M mod q y ex) {i j:Nat} (hi:i<q - 1) (Y:j<q - 1) (h:nth ex i=nth ex j):i=j:=by
 rw [aj (by rw [g.len];exact hi),aj (by rw [g.len];exact Y)] at h;have Z:=List.pairwise_iff_getElem.1 g.nodup;rcases Nat.lt_trichotomy i j with h1 | h1 | h1
 ·exact absurd h (Z i j _ _ h1)
 ·exact h1
 ·exact absurd h.symm (Z j i _ _ h1)
theorem uu (g:tH P M mod q y ex) {k:Nat} (Z:k<q - 1):eW P M (nth ex k):=by rw [g.val k Z];exact pQ g.res y k
theorem uk (g:tH P M mod q y ex):∀k,k<=q - 1->∀j,j<k->nth (logTo q ex k) (nth ex j).toNat=j
 | 0,_,j,X=>by omega
 | k+1,S,j,X=>by
  have Z:=g.uu (k:=k) (by omega);have Y:=g.uu (k:=j) (by omega);have h1:=Z.1;have h2:=Z.2;have h3:=Y.1;have U:=g.pq;rw [logTo,dS _ _ _ _ (by rw [i6];omega)];by_cases e:j=k
  ·subst e;rw [KX rfl]
  ·rw [KY]
   ·exact uk g k (by omega) j (by omega)
   ·intro V;exact e (g.inj (by omega) (by omega) (by omega))
theorem Il (g:tH P M mod q y ex) {k:Nat} (Z:k<q - 1):nth (logTo q ex (q - 1)) (pw P M mod y k).toNat=k:=by rw [<- g.val k Z];exact g.uk (q - 1) (KT _) k Z
theorem qL (g:tH P M mod q y ex) {x z:Int} (Z:eW P M x) (Y:eW P M z):rN q ex (logTo q ex (q - 1)) x z=dq P M mod x z:=by
 unfold rN;by_cases h0:x=0\/z=0
 ·rw [KX h0];rcases h0 with rfl | rfl
  ·rw [jb g.res,pf g.res]
  ·rw [pf g.res]
 ·rw [KY h0];obtain ⟨a,ha,rfl,_⟩:=g.log Z (λe=>h0 (.inl e));obtain ⟨b,hb,rfl,_⟩:=g.log Y (λe=>h0 (.inr e));have X:=g.q2;rw [g.Il ha,g.Il hb,iP g.res];have e1:((a:Int)+b) % ((q:Int) - 1)=(((a+b) % (q - 1):Nat):Int):=by rw [MH,Int.natCast_add,On (by omega)];rfl
  rw [e1,KV,g.val _ (MJ _ (by omega)),g.red]
theorem FT (g:tH P M mod q y ex) {x:Int} (Z:eW P M x) (h0:x ≠ 0):dq P M mod x (yQ q ex (logTo q ex (q - 1)) x)=1:=by
 obtain ⟨a,ha,rfl,_⟩:=g.log Z h0;have Y:=g.q2;unfold yQ;rw [g.Il ha];have e1:((q:Int) - 1 - a) % ((q:Int) - 1)=(((q - 1 - a) % (q - 1):Nat):Int):=by rw [MH,On (by omega),On (by omega)];rfl
 rw [e1,KV,g.val _ (MJ _ (by omega)),g.red,iP g.res,show a+(q - 1 - a)=q - 1 by omega,g.last]
theorem GN (g:tH P M mod q y ex) (x:Int):eW P M (yQ q ex (logTo q ex (q - 1)) x):=by have Z:=g.q2;unfold yQ;refine g.uu ?_;have h1:=LO ((q:Int) - 1 - nth (logTo q ex (q - 1)) x.toNat) (show (q:Int) - 1 ≠ 0 by omega);have h2:=LG ((q:Int) - 1 - nth (logTo q ex (q - 1)) x.toNat) (show 0<(q:Int) - 1 by omega);omega
theorem KN (g:tH P M mod q y ex):bK (cZ.ops ⟨P,M,q,ex,logTo q ex (q - 1)⟩) (eW P M):=by
 have hmul:∀ {x z:Int},eW P M x->eW P M z->(cZ.ops ⟨P,M,q,ex,logTo q ex (q - 1)⟩).mul x z=dq P M mod x z:=λZ Y=>g.qL Z Y;have h:=g.res;have hinv:∀x,eW P M ((cZ.ops ⟨P,M,q,ex,logTo q ex (q - 1)⟩).inv x):=λx=>g.GN x;refine ⟨⟨λx z _ _=>ib h x z,λx z Z Y=>?_,λx _=>vB h x,λx _ _=>hinv x⟩,vY h,vE h,λx z _ _=>Ev h x z,λx z u _ _ _=>Bx h x z u,λx Z=>Jb h Z,λx _=>Db h x,?_,?_,?_,?_,?_⟩
 ·rw [hmul Z Y];exact fH h x z
 ·intro x z Z Y;rw [hmul Z Y,hmul Y Z,jb h]
 ·intro x z u Z Y hu;rw [hmul Z Y,hmul Y hu,hmul (fH h x z) hu,hmul Z (fH h z u),s8 h]
 ·intro x Z;rw [hmul (vE h) Z,ij h Z]
 ·intro x z u Z Y hu;have X:(cZ.ops ⟨P,M,q,ex,logTo q ex (q - 1)⟩).add=fsum P M:=rfl;rw [X,hmul Z (ib h z u),hmul Z Y,hmul Z hu,E5 h]
 ·intro x Z h0;rw [hmul Z (hinv x)];exact g.FT Z h0
end tH
theorem kU {P M:Int} {mod:LI} (h:bs P M mod=true):∃(m:Nat) (y:Int),M=m/\la P m/\P ^ m<=256/\cH P m mod=true/\(aK P m).toNat=P ^ m/\tH P m mod (aK P m).toNat y (fW P m mod (aK P m).toNat):=by
 unfold bs at h;rw [Lm] at h;obtain ⟨U,Q⟩:=h;have Y:=U;simp only [cH,Lm,bne_iff_ne,ne_eq] at Y;obtain ⟨N,C,D,E,K,F⟩:=gP Y.1.1;obtain ⟨m,rfl⟩:∃m:Nat,M=m:=⟨M.toNat,by omega⟩
 rw [KV] at *;have Z:la P m:=⟨N,by omega⟩
 have S:((aK P m).toNat:Int)=P ^ m:=by have:=one_lt_pow Z;omega
 have hne:fW P m mod (aK P m).toNat ≠ []:=by intro e;rw [e] at Q;simp at Q
 obtain ⟨y,H,L,X,V⟩:=pO hne;refine ⟨m,y,rfl,Z,K,U,S,?_⟩;rw [V];exact tH.xu Z S ⟨by omega,by omega⟩ X
theorem dO {P M:Int} {mod:LI} (h:bs P M mod=true):bK (ah P M.toNat mod).ops (ah P M.toNat mod).El:=by
 obtain ⟨m,y,rfl,Y,_,_,Z,g⟩:=kU h;have e:(ah P ((m:Int).toNat) mod).El=eW P m:=by funext x;simp only [cZ.El,ah,eW,KV];rw [Z]
 rw [e];exact g.KN
end
structure RF (P:Int) (m:Nat):Prop where
 p2:2<=P
 p256:P<=256
 m1:1<=m
 m8:m<=8
 pw:P ^ m<=256
theorem RF.res {P:Int} {m:Nat} (h:RF P m):la P m:=⟨h.p2,h.m1⟩
theorem RF.order {P:Int} {m:Nat} (h:RF P m):aK P m=P ^ m:=by have:=h.p2;have:=h.p256;have:=h.m1;have:=h.m8;have e:=l5 (p:=P) (m:=m) (by omega) (by simpa using h.pw);rwa [KV] at e
theorem RF.of {P M:Int} (h:aK P M ≠ 0):∃m:Nat,M=m/\RF P m:=by obtain ⟨h1,h2,h3,X,Z,Y⟩:=gP h;exact ⟨M.toNat,by omega,⟨h1,h2,by omega,by omega,Z⟩⟩
theorem jh (P M:Int) (am:OA) (L cm:Nat) (w:World) :
  Calls prog 24 #[.agg #[cG P,cG M,.slice am L cm]] w λe w'=>e = .returned (cG (aK P M))/\PY w w':=by
 have Y:=Z5 (an w (.cells #[cG P,cG M,.slice am L cm] 24));by_cases h1:P<2
 ·have V:=Z5 (jl (p:=P) (m:=M) (.inl h1));go_enter func24,ntmps24;go_wp2;go_ret;exact ⟨aN V.symm,Y⟩
 have j:decide (P<2)=false:=by simpa using h1
 by_cases h2:M<1
 ·have V:=Z5 (jl (p:=P) (m:=M) (.inr (.inr (.inl h2))));go_enter func24,ntmps24;go_wp2;go_ret;exact ⟨aN V.symm,Y⟩
 have h2':decide (M<1)=false:=by simpa using h2
 by_cases h3:8<M
 ·have V:=Z5 (jl (p:=P) (m:=M) (.inr (.inr (.inr h3))));go_enter func24,ntmps24;go_wp2;go_ret;exact ⟨aN V.symm,Y⟩
 have h3':decide (8<M)=false:=by simpa using h3
 obtain ⟨n,rfl⟩:∃n:Nat,M=n:=⟨M.toNat,by omega⟩
 go_enter func24,ntmps24;go_wp2_with fail;obtain ⟨W,U⟩:∃W:World,W=w.alloc (.cells #[cG P,cG n,.slice am L cm] 24):=⟨_,rfl⟩
 rw [<- U];have X:PY w W:=by rw [U];exact an _ _
 have c0:W.cell? ⟨w.heap.size,0,none⟩=some (cG P):=by rw [U];exact aF _ _ _ rfl 0
 have c1:W.cell? ⟨w.heap.size,1,none⟩=some (cG n):=by rw [U];exact aF _ _ _ rfl 1
 clear U;go_loop [3,4] (λB r=>∃k:Nat,k<=n/\r = cG k/\B = cG (P ^ k)/\P ^ k<=256/\1<=P ^ k) (λ_ i=>n - (intOf i).toNat);case atStart=>exact ⟨0,K0 _,rfl,by simp,by simp,by simp⟩
 case round =>
  obtain ⟨k,hk,rfl,rfl,hb,S⟩:=hrel
  have K:P ≠ 0:=by omega
  by_cases z:k<n
  ·have e1:P ^ (k+1)=P ^ k * P:=LY _ _
   have D:(0:Int)<=256 / P:=Ms (by omega) (by omega)
   have C:256 / P<=256:=Mu _ (by omega)
   by_cases h5:256 / P<P ^ k
   ·have Z:aK P n=0:=mV (by intro h;have A:=dF (show 1<=P by omega) (show k+1<=n by omega);rw [KV] at h;have E:256<P ^ k * P:=NF (by omega) h5;omega)
    have Q:=Z5 Z
    clear e1 Z
    generalize P ^ k=q at *
    go_wp2
    go_ret
    exact ⟨aN Q.symm,X⟩
   ·have E:P ^ k * P<=256:=by have h8:=Int.mul_le_mul_of_nonneg_right (show P ^ k<=256 / P by omega) (show 0<=P by omega);have h9:=Int.ediv_mul_le 256 K;omega
    have e3:1 * 1<=P ^ k * P:=M1 S (by omega) (by omega) (by omega)
    have H:=Z5 e1
    clear e1
    generalize P ^ k=q at *
    go_wp2
    go_round
    case rel=>exact ⟨k+1,by omega,by go_num,by rw [H.out],by rw [H.out];exact E,by rw [H.out];omega⟩
    case measure=>simp [intOf] <;> omega
  ·obtain rfl:k=n:=by omega
   by_cases F:256<P
   ·have N:1<=k:=by omega
    have A:=dF (show 1<=P by omega) N
    have h8:P ^ 1=P:=by rw [LY,MU,Ns]
    omega
   ·have Q:=Z5 (l5 (p:=P) (m:=k) (by omega) (by simpa using hb))
    go_wp2
    go_ret
    exact ⟨aN (by rw [Q.out];simp),X⟩
theorem rH (n:Nat) (w:World) (h2:2<=n) (S:n<=256) :
  Calls prog 95 #[cG n] w λe w'=>e = .returned (.bool (gh n))/\w=w':=by
 go_enter func95,ntmps95;go_wp2;go_loop [3] (λL=>∃d:Nat,2<=d/\d<=n/\L = cG d/\Hid (∀e,2<=e->e<d->n % e ≠ 0)) (λd=>n+1 - (intOf d).toNat);case atStart=>exact ⟨2,KT _,h2,rfl,λe he Y=>by omega⟩
 case round =>
  obtain ⟨d,V,H,rfl,Z⟩:=hrel
  have Q:(d:Int) ≠ 0:=by omega
  by_cases N:d<n
  ·by_cases hm:n % d=0
   ·have U:((n:Int) % d == 0)=true:=by simp;exact_mod_cast hm
    have X:=Z5 (eI V N hm)
    clear hm
    go_wp2
    go_ret
    exact ⟨aX X.symm,rfl⟩
   ·have U:((n:Int) % d == 0)=false:=by simp;exact_mod_cast hm
    have K:=Z5 hm
    clear hm
    go_wp2
    go_round
    case rel =>
     refine ⟨d+1,by omega,by omega,by go_num,λe he Y=>?_⟩
     rcases LP e d with h | h
     ·exact Z e he h
     ·rw [show e=d from by omega];exact K
    case measure=>simp [intOf] <;> omega
  ·have X:=Z5 (rF (n:=n) λe he Y=>Z e he (by omega))
   go_wp2
   go_ret
   exact ⟨aX (by rw [X.out]),rfl⟩
theorem qa (x p:Int) (m:Nat) (w:World) (S:0<=x) (L:x<=9223372036854775807) (K:1<=p) (hm:m<=256) :
  Calls prog 151 #[cG x,cG p,cG m] w (cQ w (digs x p m)):=by
 go_enter func151,ntmps151;go_wp2_with (at_make;refine bV rfl _ _ 22 3 rfl (cG 0) 8 underlying22 bh rfl m rfl rfl (by omega) (by unfold maxLen;omega) ?_;intro a A Z Y F V);go_loopw [0,8] (λQ N wr=>∃k:Nat,k<=m/\N = cG k/\Q = cG (jt x p k) /\
   wr.ownsRow w.heap.size 3 1 (.slice a m m) m ((du (digs x p k) k m).map (Value.int .i64))/\PY w wr)
  (λ_ i _=>m - (intOf i).toNat)
 case atStart=>exact ⟨0,K0 _,rfl,rfl,by simpa [du,digs] using Z,Y⟩
 case round =>
  obtain ⟨k,C,rfl,rfl,Z,Y⟩:=hrel
  obtain ⟨hints,X⟩:=Pn Z
  have D:=vJ x p S K k
  have H:=hints.pl
  by_cases V:k<m
  ·have B:=hints.cell k V
   have z:=(X (by omega)).2 k V
   have E:=(X (by omega)).1
   go_wp2
   go_roundw
   case rel =>
    refine ⟨k+1,by omega,by go_num,rfl,?_,Y.setCell E _⟩
    have h:=bA Z k V (cG (jt x p k % p))
    rw [<- Lq,fF _ _ _ _ (bG p k x) V,<- oV] at h
    exact h
   case measure=>simp [intOf] <;> omega
  ·obtain rfl:k=m:=by omega
   have U:=Z5 (bG p k x)
   rw [gn] at Z
   go_wp2
   go_ret
   exact ⟨a,k,by rw [U.out];rfl,by rw [U.out];exact Z,Y⟩
theorem BI (P M:Int) (am:OA) (V cm:Nat) (x:Int) (w:World) :
  Calls prog 141 #[.agg #[cG P,cG M,.slice am V cm],cG x] w λe w'=>e = .returned (.bool (iQ (aK P M) x))/\PY w w':=by
 have Y:=Z5 (an w (.cells #[cG P,cG M,.slice am V cm] 24));by_cases h0:0<=x
 ·have Z:decide (0<=x)=true:=by simpa using h0
  have U:Hid (iQ (aK P M) x=decide (x<aK P M)):=by show _=_;rw [iQ,Z];simp
  clear h0;go_enter func141,ntmps141;go_wp2_with (go_at_call 24;refine (jh P M am V cm _).mono ?_;rintro e S ⟨rfl,X⟩);go_ret;exact ⟨aX (by rw [U.out]),Pm Y.out X⟩
 ·have Z:decide (0<=x)=false:=by simpa using h0
  have U:Hid (iQ (aK P M) x=false):=by show _=_;rw [iQ,Z];simp
  clear h0;go_enter func141,ntmps141;go_wp2_with fail;go_ret;exact ⟨aX (by rw [U.out]),Y⟩
theorem Is (P M:Int) (am:OA) (Y cm:Nat) (x:Int) (w:World) (V:iQ (aK P M) x=true) :
  Calls prog 123 #[.agg #[cG P,cG M,.slice am Y cm],cG x] w λe w'=>e = .returned (cG x)/\PY w w':=by have X:=Z5 (an w (.cells #[cG P,cG M,.slice am Y cm] 24));have Hx:=Z5 V;clear V;go_enter func123,ntmps123;go_wp2_with fail;refine (BI P M am Y cm x _).mono ?_;rintro e U ⟨rfl,Z⟩;rw [Hx.out];go_wp2_with fail;go_ret;exact ⟨rfl,Pm X.out Z⟩
theorem iJ (P:Int) (m:Nat) (am:OA) (Y cm:Nat) (x:Int) (w:World) (L:RF P m) (Q:iQ (aK P m) x=true) :
  Calls prog 161 #[.agg #[cG P,cG m,.slice am Y cm],cG x] w (cQ w (digs x P m)):=by
 have E:0<=x/\x<256:=by have h1:=L.order;have h2:=L.pw;unfold iQ at Q;simp only [Lm,LM] at Q;omega
 have H:1<=P:=by have:=L.p2;omega
 have hm:=L.m8;have Hx:=Z5 Q;clear Q;go_enter func161,ntmps161;go_wp2_with fail;obtain ⟨W,N⟩:∃W:World,W=w.alloc (.cells #[cG P,cG m,.slice am Y cm] 24):=⟨_,rfl⟩
 rw [<- N];have U:PY w W:=by rw [N];exact an _ _
 have C:aQ W w.heap.size [cG P,cG m,.slice am Y cm]:=by rw [N];exact Po _ _ _ rfl
 have j:=Z5 C;clear N C;have hS:∀V,PY W V->V.cell? ⟨w.heap.size,0,none⟩=some (cG P)/\V.cell? ⟨w.heap.size,1,none⟩=some (cG m)/\V.cell? ⟨w.heap.size,2,none⟩=some (.slice am Y cm)/\PY W V:=by intro V D;have K:=j.af D;exact ⟨K.cell 0 rfl,K.cell 1 rfl,K.cell 2 rfl,D⟩
 have A:=Z5 hS;have X:=Z5 U;clear hS U;go_region_held3 (λV=>V.cell? ⟨w.heap.size,0,none⟩=some (cG P)/\V.cell? ⟨w.heap.size,1,none⟩=some (cG m)/\V.cell? ⟨w.heap.size,2,none⟩=some (.slice am Y cm)/\PY W V)
  ((refine A _ ?_;first | exact (KU _ _).drew | (go_split_ands;exact Pm (by assumption) (by assumption))))
  (first
   | (go_at_call 123;((with_reducible refine (Is P m am Y cm x _ Hx.out).mono ?_);rintro e B ⟨rfl,hb4⟩))
   | (go_at_call 151;((with_reducible refine (qa x P m _ E.1 (by omega) H (by omega)).mono ?_);rintro e w5 ⟨a5,z,rfl,Z,r⟩)))
 all_goals (
  have F:w.heap.size<=B.heap.size:=by have h1:=X.size;have h2:=hb4.size;have h3:W.drew.heap.size=W.heap.size:=rfl;omega
  have S:=Z5 (aY Z F)
  clear Z
  go_wp2_with fail
  go_ret
  exact ⟨a5,z,rfl,S,Pm X.out (by go_split_ands;assumption)⟩)
theorem mQ (P:Int) (M:Int) (am:OA) (H cm:Nat) (a:OA) (n c:Nat) (l:LI) (w:World) (h:Ints w a n l) (hn:n<=1000) (E:0<=P) (hP:P<=256)
  (hb:∀k,0<=valu P (l.drop k) * P/\valu P (l.drop k) * P<=1000000000/\0<=nth l k/\nth l k<=1000000000) :
  Calls prog 162 #[.agg #[cG P,cG M,.slice am H cm],.slice a n c] w λe w'=>e = .returned (cG (valu P l))/\PY w w':=by
 have K:=Z5 hb;have V:=Z5 h.len;clear hb;go_enter func162,ntmps162;go_wp2_with fail;obtain ⟨W,U⟩:∃W:World,W=w.alloc (.cells #[cG P,cG M,.slice am H cm] 24):=⟨_,rfl⟩
 rw [<- U];have S:PY w W:=by rw [U];exact an _ _
 have z:W.cell? ⟨w.heap.size,0,none⟩=some (cG P):=by rw [U];exact aF _ _ _ rfl 0
 clear U;have U:=h.af S;have A:=U.pl;go_loopw [5,6] (λF D wr=>∃k:Nat,k<=n/\D = cG ((k:Int) - 1)/\F = cG (valu P (l.drop k))/\bg W wr) (λ_ i _=>(intOf i+1).toNat);case atStart=>exact ⟨n,KT _,rfl,by rw [L0 (by rw [V.out];exact KT _)];rfl,Pt _⟩
 case round =>
  obtain ⟨k,hk,rfl,rfl,hd⟩:=hrel
  by_cases L:0<k
  ·obtain ⟨j,rfl⟩:∃j,k=j+1:=⟨k - 1,by omega⟩
   have r:=(U.drawn hd).cell j (by omega)
   have c0:=hd.cell z
   have N:j<l.length:=by rw [V.out];omega
   obtain ⟨b1,b2,b3,b4⟩:0<=valu P (l.drop (j+1)) * P/\valu P (l.drop (j+1)) * P<=1000000000/\0<=nth l j/\nth l j<=1000000000:=⟨(K (j+1)).1,(K (j+1)).2.1,(K j).2.2⟩
   have e1:((j+1:Nat):Int) - 1=(j:Int):=by omega
   rw [e1]
   clear e1 L
   have Z:valu P (l.drop (j+1)) * P+nth l j=valu P (l.drop j):=by rw [xF l j N];simp only [valu];rw [Mp P,Int.add_comm]
   generalize valu P (l.drop (j+1))=X at *
   generalize nth l j=Y at *
   have Q:=Z5 Z
   clear Z
   have e1:(0:Int)<=j:=by omega
   have e2:(j:Int)<n:=by omega
   have C:IntKind.i64.wrap (X * P)=X * P:=La _ (by omega)
   have B:IntKind.i64.wrap (X * P+Y)=X * P+Y:=La _ (by omega)
   go_wp2_with fail
   go_quiet (fail)
   clear C B
   go_wp2
   go_roundw
   case rel=>exact ⟨j,by omega,by go_num,by rw [<- Q.out],hd.drewN _⟩
   case measure=>simp [intOf] <;> omega
  ·obtain rfl:k=0:=by omega
   go_wp2_with fail
   go_ret
   exact ⟨by simp,Pm S hd.below⟩
def vG (P:Int) (a b:LI):LI:=List.zipWith (λu v=>(u+v) % P) a b
theorem uT {P:Int}:∀(m:Nat) (x y:Int),valu P (vG P (digs x P m) (digs y P m))=fsum P m x y
 | 0,_,_=>rfl
 | m+1,x,y=>by simp only [digs,vG,Oi,valu,fsum];have:=uT (P:=P) m (x / P) (y / P);unfold vG at this;rw [this,Int.add_emod x y]
def tT (P:Int) (a:LI):LI:=a.map λu=>(P - u) % P
theorem uS {P:Int}:∀(m:Nat) (x:Int),valu P (tT P (digs x P m))=fneg P m x
 | 0,_=>rfl
 | m+1,x=>by simp only [digs,tT,N3,valu,fneg];have:=uS (P:=P) m (x / P);unfold tT at this;rw [this]
theorem dG.zip {P:Int} (Y:0<P) (f:Int->Int->Int) (a b:LI):dG P (List.zipWith (λu v=>(f u v) % P) a b):=by refine PO Y λx Z=>?_;rw [NM] at Z;obtain ⟨i,hi,rfl⟩:=Z;rw [Ni];exact ⟨LO _ (by omega),LG _ Y⟩
theorem dG.KI {P:Int} (Y:0<P) (a:LI):dG P (tT P a):=by refine PO Y λx Z=>?_;unfold tT at Z;obtain ⟨y,_,rfl⟩:=List.mem_map.1 Z;exact ⟨LO _ (by omega),LG _ Y⟩
theorem dG.Kz {P:Int} {m:Nat} (Z:RF P m) {l:LI} (h:dG P l) (V:l.length=m):∀k,0<=valu P (l.drop k) * P/\valu P (l.drop k) * P<=1000000000/\0<=nth l k/\nth l k<=1000000000:=by
 intro k;have X:0<P:=by have:=Z.p2;omega
 have Y:=Z.p256;have h1:=h.B1 X V Z.pw k;have h2:=h k;have h3:=lq h1.1 (show valu P (l.drop k)<=256 by omega) (show 0<=P by omega) Y;exact ⟨h3.1,by omega,h2.1,by omega⟩
theorem sj {P:Int} {m:Nat} (Z:RF P m) (x:Int) (i:Nat):0<=nth (digs x P m) i/\nth (digs x P m) i<P:=PU (by have:=Z.p2;omega) m x i
theorem ET (P:Int) (m:Nat) (am:OA) (mn cm:Nat) (x y:Int) (w:World) (hf:RF P m) (hx:iQ (aK P m) x=true) (hy:iQ (aK P m) y=true) :
  Calls prog 113 #[.agg #[cG P,cG m,.slice am mn cm],cG x,cG y] w λe w'=>e = .returned (cG (fsum P m x y))/\PY w w':=by
 have hp2:=hf.p2;have hp256:=hf.p256;have hm8:=hf.m8;have Hx:=Z5 hx;have Hy:=Z5 hy;have N:=Z5 (bG P m x);have Hdy:=Z5 (bG P m y);have Hbx:=Z5 (sj hf x);have Hby:=Z5 (sj hf y);have C:(vG P (digs x P m) (digs y P m)).length=m:=by simp [vG,bG]
 have hNn:∀i,i<m->nth (vG P (digs x P m) (digs y P m)) i=(nth (digs x P m) i+nth (digs y P m) i) % P:=λi hi=>by rw [aj (by rw [C];exact hi),aj (by rw [bG];exact hi),aj (by rw [bG];exact hi)];simp [vG]
 have hNg:dG P (vG P (digs x P m) (digs y P m)):=dG.zip (by omega) (λu v=>u+v) (digs x P m) (digs y P m);have hNd:=dG.Kz hf hNg C;have L:=Z5 C;have H:=Z5 hNn;have A:=Z5 hNd;have z:=Z5 (uT (P:=P) m x y);clear hx hy C hNn hNd hNg;go_enter func113,ntmps113;go_wp2_with fail;obtain ⟨W,hW⟩:∃W:World,W=w.alloc (.cells #[cG P,cG m,.slice am mn cm] 24):=⟨_,rfl⟩
 rw [<- hW];have hbW:PY w W:=by rw [hW];exact an _ _
 have x0:aQ W w.heap.size [cG P,cG m,.slice am mn cm]:=by rw [hW];exact Po _ _ _ rfl
 have HX:=Z5 x0;have hsW:w.heap.size<W.heap.size:=x0.1;clear hW x0;refine (iJ P m am mn cm x W hf Hx.out).mono ?_;rintro e w1 ⟨a1,c1,rfl,Z,hb1⟩;have Q:=HX.af hb1;have d0:=Q.cell 0 rfl;have d1:=Q.cell 1 rfl;have d2:=Q.cell 2 rfl;rw [N.out] at Z ⊢;clear Q;go_wp2_with fail;refine (iJ P m am mn cm y w1 hf Hy.out).mono ?_;rintro e w2 ⟨a2,c2,rfl,Y,hb2⟩;rw [Hdy.out] at Y ⊢;have hs1:=hb1.size;have U:=bf Z hb2;have hap:a1 ≠ none->ablk a1<w1.heap.size:=λh0=>(aT Z h0).2;have hi2:=(Pn Y).1;have hlo2:0<m->w1.heap.size<=ablk a2:=λh0=>(dR Y h0).1;have hap1:a1 ≠ none->W.heap.size<=ablk a1:=λh0=>(aT Z h0).1;have hb12:=Pm hb1 hb2;have hpl2:=hi2.pl;obtain ⟨D,hD⟩:∃D,digs x P m=D:=⟨_,rfl⟩
 obtain ⟨E,hE⟩:∃E,digs y P m=E:=⟨_,rfl⟩
 rw [hD] at U N Hbx L H A z;rw [hE] at hi2 Hdy Hby L H A z;obtain ⟨j,hNN⟩:∃j,vG P D E=j:=⟨_,rfl⟩
 rw [hNN] at L H A z;clear hD hE hNN Z Y;go_wp2_with fail;go_loopw [9] (λiv wr=>∃k:Nat,k<=m/\iv = cG k/\wr.ownsRow W.heap.size 3 1 (.slice a1 m c1) m ((gv j D k).map (Value.int .i64))/\db a1 w2 wr) (λiv _=>m - (intOf iv).toNat);case atStart=>exact ⟨0,K0 _,rfl,by rw [fC];exact U,PD _ _⟩
 case round =>
  obtain ⟨k,hk,rfl,V,X⟩:=hrel
  have hbr:PY W wr:=hb12.trans (X.below hap1 (by have:=hb2.size;omega))
  by_cases S:k<m
  ·obtain ⟨B,hm1⟩:=Pn V
   have hi2r:=X.ints hi2 (by
    by_cases h0:a1=none
    ·exact .inl h0
    ·exact .inr (.inr (by have h1:=hap h0;have h2:=hlo2 (by omega);omega)))
   have ca:=B.cell k S
   have cb:=hi2r.cell k S
   have fa:=(hm1 (by omega)).2 k S
   have hpl1:=B.pl
   have hkN:j.length=D.length:=by rw [L.out,N.out]
   have hkD:k<D.length:=by rw [N.out];exact S
   have K:=eA j D k k hkN (by omega)
   rw [KY (by omega)] at K
   rw [K] at ca
   have r:=fh j D k hkN hkD
   have Hset:=Z5 r
   have Q:=HX.af hbr
   have d0:=Q.cell 0 rfl
   have b1:=Hbx k
   have b2:=Hby k
   have hP0:P ≠ 0:=by omega
   have r5:IntKind.i64.wrap (nth D k+nth E k)=nth D k+nth E k:=La _ (by omega)
   have r6:(nth D k+nth E k).tmod P=(nth D k+nth E k) % P:=L9 _ _ (by omega)
   have R7:=Z5 (H k S)
   clear K r hkN hkD Q
   go_wp2_with fail
   go_still_tail 15,(by kernel_rfl)
   change wpList _ _ _ _ _ wr.drew
   generalize F:wr.drew=wd
   have fd:wd.frozen? ⟨ablk a1,aJ a1+k,none⟩=false:=by rw [<- F];exact fa
   have cd:wd.cell? ⟨ablk a1,aJ a1+k,none⟩=some (cG (nth D k)):=by rw [<- F];exact ca
   have Hwd:=Z5 F
   clear F r5 r6
   go_wp2_with fail
   go_roundw
   case rel =>
    obtain rfl:=Hwd.out
    have hdr:bg wr wr.drew:=(Pt wr).drew
    refine ⟨k+1,by omega,by go_num,?_,X.trans ((PA hdr).trans (PF _ k _ (by intro e;have:=hpl1 (by omega);rw [e] at this;cases this)))⟩
    have h1:=bA (w:=wr.drew) V k S (cG ((nth D k+nth E k) % P))
    rw [<- Lq,<- R7.out,Hset.out] at h1
    rw [<- R7.out]
    exact h1
   case measure=>simp [intOf] <;> omega
  ·obtain rfl:k=m:=by omega
   rw [gx j D k L.out N.out] at V
   have B:=(Pn V).1
   have Q:=HX.af hbr
   have d0:=Q.cell 0 rfl
   have d1:=Q.cell 1 rfl
   have d2:=Q.cell 2 rfl
   clear Q
   go_wp2_with fail
   refine (mQ P k am mn cm a1 k c1 j wr B (by omega) (by omega) (by omega) A.out).mono ?_
   rintro e w4 ⟨rfl,hb4⟩
   go_wp2_with fail
   go_ret
   exact ⟨aN z.out,Pm (Pm hbW hbr) hb4⟩
theorem rj (P:Int) (m:Nat) (am:OA) (mn cm:Nat) (x:Int) (w:World) (hf:RF P m) (hx:iQ (aK P m) x=true) :
  Calls prog 107 #[.agg #[cG P,cG m,.slice am mn cm],cG x] w λe w'=>e = .returned (cG (fneg P m x))/\PY w w':=by
 have hp2:=hf.p2;have hp256:=hf.p256;have hm8:=hf.m8;have Hx:=Z5 hx;have V:=Z5 (bG P m x);have Hbx:=Z5 (sj hf x);have L:(tT P (digs x P m)).length=m:=by simp [tT,bG]
 have hNn:∀i,i<m->nth (tT P (digs x P m)) i=(P - nth (digs x P m) i) % P:=λi hi=>by rw [aj (by rw [L];exact hi),aj (by rw [bG];exact hi)];simp [tT]
 have hNd:=dG.Kz hf (dG.KI (by omega) (digs x P m)) L;have F:=Z5 L;have B:=Z5 hNn;have z:=Z5 hNd;have r:=Z5 (uS (P:=P) m x);clear hx L hNn hNd;go_enter func107,ntmps107;go_wp2_with fail;obtain ⟨W,hW⟩:∃W:World,W=w.alloc (.cells #[cG P,cG m,.slice am mn cm] 24):=⟨_,rfl⟩
 rw [<- hW];have hbW:PY w W:=by rw [hW];exact an _ _
 have x0:aQ W w.heap.size [cG P,cG m,.slice am mn cm]:=by rw [hW];exact Po _ _ _ rfl
 have HX:=Z5 x0;have hsW:w.heap.size<W.heap.size:=x0.1;clear hW x0;refine (iJ P m am mn cm x W hf Hx.out).mono ?_;rintro e w2 ⟨a1,c1,rfl,Y,hb1⟩;rw [V.out] at Y ⊢;have hs1:=hb1.size;have hap1:a1 ≠ none->W.heap.size<=ablk a1:=λh0=>(aT Y h0).1;obtain ⟨D,hD⟩:∃D,digs x P m=D:=⟨_,rfl⟩
 rw [hD] at Y V Hbx F B z r;obtain ⟨H,hNN⟩:∃H,tT P D=H:=⟨_,rfl⟩
 rw [hNN] at F B z r;clear hD hNN;go_wp2_with fail;go_loopw [6] (λiv wr=>∃k:Nat,k<=m/\iv = cG k/\wr.ownsRow W.heap.size 3 1 (.slice a1 m c1) m ((gv H D k).map (Value.int .i64))/\db a1 w2 wr) (λiv _=>m - (intOf iv).toNat);case atStart=>exact ⟨0,K0 _,rfl,by rw [fC];exact Y,PD _ _⟩
 case round =>
  obtain ⟨k,hk,rfl,X,U⟩:=hrel
  have A:PY W wr:=hb1.trans (U.below hap1 (by omega))
  by_cases S:k<m
  ·obtain ⟨K,hm1⟩:=Pn X
   have ca:=K.cell k S
   have fa:=(hm1 (by omega)).2 k S
   have hpl1:=K.pl
   have j:H.length=D.length:=by rw [F.out,V.out]
   have hkD:k<D.length:=by rw [V.out];exact S
   have Q:=eA H D k k j (by omega)
   rw [KY (by omega)] at Q
   rw [Q] at ca
   have E:=fh H D k j hkD
   have Hset:=Z5 E
   have C:=HX.af A
   have d0:=C.cell 0 rfl
   have b1:=Hbx k
   have hP0:P ≠ 0:=by omega
   have r5:IntKind.i64.wrap (P - nth D k)=P - nth D k:=La _ (by omega)
   obtain ⟨Z,hZ⟩:∃Z,(P - nth D k) % P=Z:=⟨_,rfl⟩
   have r6:(P - nth D k).tmod P=Z:=by rw [<- hZ];exact L9 _ _ (by omega)
   have R7:Hid (nth H k=Z):=by show _=_;rw [<- hZ];exact B k S
   clear hZ
   clear Q E j hkD C
   go_wp2_with fail
   go_still_tail 13,(by kernel_rfl)
   change wpList _ _ _ _ _ wr.drew
   generalize N:wr.drew=wd
   have fd:wd.frozen? ⟨ablk a1,aJ a1+k,none⟩=false:=by rw [<- N];exact fa
   have cd:wd.cell? ⟨ablk a1,aJ a1+k,none⟩=some (cG (nth D k)):=by rw [<- N];exact ca
   have Hwd:=Z5 N
   clear N r5 r6
   go_wp2_with fail
   go_roundw
   case rel =>
    obtain rfl:=Hwd.out
    have hdr:bg wr wr.drew:=(Pt wr).drew
    refine ⟨k+1,by omega,by go_num,?_,U.trans ((PA hdr).trans (PF _ k _ (by intro e;have:=hpl1 (by omega);rw [e] at this;cases this)))⟩
    have h1:=bA (w:=wr.drew) X k S (cG Z)
    rw [<- Lq,<- R7.out,Hset.out] at h1
    rw [<- R7.out]
    exact h1
   case measure=>simp [intOf] <;> omega
  ·obtain rfl:k=m:=by omega
   rw [gx H D k F.out V.out] at X
   have K:=(Pn X).1
   have C:=HX.af A
   have d0:=C.cell 0 rfl
   have d1:=C.cell 1 rfl
   have d2:=C.cell 2 rfl
   clear C
   go_wp2_with fail
   refine (mQ P k am mn cm a1 k c1 H wr K (by omega) (by omega) (by omega) z.out).mono ?_
   rintro e w4 ⟨rfl,hb4⟩
   go_wp2_with fail
   go_ret
   exact ⟨aN r.out,Pm (Pm hbW A) hb4⟩
def cvJ (P:Int) (a b:LI) (i:Nat) (c:LI):Nat->LI
 | 0=>c
 | j+1=>(cvJ P a b i c j).set (i+j) ((nth (cvJ P a b i c j) (i+j)+nth a i * nth b j) % P)
def vZ (P:Int) (a b:LI) (M n:Nat):Nat->LI
 | 0=>List.replicate n 0
 | i+1=>cvJ P a b i (vZ P a b M n i) M
def ug (P:Int) (M:Nat) (mod:LI) (i:Nat) (c:LI):Nat->LI
 | 0=>c
 | j+1=>(ug P M mod i c j).set (i - M+j) ((nth (ug P M mod i c j) (i - M+j)+(P - nth (ug P M mod i c j) i) * nth mod j) % P)
def uf (P:Int) (M:Nat) (mod:LI) (c:LI):Nat->LI
 | 0=>c
 | k+1=>ug P M mod (2 * M - 2 - k) (uf P M mod c k) M
def mulL (P:Int) (M:Nat) (mod:LI) (a b:LI):LI:=(uf P M mod (vZ P a b M (2 * M - 1) M) (M - 1)).take M
def mulR (P:Int) (M:Nat) (mod:LI) (x y:Int):Int:=valu P (mulL P M mod (digs x P M) (digs y P M))
theorem dG.set {P:Int} {l:LI} (h:dG P l) (i:Nat) {x:Int} (h0:0<=x) (h1:x<P):dG P (l.set i x):=by
 intro j;by_cases hi:i<l.length
 ·rw [dS _ _ _ _ hi];split
  ·exact ⟨h0,h1⟩
  ·exact h j
 ·rw [MX (by omega)];exact h j
theorem dG.Bv {P:Int} (Z:0<P) {l:LI} (h:dG P l) (i:Nat) (x:Int):dG P (l.set i (x % P)):=h.set i (LO _ (by omega)) (LG _ Z)
theorem vN (P:Int) (a b:LI) (i:Nat) (c:LI):∀j,(cvJ P a b i c j).length=c.length
 | 0=>rfl
 | j+1=>by rw [cvJ,LZ,vN P a b i c j]
theorem vD {P:Int} (Z:0<P) (a b:LI) (i:Nat) {c:LI} (h:dG P c):∀j,dG P (cvJ P a b i c j)
 | 0=>h
 | j+1=>dG.Bv Z (vD Z a b i h j) _ _
theorem jN (P:Int) (a b:LI) (M n:Nat):∀i,(vZ P a b M n i).length=n
 | 0=>by simp [vZ]
 | i+1=>by rw [vZ,vN,jN P a b M n i]
theorem qK {P:Int} (Z:0<P) (a b:LI) (M n:Nat):∀i,dG P (vZ P a b M n i)
 | 0=>dG.replicate Z n
 | i+1=>vD Z a b i (qK Z a b M n i) M
theorem qQ (P:Int) (M:Nat) (mod:LI) (i:Nat) (c:LI):∀j,(ug P M mod i c j).length=c.length
 | 0=>rfl
 | j+1=>by rw [ug,LZ,qQ P M mod i c j]
theorem vq {P:Int} (Z:0<P) (M:Nat) (mod:LI) (i:Nat) {c:LI} (h:dG P c):∀j,dG P (ug P M mod i c j)
 | 0=>h
 | j+1=>dG.Bv Z (vq Z M mod i h j) _ _
theorem kN (P:Int) (M:Nat) (mod:LI) (c:LI):∀k,(uf P M mod c k).length=c.length
 | 0=>rfl
 | k+1=>by rw [uf,qQ,kN P M mod c k]
theorem qW {P:Int} (Z:0<P) (M:Nat) (mod:LI) {c:LI} (h:dG P c):∀k,dG P (uf P M mod c k)
 | 0=>h
 | k+1=>vq Z M mod _ (qW Z M mod h k) M
theorem dG.take {P:Int} (Z:0<P) {l:LI} (h:dG P l) (k:Nat):dG P (l.take k):=by
 intro i;have e:nth (l.take k) i=if i<k then nth l i else 0:=by simp only [nth,KZ,Mo];split <;> rfl
 rw [e];split
 ·exact h i
 ·omega
theorem xJ (P:Int) {M:Nat} (mod:LI) (a b:LI) (Z:1<=M):(mulL P M mod a b).length=M:=by unfold mulL;rw [Lt,kN,jN];omega
theorem yP {P:Int} (Z:0<P) (M:Nat) (mod:LI) (a b:LI):dG P (mulL P M mod a b):=dG.take Z (qW Z M mod (qK Z a b M _ M) _) M
structure zw (w:World) (P:Int) (m:Nat) (am:OA) (mn:Nat) (mod:LI):Prop where
 ints:Ints w am mn mod
 low:1<m->mn=m
 dig:dG P mod
theorem zw.af {w w':World} {P:Int} {m:Nat} {am:OA} {Z:Nat} {mod:LI} (h:zw w P m am Z mod) (hb:PY w w'):zw w' P m am Z mod:=⟨h.ints.af hb,h.low,h.dig⟩
theorem yA {l:LI} {k i:Nat} (h:i<k):nth (l.take k) i=nth l i:=by simp only [nth,KZ,Mo,KX h]
theorem Ints.take {w:World} {a:OA} {n:Nat} {l:LI} (h:Ints w a n l) {k:Nat} (Z:k<=n):Ints w a k (l.take k) :=
 ⟨by rw [Lt,h.len];omega,λh0=>h.pl (by omega),K9 Z h.max,λi hi=>by rw [yA hi];exact h.cell i (by omega)⟩
theorem sP (P:Int) (m:Nat) (am:OA) (mn cm:Nat) (mod:LI) (x y:Int) (w:World) (hf:RF P m) (z:zw w P m am mn mod) (hx:iQ (aK P m) x=true) (hy:iQ (aK P m) y=true) :
  Calls prog 114 #[.agg #[cG P,cG m,.slice am mn cm],cG x,cG y] w λe w'=>e = .returned (cG (mulR P m mod x y))/\PY w w':=by
 have hp2:=hf.p2;have hp256:=hf.p256;have hm1:=hf.m1;have hm8:=hf.m8;have Hx:=Z5 hx;have Hy:=Z5 hy;have Hdx:=Z5 (bG P m x);have Hdy:=Z5 (bG P m y);have Hbx:=Z5 (sj hf x);have Hby:=Z5 (sj hf y);have Hbm:=Z5 z.dig;have hplm:=z.ints.pl;have Hlow:=Z5 z.low;obtain ⟨n,hn⟩:∃n:Nat,2 * m - 1=n:=⟨_,rfl⟩
 have hn1:m<=n:=by omega
 have hn2:n<=15:=by omega
 have Hn:=Z5 hn;have hnv:2 * (m:Int) - 1=n:=by omega
 have hnv2:2 * (m:Int) - 2=(n:Int) - 1:=by omega
 have Hnv2:=Z5 hnv2;clear hx hy hn hnv2;go_enter func114,ntmps114;go_wp2_with fail;obtain ⟨W,hW⟩:∃W:World,W=w.alloc (.cells #[cG P,cG m,.slice am mn cm] 24):=⟨_,rfl⟩
 rw [<- hW];have hbW:PY w W:=by rw [hW];exact an _ _
 have x0:aQ W w.heap.size [cG P,cG m,.slice am mn cm]:=by rw [hW];exact Po _ _ _ rfl
 have HX:=Z5 x0;clear hW x0;have hmW:=z.af hbW;refine (iJ P m am mn cm x W hf Hx.out).mono ?_;rintro e w1 ⟨a1,c1,rfl,F,hb1⟩;have r:=HX.af hb1;have d0:=r.cell 0 rfl;have d1:=r.cell 1 rfl;have d2:=r.cell 2 rfl;rw [Hdx.out] at F ⊢;clear r;go_wp2_with fail;refine (iJ P m am mn cm y w1 hf Hy.out).mono ?_;rintro e w2 ⟨a2,c2,rfl,Y,hb2⟩;rw [Hdy.out] at Y ⊢;have S:=Pm hb1 hb2;have r:=HX.af S;have d0:=r.cell 0 rfl;have d1:=r.cell 1 rfl;have d2:=r.cell 2 rfl;have hi1:=((Pn F).1).af hb2;have hi2:=(Pn Y).1;have hpl1:=hi1.pl;have hpl2:=hi2.pl;have hm2:=hmW.af S;obtain ⟨D,hD⟩:∃D,digs x P m=D:=⟨_,rfl⟩
 obtain ⟨E,hE⟩:∃E,digs y P m=E:=⟨_,rfl⟩
 have HR:Hid (mulR P m mod x y=valu P (mulL P m mod D E)):=by show _=_;rw [mulR,hD,hE]
 rw [hD] at hi1 Hdx Hbx;rw [hE] at hi2 Hdy Hby;clear hD hE F Y r;go_wp2_with (at_make;refine bV rfl _ _ 22 3 rfl (cG 0) 8 underlying22 bh rfl n rfl rfl (by omega) (by unfold maxLen;omega) ?_;intro a3 w3 hown3 U hge3 hlt3;have d0:=aB U d0;have d1:=aB U d1;have d2:=aB U d2);have hP:0<P:=by omega
 have hS:∀V,PY w2 V->V.cell? ⟨w.heap.size,0,none⟩=some (cG P)/\V.cell? ⟨w.heap.size,1,none⟩=some (cG m)/\V.cell? ⟨w.heap.size,2,none⟩=some (.slice am mn cm)/\Ints V a1 m D/\Ints V a2 m E/\Ints V am mn mod:=by intro V hV;have r:=(HX.af S).af hV;exact ⟨r.cell 0 rfl,r.cell 1 rfl,r.cell 2 rfl,hi1.af hV,hi2.af hV,hm2.ints.af hV⟩
 have HS:=Z5 hS;have HC:Hid (List.replicate n (Value.int .i64 0)=(vZ P D E m n 0).map (Value.int .i64)):=by show _=_;simp [vZ]
 rw [HC.out] at hown3;have ha3:a3 ≠ none->w2.heap.size<=ablk a3:=λ_=>hge3;have hb23:=S.trans (U.mono S.size);clear hS d0 d1 d2 hi1 hi2 hm2;go_loopw [10] (λK wr=>∃i:Nat,i<=m/\K = cG i/\wr.ownsRow w2.heap.size 3 1 (.slice a3 n n) n ((vZ P D E m n i).map (Value.int .i64))/\db a3 w3 wr) (λK _=>m - (intOf K).toNat);case atStart=>exact ⟨0,K0 _,rfl,hown3,PD _ _⟩
 case round =>
  obtain ⟨i,hi,rfl,A,L⟩:=hrel
  have hbr:PY w2 wr:=U.trans (L.below ha3 U.size)
  obtain ⟨d0,d1,d2,j1,j2,j3⟩:=HS wr hbr
  by_cases hlt:i<m
  ·have Hci:Hid (vZ P D E m n (i+1)=cvJ P D E i (vZ P D E m n i) m):=rfl
   have Hcd:Hid (dG P (vZ P D E m n i)):=qK hP D E m n i
   have Hcl:Hid ((vZ P D E m n i).length=n):=jN P D E m n i
   obtain ⟨C,hC⟩:∃C,vZ P D E m n i=C:=⟨_,rfl⟩
   rw [hC] at A Hci Hcd Hcl
   clear hC
   go_wp2_with fail
   go_loopw [11] (λK wr=>∃j:Nat,j<=m/\K = cG j/\wr.ownsRow w2.heap.size 3 1 (.slice a3 n n) n ((cvJ P D E i C j).map (Value.int .i64))/\db a3 w3 wr) (λK _=>m - (intOf K).toNat)
   case atStart=>exact ⟨0,K0 _,rfl,A,L⟩
   case round =>
    obtain ⟨j,hj,rfl,Y,X⟩:=hrel
    have hbr2:PY w2 wr:=U.trans (X.below ha3 U.size)
    obtain ⟨d0,d1,d2,j1,j2,j3⟩:=HS wr hbr2
    by_cases hlt2:j<m
    ·have Q:Hid (cvJ P D E i C (j+1)=(cvJ P D E i C j).set (i+j) ((nth (cvJ P D E i C j) (i+j)+nth D i * nth E j) % P)):=rfl
     have hcd:=vD hP D E i Hcd.out j (i+j)
     obtain ⟨T,hT⟩:∃T,cvJ P D E i C j=T:=⟨_,rfl⟩
     rw [hT] at Y Q hcd
     clear hT
     have hij:i+j<n:=by have:=Hn.out;omega
     obtain ⟨it,mt⟩:=Pn Y
     have ct:=it.cell (i+j) hij
     have ft:=(mt (by omega)).2 (i+j) hij
     have hplt:=it.pl
     have cD:=j1.cell i hlt
     have cE:=j2.cell j hlt2
     have bD:=Hbx i
     have bE:=Hby j
     have hme:=lq bD.1 (show nth D i<=256 by omega) bE.1 (show nth E j<=256 by omega)
     have hP0:P ≠ 0:=by omega
     obtain ⟨k,hk⟩:∃k,i+j=k:=⟨_,rfl⟩
     rw [hk] at ct ft Q hcd hij
     obtain ⟨Z,hZ⟩:∃Z,(nth T k+nth D i * nth E j) % P=Z:=⟨_,rfl⟩
     have Hcj2:Hid (cvJ P D E i C (j+1)=T.set k Z):=by show _=_;rw [Q.out,hZ]
     have r1:IntKind.i64.wrap ((i:Int)+j)=(k:Int):=by rw [La _ (by omega)];omega
     have r2:IntKind.i64.wrap (nth D i * nth E j)=nth D i * nth E j:=La _ (by omega)
     have r3:IntKind.i64.wrap (nth T k+nth D i * nth E j)=nth T k+nth D i * nth E j:=La _ (by omega)
     have r4:(nth T k+nth D i * nth E j).tmod P=Z:=by rw [<- hZ];exact L9 _ _ (by omega)
     have q1:(0:Int)<=k:=by omega
     have q2:(k:Int)<n:=by omega
     clear hZ hk Q
     go_wp2_with fail
     go_still_tail 24,(by kernel_rfl)
     change wpList _ _ _ _ _ wr.drew
     generalize N:wr.drew=wd
     have fd:wd.frozen? ⟨ablk a3,aJ a3+k,none⟩=false:=by rw [<- N];exact ft
     have cd:wd.cell? ⟨ablk a3,aJ a3+k,none⟩=some (cG (nth T k)):=by rw [<- N];exact ct
     have Hwd:=Z5 N
     clear N r1 r2 r3 r4
     go_wp2_with fail
     go_roundw
     case rel =>
      obtain rfl:=Hwd.out
      have hdr:bg wr wr.drew:=(Pt wr).drew
      refine ⟨j+1,by omega,by go_num,?_,X.trans ((PA hdr).trans (PF _ k _ (by intro e;have:=hplt (by omega);rw [e] at this;cases this)))⟩
      have h1:=bA (w:=wr.drew) Y k hij (cG Z)
      rw [<- Lq,<- Hcj2.out] at h1
      exact h1
     case measure=>simp [intOf] <;> omega
    ·obtain rfl:j=m:=by omega
     go_wp2_with fail
     go_roundw
     case rel=>exact ⟨i+1,by omega,by go_num,by rw [Hci.out];exact Y,X⟩
     case measure=>simp [intOf] <;> omega
  ·obtain rfl:i=m:=by omega
   have hw2:=Hnv2.out
   obtain ⟨C,hC⟩:∃C,vZ P D E i n i=C:=⟨_,rfl⟩
   have Hcd:Hid (dG P C):=by show dG P C;rw [<- hC];exact qK hP D E i n i
   have Hcl:Hid (C.length=n):=by show _=_;rw [<- hC];exact jN P D E i n i
   have HL:Hid (mulL P i mod D E=(uf P i mod C (i - 1)).take i):=by show _=_;rw [mulL,Hn.out,hC]
   rw [hC] at A
   clear hC
   go_wp2_with fail
   clear hw2 hnv
   go_loopw [12] (λK wr=>∃k t:Nat,t+k+1=n/\k<=i - 1/\K = cG t/\wr.ownsRow w2.heap.size 3 1 (.slice a3 n n) n ((uf P i mod C k).map (Value.int .i64))/\db a3 w3 wr) (λK _=>(intOf K).toNat)
   case atStart=>exact ⟨0,n - 1,by omega,by omega,by congr 1;omega,A,L⟩
   case round =>
    obtain ⟨k,t,htk,hk,rfl,H,B⟩:=hrel
    have hbk:PY w2 wr:=U.trans (B.below ha3 U.size)
    obtain ⟨d0,d1,d2,j1,j2,j3⟩:=HS wr hbk
    by_cases hti:i<=t
    ·have hn':=Hn.out
     have hi1:1<i:=by omega
     have hmn:=Hlow hi1
     have Hrk:Hid (uf P i mod C (k+1)=ug P i mod t (uf P i mod C k) i):=by show _=_;rw [uf,show 2 * i - 2 - k=t by omega]
     have Hrd:Hid (dG P (uf P i mod C k)):=qW hP i mod Hcd.out k
     have Hrl:Hid ((uf P i mod C k).length=n):=by show _=_;rw [kN];exact Hcl
     obtain ⟨C2,hC2⟩:∃C2,uf P i mod C k=C2:=⟨_,rfl⟩
     rw [hC2] at H Hrk Hrd Hrl
     have Htk:=Z5 htk
     clear hC2 hn'
     go_wp2_with fail
     go_loopw [13] (λK wr=>∃j:Nat,j<=i/\K = cG j/\wr.ownsRow w2.heap.size 3 1 (.slice a3 n n) n ((ug P i mod t C2 j).map (Value.int .i64))/\db a3 w3 wr) (λK _=>i - (intOf K).toNat)
     case atStart=>exact ⟨0,K0 _,rfl,H,B⟩
     case round =>
      obtain ⟨j,hj,rfl,Y,X⟩:=hrel
      have hbr2:PY w2 wr:=U.trans (X.below ha3 U.size)
      obtain ⟨d0,d1,d2,j1,j2,j3⟩:=HS wr hbr2
      by_cases hlt2:j<i
      ·have Q:Hid (ug P i mod t C2 (j+1)=(ug P i mod t C2 j).set (t - i+j) ((nth (ug P i mod t C2 j) (t - i+j)+(P - nth (ug P i mod t C2 j) t) * nth mod j) % P)):=rfl
       have hcd:=vq hP i mod t Hrd.out j
       obtain ⟨T,hT⟩:∃T,ug P i mod t C2 j=T:=⟨_,rfl⟩
       rw [hT] at Y Q hcd
       clear hT
       obtain ⟨it,mt⟩:=Pn Y
       obtain ⟨u,hu⟩:∃u,t - i+j=u:=⟨_,rfl⟩
       have hun:u<n:=by omega
       have htn:t<n:=by omega
       have hjmn:j<mn:=by omega
       have ct:=it.cell u hun
       have ctt:=it.cell t htn
       have cM:=j3.cell j hjmn
       have ft:=(mt (by omega)).2 u hun
       have hplt:=it.pl
       have b1:=hcd u
       have b2:=hcd t
       have b3:=Hbm j
       have hme:=lq (show 0<=P - nth T t by omega) (show P - nth T t<=256 by omega) b3.1 (show nth mod j<=256 by omega)
       have hP0:P ≠ 0:=by omega
       rw [hu] at Q
       obtain ⟨Z,hZ⟩:∃Z,(nth T u+(P - nth T t) * nth mod j) % P=Z:=⟨_,rfl⟩
       have Hcj2:Hid (ug P i mod t C2 (j+1)=T.set u Z):=by show _=_;rw [Q.out,hZ]
       obtain ⟨v,hv⟩:∃v,t - i=v:=⟨_,rfl⟩
       have r0:IntKind.i64.wrap ((t:Int) - i)=(v:Int):=by rw [La _ (by omega)];omega
       have r1:IntKind.i64.wrap ((v:Int)+j)=(u:Int):=by rw [La _ (by omega)];omega
       have r2:IntKind.i64.wrap (P - nth T t)=P - nth T t:=La _ (by omega)
       have r3:IntKind.i64.wrap ((P - nth T t) * nth mod j)=(P - nth T t) * nth mod j:=La _ (by omega)
       have r4:IntKind.i64.wrap (nth T u+(P - nth T t) * nth mod j)=nth T u+(P - nth T t) * nth mod j:=La _ (by omega)
       have r5:(nth T u+(P - nth T t) * nth mod j).tmod P=Z:=by rw [<- hZ];exact L9 _ _ (by omega)
       have q1:(0:Int)<=u:=by omega
       have q2:(u:Int)<n:=by omega
       have q3:(t:Int)<n:=by omega
       have q4:(j:Int)<mn:=by omega
       clear hZ hu hv Q htk hmn
       go_wp2_with fail
       go_still_tail 34,(by kernel_rfl)
       change wpList _ _ _ _ _ wr.drew
       generalize N:wr.drew=wd
       have fd:wd.frozen? ⟨ablk a3,aJ a3+u,none⟩=false:=by rw [<- N];exact ft
       have cd:wd.cell? ⟨ablk a3,aJ a3+u,none⟩=some (cG (nth T u)):=by rw [<- N];exact ct
       have Hwd:=Z5 N
       clear N r0 r1 r2 r3 r4 r5
       go_wp2_with fail
       go_roundw
       case rel =>
        obtain rfl:=Hwd.out
        have hdr:bg wr wr.drew:=(Pt wr).drew
        refine ⟨j+1,by omega,by go_num,?_,X.trans ((PA hdr).trans (PF _ u _ (by intro e;have:=hplt (by omega);rw [e] at this;cases this)))⟩
        have h1:=bA (w:=wr.drew) Y u hun (cG Z)
        rw [<- Lq,<- Hcj2.out] at h1
        exact h1
       case measure=>simp [intOf] <;> omega
      ·obtain rfl:j=i:=by omega
       go_wp2_with fail
       go_roundw
       case rel=>exact ⟨k+1,t - 1,by have:=Htk.out;omega,by have:=Htk.out;have:=Hn.out;omega,by congr 1;omega,by rw [Hrk.out];exact Y,X⟩
       case measure=>simp [intOf] <;> omega
    ·have hki:k=i - 1:=by have:=Hn.out;omega
     have hfin:Hid (valu P ((uf P i mod C k).take i)=mulR P i mod x y):=by show _=_;rw [HR.out,HL.out,hki]
     have hdig:dG P ((uf P i mod C k).take i):=dG.take hP (qW hP i mod Hcd.out k) i
     have hlen:((uf P i mod C k).take i).length=i:=by rw [Lt,kN,Hcl.out];omega
     have hbd:=dG.Kz hf hdig hlen
     have hit:=(Pn H).1
     have hin:i<=n:=hn1
     have hit2:Ints wr a3 i ((uf P i mod C k).take i):=hit.take hin
     have Hbd:=Z5 hbd
     have hin':(i:Int)<=n:=by omega
     have hbwr:PY w wr:=(Pm hbW S).trans (hbk.mono (by have h1:=S.size;have h2:=hbW.size;omega))
     have hS2:∀V,PY wr V->V.cell? ⟨w.heap.size,0,none⟩=some (cG P)/\V.cell? ⟨w.heap.size,1,none⟩=some (cG i)/\V.cell? ⟨w.heap.size,2,none⟩=some (.slice am mn cm)/\PY wr V :=
      λV hV=>⟨aB hV d0,aB hV d1,aB hV d2,hV⟩
     have HS2:=Z5 hS2
     have Hit2:Hid (∀V,PY wr V->Ints V a3 i ((uf P i mod C k).take i)):=λV hV=>hit2.af hV
     clear hki hlen hdig hbd hS2 hit hit2 htk
     go_wp2_with fail
     go_region_held3 (λV=>V.cell? ⟨w.heap.size,0,none⟩=some (cG P)/\V.cell? ⟨w.heap.size,1,none⟩=some (cG i)/\V.cell? ⟨w.heap.size,2,none⟩=some (.slice am mn cm)/\PY wr V)
      ((refine HS2 _ ?_;first | exact (KU _ _).drew | (go_split_ands;exact Pm (by assumption) (by assumption))))
      (first
       | (go_at_call 162;((with_reducible refine (mQ P i am mn cm a3 i n _ _ (Hit2.out _ (KU _ _).drew) (by omega) (by omega) (by omega) Hbd.out).mono ?_);rintro e w4 ⟨rfl,hb4⟩)))
     go_wp2_with fail
     go_ret
     exact ⟨aN hfin.out,Pm hbwr (by go_split_ands;assumption)⟩
structure tK (w:World) (P:Int) (m:Nat) (am:OA) (mn:Nat) (mod:LI):Prop where
 rf:RF P m
 mods:zw w P m am mn mod
theorem tK.af {w w':World} {P:Int} {m:Nat} {am:OA} {Z:Nat} {mod:LI} (h:tK w P m am Z mod) (hb:PY w w'):tK w' P m am Z mod:=⟨h.rf,h.mods.af hb⟩
theorem RF.iQ {P:Int} {m:Nat} (h:RF P m) {x:Int} (Z:eW P m x):iQ (aK P m) x=true:=by unfold Proofs.YthglbncgemdcbaaGreat.iQ;rw [h.order];simp [Z.1,Z.2]
theorem wA {P:Int} {m:Nat} (h:RF P m) (mod:LI) (x y:Int):eW P m (mulR P m mod x y):=by
 have Z:0<P:=by have:=h.p2;omega
 have:=nF Z (mulL P m mod (digs x P m) (digs y P m)) (yP Z m mod _ _);rwa [xJ P mod _ _ h.m1] at this
def invTo (f:Int->Int):Nat->Int->Int
 | 0,_=>0
 | n+1,y=>if f y=1 then y else invTo f n (y+1)
def gL (P:Int) (m:Nat) (mod:LI) (x:Int):Int:=invTo (mulR P m mod x) ((aK P m).toNat - 1) 1
def kG (P:Int) (m:Nat) (mod:LI):aP:=⟨fsum P m,mulR P m mod,fneg P m,gL P m mod⟩
theorem yT (f:Int->Int):∀(n:Nat) (y:Int),0<=y->0<=invTo f n y/\(invTo f n y<y+n\/invTo f n y=0)
 | 0,y,h=>by simp [invTo]
 | n+1,y,h=>by
  unfold invTo;split
  ·omega
  ·have:=yT f n (y+1) (by omega);omega
theorem BG {P:Int} {m:Nat} (h:RF P m) (mod:LI) (x:Int):eW P m (gL P m mod x):=by have h1:=yT (mulR P m mod x) ((aK P m).toNat - 1) 1 (by omega);have h2:=h.order;have h3:=one_lt_pow h.res;unfold gL eW;omega
theorem KO {P:Int} {m:Nat} (h:RF P m) (mod:LI):qC (kG P m mod) (eW P m) :=
 ⟨λx y _ _=>ib h.res x y,λx y _ _=>wA h mod x y,λx _=>vB h.res x,λx _ _=>BG h mod x⟩
theorem Fa (P:Int) (m:Nat) (am:OA) (N cm:Nat) (mod:LI) (x:Int) (w:World) (hf:tK w P m am N mod) (hx:eW P m x) :
  Calls prog 226 #[.agg #[cG P,cG m,.slice am N cm],cG x] w λe w'=>e = .returned (cG (gL P m mod x))/\PY w w':=by
 have Z:=hf.rf;have Hq:=Z5 (Z.iQ hx);have S:=Z.order;have K:=Z.pw;obtain ⟨q,A⟩:∃q:Nat,P ^ m=q:=⟨(P ^ m).toNat,by have:=one_lt_pow Z.res;omega⟩
 have hq2:2<=q:=by have:=one_lt_pow Z.res;omega
 have Y:aK P m=q:=by rw [S,A]
 have F:=Z5 Y;have HI:Hid (gL P m mod x=invTo (mulR P m mod x) (q - 1) 1):=by show _=_;rw [gL,Y];simp
 have Hel:Hid (∀k:Nat,k<q->iQ (aK P m) k=true):=λk hk=>Z.iQ ⟨by omega,by rw [A];omega⟩;have r:q<=256:=by omega
 clear S A Y K;go_enter func226,ntmps226;go_wp2_with fail;obtain ⟨W,C⟩:∃W:World,W=w.alloc (.cells #[cG P,cG m,.slice am N cm] 24):=⟨_,rfl⟩
 rw [<- C];have Q:PY w W:=by rw [C];exact an _ _
 have x0:aQ W w.heap.size [cG P,cG m,.slice am N cm]:=by rw [C];exact Po _ _ _ rfl
 have HX:=Z5 x0;clear C x0;have hfW:=hf.af Q;go_loopw [5] (λyv wr=>∃y:Nat,1<=y/\y<=q/\yv = cG y/\Hid (gL P m mod x=invTo (mulR P m mod x) (q - y) y)/\PY W wr) (λyv _=>q - (intOf yv).toNat);case atStart=>exact ⟨1,by omega,by omega,rfl,by show _=_;rw [HI.out];rfl,KU _ _⟩
 case round =>
  obtain ⟨y,hy1,hyq,rfl,hinv,H⟩:=hrel
  have V:=HX.af H
  have d0:=V.cell 0 rfl
  have d1:=V.cell 1 rfl
  have d2:=V.cell 2 rfl
  clear V
  go_wp2_with fail
  refine (jh P m am N cm wr).mono ?_
  rintro e w1 ⟨rfl,B⟩
  rw [F.out]
  have X:=Pm H B
  have V:=HX.af X
  have d0:=V.cell 0 rfl
  have d1:=V.cell 1 rfl
  have d2:=V.cell 2 rfl
  clear V
  by_cases j:y<q
  ·have hlt':(y:Int)<q:=by omega
   have L:invTo (mulR P m mod x) (q - y) y=if mulR P m mod x y=1 then (y:Int) else invTo (mulR P m mod x) (q - (y+1)) (y+1):=by rw [show q - y=(q - (y+1))+1 by omega,invTo]
   have E:=Z5 L
   clear L
   go_wp2_with fail
   refine (sP P m am N cm mod x y w1 Z ((hfW.af X).mods) Hq.out (Hel y j)).mono ?_
   rintro e w2 ⟨rfl,z⟩
   have U:=Pm X z
   by_cases h1:mulR P m mod x y=1
   ·have D:Hid (gL P m mod x=y):=by show _=_;rw [hinv.out,E.out,KX h1]
    rw [h1]
    clear h1
    go_wp2_with fail
    go_ret
    exact ⟨aN D.symm,Pm Q U⟩
   ·have D:Hid (gL P m mod x=invTo (mulR P m mod x) (q - (y+1)) ((y+1:Nat):Int)):=by show _=_;rw [hinv.out,E.out,KY h1];rfl
    have h1':(mulR P m mod x y == 1)=false:=by simpa using h1
    clear h1
    go_wp2_with fail
    go_roundw
    case rel=>exact ⟨y+1,by omega,by omega,by go_num,D,U⟩
    case measure=>simp [intOf] <;> omega
  ·obtain rfl:y=q:=by omega
   have D:Hid (gL P m mod x=0):=by show _=_;rw [hinv.out,NT];rfl
   go_wp2_with fail
   go_ret
   exact ⟨aN D.symm,Pm Q X⟩
theorem Aj (P:Int) (m:Nat) (am:OA) (N cm:Nat) (mod:LI) (s:Int) (a:OA) (n c:Nat) (l:LI) (w:World) (hf:tK w P m am N mod) (hs:eW P m s) (hi:Ints w a n l) (hl:∀x ∈ l,eW P m x) (hn:n<=1000000) :
  Calls prog 225 #[.agg #[cG P,cG m,.slice am N cm],cG s,.slice a n c] w (cQ w (l.map (mulR P m mod s))):=by
 have F:=hf.rf;have Hs:=Z5 (F.iQ hs);have X:=Z5 hi.len;have hpl:=hi.pl;have Hl:Hid (∀k,k<n->iQ (aK P m) (nth l k)=true):=λk A=>F.iQ (hl _ (aG (by rw [hi.len];exact A)));clear hl;go_enter func225,ntmps225;go_wp2_with (at_make;refine bV rfl _ _ 22 3 rfl (cG 0) 8 underlying22 bh rfl n rfl rfl (by omega) (by unfold maxLen;omega) ?_;intro a1 w1 Z Y hge U);obtain ⟨W,z⟩:∃W:World,W=w.alloc (.cells #[cG P,cG m,.slice am N cm] 24):=⟨_,rfl⟩
 rw [<- z] at Z Y hge;have L:PY w W:=by rw [z];exact an _ _
 have x0:aQ W w.heap.size [cG P,cG m,.slice am N cm]:=by rw [z];exact Po _ _ _ rfl
 have hfW:=hf.af L;have j:=hi.af L;have hS:∀k,k<n->∀V,PY W V->V.cell? ⟨w.heap.size,0,none⟩=some (cG P)/\V.cell? ⟨w.heap.size,1,none⟩=some (cG m)/\V.cell? ⟨w.heap.size,2,none⟩=some (.slice am N cm) /\
   V.cell? ⟨ablk a,aJ a+k,none⟩=some (cG (nth l k))/\PY W V:=by intro k A V D;have r:=x0.af D;exact ⟨r.cell 0 rfl,r.cell 1 rfl,r.cell 2 rfl,(j.af D).cell k A,D⟩
 have HS:=Z5 hS;clear z x0 hS;go_loopw [8] (λiv wr=>∃k:Nat,k<=n/\iv = cG k /\
   wr.ownsRow W.heap.size 3 1 (.slice a1 n n) n ((du ((l.take k).map (mulR P m mod s)) k n).map (Value.int .i64))/\PY W wr)
  (λi _=>n - (intOf i).toNat)
 case atStart=>exact ⟨0,K0 _,rfl,by simpa [du] using Z,Y⟩
 case round =>
  obtain ⟨k,A,rfl,Z,Y⟩:=hrel
  obtain ⟨hints,H⟩:=Pn Z
  have hpl1:=hints.pl
  by_cases U:k<n
  ·have HSk:Hid (∀V, PY W V -> V.cell? ⟨w.heap.size, 0, none⟩ = some (cG P) /\ V.cell? ⟨w.heap.size, 1, none⟩ = some (cG m) /\ V.cell? ⟨w.heap.size, 2, none⟩ = some (.slice am N cm) /\
     V.cell? ⟨ablk a,aJ a+k,none⟩=some (cG (nth l k))/\PY W V):=HS k U
   have hB:=(H (by omega)).1
   have HB:=Z5 hB
   have S:=Z5 Y
   have HK:Hid (∀V,Below wr.drew.heap.size wr.drew V->(∃v,V.cell? ⟨ablk a1,aJ a1+k,none⟩=some v)/\V.frozen? ⟨ablk a1,aJ a1+k,none⟩=false/\PY wr V):=λV D=>by have C:PY wr V:=Pm (KU _ _).drew D;have ho:=bf Z C;exact ⟨⟨_,(Pn ho).1.cell k U⟩,((Pn ho).2 (by omega)).2 k U,C⟩
   have E:=(hfW.af Y).mods
   have Hmd:Hid (zw wr.drew P m am N mod):=E.af (KU _ _).drew
   clear hB Y E
   go_wp2_with fail
   go_region_held3 (λV=>V.cell? ⟨w.heap.size,0,none⟩=some (cG P)/\V.cell? ⟨w.heap.size,1,none⟩=some (cG m)/\V.cell? ⟨w.heap.size,2,none⟩=some (.slice am N cm) /\
     V.cell? ⟨ablk a,aJ a+k,none⟩=some (cG (nth l k))/\PY W V)
    ((refine HSk _ ?_;first | exact S.drew | exact Pm S.out Q | exact (Pm S.out Q).setCell HB.out _))
    (first
     | (go_at_call 114;((with_reducible refine (sP P m am N cm mod s (nth l k) _ F Hmd.out Hs.out (Hl.out k U)).mono ?_);rintro e w4 ⟨rfl,hb4⟩;obtain ⟨⟨v9,k9⟩,f9,Q⟩:=HK.out w4 hb4)))
   clear k9 f9
   go_wp2_with fail
   go_roundw
   case rel =>
    refine ⟨k+1,by omega,by go_num,?_,(Pm S.out Q).setCell HB.out _⟩
    have h:=bA (bf Z Q) k U (cG (mulR P m mod s (nth l k)))
    rw [<- Lq,fF _ _ _ _ (by simp [X.out];omega) U] at h
    rw [K4 (by rw [X.out];omega),LJ]
    rw [aj (by rw [X.out];omega)] at h ⊢
    exact h
   case measure=>simp [intOf] <;> omega
  ·obtain rfl:k=n:=by omega
   have K:du ((l.take k).map (mulR P m mod s)) k k=l.map (mulR P m mod s):=by rw [gn,K5 (by rw [X.out];exact KT _)]
   rw [K] at Z
   have B:Hid ((l.map (mulR P m mod s)).length=k):=by show _=_;simp [X.out]
   clear K
   go_wp2_with fail
   go_ret
   exact ⟨a1,k,by rw [B.out];rfl,by rw [B.out];exact aY Z L.size,Pm L Y⟩
section
structure Ji (O O':aP) (El:Int->Prop):Prop where
 add:∀x y,El x->El y->O.add x y=O'.add x y
 mul:∀x y,El x->El y->O.mul x y=O'.mul x y
 neg:∀x,El x->O.neg x=O'.neg x
 inv:∀x,El x->x ≠ 0->O.inv x=O'.inv x
variable {O O':aP} {El:Int->Prop}
theorem kL (h:Ji O O' El) (U:qC O El):∀(v u:LI) (s:Int),(∀x ∈ v,El x)->(∀x ∈ u,El x)->El s->bX O v s u=bX O' v s u
 | [],_,_,_,_,_=>by simp [bX]
 | _ :: _,[],_,_,_,_=>by simp [bX]
 | x :: v,y :: u,s,V,hu,Z=>by have S:=kL h U v u s (λz X=>V z (by simp [X])) (λz X=>hu z (by simp [X])) Z;unfold bX at S ⊢;have Q:=V x (by simp);have Y:=hu y (by simp);simp only [Oi,S];rw [h.mul s y Z Y,h.add x _ Q (by rw [<- h.mul s y Z Y];exact U.mul s y Z Y)]
theorem wM (h:Ji O O' El) (V:qC O El) {Y r:LI} {c m:Nat} (S:c<m) (U:Y.length=m/\∀x ∈ Y,El x) (X:r.length=m/\∀x ∈ r,El x):cR O Y c r=cR O' Y c r:=by
 have Z:El (nth r c):=X.2 _ (aG (by omega));unfold cR;rw [h.neg _ Z];split
 ·rfl
 ·exact kL h V _ _ _ X.2 U.2 (by rw [<- h.neg _ Z];exact V.neg _ Z)
theorem pW (h:Ji O O' El) (Z:qC O El) {m:Nat} {L:Ll} (X:bt El m L) {t c:Nat} (U:t<L.length) (Y:c<m):∀i,i<=L.length->clearTo O t c L i=clearTo O' t c L i
 | 0,_=>rfl
 | i+1,hi=>by
  have S:=pW h Z X U Y i (by omega);have V:=PI Z X U Y i (by omega);have Q:=dA O t c L i;unfold clearTo;rw [<- S];split
  ·rfl
  ·rw [wM h Z Y (V.row (by omega)) (V.row (by omega))]
theorem yF (h:Ji O O' El) (S:qC O El) {m:Nat} {L:Ll} (V:bt El m L) {t c:Nat} (U:t<L.length) (Q:c<m) (h0:nth (ai L t) c ≠ 0):bu O L t c=bu O' L t c:=by
 have Y:=V.row U;have Z:El (nth (ai L t) c):=Y.2 _ (aG (by omega));unfold bu;rw [h.inv _ Z h0];split
 ·rfl
 ·congr 1;refine MF λx X=>?_;exact h.mul _ _ (by rw [<- h.inv _ Z h0];exact S.inv _ Z h0) (Y.2 x X)
theorem AL (h:Ji O O' El) (U:qC O El) {m:Nat} {L:Ll} (Q:bt El m L) {t k c:Nat} (N:t<L.length) (K:k<L.length) (V:c<m) (h0:nth (ai L k) c ≠ 0) (F:t<=k) :
  eD O L t k c=eD O' L t k c/\bt El m (eD O L t k c):=by
 have Y:bt El m (if k=t then L else bj L t k):=by split;exact Q;exact Q.swap N K
 have S:(if k=t then L else bj L t k).length=L.length:=by split;rfl;exact bC _ _ _
 have Z:nth (ai (if k=t then L else bj L t k) t) c ≠ 0:=by
  split
  ·rename_i e;subst e;exact h0
  ·rename_i e;have:ai (bj L t k) t=ai L k:=by unfold bj;rw [eC _ _ _ _ (by simpa using K),KY (by omega),eC _ _ _ _ N,KX rfl]
   rw [this];exact h0
 rw [i9,i9,<- yF h U Y (by omega) V Z];have X:=Y.norm U (t:=t) (c:=c) (by omega) V Z;have H:(bu O (if k=t then L else bj L t k) t c).length=L.length:=by rw [dy,S]
 exact ⟨pW h U X (by omega) V _ (by omega),PI U X (by omega) V _ (by omega)⟩
theorem gQ (h:Ji O O' El) (S:qC O El) {m:Nat} {L:Ll} (U:bt El m L):∀k,k<=m->aD O L k=aD O' L k/\bt El m (aD O L k).1
 | 0,_=>⟨rfl,U⟩
 | k+1,Q=>by
  obtain ⟨h1,h2⟩:=gQ h S U k (by omega);obtain ⟨Lk,P,Z⟩:∃Lk P,aD O L k=(Lk,P):=⟨_,_,rfl⟩
  rw [Z] at h1 h2;have hlen:Lk.length=L.length:=by have:=bN O L k;rw [Z] at this;exact this
  by_cases Y:P.length<Lk.length
  ·rw [dZ Z.symm Y,dZ h1 Y];by_cases V:bd Lk k P.length=Lk.length
   ·rw [KX V,KX V];exact ⟨rfl,h2⟩
   ·rw [KY V,KY V];have hb:=kZ (L:=Lk) (c:=k) (k:=P.length) (by omega);have hne:nth (ai Lk (bd Lk k P.length)) k ≠ 0:=il Lk k (Lk.length - P.length) P.length (by have:findTo Lk k P.length (Lk.length - P.length)=bd Lk k P.length:=rfl;omega);have X:bd Lk k P.length<Lk.length:=by omega
    have:=AL h S (L:=Lk) h2 (t:=P.length) (k:=bd Lk k P.length) (c:=k) Y X (by omega) hne hb.1;exact ⟨by rw [this.1],this.2⟩
  ·have e:∀(O:aP),aD O L k=(Lk,P)->aD O L (k+1)=(Lk,P):=λO he=>by rw [aD];simp only [he];rw [KY Y]
   rw [e O Z,e O' h1.symm];exact ⟨rfl,h2⟩
end
section
variable {P:Int} {M:Nat} {low:Nat->Int}
def AP (M:Nat) (low:Nat->Int) (n:Nat) (c:LI):Nat->Int:=λi=>sm n (λk=>nth c k * fA M low k (eV 0) i)
theorem J3 {n k:Nat} {c:LI} {z:Int} (f:Nat->Int) (Y:k<n) (Z:k<c.length):sm n (λj=>nth (c.set k z) j * f j)=sm n (λj=>nth c j * f j)+(z - nth c k) * f k:=by
 have h1:sm n (λj=>nth (c.set k z) j * f j)=sm n (λj=>nth c j * f j+(if j=k then (z - nth c k) * f k else 0)):=bT λj _=>by
  rw [dS _ _ _ _ Z];by_cases e:j=k
  ·subst e;rw [KX rfl,KX rfl,OC];omega
  ·rw [KY e,KY e];omega
 rw [h1,wg];congr 1;rw [kA Y λi _ hne=>KY hne,KX rfl]
theorem yb {n k:Nat} {c:LI} {d:Int} (Y:k<n) (Z:k<c.length) :
  Cg P (AP M low n (c.set k ((nth c k+d) % P))) (λi=>AP M low n c i+d * fA M low k (eV 0) i):=λi=>by
 simp only [AP];rw [J3 (λj=>fA M low j (eV 0) i) Y Z];obtain ⟨e,he⟩:=oU P (nth c k+d);refine ⟨e * fA M low k (eV 0) i,?_⟩;have h1:(nth c k+d) % P - nth c k=d+P * e:=by omega
 rw [h1,Oz,Mg];omega
theorem Fz {a b:LI} {i n:Nat} {c:LI} (Z:c.length=n):∀j,i+j<=n ->
  Cg P (AP M low n (cvJ P a b i c j)) (λs=>AP M low n c s+sm j (λj=>nth a i * nth b j * fA M low (i+j) (eV 0) s))
 | 0,_=>PJ (by funext s;simp [cvJ,sm])
 | j+1,X=>by have Y:=Fz (a:=a) (b:=b) (i:=i) Z j (by omega);rw [cvJ];refine (yb (by omega) (by rw [vN];omega)).trans ((Cg.add Y (PM P _)).trans (PJ ?_));funext s;simp only [sm];omega
theorem Gz {a b:LI} {n:Nat} (X:2 * M - 1<=n) (Z:1<=M):∀i,i<=M ->
  Cg P (AP M low n (vZ P a b M n i)) (λs=>sm i (λi=>sm M (λj=>nth a i * nth b j * fA M low (i+j) (eV 0) s)))
 | 0,_=>PJ (by
  funext s;simp only [AP,vZ,sm];rw [bT (g:=λ_=>0) λk _=>by
   have:nth (List.replicate n 0) k=0:=by simp only [nth,KZ,Ls];split <;> rfl
   rw [this,Int.zero_mul],jO])
 | i+1,hi=>by have Y:=Gz (a:=a) (b:=b) X Z i (by omega);rw [vZ];refine (Fz (jN P a b M n i) M (by omega)).trans ((Cg.add Y (PM P _)).trans (PJ ?_));funext s;simp only [sm]
theorem Kk (Z:1<=M):fA M low M (eV 0)=λi=>if i<M then - low i else 0:=by
 obtain ⟨m,rfl⟩:∃m,M=m+1:=⟨M - 1,by omega⟩
 rw [fA,CF m (by omega)];funext i;simp only [tW,eV];by_cases h:i<m+1
 ·rw [KX h,KX h,M7];by_cases h0:i=0
  ·rw [KX h0,KX rfl];omega
  ·rw [KY h0,KY (by omega),KX rfl];omega
 ·rw [KY h,KY h]
theorem Ju (X:1<=M) (t:Nat):(λs=>sm M (λj=>low j * fA M low (t+j) (eV 0) s))=λs=>- fA M low (t+M) (eV 0) s:=by
 have h1:(λs=>sm M (λj=>low j * fA M low (t+j) (eV 0) s))=fA M low t (λs=>sm M (λj=>low j * fA M low j (eV 0) s)):=by rw [wJ];funext s;refine bT λj _=>?_;rw [jZ,nV]
 have h2:(λs=>sm M (λj=>low j * fA M low j (eV 0) s))=λs=>(-1) * fA M low M (eV 0) s:=by
  funext s;rw [congrFun (Kk (low:=low) X) s];have h3:sm M (λj=>low j * fA M low j (eV 0) s)=sm M (λj=>low j * eV j s):=bT λj Y=>by rw [CF j Y]
  rw [h3];by_cases Z:s<M
  ·rw [kA Z λi _ hne=>by simp only [eV];rw [KY (by omega)];omega];rw [KX Z];simp [eV]
  ·rw [KY Z,bT (g:=λ_=>0) λj Y=>by simp only [eV];rw [KY (by omega)];omega,jO];rfl
 rw [h1,h2,jZ];funext s;rw [<- nV];omega
theorem CM {mod:LI} {i:Nat} {c:LI} (hi:M<=i) (Z:i<c.length):∀j,j<=M->nth (ug P M mod i c j) i=nth c i
 | 0,_=>rfl
 | j+1,Y=>by rw [ug,dS _ _ _ _ (by rw [qQ];omega),KY (by omega)];exact CM hi Z j (by omega)
theorem EO {mod:LI} {i:Nat} {c:LI} (hi:M<=i) (Z:i<c.length):∀j,j<=M ->
  Cg P (AP M low i (ug P M mod i c j)) (λs=>AP M low i c s+(- nth c i) * sm j (λj=>nth mod j * fA M low (i - M+j) (eV 0) s))
 | 0,_=>PJ (by funext s;simp [ug,sm])
 | j+1,U=>by have V:=EO (mod:=mod) hi Z j (by omega);rw [ug,CM hi Z j (by omega)];refine (yb (by omega) (by rw [qQ];omega)).trans ?_;refine (Cg.add V (PM P _)).trans ?_;intro s;simp only [sm];generalize sm j (λj=>nth mod j * fA M low (i - M+j) (eV 0) s)=X;generalize fA M low (i - M+j) (eV 0) s=Y;refine ⟨nth mod j * Y,?_⟩;simp only [Mx,OC,Int.neg_mul,Mg];omega
theorem FO {mod:LI} (Y:1<=M) (Z:∀j,low j=nth mod j) {c:LI} (X:c.length=2 * M - 1):∀k,k<=M - 1 ->
  Cg P (AP M low (2 * M - 1 - k) (uf P M mod c k)) (AP M low (2 * M - 1) c)
 | 0,_=>PM P _
 | k+1,U=>by
  have V:=FO Y Z X k (by omega);rw [uf];refine PV ?_ V;obtain ⟨i,hi⟩:∃i,2 * M - 2 - k=i:=⟨_,rfl⟩
  rw [hi,show 2 * M - 1 - (k+1)=i by omega,show 2 * M - 1 - k=i+1 by omega];refine (EO (low:=low) (by omega) (by rw [kN];omega) M (KT _)).trans (PJ ?_);funext s;have h1:sm M (λj=>low j * fA M low (i - M+j) (eV 0) s) = - fA M low (i - M+M) (eV 0) s:=congrFun (Ju (low:=low) Y (i - M)) s;rw [bT (g:=λj=>low j * fA M low (i - M+j) (eV 0) s) λj _=>by rw [Z],h1,show i - M+M=i by omega];simp only [AP,sm];rw [Int.neg_mul,OB];omega
theorem x8 (c:LI) (X:M<=c.length):AP M low M c=nth (c.take M):=by
 funext s;simp only [AP];rw [bT (g:=λj=>nth c j * eV j s) λj Z=>by rw [CF j Z]];by_cases Y:s<M
 ·rw [kA Y λi _ hne=>by simp only [eV];rw [KY (by omega)];omega,yA Y];simp [eV]
 ·rw [jI (by rw [Lt];omega),bT (g:=λ_=>0) λj Z=>by simp only [eV];rw [KY (by omega)];omega,jO]
end
theorem IU {P:Int} {m:Nat} (V:RF P m) (mod:LI) (x y:Int):mulR P m mod x y=dq P m mod x y:=by
 have Z:=V.res;have S:=Z.pos;have Y:=V.m1;refine (wA V mod x y).ext Z (fH Z x y) (PV ?_ (gd S m mod x y).symm);have hd:dV P m (mulR P m mod x y)=nth (mulL P m mod (digs x P m) (digs y P m)):=by unfold dV mulR;have:=mg (P:=P) (mulL P m mod (digs x P m) (digs y P m)) (yP S m mod _ _);rw [xJ P mod _ _ Y] at this;rw [this]
 rw [hd];have N:=Gz (P:=P) (M:=m) (low:=nth (mB m mod)) (a:=digs x P m) (b:=digs y P m) (n:=2 * m - 1) (KT _) Y m (KT _);have Q:Cg P (AP m (nth (mB m mod)) (2 * m - 1) (vZ P (digs x P m) (digs y P m) m (2 * m - 1) m)) (gC m (nth (mB m mod)) (dV P m x) (dV P m y)):=by rw [lR (nT P m y)];exact N
 refine PV ?_ Q;unfold mulL;by_cases h1:1<m
 ·have X:∀j,nth (mB m mod) j=nth mod j:=λj=>by rw [mB,KX h1]
  have U:=FO (P:=P) Y X (jN P (digs x P m) (digs y P m) m (2 * m - 1) m) (m - 1) (KT _);rw [show 2 * m - 1 - (m - 1)=m by omega,x8 _ (by rw [kN,jN];omega)] at U;exact U
 ·obtain rfl:m=1:=by omega
  rw [<- x8 (M:=1) (low:=nth (mB 1 mod)) _ (by rw [kN,jN];omega)];exact PM P _
def oq (q:Int) (k:Nat):Int:=if q ^ k<=65536 then q ^ k else 0
def jP (q:Int) (k:Nat):Int:=if q ^ k<=65536 then 0 else 8
theorem ob {q:Int} {k:Nat} (h:q ^ k<=65536):oq q k=q ^ k/\jP q k=0:=by simp [oq,jP,h]
theorem re {q:Int} {k:Nat} (h:¬ q ^ k<=65536):oq q k=0/\jP q k=8:=by simp [oq,jP,h]
theorem mw {a b c d:Int} {k Z:IntKind} (h:a=b) (Y:c=d):Ending.returned (.tuple #[.int k a,.int Z c]) = .returned (.tuple #[.int k b,.int Z d]):=by rw [h,Y]
theorem GK (q:Int) (n:Nat) (w:World) (h2:2<=q) (U:q<=256) (B:n<=1000000) :
  Calls prog 207 #[cG q,cG n,cG 65536] w λe w'=>e = .returned (.tuple #[cG (oq q n),cG (jP q n)])/\w=w':=by
 go_enter func207,ntmps207;go_wp2_with fail;go_loop [1,8] (λH K=>∃k:Nat,k<=n/\H = cG ((n:Int) - k)/\K = cG (q ^ k)/\q ^ k<=65536/\1<=q ^ k) (λi _=>(intOf i).toNat);case atStart=>exact ⟨0,K0 _,by simp,by simp,by simp,by simp⟩
 case round =>
  obtain ⟨k,r,rfl,rfl,hb,X⟩:=hrel
  have C:q ≠ 0:=by omega
  by_cases F:k<n
  ·have e1:q ^ (k+1)=q ^ k * q:=LY _ _
   have N:(0:Int)<=65536 / q:=Ms (by omega) (by omega)
   have L:65536 / q<=65536:=Mu _ (by omega)
   by_cases D:65536 / q<q ^ k
   ·have Z:¬ q ^ n<=65536:=by intro h;have S:=dF (show 1<=q by omega) (show k+1<=n by omega);have E:65536<q ^ k * q:=NF (by omega) D;omega
    have Y:=Z5 (re Z)
    clear e1 Z
    generalize q ^ k=z at *
    go_wp2_with fail
    go_ret2
    exact ⟨mw Y.1.symm Y.2.symm,rfl⟩
   ·have S:q ^ k * q<=65536:=by have:=Ow (show (0:Int)<q by omega) (show q ^ k<=65536 / q by omega);exact this
    have E:1 * 1<=q ^ k * q:=M1 X (by omega) (by omega) (by omega)
    have V:=Z5 e1
    clear e1
    generalize Q:q ^ k=z at *
    have A:=Z5 Q
    clear Q
    go_wp2_with fail
    go_round
    case rel=>exact ⟨k+1,by omega,by go_num,by rw [V.out],by rw [V.out];exact S,by rw [V.out];omega⟩
    case measure=>simp [intOf] <;> omega
  ·obtain rfl:k=n:=by omega
   have Y:=Z5 (ob hb)
   generalize q ^ k=z at *
   go_wp2_with fail
   go_ret2
   exact ⟨mw Y.1.symm Y.2.symm,rfl⟩
theorem Fy (q:Int) (n:Nat) (w:World) (h2:2<=q) (U:q<=256) (B:n<=1000000) :
  Calls prog 100 #[cG q,cG n,cG 65536] w λe w'=>e = .returned (.tuple #[cG (oq q n),cG (jP q n)])/\w=w':=by
 go_enter func100,ntmps100;go_wp2_with fail;go_loop [8,9] (λK H=>∃k:Nat,k<=n/\H = cG k/\K = cG (q ^ k)/\q ^ k<=65536/\1<=q ^ k) (λ_ i=>n - (intOf i).toNat);case atStart=>exact ⟨0,K0 _,rfl,by simp,by simp,by simp⟩
 case round =>
  obtain ⟨k,r,rfl,rfl,hb,X⟩:=hrel
  have C:q ≠ 0:=by omega
  by_cases F:k<n
  ·have e1:q ^ (k+1)=q ^ k * q:=LY _ _
   have N:(0:Int)<=65536 / q:=Ms (by omega) (by omega)
   have L:65536 / q<=65536:=Mu _ (by omega)
   by_cases D:65536 / q<q ^ k
   ·have Z:¬ q ^ n<=65536:=by intro h;have S:=dF (show 1<=q by omega) (show k+1<=n by omega);have E:65536<q ^ k * q:=NF (by omega) D;omega
    have Y:=Z5 (re Z)
    clear e1 Z
    generalize q ^ k=z at *
    go_wp2_with fail
    go_ret2
    exact ⟨mw Y.1.symm Y.2.symm,rfl⟩
   ·have S:q ^ k * q<=65536:=by have:=Ow (show (0:Int)<q by omega) (show q ^ k<=65536 / q by omega);exact this
    have E:1 * 1<=q ^ k * q:=M1 X (by omega) (by omega) (by omega)
    have V:=Z5 e1
    clear e1
    generalize Q:q ^ k=z at *
    have A:=Z5 Q
    clear Q
    go_wp2_with fail
    go_round
    case rel=>exact ⟨k+1,by omega,by go_num,by rw [V.out],by rw [V.out];exact S,by rw [V.out];omega⟩
    case measure=>simp [intOf] <;> omega
  ·obtain rfl:k=n:=by omega
   have Y:=Z5 (ob hb)
   generalize q ^ k=z at *
   go_wp2_with fail
   go_ret2
   exact ⟨mw Y.1.symm Y.2.symm,rfl⟩
end Go.Proofs.YthglbncgemdcbaaGreat
