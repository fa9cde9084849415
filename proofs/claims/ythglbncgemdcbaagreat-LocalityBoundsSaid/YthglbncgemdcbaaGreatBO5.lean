import Derived.Test.YthglbncgemdcbaaGreatBO4
import Derived.Laws.Bits64b
namespace Go.Proofs.YthglbncgemdcbaaGreat
set_option linter.all false
set_option maxRecDepth 100000
set_option maxHeartbeats 4000000
open Go.RowKit Go.Proofs.Tryz
section
variable {w:ej} {b:Nat} {G:bX}
theorem ch.cQ {a Z:OA} {R:Z4} {w w':ej} (h:ch Z w w') (Y:Z ≠ none->bN a R (ablk Z)):aB w w' (bN a R) (bN a R) :=
 ⟨h.os,h.tape,h.output,h.size,λb hb hI=>h.block b hb (λ⟨h1,h2⟩=>hI (by rw [h2];exact Y h1)),λ_ h=>.inl h⟩
theorem pF (H:ej) (a:OA) (n c:Nat) (R:Z4) (L:ZZ) (F pi D C m:Nat) (i:Nat) (x:Int) (t:Nat) (V:aS w H.heap.size a n c R L)
  (h:dg H b G) (hb:SJ H w)
  (hg:w.cell? ⟨F,0,none⟩=some (ea b 0)) (hi:w.cell? ⟨pi,0,none⟩=some (cG i)) (hx:w.cell? ⟨D,0,none⟩=some (cG x)) (ht:w.cell? ⟨C,0,none⟩=some (cG t))
  (Y:i<n) (K:t<n) (hit:i ≠ t) (hxe:G.El x) (ng:¬ bN a R F) (ni:¬ bN a R pi) (nx:¬ bN a R D) (nt:¬ bN a R C) (z:G.vn (aj L i)) (het:G.vn (aj L t)) (U:(aj L i).length=m) (I:(aj L t).length=m) :
  Calls prog 256 #[.slice a n c,ea F 0,ea pi 0,ea D 0,ea C 0] w
   λe w'=>e = .returned (.tuple #[])/\aS w' H.heap.size a n c R (L.set i (bZ G.ops (aj L i) (G.neg x) (aj L t)))/\aB w w' (bN a R) (bN a R):=by
 have hpl:=V.pl;have ct:=V.cell K;have ci:=V.cell Y;have ri:=V.row i Y;have rt:=V.ints K;have S:=V.sep i t Y K hit;have hne:G.El (G.neg x):=bX.uc h x;rw [I] at ct rt;rw [U] at ci ri;have B:(aM R i).1=none\/(aM R t).1=none\/ablk (aM R t).1 ≠ ablk (aM R i).1:=S;have Q:∀k,Calls prog 198 #[ea b 0,.slice (aM R i).1 m (aM R i).2,cG (G.neg x),.slice (aM R t).1 m (aM R t).2] (w.drewN k)
   λe w'=>e = .returned (.tuple #[])/\(w'.cell? ⟨F,0,none⟩=some (ea b 0)/\w'.cell? ⟨pi,0,none⟩=some (cG i)/\w'.cell? ⟨D,0,none⟩=some (cG x)/\w'.cell? ⟨C,0,none⟩=some (cG t) /\
    w'.cell? ⟨ablk a,aN a+t,none⟩=some (.slice (aM R t).1 m (aM R t).2)/\w'.cell? ⟨ablk a,aN a+i,none⟩=some (.slice (aM R i).1 m (aM R i).2))/\(aS w' H.heap.size a n c R (L.set i (bZ G.ops (aj L i) (G.neg x) (aj L t)))/\aB w w' (bN a R) (bN a R)):=by
  intro k;have hd:bm w (w.drewN k):=⟨k,rfl⟩
  refine (DQ H _ _ m (aj L i) (G.neg x) _ _ (aj L t) h (hd.tO hb) (bj ri hd.below) (rt.ai hd.below) B z het hne).mono ?_;rintro e w' ⟨rfl,A,Z⟩;have X:aB w w' (bN a R) (bN a R):=(RZ hd.below _).trans (Z.cQ (λhn=>aS.jS (by rw [V.rl];exact Y) hn));have N:¬ ((aM R i).1 ≠ none/\ablk a=ablk (aM R i).1):=by
   rintro ⟨h1,h2⟩;rcases V.ue i Y with h3 | h3
   ·exact h1 h3
   ·exact h3 h2.symm
  refine ⟨rfl,⟨X.cell hg ng,X.cell hi ni,X.cell hx nx,X.cell ht nt,Sw (Sj (RZ hd.below _) Z) ct N,Sw (Sj (RZ hd.below _) Z) ci N⟩,?_,X⟩;have hOr:=V.ai hd.below;have hl:(bZ G.ops (aj L i) (G.neg x) (aj L t)).length=(aj L i).length:=fg _ _ _ _ (by rw [U,I]);refine hOr.IU Y hl (by rw [U];exact A) λb hb hne=>Z.block b hb λ⟨h1,h2⟩=>?_;rcases hne with h3 | h3
  ·exact h1 h3
  ·exact h3 h2
 have E:=Z5 Q;have hG:=h.ai hb;have HG:Hid (dg w.drew b G/\∀n,dg (w.drewN n) b G):=⟨hG.ai (M5 _ _).drew,λn=>hG.drewN n⟩
 clear Q S B U I;generalize L.set i (bZ G.ops (aj L i) (G.neg x) (aj L t))=L' at *;go_enter func256,ntmps256;go_wp2_with fail;go_region_held3 (fun w' => w'.cell? ⟨F, 0, none⟩ = some (.pointer (some ⟨b, 0, none⟩)) ∧ w'.cell? ⟨pi, 0, none⟩ = some (cG i) ∧ w'.cell? ⟨D, 0, none⟩ = some (cG x) ∧ w'.cell? ⟨C, 0, none⟩ = some (cG t) ∧
       w'.cell? ⟨ablk a,aN a+t,none⟩=some (.slice (aM R t).1 m (aM R t).2)/\w'.cell? ⟨ablk a,aN a+i,none⟩=some (.slice (aM R i).1 m (aM R i).2))
  (first|assumption|exact ⟨hg,hi,hx,ht,ct,ci⟩)
  (first
  | (go_at_call 103;((with_reducible refine (Jo x HG.out.1 hxe).mono ?_);rintro e w4 ⟨m4,rfl,rfl⟩))
  | (go_at_call 198;((with_reducible refine (E.out _).mono ?_);rintro e w5 ⟨rfl,hS5,r,j⟩)))
 go_wp2_with fail;go_end0;exact ⟨rfl,r,j⟩
end
section
variable {w:ej}
theorem Fx (c0 c1:Value) (p q:Nat) (a:OA) (n c:Nat) (X:ej->Prop) (h1:w.cell? ⟨p,0,none⟩=some (.slice a n c))
  (Z:Calls prog 254 #[.slice a n c,c0,c1] w λe w'=>e = .returned (.tuple #[])/\w'.cell? ⟨q,0,none⟩=some ds/\X w') :
  Calls prog 253 #[.func (.func 254) #[] #[c0,c1],ea p 0,ea q 0] w
   λe w'=>e = .returned (.tuple #[])/\X w':=by have V:=Z5 Z;clear Z;go_enter func253,ntmps253;go_wp2_with fail;refine V.mono ?_;rintro e w' ⟨rfl,U,Y⟩;go_wp2_with fail;go_end0;exact ⟨rfl,Y⟩
theorem Ew (c0 c1 c2:Value) (p q:Nat) (a:OA) (n c:Nat) (X:ej->Prop) (h1:w.cell? ⟨p,0,none⟩=some (.slice a n c))
  (Z:Calls prog 255 #[.slice a n c,c0,c1,c2] w λe w'=>e = .returned (.tuple #[])/\w'.cell? ⟨q,0,none⟩=some ds/\X w') :
  Calls prog 253 #[.func (.func 255) #[] #[c0,c1,c2],ea p 0,ea q 0] w
   λe w'=>e = .returned (.tuple #[])/\X w':=by have V:=Z5 Z;clear Z;go_enter func253,ntmps253;go_wp2_with fail;refine V.mono ?_;rintro e w' ⟨rfl,U,Y⟩;go_wp2_with fail;go_end0;exact ⟨rfl,Y⟩
theorem Ep (c0 c1 c2 Y:Value) (p q:Nat) (a:OA) (n c:Nat) (X:ej->Prop) (h1:w.cell? ⟨p,0,none⟩=some (.slice a n c))
  (Z:Calls prog 256 #[.slice a n c,c0,c1,c2,Y] w λe w'=>e = .returned (.tuple #[])/\w'.cell? ⟨q,0,none⟩=some ds/\X w') :
  Calls prog 253 #[.func (.func 256) #[] #[c0,c1,c2,Y],ea p 0,ea q 0] w
   λe w'=>e = .returned (.tuple #[])/\X w':=by have U:=Z5 Z;clear Z;go_enter func253,ntmps253;go_wp2_with fail;refine U.mono ?_;rintro e w' ⟨rfl,S,V⟩;go_wp2_with fail;go_end0;exact ⟨rfl,V⟩
end
section
structure bQ (O:aL) (El:Int->Prop):Prop where
 cl:qV O El
 zero:El 0
 one:El 1
 add_comm:∀x y,El x->El y->O.add x y=O.add y x
 add_assoc:∀x y z,El x->El y->El z->O.add (O.add x y) z=O.add x (O.add y z)
 add_zero:∀x,El x->O.add x 0=x
 add_neg:∀x,El x->O.add x (O.neg x)=0
 mul_comm:∀x y,El x->El y->O.mul x y=O.mul y x
 mul_assoc:∀x y z,El x->El y->El z->O.mul (O.mul x y) z=O.mul x (O.mul y z)
 one_mul:∀x,El x->O.mul 1 x=x
 mul_add:∀x y z,El x->El y->El z->O.mul x (O.add y z)=O.add (O.mul x y) (O.mul x z)
 mul_inv:∀x,El x->x ≠ 0->O.mul x (O.inv x)=1
def pw (P:Int) (M:Nat) (mod:Lz) (y:Int):Nat->Int
 | 0=>1
 | k+1=>dp P M mod (pw P M mod y k) y
variable {P:Int} {M:Nat} {mod:Lz} {q:Nat} {y:Int}
theorem qx (h:lA P M) (y:Int):∀k,fo P M (pw P M mod y k)
 | 0=>xK h
 | k+1=>fN h _ _
theorem iY (h:lA P M) (y:Int) (a:Nat):∀b,dp P M mod (pw P M mod y a) (pw P M mod y b)=pw P M mod y (a+b)
 | 0=>by rw [pw,jh h,iB h (qx h y a)];rfl
 | b+1=>by rw [pw,<- tH h,iY h y a b];rfl
theorem uR (y:Int):∀(n:Nat) (l:Lz),(∀i,i<l.length->nth l i=pw P M mod y i)->l.Nodup->(∀e ∈ l,e ≠ 0) ->
  (∀i,i<(powTo (λz=>dp P M mod z y) n l (pw P M mod y l.length)).length->nth (powTo (λz=>dp P M mod z y) n l (pw P M mod y l.length)) i=pw P M mod y i) /\
  (powTo (λz=>dp P M mod z y) n l (pw P M mod y l.length)).Nodup/\∀e ∈ powTo (λz=>dp P M mod z y) n l (pw P M mod y l.length),e ≠ 0
 | 0,l,h1,h2,h3=>⟨h1,h2,h3⟩
 | n+1,l,h1,h2,h3=>by
  by_cases Z:pw P M mod y l.length=0\/pw P M mod y l.length ∈ l
  ·rw [jw _ _ _ _ Z];exact ⟨h1,h2,h3⟩
  ·rw [sY _ _ _ _ Z];have e:dp P M mod (pw P M mod y l.length) y=pw P M mod y (l ++ [pw P M mod y l.length]).length:=by simp [pw]
   rw [e];refine uR y n _ (λi hi=>?_) ?_ ?_
   ·simp only [Ni,ND] at hi;by_cases Y:i<l.length
    ·rw [nth,Na,NA Y,<- Na];exact h1 i Y
    ·obtain rfl:i=l.length:=by omega
     simp [nth]
   ·rw [Oj];refine ⟨h2,by simp,λa ha b hb=>?_⟩;rw [List.mem_singleton.1 hb];intro e;exact Z (.inr (e ▸ ha))
   ·intro e he;rcases List.mem_append.1 he with h | h
    ·exact h3 e h
    ·rw [List.mem_singleton.1 h];intro e;exact Z (.inl e)
theorem Gu (h:lA P M) (hy:fo P M y) (q:Nat) :
  (∀i,i<(eX P M mod q y).length->nth (eX P M mod q y) i=pw P M mod y i)/\(eX P M mod q y).Nodup/\∀e ∈ eX P M mod q y,e ≠ 0:=by
 have e:pw P M mod y [(1:Int)].length=y:=by show dp P M mod (pw P M mod y 0) y=y;rw [pw,iB h hy]
 have:=uR (P:=P) (M:=M) (mod:=mod) y q [1] (λi hi=>by
  have:i=0:=by simp at hi;omega
  subst this;rfl) (by simp) (by simp)
 rw [e] at this;exact this
structure uP (P:Int) (M:Nat) (mod:Lz) (q:Nat) (y:Int) (ex:Lz):Prop where
 res:lA P M
 q2:2<=q
 pq:(q:Int)=P ^ M
 yel:fo P M y
 len:ex.length=q - 1
 val:∀i,i<q - 1->nth ex i=pw P M mod y i
 nodup:ex.Nodup
 ne:∀e ∈ ex,e ≠ 0
 last:pw P M mod y (q - 1)=1
theorem uP.zd (h:lA P M) (X:(q:Int)=P ^ M) (hy:fo P M y) (Z:fX P M mod q y=true):uP P M mod q y (eX P M mod q y):=by
 have Y:2<=q:=by have:=one_lt_pow h;omega
 simp only [fX,Nx,beq_iff_eq] at Z;obtain ⟨h1,h2,h3⟩:=Gu (mod:=mod) h hy q;refine ⟨h,Y,X,hy,Z.1,λi hi=>h1 i (by omega),h2,h3,?_⟩;have:=Z.2;rw [h1 _ (by omega)] at this;rw [show q - 1=(q - 2)+1 by omega];exact this
namespace uP
variable {ex:Lz}
theorem mem (g:uP P M mod q y ex) {e:Int} (he:fo P M e) (h0:e ≠ 0):e ∈ ex:=by
 apply NB;intro U;have V:(e :: ex).Nodup:=List.nodup_cons.2 ⟨U,g.nodup⟩;have Y:∀x ∈ e :: ex,x ∈ (List.range (q - 1)).map (λi:Nat=>(i:Int)+1):=by
  intro x X;have Z:fo P M x/\x ≠ 0:=by
   rcases List.mem_cons.1 X with rfl | X
   ·exact ⟨he,h0⟩
   ·refine ⟨?_,g.ne x X⟩;obtain ⟨i,hi,rfl⟩:=List.mem_iff_getElem.1 X;rw [<- an hi,g.val i (by rw [<- g.len];exact hi)];exact qx g.res y i
  rw [OW];have h1:=Z.1.1;have h2:=Z.1.2;have h3:=Z.2;have h4:=g.pq;have h5:=g.q2;exact ⟨(x - 1).toNat,by rw [OG];omega,by omega⟩
 have hle:=List.Nodup.length_le_of_subset V Y;simp at hle;have h5:=g.q2;have S:=g.len;omega
theorem log (g:uP P M mod q y ex) {e:Int} (he:fo P M e) (h0:e ≠ 0):∃k,k<q - 1/\e=pw P M mod y k/\nth ex k=e:=by
 obtain ⟨i,hi,e1⟩:=List.mem_iff_getElem.1 (g.mem he h0);have Z:i<q - 1:=by rw [<- g.len];exact hi
 refine ⟨i,Z,?_,?_⟩
 ·rw [<- g.val i Z,an hi,e1]
 ·rw [an hi,e1]
theorem period (g:uP P M mod q y ex) (a:Nat):∀n,pw P M mod y (a+n * (q - 1))=pw P M mod y a
 | 0=>by simp
 | n+1=>by rw [show a+(n+1) * (q - 1)=(a+n * (q - 1))+(q - 1) by rw [PT];omega,<- iY g.res,g.last,jh g.res,iB g.res (qx g.res y _),period g a n]
theorem red (g:uP P M mod q y ex) (a:Nat):pw P M mod y (a % (q - 1))=pw P M mod y a:=by have h:=g.period (a % (q - 1)) (a / (q - 1));rw [<- h,Oz,Nat.mod_add_div]
theorem K6 (g:uP P M mod q y ex) (a:Nat):pw P M mod y a ≠ 0:=by have h5:=g.q2;rw [<- g.red a];have Z:a % (q - 1)<q - 1:=O8 _ (by omega);rw [<- g.val _ Z];exact g.ne _ (aG (by rw [g.len];exact Z))
theorem inj (g:uP P M mod q y ex) {i j:Nat} (hi:i<q - 1) (Y:j<q - 1) (h:nth ex i=nth ex j):i=j:=by
 rw [an (by rw [g.len];exact hi),an (by rw [g.len];exact Y)] at h;have Z:=List.pairwise_iff_getElem.1 g.nodup;rcases Nat.lt_trichotomy i j with h1 | h1 | h1
 ·exact absurd h (Z i j _ _ h1)
 ·exact h1
 ·exact absurd h.symm (Z j i _ _ h1)
theorem vD (g:uP P M mod q y ex) {k:Nat} (Z:k<q - 1):fo P M (nth ex k):=by rw [g.val k Z];exact qx g.res y k
theorem vs (g:uP P M mod q y ex):∀k,k<=q - 1->∀j,j<k->nth (logTo q ex k) (nth ex j).toNat=j
 | 0,_,j,X=>by omega
 | k+1,U,j,X=>by
  have Z:=g.vD (k:=k) (by omega);have Y:=g.vD (k:=j) (by omega);have h1:=Z.1;have h2:=Z.2;have h3:=Y.1;have h4:=g.pq;rw [logTo,eT _ _ _ _ (by rw [jc];omega)];by_cases e:j=k
  ·subst e;rw [M7 rfl]
  ·rw [M8]
   ·exact vs g k (by omega) j (by omega)
   ·intro V;exact e (g.inj (by omega) (by omega) (by omega))
theorem KQ (g:uP P M mod q y ex) {k:Nat} (Z:k<q - 1):nth (logTo q ex (q - 1)) (pw P M mod y k).toNat=k:=by rw [<- g.val k Z];exact g.vs (q - 1) (M4 _) k Z
theorem rL (g:uP P M mod q y ex) {x z:Int} (Y:fo P M x) (Z:fo P M z):sr q ex (logTo q ex (q - 1)) x z=dp P M mod x z:=by
 unfold sr;by_cases h0:x=0\/z=0
 ·rw [M7 h0];rcases h0 with rfl | rfl
  ·rw [jh g.res,pW g.res]
  ·rw [pW g.res]
 ·rw [M8 h0];obtain ⟨a,ha,rfl,_⟩:=g.log Y (λe=>h0 (.inl e));obtain ⟨b,hb,rfl,_⟩:=g.log Z (λe=>h0 (.inr e));have h5:=g.q2;rw [g.KQ ha,g.KQ hb,iY g.res];have e1:((a:Int)+b) % ((q:Int) - 1)=(((a+b) % (q - 1):Nat):Int):=by rw [OY,Int.natCast_add,QS (by omega)];rfl
  rw [e1,M9,g.val _ (O8 _ (by omega)),g.red]
theorem Ii (g:uP P M mod q y ex) {x:Int} (Z:fo P M x) (h0:x ≠ 0):dp P M mod x (zm q ex (logTo q ex (q - 1)) x)=1:=by
 obtain ⟨a,ha,rfl,_⟩:=g.log Z h0;have h5:=g.q2;unfold zm;rw [g.KQ ha];have e1:((q:Int) - 1 - a) % ((q:Int) - 1)=(((q - 1 - a) % (q - 1):Nat):Int):=by rw [OY,QS (by omega),QS (by omega)];rfl
 rw [e1,M9,g.val _ (O8 _ (by omega)),g.red,iY g.res,show a+(q - 1 - a)=q - 1 by omega,g.last]
theorem Kn (g:uP P M mod q y ex) (x:Int):fo P M (zm q ex (logTo q ex (q - 1)) x):=by have h5:=g.q2;unfold zm;refine g.vD ?_;have h1:=NV ((q:Int) - 1 - nth (logTo q ex (q - 1)) x.toNat) (show (q:Int) - 1 ≠ 0 by omega);have h2:=NS ((q:Int) - 1 - nth (logTo q ex (q - 1)) x.toNat) (show 0<(q:Int) - 1 by omega);omega
theorem MY (g:uP P M mod q y ex):bQ (bX.ops ⟨P,M,q,ex,logTo q ex (q - 1)⟩) (fo P M):=by
 have hmul:∀ {x z:Int},fo P M x->fo P M z->(bX.ops ⟨P,M,q,ex,logTo q ex (q - 1)⟩).mul x z=dp P M mod x z:=λZ Y=>g.rL Z Y;have h:=g.res;have hinv:∀x,fo P M ((bX.ops ⟨P,M,q,ex,logTo q ex (q - 1)⟩).inv x):=λx=>g.Kn x;refine ⟨⟨λx z _ _=>il h x z,λx z Z Y=>?_,λx _=>xH h x,λx _ _=>hinv x⟩,wC h,xK h,λx z _ _=>Fq h x z,λx z u _ _ _=>B9 h x z u,λx Z=>KI h Z,λx _=>EJ h x,?_,?_,?_,?_,?_⟩
 ·rw [hmul Z Y];exact fN h x z
 ·intro x z Z Y;rw [hmul Z Y,hmul Y Z,jh h]
 ·intro x z u Z Y hu;rw [hmul Z Y,hmul Y hu,hmul (fN h x z) hu,hmul Z (fN h z u),tH h]
 ·intro x Z;rw [hmul (xK h) Z,iB h Z]
 ·intro x z u Z Y hu;have X:(bX.ops ⟨P,M,q,ex,logTo q ex (q - 1)⟩).add=fsum P M:=rfl;rw [X,hmul Z (il h z u),hmul Z Y,hmul Z hu,Jr h]
 ·intro x Z h0;rw [hmul Z (hinv x)];exact g.Ii Z h0
end uP
theorem kJ {P M:Int} {mod:Lz} (h:bw P M mod=true):∃(m:Nat) (y:Int),M=m/\lA P m/\P ^ m<=256/\cF P m mod=true/\(aO P m).toNat=P ^ m/\uP P m mod (aO P m).toNat y (fW P m mod (aO P m).toNat):=by
 unfold bw at h;rw [Nx] at h;obtain ⟨Q,U⟩:=h;have Y:=Q;simp only [cF,Nx,bne_iff_ne,ne_eq] at Y;obtain ⟨N,E,D,H,K,F⟩:=gR Y.1.1;obtain ⟨m,rfl⟩:∃m:Nat,M=m:=⟨M.toNat,by omega⟩
 rw [M9] at *;have Z:lA P m:=⟨N,by omega⟩
 have S:((aO P m).toNat:Int)=P ^ m:=by have:=one_lt_pow Z;omega
 have hne:fW P m mod (aO P m).toNat ≠ []:=by intro e;rw [e] at U;simp at U
 obtain ⟨y,L,I,X,V⟩:=pC hne;refine ⟨m,y,rfl,Z,K,Q,S,?_⟩;rw [V];exact uP.zd Z S ⟨by omega,by omega⟩ X
theorem dY {P M:Int} {mod:Lz} (h:bw P M mod=true):bQ (ah P M.toNat mod).ops (ah P M.toNat mod).El:=by
 obtain ⟨m,y,rfl,Y,_,_,Z,g⟩:=kJ h;have e:(ah P ((m:Int).toNat) mod).El=fo P m:=by funext x;simp only [bX.El,ah,fo,M9];rw [Z]
 rw [e];exact g.MY
end
structure RF (P:Int) (m:Nat):Prop where
 p2:2<=P
 p256:P<=256
 m1:1<=m
 m8:m<=8
 pw:P ^ m<=256
theorem RF.res {P:Int} {m:Nat} (h:RF P m):lA P m:=⟨h.p2,h.m1⟩
theorem RF.order {P:Int} {m:Nat} (h:RF P m):aO P m=P ^ m:=by have:=h.p2;have:=h.p256;have:=h.m1;have:=h.m8;have e:=mO (p:=P) (m:=m) (by omega) (by simpa using h.pw);rwa [M9] at e
theorem RF.of {P M:Int} (h:aO P M ≠ 0):∃m:Nat,M=m/\RF P m:=by obtain ⟨h1,h2,h3,h4,h5,Z⟩:=gR h;exact ⟨M.toNat,by omega,⟨h1,h2,by omega,by omega,h5⟩⟩
theorem lf (P M:Int) (am:OA) (Q L:Nat) (w:ej) :
  Calls prog 24 #[.agg #[cG P,cG M,.slice am Q L]] w λe w'=>e = .returned (cG (aO P M))/\SJ w w':=by
 have Y:=Z5 (aD w (.cells #[cG P,cG M,.slice am Q L] 24));by_cases h1:P<2
 ·have U:=Z5 (jj (p:=P) (m:=M) (.inl h1));go_enter func24,ntmps24;go_wp2;go_ret;exact ⟨aK U.symm,Y⟩
 have B:decide (P<2)=false:=by simpa using h1
 by_cases h2:M<1
 ·have U:=Z5 (jj (p:=P) (m:=M) (.inr (.inr (.inl h2))));go_enter func24,ntmps24;go_wp2;go_ret;exact ⟨aK U.symm,Y⟩
 have D:decide (M<1)=false:=by simpa using h2
 by_cases h3:8<M
 ·have U:=Z5 (jj (p:=P) (m:=M) (.inr (.inr (.inr h3))));go_enter func24,ntmps24;go_wp2;go_ret;exact ⟨aK U.symm,Y⟩
 have h3':decide (8<M)=false:=by simpa using h3
 obtain ⟨n,rfl⟩:∃n:Nat,M=n:=⟨M.toNat,by omega⟩
 go_enter func24,ntmps24;go_wp2_with fail;obtain ⟨W,V⟩:∃W:ej,W=w.alloc (.cells #[cG P,cG n,.slice am Q L] 24):=⟨_,rfl⟩
 rw [<- V];have X:SJ w W:=by rw [V];exact aD _ _
 have c0:W.cell? ⟨w.heap.size,0,none⟩=some (cG P):=by rw [V];exact aF _ _ _ rfl 0
 have c1:W.cell? ⟨w.heap.size,1,none⟩=some (cG n):=by rw [V];exact aF _ _ _ rfl 1
 clear V;go_loop [3,4] (λj C=>∃k:Nat,k<=n/\C = cG k/\j = cG (P ^ k)/\P ^ k<=256/\1<=P ^ k) (λ_ i=>n - (intOf i).toNat);case atStart=>exact ⟨0,Nb _,rfl,by simp,by simp,by simp⟩
 case round =>
  obtain ⟨k,hk,rfl,rfl,hb,S⟩:=hrel
  have N:P ≠ 0:=by omega
  by_cases hlt:k<n
  ·have e1:P ^ (k+1)=P ^ k * P:=N1 _ _
   have A:(0:Int)<=256 / P:=Ox (by omega) (by omega)
   have hd1:256 / P<=256:=OC _ (by omega)
   by_cases h5:256 / P<P ^ k
   ·have Z:aO P n=0:=nO (by intro h;have z:=dJ (show 1<=P by omega) (show k+1<=n by omega);rw [M9] at h;have F:256<P ^ k * P:=P6 (by omega) h5;omega)
    have K:=Z5 Z
    clear e1 Z
    generalize P ^ k=q at *
    go_wp2
    go_ret
    exact ⟨aK K.symm,X⟩
   ·have F:P ^ k * P<=256:=by have r:=Int.mul_le_mul_of_nonneg_right (show P ^ k<=256 / P by omega) (show 0<=P by omega);have h9:=Int.ediv_mul_le 256 N;omega
    have e3:1 * 1<=P ^ k * P:=Ow S (by omega) (by omega) (by omega)
    have I:=Z5 e1
    clear e1
    generalize P ^ k=q at *
    go_wp2
    go_round
    case rel=>exact ⟨k+1,by omega,by go_num,by rw [I.out],by rw [I.out];exact F,by rw [I.out];omega⟩
    case measure=>simp [intOf]<;>omega
  ·obtain rfl:k=n:=by omega
   by_cases E:256<P
   ·have H:1<=k:=by omega
    have z:=dJ (show 1<=P by omega) H
    have r:P ^ 1=P:=by rw [N1,O4,PS]
    omega
   ·have K:=Z5 (mO (p:=P) (m:=k) (by omega) (by simpa using hb))
    go_wp2
    go_ret
    exact ⟨aK (by rw [K.out];simp),X⟩
theorem sI (n:Nat) (w:ej) (h2:2<=n) (S:n<=256) :
  Calls prog 95 #[cG n] w λe w'=>e = .returned (.bool (gq n))/\w=w':=by
 go_enter func95,ntmps95;go_wp2;go_loop [3] (λQ=>∃d:Nat,2<=d/\d<=n/\Q = cG d/\Hid (∀e,2<=e->e<d->n % e ≠ 0)) (λd=>n+1 - (intOf d).toNat);case atStart=>exact ⟨2,M4 _,h2,rfl,λe he Z=>by omega⟩
 case round =>
  obtain ⟨d,X,I,rfl,Y⟩:=hrel
  have N:(d:Int) ≠ 0:=by omega
  by_cases K:d<n
  ·by_cases hm:n % d=0
   ·have V:((n:Int) % d == 0)=true:=by simp;exact_mod_cast hm
    have U:=Z5 (uV X K hm)
    clear hm
    go_wp2
    go_ret
    exact ⟨ba U.symm,rfl⟩
   ·have V:((n:Int) % d == 0)=false:=by simp;exact_mod_cast hm
    have L:=Z5 hm
    clear hm
    go_wp2
    go_round
    case rel =>
     refine ⟨d+1,by omega,by omega,by go_num,λe he Z=>?_⟩
     rcases NU e d with h | h
     ·exact Y e he h
     ·rw [show e=d from by omega];exact L
    case measure=>simp [intOf]<;>omega
  ·have U:=Z5 (ub (n:=n) λe he Z=>Y e he (by omega))
   go_wp2
   go_ret
   exact ⟨ba (by rw [U.out]),rfl⟩
theorem qO (x p:Int) (m:Nat) (w:ej) (F:0<=x) (S:x<=9223372036854775807) (K:1<=p) (hm:m<=256) :
  Calls prog 151 #[cG x,cG p,cG m] w (cR w (digs x p m)):=by
 go_enter func151,ntmps151;go_wp2_with (at_make;refine bR rfl _ _ 22 3 rfl (cG 0) 8 underlying22 br rfl m rfl rfl (by omega) (by unfold maxLen;omega) ?_;intro a D Z Y I V);go_loopw [0,8] (λL H wr=>∃k:Nat,k<=m/\H = cG k/\L = cG (jG x p k) /\
   wr.ownsRow w.heap.size 3 1 (.slice a m m) m ((dz (digs x p k) k m).map (Value.int .i64))/\SJ w wr)
  (λ_ i _=>m - (intOf i).toNat)
 case atStart=>exact ⟨0,Nb _,rfl,rfl,by simpa [dz,digs] using Z,Y⟩
 case round =>
  obtain ⟨k,A,rfl,rfl,Z,Y⟩:=hrel
  obtain ⟨hints,X⟩:=RW Z
  have C:=xL x p F K k
  have Q:=hints.pl
  by_cases V:k<m
  ·have B:=hints.cell k V
   have E:=(X (by omega)).2 k V
   have N:=(X (by omega)).1
   go_wp2
   go_roundw
   case rel =>
    refine ⟨k+1,by omega,by go_num,rfl,?_,Y.setCell N _⟩
    have h:=bA Z k V (cG (jG x p k % p))
    rw [<- Ny,fJ _ _ _ _ (bM p k x) V,<- pV] at h
    exact h
   case measure=>simp [intOf]<;>omega
  ·obtain rfl:k=m:=by omega
   have U:=Z5 (bM p k x)
   rw [gr] at Z
   go_wp2
   go_ret
   exact ⟨a,k,by rw [U.out];rfl,by rw [U.out];exact Z,Y⟩
theorem DR (P M:Int) (am:OA) (V S:Nat) (x:Int) (w:ej) :
  Calls prog 141 #[.agg #[cG P,cG M,.slice am V S],cG x] w λe w'=>e = .returned (.bool (jx (aO P M) x))/\SJ w w':=by
 have Y:=Z5 (aD w (.cells #[cG P,cG M,.slice am V S] 24));by_cases h0:0<=x
 ·have Z:decide (0<=x)=true:=by simpa using h0
  have X:Hid (jx (aO P M) x=decide (x<aO P M)):=by show _=_;rw [jx,Z];simp
  clear h0;go_enter func141,ntmps141;go_wp2_with (go_at_call 24;refine (lf P M am V S _).mono ?_;rintro e Q ⟨rfl,U⟩);go_ret;exact ⟨ba (by rw [X.out]),RU Y.out U⟩
 ·have Z:decide (0<=x)=false:=by simpa using h0
  have X:Hid (jx (aO P M) x=false):=by show _=_;rw [jx,Z];simp
  clear h0;go_enter func141,ntmps141;go_wp2_with fail;go_ret;exact ⟨ba (by rw [X.out]),Y⟩
theorem Kw (P M:Int) (am:OA) (Z X:Nat) (x:Int) (w:ej) (U:jx (aO P M) x=true) :
  Calls prog 123 #[.agg #[cG P,cG M,.slice am Z X],cG x] w λe w'=>e = .returned (cG x)/\SJ w w':=by have V:=Z5 (aD w (.cells #[cG P,cG M,.slice am Z X] 24));have Hx:=Z5 U;clear U;go_enter func123,ntmps123;go_wp2_with fail;refine (DR P M am Z X x _).mono ?_;rintro e S ⟨rfl,Y⟩;rw [Hx.out];go_wp2_with fail;go_ret;exact ⟨rfl,RU V.out Y⟩
theorem iQ (P:Int) (m:Nat) (am:OA) (Y X:Nat) (x:Int) (w:ej) (N:RF P m) (K:jx (aO P m) x=true) :
  Calls prog 161 #[.agg #[cG P,cG m,.slice am Y X],cG x] w (cR w (digs x P m)):=by
 have H:0<=x/\x<256:=by have h1:=N.order;have h2:=N.pw;unfold jx at K;simp only [Nx,NM] at K;omega
 have I:1<=P:=by have:=N.p2;omega
 have hm:=N.m8;have Hx:=Z5 K;clear K;go_enter func161,ntmps161;go_wp2_with fail;obtain ⟨W,L⟩:∃W:ej,W=w.alloc (.cells #[cG P,cG m,.slice am Y X] 24):=⟨_,rfl⟩
 rw [<- L];have S:SJ w W:=by rw [L];exact aD _ _
 have C:aQ W w.heap.size [cG P,cG m,.slice am Y X]:=by rw [L];exact RV _ _ _ rfl
 have A:=Z5 C;clear L C;have hS:∀V,SJ W V->V.cell? ⟨w.heap.size,0,none⟩=some (cG P)/\V.cell? ⟨w.heap.size,1,none⟩=some (cG m)/\V.cell? ⟨w.heap.size,2,none⟩=some (.slice am Y X)/\SJ W V:=by intro V B;have D:=A.ai B;exact ⟨D.cell 0 rfl,D.cell 1 rfl,D.cell 2 rfl,B⟩
 have r:=Z5 hS;have Q:=Z5 S;clear hS S;go_region_held3 (λV=>V.cell? ⟨w.heap.size,0,none⟩=some (cG P)/\V.cell? ⟨w.heap.size,1,none⟩=some (cG m)/\V.cell? ⟨w.heap.size,2,none⟩=some (.slice am Y X)/\SJ W V)
  ((refine r _ ?_;first|exact (M5 _ _).drew|(go_split_ands;exact RU (by assumption) (by assumption))))
  (first
   | (go_at_call 123;((with_reducible refine (Kw P m am Y X x _ Hx.out).mono ?_);rintro e z ⟨rfl,F⟩))
   | (go_at_call 151;((with_reducible refine (qO x P m _ H.1 (by omega) I (by omega)).mono ?_);rintro e w5 ⟨a5,j,rfl,Z,hb5⟩)))
 all_goals (
  have E:w.heap.size<=z.heap.size:=by have h1:=Q.size;have h2:=F.size;have h3:W.drew.heap.size=W.heap.size:=rfl;omega
  have U:=Z5 (bq Z E)
  clear Z
  go_wp2_with fail
  go_ret
  exact ⟨a5,j,rfl,U,RU Q.out (by go_split_ands;assumption)⟩)
theorem nL (P:Int) (M:Int) (am:OA) (I H:Nat) (a:OA) (n c:Nat) (l:Lz) (w:ej) (h:Ints w a n l) (r:n<=1000) (z:0<=P) (hP:P<=256)
  (hb:∀k,0<=valu P (l.drop k) * P/\valu P (l.drop k) * P<=1000000000/\0<=nth l k/\nth l k<=1000000000) :
  Calls prog 162 #[.agg #[cG P,cG M,.slice am I H],.slice a n c] w λe w'=>e = .returned (cG (valu P l))/\SJ w w':=by
 have N:=Z5 hb;have Z:=Z5 h.len;clear hb;go_enter func162,ntmps162;go_wp2_with fail;obtain ⟨W,U⟩:∃W:ej,W=w.alloc (.cells #[cG P,cG M,.slice am I H] 24):=⟨_,rfl⟩
 rw [<- U];have Q:SJ w W:=by rw [U];exact aD _ _
 have E:W.cell? ⟨w.heap.size,0,none⟩=some (cG P):=by rw [U];exact aF _ _ _ rfl 0
 clear U;have U:=h.ai Q;have F:=U.pl;go_loopw [5,6] (λD C wr=>∃k:Nat,k<=n/\C = cG ((k:Int) - 1)/\D = cG (valu P (l.drop k))/\bm W wr) (λ_ i _=>(intOf i+1).toNat);case atStart=>exact ⟨n,M4 _,rfl,by rw [Ob (by rw [Z.out];exact M4 _)];rfl,Sa _⟩
 case round =>
  obtain ⟨k,hk,rfl,rfl,hd⟩:=hrel
  by_cases K:0<k
  ·obtain ⟨j,rfl⟩:∃j,k=j+1:=⟨k - 1,by omega⟩
   have hc:=(U.drawn hd).cell j (by omega)
   have c0:=hd.cell E
   have L:j<l.length:=by rw [Z.out];omega
   obtain ⟨b1,b2,b3,b4⟩:0<=valu P (l.drop (j+1)) * P/\valu P (l.drop (j+1)) * P<=1000000000/\0<=nth l j/\nth l j<=1000000000:=⟨(N (j+1)).1,(N (j+1)).2.1,(N j).2.2⟩
   have e1:((j+1:Nat):Int) - 1=(j:Int):=by omega
   rw [e1]
   clear e1 K
   have V:valu P (l.drop (j+1)) * P+nth l j=valu P (l.drop j):=by rw [AB l j L];simp only [valu];rw [OE P,Int.add_comm]
   generalize valu P (l.drop (j+1))=X at *
   generalize nth l j=Y at *
   have S:=Z5 V
   clear V
   have e1:(0:Int)<=j:=by omega
   have e2:(j:Int)<n:=by omega
   have B:IntKind.i64.wrap (X * P)=X * P:=Nn _ (by omega)
   have A:IntKind.i64.wrap (X * P+Y)=X * P+Y:=Nn _ (by omega)
   go_wp2_with fail
   go_quiet (fail)
   clear B A
   go_wp2
   go_roundw
   case rel=>exact ⟨j,by omega,by go_num,by rw [<- S.out],hd.drewN _⟩
   case measure=>simp [intOf]<;>omega
  ·obtain rfl:k=0:=by omega
   go_wp2_with fail
   go_ret
   exact ⟨by simp,RU Q hd.below⟩
def wF (P:Int) (a b:Lz):Lz:=List.zipWith (λu v=>(u+v) % P) a b
theorem eN {P:Int}:∀(m:Nat) (x y:Int),valu P (wF P (digs x P m) (digs y P m))=fsum P m x y
 | 0,_,_=>rfl
 | m+1,x,y=>by simp only [digs,wF,OX,valu,fsum];have:=eN (P:=P) m (x / P) (y / P);unfold wF at this;rw [this,Int.add_emod x y]
def uO (P:Int) (a:Lz):Lz:=a.map λu=>(P - u) % P
theorem vV {P:Int}:∀(m:Nat) (x:Int),valu P (uO P (digs x P m))=fneg P m x
 | 0,_=>rfl
 | m+1,x=>by simp only [digs,uO,Oq,valu,fneg];have:=vV (P:=P) m (x / P);unfold uO at this;rw [this]
theorem dL.zip {P:Int} (Z:0<P) (f:Int->Int->Int) (a b:Lz):dL P (List.zipWith (λu v=>(f u v) % P) a b):=by refine Su Z λx Y=>?_;rw [Qd] at Y;obtain ⟨i,hi,rfl⟩:=Y;rw [PC];exact ⟨NV _ (by omega),NS _ Z⟩
theorem dL.MH {P:Int} (Z:0<P) (a:Lz):dL P (uO P a):=by refine Su Z λx Y=>?_;unfold uO at Y;obtain ⟨y,_,rfl⟩:=List.mem_map.1 Y;exact ⟨NV _ (by omega),NS _ Z⟩
theorem dL.MR {P:Int} {m:Nat} (Y:RF P m) {l:Lz} (h:dL P l) (V:l.length=m):∀k,0<=valu P (l.drop k) * P/\valu P (l.drop k) * P<=1000000000/\0<=nth l k/\nth l k<=1000000000:=by
 intro k;have X:0<P:=by have:=Y.p2;omega
 have Z:=Y.p256;have h1:=h.DU X V Y.pw k;have h2:=h k;have h3:=lW h1.1 (show valu P (l.drop k)<=256 by omega) (show 0<=P by omega) Z;exact ⟨h3.1,by omega,h2.1,by omega⟩
theorem tP {P:Int} {m:Nat} (Z:RF P m) (x:Int) (i:Nat):0<=nth (digs x P m) i/\nth (digs x P m) i<P:=Sz (by have:=Z.p2;omega) m x i
theorem GK (P:Int) (m:Nat) (am:OA) (mn cm:Nat) (x y:Int) (w:ej) (j:RF P m) (hx:jx (aO P m) x=true) (hy:jx (aO P m) y=true) :
  Calls prog 113 #[.agg #[cG P,cG m,.slice am mn cm],cG x,cG y] w λe w'=>e = .returned (cG (fsum P m x y))/\SJ w w':=by
 have hp2:=j.p2;have hp256:=j.p256;have hm8:=j.m8;have Hx:=Z5 hx;have Hy:=Z5 hy;have K:=Z5 (bM P m x);have Hdy:=Z5 (bM P m y);have Hbx:=Z5 (tP j x);have Hby:=Z5 (tP j y);have A:(wF P (digs x P m) (digs y P m)).length=m:=by simp [wF,bM]
 have hNn:∀i,i<m->nth (wF P (digs x P m) (digs y P m)) i=(nth (digs x P m) i+nth (digs y P m) i) % P:=λi hi=>by rw [an (by rw [A];exact hi),an (by rw [bM];exact hi),an (by rw [bM];exact hi)];simp [wF]
 have hNg:dL P (wF P (digs x P m) (digs y P m)):=dL.zip (by omega) (λu v=>u+v) (digs x P m) (digs y P m);have hNd:=dL.MR j hNg A;have L:=Z5 A;have C:=Z5 hNn;have F:=Z5 hNd;have H:=Z5 (eN (P:=P) m x y);clear hx hy A hNn hNd hNg;go_enter func113,ntmps113;go_wp2_with fail;obtain ⟨W,hW⟩:∃W:ej,W=w.alloc (.cells #[cG P,cG m,.slice am mn cm] 24):=⟨_,rfl⟩
 rw [<- hW];have hbW:SJ w W:=by rw [hW];exact aD _ _
 have x0:aQ W w.heap.size [cG P,cG m,.slice am mn cm]:=by rw [hW];exact RV _ _ _ rfl
 have HX:=Z5 x0;have hsW:w.heap.size<W.heap.size:=x0.1;clear hW x0;refine (iQ P m am mn cm x W j Hx.out).mono ?_;rintro e w1 ⟨a1,c1,rfl,Z,hb1⟩;have Q:=HX.ai hb1;have d0:=Q.cell 0 rfl;have d1:=Q.cell 1 rfl;have d2:=Q.cell 2 rfl;rw [K.out] at Z ⊢;clear Q;go_wp2_with fail;refine (iQ P m am mn cm y w1 j Hy.out).mono ?_;rintro e w2 ⟨a2,c2,rfl,Y,hb2⟩;rw [Hdy.out] at Y ⊢;have hs1:=hb1.size;have V:=bj Z hb2;have hap:a1 ≠ none->ablk a1<w1.heap.size:=λh0=>(aP Z h0).2;have hi2:=(RW Y).1;have hlo2:0<m->w1.heap.size<=ablk a2:=λh0=>(ew Y h0).1;have hap1:a1 ≠ none->W.heap.size<=ablk a1:=λh0=>(aP Z h0).1;have hb12:=RU hb1 hb2;have hpl2:=hi2.pl;obtain ⟨D,hD⟩:∃D,digs x P m=D:=⟨_,rfl⟩
 obtain ⟨E,hE⟩:∃E,digs y P m=E:=⟨_,rfl⟩
 rw [hD] at V K Hbx L C F H;rw [hE] at hi2 Hdy Hby L C F H;obtain ⟨z,hNN⟩:∃z,wF P D E=z:=⟨_,rfl⟩
 rw [hNN] at L C F H;clear hD hE hNN Z Y;go_wp2_with fail;go_loopw [9] (λiv wr=>∃k:Nat,k<=m/\iv = cG k/\wr.ownsRow W.heap.size 3 1 (.slice a1 m c1) m ((eJ z D k).map (Value.int .i64))/\ch a1 w2 wr) (λiv _=>m - (intOf iv).toNat);case atStart=>exact ⟨0,Nb _,rfl,by rw [dX];exact V,Sg _ _⟩
 case round =>
  obtain ⟨k,hk,rfl,U,X⟩:=hrel
  have hbr:SJ W wr:=hb12.trans (X.below hap1 (by have:=hb2.size;omega))
  by_cases S:k<m
  ·obtain ⟨B,hm1⟩:=RW U
   have hi2r:=X.ints hi2 (by
    by_cases h0:a1=none
    ·exact .inl h0
    ·exact .inr (.inr (by have h1:=hap h0;have h2:=hlo2 (by omega);omega)))
   have ca:=B.cell k S
   have cb:=hi2r.cell k S
   have fa:=(hm1 (by omega)).2 k S
   have hpl1:=B.pl
   have hkN:z.length=D.length:=by rw [L.out,K.out]
   have hkD:k<D.length:=by rw [K.out];exact S
   have N:=dS z D k k hkN (by omega)
   rw [M8 (by omega)] at N
   rw [N] at ca
   have r:=dU z D k hkN hkD
   have Hset:=Z5 r
   have Q:=HX.ai hbr
   have d0:=Q.cell 0 rfl
   have b1:=Hbx k
   have b2:=Hby k
   have hP0:P ≠ 0:=by omega
   have r5:IntKind.i64.wrap (nth D k+nth E k)=nth D k+nth E k:=Nn _ (by omega)
   have r6:(nth D k+nth E k).tmod P=(nth D k+nth E k) % P:=Od _ _ (by omega)
   have R7:=Z5 (C k S)
   clear N r hkN hkD Q
   go_wp2_with fail
   go_still_tail 15,(by kernel_rfl)
   change wpList _ _ _ _ _ wr.drew
   generalize I:wr.drew=wd
   have fd:wd.frozen? ⟨ablk a1,aN a1+k,none⟩=false:=by rw [<- I];exact fa
   have cd:wd.cell? ⟨ablk a1,aN a1+k,none⟩=some (cG (nth D k)):=by rw [<- I];exact ca
   have Hwd:=Z5 I
   clear I r5 r6
   go_wp2_with fail
   go_roundw
   case rel =>
    obtain rfl:=Hwd.out
    have hdr:bm wr wr.drew:=(Sa wr).drew
    refine ⟨k+1,by omega,by go_num,?_,X.trans ((Sc hdr).trans (Sl _ k _ (by intro e;have:=hpl1 (by omega);rw [e] at this;cases this)))⟩
    have h1:=bA (w:=wr.drew) U k S (cG ((nth D k+nth E k) % P))
    rw [<- Ny,<- R7.out,Hset.out] at h1
    rw [<- R7.out]
    exact h1
   case measure=>simp [intOf]<;>omega
  ·obtain rfl:k=m:=by omega
   rw [eD z D k L.out K.out] at U
   have B:=(RW U).1
   have Q:=HX.ai hbr
   have d0:=Q.cell 0 rfl
   have d1:=Q.cell 1 rfl
   have d2:=Q.cell 2 rfl
   clear Q
   go_wp2_with fail
   refine (nL P k am mn cm a1 k c1 z wr B (by omega) (by omega) (by omega) F.out).mono ?_
   rintro e w4 ⟨rfl,hb4⟩
   go_wp2_with fail
   go_ret
   exact ⟨aK H.out,RU (RU hbW hbr) hb4⟩
theorem zl (P:Int) (m:Nat) (am:OA) (mn cm:Nat) (x:Int) (w:ej) (j:RF P m) (hx:jx (aO P m) x=true) :
  Calls prog 107 #[.agg #[cG P,cG m,.slice am mn cm],cG x] w λe w'=>e = .returned (cG (fneg P m x))/\SJ w w':=by
 have hp2:=j.p2;have hp256:=j.p256;have hm8:=j.m8;have Hx:=Z5 hx;have Q:=Z5 (bM P m x);have Hbx:=Z5 (tP j x);have H:(uO P (digs x P m)).length=m:=by simp [uO,bM]
 have hNn:∀i,i<m->nth (uO P (digs x P m)) i=(P - nth (digs x P m) i) % P:=λi hi=>by rw [an (by rw [H];exact hi),an (by rw [bM];exact hi)];simp [uO]
 have hNd:=dL.MR j (dL.MH (by omega) (digs x P m)) H;have K:=Z5 H;have r:=Z5 hNn;have z:=Z5 hNd;have B:=Z5 (vV (P:=P) m x);clear hx H hNn hNd;go_enter func107,ntmps107;go_wp2_with fail;obtain ⟨W,hW⟩:∃W:ej,W=w.alloc (.cells #[cG P,cG m,.slice am mn cm] 24):=⟨_,rfl⟩
 rw [<- hW];have hbW:SJ w W:=by rw [hW];exact aD _ _
 have x0:aQ W w.heap.size [cG P,cG m,.slice am mn cm]:=by rw [hW];exact RV _ _ _ rfl
 have HX:=Z5 x0;have hsW:w.heap.size<W.heap.size:=x0.1;clear hW x0;refine (iQ P m am mn cm x W j Hx.out).mono ?_;rintro e w2 ⟨a1,c1,rfl,Y,hb1⟩;rw [Q.out] at Y ⊢;have hs1:=hb1.size;have hap1:a1 ≠ none->W.heap.size<=ablk a1:=λh0=>(aP Y h0).1;obtain ⟨D,hD⟩:∃D,digs x P m=D:=⟨_,rfl⟩
 rw [hD] at Y Q Hbx K r z B;obtain ⟨N,hNN⟩:∃N,uO P D=N:=⟨_,rfl⟩
 rw [hNN] at K r z B;clear hD hNN;go_wp2_with fail;go_loopw [6] (λiv wr=>∃k:Nat,k<=m/\iv = cG k/\wr.ownsRow W.heap.size 3 1 (.slice a1 m c1) m ((eJ N D k).map (Value.int .i64))/\ch a1 w2 wr) (λiv _=>m - (intOf iv).toNat);case atStart=>exact ⟨0,Nb _,rfl,by rw [dX];exact Y,Sg _ _⟩
 case round =>
  obtain ⟨k,hk,rfl,X,V⟩:=hrel
  have A:SJ W wr:=hb1.trans (V.below hap1 (by omega))
  by_cases S:k<m
  ·obtain ⟨I,hm1⟩:=RW X
   have ca:=I.cell k S
   have fa:=(hm1 (by omega)).2 k S
   have hpl1:=I.pl
   have E:N.length=D.length:=by rw [K.out,Q.out]
   have hkD:k<D.length:=by rw [Q.out];exact S
   have U:=dS N D k k E (by omega)
   rw [M8 (by omega)] at U
   rw [U] at ca
   have F:=dU N D k E hkD
   have Hset:=Z5 F
   have C:=HX.ai A
   have d0:=C.cell 0 rfl
   have b1:=Hbx k
   have hP0:P ≠ 0:=by omega
   have r5:IntKind.i64.wrap (P - nth D k)=P - nth D k:=Nn _ (by omega)
   obtain ⟨Z,hZ⟩:∃Z,(P - nth D k) % P=Z:=⟨_,rfl⟩
   have r6:(P - nth D k).tmod P=Z:=by rw [<- hZ];exact Od _ _ (by omega)
   have R7:Hid (nth N k=Z):=by show _=_;rw [<- hZ];exact r k S
   clear hZ
   clear U F E hkD C
   go_wp2_with fail
   go_still_tail 13,(by kernel_rfl)
   change wpList _ _ _ _ _ wr.drew
   generalize L:wr.drew=wd
   have fd:wd.frozen? ⟨ablk a1,aN a1+k,none⟩=false:=by rw [<- L];exact fa
   have cd:wd.cell? ⟨ablk a1,aN a1+k,none⟩=some (cG (nth D k)):=by rw [<- L];exact ca
   have Hwd:=Z5 L
   clear L r5 r6
   go_wp2_with fail
   go_roundw
   case rel =>
    obtain rfl:=Hwd.out
    have hdr:bm wr wr.drew:=(Sa wr).drew
    refine ⟨k+1,by omega,by go_num,?_,V.trans ((Sc hdr).trans (Sl _ k _ (by intro e;have:=hpl1 (by omega);rw [e] at this;cases this)))⟩
    have h1:=bA (w:=wr.drew) X k S (cG Z)
    rw [<- Ny,<- R7.out,Hset.out] at h1
    rw [<- R7.out]
    exact h1
   case measure=>simp [intOf]<;>omega
  ·obtain rfl:k=m:=by omega
   rw [eD N D k K.out Q.out] at X
   have I:=(RW X).1
   have C:=HX.ai A
   have d0:=C.cell 0 rfl
   have d1:=C.cell 1 rfl
   have d2:=C.cell 2 rfl
   clear C
   go_wp2_with fail
   refine (nL P k am mn cm a1 k c1 N wr I (by omega) (by omega) (by omega) z.out).mono ?_
   rintro e w4 ⟨rfl,hb4⟩
   go_wp2_with fail
   go_ret
   exact ⟨aK B.out,RU (RU hbW A) hb4⟩
def cvJ (P:Int) (a b:Lz) (i:Nat) (c:Lz):Nat->Lz
 | 0=>c
 | j+1=>(cvJ P a b i c j).set (i+j) ((nth (cvJ P a b i c j) (i+j)+nth a i * nth b j) % P)
def wo (P:Int) (a b:Lz) (M n:Nat):Nat->Lz
 | 0=>List.replicate n 0
 | i+1=>cvJ P a b i (wo P a b M n i) M
def vf (P:Int) (M:Nat) (mod:Lz) (i:Nat) (c:Lz):Nat->Lz
 | 0=>c
 | j+1=>(vf P M mod i c j).set (i - M+j) ((nth (vf P M mod i c j) (i - M+j)+(P - nth (vf P M mod i c j) i) * nth mod j) % P)
def vT (P:Int) (M:Nat) (mod:Lz) (c:Lz):Nat->Lz
 | 0=>c
 | k+1=>vf P M mod (2 * M - 2 - k) (vT P M mod c k) M
def mulL (P:Int) (M:Nat) (mod:Lz) (a b:Lz):Lz:=(vT P M mod (wo P a b M (2 * M - 1) M) (M - 1)).take M
def mulR (P:Int) (M:Nat) (mod:Lz) (x y:Int):Int:=valu P (mulL P M mod (digs x P M) (digs y P M))
theorem dL.set {P:Int} {l:Lz} (h:dL P l) (i:Nat) {x:Int} (h0:0<=x) (h1:x<P):dL P (l.set i x):=by
 intro j;by_cases hi:i<l.length
 ·rw [eT _ _ _ _ hi];split
  ·exact ⟨h0,h1⟩
  ·exact h j
 ·rw [OL (by omega)];exact h j
theorem dL.CE {P:Int} (Z:0<P) {l:Lz} (h:dL P l) (i:Nat) (x:Int):dL P (l.set i (x % P)):=h.set i (NV _ (by omega)) (NS _ Z)
theorem yp (P:Int) (a b:Lz) (i:Nat) (c:Lz):∀j,(cvJ P a b i c j).length=c.length
 | 0=>rfl
 | j+1=>by rw [cvJ,N8,yp P a b i c j]
theorem wH {P:Int} (Z:0<P) (a b:Lz) (i:Nat) {c:Lz} (h:dL P c):∀j,dL P (cvJ P a b i c j)
 | 0=>h
 | j+1=>dL.CE Z (wH Z a b i h j) _ _
theorem jR (P:Int) (a b:Lz) (M n:Nat):∀i,(wo P a b M n i).length=n
 | 0=>by simp [wo]
 | i+1=>by rw [wo,yp,jR P a b M n i]
theorem rG {P:Int} (Z:0<P) (a b:Lz) (M n:Nat):∀i,dL P (wo P a b M n i)
 | 0=>dL.replicate Z n
 | i+1=>wH Z a b i (rG Z a b M n i) M
theorem rj (P:Int) (M:Nat) (mod:Lz) (i:Nat) (c:Lz):∀j,(vf P M mod i c j).length=c.length
 | 0=>rfl
 | j+1=>by rw [vf,N8,rj P M mod i c j]
theorem xA {P:Int} (Z:0<P) (M:Nat) (mod:Lz) (i:Nat) {c:Lz} (h:dL P c):∀j,dL P (vf P M mod i c j)
 | 0=>h
 | j+1=>dL.CE Z (xA Z M mod i h j) _ _
theorem kL (P:Int) (M:Nat) (mod:Lz) (c:Lz):∀k,(vT P M mod c k).length=c.length
 | 0=>rfl
 | k+1=>by rw [vT,rj,kL P M mod c k]
theorem ru {P:Int} (Z:0<P) (M:Nat) (mod:Lz) {c:Lz} (h:dL P c):∀k,dL P (vT P M mod c k)
 | 0=>h
 | k+1=>xA Z M mod _ (ru Z M mod h k) M
theorem dL.take {P:Int} (Z:0<P) {l:Lz} (h:dL P l) (k:Nat):dL P (l.take k):=by
 intro i;have e:nth (l.take k) i=if i<k then nth l i else 0:=by simp only [nth,Na,Ol];split<;>rfl
 rw [e];split
 ·exact h i
 ·omega
theorem As (P:Int) {M:Nat} (mod:Lz) (a b:Lz) (Z:1<=M):(mulL P M mod a b).length=M:=by unfold mulL;rw [NH,kL,jR];omega
theorem AI {P:Int} (Z:0<P) (M:Nat) (mod:Lz) (a b:Lz):dL P (mulL P M mod a b):=dL.take Z (ru Z M mod (rG Z a b M _ M) _) M
structure A1 (w:ej) (P:Int) (m:Nat) (am:OA) (mn:Nat) (mod:Lz):Prop where
 ints:Ints w am mn mod
 low:1<m->mn=m
 dig:dL P mod
theorem A1.ai {w w':ej} {P:Int} {m:Nat} {am:OA} {Z:Nat} {mod:Lz} (h:A1 w P m am Z mod) (hb:SJ w w'):A1 w' P m am Z mod:=⟨h.ints.ai hb,h.low,h.dig⟩
theorem ou {l:Lz} {k i:Nat} (h:i<k):nth (l.take k) i=nth l i:=by simp only [nth,Na,Ol,M7 h]
theorem Ints.take {w:ej} {a:OA} {n:Nat} {l:Lz} (h:Ints w a n l) {k:Nat} (Z:k<=n):Ints w a k (l.take k) :=
 ⟨by rw [NH,h.len];omega,λh0=>h.pl (by omega),Np Z h.max,λi hi=>by rw [ou hi];exact h.cell i (by omega)⟩
theorem r8 (P:Int) (m:Nat) (am:OA) (mn cm:Nat) (mod:Lz) (x y:Int) (w:ej) (hf:RF P m) (F:A1 w P m am mn mod) (hx:jx (aO P m) x=true) (hy:jx (aO P m) y=true) :
  Calls prog 114 #[.agg #[cG P,cG m,.slice am mn cm],cG x,cG y] w λe w'=>e = .returned (cG (mulR P m mod x y))/\SJ w w':=by
 have hp2:=hf.p2;have hp256:=hf.p256;have hm1:=hf.m1;have hm8:=hf.m8;have Hx:=Z5 hx;have Hy:=Z5 hy;have Hdx:=Z5 (bM P m x);have Hdy:=Z5 (bM P m y);have Hbx:=Z5 (tP hf x);have Hby:=Z5 (tP hf y);have Hbm:=Z5 F.dig;have hplm:=F.ints.pl;have Hlow:=Z5 F.low;obtain ⟨n,hn⟩:∃n:Nat,2 * m - 1=n:=⟨_,rfl⟩
 have hn1:m<=n:=by omega
 have hn2:n<=15:=by omega
 have Hn:=Z5 hn;have hnv:2 * (m:Int) - 1=n:=by omega
 have hnv2:2 * (m:Int) - 2=(n:Int) - 1:=by omega
 have Hnv2:=Z5 hnv2;clear hx hy hn hnv2;go_enter func114,ntmps114;go_wp2_with fail;obtain ⟨W,hW⟩:∃W:ej,W=w.alloc (.cells #[cG P,cG m,.slice am mn cm] 24):=⟨_,rfl⟩
 rw [<- hW];have hbW:SJ w W:=by rw [hW];exact aD _ _
 have x0:aQ W w.heap.size [cG P,cG m,.slice am mn cm]:=by rw [hW];exact RV _ _ _ rfl
 have HX:=Z5 x0;clear hW x0;have hmW:=F.ai hbW;refine (iQ P m am mn cm x W hf Hx.out).mono ?_;rintro e w1 ⟨a1,c1,rfl,H,hb1⟩;have x1:=HX.ai hb1;have d0:=x1.cell 0 rfl;have d1:=x1.cell 1 rfl;have d2:=x1.cell 2 rfl;rw [Hdx.out] at H ⊢;clear x1;go_wp2_with fail;refine (iQ P m am mn cm y w1 hf Hy.out).mono ?_;rintro e w2 ⟨a2,c2,rfl,Y,hb2⟩;rw [Hdy.out] at Y ⊢;have S:=RU hb1 hb2;have x1:=HX.ai S;have d0:=x1.cell 0 rfl;have d1:=x1.cell 1 rfl;have d2:=x1.cell 2 rfl;have z:=((RW H).1).ai hb2;have hi2:=(RW Y).1;have hpl1:=z.pl;have hpl2:=hi2.pl;have hm2:=hmW.ai S;obtain ⟨D,hD⟩:∃D,digs x P m=D:=⟨_,rfl⟩
 obtain ⟨E,hE⟩:∃E,digs y P m=E:=⟨_,rfl⟩
 have HR:Hid (mulR P m mod x y=valu P (mulL P m mod D E)):=by show _=_;rw [mulR,hD,hE]
 rw [hD] at z Hdx Hbx;rw [hE] at hi2 Hdy Hby;clear hD hE H Y x1;go_wp2_with (at_make;refine bR rfl _ _ 22 3 rfl (cG 0) 8 underlying22 br rfl n rfl rfl (by omega) (by unfold maxLen;omega) ?_;intro a3 w3 hown3 U hge3 hlt3;have d0:=aC U d0;have d1:=aC U d1;have d2:=aC U d2);have hP:0<P:=by omega
 have hS:∀V,SJ w2 V->V.cell? ⟨w.heap.size,0,none⟩=some (cG P)/\V.cell? ⟨w.heap.size,1,none⟩=some (cG m)/\V.cell? ⟨w.heap.size,2,none⟩=some (.slice am mn cm)/\Ints V a1 m D/\Ints V a2 m E/\Ints V am mn mod:=by intro V hV;have x1:=(HX.ai S).ai hV;exact ⟨x1.cell 0 rfl,x1.cell 1 rfl,x1.cell 2 rfl,z.ai hV,hi2.ai hV,hm2.ints.ai hV⟩
 have HS:=Z5 hS;have HC:Hid (List.replicate n (Value.int .i64 0)=(wo P D E m n 0).map (Value.int .i64)):=by show _=_;simp [wo]
 rw [HC.out] at hown3;have ha3:a3 ≠ none->w2.heap.size<=ablk a3:=λ_=>hge3;have hb23:=S.trans (U.mono S.size);clear hS d0 d1 d2 z hi2 hm2;go_loopw [10] (λI wr=>∃i:Nat,i<=m/\I = cG i/\wr.ownsRow w2.heap.size 3 1 (.slice a3 n n) n ((wo P D E m n i).map (Value.int .i64))/\ch a3 w3 wr) (λI _=>m - (intOf I).toNat);case atStart=>exact ⟨0,Nb _,rfl,hown3,Sg _ _⟩
 case round =>
  obtain ⟨i,hi,rfl,A,L⟩:=hrel
  have hbr:SJ w2 wr:=U.trans (L.below ha3 U.size)
  obtain ⟨d0,d1,d2,j1,j2,j3⟩:=HS wr hbr
  by_cases hlt:i<m
  ·have Hci:Hid (wo P D E m n (i+1)=cvJ P D E i (wo P D E m n i) m):=rfl
   have Hcd:Hid (dL P (wo P D E m n i)):=rG hP D E m n i
   have Hcl:Hid ((wo P D E m n i).length=n):=jR P D E m n i
   obtain ⟨C,hC⟩:∃C,wo P D E m n i=C:=⟨_,rfl⟩
   rw [hC] at A Hci Hcd Hcl
   clear hC
   go_wp2_with fail
   go_loopw [11] (λI wr=>∃j:Nat,j<=m/\I = cG j/\wr.ownsRow w2.heap.size 3 1 (.slice a3 n n) n ((cvJ P D E i C j).map (Value.int .i64))/\ch a3 w3 wr) (λI _=>m - (intOf I).toNat)
   case atStart=>exact ⟨0,Nb _,rfl,A,L⟩
   case round =>
    obtain ⟨j,hj,rfl,Y,X⟩:=hrel
    have hbr2:SJ w2 wr:=U.trans (X.below ha3 U.size)
    obtain ⟨d0,d1,d2,j1,j2,j3⟩:=HS wr hbr2
    by_cases hlt2:j<m
    ·have N:Hid (cvJ P D E i C (j+1)=(cvJ P D E i C j).set (i+j) ((nth (cvJ P D E i C j) (i+j)+nth D i * nth E j) % P)):=rfl
     have r:=wH hP D E i Hcd.out j (i+j)
     obtain ⟨T,hT⟩:∃T,cvJ P D E i C j=T:=⟨_,rfl⟩
     rw [hT] at Y N r
     clear hT
     have hij:i+j<n:=by have:=Hn.out;omega
     obtain ⟨it,mt⟩:=RW Y
     have ct:=it.cell (i+j) hij
     have ft:=(mt (by omega)).2 (i+j) hij
     have hplt:=it.pl
     have cD:=j1.cell i hlt
     have cE:=j2.cell j hlt2
     have bD:=Hbx i
     have bE:=Hby j
     have hme:=lW bD.1 (show nth D i<=256 by omega) bE.1 (show nth E j<=256 by omega)
     have hP0:P ≠ 0:=by omega
     obtain ⟨k,hk⟩:∃k,i+j=k:=⟨_,rfl⟩
     rw [hk] at ct ft N r hij
     obtain ⟨Z,hZ⟩:∃Z,(nth T k+nth D i * nth E j) % P=Z:=⟨_,rfl⟩
     have Hcj2:Hid (cvJ P D E i C (j+1)=T.set k Z):=by show _=_;rw [N.out,hZ]
     have r1:IntKind.i64.wrap ((i:Int)+j)=(k:Int):=by rw [Nn _ (by omega)];omega
     have r2:IntKind.i64.wrap (nth D i * nth E j)=nth D i * nth E j:=Nn _ (by omega)
     have r3:IntKind.i64.wrap (nth T k+nth D i * nth E j)=nth T k+nth D i * nth E j:=Nn _ (by omega)
     have r4:(nth T k+nth D i * nth E j).tmod P=Z:=by rw [<- hZ];exact Od _ _ (by omega)
     have q1:(0:Int)<=k:=by omega
     have q2:(k:Int)<n:=by omega
     clear hZ hk N
     go_wp2_with fail
     go_still_tail 24,(by kernel_rfl)
     change wpList _ _ _ _ _ wr.drew
     generalize Q:wr.drew=wd
     have fd:wd.frozen? ⟨ablk a3,aN a3+k,none⟩=false:=by rw [<- Q];exact ft
     have cd:wd.cell? ⟨ablk a3,aN a3+k,none⟩=some (cG (nth T k)):=by rw [<- Q];exact ct
     have Hwd:=Z5 Q
     clear Q r1 r2 r3 r4
     go_wp2_with fail
     go_roundw
     case rel =>
      obtain rfl:=Hwd.out
      have hdr:bm wr wr.drew:=(Sa wr).drew
      refine ⟨j+1,by omega,by go_num,?_,X.trans ((Sc hdr).trans (Sl _ k _ (by intro e;have:=hplt (by omega);rw [e] at this;cases this)))⟩
      have h1:=bA (w:=wr.drew) Y k hij (cG Z)
      rw [<- Ny,<- Hcj2.out] at h1
      exact h1
     case measure=>simp [intOf]<;>omega
    ·obtain rfl:j=m:=by omega
     go_wp2_with fail
     go_roundw
     case rel=>exact ⟨i+1,by omega,by go_num,by rw [Hci.out];exact Y,X⟩
     case measure=>simp [intOf]<;>omega
  ·obtain rfl:i=m:=by omega
   have hw2:=Hnv2.out
   obtain ⟨C,hC⟩:∃C,wo P D E i n i=C:=⟨_,rfl⟩
   have Hcd:Hid (dL P C):=by show dL P C;rw [<- hC];exact rG hP D E i n i
   have Hcl:Hid (C.length=n):=by show _=_;rw [<- hC];exact jR P D E i n i
   have HL:Hid (mulL P i mod D E=(vT P i mod C (i - 1)).take i):=by show _=_;rw [mulL,Hn.out,hC]
   rw [hC] at A
   clear hC
   go_wp2_with fail
   clear hw2 hnv
   go_loopw [12] (λI wr=>∃k t:Nat,t+k+1=n/\k<=i - 1/\I = cG t/\wr.ownsRow w2.heap.size 3 1 (.slice a3 n n) n ((vT P i mod C k).map (Value.int .i64))/\ch a3 w3 wr) (λI _=>(intOf I).toNat)
   case atStart=>exact ⟨0,n - 1,by omega,by omega,by congr 1;omega,A,L⟩
   case round =>
    obtain ⟨k,t,htk,hk,rfl,K,B⟩:=hrel
    have hbk:SJ w2 wr:=U.trans (B.below ha3 U.size)
    obtain ⟨d0,d1,d2,j1,j2,j3⟩:=HS wr hbk
    by_cases hti:i<=t
    ·have hn':=Hn.out
     have z:1<i:=by omega
     have hmn:=Hlow z
     have Hrk:Hid (vT P i mod C (k+1)=vf P i mod t (vT P i mod C k) i):=by show _=_;rw [vT,show 2 * i - 2 - k=t by omega]
     have Hrd:Hid (dL P (vT P i mod C k)):=ru hP i mod Hcd.out k
     have Hrl:Hid ((vT P i mod C k).length=n):=by show _=_;rw [kL];exact Hcl
     obtain ⟨C2,hC2⟩:∃C2,vT P i mod C k=C2:=⟨_,rfl⟩
     rw [hC2] at K Hrk Hrd Hrl
     have Htk:=Z5 htk
     clear hC2 hn'
     go_wp2_with fail
     go_loopw [13] (λI wr=>∃j:Nat,j<=i/\I = cG j/\wr.ownsRow w2.heap.size 3 1 (.slice a3 n n) n ((vf P i mod t C2 j).map (Value.int .i64))/\ch a3 w3 wr) (λI _=>i - (intOf I).toNat)
     case atStart=>exact ⟨0,Nb _,rfl,K,B⟩
     case round =>
      obtain ⟨j,hj,rfl,Y,X⟩:=hrel
      have hbr2:SJ w2 wr:=U.trans (X.below ha3 U.size)
      obtain ⟨d0,d1,d2,j1,j2,j3⟩:=HS wr hbr2
      by_cases hlt2:j<i
      ·have N:Hid (vf P i mod t C2 (j+1)=(vf P i mod t C2 j).set (t - i+j) ((nth (vf P i mod t C2 j) (t - i+j)+(P - nth (vf P i mod t C2 j) t) * nth mod j) % P)):=rfl
       have r:=xA hP i mod t Hrd.out j
       obtain ⟨T,hT⟩:∃T,vf P i mod t C2 j=T:=⟨_,rfl⟩
       rw [hT] at Y N r
       clear hT
       obtain ⟨it,mt⟩:=RW Y
       obtain ⟨u,hu⟩:∃u,t - i+j=u:=⟨_,rfl⟩
       have hun:u<n:=by omega
       have htn:t<n:=by omega
       have hjmn:j<mn:=by omega
       have ct:=it.cell u hun
       have ctt:=it.cell t htn
       have cM:=j3.cell j hjmn
       have ft:=(mt (by omega)).2 u hun
       have hplt:=it.pl
       have b1:=r u
       have b2:=r t
       have b3:=Hbm j
       have hme:=lW (show 0<=P - nth T t by omega) (show P - nth T t<=256 by omega) b3.1 (show nth mod j<=256 by omega)
       have hP0:P ≠ 0:=by omega
       rw [hu] at N
       obtain ⟨Z,hZ⟩:∃Z,(nth T u+(P - nth T t) * nth mod j) % P=Z:=⟨_,rfl⟩
       have Hcj2:Hid (vf P i mod t C2 (j+1)=T.set u Z):=by show _=_;rw [N.out,hZ]
       obtain ⟨v,hv⟩:∃v,t - i=v:=⟨_,rfl⟩
       have r0:IntKind.i64.wrap ((t:Int) - i)=(v:Int):=by rw [Nn _ (by omega)];omega
       have r1:IntKind.i64.wrap ((v:Int)+j)=(u:Int):=by rw [Nn _ (by omega)];omega
       have r2:IntKind.i64.wrap (P - nth T t)=P - nth T t:=Nn _ (by omega)
       have r3:IntKind.i64.wrap ((P - nth T t) * nth mod j)=(P - nth T t) * nth mod j:=Nn _ (by omega)
       have r4:IntKind.i64.wrap (nth T u+(P - nth T t) * nth mod j)=nth T u+(P - nth T t) * nth mod j:=Nn _ (by omega)
       have r5:(nth T u+(P - nth T t) * nth mod j).tmod P=Z:=by rw [<- hZ];exact Od _ _ (by omega)
       have q1:(0:Int)<=u:=by omega
       have q2:(u:Int)<n:=by omega
       have q3:(t:Int)<n:=by omega
       have q4:(j:Int)<mn:=by omega
       clear hZ hu hv N htk hmn
       go_wp2_with fail
       go_still_tail 34,(by kernel_rfl)
       change wpList _ _ _ _ _ wr.drew
       generalize Q:wr.drew=wd
       have fd:wd.frozen? ⟨ablk a3,aN a3+u,none⟩=false:=by rw [<- Q];exact ft
       have cd:wd.cell? ⟨ablk a3,aN a3+u,none⟩=some (cG (nth T u)):=by rw [<- Q];exact ct
       have Hwd:=Z5 Q
       clear Q r0 r1 r2 r3 r4 r5
       go_wp2_with fail
       go_roundw
       case rel =>
        obtain rfl:=Hwd.out
        have hdr:bm wr wr.drew:=(Sa wr).drew
        refine ⟨j+1,by omega,by go_num,?_,X.trans ((Sc hdr).trans (Sl _ u _ (by intro e;have:=hplt (by omega);rw [e] at this;cases this)))⟩
        have h1:=bA (w:=wr.drew) Y u hun (cG Z)
        rw [<- Ny,<- Hcj2.out] at h1
        exact h1
       case measure=>simp [intOf]<;>omega
      ·obtain rfl:j=i:=by omega
       go_wp2_with fail
       go_roundw
       case rel=>exact ⟨k+1,t - 1,by have:=Htk.out;omega,by have:=Htk.out;have:=Hn.out;omega,by congr 1;omega,by rw [Hrk.out];exact Y,X⟩
       case measure=>simp [intOf]<;>omega
    ·have hki:k=i - 1:=by have:=Hn.out;omega
     have hfin:Hid (valu P ((vT P i mod C k).take i)=mulR P i mod x y):=by show _=_;rw [HR.out,HL.out,hki]
     have hdig:dL P ((vT P i mod C k).take i):=dL.take hP (ru hP i mod Hcd.out k) i
     have hlen:((vT P i mod C k).take i).length=i:=by rw [NH,kL,Hcl.out];omega
     have hbd:=dL.MR hf hdig hlen
     have hit:=(RW K).1
     have hin:i<=n:=hn1
     have hit2:Ints wr a3 i ((vT P i mod C k).take i):=hit.take hin
     have Hbd:=Z5 hbd
     have hin':(i:Int)<=n:=by omega
     have hbwr:SJ w wr:=(RU hbW S).trans (hbk.mono (by have h1:=S.size;have h2:=hbW.size;omega))
     have hS2:∀V,SJ wr V->V.cell? ⟨w.heap.size,0,none⟩=some (cG P)/\V.cell? ⟨w.heap.size,1,none⟩=some (cG i)/\V.cell? ⟨w.heap.size,2,none⟩=some (.slice am mn cm)/\SJ wr V :=
      λV hV=>⟨aC hV d0,aC hV d1,aC hV d2,hV⟩
     have HS2:=Z5 hS2
     have Hit2:Hid (∀V,SJ wr V->Ints V a3 i ((vT P i mod C k).take i)):=λV hV=>hit2.ai hV
     clear hki hlen hdig hbd hS2 hit hit2 htk
     go_wp2_with fail
     go_region_held3 (λV=>V.cell? ⟨w.heap.size,0,none⟩=some (cG P)/\V.cell? ⟨w.heap.size,1,none⟩=some (cG i)/\V.cell? ⟨w.heap.size,2,none⟩=some (.slice am mn cm)/\SJ wr V)
      ((refine HS2 _ ?_;first|exact (M5 _ _).drew|(go_split_ands;exact RU (by assumption) (by assumption))))
      (first
       | (go_at_call 162;((with_reducible refine (nL P i am mn cm a3 i n _ _ (Hit2.out _ (M5 _ _).drew) (by omega) (by omega) (by omega) Hbd.out).mono ?_);rintro e w4 ⟨rfl,hb4⟩)))
     go_wp2_with fail
     go_ret
     exact ⟨aK hfin.out,RU hbwr (by go_split_ands;assumption)⟩
structure yD (w:ej) (P:Int) (m:Nat) (am:OA) (mn:Nat) (mod:Lz):Prop where
 rf:RF P m
 mods:A1 w P m am mn mod
theorem yD.ai {w w':ej} {P:Int} {m:Nat} {am:OA} {Z:Nat} {mod:Lz} (h:yD w P m am Z mod) (hb:SJ w w'):yD w' P m am Z mod:=⟨h.rf,h.mods.ai hb⟩
theorem RF.jx {P:Int} {m:Nat} (h:RF P m) {x:Int} (Z:fo P m x):jx (aO P m) x=true:=by unfold Proofs.YthglbncgemdcbaaGreat.jx;rw [h.order];simp [Z.1,Z.2]
theorem wA {P:Int} {m:Nat} (h:RF P m) (mod:Lz) (x y:Int):fo P m (mulR P m mod x y):=by
 have Z:0<P:=by have:=h.p2;omega
 have:=oV Z (mulL P m mod (digs x P m) (digs y P m)) (AI Z m mod _ _);rwa [As P mod _ _ h.m1] at this
def invTo (f:Int->Int):Nat->Int->Int
 | 0,_=>0
 | n+1,y=>if f y=1 then y else invTo f n (y+1)
def gP (P:Int) (m:Nat) (mod:Lz) (x:Int):Int:=invTo (mulR P m mod x) ((aO P m).toNat - 1) 1
def mV (P:Int) (m:Nat) (mod:Lz):aL:=⟨fsum P m,mulR P m mod,fneg P m,gP P m mod⟩
theorem zY (f:Int->Int):∀(n:Nat) (y:Int),0<=y->0<=invTo f n y/\(invTo f n y<y+n\/invTo f n y=0)
 | 0,y,h=>by simp [invTo]
 | n+1,y,h=>by
  unfold invTo;split
  ·omega
  ·have:=zY f n (y+1) (by omega);omega
theorem Dp {P:Int} {m:Nat} (h:RF P m) (mod:Lz) (x:Int):fo P m (gP P m mod x):=by have h1:=zY (mulR P m mod x) ((aO P m).toNat - 1) 1 (by omega);have h2:=h.order;have h3:=one_lt_pow h.res;unfold gP fo;omega
theorem M3 {P:Int} {m:Nat} (h:RF P m) (mod:Lz):qV (mV P m mod) (fo P m) :=
 ⟨λx y _ _=>il h.res x y,λx y _ _=>wA h mod x y,λx _=>xH h.res x,λx _ _=>Dp h mod x⟩
theorem I8 (P:Int) (m:Nat) (am:OA) (N H:Nat) (mod:Lz) (x:Int) (w:ej) (hf:yD w P m am N mod) (hx:fo P m x) :
  Calls prog 226 #[.agg #[cG P,cG m,.slice am N H],cG x] w λe w'=>e = .returned (cG (gP P m mod x))/\SJ w w':=by
 have Z:=hf.rf;have Hq:=Z5 (Z.jx hx);have S:=Z.order;have E:=Z.pw;obtain ⟨q,r⟩:∃q:Nat,P ^ m=q:=⟨(P ^ m).toNat,by have:=one_lt_pow Z.res;omega⟩
 have hq2:2<=q:=by have:=one_lt_pow Z.res;omega
 have Y:aO P m=q:=by rw [S,r]
 have D:=Z5 Y;have HI:Hid (gP P m mod x=invTo (mulR P m mod x) (q - 1) 1):=by show _=_;rw [gP,Y];simp
 have Hel:Hid (∀k:Nat,k<q->jx (aO P m) k=true):=λk hk=>Z.jx ⟨by omega,by rw [r];omega⟩;have A:q<=256:=by omega
 clear S r Y E;go_enter func226,ntmps226;go_wp2_with fail;obtain ⟨W,C⟩:∃W:ej,W=w.alloc (.cells #[cG P,cG m,.slice am N H] 24):=⟨_,rfl⟩
 rw [<- C];have Q:SJ w W:=by rw [C];exact aD _ _
 have x0:aQ W w.heap.size [cG P,cG m,.slice am N H]:=by rw [C];exact RV _ _ _ rfl
 have HX:=Z5 x0;clear C x0;have j:=hf.ai Q;go_loopw [5] (λyv wr=>∃y:Nat,1<=y/\y<=q/\yv = cG y/\Hid (gP P m mod x=invTo (mulR P m mod x) (q - y) y)/\SJ W wr) (λyv _=>q - (intOf yv).toNat);case atStart=>exact ⟨1,by omega,by omega,rfl,by show _=_;rw [HI.out];rfl,M5 _ _⟩
 case round =>
  obtain ⟨y,hy1,hyq,rfl,hinv,L⟩:=hrel
  have V:=HX.ai L
  have d0:=V.cell 0 rfl
  have d1:=V.cell 1 rfl
  have d2:=V.cell 2 rfl
  clear V
  go_wp2_with fail
  refine (lf P m am N H wr).mono ?_
  rintro e w1 ⟨rfl,z⟩
  rw [D.out]
  have X:=RU L z
  have V:=HX.ai X
  have d0:=V.cell 0 rfl
  have d1:=V.cell 1 rfl
  have d2:=V.cell 2 rfl
  clear V
  by_cases hlt:y<q
  ·have hlt':(y:Int)<q:=by omega
   have I:invTo (mulR P m mod x) (q - y) y=if mulR P m mod x y=1 then (y:Int) else invTo (mulR P m mod x) (q - (y+1)) (y+1):=by rw [show q - y=(q - (y+1))+1 by omega,invTo]
   have K:=Z5 I
   clear I
   go_wp2_with fail
   refine (r8 P m am N H mod x y w1 Z ((j.ai X).mods) Hq.out (Hel y hlt)).mono ?_
   rintro e w2 ⟨rfl,B⟩
   have U:=RU X B
   by_cases h1:mulR P m mod x y=1
   ·have F:Hid (gP P m mod x=y):=by show _=_;rw [hinv.out,K.out,M7 h1]
    rw [h1]
    clear h1
    go_wp2_with fail
    go_ret
    exact ⟨aK F.symm,RU Q U⟩
   ·have F:Hid (gP P m mod x=invTo (mulR P m mod x) (q - (y+1)) ((y+1:Nat):Int)):=by show _=_;rw [hinv.out,K.out,M8 h1];rfl
    have h1':(mulR P m mod x y == 1)=false:=by simpa using h1
    clear h1
    go_wp2_with fail
    go_roundw
    case rel=>exact ⟨y+1,by omega,by omega,by go_num,F,U⟩
    case measure=>simp [intOf]<;>omega
  ·obtain rfl:y=q:=by omega
   have F:Hid (gP P m mod x=0):=by show _=_;rw [hinv.out,PD];rfl
   go_wp2_with fail
   go_ret
   exact ⟨aK F.symm,RU Q X⟩
theorem C3 (P:Int) (m:Nat) (am:OA) (L F:Nat) (mod:Lz) (s:Int) (a:OA) (n c:Nat) (l:Lz) (w:ej) (hf:yD w P m am L mod) (hs:fo P m s) (hi:Ints w a n l) (hl:∀x ∈ l,fo P m x) (hn:n<=1000000) :
  Calls prog 225 #[.agg #[cG P,cG m,.slice am L F],cG s,.slice a n c] w (cR w (l.map (mulR P m mod s))):=by
 have I:=hf.rf;have Hs:=Z5 (I.jx hs);have X:=Z5 hi.len;have hpl:=hi.pl;have Hl:Hid (∀k,k<n->jx (aO P m) (nth l k)=true):=λk A=>I.jx (hl _ (aG (by rw [hi.len];exact A)));clear hl;go_enter func225,ntmps225;go_wp2_with (at_make;refine bR rfl _ _ 22 3 rfl (cG 0) 8 underlying22 br rfl n rfl rfl (by omega) (by unfold maxLen;omega) ?_;intro a1 w1 Z Y j U);obtain ⟨W,z⟩:∃W:ej,W=w.alloc (.cells #[cG P,cG m,.slice am L F] 24):=⟨_,rfl⟩
 rw [<- z] at Z Y j;have Q:SJ w W:=by rw [z];exact aD _ _
 have x0:aQ W w.heap.size [cG P,cG m,.slice am L F]:=by rw [z];exact RV _ _ _ rfl
 have hfW:=hf.ai Q;have hiW:=hi.ai Q;have hS:∀k,k<n->∀V,SJ W V->V.cell? ⟨w.heap.size,0,none⟩=some (cG P)/\V.cell? ⟨w.heap.size,1,none⟩=some (cG m)/\V.cell? ⟨w.heap.size,2,none⟩=some (.slice am L F) /\
   V.cell? ⟨ablk a,aN a+k,none⟩=some (cG (nth l k))/\SJ W V:=by intro k A V D;have x1:=x0.ai D;exact ⟨x1.cell 0 rfl,x1.cell 1 rfl,x1.cell 2 rfl,(hiW.ai D).cell k A,D⟩
 have HS:=Z5 hS;clear z x0 hS;go_loopw [8] (λiv wr=>∃k:Nat,k<=n/\iv = cG k /\
   wr.ownsRow W.heap.size 3 1 (.slice a1 n n) n ((dz ((l.take k).map (mulR P m mod s)) k n).map (Value.int .i64))/\SJ W wr)
  (λi _=>n - (intOf i).toNat)
 case atStart=>exact ⟨0,Nb _,rfl,by simpa [dz] using Z,Y⟩
 case round =>
  obtain ⟨k,A,rfl,Z,Y⟩:=hrel
  obtain ⟨hints,H⟩:=RW Z
  have hpl1:=hints.pl
  by_cases U:k<n
  ·have HSk:Hid (∀V, SJ W V -> V.cell? ⟨w.heap.size, 0, none⟩ = some (cG P) /\ V.cell? ⟨w.heap.size, 1, none⟩ = some (cG m) /\ V.cell? ⟨w.heap.size, 2, none⟩ = some (.slice am L F) /\
     V.cell? ⟨ablk a,aN a+k,none⟩=some (cG (nth l k))/\SJ W V):=HS k U
   have hB:=(H (by omega)).1
   have HB:=Z5 hB
   have S:=Z5 Y
   have HK:Hid (∀V,Below wr.drew.heap.size wr.drew V->(∃v,V.cell? ⟨ablk a1,aN a1+k,none⟩=some v)/\V.frozen? ⟨ablk a1,aN a1+k,none⟩=false/\SJ wr V):=λV D=>by have B:SJ wr V:=RU (M5 _ _).drew D;have ho:=bj Z B;exact ⟨⟨_,(RW ho).1.cell k U⟩,((RW ho).2 (by omega)).2 k U,B⟩
   have E:=(hfW.ai Y).mods
   have r:Hid (A1 wr.drew P m am L mod):=E.ai (M5 _ _).drew
   clear hB Y E
   go_wp2_with fail
   go_region_held3 (λV=>V.cell? ⟨w.heap.size,0,none⟩=some (cG P)/\V.cell? ⟨w.heap.size,1,none⟩=some (cG m)/\V.cell? ⟨w.heap.size,2,none⟩=some (.slice am L F) /\
     V.cell? ⟨ablk a,aN a+k,none⟩=some (cG (nth l k))/\SJ W V)
    ((refine HSk _ ?_;first|exact S.drew|exact RU S.out N|exact (RU S.out N).setCell HB.out _))
    (first
     | (go_at_call 114;((with_reducible refine (r8 P m am L F mod s (nth l k) _ I r.out Hs.out (Hl.out k U)).mono ?_);rintro e w4 ⟨rfl,hb4⟩;obtain ⟨⟨v9,k9⟩,f9,N⟩:=HK.out w4 hb4)))
   clear k9 f9
   go_wp2_with fail
   go_roundw
   case rel =>
    refine ⟨k+1,by omega,by go_num,?_,(RU S.out N).setCell HB.out _⟩
    have h:=bA (bj Z N) k U (cG (mulR P m mod s (nth l k)))
    rw [<- Ny,fJ _ _ _ _ (by simp [X.out];omega) U] at h
    rw [Nh (by rw [X.out];omega),NT]
    rw [an (by rw [X.out];omega)] at h ⊢
    exact h
   case measure=>simp [intOf]<;>omega
  ·obtain rfl:k=n:=by omega
   have K:dz ((l.take k).map (mulR P m mod s)) k k=l.map (mulR P m mod s):=by rw [gr,Nj (by rw [X.out];exact M4 _)]
   rw [K] at Z
   have C:Hid ((l.map (mulR P m mod s)).length=k):=by show _=_;simp [X.out]
   clear K
   go_wp2_with fail
   go_ret
   exact ⟨a1,k,by rw [C.out];rfl,by rw [C.out];exact bq Z Q.size,RU Q Y⟩
section
structure L5 (O O':aL) (El:Int->Prop):Prop where
 add:∀x y,El x->El y->O.add x y=O'.add x y
 mul:∀x y,El x->El y->O.mul x y=O'.mul x y
 neg:∀x,El x->O.neg x=O'.neg x
 inv:∀x,El x->x ≠ 0->O.inv x=O'.inv x
variable {O O':aL} {El:Int->Prop}
theorem s8 (h:L5 O O' El) (X:qV O El):∀(v u:Lz) (s:Int),(∀x ∈ v,El x)->(∀x ∈ u,El x)->El s->bZ O v s u=bZ O' v s u
 | [],_,_,_,_,_=>by simp [bZ]
 | _ :: _,[],_,_,_,_=>by simp [bZ]
 | x :: v,y :: u,s,V,hu,Z=>by have U:=s8 h X v u s (λz Y=>V z (by simp [Y])) (λz Y=>hu z (by simp [Y])) Z;unfold bZ at U ⊢;have S:=V x (by simp);have hy:=hu y (by simp);simp only [OX,U];rw [h.mul s y Z hy,h.add x _ S (by rw [<- h.mul s y Z hy];exact X.mul s y Z hy)]
theorem wm (h:L5 O O' El) (X:qV O El) {Y r:Lz} {c m:Nat} (S:c<m) (U:Y.length=m/\∀x ∈ Y,El x) (V:r.length=m/\∀x ∈ r,El x):bT O Y c r=bT O' Y c r:=by
 have Z:El (nth r c):=V.2 _ (aG (by omega));unfold bT;rw [h.neg _ Z];split
 ·rfl
 ·exact s8 h X _ _ _ V.2 U.2 (by rw [<- h.neg _ Z];exact X.neg _ Z)
theorem qH (h:L5 O O' El) (Z:qV O El) {m:Nat} {L:ZZ} (X:bz El m L) {t c:Nat} (U:t<L.length) (Y:c<m):∀i,i<=L.length->clearTo O t c L i=clearTo O' t c L i
 | 0,_=>rfl
 | i+1,hi=>by
  have S:=qH h Z X U Y i (by omega);have V:=Si Z X U Y i (by omega);have Q:=dj O t c L i;unfold clearTo;rw [<- S];split
  ·rfl
  ·rw [wm h Z Y (V.row (by omega)) (V.row (by omega))]
theorem A3 (h:L5 O O' El) (X:qV O El) {m:Nat} {L:ZZ} (U:bz El m L) {t c:Nat} (S:t<L.length) (Q:c<m) (h0:nth (aj L t) c ≠ 0):bs O L t c=bs O' L t c:=by
 have Y:=U.row S;have Z:El (nth (aj L t) c):=Y.2 _ (aG (by omega));unfold bs;rw [h.inv _ Z h0];split
 ·rfl
 ·congr 1;refine N6 λx V=>?_;exact h.mul _ _ (by rw [<- h.inv _ Z h0];exact X.inv _ Z h0) (Y.2 x V)
theorem Ct (h:L5 O O' El) (V:qV O El) {m:Nat} {L:ZZ} (Q:bz El m L) {t k c:Nat} (N:t<L.length) (K:k<L.length) (U:c<m) (h0:nth (aj L k) c ≠ 0) (I:t<=k) :
  eo O L t k c=eo O' L t k c/\bz El m (eo O L t k c):=by
 have X:bz El m (if k=t then L else aY L t k):=by split;exact Q;exact Q.swap N K
 have S:(if k=t then L else aY L t k).length=L.length:=by split;rfl;exact bU _ _ _
 have Y:nth (aj (if k=t then L else aY L t k) t) c ≠ 0:=by
  split
  ·rename_i e;subst e;exact h0
  ·rename_i e;have:aj (aY L t k) t=aj L k:=by unfold aY;rw [fI _ _ _ _ (by simpa using K),M8 (by omega),fI _ _ _ _ N,M7 rfl]
   rw [this];exact h0
 rw [gV,gV,<- A3 h V X (by omega) U Y];have Z:=X.norm V (t:=t) (c:=c) (by omega) U Y;have H:(bs O (if k=t then L else aY L t k) t c).length=L.length:=by rw [di,S]
 exact ⟨qH h V Z (by omega) U _ (by omega),Si V Z (by omega) U _ (by omega)⟩
theorem lk (h:L5 O O' El) (U:qV O El) {m:Nat} {L:ZZ} (S:bz El m L):∀k,k<=m->aE O L k=aE O' L k/\bz El m (aE O L k).1
 | 0,_=>⟨rfl,S⟩
 | k+1,Q=>by
  obtain ⟨h1,h2⟩:=lk h U S k (by omega);obtain ⟨Lk,P,Z⟩:∃Lk P,aE O L k=(Lk,P):=⟨_,_,rfl⟩
  rw [Z] at h1 h2;have hlen:Lk.length=L.length:=by have:=bW O L k;rw [Z] at this;exact this
  by_cases Y:P.length<Lk.length
  ·rw [dG Z.symm Y,dG h1 Y];by_cases V:aZ Lk k P.length=Lk.length
   ·rw [M7 V,M7 V];exact ⟨rfl,h2⟩
   ·rw [M8 V,M8 V];have hb:=kN (L:=Lk) (c:=k) (k:=P.length) (by omega);have hne:nth (aj Lk (aZ Lk k P.length)) k ≠ 0:=iE Lk k (Lk.length - P.length) P.length (by have:findTo Lk k P.length (Lk.length - P.length)=aZ Lk k P.length:=rfl;omega);have X:aZ Lk k P.length<Lk.length:=by omega
    have:=Ct h U (L:=Lk) h2 (t:=P.length) (k:=aZ Lk k P.length) (c:=k) Y X (by omega) hne hb.1;exact ⟨by rw [this.1],this.2⟩
  ·have e:∀(O:aL),aE O L k=(Lk,P)->aE O L (k+1)=(Lk,P):=λO he=>by rw [aE];simp only [he];rw [M8 Y]
   rw [e O Z,e O' h1.symm];exact ⟨rfl,h2⟩
end
section
variable {P:Int} {M:Nat} {low:Nat->Int}
def BD (M:Nat) (low:Nat->Int) (n:Nat) (c:Lz):Nat->Int:=λi=>sm n (λk=>nth c k * fB M low k (eV 0) i)
theorem LZ {n k:Nat} {c:Lz} {z:Int} (f:Nat->Int) (Y:k<n) (Z:k<c.length):sm n (λj=>nth (c.set k z) j * f j)=sm n (λj=>nth c j * f j)+(z - nth c k) * f k:=by
 have h1:sm n (λj=>nth (c.set k z) j * f j)=sm n (λj=>nth c j * f j+(if j=k then (z - nth c k) * f k else 0)):=bV λj _=>by
  rw [eT _ _ _ _ Z];by_cases e:j=k
  ·subst e;rw [M7 rfl,M7 rfl,Q4];omega
  ·rw [M8 e,M8 e];omega
 rw [h1,wB];congr 1;rw [kH Y λi _ hne=>M8 hne,M7 rfl]
theorem zX {n k:Nat} {c:Lz} {d:Int} (Y:k<n) (Z:k<c.length) :
  Cg P (BD M low n (c.set k ((nth c k+d) % P))) (λi=>BD M low n c i+d * fB M low k (eV 0) i):=λi=>by
 simp only [BD];rw [LZ (λj=>fB M low j (eV 0) i) Y Z];obtain ⟨e,he⟩:=qa P (nth c k+d);refine ⟨e * fB M low k (eV 0) i,?_⟩;have h1:(nth c k+d) % P - nth c k=d+P * e:=by omega
 rw [h1,Q2,Oh];omega
theorem Iw {a b:Lz} {i n:Nat} {c:Lz} (Y:c.length=n):∀j,i+j<=n ->
  Cg P (BD M low n (cvJ P a b i c j)) (λs=>BD M low n c s+sm j (λj=>nth a i * nth b j * fB M low (i+j) (eV 0) s))
 | 0,_=>Sp (by funext s;simp [cvJ,sm])
 | j+1,X=>by have Z:=Iw (a:=a) (b:=b) (i:=i) Y j (by omega);rw [cvJ];refine (zX (by omega) (by rw [yp];omega)).trans ((Cg.add Z (St P _)).trans (Sp ?_));funext s;simp only [sm];omega
theorem IM {a b:Lz} {n:Nat} (Y:2 * M - 1<=n) (Z:1<=M):∀i,i<=M ->
  Cg P (BD M low n (wo P a b M n i)) (λs=>sm i (λi=>sm M (λj=>nth a i * nth b j * fB M low (i+j) (eV 0) s)))
 | 0,_=>Sp (by
  funext s;simp only [BD,wo,sm];rw [bV (g:=λ_=>0) λk _=>by
   have:nth (List.replicate n 0) k=0:=by simp only [nth,Na,NP];split<;>rfl
   rw [this,Int.zero_mul],jH])
 | i+1,hi=>by have X:=IM (a:=a) (b:=b) Y Z i (by omega);rw [wo];refine (Iw (jR P a b M n i) M (by omega)).trans ((Cg.add X (St P _)).trans (Sp ?_));funext s;simp only [sm]
theorem Me (Z:1<=M):fB M low M (eV 0)=λi=>if i<M then - low i else 0:=by
 obtain ⟨m,rfl⟩:∃m,M=m+1:=⟨M - 1,by omega⟩
 rw [fB,DZ m (by omega)];funext i;simp only [uF,eV];by_cases h:i<m+1
 ·rw [M7 h,M7 h,On];by_cases h0:i=0
  ·rw [M7 h0,M7 rfl];omega
  ·rw [M8 h0,M8 (by omega),M7 rfl];omega
 ·rw [M8 h,M8 h]
theorem L6 (X:1<=M) (t:Nat):(λs=>sm M (λj=>low j * fB M low (t+j) (eV 0) s))=λs=>- fB M low (t+M) (eV 0) s:=by
 have h1:(λs=>sm M (λj=>low j * fB M low (t+j) (eV 0) s))=fB M low t (λs=>sm M (λj=>low j * fB M low j (eV 0) s)):=by rw [yo];funext s;refine bV λj _=>?_;rw [ko,oM]
 have h2:(λs=>sm M (λj=>low j * fB M low j (eV 0) s))=λs=>(-1) * fB M low M (eV 0) s:=by
  funext s;rw [congrFun (Me (low:=low) X) s];have h3:sm M (λj=>low j * fB M low j (eV 0) s)=sm M (λj=>low j * eV j s):=bV λj Y=>by rw [DZ j Y]
  rw [h3];by_cases Z:s<M
  ·rw [kH Z λi _ hne=>by simp only [eV];rw [M8 (by omega)];omega];rw [M7 Z];simp [eV]
  ·rw [M8 Z,bV (g:=λ_=>0) λj Y=>by simp only [eV];rw [M8 (by omega)];omega,jH];rfl
 rw [h1,h2,ko];funext s;rw [<- oM];omega
theorem Dg {mod:Lz} {i:Nat} {c:Lz} (hi:M<=i) (Z:i<c.length):∀j,j<=M->nth (vf P M mod i c j) i=nth c i
 | 0,_=>rfl
 | j+1,Y=>by rw [vf,eT _ _ _ _ (by rw [rj];omega),M8 (by omega)];exact Dg hi Z j (by omega)
theorem GO {mod:Lz} {i:Nat} {c:Lz} (hi:M<=i) (Z:i<c.length):∀j,j<=M ->
  Cg P (BD M low i (vf P M mod i c j)) (λs=>BD M low i c s+(- nth c i) * sm j (λj=>nth mod j * fB M low (i - M+j) (eV 0) s))
 | 0,_=>Sp (by funext s;simp [vf,sm])
 | j+1,U=>by have V:=GO (mod:=mod) hi Z j (by omega);rw [vf,Dg hi Z j (by omega)];refine (zX (by omega) (by rw [rj];omega)).trans ?_;refine (Cg.add V (St P _)).trans ?_;intro s;simp only [sm];generalize sm j (λj=>nth mod j * fB M low (i - M+j) (eV 0) s)=X;generalize fB M low (i - M+j) (eV 0) s=Y;refine ⟨nth mod j * Y,?_⟩;simp only [OM,Q4,Int.neg_mul,Oh];omega
theorem Jd {mod:Lz} (Y:1<=M) (Z:∀j,low j=nth mod j) {c:Lz} (X:c.length=2 * M - 1):∀k,k<=M - 1 ->
  Cg P (BD M low (2 * M - 1 - k) (vT P M mod c k)) (BD M low (2 * M - 1) c)
 | 0,_=>St P _
 | k+1,U=>by
  have V:=Jd Y Z X k (by omega);rw [vT];refine SE ?_ V;obtain ⟨i,hi⟩:∃i,2 * M - 2 - k=i:=⟨_,rfl⟩
  rw [hi,show 2 * M - 1 - (k+1)=i by omega,show 2 * M - 1 - k=i+1 by omega];refine (GO (low:=low) (by omega) (by rw [kL];omega) M (M4 _)).trans (Sp ?_);funext s;have h1:sm M (λj=>low j * fB M low (i - M+j) (eV 0) s) = - fB M low (i - M+M) (eV 0) s:=congrFun (L6 (low:=low) Y (i - M)) s;rw [bV (g:=λj=>low j * fB M low (i - M+j) (eV 0) s) λj _=>by rw [Z],h1,show i - M+M=i by omega];simp only [BD,sm];rw [Int.neg_mul,Q3];omega
theorem y9 (c:Lz) (X:M<=c.length):BD M low M c=nth (c.take M):=by
 funext s;simp only [BD];rw [bV (g:=λj=>nth c j * eV j s) λj Z=>by rw [DZ j Z]];by_cases Y:s<M
 ·rw [kH Y λi _ hne=>by simp only [eV];rw [M8 (by omega)];omega,ou Y];simp [eV]
 ·rw [jI (by rw [NH];omega),bV (g:=λ_=>0) λj Z=>by simp only [eV];rw [M8 (by omega)];omega,jH]
end
theorem Kh {P:Int} {m:Nat} (V:RF P m) (mod:Lz) (x y:Int):mulR P m mod x y=dp P m mod x y:=by
 have Z:=V.res;have U:=Z.pos;have Y:=V.m1;refine (wA V mod x y).ext Z (fN Z x y) (SE ?_ (gg U m mod x y).symm);have hd:dV P m (mulR P m mod x y)=nth (mulL P m mod (digs x P m) (digs y P m)):=by unfold dV mulR;have:=mJ (P:=P) (mulL P m mod (digs x P m) (digs y P m)) (AI U m mod _ _);rw [As P mod _ _ Y] at this;rw [this]
 rw [hd];have N:=IM (P:=P) (M:=m) (low:=nth (mU m mod)) (a:=digs x P m) (b:=digs y P m) (n:=2 * m - 1) (M4 _) Y m (M4 _);have Q:Cg P (BD m (nth (mU m mod)) (2 * m - 1) (wo P (digs x P m) (digs y P m) m (2 * m - 1) m)) (gF m (nth (mU m mod)) (dV P m x) (dV P m y)):=by rw [l0 (n7 P m y)];exact N
 refine SE ?_ Q;unfold mulL;by_cases h1:1<m
 ·have X:∀j,nth (mU m mod) j=nth mod j:=λj=>by rw [mU,M7 h1]
  have S:=Jd (P:=P) Y X (jR P (digs x P m) (digs y P m) m (2 * m - 1) m) (m - 1) (M4 _);rw [show 2 * m - 1 - (m - 1)=m by omega,y9 _ (by rw [kL,jR];omega)] at S;exact S
 ·obtain rfl:m=1:=by omega
  rw [<- y9 (M:=1) (low:=nth (mU 1 mod)) _ (by rw [kL,jR];omega)];exact St P _
def nD (q:Int) (k:Nat):Int:=if q ^ k<=65536 then q ^ k else 0
def jU (q:Int) (k:Nat):Int:=if q ^ k<=65536 then 0 else 8
theorem od {q:Int} {k:Nat} (h:q ^ k<=65536):nD q k=q ^ k/\jU q k=0:=by simp [nD,jU,h]
theorem AS {q:Int} {k:Nat} (h:¬ q ^ k<=65536):nD q k=0/\jU q k=8:=by simp [nD,jU,h]
theorem gM {a b c d:Int} {k Z:IntKind} (h:a=b) (Y:c=d):Ending.returned (.tuple #[.int k a,.int Z c]) = ec #[.int k b,.int Z d]:=by rw [h,Y]
theorem Dz (q:Int) (n:Nat) (w:ej) (h2:2<=q) (Q:q<=256) (D:n<=1000000) :
  Calls prog 207 #[cG q,cG n,cG 65536] w λe w'=>e = ec #[cG (nD q n),cG (jU q n)]/\w=w':=by
 go_enter func207,ntmps207;go_wp2_with fail;go_loop [1,8] (λN I=>∃k:Nat,k<=n/\N = cG ((n:Int) - k)/\I = cG (q ^ k)/\q ^ k<=65536/\1<=q ^ k) (λi _=>(intOf i).toNat);case atStart=>exact ⟨0,Nb _,by simp,by simp,by simp,by simp⟩
 case round =>
  obtain ⟨k,B,rfl,rfl,hb,X⟩:=hrel
  have L:q ≠ 0:=by omega
  by_cases F:k<n
  ·have e1:q ^ (k+1)=q ^ k * q:=N1 _ _
   have K:(0:Int)<=65536 / q:=Ox (by omega) (by omega)
   have H:65536 / q<=65536:=OC _ (by omega)
   by_cases h5:65536 / q<q ^ k
   ·have Z:¬ q ^ n<=65536:=by intro h;have S:=dJ (show 1<=q by omega) (show k+1<=n by omega);have E:65536<q ^ k * q:=P6 (by omega) h5;omega
    have Y:=Z5 (AS Z)
    clear e1 Z
    generalize q ^ k=z at *
    go_wp2_with fail
    go_ret2
    exact ⟨gM Y.1.symm Y.2.symm,rfl⟩
   ·have S:q ^ k * q<=65536:=by have:=QZ (show (0:Int)<q by omega) (show q ^ k<=65536 / q by omega);exact this
    have E:1 * 1<=q ^ k * q:=Ow X (by omega) (by omega) (by omega)
    have V:=Z5 e1
    clear e1
    generalize U:q ^ k=z at *
    have C:=Z5 U
    clear U
    go_wp2_with fail
    go_round
    case rel=>exact ⟨k+1,by omega,by go_num,by rw [V.out],by rw [V.out];exact S,by rw [V.out];omega⟩
    case measure=>simp [intOf]<;>omega
  ·obtain rfl:k=n:=by omega
   have Y:=Z5 (od hb)
   generalize q ^ k=z at *
   go_wp2_with fail
   go_ret2
   exact ⟨gM Y.1.symm Y.2.symm,rfl⟩
theorem GH (q:Int) (n:Nat) (w:ej) (h2:2<=q) (Q:q<=256) (D:n<=1000000) :
  Calls prog 100 #[cG q,cG n,cG 65536] w λe w'=>e = ec #[cG (nD q n),cG (jU q n)]/\w=w':=by
 go_enter func100,ntmps100;go_wp2_with fail;go_loop [8,9] (λI N=>∃k:Nat,k<=n/\N = cG k/\I = cG (q ^ k)/\q ^ k<=65536/\1<=q ^ k) (λ_ i=>n - (intOf i).toNat);case atStart=>exact ⟨0,Nb _,rfl,by simp,by simp,by simp⟩
 case round =>
  obtain ⟨k,B,rfl,rfl,hb,X⟩:=hrel
  have L:q ≠ 0:=by omega
  by_cases F:k<n
  ·have e1:q ^ (k+1)=q ^ k * q:=N1 _ _
   have K:(0:Int)<=65536 / q:=Ox (by omega) (by omega)
   have H:65536 / q<=65536:=OC _ (by omega)
   by_cases h5:65536 / q<q ^ k
   ·have Z:¬ q ^ n<=65536:=by intro h;have S:=dJ (show 1<=q by omega) (show k+1<=n by omega);have E:65536<q ^ k * q:=P6 (by omega) h5;omega
    have Y:=Z5 (AS Z)
    clear e1 Z
    generalize q ^ k=z at *
    go_wp2_with fail
    go_ret2
    exact ⟨gM Y.1.symm Y.2.symm,rfl⟩
   ·have S:q ^ k * q<=65536:=by have:=QZ (show (0:Int)<q by omega) (show q ^ k<=65536 / q by omega);exact this
    have E:1 * 1<=q ^ k * q:=Ow X (by omega) (by omega) (by omega)
    have V:=Z5 e1
    clear e1
    generalize U:q ^ k=z at *
    have C:=Z5 U
    clear U
    go_wp2_with fail
    go_round
    case rel=>exact ⟨k+1,by omega,by go_num,by rw [V.out],by rw [V.out];exact S,by rw [V.out];omega⟩
    case measure=>simp [intOf]<;>omega
  ·obtain rfl:k=n:=by omega
   have Y:=Z5 (od hb)
   generalize q ^ k=z at *
   go_wp2_with fail
   go_ret2
   exact ⟨gM Y.1.symm Y.2.symm,rfl⟩
theorem K9 (a:Nat) (h:a<4294967296):bits .and .u64 (a:Int) 4294967295=a:=by have h2:=bits_and_u64_nat a 4294967295 (by omega) (by omega);have e:a &&& 4294967295=a % 4294967296:=Nat.and_two_pow_sub_one_eq_mod a 32;rw [e,Qa h] at h2;exact h2
theorem Ma {n:Int} (h:0<=n) (h2:n<=10000000):wrap64 n=n:=by unfold wrap64;omega
theorem FN (x y:Nat) (K:x<=65536) (hy:y<=100) (w:ej) :
  Calls prog 246 #[.int .u64 x,.int .u64 y] w λe w'=>e = ec #[.int .u64 0,.int .u64 ((x:Int) * y)]/\w=w':=by
 have L:(x:Int) * y<=65536 * 100:=Ow (by omega) (by omega) (by omega) (by omega);have Y:0<=(x:Int) * y:=OZ (by omega) (by omega);obtain ⟨p,Z⟩:∃p:Nat,(x:Int) * y=p:=⟨((x:Int) * y).toNat,by omega⟩
 have e1:=K9 x (by omega);have N:=K9 y (by omega);have X:(x:Int) / 4294967296=0:=by omega
 have V:(y:Int) / 4294967296=0:=by omega
 have S:(p:Int) / 4294967296=0:=by omega
 have Q:bits .and .u64 0 4294967295=0:=by decide
 have kw:IntKind.u64.wrap (p:Int)=p:=by rw [Pe];omega
 have U:=Z5 Z;rw [Z];go_enter func246,ntmps246;go_wp2;go_ret2;first
  | exact ⟨rfl,rfl⟩
  | (refine ⟨?_,rfl⟩;simp)
theorem ET (x y:Nat) (S:x<18446744073709551616) (hy:1<=y) (X:y<=100) (w:ej) :
  Calls prog 247 #[.int .u64 0,.int .u64 x,.int .u64 y] w λe w'=>e = ec #[.int .u64 ((x / y:Nat):Int),.int .u64 ((x % y:Nat):Int)]/\SJ w w':=by
 have h0:((y:Int) == 0)=false:=by simp;omega
 have h1:decide ((y:Int)<=0)=false:=by simp;omega
 have Z:((y:Int)) ≠ 0:=by omega
 have V:(x:Int).tdiv y=((x / y:Nat):Int):=by rw [OF (by omega)];simp
 have N:(x:Int).tmod y=((x % y:Nat):Int):=by rw [Oo (by omega)];simp
 have hd:x / y<=x:=Qg x y;have hm:x % y<y:=O8 x (by omega);generalize x / y=q at *;generalize x % y=r at *;have Q:IntKind.u64.wrap (q:Int)=(q:Int):=by rw [Pe];omega
 have U:IntKind.u64.wrap (r:Int)=(r:Int):=by rw [Pe];omega
 clear hd hm;have hw:=M5 w.heap.size w;have Y:=(M5 w.heap.size w).drew;go_enter func247,ntmps247;go_upto_region 6 with fail;go_quiet (fail);go_wp2_with fail;go_ret2;exact ⟨rfl,(Sd ⟨_,rfl⟩)⟩
theorem CZ (n k:Nat) (w:ej) (hn:n<=64) (hk:k<=n) :
  Calls prog 206 #[cG n,cG k,cG 65536] w λe w'=>e = ec #[cG (Fk n k),cG (FP n k)]/\SJ w w':=by
 obtain ⟨t,r⟩:∃t:Nat,min k (n - k)=t:=⟨_,rfl⟩
 have X:dW n k=dW n t:=by
  rcases Nat.le_total k (n - k) with h | h
  ·rw [<- r,QT h]
  ·rw [<- r,Nat.min_eq_right h];exact tS n k hk
 have hmin:min (k:Int) ((n:Int) - k)=t:=by omega
 have H:t<=n:=by omega
 have hkn:decide (n<k)=false:=by simp;omega
 have HcE:Hid (¬ dW n t<=65536->Fk n k=0/\FP n k=8):=λh=>by unfold Fk FP;rw [X,M8 h,M8 h];exact ⟨rfl,rfl⟩
 have E:Hid (dW n t<=65536->Fk n k=dW n t/\FP n k=0):=λh=>by unfold Fk FP;rw [X,M7 h,M7 h];exact ⟨rfl,rfl⟩
 clear X r;go_enter func206,ntmps206;go_upto_region 7 with fail;go_cut [1] (λv wx=>v = cG t/\wx=w);case first =>
  by_cases hm:(n:Int) - k<k
  ·have B:decide ((n:Int) - k<k)=true:=Nv hm
   have he:(n:Int) - k=t:=by omega
   go_wp2_with fail
   go_meet
   exact ⟨by first|exact congrArg (Value.int .i64) (by omega)|rfl|(simp [he]),rfl⟩
  ·have B:decide ((n:Int) - k<k)=false:=Nu hm
   have he:(k:Int)=t:=by omega
   go_wp2_with fail
   go_meet
   exact ⟨by first|exact congrArg (Value.int .i64) (by omega)|rfl|(simp [he]),rfl⟩
 obtain ⟨rfl,Q⟩:=hcut;obtain rfl:=Q.symm;clear Q;go_wp2_with fail;go_loopw [9,8] (λF ov wr=>∃i:Nat,i<=t/\F = cG ((i:Int)+1)/\ov = cG (dW (n - t+i) i:Nat)/\dW (n - t+i) i<=65536/\SJ w wr) (λF _ _=>t+1 - (intOf F).toNat);case atStart=>exact ⟨0,Nb _,rfl,by rw [ja];rfl,by rw [ja];omega,M5 _ _⟩
 case round =>
  obtain ⟨i,hi,rfl,rfl,N,hb⟩:=hrel
  by_cases hlt:i<t
  ·have Y:Hid (dW (n - t+i) i * (n - t+(i+1)) / (i+1)=dW (n - t+(i+1)) (i+1)):=IB n t i
   have V:Hid (dW (n - t+(i+1)) (i+1)<=dW n t):=vM H (t - (i+1)) (i+1) (by omega)
   obtain ⟨x,hx⟩:∃x,dW (n - t+i) i=x:=⟨_,rfl⟩
   rw [hx] at N Y ⊢
   obtain ⟨y,hy⟩:∃y,n - t+(i+1)=y:=⟨_,rfl⟩
   have A:((n:Int) - (t:Int)+((i:Int)+1))=y:=by omega
   rw [hy] at Y V
   have Hy:=Z5 hy
   obtain ⟨u,hu⟩:∃u,dW (n - t+(i+1)) (i+1)=u:=⟨_,rfl⟩
   rw [hy] at hu
   rw [hu] at Y V
   have hx1:1<=x:=by rw [<- hx];exact o0 _ _ (by omega)
   obtain ⟨j,hj⟩:∃j,i+1=j:=⟨_,rfl⟩
   have U:(i:Int)+1=j:=by omega
   obtain ⟨p,I⟩:∃p,x * y=p:=⟨_,rfl⟩
   have L:(x:Int) * (y:Int)=p:=by rw [<- I];simp
   have hpl:p<=65536 * 64:=by rw [<- I];have h1:=O0 N (show y<=64 by omega);omega
   rw [I,hj] at Y
   have hup:u<=p:=by rw [<- Y.out];exact Qg p j
   have Hu:=Z5 hu
   have Hj:=Z5 hj
   have d2:decide ((j:Int)<=0)=false:=by simp;omega
   have k1:IntKind.u64.wrap (x:Int)=x:=by rw [Pe];omega
   have k2:IntKind.u64.wrap (y:Int)=y:=by rw [Pe];omega
   have k3:IntKind.u64.wrap (j:Int)=j:=by rw [Pe];omega
   have k4:IntKind.i64.wrap (u:Int)=u:=Nn _ (by omega)
   have K5:Hid (wrap64 (y:Int)=y):=Ma (by omega) (by omega)
   have Hm:=Z5 (FN x y N (by omega))
   rw [L] at Hm
   have Hd:=Z5 (ET p j (by omega) (by omega) (by omega))
   rw [Y.out] at Hd
   have C:=Z5 U
   rw [U] at A ⊢
   have d1:decide (j<=t)=true:=by simp;omega
   have d2':decide (j=0)=false:=by simp;omega
   clear hx hy hu I hup hpl U hj Y L
   go_wp2_with fail
   rw [K5.out,k2]
   with_reducible refine (Hm.out wr).mono ?_
   rintro e w' ⟨rfl,rfl⟩
   go_wp2_with fail
   with_reducible refine (Hd.out wr).mono ?_
   rintro e w5 ⟨rfl,hb5⟩
   have S:=RU hb hb5
   by_cases Z:u<=65536
   ·have d3:decide ((65536:Int)<(u:Int))=false:=by simp;omega
    have D:decide (65536<u)=false:=by simp;omega
    go_wp2_with fail
    have h2:wrap64 ((j:Int)+1)=(j:Int)+1:=Ma (by omega) (by have:=Hj.out;omega)
    have H2:=Z5 h2
    clear h2 k1 k2 k3 k4
    go_roundw
    case rel=>exact ⟨i+1,by omega,by rw [H2.out];have:=C.out;congr 1;omega,by rw [Hy.out,Hu.out],by rw [Hy.out,Hu.out];exact Z,S⟩
    case measure=>have:=Hj.out;rw [H2.out];simp [intOf]<;>omega
   ·have d3:decide ((65536:Int)<(u:Int))=true:=by simp;omega
    have D:decide (65536<u)=true:=by simp;omega
    have K:=Z5 (HcE λh=>by have:=V.out;omega)
    clear Z
    go_wp2_with fail
    go_ret2
    exact ⟨gM K.1.symm K.2.symm,S⟩
  ·obtain rfl:i=t:=by omega
   have d1:decide ((i:Int)+1<=(i:Int))=false:=by simp;omega
   rw [show n - i+i=n by omega] at N ⊢
   have K:=Z5 (E N)
   generalize dW n i=z at *
   go_wp2_with fail
   go_ret2
   exact ⟨gM K.1.symm K.2.symm,hb⟩
end Go.Proofs.YthglbncgemdcbaaGreat
