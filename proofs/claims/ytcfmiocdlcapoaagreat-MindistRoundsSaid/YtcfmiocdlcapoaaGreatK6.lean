import Derived.Test.YtcfmiocdlcapoaaGreatK5
import Derived.Test.YtcfmiocdlcapoaaGreatK1
namespace Go.Proofs.YtcfmiocdlcapoaaGreat
set_option linter.unusedVariables false
set_option linter.unusedSimpArgs false
set_option linter.unusedSectionVars false
set_option maxRecDepth 100000
set_option maxHeartbeats 1600000
open Go.RowKit
section
variable {w : World} {b : Nat} {P : Int} {M q : Nat} {ex lg : Lz}
theorem Au.drewN (h : Au w b P M q ex lg) (n : Nat) : Au (w.drewN n) b P M q ex lg:=h.ah (below_drewN (Below.refl _ _) n)
theorem vF (x : Int) (h : Au w b P M q ex lg) (hx0 : 0<=x) (hx1 : x<q) :
  Calls Tryz.prog 88 #[.pointer (some ⟨b,0,none⟩),.int .i64 x] w (jV w (fneg P M x)):=by
 have hcp:=h.cp
 have hp2:=h.p2
 have hp256:=h.p256
 have hq256:=h.q256
 have HPw:=Z5 h.pw
 go_enter Tryz.func88,Tryz.ntmps88
 go_wp2_with (go_at_call 162;(with_reducible refine (fR x h hx0 hx1).mono ?_);rintro e w' ⟨rfl,rfl⟩)
 go_loopw [1,5,6] (λxv sv pv wr=>∃(k : Nat) (X s p : Int),k<=M/\xv = .int .i64 X/\sv = .int .i64 s/\pv = .int .i64 p/\Hid (p=P ^ k)/\1<=p/\p<=256 /\
   0<=X/\X<=256/\0<=s/\s<p/\Hid (X=jw x P k)/\Hid (s+P ^ k * fneg P (M - k) X=fneg P M x)/\∃n,wr=w.drewN n)
  (λxv _ _ _=>(intOf xv).toNat)
 case atStart =>
  exact ⟨0,x,0,1,by omega,rfl,rfl,rfl,by show (1 : Int)=P ^ 0;simp,by omega,by omega,hx0,by omega,by omega,by omega,rfl,by show 0+P ^ 0 * fneg P (M - 0) x=_;simp,0,rfl⟩
 case round =>
  obtain ⟨k,X,s,p,hkM,rfl,rfl,rfl,hp,hp1,hp2',hX0,hX1,hs0,hs1,hX,hinv,n,hwr⟩:=hrel
  have hcpr : wr.cell? ⟨b,0,none⟩=some (.int .i64 P):=by rw [hwr];exact hcp
  have Hwr:=Z5 hwr
  clear hwr
  by_cases hz : X=0
  ·subst hz
   have hfin : s=fneg P M x:=by
    have:=hinv.out
    rw [vG] at this
    omega
   have Hfin:=Z5 hfin
   clear hfin
   go_wp2
   go_ret
   exact ⟨n,aF Hfin.out,Hwr.out⟩
  ·have hkM' : k<M:=by
    rcases Nat.lt_or_ge k M with h1 | h1
    ·exact h1
    ·exfalso
     obtain rfl : k=M:=by omega
     have e1:=ph P (by omega) k x hx0 (by rw [<- HPw.out];exact hx1)
     exact hz (by rw [hX.out];exact e1)
   have hmeas : X / P<X:=Int.ediv_lt_of_lt_mul (by omega) (by have:=Int.mul_le_mul_of_nonneg_left hp2 hX0;omega)
   have hXd:=Int.ediv_nonneg hX0 (show 0<=P by omega)
   have m1:=Int.emod_nonneg X (show P ≠ 0 by omega)
   have m2:=Int.emod_lt_of_pos X (show 0<P by omega)
   have m5:=Int.emod_nonneg (P - X % P) (show P ≠ 0 by omega)
   have m6:=Int.emod_lt_of_pos (P - X % P) (show 0<P by omega)
   have hpp : p * P=P ^ (k+1):=by rw [hp.out,Int.pow_succ]
   have hpM : P ^ (k+1)<=256:=by have h1:=cW (show 1<=P by omega) (show k+1<=M by omega);have h2:=HPw.out;omega
   have m7 : 0<=(P - X % P) % P * p:=Int.mul_nonneg m5 (by omega)
   have m8 : (P - X % P) % P * p+p<=p * P:=by
    have:=Int.mul_le_mul_of_nonneg_left (show (P - X % P) % P+1<=P by omega) (show 0<=p by omega)
    rw [Int.mul_add] at this
    rw [Int.mul_comm _ p]
    omega
   have m9 : p * 1<=p * P:=Int.mul_le_mul_of_nonneg_left (by omega) (by omega)
   have hinv2 : s+(P - X % P) % P * p+P ^ (k+1) * fneg P (M - (k+1)) (X / P)=fneg P M x:=by
    rw [<- hinv.out,show M - k=(M - (k+1))+1 from by omega,fneg,step_eq P s _ 0,hp.out]
   have hP0 : P ≠ 0:=by omega
   have hg : 0<X:=by omega
   obtain ⟨D,hD⟩ : ∃D,D=(P - X % P) % P:=⟨_,rfl⟩
   rw [<- hD] at m5 m6 m7 m8 hinv2
   have r1 : X.tmod P=X % P:=IntWalk.rem_in _ _ hX0
   have r3 : IntKind.i64.wrap (P - X % P)=P - X % P:=IntWalk.i64_in _ (by omega)
   have r4 : (P - X % P).tmod P=D:=by rw [IntWalk.rem_in _ _ (by omega),hD]
   have r5 : IntKind.i64.wrap (D * p)=D * p:=IntWalk.i64_in _ (by omega)
   have r6 : IntKind.i64.wrap (s+D * p)=s+D * p:=IntWalk.i64_in _ (by omega)
   have hpl : p * P<=256:=by rw [hpp];exact hpM
   have Hinv2:=Z5 hinv2
   have Hpp:=Z5 hpp
   have Hmeas:=Z5 hmeas
   clear hinv2 hpp hmeas hD
   go_wp2_with fail
   go_quiet (fail)
   clear r1 r3 r4 r5 r6
   go_wp2
   go_roundw
   case rel =>
    refine ⟨k+1,_,_,_,by omega,rfl,rfl,rfl,Hpp.out,by omega,by omega,by omega,by have:=Hmeas.out;omega,by omega,by omega,?_,Hinv2.out,oS Hwr.out _⟩
    show _=jw x P (k+1);rw [jw,<- hX.out]
   case measure=>have:=Hmeas.out;simp [intOf] <;> omega
def JK (P : Int) (M : Nat) (x y : Int) : Int:=fsum P M x (fneg P M y)
theorem DL (x y : Int) (h : Au w b P M q ex lg) (hx0 : 0<=x) (hx1 : x<q) (hy0 : 0<=y) (hy1 : y<q) :
  Calls Tryz.prog 191 #[.pointer (some ⟨b,0,none⟩),.int .i64 x,.int .i64 y] w (jV w (JK P M x y)):=by
 have hn:=sq (show 0<P by have:=h.p2;omega) M y
 have hn2 : fneg P M y<q:=by rw [h.pw];exact hn.2
 have hn1:=hn.1
 clear hn
 go_enter Tryz.func191,Tryz.ntmps191
 go_wp2_with fail
 refine (vF y h hy0 hy1).mono ?_
 rintro e w1 ⟨n,rfl,rfl⟩
 go_wp2_with fail
 refine (vO x _ (h.drewN n) hx0 hx1 hn1 hn2).mono ?_
 rintro e w1 ⟨n2,rfl,rfl⟩
 go_wp2_with fail
 go_ret
 exact ⟨_,rfl,rfl⟩
theorem DX (x : Int) (h : Au w b P M q ex lg) (hx0 : 0<x) (hx1 : x<q) :
  Calls Tryz.prog 193 #[.pointer (some ⟨b,0,none⟩),.int .i64 x] w λe w'=>∃n,e = .returned (.tuple #[.int .i64 (Ab q ex lg x),.int .i64 0])/\w'=w.drewN n:=by
 obtain ⟨ae,ce,hce,hie⟩:=h.ce
 obtain ⟨al,cl,hcl,hil⟩:=h.cl
 have hcq:=h.cq
 have hx' : (x == 0)=false:=by rw [beq_eq_false_iff_ne];omega
 obtain ⟨xn,rfl⟩ : ∃n : Nat,x=n:=⟨x.toNat,by omega⟩
 have lx:=h.lb xn (by omega)
 have cx:=hil.cell xn (by omega)
 have hpe:=hie.pl
 have hpl:=hil.pl
 have hq2:=h.q2
 have hq256:=h.q256
 have hm0:=Int.emod_nonneg ((q : Int) - 1 - nth lg xn) (show (q : Int) - 1 ≠ 0 by omega)
 have hm1:=Int.emod_lt_of_pos ((q : Int) - 1 - nth lg xn) (show 0<(q : Int) - 1 by omega)
 obtain ⟨k,hk⟩ : ∃k : Nat,((q : Int) - 1 - nth lg xn) % ((q : Int) - 1)=k:=⟨(((q : Int) - 1 - nth lg xn) % ((q : Int) - 1)).toNat,by omega⟩
 have hf : Ab q ex lg xn=nth ex k:=by
  unfold Ab
  simp only [Int.toNat_natCast,hk]
 have ck:=hie.cell k (by omega)
 have r2 : IntKind.i64.wrap ((q : Int) - 1)=(q : Int) - 1:=IntWalk.i64_in _ (by omega)
 have r1 : IntKind.i64.wrap ((q : Int) - 1 - nth lg xn)=(q : Int) - 1 - nth lg xn:=IntWalk.i64_in _ (by omega)
 have r3 : ((q : Int) - 1 - nth lg xn).tmod ((q : Int) - 1)=k:=by rw [IntWalk.rem_in _ _ (by omega),hk]
 have r4 : ¬ (q : Int) - 1=0:=by omega
 have r5 : (k : Int)<((q - 1 : Nat) : Int):=by omega
 have r6 : (xn : Int)<q:=by omega
 have Hf:=Z5 hf
 clear hf hk hm0 hm1
 go_enter Tryz.func193,Tryz.ntmps193
 go_wp2_with (first | (go_at_call 162;(with_reducible refine (fR xn h (by omega) hx1).mono ?_);rintro e w' ⟨rfl,rfl⟩))
 go_quiet (fail)
 go_wp2
 go_ret2
 exact ⟨_,by rw [Hf.out];rfl,rfl⟩
structure de where
 P : Int
 M : Nat
 q : Nat
 ex : Lz
 lg : Lz
def de.add (G : de) (x y : Int) : Int:=fsum G.P G.M x y
def de.neg (G : de) (x : Int) : Int:=fneg G.P G.M x
def de.sub (G : de) (x y : Int) : Int:=JK G.P G.M x y
def de.mul (G : de) (x y : Int) : Int:=sH G.q G.ex G.lg x y
def de.inv (G : de) (x : Int) : Int:=Ab G.q G.ex G.lg x
def de.El (G : de) (x : Int) : Prop:=0<=x/\x<G.q
def eD (w : World) (b : Nat) (G : de) : Prop:=Au w b G.P G.M G.q G.ex G.lg
theorem eD.ah {w w' : World} {b : Nat} {G : de} (h : eD w b G) (hb : Below w.heap.size w w') : eD w' b G:=Au.ah h hb
theorem eD.drewN {w : World} {b : Nat} {G : de} (h : eD w b G) (n : Nat) : eD (w.drewN n) b G:=Au.drewN h n
variable {G : de}
theorem de.EA (h : eD w b G) (x y : Int) : G.El (G.add x y):=by
 have:=xH (show 0<G.P by have:=h.p2;omega) G.M x y
 exact ⟨this.1,by rw [h.pw];exact this.2⟩
theorem de.sV (h : eD w b G) (x : Int) : G.El (G.neg x):=by
 have:=sq (show 0<G.P by have:=h.p2;omega) G.M x
 exact ⟨this.1,by rw [h.pw];exact this.2⟩
theorem de.vY (h : eD w b G) (k : Int) (h0 : 0<=k) (h1 : k<(G.q : Int) - 1) : G.El (nth G.ex k.toNat):=h.eb _ (by omega)
theorem de.mI (h : eD w b G) (x y : Int) : G.El (G.mul x y):=by
 unfold de.mul sH
 have hq:=h.q2
 split
 ·exact ⟨Int.le_refl _,by omega⟩
 ·exact de.vY h _ (Int.emod_nonneg _ (by omega)) (Int.emod_lt_of_pos _ (by omega))
theorem de.qT (h : eD w b G) (x : Int) : G.El (G.inv x):=by
 have hq:=h.q2
 exact de.vY h _ (Int.emod_nonneg _ (by omega)) (Int.emod_lt_of_pos _ (by omega))
theorem JD (x y : Int) (h : eD w b G) (hx : G.El x) (hy : G.El y) :
  Calls Tryz.prog 152 #[.pointer (some ⟨b,0,none⟩),.int .i64 x,.int .i64 y] w (jV w (G.add x y)):=vO x y h hx.1 hx.2 hy.1 hy.2
theorem Fv (x : Int) (h : eD w b G) (hx : G.El x) :
  Calls Tryz.prog 88 #[.pointer (some ⟨b,0,none⟩),.int .i64 x] w (jV w (G.neg x)):=vF x h hx.1 hx.2
theorem Jw (x y : Int) (h : eD w b G) (hx : G.El x) (hy : G.El y) :
  Calls Tryz.prog 191 #[.pointer (some ⟨b,0,none⟩),.int .i64 x,.int .i64 y] w (jV w (G.sub x y)):=DL x y h hx.1 hx.2 hy.1 hy.2
theorem qF (x y : Int) (h : eD w b G) (hx : G.El x) (hy : G.El y) :
  Calls Tryz.prog 153 #[.pointer (some ⟨b,0,none⟩),.int .i64 x,.int .i64 y] w (jV w (G.mul x y)) :=
 (DS x y h hx.1 hx.2 hy.1 hy.2).mono λ_ _ ⟨n,h1,h2⟩=>⟨n,h1,h2⟩
theorem BH (x : Int) (h : eD w b G) (hx : G.El x) (hx0 : x ≠ 0) :
  Calls Tryz.prog 193 #[.pointer (some ⟨b,0,none⟩),.int .i64 x] w λe w'=>∃n,e = .returned (.tuple #[.int .i64 (G.inv x),.int .i64 0])/\w'=w.drewN n :=
 DX x h (by have:=hx.1;omega) hx.2
theorem J7 (x : Int) (h : eD w b G) :
  Calls Tryz.prog 138 #[.pointer (some ⟨b,0,none⟩),.int .i64 x] w λe w'=>e = .returned (.bool (decide (0<=x) && decide (x<G.q)))/\w=w':=zh x h
def de.B9 (G : de) (l : Lz) : Prop:=∀x ∈ l,G.El x
theorem de.B9.nth {l : Lz} (h : G.B9 l) {i : Nat} (hi : i<l.length) : G.El (nth l i):=h _ (aN hi)
def cC (w : World) (l : Lz) (e : Ending) (w' : World) : Prop :=
 ∃a c,e = .returned (.slice a l.length c)/\w'.ownsRow w.heap.size 3 1 (.slice a l.length c) l.length (l.map (Value.int .i64))/\Below w.heap.size w w'
theorem xS (s : Int) (a : OA) (n c : Nat) (l : Lz) (h : eD w b G) (hs : G.El s) (hi : Ints w a n l) (hl : G.B9 l) (hn : n<=1000000) :
  Calls Tryz.prog 194 #[.pointer (some ⟨b,0,none⟩),.int .i64 s,.slice a n c] w (cC w (l.map (G.mul s))):=by
 have hlen:=hi.len
 have hpl:=hi.pl
 go_enter Tryz.func194,Tryz.ntmps194
 go_wp2_with (at_make;refine bV rfl _ _ 22 3 rfl (.int .i64 0) 8 Tryz.underlying22 aX rfl n rfl rfl (by omega) (by unfold maxLen;omega) ?_;intro a1 w1 hown hbel hge hlt)
 go_loopw [15] (λiv wr=>∃k : Nat,k<=n/\iv = .int .i64 k /\
   wr.ownsRow w.heap.size 3 1 (.slice a1 n n) n ((bT ((l.take k).map (G.mul s)) k n).map (Value.int .i64))/\Below w.heap.size w wr)
  (λi _=>n - (intOf i).toNat)
 case atStart=>exact ⟨0,Nat.zero_le _,rfl,by simpa [bT] using hown,hbel⟩
 case round =>
  obtain ⟨k,hk,rfl,hown,hbel⟩:=hrel
  obtain ⟨hints,hmine⟩:=Ints.own hown
  have hpl1:=hints.pl
  by_cases hlt : k<n
  ·have hc:=(hi.ah hbel).cell k hlt
   have hel:=hl.nth (i:=k) (by omega)
   have hf:=(hmine (by omega)).2 k hlt
   have hc2:=hints.cell k hlt
   have hB:=(hmine (by omega)).1
   go_wp2_with fail
   refine (qF s (nth l k) (h.ah hbel) hs hel).mono ?_
   rintro e w2 ⟨m,rfl,rfl⟩
   go_wp2_with fail
   go_roundw
   case rel =>
    refine ⟨k+1,by omega,by go_num,?_,(below_drewN hbel m).setCell hB _⟩
    have h:=bC (w:=wr.drewN m) hown k hlt (.int .i64 (G.mul s (nth l k)))
    rw [<- List.map_set,dC _ _ _ _ (by simp;omega) hlt] at h
    rw [List.take_succ_eq_append_getElem (by omega),List.map_append]
    rw [ai (by omega)] at h ⊢
    exact h
   case measure=>simp [intOf] <;> omega
  ·obtain rfl : k=n:=by omega
   have hfin : bT ((l.take k).map (G.mul s)) k k=l.map (G.mul s):=by
    rw [eh,List.take_of_length_le (by omega)]
   rw [hfin] at hown
   have hl2 : (l.map (G.mul s)).length=k:=by simp [hlen]
   have Hl2:=Z5 hl2
   clear hl2 hfin
   go_wp2_with fail
   go_ret
   exact ⟨a1,k,by rw [Hl2.out];rfl,by rw [Hl2.out];exact hown,hbel⟩
end
def logTo (q : Nat) (ex : Lz) : Nat->Lz
 | 0=>List.replicate q 0
 | k+1=>(logTo q ex k).set (nth ex k).toNat k
theorem jo (q : Nat) (ex : Lz) : ∀k,(logTo q ex k).length=q
 | 0=>by simp [logTo]
 | k+1=>by simp [logTo,jo q ex k]
theorem zj (q : Nat) (ex : Lz) (hq : 2<=q) : ∀k,k<=q - 1->∀i,0<=nth (logTo q ex k) i/\nth (logTo q ex k) i<(q : Int) - 1
 | 0,_,i=>by
  have : nth (logTo q ex 0) i=0:=by
   simp only [logTo,nth,List.getD_eq_getElem?_getD,List.getElem?_replicate];split <;> rfl
  omega
 | k+1,hk,i=>by
  have ih:=zj q ex hq k (by omega) i
  by_cases h : (nth ex k).toNat<q
  ·rw [logTo,ff _ _ _ _ (by rw [jo];exact h)]
   split <;> omega
  ·rw [logTo,List.set_eq_of_length_le (by rw [jo];omega)]
   exact ih
theorem uh (P : Int) (M : Nat) (mod : Lz) (q : Nat) : ∀(n x : Nat),genTo P M mod q n x ≠ []->∃y : Nat,x<=y/\y<x+n/\gw P M mod q y=true/\genTo P M mod q n x=fQ P M mod q y
 | 0,x,h=>absurd rfl h
 | n+1,x,h=>by
  rw [genTo] at h ⊢
  by_cases hg : gw P M mod q x=true
  ·rw [if_pos hg]
   exact ⟨x,Nat.le_refl _,by omega,hg,rfl⟩
  ·rw [if_neg hg] at h ⊢
   obtain ⟨y,h1,h2,h3,h4⟩:=uh P M mod q n (x+1) h
   exact ⟨y,by omega,by omega,h3,h4⟩
theorem qI {P : Int} {M : Nat} {mod : Lz} {q : Nat} (h : gK P M mod q ≠ []) : ∃y : Nat,1<=y/\y<q/\gw P M mod q y=true/\gK P M mod q=fQ P M mod q y:=by
 obtain ⟨y,h1,h2,h3,h4⟩:=uh P M mod q (q - 1) 1 h
 exact ⟨y,h1,by omega,h3,h4⟩
def aa (P : Int) (M : Nat) (mod : Lz) : de :=
 { P:=P,M:=M,q:=(aK P M).toNat,ex:=gK P M mod (aK P M).toNat,lg:=logTo (aK P M).toNat (gK P M mod (aK P M).toNat) ((aK P M).toNat - 1) }
theorem Dd {w : World} {P M : Int} {am : OA} {mn : Nat} {mod : Lz} (hm : Ints w am mn mod) (h : b8 P M mod=true) : mn<=8:=by
 simp only [b8,Bool.and_eq_true,bne_iff_ne,ne_eq] at h
 obtain ⟨⟨h0,h1⟩,h2⟩:=h
 obtain ⟨b1,b2,b3,b4,b5,b6⟩:=gN h0
 have hl:=hm.len
 by_cases hM : M=1
 ·rw [if_pos hM] at h2
  have h3 : mod.length=0:=by simpa using h2
  omega
 ·rw [if_neg hM] at h2
  simp only [Bool.and_eq_true,decide_eq_true_eq] at h2
  omega
def GH (B : Nat) (w : World) (b : Nat) (G : de) : Prop:=∀V : World,(∀k,B<=k->k<w.heap.size->V.heap[k]? = w.heap[k]?)->eD V b G
theorem GH.gf {B : Nat} {w : World} {b : Nat} {G : de} (h : GH B w b G) : eD w b G:=h w λ_ _ _=>rfl
theorem GH.mono {B B' : Nat} {w : World} {b : Nat} {G : de} (h : GH B w b G) (hB : B'<=B) : GH B' w b G:=λV hV=>h V λk h1 h2=>hV k (Nat.le_trans hB h1) h2
theorem GH.setCell {B : Nat} {w : World} {b : Nat} {G : de} (h : GH B w b G) {p : Addr} (hp : p.block<B) (v : Value) : GH B (w.setCell p v) b G:=λV hV=>h V λk h1 h2 =>
 (hV k h1 (by have:=((Below.refl 0 w).setCell (p:=p) (Nat.zero_le _) v).size;omega)).trans (Below.heap_setCell _ _ _ _ (by omega))
def G4 (P M : Int) (mod : Lz) (w : World) (e : Ending) (w' : World) : Prop :=
 (bA P M mod=false/\e = .returned (.tuple #[.pointer none,.int .i64 1])/\Below w.heap.size w w') \/
 (bA P M mod=true/\∃b,e = .returned (.tuple #[.pointer (some ⟨b,0,none⟩),.int .i64 0])/\GH w.heap.size w' b (aa P M.toNat mod)/\w.heap.size<=b/\Below w.heap.size w w')
theorem fH (P M : Int) (am : OA) (mn cm : Nat) (mod : Lz) (w : World) (hmod : Ints w am mn mod) :
  Calls Tryz.prog 86 #[.agg #[.int .i64 P,.int .i64 M,.slice am mn cm]] w (G4 P M mod w):=by
 have hbox : ∀w' : World,Below (w.heap.size+1) (w.alloc (.cells #[.int .i64 P,.int .i64 M,.slice am mn cm] 24)) w' ->
   w'.cell? ⟨w.heap.size,0,none⟩=some (.int .i64 P)/\w'.cell? ⟨w.heap.size,1,none⟩=some (.int .i64 M)/\w'.cell? ⟨w.heap.size,2,none⟩=some (.slice am mn cm)/\Below w.heap.size w w':=by
  intro w' h
  refine ⟨(h.cell (by simp)).trans (by simp),(h.cell (by simp)).trans (by simp),(h.cell (by simp)).trans (by simp),((Below.refl _ _).alloc (Nat.le_refl _) _).trans (h.mono (by omega))⟩
 have Hbox:=Z5 hbox
 clear hbox
 go_enter Tryz.func86,Tryz.ntmps86
 go_wp2_with fail
 generalize hW0 : w.alloc (.cells #[.int .i64 P,.int .i64 M,.slice am mn cm] 24)=W0 at *
 have hW0s : W0.heap.size=w.heap.size+1:=by rw [<- hW0];simp
 obtain ⟨q0,q1,q2,hbw⟩:=Hbox.out W0 (Below.refl _ _)
 clear hW0
 refine (qX P M am mn cm mod W0 (hmod.ah hbw)).mono ?_
 rintro e w1 ⟨rfl,hb1⟩
 have hB1 : Below (w.heap.size+1) W0 w1:=hb1.mono (by omega)
 obtain ⟨q0,q1,q2,hbw⟩:=Hbox.out w1 hB1
 by_cases hs : b8 P M mod=true
 case neg =>
  have hs' : b8 P M mod=false:=by simpa using hs
  have Hf:=Z5 (show bA P M mod=false by simp [bA,hs'])
  clear hs
  go_wp2_with fail
  go_ret2
  exact .inl ⟨Hf.out,rfl,hbw⟩
 have hmn:=Dd hmod hs
 obtain ⟨m,rfl,hd,ho,hq⟩:=rF hmod hs
 go_wp2_with fail
 refine (iq _ _ _).mono ?_
 rintro e w2 ⟨rfl,rfl⟩
 have hoq : aK P m=((aK P m).toNat : Int):=by rw [hq,ho]
 have hfB : bA P m mod = !(gK P m mod (aK P m).toNat).isEmpty:=by simp [bA,hs]
 have hT : aa P ((m : Int).toNat) mod = { P:=P,M:=m,q:=(aK P m).toNat,ex:=gK P m mod (aK P m).toNat,lg:=logTo (aK P m).toNat (gK P m mod (aK P m).toNat) ((aK P m).toNat - 1) }:=rfl
 have HT:=Z5 hT
 have HfB:=Z5 hfB
 rw [hoq]
 generalize (aK P m).toNat=q at *
 have Hq:=Z5 hq
 clear hoq hfB ho hT hq hs
 go_wp2_with fail
 refine (n9 P m am mn cm mod q w1 (hd.ah hbw) Hq.out).mono ?_
 rintro e w2 ⟨a2,c2,rfl,hown2,hnil2,hb2⟩
 have hin2:=sg.isNone hown2 hnil2
 have hB2 : Below (w.heap.size+1) W0 w2:=hB1.trans (hb2.mono (by have:=hB1.size;omega))
 obtain ⟨r0,r1,r2,hbw2⟩:=Hbox.out w2 hB2
 have heq:=λ(w : World) (a : OA) (l c : Nat)=>Go.run_eql_slice_nil (P:=Tryz.prog) w 22 3 a l c Tryz.underlying22
 by_cases hge : gK P m mod q=[]
 ·have hf : bA P m mod=false:=by rw [HfB.out,hge];rfl
  rw [hge] at hin2
  have hin3 : a2.isNone=true:=hin2
  have Hf:=Z5 hf
  clear hf hge hin2
  go_wp2_with fail
  go_ret2
  exact .inl ⟨Hf.out,rfl,hbw2⟩
 ·have hin3 : a2.isNone=false:=by
   rw [hin2];cases h : gK P m mod q with
   | nil=>exact absurd h hge
   | cons x l=>rfl
  obtain ⟨y,hy1,hy2,hgy,hpy⟩:=qI hge
  have hP0 : 0<P:=by have:=hd.p2;omega
  have hq2 : 2<=q:=by omega
  have hq256 : q<=256:=by have:=hd.pw;have:=Hq.out;omega
  have hlen : (gK P m mod q).length=q - 1:=by
   rw [hpy]
   simp only [gw,Bool.and_eq_true,beq_iff_eq] at hgy
   exact hgy.1
  have hexb : ∀i,0<=nth (gK P m mod q) i/\nth (gK P m mod q) i<q:=by
   intro i
   rw [hpy]
   exact rS hP0 m mod q y Hq.out hq2 (by omega) (by omega) i
  have hf : bA P m mod=true:=by
   rw [HfB.out];cases h : gK P m mod q with
   | nil=>exact absurd h hge
   | cons x l=>rfl
  have Hf:=Z5 hf
  have Hexb:=Z5 hexb
  rw [hlen] at hown2
  rw [hlen]
  have HLn:=Z5 hlen
  have hi2:=(Ints.own hown2).1
  have hmod2:=hmod.ah hbw2
  clear hin2 hge hf hexb hlen hpy hgy hnil2
  generalize gK P m mod q=ex at *
  have hmk:=run_mk (P:=Tryz.prog) 22 3 (.int .i64 0) 8 Tryz.underlying22 aX rfl q (by omega) (by omega)
  go_upto_region 7 with fail
  go_cut [6] (λv wx=>∃(gb : Nat) (al : OA),v = .pointer (some ⟨gb,0,none⟩)/\w2.heap.size<=gb/\w2.heap.size<=ablk al/\ablk al ≠ gb /\
   wx.cell? ⟨gb,0,none⟩=some (.int .i64 P)/\wx.cell? ⟨gb,3,none⟩=some (.int .i64 q)/\wx.cell? ⟨gb,4,none⟩=some (.slice a2 (q - 1) c2)/\wx.cell? ⟨gb,5,none⟩=some (.slice al q q) /\
   wx.ownsRow w2.heap.size 3 1 (.slice al q q) q (List.replicate q (.int .i64 0))/\Below w2.heap.size w2 wx)
  case first =>
   have hO:=fK w2 3
   have hO2 : ((w2.alloc (.cells (Array.replicate q (.int .i64 0)) 3)).alloc (.cells #[] 3)).ownsRow w2.heap.size 3 1 (.slice (some ⟨w2.heap.size+1,0,none⟩) 0 0) 0 []:=by
    have h:=aP (fK (w2.alloc (.cells (Array.replicate q (.int .i64 0)) 3)) 3) (B':=w2.heap.size) (by simp)
    rwa [World.size_alloc] at h
   have hS : ∀W,Below w2.heap.size w2 W->W.cell? ⟨w.heap.size,0,none⟩=some (.int .i64 P)/\W.cell? ⟨w.heap.size,1,none⟩=some (.int .i64 m)/\W.cell? ⟨w.heap.size,2,none⟩=some (.slice am mn cm)/\Ints W am mn mod/\Below w2.heap.size w2 W :=
    λW hb=>⟨aw hb r0,aw hb r1,aw hb r2,hmod2.ah hb,hb⟩
   have HS:=Z5 hS
   clear hS
   go_region_held3 (λw'=>w'.cell? ⟨w.heap.size,0,none⟩=some (.int .i64 P)/\w'.cell? ⟨w.heap.size,1,none⟩=some (.int .i64 m)/\w'.cell? ⟨w.heap.size,2,none⟩=some (.slice am mn cm)/\Ints w' am mn mod/\Below w2.heap.size w2 w')
    ((refine HS.out _ ?_;first | exact (Below.refl _ _).drew | exact ((Below.refl _ _).alloc (Nat.le_refl _) _).drew | exact hbA3 | (go_split_ands;exact Below.bQ (by assumption) _)))
    (first | (obtain ⟨_,_,_,hI9,hB9⟩:=(by assumption : _/\_/\_/\Ints _ am mn mod/\Below w2.heap.size w2 _);refine bg (by rfl) (.tmp 26) (.tmp 28) 22 3 (by rfl) (.int .i64 0) 8 Tryz.underlying22 aX (by rfl) w2.heap.size _ 0 0 [] (by rfl) (by first | exact hO | exact hO.alloc _ | exact hO2) am mn cm (mod.map (Value.int .i64)) (by rfl) hmod2.pl (by simp [hmod2.len]) (Ints.news hI9) (ints_oneCell _ _) (by omega) (by unfold maxLen;omega) (Below.size hB9) ?_;intro a3 c3 w3 hown3 hgr3 hap3;have hbA3 : Below w2.heap.size w2 w3:=Below.app (B:=w2.heap.size) (e:=3) (xs:=[]) hB9 (by first | exact hO | exact hO.alloc _ | exact hO2) hgr3 (Nat.le_refl _) (Below.size hB9)))
   all_goals (go_step;go_step;go_meet)
   ·have hsz:=hbA3.size
    refine ⟨w3.heap.size+1,some ⟨w3.heap.size,0,none⟩,rfl,by omega,hsz,by simp,aH _ _ _ (by simp) 0,aH _ _ _ (by simp) 3,aH _ _ _ (by simp) 4,aH _ _ _ (by simp) 5,?_,Below.bQ (Below.bQ hbA3 _) _⟩
    exact World.ownsRow.alloc (lN w3 3 (.int .i64 0) q rfl hsz (by unfold maxLen;omega)) _
   ·have hsz:=hbA3.size
    have hsz2:=hgr3.size
    simp at hsz2
    refine ⟨w3.heap.size,some ⟨w2.heap.size+1,0,none⟩,rfl,hsz,by simp,by simp;omega,aH _ _ _ rfl 0,aH _ _ _ rfl 3,aH _ _ _ rfl 4,aH _ _ _ rfl 5,?_,Below.bQ hbA3 _⟩
    exact World.ownsRow.alloc (eK (lN (w2.alloc (.cells #[] 3)) 3 (.int .i64 0) q (by simp) (by simp) (by unfold maxLen;omega)) (pW hgr3) (.inr (by simp))) _
   ·have hsz:=hbA3.size
    have hsz2:=hgr3.size
    simp at hsz2
    refine ⟨w3.heap.size,some ⟨w2.heap.size,0,none⟩,rfl,hsz,by simp,by simp;omega,aH _ _ _ rfl 0,aH _ _ _ rfl 3,aH _ _ _ rfl 4,aH _ _ _ rfl 5,?_,Below.bQ hbA3 _⟩
    exact World.ownsRow.alloc (eK ((lN w2 3 (.int .i64 0) q rfl (Nat.le_refl _) (by unfold maxLen;omega)).alloc _) (pW hgr3) (.inr (by simp))) _
  obtain ⟨gb,al,rfl,hgb,hal,hne,g0,g3,g4,g5,hownL,hbc⟩:=hcut
  have hi2c:=hi2.ah hbc
  have hpe:=hi2.pl
  have HLt : Hid (List.replicate q (Value.int .i64 0)=(logTo q ex 0).map (Value.int .i64)):=by show _=_;simp [logTo]
  go_wp2_with fail
  go_loopw [39] (λiv wr=>∃k : Nat,k<=q - 1/\iv = .int .i64 k/\wr.ownsRow w2.heap.size 3 1 (.slice al q q) q ((logTo q ex k).map (Value.int .i64)) /\
    (∀b,b ≠ ablk al->b<wc.heap.size->wr.heap[b]? = wc.heap[b]?)/\Below w2.heap.size w2 wr)
   (λiv _=>q - (intOf iv).toNat)
  case atStart=>exact ⟨0,Nat.zero_le _,rfl,by rw [<- HLt.out];exact hownL,λ_ _ _=>rfl,hbc⟩
  case round =>
   obtain ⟨k,hk,rfl,hownL,hsame,hbr⟩:=hrel
   have HS:=Z5 hsame
   have hgl : gb<wc.heap.size:=World.block_lt_of_cell? wc _ g0
   have hblk:=hsame gb (λh=>hne h.symm) hgl
   have g0r : wr.cell? ⟨gb,0,none⟩=some (.int .i64 P):=(World.cell?_of_block (w:=wc) hblk).trans g0
   have g3r : wr.cell? ⟨gb,3,none⟩=some (.int .i64 q):=(World.cell?_of_block (w:=wc) hblk).trans g3
   have g4r : wr.cell? ⟨gb,4,none⟩=some (.slice a2 (q - 1) c2):=(World.cell?_of_block (w:=wc) hblk).trans g4
   have g5r : wr.cell? ⟨gb,5,none⟩=some (.slice al q q):=(World.cell?_of_block (w:=wc) hblk).trans g5
   have hi2r:=hi2.ah hbr
   obtain ⟨hiL,hmL⟩:=Ints.own hownL
   have hpL:=hiL.pl
   clear hsame hblk
   by_cases hlt : k<q - 1
   ·have ck:=hi2r.cell k hlt
    have hb:=Hexb.out k
    obtain ⟨xn,hxn⟩ : ∃xn : Nat,nth ex k=xn:=⟨(nth ex k).toNat,by omega⟩
    have hnx : logTo q ex (k+1)=(logTo q ex k).set xn k:=by rw [logTo,hxn];rfl
    rw [hxn] at ck hb
    have cL:=hiL.cell xn (by omega)
    have fL:=(hmL (by omega)).2 xn (by omega)
    have BL:=(hmL (by omega)).1
    have Hnx:=Z5 hnx
    clear hnx hxn
    go_wp2_with fail
    go_roundw
    case rel =>
     refine ⟨k+1,by omega,by go_num,?_,λb hb hl=>?_,hbr.setCell BL _⟩
     ·rw [Hnx.out,List.map_set];exact bC hownL xn (by omega) _
     ·rw [Below.heap_setCell _ _ _ _ hb];exact HS.out b hb hl
    case measure=>simp [intOf] <;> omega
   ·obtain rfl : k=q - 1:=by omega
    go_wp2_with fail
    go_ret2
    refine .inr ⟨Hf.out,gb,rfl,?_,by have:=hbw2.size;omega,Below.next hbw2 hbr⟩
    rw [HT.out]
    intro V hV
    have hB:=hbw2.size
    have hB2:=hb2.size
    have hB1:=hbw.size
    have cV : ∀i v,wr.cell? ⟨gb,i,none⟩=some v->V.cell? ⟨gb,i,none⟩=some v:=λi v hv=>(World.cell?_of_block (w:=wr) (a:=⟨gb,i,none⟩) (hV gb (by omega) (World.block_lt_of_cell? wr _ g0r))).trans hv
    refine ⟨hd.p2,hd.m1,hd.m8,Hq.out,hd.p256,hq2,hq256,cV _ _ g0r,cV _ _ g3r,⟨a2,c2,cV _ _ g4r,?_⟩,⟨al,q,cV _ _ g5r,?_⟩,λi _=>Hexb.out i,λi _=>zj q ex hq2 _ (Nat.le_refl _) i⟩
    ·refine hi2r.of_block λhn=>hV _ ?_ (hi2r.lt hn)
     have:=(fJ hown2 hn).1
     omega
    ·refine hiL.of_block λhn=>hV _ ?_ (hiL.lt hn)
     have:=(fJ hownL hn).1
     omega
section
def fG (q x : Int) : Bool:=decide (0<=x) && decide (x<q)
def gD (q : Int) (l : Lz) : Bool:=l.all (fG q)
def iH (q : Int) (l : Lz) : Int:=if gD q l then 0 else 2
def iA (cols : Int) (L : Ll) : Bool:=L.all λr=>decide ((r.length : Int)=cols)
def ew (q cols : Int) (L : Ll) : Int :=
 if cols<0\/256<cols\/256<L.length then 3 else if iA cols L=false then 3 else if L.all (gD q) then 0 else 2
theorem bU {α : Type} {p : α->Bool} {l : List α} {k : Nat} (hk : k<l.length) (h : (l.take k).all p=true) (hp : p l[k]=true) : (l.take (k+1)).all p=true:=by
 rw [List.take_succ_eq_append_getElem hk,List.all_append,h];simp [hp]
theorem bS {α : Type} {p : α->Bool} {l : List α} {k : Nat} (hk : k<l.length) (hp : p l[k]=false) : l.all p=false:=by
 rw [List.all_eq_false];exact ⟨_,List.getElem_mem hk,by simp [hp]⟩
variable {w : World} {b : Nat} {G : de}
theorem yC (a : OA) (n c : Nat) (l : Lz) (h : eD w b G) (hi : Ints w a n l) :
  Calls Tryz.prog 140 #[.pointer (some ⟨b,0,none⟩),.slice a n c] w λe w'=>e = .returned (.int .i64 (iH G.q l))/\w=w':=by
 have hpl:=hi.pl
 have hlen:=hi.len
 have hmax:=hi.max
 unfold maxLen at hmax
 have Hlen:=Z5 hlen
 clear hlen
 go_enter Tryz.func140,Tryz.ntmps140
 go_wp2
 go_loop [9] (λiv=>∃k : Nat,k<=n/\iv = .int .i64 k/\Hid ((l.take k).all (fG G.q)=true)) (λiv=>n - (intOf iv).toNat)
 case atStart=>exact ⟨0,Nat.zero_le _,rfl,by show _=_;simp⟩
 case round =>
  obtain ⟨k,hk,rfl,hall⟩:=hrel
  by_cases hlt : k<n
  ·have hc:=hi.cell k hlt
   by_cases hq : fG G.q (nth l k)=true
   ·have hq':=hq
    unfold fG at hq'
    have Hq:=Z5 hq
    clear hq
    go_wp2_with (first | (go_at_call 138;refine (J7 (nth l k) h).mono ?_;rintro e w' ⟨rfl,rfl⟩))
    go_round
    case rel=>exact ⟨k+1,by omega,by go_num,bU (by rw [Hlen.out];exact hlt) hall.out (by rw [<- ai (by rw [Hlen.out];exact hlt)];exact Hq.out)⟩
    case measure=>simp [intOf] <;> omega
   ·have hq : fG G.q (nth l k)=false:=by simpa using hq
    have hq':=hq
    unfold fG at hq'
    have Hf : Hid (gD G.q l=false):=bS (k:=k) (by rw [Hlen.out];exact hlt) (by rw [<- ai (by rw [Hlen.out];exact hlt)];exact hq)
    clear hq
    go_wp2_with (first | (go_at_call 138;refine (J7 (nth l k) h).mono ?_;rintro e w' ⟨rfl,rfl⟩))
    go_ret
    exact ⟨aF (by rw [iH,Hf.out];rfl),rfl⟩
  ·obtain rfl : k=n:=by omega
   have Hf : Hid (gD G.q l=true):=by have:=hall.out;rw [List.take_of_length_le (by rw [Hlen.out];exact Nat.le_refl _)] at this;exact this
   go_wp2
   go_ret
   exact ⟨aF (by rw [iH,Hf.out];rfl),rfl⟩
theorem Dr (cols : Int) (a : OA) (n c : Nat) (L : Ll) (h : eD w b G) (hi : bZ w a n L) :
  Calls Tryz.prog 206 #[.pointer (some ⟨b,0,none⟩),.agg #[.int .i64 cols,.slice a n c]] w λe w'=>e = .returned (.int .i64 (ew G.q cols L))/\Below w.heap.size w w':=by
 have hpl:=hi.pl
 have hlen:=hi.len
 have hmax:=hi.max
 unfold maxLen at hmax
 have Hlen:=Z5 hlen
 clear hlen
 have hbox : ∀w' : World,Below (w.heap.size+1) (w.alloc (.cells #[.int .i64 cols,.slice a n c] 82)) w' ->
   w'.cell? ⟨w.heap.size,0,none⟩=some (.int .i64 cols)/\w'.cell? ⟨w.heap.size,1,none⟩=some (.slice a n c)/\Below w.heap.size w w':=by
  intro w' h
  refine ⟨(h.cell (by simp)).trans (by simp),(h.cell (by simp)).trans (by simp),((Below.refl _ _).alloc (Nat.le_refl _) _).trans (h.mono (by omega))⟩
 have Hbox:=Z5 hbox
 clear hbox
 have Hal:=Z5 ((Below.refl w.heap.size w).alloc (Nat.le_refl _) (.cells #[.int .i64 cols,.slice a n c] 82))
 by_cases b1 : cols<0
 ·have Hf : Hid (ew G.q cols L=3):=by show _=_;rw [ew,if_pos (.inl b1)]
  go_enter Tryz.func206,Tryz.ntmps206
  go_wp2_with fail
  go_ret
  exact ⟨aF Hf.out.symm,Hal.out⟩
 by_cases b2 : 256<cols
 ·have Hf : Hid (ew G.q cols L=3):=by show _=_;rw [ew,if_pos (.inr (.inl b2))]
  go_enter Tryz.func206,Tryz.ntmps206
  go_wp2_with fail
  go_ret
  exact ⟨aF Hf.out.symm,Hal.out⟩
 by_cases b3 : 256<n
 ·have Hf : Hid (ew G.q cols L=3):=by show _=_;rw [ew,if_pos (.inr (.inr (by rw [Hlen.out];exact b3)))]
  have t1 : decide (cols<0)=false:=by simpa using b1
  have t2 : decide (256<cols)=false:=by simpa using b2
  have t3 : decide (256<(n : Int))=true:=by simp;omega
  go_enter Tryz.func206,Tryz.ntmps206
  go_wp2_with fail
  go_ret
  exact ⟨aF Hf.out.symm,Hal.out⟩
 have Hm : Hid (ew G.q cols L=if iA cols L=false then 3 else if L.all (gD G.q) then 0 else 2):=by
  show _=_;rw [ew,if_neg (by rw [Hlen.out];omega)]
 have t1 : decide (cols<0)=false:=by simpa using b1
 have t2 : decide (256<cols)=false:=by simpa using b2
 have t3 : decide (256<(n : Int))=false:=by simp;omega
 clear b1 b2
 go_enter Tryz.func206,Tryz.ntmps206
 go_wp2_with fail
 generalize hW0 : w.alloc (.cells #[.int .i64 cols,.slice a n c] 82)=W0 at *
 have hW0s : W0.heap.size=w.heap.size+1:=by rw [<- hW0];simp
 obtain ⟨q0,q1,hbw⟩:=Hbox.out W0 (Below.refl _ _)
 have hiW:=hi.ah hbw
 clear hW0
 go_loop [27] (λiv=>∃k : Nat,k<=n/\iv = .int .i64 k/\Hid ((L.take k).all (λr=>decide ((r.length : Int)=cols))=true)) (λiv=>n - (intOf iv).toNat)
 case atStart=>exact ⟨0,Nat.zero_le _,rfl,by show _=_;simp⟩
 case round =>
  obtain ⟨k,hk,rfl,hall⟩:=hrel
  by_cases hlt : k<n
  ·obtain ⟨ra,rn,rc,hcell,hrow⟩:=hiW.cell k hlt
   have hrl:=hrow.len
   have hkL : k<L.length:=by rw [Hlen.out];exact hlt
   rw [aE hkL] at hrl
   have Hrl:=Z5 hrl
   clear hrl
   by_cases he : (rn : Int)=cols
   ·have he' : ((rn : Int) != cols)=false:=by simpa using he
    have Hq : Hid (decide ((L[k].length : Int)=cols)=true):=by show _=_;rw [Hrl.out];simpa using he
    clear he
    go_wp2_with fail
    go_round
    case rel=>exact ⟨k+1,by omega,by go_num,bU hkL hall.out Hq.out⟩
    case measure=>simp [intOf] <;> omega
   ·have he' : ((rn : Int) != cols)=true:=by simpa using he
    have Hq : Hid (ew G.q cols L=3):=by
     show _=_;rw [Hm.out,if_pos]
     exact bS hkL (by simp only [Hrl.out];simpa using he)
    clear he
    go_wp2_with fail
    go_ret
    exact ⟨aF Hq.out.symm,hbw⟩
  ·obtain rfl : k=n:=by omega
   have Hm2 : Hid (ew G.q cols L=if L.all (gD G.q) then 0 else 2):=by
    have:=hall.out;rw [List.take_of_length_le (by rw [Hlen.out];exact Nat.le_refl _)] at this
    show _=_;rw [Hm.out,if_neg (by rw [iA,this];simp)]
   have hG:=h.ah hbw
   go_wp2_with fail
   go_loop [40] (λiv=>∃j : Nat,j<=k/\iv = .int .i64 j/\Hid ((L.take j).all (gD G.q)=true)) (λiv=>k - (intOf iv).toNat)
   case atStart=>exact ⟨0,Nat.zero_le _,rfl,by show _=_;simp⟩
   case round =>
    obtain ⟨j,hj,rfl,hall2⟩:=hrel
    by_cases hlt : j<k
    ·obtain ⟨ra,rn,rc,hcell,hrow⟩:=hiW.cell j hlt
     have hjL : j<L.length:=by rw [Hlen.out];exact hlt
     go_wp2_with fail
     refine (yC ra rn rc _ hG hrow).mono ?_
     rintro e w' ⟨rfl,rfl⟩
     by_cases he : gD G.q (aj L j)=true
     ·have he2 : iH G.q (aj L j)=0:=by rw [iH,he];rfl
      rw [he2]
      rw [aE hjL] at he
      have He:=Z5 he
      clear he he2
      go_wp2_with fail
      go_round
      case rel=>exact ⟨j+1,by omega,by go_num,bU hjL hall2.out He.out⟩
      case measure=>simp [intOf] <;> omega
     ·have he2 : iH G.q (aj L j)=2:=by rw [iH,if_neg he]
      rw [he2]
      rw [aE hjL] at he
      have Hq : Hid (ew G.q cols L=2):=by
       show _=_;rw [Hm2.out,bS hjL (by simpa using he)];rfl
      clear he he2
      go_wp2_with fail
      go_ret
      exact ⟨aF Hq.out.symm,hbw⟩
    ·obtain rfl : j=k:=by omega
     have Hq : Hid (ew G.q cols L=0):=by
      have:=hall2.out;rw [List.take_of_length_le (by rw [Hlen.out];exact Nat.le_refl _)] at this
      show _=_;rw [Hm2.out,this];rfl
     go_wp2_with fail
     go_ret
     exact ⟨aF Hq.out.symm,hbw⟩
end
structure vd (w : World) (a : OA) (n : Nat) (l : List (Int × Ll)) : Prop where
 len : l.length=n
 pl : Pl a n
 max : n<=maxLen
 cell : ∀i (hi : i<l.length),∃b m c,w.cell? ⟨ablk a,aJ a+i * 2,none⟩=some (.int .i64 l[i].1)/\w.cell? ⟨ablk a,aJ a+i * 2+1,none⟩=some (.slice b m c)/\bZ w b m l[i].2
theorem vd.ah {w w' : World} {a : OA} {n : Nat} {l : List (Int × Ll)} (h : vd w a n l) (hb : Below w.heap.size w w') : vd w' a n l:=by
 refine ⟨h.len,h.pl,h.max,λi hi=>?_⟩
 obtain ⟨b,m,c,h1,h2,h3⟩:=h.cell i hi
 exact ⟨b,m,c,aw hb h1,aw hb h2,h3.ah hb⟩
def matsE (q : Int) : List (Int × Ll)->Int
 | []=>0
 | m :: l=>if ew q m.1 m.2=0 then matsE q l else ew q m.1 m.2
theorem AY {q : Int} {l : List (Int × Ll)} {k : Nat} (hk : k<l.length) : matsE q (l.drop k)=if ew q l[k].1 l[k].2=0 then matsE q (l.drop (k+1)) else ew q l[k].1 l[k].2:=by
 rw [List.drop_eq_getElem_cons hk,matsE]
def FY (P M : Int) (mod : Lz) (l : List (Int × Ll)) (w : World) (e : Ending) (w' : World) : Prop :=
 Below w.heap.size w w'/\(
 (bA P M mod=false/\e = .returned (.tuple #[.pointer none,.int .i64 1])) \/
 (bA P M mod=true/\∃er,er ≠ 0/\matsE (aa P M.toNat mod).q l=er/\e = .returned (.tuple #[.pointer none,.int .i64 er])) \/
 (bA P M mod=true/\matsE (aa P M.toNat mod).q l=0/\∃b,e = .returned (.tuple #[.pointer (some ⟨b,0,none⟩),.int .i64 0])/\eD w' b (aa P M.toNat mod)/\w.heap.size<=b))
theorem lf (P M : Int) (am : OA) (mn cm : Nat) (mod : Lz) (a : OA) (n c : Nat) (l : List (Int × Ll)) (w : World) (hmod : Ints w am mn mod) (hl : vd w a n l) :
  Calls Tryz.prog 139 #[.agg #[.int .i64 P,.int .i64 M,.slice am mn cm],.slice a n c] w (FY P M mod l w):=by
 have hpl:=hl.pl
 have hlen:=hl.len
 have hmax:=hl.max
 unfold maxLen at hmax
 have Hlen:=Z5 hlen
 clear hlen
 have Hal:=Z5 ((Below.refl w.heap.size w).alloc (Nat.le_refl _) (.cells #[.int .i64 P,.int .i64 M,.slice am mn cm] 24))
 go_enter Tryz.func139,Tryz.ntmps139
 go_wp2_with fail
 have hbw:=Hal.out
 generalize w.alloc (.cells #[.int .i64 P,.int .i64 M,.slice am mn cm] 24)=W0 at *
 refine (fH P M am mn cm mod W0 (hmod.ah hbw)).mono ?_
 rintro e w1 (⟨hB,rfl,hb1⟩ | ⟨hB,b,rfl,hGs,hbl,hb1⟩)
 ·have HB:=Z5 hB
  clear hB
  have hbw1:=Below.next hbw hb1
  go_wp2_with fail
  go_ret2
  exact ⟨hbw1,.inl ⟨HB.out,rfl⟩⟩
 ·have HB:=Z5 hB
  clear hB
  have hbw1:=Below.next hbw hb1
  have hbb : w.heap.size<=b:=Nat.le_trans hbw.size hbl
  have hG:=hGs.gf
  clear hGs
  generalize hT : aa P M.toNat mod=G at *
  have HT:=Z5 hT
  clear hT
  go_wp2_with fail
  go_loopw [20] (λiv wr=>∃k : Nat,k<=n/\iv = .int .i64 k/\Hid (matsE G.q l=matsE G.q (l.drop k))/\Below w1.heap.size w1 wr) (λiv _=>n - (intOf iv).toNat)
  case atStart=>exact ⟨0,Nat.zero_le _,rfl,by show _=_;simp,Below.refl _ _⟩
  case round =>
   obtain ⟨k,hk,rfl,hall,hbr⟩:=hrel
   have hbwr:=Below.next hbw1 hbr
   by_cases hlt : k<n
   ·have hkl : k<l.length:=by rw [Hlen.out];exact hlt
    have hlr:=hl.ah hbwr
    obtain ⟨rb,rm,rc,c1,c2,hM⟩:=hlr.cell k hkl
    have hstep:=AY (q:=G.q) hkl
    have Hstep:=Z5 hstep
    clear hstep
    generalize l[k].1=cols at *
    generalize l[k].2=L at *
    have Hal2:=Z5 ((Below.refl wr.heap.size wr).alloc (Nat.le_refl _) (.cells #[.int .i64 cols,.slice rb rm rc] 82))
    go_wp2_with fail
    have hbx:=Hal2.out
    generalize wr.alloc (.cells #[.int .i64 cols,.slice rb rm rc] 82)=W2 at *
    have hB2 : Below w1.heap.size w1 W2:=Below.next hbr hbx
    refine (Dr cols rb rm rc L (hG.ah hB2) (hM.ah hbx)).mono ?_
    rintro e w3 ⟨rfl,hb3⟩
    have hB3 : Below w1.heap.size w1 w3:=Below.next hB2 hb3
    by_cases he : ew G.q cols L=0
    ·have Hs : Hid (matsE G.q l=matsE G.q (l.drop (k+1))):=by show _=_;rw [hall.out,Hstep.out,if_pos he]
     rw [he]
     clear he
     go_wp2_with fail
     go_roundw
     case rel=>exact ⟨k+1,by omega,by go_num,Hs.out,hB3⟩
     case measure=>simp [intOf] <;> omega
    ·have Hs : Hid (matsE G.q l=ew G.q cols L):=by show _=_;rw [hall.out,Hstep.out,if_neg he]
     generalize ew G.q cols L=er at *
     have he' : (er != 0)=true:=by simpa using he
     have He : Hid (er ≠ 0):=he
     clear he
     go_wp2_with fail
     go_ret2
     exact ⟨Below.next hbw1 hB3,.inr (.inl ⟨HB.out,er,He.out,by rw [HT.out];exact Hs.out,rfl⟩)⟩
   ·obtain rfl : k=n:=by omega
    have Hs : Hid (matsE G.q l=0):=by show _=_;rw [hall.out,List.drop_eq_nil_of_le (by rw [Hlen.out];exact Nat.le_refl _)];rfl
    go_wp2_with fail
    go_ret2
    exact ⟨hbwr,.inr (.inr ⟨HB.out,by rw [HT.out];exact Hs.out,b,rfl,by rw [HT.out];exact hG.ah hbr,hbb⟩)⟩
section
def e9 (r : OA × Nat) (l : Lz) : Value:=.slice r.1 l.length r.2
def aM (R : La) (i : Nat) : OA × Nat:=R.getD i (none,0)
theorem jm {l : La} {i : Nat} (h : i<l.length) : aM l i=l[i]:=by simp [aM,h]
theorem gB (l : La) (i j : Nat) (x : OA × Nat) (hi : i<l.length) : aM (l.set i x) j=if j=i then x else aM l j:=by
 unfold aM
 simp only [List.getD_eq_getElem?_getD,List.getElem?_set]
 by_cases h : i=j
 ·subst h;simp [hi]
 ·rw [if_neg h,if_neg (by omega)]
theorem fP (l : Ll) (i j : Nat) (x : Lz) (hi : i<l.length) : aj (l.set i x) j=if j=i then x else aj l j:=by
 unfold aj
 simp only [List.getD_eq_getElem?_getD,List.getElem?_set]
 by_cases h : i=j
 ·subst h;simp [hi]
 ·rw [if_neg h,if_neg (by omega)]
theorem sG (n i : Nat) : aj (List.replicate n []) i=[]:=by
 simp only [aj,List.getD_eq_getElem?_getD,List.getElem?_replicate];split <;> rfl
theorem ia (n i : Nat) : aM (List.replicate n (none,0)) i=(none,0):=by
 simp only [aM,List.getD_eq_getElem?_getD,List.getElem?_replicate];split <;> rfl
theorem wM (R : La) (L : Ll) (i : Nat) (r : OA × Nat) (l : Lz) :
  (List.zipWith e9 R L).set i (e9 r l)=List.zipWith e9 (R.set i r) (L.set i l):=by
 apply List.ext_getElem?
 intro j
 simp only [List.getElem?_set,List.getElem?_zipWith,List.length_zipWith]
 by_cases h : i=j
 ·subst h
  by_cases h1 : i<R.length <;> by_cases h2 : i<L.length <;> simp [h1,h2,show ¬ (i<R.length/\i<L.length)->¬ i<min R.length L.length from by omega]
  exact Nat.lt_min.2 ⟨h1,h2⟩
 ·simp [h]
structure aU (w : World) (B : Nat) (a : OA) (n c : Nat) (R : La) (L : Ll) : Prop where
 rl : R.length=n
 ll : L.length=n
 own : w.ownsRow B 22 1 (.slice a n c) n (List.zipWith e9 R L)
 row : ∀i,i<n->w.ownsRow B 3 1 (.slice (aM R i).1 (aj L i).length (aM R i).2) (aj L i).length ((aj L i).map (Value.int .i64))
 sD : ∀i,i<n->db (aM R i).1 (ablk a)
 sep : ∀i j,i<n->j<n->i ≠ j->(aM R i).1=none\/db (aM R j).1 (ablk (aM R i).1)
def bL (a : OA) (R : La) (b : Nat) : Prop:=(a ≠ none/\b=ablk a)\/∃i,i<R.length/\(aM R i).1 ≠ none/\b=ablk (aM R i).1
structure aB (w w' : World) (I I' : Nat->Prop) : Prop where
 os : w'.os=w.os
 tape : w'.tape=w.tape
 output : w'.output=w.output
 size : w.heap.size<=w'.heap.size
 block : ∀b,b<w.heap.size->¬ I b->w'.heap[b]? = w.heap[b]?
 grow : ∀b,I' b->I b\/w.heap.size<=b
variable {w w' w'' : World} {B : Nat} {a : OA} {n c : Nat} {R : La} {L : Ll} {I I' I'' : Nat -> Prop}
theorem aB.refl (w : World) (I : Nat->Prop) : aB w w I I:=⟨rfl,rfl,rfl,Nat.le_refl _,λ_ _ _=>rfl,λ_ h=>.inl h⟩
theorem aB.trans (h : aB w w' I I') (k : aB w' w'' I' I'') : aB w w'' I I'' := by
 refine ⟨k.os.trans h.os,k.tape.trans h.tape,k.output.trans h.output,Nat.le_trans h.size k.size,λb hb hI=>?_,λb hb=>?_⟩
 ·refine (k.block b (Nat.lt_of_lt_of_le hb h.size) λh'=>?_).trans (h.block b hb hI)
  rcases h.grow b h' with h2 | h2
  ·exact hI h2
  ·omega
 ·rcases k.grow b hb with h2 | h2
  ·exact h.grow b h2
  ·exact .inr (Nat.le_trans h.size h2)
theorem aB.bq (h : Below w.heap.size w w') (I : Nat->Prop) : aB w w' I I:=⟨h.os,h.tape,h.output,h.size,λb hb _=>h.block b hb,λ_ h=>.inl h⟩
theorem aB.below (h : aB w w' I I') (hI : ∀b,I b->B<=b) (hB : B<=w.heap.size) : Below B w w' :=
 ⟨h.os,h.tape,h.output,h.size,λb hb=>h.block b (Nat.lt_of_lt_of_le hb hB) λhi=>by have:=hI b hi;omega⟩
theorem aB.cell (h : aB w w' I I') {p : Addr} {v : Value} (hc : w.cell? p=some v) (hI : ¬ I p.block) : w'.cell? p=some v :=
 (World.cell?_of_block (w:=w) (a:=p) (h.block _ (World.block_lt_of_cell? w _ hc) hI)).trans hc
theorem aB.not (h : aB w w' I I') {b : Nat} (hb : b<w.heap.size) (hI : ¬ I b) : ¬ I' b:=λh'=>by
 rcases h.grow b h' with h2 | h2
 ·exact hI h2
 ·omega
theorem aB.own (h : aB w w' I I') {e : TypeId} {a : OA} {c n : Nat} {xs : List Value} (ho : w.ownsRow B e 1 (.slice a n c) n xs) (hI : a ≠ none->¬ I (ablk a)) : w'.ownsRow B e 1 (.slice a n c) n xs:=by
 rcases oD ho with ⟨rfl,rfl,rfl⟩ | ⟨_,hlt⟩
 ·have hx:=jr ho
  obtain rfl : xs=[]:=List.eq_nil_of_length_eq_zero hx
  exact bY
 ·by_cases ha : a=none
  ·subst ha
   refine ⟨ho.1,?_⟩
   rcases ho.2 with h2 | ⟨g,cap,cur,hv,_⟩
   ·exact .inl h2
   ·cases hv
  ·exact jG ho (h.block _ hlt (hI ha))
theorem aR {w : World} {e : TypeId} {a : OA} {c n : Nat} {xs : List Value} (ho : w.ownsRow B e 1 (.slice a n c) n xs) (ha : a ≠ none) : B<=ablk a/\ablk a<w.heap.size:=by
 rcases oD ho with ⟨rfl,_⟩ | h
 ·exact absurd rfl ha
 ·exact h
namespace aU
theorem lt (h : aU w B a n c R L) (b : Nat) (hb : bL a R b) : B<=b/\b<w.heap.size:=by
 rcases hb with ⟨h1,rfl⟩ | ⟨i,hi,h1,rfl⟩
 ·exact aR h.own h1
 ·exact aR (h.row i (by rw [h.rl] at hi;exact hi)) h1
theorem new (h : aU w B a n c R L) {b : Nat} (hb : w.heap.size<=b) : ¬ bL a R b:=λh'=>by have:=h.lt b h';omega
theorem ja (h : aU w B a n c R L) {b : Nat} (hb : b<B) : ¬ bL a R b:=λh'=>by have:=h.lt b h';omega
theorem mw {i : Nat} (h : i<R.length) (h1 : (aM R i).1 ≠ none) : bL a R (ablk (aM R i).1):=.inr ⟨i,h,h1,rfl⟩
theorem bz (h : aU w B a n c R L) (hb : ∀b,bL a R b->w'.heap[b]? = w.heap[b]?) : aU w' B a n c R L:=by
 have key : ∀ {e : TypeId} {a' : OA} {c m : Nat} {xs : List Value},w.ownsRow B e 1 (.slice a' m c) m xs->(a' ≠ none->w'.heap[ablk a']? = w.heap[ablk a']?)->w'.ownsRow B e 1 (.slice a' m c) m xs:=by
  intro e a' c m xs ho hk
  by_cases ha : a'=none
  ·subst ha
   refine ⟨ho.1,?_⟩
   rcases ho.2 with h2 | ⟨g,cap,cur,hv,_⟩
   ·exact .inl h2
   ·cases hv
  ·exact jG ho (hk ha)
 exact ⟨h.rl,h.ll,key h.own λha=>hb _ (.inl ⟨ha,rfl⟩),λi hi=>key (h.row i hi) λha=>hb _ (mw (by rw [h.rl];exact hi) ha),h.sD,h.sep⟩
theorem ah (h : aU w B a n c R L) (hb : Below w.heap.size w w') : aU w' B a n c R L:=h.bz λb hi=>hb.block b (h.lt b hi).2
theorem mono {B' : Nat} (h : aU w B a n c R L) (hB : B'<=B) : aU w B' a n c R L:=⟨h.rl,h.ll,aP h.own hB,λi hi=>aP (h.row i hi) hB,h.sD,h.sep⟩
theorem ints (h : aU w B a n c R L) {i : Nat} (hi : i<n) : Ints w (aM R i).1 (aj L i).length (aj L i):=(Ints.own (h.row i hi)).1
theorem cell (h : aU w B a n c R L) {i : Nat} (hi : i<n) : w.cell? ⟨ablk a,aJ a+i,none⟩=some (.slice (aM R i).1 (aj L i).length (aM R i).2):=by
 rw [(b9 h.own i hi).1,List.getElem?_zipWith,List.getElem?_eq_getElem (show i<R.length by rw [h.rl];exact hi),List.getElem?_eq_getElem (show i<L.length by rw [h.ll];exact hi),
  jm (by rw [h.rl];exact hi),aE (by rw [h.ll];exact hi)]
 rfl
theorem frozen (h : aU w B a n c R L) {i : Nat} (hi : i<n) : w.frozen? ⟨ablk a,aJ a+i,none⟩=false:=(b9 h.own i hi).2.1
theorem pl (h : aU w B a n c R L) : Pl a n:=by obtain ⟨a',c',hv,hp⟩:=Pl.own h.own;cases hv;exact hp
theorem ne (h : aU w B a n c R L) (hn : 0<n) : a ≠ none:=by
 intro ha;have:=h.pl hn;rw [ha] at this;cases this
theorem max (h : aU w B a n c R L) : n<=maxLen:=by
 rcases Nat.eq_zero_or_pos n with h0 | h0
 ·subst h0;unfold maxLen;omega
 ·exact (b9 h.own 0 h0).2.2.2.2
theorem kK (h : aU w B a n c R L) : bZ w a n L:=⟨h.ll,h.pl,h.max,λ_ hi=>⟨_,_,_,h.cell hi,h.ints hi⟩⟩
theorem setRow (h : aU w B a n c R L) {i : Nat} (hi : i<n) {r : OA} {rc : Nat} {l : Lz} (hr : w.ownsRow B 3 1 (.slice r l.length rc) l.length (l.map (Value.int .i64)))
  (ha : db r (ablk a)) (hs : ∀j,j<n->j ≠ i->(aM R j).1=none\/db r (ablk (aM R j).1)) :
  aU (w.setCell ⟨ablk a,aJ a+i,none⟩ (.slice r l.length rc)) B a n c (R.set i (r,rc)) (L.set i l):=by
 have hRi : i<R.length:=by rw [h.rl];exact hi
 have hLi : i<L.length:=by rw [h.ll];exact hi
 have flip : ∀ {x y : OA},(x=none\/db y (ablk x))->(y=none\/db x (ablk y)):=by
  intro x y hxy
  rcases hxy with rfl | rfl | h2
  ·exact .inr (.inl rfl)
  ·exact .inl rfl
  ·exact .inr (.inr λe=>h2 e.symm)
 refine ⟨by simp [h.rl],by simp [h.ll],?_,λj hj=>?_,λj hj=>?_,λj k hj hk hjk=>?_⟩
 ·have:=bC h.own i hi (.slice r l.length rc)
  rwa [show (List.zipWith e9 R L).set i (.slice r l.length rc)=_ from wM R L i (r,rc) l] at this
 ·rw [gB _ _ _ _ hRi,fP _ _ _ _ hLi]
  by_cases e : j=i
  ·simp only [if_pos e]
   exact eO hr _ ha
  ·simp only [if_neg e]
   exact eO (h.row j hj) _ (h.sD j hj)
 ·rw [gB _ _ _ _ hRi]
  by_cases e : j=i
  ·simp only [if_pos e];exact ha
  ·simp only [if_neg e];exact h.sD j hj
 ·rw [gB _ _ _ _ hRi,gB _ _ _ _ hRi]
  by_cases e : j=i
  ·simp only [if_pos e,if_neg (show ¬ k=i by omega)]
   exact flip (hs k hk (by omega))
  ·simp only [if_neg e]
   by_cases e2 : k=i
   ·simp only [if_pos e2];exact hs j hj e
   ·simp only [if_neg e2];exact h.sep j k hj hk hjk
theorem kN (h : aU w B a n c R L) {w' : World} (hb' : Below w.heap.size w w') {i : Nat} (hi : i<n) {r : OA} {rc : Nat} (v : Value) (hr : r ≠ none->bL a R (ablk r)\/w.heap.size<=ablk r) :
  aB w (w'.setCell ⟨ablk a,aJ a+i,none⟩ v) (bL a R) (bL a (R.set i (r,rc))):=by
 have hRi : i<R.length:=by rw [h.rl];exact hi
 have hb0 : Below 0 w (w'.setCell ⟨ablk a,aJ a+i,none⟩ v):=(hb'.mono (Nat.zero_le _)).setCell (Nat.zero_le _) v
 refine ⟨hb0.os,hb0.tape,hb0.output,hb0.size,λb hb hI=>(Below.heap_setCell _ _ _ _ λe=>hI (.inl ⟨h.ne (by omega),e⟩)).trans (hb'.block b hb),λb hb=>?_⟩
 rcases hb with hb | ⟨j,hj,h1,rfl⟩
 ·exact .inl (.inl hb)
 ·rw [List.length_set] at hj
  rw [gB _ _ _ _ hRi] at h1 ⊢
  by_cases e : j=i
  ·simp only [if_pos e] at h1 ⊢;exact hr h1
  ·simp only [if_neg e] at h1 ⊢;exact .inl (.inr ⟨j,hj,h1,rfl⟩)
theorem Et (h : aU w B a n c R L) {i : Nat} (hi : i<n) {l : Lz} (hl : l.length=(aj L i).length)
  (ho : w'.ownsRow B 3 1 (.slice (aM R i).1 (aj L i).length (aM R i).2) (aj L i).length (l.map (Value.int .i64)))
  (hg : ∀b,b<w.heap.size->((aM R i).1=none\/b ≠ ablk (aM R i).1)->w'.heap[b]? = w.heap[b]?) : aU w' B a n c R (L.set i l):=by
 have hRi : i<R.length:=by rw [h.rl];exact hi
 have hLi : i<L.length:=by rw [h.ll];exact hi
 have key : ∀ {e : TypeId} {a' : OA} {c m : Nat} {xs : List Value},w.ownsRow B e 1 (.slice a' m c) m xs->((aM R i).1=none\/a'=none\/ablk a' ≠ ablk (aM R i).1)->w'.ownsRow B e 1 (.slice a' m c) m xs:=by
  intro e a' c m xs ho hk
  by_cases ha : a'=none
  ·subst ha
   refine ⟨ho.1,?_⟩
   rcases ho.2 with h2 | ⟨g,cap,cur,hv,_⟩
   ·exact .inl h2
   ·cases hv
  ·exact jG ho (hg _ (aR ho ha).2 (by rcases hk with hk | hk | hk;exact .inl hk;exact absurd hk ha;exact .inr hk))
 refine ⟨h.rl,by simp [h.ll],?_,λj hj=>?_,h.sD,h.sep⟩
 ·have e : List.zipWith e9 R (L.set i l)=List.zipWith e9 R L:=by
   apply List.ext_getElem?
   intro j
   simp only [List.getElem?_zipWith,List.getElem?_set]
   by_cases e : i=j
   ·subst e
    simp only [hLi,if_true,List.getElem?_eq_getElem hRi,List.getElem?_eq_getElem hLi]
    rw [aE hLi] at hl
    simp [e9,hl]
   ·simp [e]
  rw [e]
  exact key h.own (by rcases h.sD i hi with h2 | h2;exact .inl h2;exact .inr (.inr λe=>h2 e.symm))
 ·rw [fP _ _ _ _ hLi]
  by_cases e : j=i
  ·subst e;simp only [if_true,hl];exact ho
  ·simp only [if_neg e]
   refine key (h.row j hj) ?_
   rcases h.sep i j hi hj (by omega) with h2 | h2 | h2
   ·exact .inl h2
   ·exact .inr (.inl h2)
   ·exact .inr (.inr h2)
end aU
theorem qL {w : World} {B : Nat} {a : OA} {n c : Nat} (h : w.ownsRow B 22 1 (.slice a n c) n (List.replicate n (.slice none 0 0))) :
  aU w B a n c (List.replicate n (none,0)) (List.replicate n []):=by
 refine ⟨by simp,by simp,?_,λi hi=>?_,λi hi=>?_,λi j hi hj hij=>?_⟩
 ·simpa [e9] using h
 ·rw [sG,ia];exact bY
 ·rw [ia];exact .inl rfl
 ·rw [ia];exact .inl rfl
end
end Go.Proofs.YtcfmiocdlcapoaaGreat
