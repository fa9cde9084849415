import Derived.Test.YtcfmiocdlcapoaaGreatK3
import Derived.Test.YtcfmiocdlcapoaaGreatK1
import Derived.Lib.LazyBuf
namespace Go.Proofs.YtcfmiocdlcapoaaGreat
set_option linter.unusedVariables false
set_option linter.unusedSimpArgs false
set_option linter.unusedSectionVars false
set_option maxRecDepth 100000
set_option maxHeartbeats 1600000
open Go.RowKit
theorem aF {k : IntKind} {a b : Int} (h : a=b) : Ending.returned (.int k a) = .returned (.int k b):=by rw [h]
theorem aY {a b : Bool} (h : a=b) : Ending.returned (.bool a) = .returned (.bool b):=by rw [h]
def aK (p m : Int) : Int :=
 if p<2\/256<p\/m<1\/8<m then 0 else if p ^ m.toNat<=256 then p ^ m.toNat else 0
theorem ga {p m : Int} (h : p<2\/256<p\/m<1\/8<m) : aK p m=0:=by rw [aK,if_pos h]
theorem l9 {p m : Int} (h : ¬ p ^ m.toNat<=256) : aK p m=0:=by simp [aK,h]
theorem lG {p m : Int} (h : ¬ (p<2\/256<p\/m<1\/8<m)) (h2 : p ^ m.toNat<=256) : aK p m=p ^ m.toNat:=by rw [aK,if_neg h,if_pos h2]
theorem iq (p m : Int) (w : World) :
  Calls Tryz.prog 160 #[.int .i64 p,.int .i64 m] w λe w'=>e = .returned (.int .i64 (aK p m))/\w=w':=by
 by_cases ho : p<2\/256<p\/m<1\/8<m
 ·have Ho:=Z5 (ga ho)
  by_cases h1 : p<2
  ·go_enter Tryz.func160,Tryz.ntmps160
   go_wp2
   go_ret
   exact ⟨aF Ho.out.symm,rfl⟩
  by_cases h2 : 256<p
  ·go_enter Tryz.func160,Tryz.ntmps160
   go_wp2
   go_ret
   exact ⟨aF Ho.out.symm,rfl⟩
  by_cases h3 : m<1
  ·go_enter Tryz.func160,Tryz.ntmps160
   go_wp2
   go_ret
   exact ⟨aF Ho.out.symm,rfl⟩
  have h4 : 8<m:=by omega
  clear ho
  go_enter Tryz.func160,Tryz.ntmps160
  go_wp2
  go_ret
  exact ⟨aF Ho.out.symm,rfl⟩
 ·obtain ⟨n,rfl⟩ : ∃n : Nat,m=n:=⟨m.toNat,by omega⟩
  have h1 : 2<=p:=by omega
  have h2 : p<=256:=by omega
  have h3 : 1<=(n : Int):=by omega
  have h4 : (n : Int)<=8:=by omega
  have Ho:=Z5 ho
  clear ho
  go_enter Tryz.func160,Tryz.ntmps160
  go_wp2
  go_loop [5,21] (λqv iv=>∃k : Nat,k<=n/\iv = .int .i64 k/\qv = .int .i64 (p ^ k)/\p ^ k<=256/\1<=p ^ k) (λ_ i=>n - (intOf i).toNat)
  case atStart=>exact ⟨0,Nat.zero_le _,rfl,by simp,by simp,by simp⟩
  case round =>
   obtain ⟨k,hk,rfl,rfl,hb,hb1⟩:=hrel
   by_cases hlt : k<n
   ·have e1 : p ^ (k+1)=p ^ k * p:=Int.pow_succ _ _
    have e2 : p ^ k * p<=256 * 256:=Int.mul_le_mul hb h2 (by omega) (by omega)
    have e3 : 1 * 1<=p ^ k * p:=Int.mul_le_mul hb1 (by omega) (by omega) (by omega)
    by_cases h5 : p ^ k * p<=256
    ·have E1:=Z5 e1
     clear e1
     go_wp2
     go_round
     case rel=>exact ⟨k+1,by omega,by go_num,by rw [E1.out],by rw [E1.out];exact h5,by rw [E1.out];omega⟩
     case measure=>simp [intOf] <;> omega
    ·have hbig : aK p n=0:=l9 (by
      intro h
      have:=cW (show 1<=p by omega) (show k+1<=n by omega)
      rw [Int.toNat_natCast] at h
      omega)
     have Hb:=Z5 hbig
     clear e1 hbig
     go_wp2
     go_ret
     exact ⟨aF Hb.out.symm,rfl⟩
   ·obtain rfl : k=n:=by omega
    have Hb:=Z5 (lG Ho.out (by simpa using hb))
    go_wp2
    go_ret
    exact ⟨aF (by rw [Hb.out];simp),rfl⟩
def fI (n : Nat) : Bool:=(List.range n).all λd=>d<2 || n % d != 0
theorem qP {n d : Nat} (h2 : 2<=d) (hd : d<n) (h : n % d=0) : fI n=false:=by
 unfold fI
 rw [List.all_eq_false]
 exact ⟨d,List.mem_range.2 hd,by simp [h];omega⟩
theorem oE {n : Nat} (h : ∀d,2<=d->d<n->n % d ≠ 0) : fI n=true:=by
 unfold fI
 rw [List.all_eq_true]
 intro d hd
 have:=List.mem_range.1 hd
 by_cases h2 : d<2
 ·simp [h2]
 ·simp [h d (by omega) this]
theorem yD {n D : Nat} (h : ∀d,2<=d->d<D->n % d ≠ 0) (hD : n<D * D) : fI n=true:=by
 refine oE λd h2 hd h0=>?_
 rcases Nat.lt_or_ge d D with h1 | h1
 ·exact h d h2 h1 h0
 ·obtain ⟨e,he⟩:=Nat.dvd_of_mod_eq_zero h0
  have he2 : 2<=e:=by
   rcases Nat.lt_or_ge e 2 with h3 | h3
   ·have : e=0\/e=1:=by omega
    rcases this with rfl | rfl <;> omega
   ·exact h3
  have heD : e<D:=by
   rcases Nat.lt_or_ge e D with h3 | h3
   ·exact h3
   ·have:=Nat.mul_le_mul h1 h3
    omega
  exact h e he2 heD (by rw [he];exact Nat.mul_mod_left d e)
theorem kE (n : Nat) (w : World) (h2 : 2<=n) (h256 : n<=256) :
  Calls Tryz.prog 215 #[.int .i64 n] w λe w'=>e = .returned (.bool (fI n))/\w=w':=by
 go_enter Tryz.func215,Tryz.ntmps215
 go_wp2
 go_loop [3] (λdv=>∃d : Nat,2<=d/\d<=n/\dv = .int .i64 d/\Hid (∀e,2<=e->e<d->n % e ≠ 0)) (λd=>n+1 - (intOf d).toNat)
 case atStart=>exact ⟨2,Nat.le_refl _,h2,rfl,λe he he2=>by omega⟩
 case round =>
  obtain ⟨d,hd2,hdn,rfl,hno⟩:=hrel
  have hd0 : (d : Int) ≠ 0:=by omega
  by_cases hs : d * d<=n
  ·have hs' : (d : Int) * d<=n:=by exact_mod_cast hs
   have hdd : d * 2<=d * d:=Nat.mul_le_mul_left d hd2
   have b0 : (0 : Int)<=(d : Int) * d:=by exact_mod_cast Nat.zero_le (d * d)
   have hdlt : d<n:=by omega
   by_cases hm : n % d=0
   ·have hm' : ((n : Int) % d == 0)=true:=by simp;exact_mod_cast hm
    have Hf:=Z5 (qP hd2 hdlt hm)
    clear hm hs hdd
    go_wp2
    go_ret
    exact ⟨aY Hf.out.symm,rfl⟩
   ·have hm' : ((n : Int) % d == 0)=false:=by simp;exact_mod_cast hm
    have Hm:=Z5 hm
    clear hm hs hdd
    go_wp2
    go_round
    case rel =>
     refine ⟨d+1,by omega,by omega,by go_num,λe he he2=>?_⟩
     rcases Nat.lt_or_ge e d with h | h
     ·exact hno.out e he h
     ·rw [show e=d from by omega];exact Hm.out
    case measure=>simp [intOf] <;> omega
  ·have hs' : ¬ (d : Int) * d<=n:=by
    intro h;exact hs (by exact_mod_cast h)
   have b1 : (d : Int) * d<=65536:=(jh (by omega) (by omega) (by omega) (by omega)).2
   have b0 : (0 : Int)<=(d : Int) * d:=by exact_mod_cast Nat.zero_le (d * d)
   have Hf:=Z5 (yD hno.out (by omega))
   have b2 : (2 : Int)<=n:=by omega
   clear hs
   go_wp2
   go_ret
   exact ⟨aY (by rw [Hf.out]),rfl⟩
def b8 (P M : Int) (mod : Lz) : Bool :=
 aK P M != 0 && fI P.toNat && (if M=1 then mod.length == 0 else decide ((mod.length : Int)=M) && mod.all λc=>decide (0<=c) && decide (c<P))
theorem gN {p m : Int} (h : aK p m ≠ 0) : 2<=p/\p<=256/\1<=m/\m<=8/\p ^ m.toNat<=256/\aK p m=p ^ m.toNat:=by
 by_cases ho : p<2\/256<p\/m<1\/8<m
 ·exact absurd (ga ho) h
 by_cases hb : p ^ m.toNat<=256
 ·exact ⟨by omega,by omega,by omega,by omega,hb,lG ho hb⟩
 ·exact absurd (l9 hb) h
theorem qX (P M : Int) (am : OA) (mn cm : Nat) (mod : Lz) (w : World) (hmod : Ints w am mn mod) :
  Calls Tryz.prog 159 #[.agg #[.int .i64 P,.int .i64 M,.slice am mn cm]] w λe w' =>
   e = .returned (.bool (b8 P M mod))/\Below w.heap.size w w':=by
 have hend : Below w.heap.size w (w.alloc (.cells #[.int .i64 P,.int .i64 M,.slice am mn cm] 24)):=(Below.refl _ _).alloc (Nat.le_refl _) _
 by_cases h0 : aK P M=0
 ·have Hf:=Z5 (show b8 P M mod=false by simp [b8,h0])
  have h0' : (aK P M == 0)=true:=by simp [h0]
  clear h0
  go_enter Tryz.func159,Tryz.ntmps159
  go_wp2_with (go_at_call 160;refine (iq _ _ _).mono ?_;rintro e w' ⟨rfl,rfl⟩)
  go_ret
  exact ⟨aY Hf.out.symm,hend⟩
 obtain ⟨b1,b2,b3,b4,-,-⟩:=gN h0
 have h0' : (aK P M == 0)=false:=by simp [h0]
 obtain ⟨p,rfl⟩ : ∃p : Nat,P=p:=⟨P.toNat,by omega⟩
 by_cases h1 : fI p=true
 case neg =>
  have Hf:=Z5 (show b8 p M mod=false by simp [b8,h1])
  have h1' : fI p=false:=by simpa using h1
  clear h0 h1
  go_enter Tryz.func159,Tryz.ntmps159
  go_wp2_with (first | (go_at_call 160;refine (iq _ _ _).mono ?_;rintro e w' ⟨rfl,rfl⟩) | (go_at_call 215;refine (kE _ _ (by omega) (by omega)).mono ?_;rintro e w' ⟨rfl,rfl⟩))
  go_ret
  exact ⟨aY Hf.out.symm,hend⟩
 by_cases h2 : M=1
 ·subst h2
  have Hf:=Z5 (show b8 p 1 mod=((mn : Int) == 0) by rw [<- hmod.len,Bool.eq_iff_iff];simp [b8,h1,h0])
  clear h0
  go_enter Tryz.func159,Tryz.ntmps159
  go_wp2_with (first | (go_at_call 160;refine (iq _ _ _).mono ?_;rintro e w' ⟨rfl,rfl⟩) | (go_at_call 215;refine (kE _ _ (by omega) (by omega)).mono ?_;rintro e w' ⟨rfl,rfl⟩))
  go_ret
  exact ⟨aY Hf.out.symm,hend⟩
 by_cases h3 : (mn : Int)=M
 case neg =>
  have Hf:=Z5 (show b8 p M mod=false by simp [b8,h2,hmod.len,h3])
  have h2' : (M == 1)=false:=by simpa using h2
  have h3' : ((mn : Int) != M)=true:=by simpa using h3
  clear h0 h2 h3
  go_enter Tryz.func159,Tryz.ntmps159
  go_wp2_with (first | (go_at_call 160;refine (iq _ _ _).mono ?_;rintro e w' ⟨rfl,rfl⟩) | (go_at_call 215;refine (kE _ _ (by omega) (by omega)).mono ?_;rintro e w' ⟨rfl,rfl⟩))
  go_ret
  exact ⟨aY Hf.out.symm,hend⟩
 subst h3
 have h2' : ((mn : Int) == 1)=false:=by simpa using h2
 have hs : ∀b : Bool,(mod.all (λc=>decide (0<=c) && decide (c<(p : Int)))=b)->b8 p mn mod=b:=by
  intro b hb
  simp [b8,h0,h1,h2,hmod.len,<- hb]
 have Hs:=Z5 hs
 have hpl:=hmod.pl
 have hlen:=hmod.len
 have hmax:=hmod.max
 unfold maxLen at hmax
 clear h0 h2 hs
 go_enter Tryz.func159,Tryz.ntmps159
 go_wp2_with (first | (go_at_call 160;refine (iq _ _ _).mono ?_;rintro e w' ⟨rfl,rfl⟩) | (go_at_call 215;refine (kE _ _ (by omega) (by omega)).mono ?_;rintro e w' ⟨rfl,rfl⟩))
 have hcells:=hmod.ah hend
 go_loop [33] (λiv=>∃k : Nat,k<=mn/\iv = .int .i64 k/\Hid (∀j,j<k->0<=nth mod j/\nth mod j<p)) (λi=>mn - (intOf i).toNat)
 case atStart=>exact ⟨0,Nat.zero_le _,rfl,λj hj=>by omega⟩
 case round =>
  obtain ⟨k,hk,rfl,hall⟩:=hrel
  by_cases hlt : k<mn
  ·have hc:=hcells.cell k hlt
   by_cases hg : 0<=nth mod k/\nth mod k<p
   ·obtain ⟨g1,g2⟩:=hg
    go_wp2
    go_round
    case rel =>
     refine ⟨k+1,by omega,by go_num,λj hj=>?_⟩
     rcases Nat.lt_or_ge j k with h | h
     ·exact hall.out j h
     ·rw [show j=k from by omega];exact ⟨g1,g2⟩
    case measure=>simp [intOf] <;> omega
   ·have Hf:=Z5 (Hs.out false (by
     rw [List.all_eq_false]
     refine ⟨nth mod k,aN (by omega),?_⟩
     simp;omega))
    rcases (show nth mod k<0\/(0<=nth mod k/\p<=nth mod k) by omega) with g | ⟨g,g'⟩
    all_goals
     clear hg
     go_wp2
     go_ret
     exact ⟨aY Hf.out.symm,hend⟩
  ·obtain rfl : k=mn:=by omega
   have Hf:=Z5 (Hs.out true (by
    rw [List.all_eq_true]
    intro c hc
    obtain ⟨j,hj,rfl⟩:=List.getElem_of_mem hc
    have:=hall.out j (by omega)
    rw [ai hj] at this
    simp [this]))
   go_wp2
   go_ret
   exact ⟨aY Hf.out.symm,hend⟩
theorem E8 : (Tryz.prog.info? 4).map (λi=>(i.zero,i.size,i.bytes))=some (some (.bool false),1,1):=by kernel_rfl
def uj (S : List Bool) (l : Lz) : Prop:=∀i : Nat,i<S.length->(uF S i=true ↔ (i : Int) ∈ l)
theorem uj.snoc {S : List Bool} {l : Lz} (h : uj S l) (i : Nat) (hi : i<S.length) : uj (S.set i true) (l ++ [(i : Int)]):=by
 intro j hj
 rw [List.length_set] at hj
 rw [yx _ _ _ _ hi]
 by_cases e : j=i
 ·subst e;simp
 ·rw [if_neg e,h j hj]
  simp;omega
theorem rZ.ah {w w' : World} {P : Int} {M mn : Nat} {am : OA} {mod : Lz} (h : rZ w P M mn am mod) (hb : Below w.heap.size w w') : rZ w' P M mn am mod :=
 ⟨h.p2,h.p256,h.m1,h.m8,h.pw,h.low,h.ints.ah hb,h.dig⟩
def lenVal : Value->Nat | .slice _ n _=>n | _=>0
def IF (P : Int) (M : Nat) (mod : Lz) (q : Nat) (x : Int) (w : World) (e : Ending) (w' : World) : Prop :=
 ∃a c,e = .returned (.slice a (fQ P M mod q x).length c)/\w'.ownsRow w.heap.size 3 1 (.slice a (fQ P M mod q x).length c) (fQ P M mod q x).length ((fQ P M mod q x).map (Value.int .i64))/\Below w.heap.size w w'
theorem Bh (P : Int) (m : Nat) (am : OA) (mn cm : Nat) (mod : Lz) (q : Nat) (x : Int) (w : World) (hd : rZ w P m mn am mod)
  (hq : (q : Int)=P ^ m) (hx : 0<=x) (hx2 : x<q) :
  Calls Tryz.prog 216 #[.agg #[.int .i64 P,.int .i64 m,.slice am mn cm],.int .i64 q,.int .i64 x] w (IF P m mod q x w):=by
 have hq2 : 2<=q:=by
  have h1:=cW (show 1<=P by have:=hd.p2;omega) hd.m1
  have h2:=hd.p2
  rw [show (1 : Nat)=0+1 from rfl,Int.pow_succ,Int.pow_zero,Int.one_mul] at h1
  omega
 have hq256 : q<=256:=by have:=hd.pw;omega
 have hPp : 0<P:=by have:=hd.p2;omega
 have Hq:=Z5 hq
 clear hq
 go_enter Tryz.func216,Tryz.ntmps216
 have hq2' : (1 : Int)<q:=by omega
 have hbox : ∀w' : World,Below (w.heap.size+1) (w.alloc (.cells #[.int .i64 P,.int .i64 m,.slice am mn cm] 24)) w' ->
   w'.cell? ⟨w.heap.size,0,none⟩=some (.int .i64 P)/\w'.cell? ⟨w.heap.size,1,none⟩=some (.int .i64 m)/\w'.cell? ⟨w.heap.size,2,none⟩=some (.slice am mn cm)/\Below w.heap.size w w':=by
  intro w' h
  refine ⟨(h.cell (by simp)).trans (by simp),(h.cell (by simp)).trans (by simp),(h.cell (by simp)).trans (by simp),((Below.refl _ _).alloc (Nat.le_refl _) _).trans (h.mono (by omega))⟩
 have Hbox:=Z5 hbox
 clear hbox
 go_wp2_with (at_make;refine bV rfl _ _ 98 4 rfl (.bool false) 1 Tryz.underlying98 E8 rfl q rfl rfl (by omega) (by unfold maxLen;omega) ?_;intro a w1 hown hbel hge hlt;obtain ⟨hb1,hm1⟩:=CD.own (l:=List.replicate q false) (by simpa using hown);have hc1:=hb1.cell 1 (by omega);have hf1:=(hm1 (by omega)).2 1 (by omega);have hp1:=hb1.pl)
 generalize hW0 : w.alloc (.cells #[.int .i64 P,.int .i64 m,.slice am mn cm] 24)=W0 at *
 have hW0s : W0.heap.size=w.heap.size+1:=by rw [<- hW0];simp
 have HW0:=Z5 hW0
 clear hW0
 have hbel2 : Below (w.heap.size+1) W0 w1:=((Below.refl _ _).alloc (by omega) _).trans (hbel.mono (by simp;omega))
 have hown1:=aW (zU W0 [1] 3 (B:=w.heap.size+1) (by omega) (by simp [maxLen])) hbel
 have hown2:=bC hown 1 (by omega) (.bool true)
 have hown3:=eO hown1 (p:=⟨ablk a,aJ a+1,none⟩) (.bool true) (.inr (by have:=hge;simp at this;show W0.heap.size ≠ ablk a;omega))
 have hbel3:=hbel2.setCell (p:=⟨ablk a,aJ a+1,none⟩) (by have:=hge;simp at this;show w.heap.size+1<=ablk a;omega) (.bool true)
 have hageW : W0.heap.size+1<=ablk a:=by simpa using hge
 clear hown hown1 hbel hbel2 hb1 hm1 hc1 hf1 hge
 generalize w1.setCell ⟨ablk a,aJ a+1,none⟩ (.bool true)=w2 at *
 rw [hW0s] at hown3
 go_loopw [7,9] (λov yv wr=>∃(l : Lz) (y : Nat) (S : List Bool) (ao : OA) (c n : Nat),ov = .slice ao l.length c/\yv = .int .i64 y/\y<q /\
   wr.ownsRow (w.heap.size+1) 3 1 (.slice ao l.length c) l.length (l.map (Value.int .i64))/\wr.ownsRow (w.heap.size+1) 4 1 (.slice a q q) q (S.map Value.bool)/\db ao (ablk a) /\
   Hid (uj S l)/\l.length+cntF S=q/\cntF S<=n/\Hid (fQ P m mod q x=powTo (λy=>dz P m mod y x) n l y)/\Below (w.heap.size+1) W0 wr)
  (λov _ _=>q - lenVal ov)
 case atStart =>
  obtain ⟨xn,rfl⟩ : ∃xn : Nat,x=xn:=⟨x.toNat,by omega⟩
  have hc:=tE (List.replicate q false) 1 (by rw [List.getElem?_replicate,if_pos (by omega)])
  rw [td] at hc
  refine ⟨[1],xn,(List.replicate q false).set 1 true,_,1,q,rfl,rfl,by omega,hown3,?_,.inr (by simp;omega),?_,?_,?_,rfl,hbel3⟩
  ·have:=aP hown2 (B':=w.heap.size+1) (by simp;omega)
   simpa [List.map_set] using this
  ·intro j hj
   rw [yx _ _ _ _ (by simp;omega)]
   simp only [List.length_set,List.length_replicate] at hj
   by_cases e : j=1
   ·subst e;simp
   ·rw [if_neg e];simp [uF,hj];omega
  ·simp;omega
  ·omega
 case round =>
  obtain ⟨l,y,S,ao,c,n,rfl,rfl,hy,hownO,hownS,hapt,hsn,hcnt,hn,hfin,hbr⟩:=hrel
  obtain ⟨hbS,hmS⟩:=CD.own hownS
  have hlS : S.length=q:=hbS.len
  obtain ⟨q0,q1,q2,hbw⟩:=Hbox.out wr hbr
  have hpS:=hbS.pl
  have hcy:=hbS.cell y hy
  have hyq : (y : Int)<q:=by omega
  by_cases hy0 : y=0
  ·have hstop : fQ P m mod q x=l:=by rw [hfin.out];exact j5 _ _ _ _ (.inl (by omega))
   have hyz : ((y : Int) != 0)=false:=by simp;omega
   have Hstop:=Z5 hstop
   clear hstop hy0
   go_wp2_with fail
   go_ret
   refine ⟨ao,c,by rw [Hstop.out];rfl,by rw [Hstop.out];exact aP hownO (by omega),hbw⟩
  have hyz : ((y : Int) != 0)=true:=by simp;omega
  have hmem:=hsn.out y (by omega)
  by_cases hyS : uF S y=true
  ·have hstop : fQ P m mod q x=l:=by rw [hfin.out];exact j5 _ _ _ _ (.inr (hmem.1 hyS))
   have Hstop:=Z5 hstop
   clear hstop hmem hy0
   go_wp2_with fail
   go_ret
   refine ⟨ao,c,by rw [Hstop.out];rfl,by rw [Hstop.out];exact aP hownO (by omega),hbw⟩
  have hyF : uF S y=false:=by simpa using hyS
  have hSy : S[y]? = some false:=by rw [List.getElem?_eq_getElem (by omega),<- yd (by omega),hyF]
  have hcs:=tE S y hSy
  obtain ⟨n',rfl⟩ : ∃n',n=n'+1:=⟨n - 1,by omega⟩
  have hgo : fQ P m mod q x=powTo (λy=>dz P m mod y x) n' (l ++ [(y : Int)]) (dz P m mod y x):=by
   rw [hfin.out];exact sJ _ _ _ _ (λh=>h.elim (λh=>by omega) (λh=>hyS (hmem.2 h)))
  have Hgo:=Z5 hgo
  have hsn2 : Hid (uj (S.set y true) (l ++ [(y : Int)])):=hsn.out.snoc y (by omega)
  have hfy:=(hmS (by omega)).2 y hy
  clear hgo hmem hy0 hyS hSy hsn hfin
  have hO2:=eO hownO (p:=⟨ablk a,aJ a+y,none⟩) (.bool true) hapt
  have hS2:=bC hownS y hy (.bool true)
  rw [<- List.map_set] at hS2
  have hB2:=hbr.setCell (p:=⟨ablk a,aJ a+y,none⟩) (show w.heap.size+1<=ablk a by omega) (.bool true)
  have hzs : (wr.setCell ⟨ablk a,aJ a+y,none⟩ (.bool true)).heap.size=wr.heap.size:=by simp
  have hcn : ((wr.setCell ⟨ablk a,aJ a+y,none⟩ (.bool true)).alloc (.cells #[.int .i64 y] 3)).cell? ⟨wr.heap.size,0,none⟩=some (.int .i64 y):=by
   have h:=World.cell?_alloc_new (wr.setCell ⟨ablk a,aJ a+y,none⟩ (.bool true)) #[.int .i64 y] 3 0
   rw [hzs] at h;exact h
  have hWr : W0.heap.size<=wr.heap.size:=hbr.size
  have hl256 : l.length<=256:=by omega
  have hBs : w.heap.size+1<=((wr.setCell ⟨ablk a,aJ a+y,none⟩ (.bool true)).alloc (.cells #[.int .i64 y] 3)).heap.size:=by rw [World.size_alloc,hzs];omega
  go_wp2_with (at_builtin;refine bk rfl _ _ 22 3 rfl (.int .i64 0) 8 Tryz.underlying22 aX rfl (w.heap.size+1) ao l.length c _ rfl (hO2.alloc _) ⟨wr.heap.size,0,none⟩ 1 (.int .i64 y) rfl hcn rfl (by omega) (by unfold maxLen;omega) hBs ?_;intro a3 c3 w3 hown3 hgr hap3;have hB3:=Below.app (hB2.alloc (by rw [hzs];omega) _) (hO2.alloc _) hgr (Nat.le_refl _) hBs;obtain ⟨r0,r1,r2,hbw3⟩:=Hbox.out w3 hB3)
  have hmb:=xN hPp m mod y x
  rw [<- Hq.out] at hmb
  refine (pT P m am mn cm mod y x w3 (hd.ah hbw3) (by omega) (by omega) hx (by omega)).mono ?_
  rintro e w4 ⟨rfl,hb4⟩
  have hS3:=eK (hS2.alloc _) hgr hapt
  have hap4:=hap3 (ablk a) (by have h:=(fJ hS2 (by omega)).2;rw [World.size_alloc];omega) hapt
  have hown4:=aW hown3 hb4
  have hS4:=aW hS3 hb4
  have hB4 : Below (w.heap.size+1) W0 w4:=hB3.trans (hb4.mono (by have:=hB3.size;omega))
  obtain ⟨y2,hy2⟩ : ∃y2 : Nat,dz P m mod y x=y2:=⟨(dz P m mod y x).toNat,by omega⟩
  rw [hy2] at hmb
  clear hown3 hS3 hB3 hb4 hgr hO2 hS2 hB2 hownO hownS hown2 hcn r0 r1 r2 hap3
  go_wp2_with fail
  go_roundw
  case rel =>
   refine ⟨l ++ [(y : Int)],y2,S.set y true,a3,c3,n',by simp,rfl,by omega,by simpa using hown4,hS4,hap4,hsn2,by simp;omega,by omega,?_,hB4⟩
   have:=Hgo.out
   rw [hy2] at this
   exact this
  case measure=>simp [lenVal] <;> omega
def sg (P : Int) (M : Nat) (mod : Lz) (q : Nat) (w : World) (e : Ending) (w' : World) : Prop :=
 ∃a c,e = .returned (.slice a (gK P M mod q).length c)/\w'.ownsRow w.heap.size 3 1 (.slice a (gK P M mod q).length c) (gK P M mod q).length ((gK P M mod q).map (Value.int .i64)) /\
  (gK P M mod q=[]->a=none/\c=0)/\Below w.heap.size w w'
theorem DA {P : Int} {M : Nat} {mod : Lz} {q : Nat} {x : Int} (h : (fQ P M mod q x).length ≠ q - 1) : gw P M mod q x=false:=by simp [gw,h]
theorem n9 (P : Int) (m : Nat) (am : OA) (mn cm : Nat) (mod : Lz) (q : Nat) (w : World) (hd : rZ w P m mn am mod)
  (hq : (q : Int)=P ^ m) :
  Calls Tryz.prog 161 #[.agg #[.int .i64 P,.int .i64 m,.slice am mn cm],.int .i64 q] w (sg P m mod q w):=by
 have hq2 : 2<=q:=by
  have h1:=cW (show 1<=P by have:=hd.p2;omega) hd.m1
  have h2:=hd.p2
  rw [show (1 : Nat)=0+1 from rfl,Int.pow_succ,Int.pow_zero,Int.one_mul] at h1
  omega
 have hq256 : q<=256:=by have:=hd.pw;omega
 have hPp : 0<P:=by have:=hd.p2;omega
 have Hq:=Z5 hq
 clear hq
 have hbox : ∀w' : World,Below (w.heap.size+1) (w.alloc (.cells #[.int .i64 P,.int .i64 m,.slice am mn cm] 24)) w' ->
   w'.cell? ⟨w.heap.size,0,none⟩=some (.int .i64 P)/\w'.cell? ⟨w.heap.size,1,none⟩=some (.int .i64 m)/\w'.cell? ⟨w.heap.size,2,none⟩=some (.slice am mn cm)/\Below w.heap.size w w':=by
  intro w' h
  refine ⟨(h.cell (by simp)).trans (by simp),(h.cell (by simp)).trans (by simp),(h.cell (by simp)).trans (by simp),((Below.refl _ _).alloc (Nat.le_refl _) _).trans (h.mono (by omega))⟩
 have Hbox:=Z5 hbox
 clear hbox
 have hq2' : (1 : Int)<q:=by omega
 go_enter Tryz.func161,Tryz.ntmps161
 go_wp2
 generalize hW0 : w.alloc (.cells #[.int .i64 P,.int .i64 m,.slice am mn cm] 24)=W0 at *
 have hW0s : W0.heap.size=w.heap.size+1:=by rw [<- hW0];simp
 clear hW0
 go_loopw [5] (λxv wr=>∃x : Nat,1<=x/\x<=q/\xv = .int .i64 x/\Hid (gK P m mod q=genTo P m mod q (q - x) x)/\Below (w.heap.size+1) W0 wr) (λxv _=>q - (intOf xv).toNat)
 case atStart=>exact ⟨1,Nat.le_refl _,by omega,rfl,rfl,Below.refl _ _⟩
 case round =>
  obtain ⟨x,hx1,hxq,rfl,hgen,hbr⟩:=hrel
  obtain ⟨q0,q1,q2,hbw⟩:=Hbox.out wr hbr
  by_cases hlt : x<q
  ·have hxi : (x : Int)<q:=by omega
   go_wp2_with fail
   refine (Bh P m am mn cm mod q x wr (hd.ah hbw) Hq.out (by omega) hxi).mono ?_
   rintro e w1 ⟨a1,c1,rfl,hown1,hb1⟩
   obtain ⟨hi1,hm1⟩:=Ints.own hown1
   have hB1 : Below (w.heap.size+1) W0 w1:=hbr.trans (hb1.mono (by have:=hbr.size;omega))
   obtain ⟨r0,r1,r2,hbw1⟩:=Hbox.out w1 hB1
   have hgs : genTo P m mod q (q - x) x=if gw P m mod q x then fQ P m mod q x else genTo P m mod q (q - (x+1)) (x+1):=by
    rw [show q - x=(q - (x+1))+1 from by omega,genTo]
   rw [hgs] at hgen
   by_cases hlen : (fQ P m mod q x).length=q - 1
   ·have hl1 : ((fQ P m mod q x).length : Int)=(q : Int) - 1:=by omega
    have hle : (((fQ P m mod q x).length : Int) == (q : Int) - 1)=true:=by rw [hl1];simp
    have hcl:=hi1.cell (q - 2) (by omega)
    have hpb:=hi1.pl
    have hib0 : (0 : Int)<=(q : Int) - 2:=by omega
    have hib2 : (2 : Int)<=(q : Int):=by omega
    have hib1 : (q : Int) - 2<((fQ P m mod q x).length : Int):=by omega
    have hlb:=rS hPp m mod q x Hq.out hq2 (by omega) hxi (q - 2)
    have hdd : rZ w1.drew P m mn am mod:=hd.ah hbw1.drew
    have hw1 : IntKind.i64.wrap ((q : Int) - 1)=(q : Int) - 1:=IntWalk.i64_in _ (by omega)
    have hw2 : IntKind.i64.wrap ((q : Int) - 2)=(q : Int) - 2:=IntWalk.i64_in _ (by omega)
    have hw3 : ((q : Int) - 2).toNat=q - 2:=by omega
    have HLn:=Z5 hlen
    clear hl1 hlen
    go_wp2_with fail
    go_region_held3 (λw'=>w'.cell? ⟨w.heap.size,0,none⟩=some (.int .i64 P)/\w'.cell? ⟨w.heap.size,1,none⟩=some (.int .i64 m)/\w'.cell? ⟨w.heap.size,2,none⟩=some (.slice am mn cm)/\w'.cell? ⟨ablk a1,aJ a1+(q - 2),none⟩=some (.int .i64 (nth (fQ P m mod q x) (q - 2)))/\Below w1.heap.size w1 w')
     (first | exact ⟨r0,r1,r2,hcl,(Below.refl _ _).drew⟩ | (go_split_ands;exact ⟨aw (by assumption) (by assumption),aw (by assumption) (by assumption),aw (by assumption) (by assumption),aw (by assumption) (by assumption),Below.next (by assumption) (by assumption)⟩))
     (first | (go_at_call 217;((with_reducible refine (pT P m am mn cm mod (nth (fQ P m mod q x) (q - 2)) x _ hdd (by omega) (by omega) (by omega) (by omega)).mono ?_);rintro e w4 ⟨rfl,hb4⟩)))
    obtain ⟨_,_,_,hcl4,hbd4⟩ : w4.cell? ⟨w.heap.size,0,none⟩=some (.int .i64 P)/\w4.cell? ⟨w.heap.size,1,none⟩=some (.int .i64 m)/\w4.cell? ⟨w.heap.size,2,none⟩=some (.slice am mn cm)/\w4.cell? ⟨ablk a1,aJ a1+(q - 2),none⟩=some (.int .i64 (nth (fQ P m mod q x) (q - 2)))/\Below w1.heap.size w1 w4:=by assumption
    have hB4 : Below (w.heap.size+1) W0 w4:=hB1.trans (hbd4.mono (by have:=hB1.size;omega))
    clear hw1 hw2 hw3 hdd
    by_cases hone : dz P m mod (nth (fQ P m mod q x) (q - 2)) x=1
    ·have hig : gw P m mod q x=true:=by simp [gw,hone,HLn.out]
     rw [hig] at hgen
     have hfin : gK P m mod q=fQ P m mod q x:=hgen.out
     have Hfin:=Z5 hfin
     have h1b : (dz P m mod (nth (fQ P m mod q x) (q - 2)) x == 1)=true:=by rw [hone];rfl
     clear hfin hig hone hgen
     go_wp2_with fail
     go_ret
     refine ⟨a1,c1,by rw [Hfin.out];rfl,by rw [Hfin.out];exact aP (aW hown1 hbd4) (by have:=hbr.size;omega),?_,(Hbox.out w4 hB4).2.2.2⟩
     rw [Hfin.out]
     intro h
     have h2:=HLn.out
     rw [h] at h2
     simp at h2
     omega
    ·have hig : gw P m mod q x=false:=by simp [gw,hone]
     rw [hig] at hgen
     have h1b : (dz P m mod (nth (fQ P m mod q x) (q - 2)) x == 1)=false:=by simpa using hone
     clear hig hone hcl4
     go_wp2_with fail
     go_roundw
     case rel=>exact ⟨x+1,by omega,by omega,by go_num,hgen,hB4⟩
     case measure=>simp [intOf] <;> omega
   ·rw [DA hlen] at hgen
    have hle : (((fQ P m mod q x).length : Int) == (q : Int) - 1)=false:=by rw [beq_eq_false_iff_ne];omega
    have hw1 : IntKind.i64.wrap ((q : Int) - 1)=(q : Int) - 1:=IntWalk.i64_in _ (by omega)
    clear hlen
    go_wp2_with fail
    go_quiet (fail)
    clear hw1
    go_wp2_with fail
    go_roundw
    case rel=>exact ⟨x+1,by omega,by omega,by go_num,hgen,below_drewN hB1 _⟩
    case measure=>simp [intOf] <;> omega
  ·obtain rfl : x=q:=by omega
   have hg0 : gK P m mod x=[]:=by rw [hgen.out,Nat.sub_self];rfl
   have Hg0:=Z5 hg0
   clear hg0
   go_wp2_with fail
   go_ret
   refine ⟨none,0,by rw [Hg0.out];rfl,by rw [Hg0.out];exact bY,λ_=>⟨rfl,rfl⟩,hbw⟩
theorem BG {w : World} {B : Nat} {e : TypeId} {a : OA} {c n : Nat} {xs : List Value} (h : w.ownsRow B e 1 (.slice a n c) n xs) (hn : 0<n) : a.isNone=false:=by
 obtain ⟨_,_,hv,hp⟩:=Pl.own h
 cases hv
 rw [hp hn];rfl
theorem sg.isNone {a : OA} {l : Lz} {c : Nat} {w : World} {B : Nat} {e : TypeId} (h : w.ownsRow B e 1 (.slice a l.length c) l.length (l.map (Value.int .i64))) (h0 : l=[]->a=none/\c=0) : a.isNone=l.isEmpty:=by
 cases l with
 | nil=>rw [(h0 rfl).1];rfl
 | cons x l=>exact BG h (by simp)
def bA (P M : Int) (mod : Lz) : Bool:=b8 P M mod && !(gK P M.toNat mod (aK P M).toNat).isEmpty
def bG (b : Bool) : Int:=if b then 0 else 1
theorem rF {w : World} {P M : Int} {am : OA} {mn : Nat} {mod : Lz} (hm : Ints w am mn mod) (h : b8 P M mod=true) :
  ∃m : Nat,M=m/\rZ w P m mn am mod/\aK P M=P ^ m/\((aK P M).toNat : Int)=P ^ m:=by
 simp only [b8,Bool.and_eq_true,bne_iff_ne,ne_eq] at h
 obtain ⟨⟨h0,h1⟩,h2⟩:=h
 obtain ⟨b1,b2,b3,b4,b5,b6⟩:=gN h0
 refine ⟨M.toNat,by omega,⟨b1,b2,by omega,by omega,b5,?_,hm,?_⟩,b6,?_⟩
 ·intro h3
  rw [if_neg (by omega)] at h2
  simp only [Bool.and_eq_true,decide_eq_true_eq] at h2
  have:=hm.len
  omega
 ·refine cR.jZ (by omega) λx hx=>?_
  by_cases hM : M=1
  ·rw [if_pos hM] at h2
   have h3 : mod.length=0:=by simpa using h2
   rw [List.eq_nil_of_length_eq_zero h3] at hx
   cases hx
  ·rw [if_neg hM] at h2
   simp only [Bool.and_eq_true,decide_eq_true_eq,List.all_eq_true] at h2
   exact h2.2 x hx
 ·rw [b6]
  have:=cW (show 1<=P by omega) (Nat.zero_le M.toNat)
  rw [Int.pow_zero] at this
  omega
theorem sW (P M : Int) (am : OA) (mn cm : Nat) (mod : Lz) (w : World) (hmod : Ints w am mn mod) :
  Calls Tryz.prog 124 #[.agg #[.int .i64 P,.int .i64 M,.slice am mn cm]] w λe w' =>
   e = .returned (.int .i64 (bG (bA P M mod)))/\Below w.heap.size w w':=by
 have hbox : ∀w' : World,Below (w.heap.size+1) (w.alloc (.cells #[.int .i64 P,.int .i64 M,.slice am mn cm] 24)) w' ->
   w'.cell? ⟨w.heap.size,0,none⟩=some (.int .i64 P)/\w'.cell? ⟨w.heap.size,1,none⟩=some (.int .i64 M)/\w'.cell? ⟨w.heap.size,2,none⟩=some (.slice am mn cm)/\Below w.heap.size w w':=by
  intro w' h
  refine ⟨(h.cell (by simp)).trans (by simp),(h.cell (by simp)).trans (by simp),(h.cell (by simp)).trans (by simp),((Below.refl _ _).alloc (Nat.le_refl _) _).trans (h.mono (by omega))⟩
 have Hbox:=Z5 hbox
 clear hbox
 go_enter Tryz.func124,Tryz.ntmps124
 go_wp2
 generalize hW0 : w.alloc (.cells #[.int .i64 P,.int .i64 M,.slice am mn cm] 24)=W0 at *
 have hW0s : W0.heap.size=w.heap.size+1:=by rw [<- hW0];simp
 obtain ⟨q0,q1,q2,hbw⟩:=Hbox.out W0 (Below.refl _ _)
 clear hW0
 by_cases hs : b8 P M mod=true
 ·obtain ⟨m,rfl,hd,ho,hq⟩:=rF hmod hs
  have hoq : aK P m=((aK P m).toNat : Int):=by rw [hq,ho]
  have hfin : bG (bA P m mod)=if (gK P m mod (aK P m).toNat).isEmpty then 1 else 0:=by
   simp [bA,hs,bG]
  have Hfin:=Z5 hfin
  have Hoq:=Z5 hoq
  have hd0 : rZ W0 P m mn am mod:=hd.ah hbw
  have heq:=λ(w : World) (a : OA) (l c : Nat)=>Go.run_eql_slice_nil (P:=Tryz.prog) w 22 3 a l c Tryz.underlying22
  generalize (aK P m).toNat=q at *
  have Hq:=Z5 hq
  clear hfin hoq ho hq
  go_region_held3 (λw'=>w'.cell? ⟨w.heap.size,0,none⟩=some (.int .i64 P)/\w'.cell? ⟨w.heap.size,1,none⟩=some (.int .i64 m)/\w'.cell? ⟨w.heap.size,2,none⟩=some (.slice am mn cm)/\rZ w' P m mn am mod/\Below W0.heap.size W0 w')
   (first | exact ⟨q0,q1,q2,hd0.ah (Below.refl _ _).drew,(Below.refl _ _).drew⟩ | assumption | (go_split_ands;exact ⟨aw (by assumption) (by assumption),aw (by assumption) (by assumption),aw (by assumption) (by assumption),rZ.ah (by assumption) (by assumption),Below.next (by assumption) (by assumption)⟩))
   (first | (go_at_call 159; ((with_reducible refine (qX P m am mn cm mod _ (hd0.ints.ah (Below.refl _ _).drew)).mono ?_); rw [hs]; rintro e w4 ⟨rfl, hb4⟩))
          | (go_at_call 160;((with_reducible refine (iq _ _ _).mono ?_);rw [Hoq.out];rintro e w4 ⟨rfl,rfl⟩))
          | (go_at_call 161;go_split_ands;((with_reducible refine (n9 P m am mn cm mod q _ (by assumption) Hq.out).mono ?_);rintro e w4 ⟨a4,c4,rfl,hown4,hnil4,hb4⟩;have hin4:=sg.isNone hown4 hnil4)))
  obtain ⟨_,_,_,_,hbl⟩ : w4.cell? ⟨w.heap.size,0,none⟩=some (.int .i64 P)/\w4.cell? ⟨w.heap.size,1,none⟩=some (.int .i64 m)/\w4.cell? ⟨w.heap.size,2,none⟩=some (.slice am mn cm)/\rZ w4 P m mn am mod/\Below W0.heap.size W0 w4:=by assumption
  cases hge : (gK P m mod q).isEmpty
  all_goals
   go_wp2_with fail
   go_ret
   exact ⟨aF (by rw [Hfin.out,hge];rfl),Below.next hbw hbl⟩
 ·have hs' : b8 P M mod=false:=by simpa using hs
  have Hf:=Z5 (show bG (bA P M mod)=1 by simp [bA,hs',bG])
  clear hs
  refine wp_region_held_drew (S:=(λw'=>w'.cell? ⟨w.heap.size,0,none⟩=some (.int .i64 P)/\w'.cell? ⟨w.heap.size,1,none⟩=some (.int .i64 M)/\w'.cell? ⟨w.heap.size,2,none⟩=some (.slice am mn cm)/\Below W0.heap.size W0 w')) (by kernel_rfl) ?_ (λhHeld=>?_)
  ·exact ⟨q0,q1,q2,(Below.refl _ _).drew⟩
  refine wpAnyH_take (i:=0) (v:=?_) (by simp only [List.getElem?_toArray,List.getElem?_cons_succ,List.getElem?_cons_zero];rfl) (by kernel_rfl) (by kernel_rfl) (by kernel_rfl) (by exact λ_ _ _ h=>h) (Or.inl ⟨by rfl,?_⟩) (by assumption) ?_
  rotate_left
  ·(intro w hSw;(try dsimp only at hSw);go_simp;first | done | with_reducible rfl)
  try simp only [Act.put,List.setIfInBounds_toArray,List.set_cons_zero,List.set_cons_succ]
  refine wpAnyH_ready (rs:=[1]) (by kernel_rfl) (by simp) ?_
  refine AllReadyH.cons rfl (λK hK=>?_) AllReadyH.nil
  go_simp
  refine (qX P M am mn cm mod _ (hmod.ah hbw.drew)).mono ?_;rintro e w4 ⟨rfl,hb4⟩
  go_wp2_with fail
  refine hK.out _ _ ?_ (λhHeld=>?_)
  ·exact ⟨aw hb4 q0,aw hb4 q1,aw hb4 q2,Below.next (Below.refl _ _).drew hb4⟩
  clear hK K
  try simp only [Act.put,List.setIfInBounds_toArray,List.set_cons_zero,List.set_cons_succ]
  refine wpAnyH_take (i:=2) (v:=?_) (by simp only [List.getElem?_toArray,List.getElem?_cons_succ,List.getElem?_cons_zero];rfl) (by kernel_rfl) (by kernel_rfl) (by kernel_rfl) (by exact λ_ _ _ h=>h) (Or.inl ⟨by rfl,?_⟩) (by assumption) ?_
  rotate_left
  ·(intro w hSw;(try dsimp only at hSw);go_simp;first | done | with_reducible rfl)
  try simp only [Act.put,List.setIfInBounds_toArray,List.set_cons_zero,List.set_cons_succ]
  refine wpAnyH_take (i:=3) (v:=?_) (by simp only [List.getElem?_toArray,List.getElem?_cons_succ,List.getElem?_cons_zero];rfl) (by kernel_rfl) (by kernel_rfl) (by kernel_rfl) (by exact λ_ _ _ h=>h) (Or.inl ⟨by rfl,?_⟩) (by assumption) ?_
  rotate_left
  ·(intro w hSw;(try dsimp only at hSw);go_simp;first | done | with_reducible rfl)
  try simp only [Act.put,List.setIfInBounds_toArray,List.set_cons_zero,List.set_cons_succ]
  refine wpAnyH_take (i:=4) (v:=undef) (by simp only [List.getElem?_toArray,List.getElem?_cons_succ,List.getElem?_cons_zero];rfl) (by kernel_rfl) (by kernel_rfl) (by kernel_rfl) (by exact λ_ _ _ h=>h) (Or.inr ⟨by rfl,rfl⟩) (by assumption) ?_
  try simp only [Act.put,List.setIfInBounds_toArray,List.set_cons_zero,List.set_cons_succ]
  refine wpAnyH_take (i:=5) (v:=undef) (by simp only [List.getElem?_toArray,List.getElem?_cons_succ,List.getElem?_cons_zero];rfl) (by kernel_rfl) (by kernel_rfl) (by kernel_rfl) (by exact λ_ _ _ h=>h) (Or.inr ⟨by rfl,rfl⟩) (by assumption) ?_
  try simp only [Act.put,List.setIfInBounds_toArray,List.set_cons_zero,List.set_cons_succ]
  refine wpAnyH_take (i:=6) (v:=undef) (by simp only [List.getElem?_toArray,List.getElem?_cons_succ,List.getElem?_cons_zero];rfl) (by kernel_rfl) (by kernel_rfl) (by kernel_rfl) (by exact λ_ _ _ h=>h) (Or.inr ⟨by rfl,rfl⟩) (by assumption) ?_
  try simp only [Act.put,List.setIfInBounds_toArray,List.set_cons_zero,List.set_cons_succ]
  refine wpAnyH_take (i:=7) (v:=undef) (by simp only [List.getElem?_toArray,List.getElem?_cons_succ,List.getElem?_cons_zero];rfl) (by kernel_rfl) (by kernel_rfl) (by kernel_rfl) (by exact λ_ _ _ h=>h) (Or.inr ⟨by rfl,rfl⟩) (by assumption) ?_
  try simp only [Act.put,List.setIfInBounds_toArray,List.set_cons_zero,List.set_cons_succ]
  refine wpAnyH_take (i:=8) (v:=undef) (by simp only [List.getElem?_toArray,List.getElem?_cons_succ,List.getElem?_cons_zero];rfl) (by kernel_rfl) (by kernel_rfl) (by kernel_rfl) (by exact λ_ _ _ h=>h) (Or.inr ⟨by rfl,rfl⟩) (by assumption) ?_
  try simp only [Act.put,List.setIfInBounds_toArray,List.set_cons_zero,List.set_cons_succ]
  refine wpAnyH_take (i:=9) (v:=undef) (by simp only [List.getElem?_toArray,List.getElem?_cons_succ,List.getElem?_cons_zero];rfl) (by kernel_rfl) (by kernel_rfl) (by kernel_rfl) (by exact λ_ _ _ h=>h) (Or.inr ⟨by rfl,rfl⟩) (by assumption) ?_
  try simp only [Act.put,List.setIfInBounds_toArray,List.set_cons_zero,List.set_cons_succ]
  refine wpAnyH_take (i:=10) (v:=undef) (by simp only [List.getElem?_toArray,List.getElem?_cons_succ,List.getElem?_cons_zero];rfl) (by kernel_rfl) (by kernel_rfl) (by kernel_rfl) (by exact λ_ _ _ h=>h) (Or.inr ⟨by rfl,rfl⟩) (by assumption) ?_
  try simp only [Act.put,List.setIfInBounds_toArray,List.set_cons_zero,List.set_cons_succ]
  refine wpAnyH_take (i:=11) (v:=undef) (by simp only [List.getElem?_toArray,List.getElem?_cons_succ,List.getElem?_cons_zero];rfl) (by kernel_rfl) (by kernel_rfl) (by kernel_rfl) (by exact λ_ _ _ h=>h) (Or.inr ⟨by rfl,rfl⟩) (by assumption) ?_
  try simp only [Act.put,List.setIfInBounds_toArray,List.set_cons_zero,List.set_cons_succ]
  refine wpAnyH_take (i:=12) (v:=?_) (by simp only [List.getElem?_toArray,List.getElem?_cons_succ,List.getElem?_cons_zero];rfl) (by kernel_rfl) (by kernel_rfl) (by kernel_rfl) (by exact λ_ _ _ h=>h) (Or.inl ⟨by rfl,?_⟩) (by assumption) ?_
  rotate_left
  ·(intro w hSw;(try dsimp only at hSw);go_simp;first | done | with_reducible rfl)
  try simp only [Act.put,List.setIfInBounds_toArray,List.set_cons_zero,List.set_cons_succ]
  refine wpAnyH_done (by kernel_rfl) ?_ _
  go_wp2_with fail
  go_ret
  exact ⟨aF Hf.out.symm,Below.next hbw hHeld.2.2.2⟩
section
structure Au (w : World) (b : Nat) (P : Int) (M q : Nat) (ex lg : Lz) : Prop where
 p2 : 2<=P
 m1 : 1<=M
 m8 : M<=8
 pw : (q : Int)=P ^ M
 p256 : P<=256
 q2 : 2<=q
 q256 : q<=256
 cp : w.cell? ⟨b,0,none⟩=some (.int .i64 P)
 cq : w.cell? ⟨b,3,none⟩=some (.int .i64 q)
 ce : ∃a c,w.cell? ⟨b,4,none⟩=some (.slice a (q - 1) c)/\Ints w a (q - 1) ex
 cl : ∃a c,w.cell? ⟨b,5,none⟩=some (.slice a q c)/\Ints w a q lg
 eb : ∀i,i<q - 1->0<=nth ex i/\nth ex i<q
 lb : ∀i,i<q->0<=nth lg i/\nth lg i<q - 1
theorem Au.ah {w w' : World} {b : Nat} {P : Int} {M q : Nat} {ex lg : Lz} (h : Au w b P M q ex lg) (hb : Below w.heap.size w w') : Au w' b P M q ex lg:=by
 obtain ⟨a,c,h1,h2⟩:=h.ce
 obtain ⟨a',c',h3,h4⟩:=h.cl
 exact ⟨h.p2,h.m1,h.m8,h.pw,h.p256,h.q2,h.q256,aw hb h.cp,aw hb h.cq,⟨a,c,aw hb h1,h2.ah hb⟩,⟨a',c',aw hb h3,h4.ah hb⟩,h.eb,h.lb⟩
def sH (q : Nat) (ex lg : Lz) (x y : Int) : Int :=
 if x=0\/y=0 then 0 else nth ex ((nth lg x.toNat+nth lg y.toNat) % ((q : Int) - 1)).toNat
def Ab (q : Nat) (ex lg : Lz) (x : Int) : Int:=nth ex (((q : Int) - 1 - nth lg x.toNat) % ((q : Int) - 1)).toNat
variable {w : World} {b : Nat} {P : Int} {M q : Nat} {ex lg : Lz}
theorem zh (x : Int) (h : Au w b P M q ex lg) :
  Calls Tryz.prog 138 #[.pointer (some ⟨b,0,none⟩),.int .i64 x] w λe w'=>e = .returned (.bool (decide (0<=x) && decide (x<q)))/\w=w':=by
 have hc:=h.cq
 by_cases h0 : 0<=x
 ·have h0' : decide (0<=x)=true:=by simpa using h0
  go_enter Tryz.func138,Tryz.ntmps138
  go_wp2
  go_ret
  exact ⟨by simp [h0],rfl⟩
 ·have h0' : decide (0<=x)=false:=by simpa using h0
  go_enter Tryz.func138,Tryz.ntmps138
  go_wp2
  go_ret
  exact ⟨by simp [h0],rfl⟩
theorem fR (x : Int) (h : Au w b P M q ex lg) (h0 : 0<=x) (h1 : x<q) :
  Calls Tryz.prog 162 #[.pointer (some ⟨b,0,none⟩),.int .i64 x] w λe w'=>e = .returned (.int .i64 x)/\w=w':=by
 have h0' : decide (0<=x)=true:=by simpa using h0
 have h1' : decide (x<q)=true:=by simpa using h1
 go_enter Tryz.func162,Tryz.ntmps162
 go_wp2_with (go_at_call 138;refine (zh x h).mono ?_;rintro e w' ⟨rfl,rfl⟩)
 go_ret
 exact ⟨rfl,rfl⟩
theorem DS (x y : Int) (h : Au w b P M q ex lg) (hx0 : 0<=x) (hx1 : x<q) (hy0 : 0<=y) (hy1 : y<q) :
  Calls Tryz.prog 153 #[.pointer (some ⟨b,0,none⟩),.int .i64 x,.int .i64 y] w λe w'=>∃n,e = .returned (.int .i64 (sH q ex lg x y))/\w'=w.drewN n:=by
 obtain ⟨ae,ce,hce,hie⟩:=h.ce
 obtain ⟨al,cl,hcl,hil⟩:=h.cl
 have hcq:=h.cq
 by_cases hx : x=0
 ·have hx' : (x == 0)=true:=by simpa using hx
  have Hf:=Z5 (show sH q ex lg x y=0 by simp [sH,hx])
  clear hx
  go_enter Tryz.func153,Tryz.ntmps153
  go_wp2_with (first | (go_at_call 162;(with_reducible refine (fR x h hx0 hx1).mono ?_);rintro e w' ⟨rfl,rfl⟩) | (go_at_call 162;(with_reducible refine (fR y h hy0 hy1).mono ?_);rintro e w' ⟨rfl,rfl⟩))
  go_ret
  exact ⟨0,aF Hf.out.symm,rfl⟩
 have hx' : (x == 0)=false:=by simpa using hx
 by_cases hy : y=0
 ·have hy' : (y == 0)=true:=by simpa using hy
  have Hf:=Z5 (show sH q ex lg x y=0 by simp [sH,hy])
  clear hx hy
  go_enter Tryz.func153,Tryz.ntmps153
  go_wp2_with (first | (go_at_call 162;(with_reducible refine (fR x h hx0 hx1).mono ?_);rintro e w' ⟨rfl,rfl⟩) | (go_at_call 162;(with_reducible refine (fR y h hy0 hy1).mono ?_);rintro e w' ⟨rfl,rfl⟩))
  go_ret
  exact ⟨0,aF Hf.out.symm,rfl⟩
 have hy' : (y == 0)=false:=by simpa using hy
 obtain ⟨xn,rfl⟩ : ∃n : Nat,x=n:=⟨x.toNat,by omega⟩
 obtain ⟨yn,rfl⟩ : ∃n : Nat,y=n:=⟨y.toNat,by omega⟩
 have lx:=h.lb xn (by omega)
 have ly:=h.lb yn (by omega)
 have cx:=hil.cell xn (by omega)
 have cy:=hil.cell yn (by omega)
 have hpe:=hie.pl
 have hpl:=hil.pl
 have hq2:=h.q2
 have hq256:=h.q256
 have hm0:=Int.emod_nonneg (nth lg xn+nth lg yn) (show (q : Int) - 1 ≠ 0 by omega)
 have hm1:=Int.emod_lt_of_pos (nth lg xn+nth lg yn) (show 0<(q : Int) - 1 by omega)
 obtain ⟨k,hk⟩ : ∃k : Nat,(nth lg xn+nth lg yn) % ((q : Int) - 1)=k:=⟨((nth lg xn+nth lg yn) % ((q : Int) - 1)).toNat,by omega⟩
 have hf : sH q ex lg xn yn=nth ex k:=by
  unfold sH
  rw [if_neg (by omega)]
  simp only [Int.toNat_natCast,hk]
 have ck:=hie.cell k (by omega)
 have r1 : IntKind.i64.wrap (nth lg xn+nth lg yn)=nth lg xn+nth lg yn:=IntWalk.i64_in _ (by omega)
 have r2 : IntKind.i64.wrap ((q : Int) - 1)=(q : Int) - 1:=IntWalk.i64_in _ (by omega)
 have r3 : (nth lg xn+nth lg yn).tmod ((q : Int) - 1)=k:=by rw [IntWalk.rem_in _ _ (by omega),hk]
 have r4 : ¬ (q : Int) - 1=0:=by omega
 have r5 : (k : Int)<((q - 1 : Nat) : Int):=by omega
 have r6 : (xn : Int)<q:=by omega
 have r7 : (yn : Int)<q:=by omega
 have Hf:=Z5 hf
 clear hx hy hf hk hm0 hm1
 go_enter Tryz.func153,Tryz.ntmps153
 go_wp2_with (first | (go_at_call 162;(with_reducible refine (fR xn h hx0 hx1).mono ?_);rintro e w' ⟨rfl,rfl⟩) | (go_at_call 162;(with_reducible refine (fR yn h hy0 hy1).mono ?_);rintro e w' ⟨rfl,rfl⟩))
 go_quiet (fail)
 go_wp2
 go_ret
 exact ⟨_,aF Hf.out.symm,rfl⟩
end
section
theorem oy (a b : Nat) (ha : a<256) (hb : b<256) : bits .xor .i64 (a : Int) (b : Int)=((a ^^^ b : Nat) : Int):=by
 have hx : a ^^^ b<2 ^ 8:=Nat.xor_lt_two_pow (by omega) (by omega)
 have h1 : (BitVec.ofInt 64 (a : Int)).toNat=a:=by
  rw [BitVec.ofInt_natCast,BitVec.toNat_ofNat];exact Nat.mod_eq_of_lt (by omega)
 have h2 : (BitVec.ofInt 64 (b : Int)).toNat=b:=by
  rw [BitVec.ofInt_natCast,BitVec.toNat_ofNat];exact Nat.mod_eq_of_lt (by omega)
 show IntKind.i64.wrap ((BitVec.ofInt 64 (a : Int) ^^^ BitVec.ofInt 64 (b : Int)).toNat : Int)=_
 rw [BitVec.toNat_xor,h1,h2]
 exact IntWalk.i64_in _ (by omega)
variable {w : World} {b : Nat} {P : Int} {M q : Nat} {ex lg : Lz}
def jV (w : World) (z : Int) (e : Ending) (w' : World) : Prop:=∃n,e = .returned (.int .i64 z)/\w'=w.drewN n
theorem oS {w wr : World} {n : Nat} (h : wr=w.drewN n) (m : Nat) : ∃k,wr.drewN m=w.drewN k:=⟨n+m,by rw [h,World.drewN_drewN]⟩
theorem step_eq (P s t D r : Int) (k : Nat) : s+P ^ k * (t+P * r)=s+t * P ^ k+P ^ (k+1) * r:=by
 rw [Int.pow_succ,Int.mul_add,Int.mul_comm (P ^ k) t,Int.mul_assoc,Int.add_assoc]
theorem vO (x y : Int) (h : Au w b P M q ex lg) (hx0 : 0<=x) (hx1 : x<q) (hy0 : 0<=y) (hy1 : y<q) :
  Calls Tryz.prog 152 #[.pointer (some ⟨b,0,none⟩),.int .i64 x,.int .i64 y] w (jV w (fsum P M x y)):=by
 have hcp:=h.cp
 have hp2:=h.p2
 have hp256:=h.p256
 have hq256:=h.q256
 by_cases hP : P=2
 ·obtain ⟨xn,rfl⟩ : ∃n : Nat,x=n:=⟨x.toNat,by omega⟩
  obtain ⟨yn,rfl⟩ : ∃n : Nat,y=n:=⟨y.toNat,by omega⟩
  subst hP
  have hpw:=h.pw
  have hq2 : q=2 ^ M:=by exact_mod_cast hpw
  have hxor : bits .xor .i64 (xn : Int) (yn : Int)=fsum 2 M xn yn:=by
   rw [oy _ _ (by omega) (by omega),Ah M xn yn (by omega) (by omega)]
  clear hpw hq2
  go_enter Tryz.func152,Tryz.ntmps152
  go_wp2_with (first | (go_at_call 162;(with_reducible refine (fR xn h hx0 hx1).mono ?_);rintro e w' ⟨rfl,rfl⟩) | (go_at_call 162;(with_reducible refine (fR yn h hy0 hy1).mono ?_);rintro e w' ⟨rfl,rfl⟩))
  go_ret
  exact ⟨0,rfl,rfl⟩
 ·have hP' : (P == 2)=false:=by simpa using hP
  have HPw:=Z5 h.pw
  clear hP
  go_enter Tryz.func152,Tryz.ntmps152
  go_wp2_with (first | (go_at_call 162;(with_reducible refine (fR x h hx0 hx1).mono ?_);rintro e w' ⟨rfl,rfl⟩) | (go_at_call 162;(with_reducible refine (fR y h hy0 hy1).mono ?_);rintro e w' ⟨rfl,rfl⟩))
  go_loopw [1,2,7,8] (λxv yv sv pv wr=>∃(k : Nat) (X Y s p : Int),k<=M/\xv = .int .i64 X/\yv = .int .i64 Y/\sv = .int .i64 s/\pv = .int .i64 p/\Hid (p=P ^ k)/\1<=p/\p<=256 /\
    0<=X/\X<=256/\0<=Y/\Y<=256/\0<=s/\s<p/\Hid (X=jw x P k)/\Hid (Y=jw y P k)/\Hid (s+P ^ k * fsum P (M - k) X Y=fsum P M x y)/\∃n,wr=w.drewN n)
   (λxv yv _ _ _=>(intOf xv+intOf yv).toNat)
  case atStart =>
   exact ⟨0,x,y,0,1,by omega,rfl,rfl,rfl,rfl,by show (1 : Int)=P ^ 0;simp,by omega,by omega,hx0,by omega,hy0,by omega,by omega,by omega,rfl,rfl,by show 0+P ^ 0 * fsum P (M - 0) x y=_;simp,0,rfl⟩
  case round =>
   obtain ⟨k,X,Y,s,p,hkM,rfl,rfl,rfl,rfl,hp,hp1,hp2',hX0,hX1,hY0,hY1,hs0,hs1,hX,hY,hinv,n,hwr⟩:=hrel
   have hcpr : wr.cell? ⟨b,0,none⟩=some (.int .i64 P):=by rw [hwr];exact hcp
   have Hwr:=Z5 hwr
   clear hwr
   by_cases hz : X=0/\Y=0
   ·obtain ⟨rfl,rfl⟩:=hz
    have hfin : s=fsum P M x y:=by
     have:=hinv.out
     rw [vQ] at this
     omega
    have Hfin:=Z5 hfin
    clear hfin
    go_wp2
    go_ret
    exact ⟨n,aF Hfin.out,Hwr.out⟩
   ·have hkM' : k<M:=by
     rcases Nat.lt_or_ge k M with h1 | h1
     ·exact h1
     ·exfalso
      obtain rfl : k=M:=by omega
      have e1:=ph P (by omega) k x hx0 (by rw [<- HPw.out];exact hx1)
      have e2:=ph P (by omega) k y hy0 (by rw [<- HPw.out];exact hy1)
      exact hz ⟨by rw [hX.out];exact e1,by rw [hY.out];exact e2⟩
    have hmeas : X / P+Y / P<X+Y:=by
     have h1:=Int.ediv_le_self P hX0
     have h2:=Int.ediv_le_self P hY0
     rcases (show 0<X\/0<Y by omega) with h3 | h3
     ·have : X / P<X:=Int.ediv_lt_of_lt_mul (by omega) (by have:=Int.mul_le_mul_of_nonneg_left hp2 hX0;omega)
      omega
     ·have : Y / P<Y:=Int.ediv_lt_of_lt_mul (by omega) (by have:=Int.mul_le_mul_of_nonneg_left hp2 hY0;omega)
      omega
    have hXd:=Int.ediv_nonneg hX0 (show 0<=P by omega)
    have hYd:=Int.ediv_nonneg hY0 (show 0<=P by omega)
    have hXd2:=Int.ediv_le_self P hX0
    have hYd2:=Int.ediv_le_self P hY0
    have m1:=Int.emod_nonneg X (show P ≠ 0 by omega)
    have m2:=Int.emod_lt_of_pos X (show 0<P by omega)
    have m3:=Int.emod_nonneg Y (show P ≠ 0 by omega)
    have m4:=Int.emod_lt_of_pos Y (show 0<P by omega)
    have m5:=Int.emod_nonneg (X+Y) (show P ≠ 0 by omega)
    have m6:=Int.emod_lt_of_pos (X+Y) (show 0<P by omega)
    have hpp : p * P=P ^ (k+1):=by rw [hp.out,Int.pow_succ]
    have hpM : P ^ (k+1)<=256:=by have h1:=cW (show 1<=P by omega) (show k+1<=M by omega);have h2:=HPw.out;omega
    have m7 : 0<=(X+Y) % P * p:=Int.mul_nonneg m5 (by omega)
    have m8 : (X+Y) % P * p+p<=p * P:=by
     have:=Int.mul_le_mul_of_nonneg_left (show (X+Y) % P+1<=P by omega) (show 0<=p by omega)
     rw [Int.mul_add] at this
     rw [Int.mul_comm _ p]
     omega
    have m9 : p * 1<=p * P:=Int.mul_le_mul_of_nonneg_left (by omega) (by omega)
    have hinv2 : s+(X+Y) % P * p+P ^ (k+1) * fsum P (M - (k+1)) (X / P) (Y / P)=fsum P M x y:=by
     rw [<- hinv.out,show M - k=(M - (k+1))+1 from by omega,fsum,step_eq P s _ 0,hp.out]
    have hP0 : P ≠ 0:=by omega
    have r1 : X.tmod P=X % P:=IntWalk.rem_in _ _ hX0
    have r2 : Y.tmod P=Y % P:=IntWalk.rem_in _ _ hY0
    have r3 : IntKind.i64.wrap (X % P+Y % P)=X % P+Y % P:=IntWalk.i64_in _ (by omega)
    have r4 : (X % P+Y % P).tmod P=(X+Y) % P:=by rw [IntWalk.rem_in _ _ (by omega),Int.emod_add_emod,Int.add_emod_emod]
    have r5 : IntKind.i64.wrap ((X+Y) % P * p)=(X+Y) % P * p:=IntWalk.i64_in _ (by omega)
    have r6 : IntKind.i64.wrap (s+(X+Y) % P * p)=s+(X+Y) % P * p:=IntWalk.i64_in _ (by omega)
    have hpl : p * P<=256:=by rw [hpp];exact hpM
    have Hinv2:=Z5 hinv2
    have Hpp:=Z5 hpp
    have Hmeas:=Z5 hmeas
    clear hinv2 hpp hmeas
    rcases (show 0<X\/(decide (0<X)=false/\0<Y) by simp;omega) with hg | ⟨hgx,hg⟩
    all_goals
     go_wp2_with fail
     go_quiet (fail)
     clear r1 r2 r3 r4 r5 r6
     go_wp2
     go_roundw
     case rel =>
      refine ⟨k+1,_,_,_,_,by omega,rfl,rfl,rfl,rfl,Hpp.out,by omega,by have:=Hpp.out;omega,by omega,by omega,by omega,by omega,by omega,by omega,?_,?_,Hinv2.out,oS Hwr.out _⟩
      ·show _=jw x P (k+1);rw [jw,<- hX.out]
      ·show _=jw y P (k+1);rw [jw,<- hY.out]
     case measure=>have:=Hmeas.out;simp [intOf] <;> omega
end
end Go.Proofs.YtcfmiocdlcapoaaGreat
