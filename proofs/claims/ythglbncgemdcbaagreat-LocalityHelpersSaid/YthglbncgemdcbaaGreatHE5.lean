import Derived.Test.YthglbncgemdcbaaGreatHE4
namespace Go.Proofs.YthglbncgemdcbaaGreat
set_option linter.all false
set_option maxRecDepth 100000
set_option maxHeartbeats 1600000
open Go.RowKit Go.Proofs.Tryz
section
def gE (q x : Int) : Bool:=decide (0<=x) && decide (x<q)
def dR (q : Int) (l : LI) : Bool:=l.all (gE q)
def iU (q : Int) (l : LI) : Int:=if dR q l then 0 else 2
def gW (cols : Int) (L : Ll) : Bool:=L.all λr=>decide ((r.length : Int)=cols)
def eU (q cols : Int) (L : Ll) : Int :=
 if cols<0\/256<cols\/256<L.length then 3 else if gW cols L=false then 3 else if L.all (dR q) then 0 else 2
theorem dp {α : Type} {p : α->Bool} {l : List α} {k : Nat} (hk : k<l.length) (h : (l.take k).all p=true) (hp : p l[k]=true) : (l.take (k+1)).all p=true:=by rw [Hj hk,Kl,h];simp [hp]
theorem dm {α : Type} {p : α->Bool} {l : List α} {k : Nat} (hk : k<l.length) (hp : p l[k]=false) : l.all p=false:=by rw [Jy];exact ⟨_,Iw hk,by simp [hp]⟩
variable {w : World} {b : Nat} {G : bX}
theorem vp (a : OA) (n c : Nat) (l : LI) (h : dz w b G) (hi : Ints w a n l) :
  Calls prog 146 #[.pointer (some ⟨b,0,none⟩),.slice a n c] w λe w'=>e = .returned (.int .i64 (iU G.q l))/\w=w':=by
 have hpl:=hi.pl;have hlen:=hi.len;have hmax:=hi.max;unfold maxLen at hmax;have Hlen:=Z5 hlen;clear hlen;go_enter func146,ntmps146;go_wp2;go_loop [9] (λiv=>∃k : Nat,k<=n/\iv = .int .i64 k/\Hid ((l.take k).all (gE G.q)=true)) (λiv=>n - (intOf iv).toNat);case atStart=>exact ⟨0,G0 _,rfl,by show _=_;simp⟩
 case round =>
  obtain ⟨k,hk,rfl,hall⟩:=hrel
  by_cases hlt : k<n
  ·have hc:=hi.cell k hlt
   by_cases hq : gE G.q (nth l k)=true
   ·have hq':=hq
    unfold gE at hq'
    have Hq:=Z5 hq
    clear hq
    go_wp2_with (first | (go_at_call 55;refine (F9 (nth l k) h).mono ?_;rintro e w' ⟨rfl,rfl⟩))
    go_round
    case rel=>exact ⟨k+1,by omega,by go_num,dp (by rw [Hlen.out];exact hlt) hall.out (by rw [<- aj (by rw [Hlen.out];exact hlt)];exact Hq.out)⟩
    case measure=>simp [intOf] <;> omega
   ·have hq : gE G.q (nth l k)=false:=by simpa using hq
    have hq':=hq
    unfold gE at hq'
    have Hf : Hid (dR G.q l=false):=dm (k:=k) (by rw [Hlen.out];exact hlt) (by rw [<- aj (by rw [Hlen.out];exact hlt)];exact hq)
    clear hq
    go_wp2_with (first | (go_at_call 55;refine (F9 (nth l k) h).mono ?_;rintro e w' ⟨rfl,rfl⟩))
    go_ret
    exact ⟨aK (by rw [iU,Hf.out];rfl),rfl⟩
  ·obtain rfl : k=n:=by omega
   have Hf : Hid (dR G.q l=true):=by have:=hall.out;rw [H6 (by rw [Hlen.out];exact GQ _)] at this;exact this
   go_wp2
   go_ret
   exact ⟨aK (by rw [iU,Hf.out];rfl),rfl⟩
theorem A8 (cols : Int) (a : OA) (n c : Nat) (L : Ll) (h : dz w b G) (hi : bC w a n L) :
  Calls prog 197 #[.pointer (some ⟨b,0,none⟩),.agg #[.int .i64 cols,.slice a n c]] w λe w'=>e = .returned (.int .i64 (eU G.q cols L))/\Mv w w':=by
 have hpl:=hi.pl;have hlen:=hi.len;have hmax:=hi.max;unfold maxLen at hmax;have Hlen:=Z5 hlen;clear hlen;have hbox : ∀w' : World,Below (w.heap.size+1) (w.alloc (.cells #[.int .i64 cols,.slice a n c] 94)) w' ->
   w'.cell? ⟨w.heap.size,0,none⟩=some (.int .i64 cols)/\w'.cell? ⟨w.heap.size,1,none⟩=some (.slice a n c)/\Mv w w':=by intro w' h;refine ⟨(h.cell (by simp)).trans (by simp),(h.cell (by simp)).trans (by simp),((GS _ _).alloc (GQ _) _).trans (h.mono (by omega))⟩
 have Hbox:=Z5 hbox;clear hbox;have Hal:=Z5 ((GS w.heap.size w).alloc (GQ _) (.cells #[.int .i64 cols,.slice a n c] 94));by_cases b1 : cols<0
 ·have Hf : Hid (eU G.q cols L=3):=by show _=_;rw [eU,GV (.inl b1)]
  go_enter func197,ntmps197;go_wp2_with fail;go_ret;exact ⟨aK Hf.out.symm,Hal.out⟩
 by_cases b2 : 256<cols
 ·have Hf : Hid (eU G.q cols L=3):=by show _=_;rw [eU,GV (.inr (.inl b2))]
  go_enter func197,ntmps197;go_wp2_with fail;go_ret;exact ⟨aK Hf.out.symm,Hal.out⟩
 by_cases b3 : 256<n
 ·have Hf : Hid (eU G.q cols L=3):=by show _=_;rw [eU,GV (.inr (.inr (by rw [Hlen.out];exact b3)))]
  have t1 : decide (cols<0)=false:=by simpa using b1
  have t2 : decide (256<cols)=false:=by simpa using b2
  have t3 : decide (256<(n : Int))=true:=by simp;omega
  go_enter func197,ntmps197;go_wp2_with fail;go_ret;exact ⟨aK Hf.out.symm,Hal.out⟩
 have Hm : Hid (eU G.q cols L=if gW cols L=false then 3 else if L.all (dR G.q) then 0 else 2):=by show _=_;rw [eU,GU (by rw [Hlen.out];omega)]
 have t1 : decide (cols<0)=false:=by simpa using b1
 have t2 : decide (256<cols)=false:=by simpa using b2
 have t3 : decide (256<(n : Int))=false:=by simp;omega
 clear b1 b2;go_enter func197,ntmps197;go_wp2_with fail;generalize hW0 : w.alloc (.cells #[.int .i64 cols,.slice a n c] 94)=W0 at *;have hW0s : W0.heap.size=w.heap.size+1:=by rw [<- hW0];simp
 obtain ⟨q0,q1,hbw⟩:=Hbox.out W0 (GS _ _);have hiW:=hi.af hbw;clear hW0;go_loop [27] (λiv=>∃k : Nat,k<=n/\iv = .int .i64 k/\Hid ((L.take k).all (λr=>decide ((r.length : Int)=cols))=true)) (λiv=>n - (intOf iv).toNat);case atStart=>exact ⟨0,G0 _,rfl,by show _=_;simp⟩
 case round =>
  obtain ⟨k,hk,rfl,hall⟩:=hrel
  by_cases hlt : k<n
  ·obtain ⟨ra,rn,rc,hcell,hrow⟩:=hiW.cell k hlt
   have hrl:=hrow.len
   have hkL : k<L.length:=by rw [Hlen.out];exact hlt
   rw [aD hkL] at hrl
   have Hrl:=Z5 hrl
   clear hrl
   by_cases he : (rn : Int)=cols
   ·have he' : ((rn : Int) != cols)=false:=by simpa using he
    have Hq : Hid (decide ((L[k].length : Int)=cols)=true):=by show _=_;rw [Hrl.out];simpa using he
    clear he
    go_wp2_with fail
    go_round
    case rel=>exact ⟨k+1,by omega,by go_num,dp hkL hall.out Hq.out⟩
    case measure=>simp [intOf] <;> omega
   ·have he' : ((rn : Int) != cols)=true:=by simpa using he
    have Hq : Hid (eU G.q cols L=3):=by show _=_;rw [Hm.out,GV];exact dm hkL (by simp only [Hrl.out];simpa using he)
    clear he
    go_wp2_with fail
    go_ret
    exact ⟨aK Hq.out.symm,hbw⟩
  ·obtain rfl : k=n:=by omega
   have Hm2 : Hid (eU G.q cols L=if L.all (dR G.q) then 0 else 2):=by have:=hall.out;rw [H6 (by rw [Hlen.out];exact GQ _)] at this;show _=_;rw [Hm.out,GU (by rw [gW,this];simp)]
   have hG:=h.af hbw
   go_wp2_with fail
   go_loop [40] (λiv=>∃j : Nat,j<=k/\iv = .int .i64 j/\Hid ((L.take j).all (dR G.q)=true)) (λiv=>k - (intOf iv).toNat)
   case atStart=>exact ⟨0,G0 _,rfl,by show _=_;simp⟩
   case round =>
    obtain ⟨j,hj,rfl,hall2⟩:=hrel
    by_cases hlt : j<k
    ·obtain ⟨ra,rn,rc,hcell,hrow⟩:=hiW.cell j hlt
     have hjL : j<L.length:=by rw [Hlen.out];exact hlt
     go_wp2_with fail
     refine (vp ra rn rc _ hG hrow).mono ?_
     rintro e w' ⟨rfl,rfl⟩
     by_cases he : dR G.q (ai L j)=true
     ·have he2 : iU G.q (ai L j)=0:=by rw [iU,he];rfl
      rw [he2]
      rw [aD hjL] at he
      have He:=Z5 he
      clear he he2
      go_wp2_with fail
      go_round
      case rel=>exact ⟨j+1,by omega,by go_num,dp hjL hall2.out He.out⟩
      case measure=>simp [intOf] <;> omega
     ·have he2 : iU G.q (ai L j)=2:=by rw [iU,GU he]
      rw [he2]
      rw [aD hjL] at he
      have Hq : Hid (eU G.q cols L=2):=by show _=_;rw [Hm2.out,dm hjL (by simpa using he)];rfl
      clear he he2
      go_wp2_with fail
      go_ret
      exact ⟨aK Hq.out.symm,hbw⟩
    ·obtain rfl : j=k:=by omega
     have Hq : Hid (eU G.q cols L=0):=by have:=hall2.out;rw [H6 (by rw [Hlen.out];exact GQ _)] at this;show _=_;rw [Hm2.out,this];rfl
     go_wp2_with fail
     go_ret
     exact ⟨aK Hq.out.symm,hbw⟩
end
structure A3 (w : World) (a : OA) (n : Nat) (l : List (Int × Ll)) : Prop where
 len : l.length=n
 pl : Pl a n
 max : n<=maxLen
 cell : ∀i (hi : i<l.length),∃b m c,w.cell? ⟨ablk a,aL a+i * 2,none⟩=some (.int .i64 l[i].1)/\w.cell? ⟨ablk a,aL a+i * 2+1,none⟩=some (.slice b m c)/\bC w b m l[i].2
theorem A3.af {w w' : World} {a : OA} {n : Nat} {l : List (Int × Ll)} (h : A3 w a n l) (hb : Mv w w') : A3 w' a n l:=by refine ⟨h.len,h.pl,h.max,λi hi=>?_⟩;obtain ⟨b,m,c,h1,h2,h3⟩:=h.cell i hi;exact ⟨b,m,c,ak hb h1,ak hb h2,h3.af hb⟩
def matsE (q : Int) : List (Int × Ll)->Int
 | []=>0
 | m :: l=>if eU q m.1 m.2=0 then matsE q l else eU q m.1 m.2
theorem xD {q : Int} {l : List (Int × Ll)} {k : Nat} (hk : k<l.length) : matsE q (l.drop k)=if eU q l[k].1 l[k].2=0 then matsE q (l.drop (k+1)) else eU q l[k].1 l[k].2:=by rw [IJ hk,matsE]
def BZ (P M : Int) (mod : LI) (l : List (Int × Ll)) (w : World) (e : Ending) (w' : World) : Prop :=
 Mv w w'/\(
 (ba P M mod=false/\e = .returned (.tuple #[.pointer none,.int .i64 1])) \/
 (ba P M mod=true/\∃er,er ≠ 0/\matsE (ah P M.toNat mod).q l=er/\e = .returned (.tuple #[.pointer none,.int .i64 er])) \/
 (ba P M mod=true/\matsE (ah P M.toNat mod).q l=0/\∃b,e = .returned (.tuple #[.pointer (some ⟨b,0,none⟩),.int .i64 0])/\dz w' b (ah P M.toNat mod)/\w.heap.size<=b))
theorem vH (P M : Int) (am : OA) (mn cm : Nat) (mod : LI) (a : OA) (n c : Nat) (l : List (Int × Ll)) (w : World) (hmod : Ints w am mn mod) (hl : A3 w a n l) :
  Calls prog 145 #[.agg #[.int .i64 P,.int .i64 M,.slice am mn cm],.slice a n c] w (BZ P M mod l w):=by
 have hpl:=hl.pl;have hlen:=hl.len;have hmax:=hl.max;unfold maxLen at hmax;have Hlen:=Z5 hlen;clear hlen;have Hal:=Z5 ((GS w.heap.size w).alloc (GQ _) (.cells #[.int .i64 P,.int .i64 M,.slice am mn cm] 24));go_enter func145,ntmps145;go_wp2_with fail;have hbw:=Hal.out;generalize w.alloc (.cells #[.int .i64 P,.int .i64 M,.slice am mn cm] 24)=W0 at *;refine (dn P M am mn cm mod W0 (hmod.af hbw)).mono ?_;rintro e w1 (⟨hB,rfl,hb1⟩ | ⟨hB,b,rfl,hGs,hbl,hb1⟩)
 ·have HB:=Z5 hB;clear hB;have hbw1:=LY hbw hb1;go_wp2_with fail;go_ret2;exact ⟨hbw1,.inl ⟨HB.out,rfl⟩⟩
 ·have HB:=Z5 hB;clear hB;have hbw1:=LY hbw hb1;have hbb : w.heap.size<=b:=H7 hbw.size hbl;have hG:=hGs.gf;clear hGs;generalize hT : ah P M.toNat mod=G at *;have HT:=Z5 hT;clear hT;go_wp2_with fail;go_loopw [20] (λiv wr=>∃k : Nat,k<=n/\iv = .int .i64 k/\Hid (matsE G.q l=matsE G.q (l.drop k))/\Mv w1 wr) (λiv _=>n - (intOf iv).toNat);case atStart=>exact ⟨0,G0 _,rfl,by show _=_;simp,GS _ _⟩
  case round =>
   obtain ⟨k,hk,rfl,hall,hbr⟩:=hrel
   have hbwr:=LY hbw1 hbr
   by_cases hlt : k<n
   ·have hkl : k<l.length:=by rw [Hlen.out];exact hlt
    have hlr:=hl.af hbwr
    obtain ⟨rb,rm,rc,c1,c2,hM⟩:=hlr.cell k hkl
    have hstep:=xD (q:=G.q) hkl
    have Hstep:=Z5 hstep
    clear hstep
    generalize l[k].1=cols at *
    generalize l[k].2=L at *
    have Hal2:=Z5 ((GS wr.heap.size wr).alloc (GQ _) (.cells #[.int .i64 cols,.slice rb rm rc] 94))
    go_wp2_with fail
    have hbx:=Hal2.out
    generalize wr.alloc (.cells #[.int .i64 cols,.slice rb rm rc] 94)=W2 at *
    have hB2 : Mv w1 W2:=LY hbr hbx
    refine (A8 cols rb rm rc L (hG.af hB2) (hM.af hbx)).mono ?_
    rintro e w3 ⟨rfl,hb3⟩
    have hB3 : Mv w1 w3:=LY hB2 hb3
    by_cases he : eU G.q cols L=0
    ·have Hs : Hid (matsE G.q l=matsE G.q (l.drop (k+1))):=by show _=_;rw [hall.out,Hstep.out,GV he]
     rw [he]
     clear he
     go_wp2_with fail
     go_roundw
     case rel=>exact ⟨k+1,by omega,by go_num,Hs.out,hB3⟩
     case measure=>simp [intOf] <;> omega
    ·have Hs : Hid (matsE G.q l=eU G.q cols L):=by show _=_;rw [hall.out,Hstep.out,GU he]
     generalize eU G.q cols L=er at *
     have he' : (er != 0)=true:=by simpa using he
     have He : Hid (er ≠ 0):=he
     clear he
     go_wp2_with fail
     go_ret2
     exact ⟨LY hbw1 hB3,.inr (.inl ⟨HB.out,er,He.out,by rw [HT.out];exact Hs.out,rfl⟩)⟩
   ·obtain rfl : k=n:=by omega
    have Hs : Hid (matsE G.q l=0):=by show _=_;rw [hall.out,J4 (by rw [Hlen.out];exact GQ _)];rfl
    go_wp2_with fail
    go_ret2
    exact ⟨hbwr,.inr (.inr ⟨HB.out,by rw [HT.out];exact Hs.out,b,rfl,by rw [HT.out];exact hG.af hbr,hbb⟩)⟩
section
def jn (r : OA × Nat) (l : LI) : Value:=.slice r.1 l.length r.2
def aJ (R : LA) (i : Nat) : OA × Nat:=R.getD i (none,0)
theorem eY {l : LA} {i : Nat} (h : i<l.length) : aJ l i=l[i]:=by simp [aJ,h]
theorem gT (l : LA) (i j : Nat) (x : OA × Nat) (hi : i<l.length) : aJ (l.set i x) j=if j=i then x else aJ l j:=by
 unfold aJ;simp only [GY,Jf];by_cases h : i=j
 ·subst h;simp [hi]
 ·rw [GU h,GU (by omega)]
theorem fi (l : Ll) (i j : Nat) (x : LI) (hi : i<l.length) : ai (l.set i x) j=if j=i then x else ai l j:=by
 unfold ai;simp only [GY,Jf];by_cases h : i=j
 ·subst h;simp [hi]
 ·rw [GU h,GU (by omega)]
theorem qa (n i : Nat) : ai (List.replicate n []) i=[]:=by simp only [ai,GY,Ik];split <;> rfl
theorem gV (n i : Nat) : aJ (List.replicate n (none,0)) i=(none,0):=by simp only [aJ,GY,Ik];split <;> rfl
theorem tw (R : LA) (L : Ll) (i : Nat) (r : OA × Nat) (l : LI) :
  (List.zipWith jn R L).set i (jn r l)=List.zipWith jn (R.set i r) (L.set i l):=by
 apply KC;intro j;simp only [Jf,J9,IY];by_cases h : i=j
 ·subst h;by_cases h1 : i<R.length <;> by_cases h2 : i<L.length <;> simp [h1,h2,show ¬ (i<R.length/\i<L.length)->¬ i<min R.length L.length from by omega];exact Nat.lt_min.2 ⟨h1,h2⟩
 ·simp [h]
structure aP (w : World) (B : Nat) (a : OA) (n c : Nat) (R : LA) (L : Ll) : Prop where
 rl : R.length=n
 ll : L.length=n
 own : w.ownsRow B 22 1 (.slice a n c) n (List.zipWith jn R L)
 row : ∀i,i<n->w.ownsRow B 3 1 (.slice (aJ R i).1 (ai L i).length (aJ R i).2) (ai L i).length ((ai L i).map (Value.int .i64))
 qT : ∀i,i<n->eA (aJ R i).1 (ablk a)
 sep : ∀i j,i<n->j<n->i ≠ j->(aJ R i).1=none\/eA (aJ R j).1 (ablk (aJ R i).1)
def bI (a : OA) (R : LA) (b : Nat) : Prop:=(a ≠ none/\b=ablk a)\/∃i,i<R.length/\(aJ R i).1 ≠ none/\b=ablk (aJ R i).1
structure aB (w w' : World) (I I' : Nat->Prop) : Prop where
 os : w'.os=w.os
 tape : w'.tape=w.tape
 output : w'.output=w.output
 size : w.heap.size<=w'.heap.size
 block : ∀b,b<w.heap.size->¬ I b->w'.heap[b]? = w.heap[b]?
 grow : ∀b,I' b->I b\/w.heap.size<=b
variable {w w' w'' : World} {B : Nat} {a : OA} {n c : Nat} {R : LA} {L : Ll} {I I' I'' : Nat -> Prop}
theorem aB.refl (w : World) (I : Nat->Prop) : aB w w I I:=⟨rfl,rfl,rfl,GQ _,λ_ _ _=>rfl,λ_ h=>.inl h⟩
theorem aB.trans (h : aB w w' I I') (k : aB w' w'' I' I'') : aB w w'' I I'' := by
 refine ⟨k.os.trans h.os,k.tape.trans h.tape,k.output.trans h.output,H7 h.size k.size,λb hb hI=>?_,λb hb=>?_⟩
 ·refine (k.block b (It hb h.size) λh'=>?_).trans (h.block b hb hI);rcases h.grow b h' with h2 | h2
  ·exact hI h2
  ·omega
 ·rcases k.grow b hb with h2 | h2
  ·exact h.grow b h2
  ·exact .inr (H7 h.size h2)
theorem aB.aV (h : Mv w w') (I : Nat->Prop) : aB w w' I I:=⟨h.os,h.tape,h.output,h.size,λb hb _=>h.block b hb,λ_ h=>.inl h⟩
theorem aB.below (h : aB w w' I I') (hI : ∀b,I b->B<=b) (hB : B<=w.heap.size) : Below B w w' :=
 ⟨h.os,h.tape,h.output,h.size,λb hb=>h.block b (It hb hB) λhi=>by have:=hI b hi;omega⟩
theorem aB.cell (h : aB w w' I I') {p : Addr} {v : Value} (hc : w.cell? p=some v) (hI : ¬ I p.block) : w'.cell? p=some v :=
 (Ii (w:=w) (a:=p) (h.block _ (G8 w _ hc) hI)).trans hc
theorem aB.not (h : aB w w' I I') {b : Nat} (hb : b<w.heap.size) (hI : ¬ I b) : ¬ I' b:=λh'=>by
 rcases h.grow b h' with h2 | h2
 ·exact hI h2
 ·omega
theorem aB.own (h : aB w w' I I') {e : TypeId} {a : OA} {c n : Nat} {xs : List Value} (ho : w.ownsRow B e 1 (.slice a n c) n xs) (hI : a ≠ none->¬ I (ablk a)) : w'.ownsRow B e 1 (.slice a n c) n xs:=by
 rcases jZ ho with ⟨rfl,rfl,rfl⟩ | ⟨_,hlt⟩
 ·have hx:=iQ ho;obtain rfl : xs=[]:=Iq hx;exact cF
 ·by_cases ha : a=none
  ·subst ha;refine ⟨ho.1,?_⟩;rcases ho.2 with h2 | ⟨g,cap,cur,hv,_⟩
   ·exact .inl h2
   ·cases hv
  ·exact eB ho (h.block _ hlt (hI ha))
theorem aS {w : World} {e : TypeId} {a : OA} {c n : Nat} {xs : List Value} (ho : w.ownsRow B e 1 (.slice a n c) n xs) (ha : a ≠ none) : B<=ablk a/\ablk a<w.heap.size:=by
 rcases jZ ho with ⟨rfl,_⟩ | h
 ·exact absurd rfl ha
 ·exact h
namespace aP
theorem lt (h : aP w B a n c R L) (b : Nat) (hb : bI a R b) : B<=b/\b<w.heap.size:=by
 rcases hb with ⟨h1,rfl⟩ | ⟨i,hi,h1,rfl⟩
 ·exact aS h.own h1
 ·exact aS (h.row i (by rw [h.rl] at hi;exact hi)) h1
theorem new (h : aP w B a n c R L) {b : Nat} (hb : w.heap.size<=b) : ¬ bI a R b:=λh'=>by have:=h.lt b h';omega
theorem kI (h : aP w B a n c R L) {b : Nat} (hb : b<B) : ¬ bI a R b:=λh'=>by have:=h.lt b h';omega
theorem jg {i : Nat} (h : i<R.length) (h1 : (aJ R i).1 ≠ none) : bI a R (ablk (aJ R i).1):=.inr ⟨i,h,h1,rfl⟩
theorem bq (h : aP w B a n c R L) (hb : ∀b,bI a R b->w'.heap[b]? = w.heap[b]?) : aP w' B a n c R L:=by
 have key : ∀ {e : TypeId} {a' : OA} {c m : Nat} {xs : List Value},w.ownsRow B e 1 (.slice a' m c) m xs->(a' ≠ none->w'.heap[ablk a']? = w.heap[ablk a']?)->w'.ownsRow B e 1 (.slice a' m c) m xs:=by
  intro e a' c m xs ho hk;by_cases ha : a'=none
  ·subst ha;refine ⟨ho.1,?_⟩;rcases ho.2 with h2 | ⟨g,cap,cur,hv,_⟩
   ·exact .inl h2
   ·cases hv
  ·exact eB ho (hk ha)
 exact ⟨h.rl,h.ll,key h.own λha=>hb _ (.inl ⟨ha,rfl⟩),λi hi=>key (h.row i hi) λha=>hb _ (jg (by rw [h.rl];exact hi) ha),h.qT,h.sep⟩
theorem af (h : aP w B a n c R L) (hb : Mv w w') : aP w' B a n c R L:=h.bq λb hi=>hb.block b (h.lt b hi).2
theorem mono {B' : Nat} (h : aP w B a n c R L) (hB : B'<=B) : aP w B' a n c R L:=⟨h.rl,h.ll,bd h.own hB,λi hi=>bd (h.row i hi) hB,h.qT,h.sep⟩
theorem ints (h : aP w B a n c R L) {i : Nat} (hi : i<n) : Ints w (aJ R i).1 (ai L i).length (ai L i):=(L0 (h.row i hi)).1
theorem cell (h : aP w B a n c R L) {i : Nat} (hi : i<n) : w.cell? ⟨ablk a,aL a+i,none⟩=some (.slice (aJ R i).1 (ai L i).length (aJ R i).2):=by
 rw [(bu h.own i hi).1,J9,Iu (show i<R.length by rw [h.rl];exact hi),Iu (show i<L.length by rw [h.ll];exact hi),
  eY (by rw [h.rl];exact hi),aD (by rw [h.ll];exact hi)]
 rfl
theorem frozen (h : aP w B a n c R L) {i : Nat} (hi : i<n) : w.frozen? ⟨ablk a,aL a+i,none⟩=false:=(bu h.own i hi).2.1
theorem pl (h : aP w B a n c R L) : Pl a n:=by obtain ⟨a',c',hv,hp⟩:=Me h.own;cases hv;exact hp
theorem ne (h : aP w B a n c R L) (hn : 0<n) : a ≠ none:=by intro ha;have:=h.pl hn;rw [ha] at this;cases this
theorem max (h : aP w B a n c R L) : n<=maxLen:=by
 rcases Jk n with h0 | h0
 ·subst h0;unfold maxLen;omega
 ·exact (bu h.own 0 h0).2.2.2.2
theorem jX (h : aP w B a n c R L) : bC w a n L:=⟨h.ll,h.pl,h.max,λ_ hi=>⟨_,_,_,h.cell hi,h.ints hi⟩⟩
theorem setRow (h : aP w B a n c R L) {i : Nat} (hi : i<n) {r : OA} {rc : Nat} {l : LI} (hr : w.ownsRow B 3 1 (.slice r l.length rc) l.length (l.map (Value.int .i64)))
  (ha : eA r (ablk a)) (hs : ∀j,j<n->j ≠ i->(aJ R j).1=none\/eA r (ablk (aJ R j).1)) :
  aP (w.setCell ⟨ablk a,aL a+i,none⟩ (.slice r l.length rc)) B a n c (R.set i (r,rc)) (L.set i l):=by
 have hRi : i<R.length:=by rw [h.rl];exact hi
 have hLi : i<L.length:=by rw [h.ll];exact hi
 have flip : ∀ {x y : OA},(x=none\/eA y (ablk x))->(y=none\/eA x (ablk y)):=by
  intro x y hxy;rcases hxy with rfl | rfl | h2
  ·exact .inr (.inl rfl)
  ·exact .inl rfl
  ·exact .inr (.inr λe=>h2 e.symm)
 refine ⟨by simp [h.rl],by simp [h.ll],?_,λj hj=>?_,λj hj=>?_,λj k hj hk hjk=>?_⟩
 ·have:=bt h.own i hi (.slice r l.length rc);rwa [show (List.zipWith jn R L).set i (.slice r l.length rc)=_ from tw R L i (r,rc) l] at this
 ·rw [gT _ _ _ _ hRi,fi _ _ _ _ hLi];by_cases e : j=i
  ·simp only [GV e];exact dF hr _ ha
  ·simp only [GU e];exact dF (h.row j hj) _ (h.qT j hj)
 ·rw [gT _ _ _ _ hRi];by_cases e : j=i
  ·simp only [GV e];exact ha
  ·simp only [GU e];exact h.qT j hj
 ·rw [gT _ _ _ _ hRi,gT _ _ _ _ hRi];by_cases e : j=i
  ·simp only [GV e,GU (show ¬ k=i by omega)];exact flip (hs k hk (by omega))
  ·simp only [GU e];by_cases e2 : k=i
   ·simp only [GV e2];exact hs j hj e
   ·simp only [GU e2];exact h.sep j k hj hk hjk
theorem iR (h : aP w B a n c R L) {w' : World} (hb' : Mv w w') {i : Nat} (hi : i<n) {r : OA} {rc : Nat} (v : Value) (hr : r ≠ none->bI a R (ablk r)\/w.heap.size<=ablk r) :
  aB w (w'.setCell ⟨ablk a,aL a+i,none⟩ v) (bI a R) (bI a (R.set i (r,rc))):=by
 have hRi : i<R.length:=by rw [h.rl];exact hi
 have hb0 : Below 0 w (w'.setCell ⟨ablk a,aL a+i,none⟩ v):=(hb'.mono (G0 _)).setCell (G0 _) v;refine ⟨hb0.os,hb0.tape,hb0.output,hb0.size,λb hb hI=>(Ia _ _ _ _ λe=>hI (.inl ⟨h.ne (by omega),e⟩)).trans (hb'.block b hb),λb hb=>?_⟩;rcases hb with hb | ⟨j,hj,h1,rfl⟩
 ·exact .inl (.inl hb)
 ·rw [IK] at hj;rw [gT _ _ _ _ hRi] at h1 ⊢;by_cases e : j=i
  ·simp only [GV e] at h1 ⊢;exact hr h1
  ·simp only [GU e] at h1 ⊢;exact .inl (.inr ⟨j,hj,h1,rfl⟩)
theorem Fb (h : aP w B a n c R L) {i : Nat} (hi : i<n) {l : LI} (hl : l.length=(ai L i).length)
  (ho : w'.ownsRow B 3 1 (.slice (aJ R i).1 (ai L i).length (aJ R i).2) (ai L i).length (l.map (Value.int .i64)))
  (hg : ∀b,b<w.heap.size->((aJ R i).1=none\/b ≠ ablk (aJ R i).1)->w'.heap[b]? = w.heap[b]?) : aP w' B a n c R (L.set i l):=by
 have hRi : i<R.length:=by rw [h.rl];exact hi
 have hLi : i<L.length:=by rw [h.ll];exact hi
 have key : ∀ {e : TypeId} {a' : OA} {c m : Nat} {xs : List Value},w.ownsRow B e 1 (.slice a' m c) m xs->((aJ R i).1=none\/a'=none\/ablk a' ≠ ablk (aJ R i).1)->w'.ownsRow B e 1 (.slice a' m c) m xs:=by
  intro e a' c m xs ho hk;by_cases ha : a'=none
  ·subst ha;refine ⟨ho.1,?_⟩;rcases ho.2 with h2 | ⟨g,cap,cur,hv,_⟩
   ·exact .inl h2
   ·cases hv
  ·exact eB ho (hg _ (aS ho ha).2 (by rcases hk with hk | hk | hk;exact .inl hk;exact absurd hk ha;exact .inr hk))
 refine ⟨h.rl,by simp [h.ll],?_,λj hj=>?_,h.qT,h.sep⟩
 ·have e : List.zipWith jn R (L.set i l)=List.zipWith jn R L:=by
   apply KC;intro j;simp only [J9,Jf];by_cases e : i=j
   ·subst e;simp only [hLi,if_true,Iu hRi,Iu hLi];rw [aD hLi] at hl;simp [jn,hl]
   ·simp [e]
  rw [e];exact key h.own (by rcases h.qT i hi with h2 | h2;exact .inl h2;exact .inr (.inr λe=>h2 e.symm))
 ·rw [fi _ _ _ _ hLi];by_cases e : j=i
  ·subst e;simp only [if_true,hl];exact ho
  ·simp only [GU e];refine key (h.row j hj) ?_;rcases h.sep i j hi hj (by omega) with h2 | h2 | h2
   ·exact .inl h2
   ·exact .inr (.inl h2)
   ·exact .inr (.inr h2)
end aP
theorem sB {w : World} {B : Nat} {a : OA} {n c : Nat} (h : w.ownsRow B 22 1 (.slice a n c) n (List.replicate n (.slice none 0 0))) :
  aP w B a n c (List.replicate n (none,0)) (List.replicate n []):=by
 refine ⟨by simp,by simp,?_,λi hi=>?_,λi hi=>?_,λi j hi hj hij=>?_⟩
 ·simpa [jn] using h
 ·rw [qa,gV];exact cF
 ·rw [gV];exact .inl rfl
 ·rw [gV];exact .inl rfl
end
section
variable {w : World} {b : Nat} {G : bX}
theorem Ints.CC {w : World} {n : Nat} {l : LI} (h : Ints w none n l) : n=0/\l=[]:=by
 have h0 : n=0:=by
  rcases Jk n with h0 | h0
  ·exact h0
  ·have:=h.pl h0;cases this
 exact ⟨h0,Iq (by rw [h.len];exact h0)⟩
theorem ch (a : OA) (n c : Nat) (l : LI) (hi : Ints w a n l) (hn : n<=1000000) :
  Calls prog 115 #[.slice a n c] w (bS w l):=by
 have heq:=λ(w : World) (a : OA) (l c : Nat)=>Go.run_eql_slice_nil (P:=prog) w 22 3 a l c underlying22;by_cases ha : a=none
 ·subst ha;obtain ⟨rfl,rfl⟩:=hi.CC;have hin : (none : OA).isNone=true:=rfl;go_enter func115,ntmps115;go_wp2_with fail;go_ret;exact ⟨none,0,rfl,cF,GS _ _⟩
 ·have hin : a.isNone=false:=by cases a with | none=>exact absurd rfl ha | some x=>rfl
  have hlen:=hi.len;have Hlen:=Z5 hlen;have hO:=jx w 3;have hal:=Z5 ((GS w.heap.size w).alloc (GQ _) (.cells #[] 3));clear ha hlen;go_enter func115,ntmps115;go_upto_region 3 with fail;iterate 7 go_step
  have hbal:=hal.out;generalize w.alloc (.cells #[] 3)=W0 at *;have hiW:=hi.af hbal;refine gk (by rfl) (.tmp 5) (.tmp 6) 22 3 (by rfl) (.int .i64 0) 8 underlying22 bg (by rfl) w.heap.size _ 0 0 [] (by rfl) hO a n c (l.map (Value.int .i64)) (by rfl) hiW.pl (by simp [Hlen.out]) (Mh hiW) (ints_oneCell _ _) (by omega) (by unfold maxLen;omega) (Jl hbal) ?_;intro a3 c3 w3 hown3 hgr3 hap3;have hb3 : Mv w w3:=L3 (B:=w.heap.size) (e:=3) (xs:=[]) hbal hO hgr3 (GQ _) (Jl hbal);rw [Kp] at hown3 ⊢;rw [I6] at hown3;go_wp2_with fail;go_ret;exact ⟨a3,c3,by rw [Hlen.out];rfl,by rw [Hlen.out];exact hown3,hb3⟩
def Dm (w : World) (L : Ll) (e : Ending) (w' : World) : Prop :=
 ∃a c R,e = .returned (.slice a L.length c)/\aP w' w.heap.size a L.length c R L/\Mv w w'
theorem ew : (prog.info? 22).map (λi=>(i.zero,i.size,i.bytes))=some (some (.slice none 0 0),1,24):=by kernel_rfl
def ib (n k : Nat) (L : Ll) : Ll:=L.take k ++ List.replicate (n - k) []
theorem pA {n k : Nat} {L : Ll} (hk : k<n) (hL : L.length=n) : (ib n k L).set k (ai L k)=ib n (k+1) L:=by
 unfold ib;have e1 : (L.take k).length=k:=by simp;omega
 rw [Hj (by omega),J8 (h:=by omega),e1,show n - k=(n - (k+1))+1 by omega,Km,Ko,GX,IZ,aD (by omega)];rfl
theorem qn {n : Nat} {L : Ll} (hL : L.length=n) : ib n n L=L:=by simp [ib,H6 (show L.length<=n by omega)]
theorem AU (a : OA) (n c : Nat) (L : Ll) (hi : bC w a n L) (hn : n<=1000000) (hL : ∀l ∈ L,l.length<=1000000) :
  Calls prog 222 #[.slice a n c] w (Dm w L):=by
 have hpl:=hi.pl;have Hlen:=Z5 hi.len;have HL:=Z5 hL;clear hL;go_enter func222,ntmps222;go_wp2_with (at_make;refine bP rfl _ _ 25 22 rfl (.slice none 0 0) 24 underlying25 ew rfl n rfl rfl (by omega) (by unfold maxLen;omega) ?_;intro a1 w1 hown hbel hge hlt);have hO:=sB hown;have hO1 : ∃R,aP w1 w.heap.size a1 n n R (ib n 0 L):=⟨_,by simpa [ib] using hO⟩
 clear hO hown;go_loopw [11] (λiv wr=>∃k : Nat,k<=n/\iv = .int .i64 k/\(∃R,aP wr w.heap.size a1 n n R (ib n k L))/\Mv w wr) (λiv _=>n - (intOf iv).toNat);case atStart=>exact ⟨0,G0 _,rfl,hO1,hbel⟩
 case round =>
  obtain ⟨k,hk,rfl,⟨R,hO⟩,hbr⟩:=hrel
  by_cases hlt : k<n
  ·have hiW:=hi.af hbr
   obtain ⟨ra,rn,rc,hcell,hrow⟩:=hiW.cell k hlt
   have hkL : k<L.length:=by rw [Hlen.out];exact hlt
   have hrl : rn<=1000000:=by rw [<- hrow.len,aD hkL];exact HL.out _ (Iw hkL)
   have hset:=pA hlt Hlen.out
   have Hset:=Z5 hset
   clear hset
   have hpl1:=hO.pl
   generalize ai L k=l at *
   go_wp2_with fail
   refine (ch ra rn rc l hrow hrl).mono ?_
   rintro e w3 ⟨a3,c3,rfl,hown3,hb3⟩
   have hO3:=hO.af hb3
   have hf:=hO3.frozen hlt
   have hc:=hO3.cell hlt
   have hB:=(aP.lt hO3 (ablk a1) (.inl ⟨hO3.ne (by omega),rfl⟩)).1
   have hbr3:=LY hbr hb3
   have hsz:=hbr.size
   have hnew:=aP.setRow hO3 hlt (bd hown3 hsz) (jO hown3 (aP.lt hO (ablk a1) (.inl ⟨hO.ne (by omega),rfl⟩)).2) (λj hj _=>by
    by_cases hn : (aJ R j).1=none
    ·exact .inl hn
    ·exact .inr (jO hown3 (aP.lt hO _ (aP.jg (by rw [hO.rl];exact hj) hn)).2))
   rw [Hset.out] at hnew
   have Hnew:=Z5 hnew
   clear hnew
   go_wp2_with fail
   go_roundw
   case rel=>exact ⟨k+1,by omega,by go_num,⟨_,Hnew.out⟩,hbr3.setCell hB _⟩
   case measure=>simp [intOf] <;> omega
  ·obtain rfl : k=n:=by omega
   rw [qn Hlen.out] at hO
   go_wp2_with fail
   go_ret
   exact ⟨a1,k,R,by rw [Hlen.out];rfl,by rw [Hlen.out];exact hO,hbr⟩
end
structure aM where
 add : Int->Int->Int
 mul : Int->Int->Int
 neg : Int->Int
 inv : Int->Int
def cB (O : aM) (v : LI) (s : Int) (u : LI) : LI:=List.zipWith (λp q=>if q=0 then p else O.add p (O.mul s q)) v u
theorem dq (O : aM) (v : LI) (s : Int) (u : LI) (h : u.length=v.length) : (cB O v s u).length=v.length:=by simp [cB,h]
theorem fX (O : aM) (v : LI) (s : Int) (u : LI) (i : Nat) (h : u.length=v.length) (hi : i<v.length) :
  nth (cB O v s u) i=if nth u i=0 then nth v i else O.add (nth v i) (O.mul s (nth u i)):=by rw [aj (show i<(cB O v s u).length by rw [dq _ _ _ _ h];exact hi),aj (show i<u.length by omega),aj hi];simp [cB]
theorem lJ (new kI : LI) (j : Nat) (h : new.length=kI.length) (hj : j<kI.length) (e : nth new j=nth kI j) : fD new kI (j+1)=fD new kI j:=by
 rw [<- eC new kI j h hj,e];refine gd (by simp) λi hi=>?_;have hl:=gL new kI j h (by omega);rw [ei _ _ _ _ (by omega)];by_cases e2 : i=j
 ·subst e2;rw [GV rfl,dU _ _ _ _ h (by omega),GU (by omega)]
 ·rw [GU e2]
def findTo (L : Ll) (c : Nat) : Nat->Nat->Nat
 | k,0=>k
 | k,f+1=>if nth (ai L k) c=0 then findTo L c (k+1) f else k
def aT (L : Ll) (c k : Nat) : Nat:=findTo L c k (L.length - k)
theorem sU (L : Ll) (c : Nat) : ∀f k,k<=findTo L c k f/\findTo L c k f<=k+f
 | 0,k=>by simp [findTo]
 | f+1,k=>by have:=sU L c f (k+1);unfold findTo;split <;> omega
theorem gu (L : Ll) (c : Nat) : ∀f k,findTo L c k f<k+f->nth (ai L (findTo L c k f)) c ≠ 0
 | 0,k,h=>by simp [findTo] at h
 | f+1,k,h=>by
  unfold findTo at h ⊢;split
  ·rename_i h0;rw [GV h0] at h;exact gu L c f (k+1) (by omega)
  ·assumption
theorem nT (L : Ll) (c : Nat) : ∀f k i,k<=i->i<findTo L c k f->nth (ai L i) c=0
 | 0,k,i,h1,h2=>by simp [findTo] at h2;omega
 | f+1,k,i,h1,h2=>by
  unfold findTo at h2;split at h2
  ·rename_i h0;rcases Lg h1 with h3 | h3
   ·rw [<- h3];exact h0
   ·exact nT L c f (k+1) i h3 h2
  ·omega
theorem fN {L : Ll} {c k : Nat} (hk : k<L.length) : aT L c k=if nth (ai L k) c=0 then aT L c (k+1) else k:=by unfold aT;rw [show L.length - k=(L.length - (k+1))+1 by omega,findTo]
theorem iO {L : Ll} {c k : Nat} (hk : L.length<=k) : aT L c k=k:=by unfold aT;rw [show L.length - k=0 by omega,findTo]
theorem jw {L : Ll} {c k : Nat} (hk : k<=L.length) : k<=aT L c k/\aT L c k<=L.length:=by have:=sU L c (L.length - k) k;unfold aT;omega
def aX (L : Ll) (i j : Nat) : Ll:=(L.set i (ai L j)).set j (ai L i)
def cH (O : aM) (pv : LI) (c : Nat) (r : LI) : LI:=if nth r c=0 then r else cB O r (O.neg (nth r c)) pv
def clearTo (O : aM) (t c : Nat) (L : Ll) : Nat->Ll
 | 0=>L
 | i+1=>if i=t then clearTo O t c L i else (clearTo O t c L i).set i (cH O (ai (clearTo O t c L i) t) c (ai (clearTo O t c L i) i))
def bw (O : aM) (L : Ll) (t c : Nat) : Ll:=if O.inv (nth (ai L t) c)=1 then L else L.set t ((ai L t).map (O.mul (O.inv (nth (ai L t) c))))
def eO (O : aM) (L : Ll) (t k c : Nat) : Ll :=
 let L1:=if k=t then L else aX L t k
 let L2:=bw O L1 t c
 clearTo O t c L2 L2.length
def aC (O : aM) (L : Ll) : Nat->Ll × LI
 | 0=>(L,[])
 | c+1 =>
  let s:=aC O L c
  if s.2.length<s.1.length then
   if aT s.1 c s.2.length=s.1.length then s
   else (eO O s.1 s.2.length (aT s.1 c s.2.length) c,s.2 ++ [(c : Int)])
  else s
theorem bJ (L : Ll) (i j : Nat) : (aX L i j).length=L.length:=by simp [aX]
theorem cZ (O : aM) (t c : Nat) (L : Ll) : ∀i,(clearTo O t c L i).length=L.length
 | 0=>rfl
 | i+1=>by unfold clearTo;split <;> simp [cZ O t c L i]
theorem da (O : aM) (L : Ll) (t c : Nat) : (bw O L t c).length=L.length:=by unfold bw;split <;> simp
theorem dN (O : aM) (L : Ll) (t k c : Nat) : (eO O L t k c).length=L.length:=by unfold eO;simp only [cZ,da];split <;> simp [bJ]
theorem bV (O : aM) (L : Ll) : ∀c,(aC O L c).1.length=L.length
 | 0=>rfl
 | c+1=>by
  unfold aC;simp only;split
  ·split <;> simp [dN,bV O L c]
  ·exact bV O L c
theorem ef (O : aM) (L : Ll) : ∀c,(aC O L c).2.length<=c/\(aC O L c).2.length<=L.length
 | 0=>by simp [aC]
 | c+1=>by
  have ih:=ef O L c;have hl:=bV O L c;unfold aC;simp only;split
  ·split
   ·omega
   ·simp only [H5,Ij];omega
  ·omega
def bG (El : Int->Prop) (m : Nat) (L : Ll) : Prop:=∀r ∈ L,r.length=m/\∀x ∈ r,El x
theorem bG.row {El : Int->Prop} {m : Nat} {L : Ll} (h : bG El m L) {i : Nat} (hi : i<L.length) : (ai L i).length=m/\∀x ∈ ai L i,El x:=h _ (gv hi)
theorem bG.set {El : Int->Prop} {m : Nat} {L : Ll} (h : bG El m L) (i : Nat) {r : LI} (hr : r.length=m/\∀x ∈ r,El x) : bG El m (L.set i r):=by
 intro x hx;rcases IX hx with h1 | rfl
 ·exact h x h1
 ·exact hr
structure oF (O : aM) (El : Int->Prop) : Prop where
 add : ∀x y,El x->El y->El (O.add x y)
 mul : ∀x y,El x->El y->El (O.mul x y)
 neg : ∀x,El x->El (O.neg x)
 inv : ∀x,El x->x ≠ 0->El (O.inv x)
theorem rV {O : aM} {El : Int->Prop} (hO : oF O El) {v u : LI} {s : Int} (hv : ∀x ∈ v,El x) (hu : ∀x ∈ u,El x) (hs : El s) : ∀x ∈ cB O v s u,El x:=by
 intro x hx;unfold cB at hx;rw [Ki] at hx;obtain ⟨i,hi,rfl⟩:=hx;rw [JT];simp only [IY] at hi;split
 ·exact hv _ (Iw _)
 ·exact hO.add _ _ (hv _ (Iw _)) (hO.mul _ _ hs (hu _ (Iw _)))
theorem bG.swap {El : Int->Prop} {m : Nat} {L : Ll} (h : bG El m L) {i j : Nat} (hi : i<L.length) (hj : j<L.length) : bG El m (aX L i j) :=
 (h.set i (h.row hj)).set j (h.row hi)
theorem bG.cH {O : aM} {El : Int->Prop} {m : Nat} (hO : oF O El) {r pv : LI} {c : Nat} (hc : c<m) (hr : r.length=m/\∀x ∈ r,El x) (hp : pv.length=m/\∀x ∈ pv,El x) :
  (cH O pv c r).length=m/\∀x ∈ cH O pv c r,El x:=by
 unfold Proofs.YthglbncgemdcbaaGreat.cH;split
 ·exact hr
 ·exact ⟨by rw [dq _ _ _ _ (by omega)];exact hr.1,rV hO hr.2 hp.2 (hO.neg _ (hr.2 _ (aH (by omega))))⟩
theorem bG.clear {O : aM} {El : Int->Prop} {m : Nat} {L : Ll} (hO : oF O El) (h : bG El m L) {t c : Nat} (ht : t<L.length) (hc : c<m) : ∀i,i<=L.length->bG El m (clearTo O t c L i)
 | 0,_=>h
 | i+1,hi=>by
  have ih:=bG.clear hO h ht hc i (by omega);unfold clearTo;split
  ·exact ih
  ·exact ih.set i (bG.cH hO hc (ih.row (by rw [cZ];omega)) (ih.row (by rw [cZ];omega)))
theorem bG.norm {O : aM} {El : Int->Prop} {m : Nat} {L : Ll} (hO : oF O El) (h : bG El m L) {t c : Nat} (ht : t<L.length) (hc : c<m) (h0 : nth (ai L t) c ≠ 0) : bG El m (bw O L t c):=by
 unfold bw;split
 ·exact h
 ·refine h.set t ⟨by rw [H8];exact (h.row ht).1,λx hx=>?_⟩;obtain ⟨y,hy,rfl⟩:=List.mem_map.1 hx;exact hO.mul _ _ (hO.inv _ ((h.row ht).2 _ (aH (by rw [(h.row ht).1];exact hc))) h0) ((h.row ht).2 y hy)
theorem fC {O : aM} {L : Ll} {k : Nat} (h : (aC O L k).2.length=L.length) : ∀d,aC O L (k+d)=aC O L k
 | 0=>rfl
 | d+1=>by have ih:=fC h d;show aC O L ((k+d)+1)=_;rw [aC];simp only [ih];rw [GU (by rw [bV];omega)]
theorem dD {O : aM} {L Lk : Ll} {P : LI} {k : Nat} (h : (Lk,P)=aC O L k) (hlt : P.length<Lk.length) :
  aC O L (k+1)=if aT Lk k P.length=Lk.length then (Lk,P) else (eO O Lk P.length (aT Lk k P.length) k,P ++ [(k : Int)]):=by rw [aC];simp only [<- h];rw [GV hlt]
theorem gS (O : aM) (L : Ll) (t k c : Nat) : eO O L t k c=clearTo O t c (bw O (if k=t then L else aX L t k) t c) L.length:=by unfold eO;simp only [da];split <;> simp [bJ]
section
def aY (w w' : World) : Prop:=∃n,w'=w.drewN n
theorem aY.refl (w : World) : aY w w:=⟨0,rfl⟩
theorem aY.drewN {w w' : World} (h : aY w w') (n : Nat) : aY w (w'.drewN n):=by obtain ⟨m,rfl⟩:=h;exact ⟨m+n,by rw [World.drewN_drewN]⟩
theorem aY.drew {w w' : World} (h : aY w w') : aY w w'.drew:=h.drewN 1
theorem aY.below {w w' : World} (h : aY w w') : Mv w w':=by obtain ⟨m,rfl⟩:=h;exact below_drewN (GS _ _) m
theorem aY.cell {w w' : World} (h : aY w w') {p : Addr} {v : Value} (hc : w.cell? p=some v) : w'.cell? p=some v:=by obtain ⟨m,rfl⟩:=h;exact hc
theorem aY.frozen {w w' : World} (h : aY w w') {p : Addr} {v : Bool} (hc : w.frozen? p=v) : w'.frozen? p=v:=by obtain ⟨m,rfl⟩:=h;exact hc
theorem aY.yY {w0 w w' : World} {B : Nat} (h : aY w w') (hb : Below B w0 w) : Below B w0 w':=by obtain ⟨m,rfl⟩:=h;exact below_drewN hb m
def bX.ops (G : bX) : aM:=⟨G.add,G.mul,G.neg,G.inv⟩
theorem bX.cl {w : World} {b : Nat} {G : bX} (h : dz w b G) : oF G.ops G.El:=⟨λx y _ _=>bX.B9 h x y,λx y _ _=>Mk h x y,λx _=>bX.tq h x,λx _ _=>bX.tI h x⟩
def bU (a : OA) (w w' : World) : Prop:=aB w w' (λb=>a ≠ none/\b=ablk a) (λb=>a ≠ none/\b=ablk a)
theorem bU.refl (a : OA) (w : World) : bU a w w:=aB.refl _ _
theorem bU.trans {a : OA} {w w' w'' : World} (h : bU a w w') (k : bU a w' w'') : bU a w w'' := aB.trans h k
theorem bU.drawn {a : OA} {w w' : World} (h : aY w w') : bU a w w':=aB.aV h.below _
theorem bU.set {a : OA} (w : World) (i : Nat) (v : Value) (ha : a ≠ none) : bU a w (w.setCell ⟨ablk a,aL a+i,none⟩ v):=by have hb0 : Below 0 w (w.setCell ⟨ablk a,aL a+i,none⟩ v):=(GS 0 w).setCell (G0 _) v;exact ⟨hb0.os,hb0.tape,hb0.output,hb0.size,λb hb hI=>Ia _ _ _ _ λe=>hI ⟨ha,e⟩,λb hb=>.inl hb⟩
theorem bU.ints {a : OA} {w w' : World} (h : bU a w w') {u : OA} {n : Nat} {l : LI} (hi : Ints w u n l) (hu : a=none\/u=none\/ablk u ≠ ablk a) : Ints w' u n l:=by
 refine hi.of_block λhn=>h.block _ (hi.lt hn) ?_;rintro ⟨h1,h2⟩;rcases hu with hu | hu | hu
 ·exact h1 hu
 ·have:=hi.pl hn;rw [hu] at this;cases this
 ·exact hu h2
theorem bU.below {a : OA} {w w' : World} {B : Nat} (h : bU a w w') (ha : a ≠ none->B<=ablk a) (hB : B<=w.heap.size) : Below B w w':=aB.below h (λ_ hb=>by rw [hb.2];exact ha hb.1) hB
variable {w : World} {b : Nat} {G : bX}
theorem EO (w0 : World) (av : OA) (cv n : Nat) (v : LI) (s : Int) (au : OA) (cu : Nat) (u : LI) (h : dz w0 b G) (hb : Mv w0 w)
  (hv : w.ownsRow w0.heap.size 3 1 (.slice av n cv) n (v.map (Value.int .i64))) (hu : Ints w au n u) (hap : av=none\/au=none\/ablk au ≠ ablk av)
  (hve : ∀x ∈ v,G.El x) (hue : ∀x ∈ u,G.El x) (hs : G.El s) :
  Calls prog 198 #[.pointer (some ⟨b,0,none⟩),.slice av n cv,.int .i64 s,.slice au n cu] w
   λe w'=>e = .returned (.tuple #[])/\w'.ownsRow w0.heap.size 3 1 (.slice av n cv) n ((cB G.ops v s u).map (Value.int .i64))/\bU av w w':=by
 have hul:=hu.len;have hvl : v.length=n:=by simpa using iQ hv
 have hmax:=hu.max;unfold maxLen at hmax;have hpu:=hu.pl;have hpv:=(L0 hv).1.pl;have hav : 0<n->av ≠ none:=λhn e=>by have:=hpv hn;rw [e] at this;cases this
 have hll : (cB G.ops v s u).length=v.length:=dq _ _ _ _ (by omega);have hnth:=λi=>fX G.ops v s u i (by omega);have Hnth:=Z5 hnth;have Hul:=Z5 hul;have Hvl:=Z5 hvl;have Hll:=Z5 hll;have Hav:=Z5 hav;have Hve:=Z5 hve;have Hue:=Z5 hue;clear hnth hul hvl hll hav hve hue;generalize cB G.ops v s u=N at *;go_enter func198,ntmps198;go_wp2_with fail;go_loopw [12] (λiv wr=>∃k : Nat,k<=n/\iv = .int .i64 k/\wr.ownsRow w0.heap.size 3 1 (.slice av n cv) n ((fD N v k).map (Value.int .i64))/\bU av w wr) (λiv _=>n - (intOf iv).toNat);case atStart=>exact ⟨0,G0 _,rfl,by rw [eJ];exact hv,bU.refl _ _⟩
 case round =>
  obtain ⟨k,hk,rfl,hown,honly⟩:=hrel
  by_cases hlt : k<n
  ·have hiu:=honly.ints hu hap
   have cu1:=hiu.cell k hlt
   have hkN : N.length=v.length:=Hll.out
   have hkv : k<v.length:=by rw [Hvl.out];exact hlt
   have hval:=Hnth.out k hkv
   have hmix:=dU N v k k hkN (by omega)
   rw [GU (by omega)] at hmix
   by_cases hz : nth u k=0
   ·rw [GV hz] at hval
    have hsame:=lJ N v k hkN hkv hval
    have Hsame:=Z5 hsame
    clear hval hmix hsame hkN hkv
    go_wp2_with fail
    go_roundw
    case rel=>exact ⟨k+1,by omega,by go_num,by rw [Hsame.out];exact hown,honly⟩
    case measure=>simp [intOf] <;> omega
   ·rw [GU hz] at hval
    have hset:=eC N v k hkN hkv
    obtain ⟨hiv,hmv⟩:=L0 hown
    have cv1:=hiv.cell k hlt
    have fv1:=(hmv (by omega)).2 k hlt
    rw [hmix] at cv1
    have elv : G.El (nth v k):=Hve.out _ (aH hkv)
    have elu : G.El (nth u k):=Hue.out _ (aH (by rw [Hul.out];exact hlt))
    have hGr : dz wr b G:=h.af (IT hb (honly.below (λha=>(aS hv ha).1) hb.size))
    have Hval:=Z5 hval
    have Hset:=Z5 hset
    have hS : ∀W,aY wr W->W.cell? ⟨ablk av,aL av+k,none⟩=some (.int .i64 (nth v k))/\W.frozen? ⟨ablk av,aL av+k,none⟩=false/\dz W b G/\aY wr W :=
     λW hW=>⟨hW.cell cv1,hW.frozen fv1,hGr.af hW.below,hW⟩
    have HS:=Z5 hS
    have elm : ∀x y,G.El (G.mul x y):=λx y=>Mk h x y
    have hz' : (nth u k != 0)=true:=by simpa using hz
    clear hval hmix hset hkN hkv hS hz
    go_wp2_with fail
    have HG : Hid (dz wr.drew b G/\∀n,dz (wr.drewN n) b G):=⟨hGr.af (GS _ _).drew,λn=>hGr.drewN n⟩
    go_region_law ((first
     | (go_simp;go_at_call 57;((with_reducible refine (mG s (nth u k) HG.out.1 hs elu).mono ?_);rintro e w4 ⟨m4,rfl,rfl⟩))
     | (go_simp;go_at_call 57;((with_reducible refine (mG s (nth u k) (HG.out.2 _) hs elu).mono ?_);rintro e w4 ⟨m4,rfl,rfl⟩))
     | (go_simp;go_at_call 56;((with_reducible refine (FE (nth v k) (G.mul s (nth u k)) (HG.out.2 _) elv (elm _ _)).mono ?_);rintro e w4 ⟨m5,rfl,rfl⟩))))
    all_goals (
     go_wp2_with fail
     go_roundw
     case rel =>
      have hdr : aY wr (wr.drewN (1+m4+m5)):=⟨_,rfl⟩
      refine ⟨k+1,by omega,by go_num,?_,honly.trans ((bU.drawn hdr).trans (bU.set _ k _ (Hav.out (by omega))))⟩
      have h1:=bt (w:=wr.drewN (1+m4+m5)) hown k hlt (.int .i64 (nth N k))
      rw [<- Im,Hset.out,Hval.out] at h1
      exact h1
     case measure=>simp [intOf] <;> omega)
  ·obtain rfl : k=n:=by omega
   rw [fG N v k (by rw [Hll.out,Hvl.out]) Hvl.out] at hown
   go_wp2_with fail
   go_end0
   exact ⟨rfl,hown,honly⟩
end
section
variable {w : World} {b : Nat} {G : bX}
def pE (R : LA) (i j : Nat) : LA:=(R.set i (aJ R j)).set j (aJ R i)
theorem lM (R : LA) (i j : Nat) : (pE R i j).length=R.length:=by simp [pE]
def iP (t k i : Nat) : Nat:=if i=k then t else if i=t then k else i
theorem i7 (R : LA) (t k i : Nat) (ht : t<R.length) (hk : k<R.length) : aJ (pE R t k) i=aJ R (iP t k i):=by
 unfold pE iP;rw [gT _ _ _ _ (by simpa using hk),gT _ _ _ _ ht];split
 ·rfl
 ·split <;> rfl
theorem jh (L : Ll) (t k i : Nat) (ht : t<L.length) (hk : k<L.length) : ai (aX L t k) i=ai L (iP t k i):=by
 unfold aX iP;rw [fi _ _ _ _ (by simpa using hk),fi _ _ _ _ ht];split
 ·rfl
 ·split <;> rfl
theorem kc {t k i n : Nat} (ht : t<n) (hk : k<n) (hi : i<n) : iP t k i<n:=by unfold iP;split <;> (try split) <;> assumption
theorem Co {t k i j : Nat} (h : i ≠ j) : iP t k i ≠ iP t k j:=by unfold iP;split <;> split <;> (try split) <;> (try split) <;> omega
theorem aP.swap {B : Nat} {a : OA} {n c : Nat} {R : LA} {L : Ll} (h : aP w B a n c R L) {t k : Nat} (ht : t<n) (hk : k<n) :
  aP ((w.setCell ⟨ablk a,aL a+t,none⟩ (.slice (aJ R k).1 (ai L k).length (aJ R k).2)).setCell ⟨ablk a,aL a+k,none⟩ (.slice (aJ R t).1 (ai L t).length (aJ R t).2)) B a n c (pE R t k) (aX L t k):=by
 have hRt : t<R.length:=by rw [h.rl];exact ht
 have hRk : k<R.length:=by rw [h.rl];exact hk
 have hLt : t<L.length:=by rw [h.ll];exact ht
 have hLk : k<L.length:=by rw [h.ll];exact hk
 refine ⟨by rw [lM];exact h.rl,by rw [bJ];exact h.ll,?_,λi hi=>?_,λi hi=>?_,λi j hi hj hij=>?_⟩
 ·have h1:=bt (bt h.own t ht (.slice (aJ R k).1 (ai L k).length (aJ R k).2)) k hk (.slice (aJ R t).1 (ai L t).length (aJ R t).2);rw [show (List.zipWith jn R L).set t (.slice (aJ R k).1 (ai L k).length (aJ R k).2)=_ from tw R L t (aJ R k) (ai L k)] at h1;rw [show (List.zipWith jn (R.set t (aJ R k)) (L.set t (ai L k))).set k (.slice (aJ R t).1 (ai L t).length (aJ R t).2)=_ from tw _ _ k (aJ R t) (ai L t)] at h1;exact h1
 ·rw [i7 _ _ _ _ hRt hRk,jh _ _ _ _ hLt hLk];have hf:=kc ht hk hi;exact dF (p:=⟨ablk a,aL a+k,none⟩) (dF (p:=⟨ablk a,aL a+t,none⟩) (h.row _ hf) _ (h.qT _ hf)) _ (h.qT _ hf)
 ·rw [i7 _ _ _ _ hRt hRk];exact h.qT _ (kc ht hk hi)
 ·rw [i7 _ _ _ _ hRt hRk,i7 _ _ _ _ hRt hRk];exact h.sep _ _ (kc ht hk hi) (kc ht hk hj) (Co hij)
theorem bI.swap {a : OA} {R : LA} {t k b : Nat} (ht : t<R.length) (hk : k<R.length) (h : bI a (pE R t k) b) : bI a R b:=by
 rcases h with h | ⟨i,hi,h1,rfl⟩
 ·exact .inl h
 ·rw [lM] at hi;rw [i7 _ _ _ _ ht hk] at h1 ⊢;exact aP.jg (kc ht hk hi) h1
theorem aP.jt {B : Nat} {a : OA} {n c : Nat} {R : LA} {L : Ll} (h : aP w B a n c R L) {t k : Nat} (ht : t<n) (hk : k<n) (u v : Value) :
  aB w ((w.setCell ⟨ablk a,aL a+t,none⟩ u).setCell ⟨ablk a,aL a+k,none⟩ v) (bI a R) (bI a (pE R t k)):=by have hb0 : Below 0 w ((w.setCell ⟨ablk a,aL a+t,none⟩ u).setCell ⟨ablk a,aL a+k,none⟩ v):=((GS 0 w).setCell (G0 _) u).setCell (G0 _) v;have hne:=h.ne (by omega);refine ⟨hb0.os,hb0.tape,hb0.output,hb0.size,λb hb hI=>?_,λb hb=>.inl (bI.swap (by rw [h.rl];exact ht) (by rw [h.rl];exact hk) hb)⟩;rw [Ia _ _ _ _ λe=>hI (.inl ⟨hne,e⟩),Ia _ _ _ _ λe=>hI (.inl ⟨hne,e⟩)]
theorem aP.drew {B : Nat} {a : OA} {n c : Nat} {R : LA} {L : Ll} (h : aP w B a n c R L) : aP w.drew B a n c R L:=h.af (GS _ _).drew
theorem aB.drew {w w' : World} {I I' : Nat->Prop} (h : aB w w' I I') : aB w w'.drew I I':=⟨h.os,h.tape,h.output,h.size,h.block,h.grow⟩
theorem Cp (B : Nat) (a : OA) (n c : Nat) (R : LA) (L : Ll) (pk pt k t : Nat) (hO : aP w B a n c R L)
  (hk : w.cell? ⟨pk,0,none⟩=some (.int .i64 k)) (ht : w.cell? ⟨pt,0,none⟩=some (.int .i64 t)) (hkn : k<n) (htn : t<n) (hkt : k ≠ t) (nk : ¬ bI a R pk) (nt : ¬ bI a R pt) :
  Calls prog 254 #[.slice a n c,.pointer (some ⟨pk,0,none⟩),.pointer (some ⟨pt,0,none⟩)] w
   λe w'=>e = .returned (.tuple #[])/\∃R',aP w' B a n c R' (aX L t k)/\aB w w' (bI a R) (bI a R'):=by
 have hpl:=hO.pl;have ck:=hO.cell hkn;have ct:=hO.cell htn;have fk:=hO.frozen hkn;have ft:=hO.frozen htn;have hane : a ≠ none:=hO.ne (by omega);have npk : pk ≠ ablk a:=λe=>nk (.inl ⟨hane,e⟩);have npt : pt ≠ ablk a:=λe=>nt (.inl ⟨hane,e⟩);have k1 : (w.setCell ⟨ablk a,aL a+t,none⟩ (.slice (aJ R k).1 (ai L k).length (aJ R k).2)).cell? ⟨pk,0,none⟩=some (.int .i64 k):=by rw [H9 _ _ _ _ (by simp [npk])];exact hk
 have k2 : (w.setCell ⟨ablk a,aL a+t,none⟩ (.slice (aJ R k).1 (ai L k).length (aJ R k).2)).cell? ⟨pt,0,none⟩=some (.int .i64 t):=by rw [H9 _ _ _ _ (by simp [npt])];exact ht
 have k3 : (w.setCell ⟨ablk a,aL a+t,none⟩ (.slice (aJ R k).1 (ai L k).length (aJ R k).2)).cell? ⟨ablk a,aL a+k,none⟩=some (.slice (aJ R k).1 (ai L k).length (aJ R k).2):=by rw [H9 _ _ _ _ (by simp <;> omega)];exact ck
 go_enter func254,ntmps254;go_wp2_with fail;go_region;have hO2:=(hO.swap htn hkn).drew;have hM2:=(hO.jt htn hkn (.slice (aJ R k).1 (ai L k).length (aJ R k).2) (.slice (aJ R t).1 (ai L t).length (aJ R t).2)).drew;go_wp2_with fail;go_end0;exact ⟨rfl,_,hO2,hM2⟩
theorem Bm (w0 : World) (a : OA) (n c : Nat) (R : LA) (L : Ll) (pg ps pt : Nat) (s : Int) (t : Nat) (hO : aP w w0.heap.size a n c R L)
  (h : dz w0 b G) (hb : Mv w0 w)
  (hg : w.cell? ⟨pg,0,none⟩=some (.pointer (some ⟨b,0,none⟩))) (hs : w.cell? ⟨ps,0,none⟩=some (.int .i64 s)) (ht : w.cell? ⟨pt,0,none⟩=some (.int .i64 t)) (htn : t<n) (hse : G.El s)
  (hel : G.va (ai L t)) (hln : (ai L t).length<=1000000) :
  Calls prog 255 #[.slice a n c,.pointer (some ⟨pg,0,none⟩),.pointer (some ⟨ps,0,none⟩),.pointer (some ⟨pt,0,none⟩)] w
   λe w'=>e = .returned (.tuple #[])/\∃R',aP w' w0.heap.size a n c R' (L.set t ((ai L t).map (G.mul s)))/\aB w w' (bI a R) (bI a R'):=by
 have hpl:=hO.pl;have ct:=hO.cell htn;have ft:=hO.frozen htn;have hi:=hO.ints htn;have hG:=h.af hb;have hS : ∀W,Mv w W->W.cell? ⟨pg,0,none⟩=some (.pointer (some ⟨b,0,none⟩))/\W.cell? ⟨ps,0,none⟩=some (.int .i64 s)/\W.cell? ⟨pt,0,none⟩=some (.int .i64 t) /\
   W.cell? ⟨ablk a,aL a+t,none⟩=some (.slice (aJ R t).1 (ai L t).length (aJ R t).2)/\W.frozen? ⟨ablk a,aL a+t,none⟩=false/\Mv w W :=
  λW hW=>⟨ak hW hg,ak hW hs,ak hW ht,ak hW ct,(hO.af hW).frozen htn,hW⟩
 have HS:=Z5 hS;clear hS;have hF : ∀w4 a4 c4,w4.ownsRow w.drew.heap.size 3 1 (.slice a4 ((ai L t).map (G.mul s)).length c4) ((ai L t).map (G.mul s)).length (((ai L t).map (G.mul s)).map (Value.int .i64))->Below w.drew.heap.size w.drew w4 ->
   ∃R',aP (w4.setCell ⟨ablk a,aL a+t,none⟩ (.slice a4 (ai L t).length c4)) w0.heap.size a n c R' (L.set t ((ai L t).map (G.mul s)))/\aB w (w4.setCell ⟨ablk a,aL a+t,none⟩ (.slice a4 (ai L t).length c4)) (bI a R) (bI a R'):=by
  intro w4 a4 c4 hown4 hb4;have hb5 : Mv w w4:=LY (GS _ _).drew hb4;have hO4:=hO.af hb5;have hsz : w.drew.heap.size=w.heap.size:=rfl;rw [hsz] at hown4;have hnew : ∀b,b<w.heap.size->eA a4 b:=λb hb=>jO hown4 hb;have h1:=hO4.setRow htn (bd hown4 hb.size) (hnew _ (hO.lt _ (.inl ⟨hO.ne (by omega),rfl⟩)).2) (λj hj _=>by
   by_cases hn : (aJ R j).1=none
   ·exact .inl hn
   ·exact .inr (hnew _ (hO.lt _ (aP.jg (by rw [hO.rl];exact hj) hn)).2))
  have h2:=hO.iR hb5 htn (r:=a4) (rc:=c4) (.slice a4 ((ai L t).map (G.mul s)).length c4) (λha=>.inr (aS hown4 ha).1);rw [H8] at h1 h2;exact ⟨_,h1,h2⟩
 have HF:=Z5 hF;clear hF;go_enter func255,ntmps255;go_wp2_with fail;go_region_law ((first
  | (go_simp;go_at_call 66;((with_reducible refine (tA s _ _ _ _ (hG.af (GS _ _).drew) hse (hi.af (GS _ _).drew) hel hln).mono ?_);rintro e w4 ⟨a4,c4,rfl,hown4,hb4⟩;obtain ⟨q0,q1,q2,q3,q4,q5⟩:=HS.out w4 (LY (GS _ _).drew hb4)))))
 all_goals (
  go_wp2_with fail
  go_end0
  exact ⟨rfl,HF.out _ _ _ hown4 hb4⟩)
end
section
variable {w : World} {b : Nat} {G : bX}
theorem bU.dG {a av : OA} {R : LA} {w w' : World} (h : bU av w w') (hin : av ≠ none->bI a R (ablk av)) : aB w w' (bI a R) (bI a R) :=
 ⟨h.os,h.tape,h.output,h.size,λb hb hI=>h.block b hb (λ⟨h1,h2⟩=>hI (by rw [h2];exact hin h1)),λ_ h=>.inl h⟩
theorem A2 (w0 : World) (a : OA) (n c : Nat) (R : LA) (L : Ll) (pg pi px pt m : Nat) (i : Nat) (x : Int) (t : Nat) (hO : aP w w0.heap.size a n c R L)
  (h : dz w0 b G) (hb : Mv w0 w)
  (hg : w.cell? ⟨pg,0,none⟩=some (.pointer (some ⟨b,0,none⟩))) (hi : w.cell? ⟨pi,0,none⟩=some (.int .i64 i)) (hx : w.cell? ⟨px,0,none⟩=some (.int .i64 x)) (ht : w.cell? ⟨pt,0,none⟩=some (.int .i64 t))
  (hin : i<n) (htn : t<n) (hit : i ≠ t) (hxe : G.El x) (ng : ¬ bI a R pg) (ni : ¬ bI a R pi) (nx : ¬ bI a R px) (nt : ¬ bI a R pt) (hei : G.va (ai L i)) (het : G.va (ai L t)) (hli : (ai L i).length=m) (hlt : (ai L t).length=m) :
  Calls prog 256 #[.slice a n c,.pointer (some ⟨pg,0,none⟩),.pointer (some ⟨pi,0,none⟩),.pointer (some ⟨px,0,none⟩),.pointer (some ⟨pt,0,none⟩)] w
   λe w'=>e = .returned (.tuple #[])/\aP w' w0.heap.size a n c R (L.set i (cB G.ops (ai L i) (G.neg x) (ai L t)))/\aB w w' (bI a R) (bI a R):=by
 have hpl:=hO.pl;have ct:=hO.cell htn;have ci:=hO.cell hin;have ri:=hO.row i hin;have rt:=hO.ints htn;have hsep:=hO.sep i t hin htn hit;have hne : G.El (G.neg x):=bX.tq h x;rw [hlt] at ct rt;rw [hli] at ci ri;have hap : (aJ R i).1=none\/(aJ R t).1=none\/ablk (aJ R t).1 ≠ ablk (aJ R i).1:=hsep;have hadd : ∀k,Calls prog 198 #[.pointer (some ⟨b,0,none⟩),.slice (aJ R i).1 m (aJ R i).2,.int .i64 (G.neg x),.slice (aJ R t).1 m (aJ R t).2] (w.drewN k)
   λe w'=>e = .returned (.tuple #[])/\(w'.cell? ⟨pg,0,none⟩=some (.pointer (some ⟨b,0,none⟩))/\w'.cell? ⟨pi,0,none⟩=some (.int .i64 i)/\w'.cell? ⟨px,0,none⟩=some (.int .i64 x)/\w'.cell? ⟨pt,0,none⟩=some (.int .i64 t) /\
    w'.cell? ⟨ablk a,aL a+t,none⟩=some (.slice (aJ R t).1 m (aJ R t).2)/\w'.cell? ⟨ablk a,aL a+i,none⟩=some (.slice (aJ R i).1 m (aJ R i).2))/\(aP w' w0.heap.size a n c R (L.set i (cB G.ops (ai L i) (G.neg x) (ai L t)))/\aB w w' (bI a R) (bI a R)):=by
  intro k;have hd : aY w (w.drewN k):=⟨k,rfl⟩
  refine (EO w0 _ _ m (ai L i) (G.neg x) _ _ (ai L t) h (hd.yY hb) (bj ri hd.below) (rt.af hd.below) hap hei het hne).mono ?_;rintro e w' ⟨rfl,hown,honly⟩;have hmv : aB w w' (bI a R) (bI a R):=(aB.aV hd.below _).trans (honly.dG (λhn=>aP.jg (by rw [hO.rl];exact hin) hn));have hne2 : ¬ ((aJ R i).1 ≠ none/\ablk a=ablk (aJ R i).1):=by
   rintro ⟨h1,h2⟩;rcases hO.qT i hin with h3 | h3
   ·exact h1 h3
   ·exact h3 h2.symm
  refine ⟨rfl,⟨hmv.cell hg ng,hmv.cell hi ni,hmv.cell hx nx,hmv.cell ht nt,aB.cell (aB.trans (aB.aV hd.below _) honly) ct hne2,aB.cell (aB.trans (aB.aV hd.below _) honly) ci hne2⟩,?_,hmv⟩;have hOr:=hO.af hd.below;have hl : (cB G.ops (ai L i) (G.neg x) (ai L t)).length=(ai L i).length:=dq _ _ _ _ (by rw [hli,hlt]);refine hOr.Fb hin hl (by rw [hli];exact hown) λb hb hne=>honly.block b hb λ⟨h1,h2⟩=>?_;rcases hne with h3 | h3
  ·exact h1 h3
  ·exact h3 h2
 have Hadd:=Z5 hadd;have hG:=h.af hb;have HG : Hid (dz w.drew b G/\∀n,dz (w.drewN n) b G):=⟨hG.af (GS _ _).drew,λn=>hG.drewN n⟩
 clear hadd hsep hap hli hlt;generalize L.set i (cB G.ops (ai L i) (G.neg x) (ai L t))=L' at *;go_enter func256,ntmps256;go_wp2_with fail;go_region_held3 (fun w' => w'.cell? ⟨pg, 0, none⟩ = some (.pointer (some ⟨b, 0, none⟩)) ∧ w'.cell? ⟨pi, 0, none⟩ = some (.int .i64 i) ∧ w'.cell? ⟨px, 0, none⟩ = some (.int .i64 x) ∧ w'.cell? ⟨pt, 0, none⟩ = some (.int .i64 t) ∧
       w'.cell? ⟨ablk a,aL a+t,none⟩=some (.slice (aJ R t).1 m (aJ R t).2)/\w'.cell? ⟨ablk a,aL a+i,none⟩=some (.slice (aJ R i).1 m (aJ R i).2))
  (first | assumption | exact ⟨hg,hi,hx,ht,ct,ci⟩)
  (first
  | (go_at_call 103;((with_reducible refine (EK x HG.out.1 hxe).mono ?_);rintro e w4 ⟨m4,rfl,rfl⟩))
  | (go_at_call 198;((with_reducible refine (Hadd.out _).mono ?_);rintro e w5 ⟨rfl,hS5,hO5,hM5⟩)))
 go_wp2_with fail;go_end0;exact ⟨rfl,hO5,hM5⟩
end
section
variable {w : World}
theorem BM (c0 c1 : Value) (p q : Nat) (a : OA) (n c : Nat) (X : World->Prop) (h1 : w.cell? ⟨p,0,none⟩=some (.slice a n c))
  (hf : Calls prog 254 #[.slice a n c,c0,c1] w λe w'=>e = .returned (.tuple #[])/\w'.cell? ⟨q,0,none⟩=some (.slice none 0 0)/\X w') :
  Calls prog 253 #[.func (.func 254) #[] #[c0,c1],.pointer (some ⟨p,0,none⟩),.pointer (some ⟨q,0,none⟩)] w
   λe w'=>e = .returned (.tuple #[])/\X w':=by have Hf:=Z5 hf;clear hf;go_enter func253,ntmps253;go_wp2_with fail;refine Hf.out.mono ?_;rintro e w' ⟨rfl,hq,hX⟩;go_wp2_with fail;go_end0;exact ⟨rfl,hX⟩
theorem AQ (c0 c1 c2 : Value) (p q : Nat) (a : OA) (n c : Nat) (X : World->Prop) (h1 : w.cell? ⟨p,0,none⟩=some (.slice a n c))
  (hf : Calls prog 255 #[.slice a n c,c0,c1,c2] w λe w'=>e = .returned (.tuple #[])/\w'.cell? ⟨q,0,none⟩=some (.slice none 0 0)/\X w') :
  Calls prog 253 #[.func (.func 255) #[] #[c0,c1,c2],.pointer (some ⟨p,0,none⟩),.pointer (some ⟨q,0,none⟩)] w
   λe w'=>e = .returned (.tuple #[])/\X w':=by have Hf:=Z5 hf;clear hf;go_enter func253,ntmps253;go_wp2_with fail;refine Hf.out.mono ?_;rintro e w' ⟨rfl,hq,hX⟩;go_wp2_with fail;go_end0;exact ⟨rfl,hX⟩
theorem BK (c0 c1 c2 c3 : Value) (p q : Nat) (a : OA) (n c : Nat) (X : World->Prop) (h1 : w.cell? ⟨p,0,none⟩=some (.slice a n c))
  (hf : Calls prog 256 #[.slice a n c,c0,c1,c2,c3] w λe w'=>e = .returned (.tuple #[])/\w'.cell? ⟨q,0,none⟩=some (.slice none 0 0)/\X w') :
  Calls prog 253 #[.func (.func 256) #[] #[c0,c1,c2,c3],.pointer (some ⟨p,0,none⟩),.pointer (some ⟨q,0,none⟩)] w
   λe w'=>e = .returned (.tuple #[])/\X w':=by have Hf:=Z5 hf;clear hf;go_enter func253,ntmps253;go_wp2_with fail;refine Hf.out.mono ?_;rintro e w' ⟨rfl,hq,hX⟩;go_wp2_with fail;go_end0;exact ⟨rfl,hX⟩
end
section
structure bZ (O : aM) (El : Int->Prop) : Prop where
 cl : oF O El
 zero : El 0
 one : El 1
 add_comm : ∀x y,El x->El y->O.add x y=O.add y x
 add_assoc : ∀x y z,El x->El y->El z->O.add (O.add x y) z=O.add x (O.add y z)
 add_zero : ∀x,El x->O.add x 0=x
 add_neg : ∀x,El x->O.add x (O.neg x)=0
 mul_comm : ∀x y,El x->El y->O.mul x y=O.mul y x
 mul_assoc : ∀x y z,El x->El y->El z->O.mul (O.mul x y) z=O.mul x (O.mul y z)
 one_mul : ∀x,El x->O.mul 1 x=x
 mul_add : ∀x y z,El x->El y->El z->O.mul x (O.add y z)=O.add (O.mul x y) (O.mul x z)
 mul_inv : ∀x,El x->x ≠ 0->O.mul x (O.inv x)=1
def pw (P : Int) (M : Nat) (mod : LI) (y : Int) : Nat->Int
 | 0=>1
 | k+1=>cI P M mod (pw P M mod y k) y
variable {P : Int} {M : Nat} {mod : LI} {q : Nat} {y : Int}
theorem nS (h : jP P M) (y : Int) : ∀k,eo P M (pw P M mod y k)
 | 0=>sX h
 | k+1=>e8 h _ _
theorem gG (h : jP P M) (y : Int) (a : Nat) : ∀b,cI P M mod (pw P M mod y a) (pw P M mod y b)=pw P M mod y (a+b)
 | 0=>by rw [pw,gQ h,gw h (nS h y a)];rfl
 | b+1=>by rw [pw,<- qJ h,gG h y a b];rfl
theorem sP (y : Int) : ∀(n : Nat) (l : LI),(∀i,i<l.length->nth l i=pw P M mod y i)->l.Nodup->(∀e ∈ l,e ≠ 0) ->
  (∀i,i<(powTo (λz=>cI P M mod z y) n l (pw P M mod y l.length)).length->nth (powTo (λz=>cI P M mod z y) n l (pw P M mod y l.length)) i=pw P M mod y i) /\
  (powTo (λz=>cI P M mod z y) n l (pw P M mod y l.length)).Nodup/\∀e ∈ powTo (λz=>cI P M mod z y) n l (pw P M mod y l.length),e ≠ 0
 | 0,l,h1,h2,h3=>⟨h1,h2,h3⟩
 | n+1,l,h1,h2,h3=>by
  by_cases hs : pw P M mod y l.length=0\/pw P M mod y l.length ∈ l
  ·rw [ij _ _ _ _ hs];exact ⟨h1,h2,h3⟩
  ·rw [pH _ _ _ _ hs];have e : cI P M mod (pw P M mod y l.length) y=pw P M mod y (l ++ [pw P M mod y l.length]).length:=by simp [pw]
   rw [e];refine sP y n _ (λi hi=>?_) ?_ ?_
   ·simp only [H5,Ij] at hi;by_cases hl : i<l.length
    ·rw [nth,GY,Ie hl,<- GY];exact h1 i hl
    ·obtain rfl : i=l.length:=by omega
     simp [nth]
   ·rw [Jg];refine ⟨h2,by simp,λa ha b hb=>?_⟩;rw [List.mem_singleton.1 hb];intro e;exact hs (.inr (e ▸ ha))
   ·intro e he;rcases List.mem_append.1 he with h | h
    ·exact h3 e h
    ·rw [List.mem_singleton.1 h];intro e;exact hs (.inl e)
theorem CY (h : jP P M) (hy : eo P M y) (q : Nat) :
  (∀i,i<(et P M mod q y).length->nth (et P M mod q y) i=pw P M mod y i)/\(et P M mod q y).Nodup/\∀e ∈ et P M mod q y,e ≠ 0:=by
 have e : pw P M mod y [(1 : Int)].length=y:=by show cI P M mod (pw P M mod y 0) y=y;rw [pw,gw h hy]
 have:=sP (P:=P) (M:=M) (mod:=mod) y q [1] (λi hi=>by
  have : i=0:=by simp at hi;omega
  subst this;rfl) (by simp) (by simp)
 rw [e] at this;exact this
structure qZ (P : Int) (M : Nat) (mod : LI) (q : Nat) (y : Int) (ex : LI) : Prop where
 res : jP P M
 q2 : 2<=q
 pq : (q : Int)=P ^ M
 yel : eo P M y
 len : ex.length=q - 1
 val : ∀i,i<q - 1->nth ex i=pw P M mod y i
 nodup : ex.Nodup
 ne : ∀e ∈ ex,e ≠ 0
 last : pw P M mod y (q - 1)=1
theorem qZ.xe (h : jP P M) (hq : (q : Int)=P ^ M) (hy : eo P M y) (hg : fo P M mod q y=true) : qZ P M mod q y (et P M mod q y):=by
 have hq2 : 2<=q:=by have:=one_lt_pow h;omega
 simp only [fo,Ib,beq_iff_eq] at hg;obtain ⟨h1,h2,h3⟩:=CY (mod:=mod) h hy q;refine ⟨h,hq2,hq,hy,hg.1,λi hi=>h1 i (by omega),h2,h3,?_⟩;have:=hg.2;rw [h1 _ (by omega)] at this;rw [show q - 1=(q - 2)+1 by omega];exact this
namespace qZ
variable {ex : LI}
theorem mem (g : qZ P M mod q y ex) {e : Int} (he : eo P M e) (h0 : e ≠ 0) : e ∈ ex:=by
 apply Iv;intro hn;have hnd : (e :: ex).Nodup:=List.nodup_cons.2 ⟨hn,g.nodup⟩;have hsub : ∀x ∈ e :: ex,x ∈ (List.range (q - 1)).map (λi : Nat=>(i : Int)+1):=by
  intro x hx;have hx2 : eo P M x/\x ≠ 0:=by
   rcases List.mem_cons.1 hx with rfl | hx
   ·exact ⟨he,h0⟩
   ·refine ⟨?_,g.ne x hx⟩;obtain ⟨i,hi,rfl⟩:=List.mem_iff_getElem.1 hx;rw [<- aj hi,g.val i (by rw [<- g.len];exact hi)];exact nS g.res y i
  rw [Kq];have h1:=hx2.1.1;have h2:=hx2.1.2;have h3:=hx2.2;have h4:=g.pq;have h5:=g.q2;exact ⟨(x - 1).toNat,by rw [Kr];omega,by omega⟩
 have hle:=List.Nodup.length_le_of_subset hnd hsub;simp at hle;have h5:=g.q2;have h6:=g.len;omega
theorem log (g : qZ P M mod q y ex) {e : Int} (he : eo P M e) (h0 : e ≠ 0) : ∃k,k<q - 1/\e=pw P M mod y k/\nth ex k=e:=by
 obtain ⟨i,hi,e1⟩:=List.mem_iff_getElem.1 (g.mem he h0);have hi2 : i<q - 1:=by rw [<- g.len];exact hi
 refine ⟨i,hi2,?_,?_⟩
 ·rw [<- g.val i hi2,aj hi,e1]
 ·rw [aj hi,e1]
theorem period (g : qZ P M mod q y ex) (a : Nat) : ∀n,pw P M mod y (a+n * (q - 1))=pw P M mod y a
 | 0=>by simp
 | n+1=>by rw [show a+(n+1) * (q - 1)=(a+n * (q - 1))+(q - 1) by rw [Nat.add_mul];omega,<- gG g.res,g.last,gQ g.res,gw g.res (nS g.res y _),period g a n]
theorem red (g : qZ P M mod q y ex) (a : Nat) : pw P M mod y (a % (q - 1))=pw P M mod y a:=by have h:=g.period (a % (q - 1)) (a / (q - 1));rw [<- h,IU,Nat.mod_add_div]
theorem E6 (g : qZ P M mod q y ex) (a : Nat) : pw P M mod y a ≠ 0:=by have h5:=g.q2;rw [<- g.red a];have hlt : a % (q - 1)<q - 1:=Jm _ (by omega);rw [<- g.val _ hlt];exact g.ne _ (aH (by rw [g.len];exact hlt))
theorem inj (g : qZ P M mod q y ex) {i j : Nat} (hi : i<q - 1) (hj : j<q - 1) (h : nth ex i=nth ex j) : i=j:=by
 rw [aj (by rw [g.len];exact hi),aj (by rw [g.len];exact hj)] at h;have hp:=List.pairwise_iff_getElem.1 g.nodup;rcases Nat.lt_trichotomy i j with h1 | h1 | h1
 ·exact absurd h (hp i j _ _ h1)
 ·exact h1
 ·exact absurd h.symm (hp j i _ _ h1)
theorem sI (g : qZ P M mod q y ex) {k : Nat} (hk : k<q - 1) : eo P M (nth ex k):=by rw [g.val k hk];exact nS g.res y k
theorem sG (g : qZ P M mod q y ex) : ∀k,k<=q - 1->∀j,j<k->nth (logTo q ex k) (nth ex j).toNat=j
 | 0,_,j,hj=>by omega
 | k+1,hk,j,hj=>by
  have hkel:=g.sI (k:=k) (by omega);have hjel:=g.sI (k:=j) (by omega);have h1:=hkel.1;have h2:=hkel.2;have h3:=hjel.1;have h4:=g.pq;rw [logTo,ei _ _ _ _ (by rw [gM];omega)];by_cases e : j=k
  ·subst e;rw [GV rfl]
  ·rw [GU]
   ·exact sG g k (by omega) j (by omega)
   ·intro e2;exact e (g.inj (by omega) (by omega) (by omega))
theorem EU (g : qZ P M mod q y ex) {k : Nat} (hk : k<q - 1) : nth (logTo q ex (q - 1)) (pw P M mod y k).toNat=k:=by rw [<- g.val k hk];exact g.sG (q - 1) (GQ _) k hk
theorem oP (g : qZ P M mod q y ex) {x z : Int} (hx : eo P M x) (hz : eo P M z) : ph q ex (logTo q ex (q - 1)) x z=cI P M mod x z:=by
 unfold ph;by_cases h0 : x=0\/z=0
 ·rw [GV h0];rcases h0 with rfl | rfl
  ·rw [gQ g.res,nH g.res]
  ·rw [nH g.res]
 ·rw [GU h0];obtain ⟨a,ha,rfl,_⟩:=g.log hx (λe=>h0 (.inl e));obtain ⟨b,hb,rfl,_⟩:=g.log hz (λe=>h0 (.inr e));have h5:=g.q2;rw [g.EU ha,g.EU hb,gG g.res];have e1 : ((a : Int)+b) % ((q : Int) - 1)=(((a+b) % (q - 1) : Nat) : Int):=by rw [Jj,Int.natCast_add,KU (by omega)];rfl
  rw [e1,GW,g.val _ (Jm _ (by omega)),g.red]
theorem CL (g : qZ P M mod q y ex) {x : Int} (hx : eo P M x) (h0 : x ≠ 0) : cI P M mod x (wJ q ex (logTo q ex (q - 1)) x)=1:=by
 obtain ⟨a,ha,rfl,_⟩:=g.log hx h0;have h5:=g.q2;unfold wJ;rw [g.EU ha];have e1 : ((q : Int) - 1 - a) % ((q : Int) - 1)=(((q - 1 - a) % (q - 1) : Nat) : Int):=by rw [Jj,KU (by omega),KU (by omega)];rfl
 rw [e1,GW,g.val _ (Jm _ (by omega)),g.red,gG g.res,show a+(q - 1 - a)=q - 1 by omega,g.last]
theorem DL (g : qZ P M mod q y ex) (x : Int) : eo P M (wJ q ex (logTo q ex (q - 1)) x):=by have h5:=g.q2;unfold wJ;refine g.sI ?_;have h1:=IA ((q : Int) - 1 - nth (logTo q ex (q - 1)) x.toNat) (show (q : Int) - 1 ≠ 0 by omega);have h2:=Ip ((q : Int) - 1 - nth (logTo q ex (q - 1)) x.toNat) (show 0<(q : Int) - 1 by omega);omega
theorem GP (g : qZ P M mod q y ex) : bZ (bX.ops ⟨P,M,q,ex,logTo q ex (q - 1)⟩) (eo P M):=by
 have hmul : ∀ {x z : Int},eo P M x->eo P M z->(bX.ops ⟨P,M,q,ex,logTo q ex (q - 1)⟩).mul x z=cI P M mod x z:=λhx hz=>g.oP hx hz;have h:=g.res;have hinv : ∀x,eo P M ((bX.ops ⟨P,M,q,ex,logTo q ex (q - 1)⟩).inv x):=λx=>g.DL x;refine ⟨⟨λx z _ _=>gh h x z,λx z hx hz=>?_,λx _=>tX h x,λx _ _=>hinv x⟩,uR h,sX h,λx z _ _=>BD h x z,λx z u _ _ _=>xy h x z u,λx hx=>EN h hx,λx _=>Bj h x,?_,?_,?_,?_,?_⟩
 ·rw [hmul hx hz];exact e8 h x z
 ·intro x z hx hz;rw [hmul hx hz,hmul hz hx,gQ h]
 ·intro x z u hx hz hu;rw [hmul hx hz,hmul hz hu,hmul (e8 h x z) hu,hmul hx (e8 h z u),qJ h]
 ·intro x hx;rw [hmul (sX h) hx,gw h hx]
 ·intro x z u hx hz hu;have hs : (bX.ops ⟨P,M,q,ex,logTo q ex (q - 1)⟩).add=fsum P M:=rfl;rw [hs,hmul hx (gh h z u),hmul hx hz,hmul hx hu,CA h]
 ·intro x hx h0;rw [hmul hx (hinv x)];exact g.CL hx h0
end qZ
theorem jD {P M : Int} {mod : LI} (h : ba P M mod=true) : ∃(m : Nat) (y : Int),M=m/\jP P m/\P ^ m<=256/\bM P m mod=true/\(aI P m).toNat=P ^ m/\qZ P m mod (aI P m).toNat y (fg P m mod (aI P m).toNat):=by
 unfold ba at h;rw [Ib] at h;obtain ⟨hs,hg⟩:=h;have hs2:=hs;simp only [bM,Ib,bne_iff_ne,ne_eq] at hs2;obtain ⟨b1,b2,b3,b4,b5,b6⟩:=fV hs2.1.1;obtain ⟨m,rfl⟩ : ∃m : Nat,M=m:=⟨M.toNat,by omega⟩
 rw [GW] at *;have hres : jP P m:=⟨b1,by omega⟩
 have hq : ((aI P m).toNat : Int)=P ^ m:=by have:=one_lt_pow hres;omega
 have hne : fg P m mod (aI P m).toNat ≠ []:=by intro e;rw [e] at hg;simp at hg
 obtain ⟨y,hy1,hy2,hy3,hy4⟩:=nJ hne;refine ⟨m,y,rfl,hres,b5,hs,hq,?_⟩;rw [hy4];exact qZ.xe hres hq ⟨by omega,by omega⟩ hy3
theorem dM {P M : Int} {mod : LI} (h : ba P M mod=true) : bZ (ah P M.toNat mod).ops (ah P M.toNat mod).El:=by
 obtain ⟨m,y,rfl,hr,_,_,hq,g⟩:=jD h;have e : (ah P ((m : Int).toNat) mod).El=eo P m:=by funext x;simp only [bX.El,ah,eo,GW];rw [hq]
 rw [e];exact g.GP
end
theorem eZ (w : World) (cs : Array Value) (e : TypeId) {g : Nat} (hg : g=w.heap.size) (i : Nat) : (w.alloc (.cells cs e)).frozen? ⟨g,i,none⟩=false:=by subst hg;simp
theorem dr {w w' : World} (hb : Mv w w') {g i : Nat} (hg : g<w.heap.size) {v : Bool} (h : w.frozen? ⟨g,i,none⟩=v) : w'.frozen? ⟨g,i,none⟩=v:=(hb.frozen (p:=⟨g,i,none⟩) hg).trans h
theorem dL {w : World} {g i : Nat} {v : Bool} (hg : g<w.heap.size) (h : w.frozen? ⟨g,i,none⟩=v) (o : Obj) : (w.alloc o).frozen? ⟨g,i,none⟩=v:=dr ((GS _ _).alloc (GQ _) o) hg h
def aO (w : World) (b : Nat) (cs : List Value) : Prop:=b<w.heap.size/\(∀i v,cs[i]? = some v->w.cell? ⟨b,i,none⟩=some v)/\∀i,w.frozen? ⟨b,i,none⟩=false
theorem aO.new (w : World) (cs : List Value) (e : TypeId) {g : Nat} (hg : g=w.heap.size) : aO (w.alloc (.cells cs.toArray e)) g cs :=
 ⟨by subst hg;simp,λi v hv=>by rw [aE _ _ _ hg i];simpa using hv,λi=>eZ _ _ _ hg i⟩
theorem aO.af {w w' : World} {b : Nat} {cs : List Value} (h : aO w b cs) (hb : Mv w w') : aO w' b cs :=
 ⟨It h.1 hb.size,λi v hv=>ak hb (h.2.1 i v hv),λi=>dr hb h.1 (h.2.2 i)⟩
theorem aO.alloc {w : World} {b : Nat} {cs : List Value} (h : aO w b cs) (o : Obj) : aO (w.alloc o) b cs:=h.af ((GS _ _).alloc (GQ _) o)
theorem aO.cell {w : World} {b : Nat} {cs : List Value} (h : aO w b cs) (i : Nat) {v : Value} (hv : cs[i]? = some v) : w.cell? ⟨b,i,none⟩=some v:=h.2.1 i v hv
theorem aO.frozen {w : World} {b : Nat} {cs : List Value} (h : aO w b cs) (i : Nat) : w.frozen? ⟨b,i,none⟩=false:=h.2.2 i
theorem jI (w : World) (o1 o2 o3 : Obj) : Mv w (((w.alloc o1).alloc o2).alloc o3):=(((GS _ _).alloc (GQ _) _).alloc (by simp) _).alloc (by simp;omega) _
theorem du (w : World) (o1 o2 : Obj) : Mv w ((w.alloc o1).alloc o2):=((GS _ _).alloc (GQ _) _).alloc (by simp) _
theorem an (w : World) (o1 : Obj) : Mv w (w.alloc o1):=(GS _ _).alloc (GQ _) _
theorem Ints.drawn {w w' : World} {a : OA} {n : Nat} {l : LI} (h : Ints w a n l) (hd : aY w w') : Ints w' a n l:=h.af hd.below
theorem bC.drawn {w w' : World} {a : OA} {n : Nat} {l : Ll} (h : bC w a n l) (hd : aY w w') : bC w' a n l:=h.af hd.below
theorem aY.trans {w w' w'' : World} (h : aY w w') (k : aY w' w'') : aY w w'' := by obtain ⟨m, rfl⟩ := h; obtain ⟨n, rfl⟩ := k; exact ⟨m + n, World.drewN_drewN _ _ _⟩
def fR (w : World) (z : Bool) (e : Ending) (w' : World) : Prop:=e = .returned (.bool z)/\aY w w'
def LZ:=@aO.new
def L4:=@aB.aV
def L7:=@aY.refl
def L9:=@bU.drawn
def Ma:=@aB.refl
def Mb:=@bU.refl
def Mc:=@aY.below
def Md:=@bU.set
def Mf:=@bG.clear
def Mj:=@bX.cl
def Mm:=@aB.trans
end Go.Proofs.YthglbncgemdcbaaGreat
