import Derived.Test.YtcfmiocdlcapoaaGreatMCS4
namespace Go.Proofs.YtcfmiocdlcapoaaGreat
set_option linter.all false
set_option maxRecDepth 100000
set_option maxHeartbeats 1600000
open Go.RowKit Go.Proofs.Tryz
section
def jj (q x : Int) : Bool:=decide (0<=x) && decide (x<q)
def iM (q : Int) (l : Lz) : Bool:=l.all (jj q)
def ki (q : Int) (l : Lz) : Int:=if iM q l then 0 else 2
def kg (cols : Int) (L : Ll) : Bool:=L.all λr=>decide ((r.length : Int)=cols)
def eW (q cols : Int) (L : Ll) : Int :=
 if cols<0\/256<cols\/256<L.length then 3 else if kg cols L=false then 3 else if L.all (iM q) then 0 else 2
theorem cX {α : Type} {p : α->Bool} {l : List α} {k : Nat} (hk : k<l.length) (h : (l.take k).all p=true) (hp : p l[k]=true) : (l.take (k+1)).all p=true:=by rw [Ja hk,LD,h];simp [hp]
theorem db {α : Type} {p : α->Bool} {l : List α} {k : Nat} (hk : k<l.length) (hp : p l[k]=false) : l.all p=false:=by rw [Kq];exact ⟨_,JA hk,by simp [hp]⟩
variable {w : World} {b : Nat} {G : cW}
theorem wG (a : OA) (n c : Nat) (l : Lz) (h : dT w b G) (hi : Ints w a n l) :
  Calls prog 140 #[.pointer (some ⟨b,0,none⟩),.slice a n c] w λe w'=>e = .returned (.int .i64 (ki G.q l))/\w=w':=by
 have hpl:=hi.pl;have hlen:=hi.len;have hmax:=hi.max;unfold maxLen at hmax;have Hlen:=Z5 hlen;clear hlen;go_enter func140,ntmps140;go_wp2;go_loop [9] (λiv=>∃k : Nat,k<=n/\iv = .int .i64 k/\Hid ((l.take k).all (jj G.q)=true)) (λiv=>n - (intOf iv).toNat);case atStart=>exact ⟨0,I7 _,rfl,by show _=_;simp⟩
 case round =>
  obtain ⟨k,hk,rfl,hall⟩:=hrel
  by_cases hlt : k<n
  ·have hc:=hi.cell k hlt
   by_cases hq : jj G.q (nth l k)=true
   ·have hq':=hq
    unfold jj at hq'
    have Hq:=Z5 hq
    clear hq
    go_wp2_with (first | (go_at_call 138;refine (It (nth l k) h).mono ?_;rintro e w' ⟨rfl,rfl⟩))
    go_round
    case rel=>exact ⟨k+1,by omega,by go_num,cX (by rw [Hlen.out];exact hlt) hall.out (by rw [<- ai (by rw [Hlen.out];exact hlt)];exact Hq.out)⟩
    case measure=>simp [intOf] <;> omega
   ·have hq : jj G.q (nth l k)=false:=by simpa using hq
    have hq':=hq
    unfold jj at hq'
    have Hf : Hid (iM G.q l=false):=db (k:=k) (by rw [Hlen.out];exact hlt) (by rw [<- ai (by rw [Hlen.out];exact hlt)];exact hq)
    clear hq
    go_wp2_with (first | (go_at_call 138;refine (It (nth l k) h).mono ?_;rintro e w' ⟨rfl,rfl⟩))
    go_ret
    exact ⟨aH (by rw [ki,Hf.out];rfl),rfl⟩
  ·obtain rfl : k=n:=by omega
   have Hf : Hid (iM G.q l=true):=by have:=hall.out;rw [I8 (by rw [Hlen.out];exact IZ _)] at this;exact this
   go_wp2
   go_ret
   exact ⟨aH (by rw [ki,Hf.out];rfl),rfl⟩
theorem B6 (cols : Int) (a : OA) (n c : Nat) (L : Ll) (h : dT w b G) (hi : ch w a n L) :
  Calls prog 206 #[.pointer (some ⟨b,0,none⟩),.agg #[.int .i64 cols,.slice a n c]] w λe w'=>e = .returned (.int .i64 (eW G.q cols L))/\NS w w':=by
 have hpl:=hi.pl;have hlen:=hi.len;have hmax:=hi.max;unfold maxLen at hmax;have Hlen:=Z5 hlen;clear hlen;have hbox : ∀w' : World,Below (w.heap.size+1) (w.alloc (.cells #[.int .i64 cols,.slice a n c] 82)) w' ->
   w'.cell? ⟨w.heap.size,0,none⟩=some (.int .i64 cols)/\w'.cell? ⟨w.heap.size,1,none⟩=some (.slice a n c)/\NS w w':=by intro w' h;refine ⟨(h.cell (by simp)).trans (by simp),(h.cell (by simp)).trans (by simp),((I1 _ _).alloc (IZ _) _).trans (h.mono (by omega))⟩
 have Hbox:=Z5 hbox;clear hbox;have Hal:=Z5 ((I1 w.heap.size w).alloc (IZ _) (.cells #[.int .i64 cols,.slice a n c] 82));by_cases b1 : cols<0
 ·have Hf : Hid (eW G.q cols L=3):=by show _=_;rw [eW,I6 (.inl b1)]
  go_enter func206,ntmps206;go_wp2_with fail;go_ret;exact ⟨aH Hf.out.symm,Hal.out⟩
 by_cases b2 : 256<cols
 ·have Hf : Hid (eW G.q cols L=3):=by show _=_;rw [eW,I6 (.inr (.inl b2))]
  go_enter func206,ntmps206;go_wp2_with fail;go_ret;exact ⟨aH Hf.out.symm,Hal.out⟩
 by_cases b3 : 256<n
 ·have Hf : Hid (eW G.q cols L=3):=by show _=_;rw [eW,I6 (.inr (.inr (by rw [Hlen.out];exact b3)))]
  have t1 : decide (cols<0)=false:=by simpa using b1
  have t2 : decide (256<cols)=false:=by simpa using b2
  have t3 : decide (256<(n : Int))=true:=by simp;omega
  go_enter func206,ntmps206;go_wp2_with fail;go_ret;exact ⟨aH Hf.out.symm,Hal.out⟩
 have Hm : Hid (eW G.q cols L=if kg cols L=false then 3 else if L.all (iM G.q) then 0 else 2):=by show _=_;rw [eW,I5 (by rw [Hlen.out];omega)]
 have t1 : decide (cols<0)=false:=by simpa using b1
 have t2 : decide (256<cols)=false:=by simpa using b2
 have t3 : decide (256<(n : Int))=false:=by simp;omega
 clear b1 b2;go_enter func206,ntmps206;go_wp2_with fail;generalize hW0 : w.alloc (.cells #[.int .i64 cols,.slice a n c] 82)=W0 at *;have hW0s : W0.heap.size=w.heap.size+1:=by rw [<- hW0];simp
 obtain ⟨q0,q1,hbw⟩:=Hbox.out W0 (I1 _ _);have hiW:=hi.aa hbw;clear hW0;go_loop [27] (λiv=>∃k : Nat,k<=n/\iv = .int .i64 k/\Hid ((L.take k).all (λr=>decide ((r.length : Int)=cols))=true)) (λiv=>n - (intOf iv).toNat);case atStart=>exact ⟨0,I7 _,rfl,by show _=_;simp⟩
 case round =>
  obtain ⟨k,hk,rfl,hall⟩:=hrel
  by_cases hlt : k<n
  ·obtain ⟨ra,rn,rc,hcell,hrow⟩:=hiW.cell k hlt
   have hrl:=hrow.len
   have hkL : k<L.length:=by rw [Hlen.out];exact hlt
   rw [aE hkL] at hrl
   have Hrl:=Z5 hrl
   clear hrl
   by_cases he : (rn : Int)=cols
   ·have he' : ((rn : Int) != cols)=false:=by simpa using he
    have Hq : Hid (decide ((L[k].length : Int)=cols)=true):=by show _=_;rw [Hrl.out];simpa using he
    clear he
    go_wp2_with fail
    go_round
    case rel=>exact ⟨k+1,by omega,by go_num,cX hkL hall.out Hq.out⟩
    case measure=>simp [intOf] <;> omega
   ·have he' : ((rn : Int) != cols)=true:=by simpa using he
    have Hq : Hid (eW G.q cols L=3):=by show _=_;rw [Hm.out,I6];exact db hkL (by simp only [Hrl.out];simpa using he)
    clear he
    go_wp2_with fail
    go_ret
    exact ⟨aH Hq.out.symm,hbw⟩
  ·obtain rfl : k=n:=by omega
   have Hm2 : Hid (eW G.q cols L=if L.all (iM G.q) then 0 else 2):=by have:=hall.out;rw [I8 (by rw [Hlen.out];exact IZ _)] at this;show _=_;rw [Hm.out,I5 (by rw [kg,this];simp)]
   have hG:=h.aa hbw
   go_wp2_with fail
   go_loop [40] (λiv=>∃j : Nat,j<=k/\iv = .int .i64 j/\Hid ((L.take j).all (iM G.q)=true)) (λiv=>k - (intOf iv).toNat)
   case atStart=>exact ⟨0,I7 _,rfl,by show _=_;simp⟩
   case round =>
    obtain ⟨j,hj,rfl,hall2⟩:=hrel
    by_cases hlt : j<k
    ·obtain ⟨ra,rn,rc,hcell,hrow⟩:=hiW.cell j hlt
     have hjL : j<L.length:=by rw [Hlen.out];exact hlt
     go_wp2_with fail
     refine (wG ra rn rc _ hG hrow).mono ?_
     rintro e w' ⟨rfl,rfl⟩
     by_cases he : iM G.q (an L j)=true
     ·have he2 : ki G.q (an L j)=0:=by rw [ki,he];rfl
      rw [he2]
      rw [aE hjL] at he
      have He:=Z5 he
      clear he he2
      go_wp2_with fail
      go_round
      case rel=>exact ⟨j+1,by omega,by go_num,cX hjL hall2.out He.out⟩
      case measure=>simp [intOf] <;> omega
     ·have he2 : ki G.q (an L j)=2:=by rw [ki,I5 he]
      rw [he2]
      rw [aE hjL] at he
      have Hq : Hid (eW G.q cols L=2):=by show _=_;rw [Hm2.out,db hjL (by simpa using he)];rfl
      clear he he2
      go_wp2_with fail
      go_ret
      exact ⟨aH Hq.out.symm,hbw⟩
    ·obtain rfl : j=k:=by omega
     have Hq : Hid (eW G.q cols L=0):=by have:=hall2.out;rw [I8 (by rw [Hlen.out];exact IZ _)] at this;show _=_;rw [Hm2.out,this];rfl
     go_wp2_with fail
     go_ret
     exact ⟨aH Hq.out.symm,hbw⟩
end
structure yh (w : World) (a : OA) (n : Nat) (l : List (Int × Ll)) : Prop where
 len : l.length=n
 pl : Pl a n
 max : n<=maxLen
 cell : ∀i (hi : i<l.length),∃b m c,w.cell? ⟨aj a,aL a+i * 2,none⟩=some (.int .i64 l[i].1)/\w.cell? ⟨aj a,aL a+i * 2+1,none⟩=some (.slice b m c)/\ch w b m l[i].2
theorem yh.aa {w w' : World} {a : OA} {n : Nat} {l : List (Int × Ll)} (h : yh w a n l) (hb : NS w w') : yh w' a n l:=by refine ⟨h.len,h.pl,h.max,λi hi=>?_⟩;obtain ⟨b,m,c,h1,h2,h3⟩:=h.cell i hi;exact ⟨b,m,c,aB hb h1,aB hb h2,h3.aa hb⟩
def iG (q : Int) : List (Int × Ll)->Int
 | []=>0
 | m :: l=>if eW q m.1 m.2=0 then iG q l else eW q m.1 m.2
theorem zr {q : Int} {l : List (Int × Ll)} {k : Nat} (hk : k<l.length) : iG q (l.drop k)=if eW q l[k].1 l[k].2=0 then iG q (l.drop (k+1)) else eW q l[k].1 l[k].2:=by rw [Jt hk,iG]
def Em (P M : Int) (mod : Lz) (l : List (Int × Ll)) (w : World) (e : Ending) (w' : World) : Prop :=
 NS w w'/\(
 (bp P M mod=false/\e = .returned (.tuple #[.pointer none,.int .i64 1])) \/
 (bp P M mod=true/\∃er,er ≠ 0/\iG (ah P M.toNat mod).q l=er/\e = .returned (.tuple #[.pointer none,.int .i64 er])) \/
 (bp P M mod=true/\iG (ah P M.toNat mod).q l=0/\∃b,e = .returned (.tuple #[.pointer (some ⟨b,0,none⟩),.int .i64 0])/\dT w' b (ah P M.toNat mod)/\w.heap.size<=b))
theorem nj (P M : Int) (am : OA) (mn cm : Nat) (mod : Lz) (a : OA) (n c : Nat) (l : List (Int × Ll)) (w : World) (hmod : Ints w am mn mod) (hl : yh w a n l) :
  Calls prog 139 #[.agg #[.int .i64 P,.int .i64 M,.slice am mn cm],.slice a n c] w (Em P M mod l w):=by
 have hpl:=hl.pl;have hlen:=hl.len;have hmax:=hl.max;unfold maxLen at hmax;have Hlen:=Z5 hlen;clear hlen;have Hal:=Z5 ((I1 w.heap.size w).alloc (IZ _) (.cells #[.int .i64 P,.int .i64 M,.slice am mn cm] 24));go_enter func139,ntmps139;go_wp2_with fail;have hbw:=Hal.out;generalize w.alloc (.cells #[.int .i64 P,.int .i64 M,.slice am mn cm] 24)=W0 at *;refine (fG P M am mn cm mod W0 (hmod.aa hbw)).mono ?_;rintro e w1 (⟨hB,rfl,hb1⟩ | ⟨hB,b,rfl,hGs,hbl,hb1⟩)
 ·have HB:=Z5 hB;clear hB;have hbw1:=Nh hbw hb1;go_wp2_with fail;go_ret2;exact ⟨hbw1,.inl ⟨HB.out,rfl⟩⟩
 ·have HB:=Z5 hB;clear hB;have hbw1:=Nh hbw hb1;have hbb : w.heap.size<=b:=Ji hbw.size hbl;have hG:=hGs.gf;clear hGs;generalize hT : ah P M.toNat mod=G at *;have HT:=Z5 hT;clear hT;go_wp2_with fail;go_loopw [20] (λiv wr=>∃k : Nat,k<=n/\iv = .int .i64 k/\Hid (iG G.q l=iG G.q (l.drop k))/\NS w1 wr) (λiv _=>n - (intOf iv).toNat);case atStart=>exact ⟨0,I7 _,rfl,by show _=_;simp,I1 _ _⟩
  case round =>
   obtain ⟨k,hk,rfl,hall,hbr⟩:=hrel
   have hbwr:=Nh hbw1 hbr
   by_cases hlt : k<n
   ·have hkl : k<l.length:=by rw [Hlen.out];exact hlt
    have hlr:=hl.aa hbwr
    obtain ⟨rb,rm,rc,c1,c2,hM⟩:=hlr.cell k hkl
    have hstep:=zr (q:=G.q) hkl
    have Hstep:=Z5 hstep
    clear hstep
    generalize l[k].1=cols at *
    generalize l[k].2=L at *
    have Hal2:=Z5 ((I1 wr.heap.size wr).alloc (IZ _) (.cells #[.int .i64 cols,.slice rb rm rc] 82))
    go_wp2_with fail
    have hbx:=Hal2.out
    generalize wr.alloc (.cells #[.int .i64 cols,.slice rb rm rc] 82)=W2 at *
    have hB2 : NS w1 W2:=Nh hbr hbx
    refine (B6 cols rb rm rc L (hG.aa hB2) (hM.aa hbx)).mono ?_
    rintro e w3 ⟨rfl,hb3⟩
    have hB3 : NS w1 w3:=Nh hB2 hb3
    by_cases he : eW G.q cols L=0
    ·have Hs : Hid (iG G.q l=iG G.q (l.drop (k+1))):=by show _=_;rw [hall.out,Hstep.out,I6 he]
     rw [he]
     clear he
     go_wp2_with fail
     go_roundw
     case rel=>exact ⟨k+1,by omega,by go_num,Hs.out,hB3⟩
     case measure=>simp [intOf] <;> omega
    ·have Hs : Hid (iG G.q l=eW G.q cols L):=by show _=_;rw [hall.out,Hstep.out,I5 he]
     generalize eW G.q cols L=er at *
     have he' : (er != 0)=true:=by simpa using he
     have He : Hid (er ≠ 0):=he
     clear he
     go_wp2_with fail
     go_ret2
     exact ⟨Nh hbw1 hB3,.inr (.inl ⟨HB.out,er,He.out,by rw [HT.out];exact Hs.out,rfl⟩)⟩
   ·obtain rfl : k=n:=by omega
    have Hs : Hid (iG G.q l=0):=by show _=_;rw [hall.out,Lf (by rw [Hlen.out];exact IZ _)];rfl
    go_wp2_with fail
    go_ret2
    exact ⟨hbwr,.inr (.inr ⟨HB.out,by rw [HT.out];exact Hs.out,b,rfl,by rw [HT.out];exact hG.aa hbr,hbb⟩)⟩
section
def eY (r : OA × Nat) (l : Lz) : Value:=.slice r.1 l.length r.2
def aO (R : La) (i : Nat) : OA × Nat:=R.getD i (none,0)
theorem iN {l : La} {i : Nat} (h : i<l.length) : aO l i=l[i]:=by simp [aO,h]
theorem gZ (l : La) (i j : Nat) (x : OA × Nat) (hi : i<l.length) : aO (l.set i x) j=if j=i then x else aO l j:=by
 unfold aO;simp only [Jc,Kp];by_cases h : i=j
 ·subst h;simp [hi]
 ·rw [I5 h,I5 (by omega)]
theorem fA (l : Ll) (i j : Nat) (x : Lz) (hi : i<l.length) : an (l.set i x) j=if j=i then x else an l j:=by
 unfold an;simp only [Jc,Kp];by_cases h : i=j
 ·subst h;simp [hi]
 ·rw [I5 h,I5 (by omega)]
theorem rH (n i : Nat) : an (List.replicate n []) i=[]:=by simp only [an,Jc,JX];split <;> rfl
theorem iZ (n i : Nat) : aO (List.replicate n (none,0)) i=(none,0):=by simp only [aO,Jc,JX];split <;> rfl
theorem uF (R : La) (L : Ll) (i : Nat) (r : OA × Nat) (l : Lz) :
  (List.zipWith eY R L).set i (eY r l)=List.zipWith eY (R.set i r) (L.set i l):=by
 apply L5;intro j;simp only [Kp,Lu,My];by_cases h : i=j
 ·subst h;by_cases h1 : i<R.length <;> by_cases h2 : i<L.length <;> simp [h1,h2,show ¬ (i<R.length/\i<L.length)->¬ i<min R.length L.length from by omega];exact Nat.lt_min.2 ⟨h1,h2⟩
 ·simp [h]
structure aP (w : World) (B : Nat) (a : OA) (n c : Nat) (R : La) (L : Ll) : Prop where
 rl : R.length=n
 ll : L.length=n
 own : w.ownsRow B 22 1 (.slice a n c) n (List.zipWith eY R L)
 row : ∀i,i<n->w.ownsRow B 3 1 (.slice (aO R i).1 (an L i).length (aO R i).2) (an L i).length ((an L i).map (Value.int .i64))
 sB : ∀i,i<n->cJ (aO R i).1 (aj a)
 sep : ∀i j,i<n->j<n->i ≠ j->(aO R i).1=none\/cJ (aO R j).1 (aj (aO R i).1)
def bS (a : OA) (R : La) (b : Nat) : Prop:=(a ≠ none/\b=aj a)\/∃i,i<R.length/\(aO R i).1 ≠ none/\b=aj (aO R i).1
structure aA (w w' : World) (I I' : Nat->Prop) : Prop where
 os : w'.os=w.os
 tape : w'.tape=w.tape
 output : w'.output=w.output
 size : w.heap.size<=w'.heap.size
 block : ∀b,b<w.heap.size->¬ I b->w'.heap[b]? = w.heap[b]?
 grow : ∀b,I' b->I b\/w.heap.size<=b
variable {w w' w'' : World} {B : Nat} {a : OA} {n c : Nat} {R : La} {L : Ll} {I I' I'' : Nat -> Prop}
theorem aA.refl (w : World) (I : Nat->Prop) : aA w w I I:=⟨rfl,rfl,rfl,IZ _,λ_ _ _=>rfl,λ_ h=>.inl h⟩
theorem aA.trans (h : aA w w' I I') (k : aA w' w'' I' I'') : aA w w'' I I'' := by
 refine ⟨k.os.trans h.os,k.tape.trans h.tape,k.output.trans h.output,Ji h.size k.size,λb hb hI=>?_,λb hb=>?_⟩
 ·refine (k.block b (Jv hb h.size) λh'=>?_).trans (h.block b hb hI);rcases h.grow b h' with h2 | h2
  ·exact hI h2
  ·omega
 ·rcases k.grow b hb with h2 | h2
  ·exact h.grow b h2
  ·exact .inr (Ji h.size h2)
theorem aA.aV (h : NS w w') (I : Nat->Prop) : aA w w' I I:=⟨h.os,h.tape,h.output,h.size,λb hb _=>h.block b hb,λ_ h=>.inl h⟩
theorem aA.below (h : aA w w' I I') (hI : ∀b,I b->B<=b) (hB : B<=w.heap.size) : Below B w w' :=
 ⟨h.os,h.tape,h.output,h.size,λb hb=>h.block b (Jv hb hB) λhi=>by have:=hI b hi;omega⟩
theorem aA.cell (h : aA w w' I I') {p : Addr} {v : Value} (hc : w.cell? p=some v) (hI : ¬ I p.block) : w'.cell? p=some v :=
 (JG (w:=w) (a:=p) (h.block _ (Jf w _ hc) hI)).trans hc
theorem aA.not (h : aA w w' I I') {b : Nat} (hb : b<w.heap.size) (hI : ¬ I b) : ¬ I' b:=λh'=>by
 rcases h.grow b h' with h2 | h2
 ·exact hI h2
 ·omega
theorem aA.own (h : aA w w' I I') {e : TypeId} {a : OA} {c n : Nat} {xs : List Value} (ho : w.ownsRow B e 1 (.slice a n c) n xs) (hI : a ≠ none->¬ I (aj a)) : w'.ownsRow B e 1 (.slice a n c) n xs:=by
 rcases mG ho with ⟨rfl,rfl,rfl⟩ | ⟨_,hlt⟩
 ·have hx:=iP ho;obtain rfl : xs=[]:=Jp hx;exact bX
 ·by_cases ha : a=none
  ·subst ha;refine ⟨ho.1,?_⟩;rcases ho.2 with h2 | ⟨g,cap,cur,hv,_⟩
   ·exact .inl h2
   ·cases hv
  ·exact iV ho (h.block _ hlt (hI ha))
theorem aM {w : World} {e : TypeId} {a : OA} {c n : Nat} {xs : List Value} (ho : w.ownsRow B e 1 (.slice a n c) n xs) (ha : a ≠ none) : B<=aj a/\aj a<w.heap.size:=by
 rcases mG ho with ⟨rfl,_⟩ | h
 ·exact absurd rfl ha
 ·exact h
namespace aP
theorem lt (h : aP w B a n c R L) (b : Nat) (hb : bS a R b) : B<=b/\b<w.heap.size:=by
 rcases hb with ⟨h1,rfl⟩ | ⟨i,hi,h1,rfl⟩
 ·exact aM h.own h1
 ·exact aM (h.row i (by rw [h.rl] at hi;exact hi)) h1
theorem new (h : aP w B a n c R L) {b : Nat} (hb : w.heap.size<=b) : ¬ bS a R b:=λh'=>by have:=h.lt b h';omega
theorem il (h : aP w B a n c R L) {b : Nat} (hb : b<B) : ¬ bS a R b:=λh'=>by have:=h.lt b h';omega
theorem lZ {i : Nat} (h : i<R.length) (h1 : (aO R i).1 ≠ none) : bS a R (aj (aO R i).1):=.inr ⟨i,h,h1,rfl⟩
theorem bj (h : aP w B a n c R L) (hb : ∀b,bS a R b->w'.heap[b]? = w.heap[b]?) : aP w' B a n c R L:=by
 have key : ∀ {e : TypeId} {a' : OA} {c m : Nat} {xs : List Value},w.ownsRow B e 1 (.slice a' m c) m xs->(a' ≠ none->w'.heap[aj a']? = w.heap[aj a']?)->w'.ownsRow B e 1 (.slice a' m c) m xs:=by
  intro e a' c m xs ho hk;by_cases ha : a'=none
  ·subst ha;refine ⟨ho.1,?_⟩;rcases ho.2 with h2 | ⟨g,cap,cur,hv,_⟩
   ·exact .inl h2
   ·cases hv
  ·exact iV ho (hk ha)
 exact ⟨h.rl,h.ll,key h.own λha=>hb _ (.inl ⟨ha,rfl⟩),λi hi=>key (h.row i hi) λha=>hb _ (lZ (by rw [h.rl];exact hi) ha),h.sB,h.sep⟩
theorem aa (h : aP w B a n c R L) (hb : NS w w') : aP w' B a n c R L:=h.bj λb hi=>hb.block b (h.lt b hi).2
theorem mono {B' : Nat} (h : aP w B a n c R L) (hB : B'<=B) : aP w B' a n c R L:=⟨h.rl,h.ll,aU h.own hB,λi hi=>aU (h.row i hi) hB,h.sB,h.sep⟩
theorem ints (h : aP w B a n c R L) {i : Nat} (hi : i<n) : Ints w (aO R i).1 (an L i).length (an L i):=(Ni (h.row i hi)).1
theorem cell (h : aP w B a n c R L) {i : Nat} (hi : i<n) : w.cell? ⟨aj a,aL a+i,none⟩=some (.slice (aO R i).1 (an L i).length (aO R i).2):=by
 rw [(bW h.own i hi).1,Lu,JI (show i<R.length by rw [h.rl];exact hi),JI (show i<L.length by rw [h.ll];exact hi),
  iN (by rw [h.rl];exact hi),aE (by rw [h.ll];exact hi)]
 rfl
theorem frozen (h : aP w B a n c R L) {i : Nat} (hi : i<n) : w.frozen? ⟨aj a,aL a+i,none⟩=false:=(bW h.own i hi).2.1
theorem pl (h : aP w B a n c R L) : Pl a n:=by obtain ⟨a',c',hv,hp⟩:=Nx h.own;cases hv;exact hp
theorem ne (h : aP w B a n c R L) (hn : 0<n) : a ≠ none:=by intro ha;have:=h.pl hn;rw [ha] at this;cases this
theorem max (h : aP w B a n c R L) : n<=maxLen:=by
 rcases JS n with h0 | h0
 ·subst h0;unfold maxLen;omega
 ·exact (bW h.own 0 h0).2.2.2.2
theorem l7 (h : aP w B a n c R L) : ch w a n L:=⟨h.ll,h.pl,h.max,λ_ hi=>⟨_,_,_,h.cell hi,h.ints hi⟩⟩
theorem setRow (h : aP w B a n c R L) {i : Nat} (hi : i<n) {r : OA} {rc : Nat} {l : Lz} (hr : w.ownsRow B 3 1 (.slice r l.length rc) l.length (l.map (Value.int .i64)))
  (ha : cJ r (aj a)) (hs : ∀j,j<n->j ≠ i->(aO R j).1=none\/cJ r (aj (aO R j).1)) :
  aP (w.setCell ⟨aj a,aL a+i,none⟩ (.slice r l.length rc)) B a n c (R.set i (r,rc)) (L.set i l):=by
 have hRi : i<R.length:=by rw [h.rl];exact hi
 have hLi : i<L.length:=by rw [h.ll];exact hi
 have flip : ∀ {x y : OA},(x=none\/cJ y (aj x))->(y=none\/cJ x (aj y)):=by
  intro x y hxy;rcases hxy with rfl | rfl | h2
  ·exact .inr (.inl rfl)
  ·exact .inl rfl
  ·exact .inr (.inr λe=>h2 e.symm)
 refine ⟨by simp [h.rl],by simp [h.ll],?_,λj hj=>?_,λj hj=>?_,λj k hj hk hjk=>?_⟩
 ·have:=bT h.own i hi (.slice r l.length rc);rwa [show (List.zipWith eY R L).set i (.slice r l.length rc)=_ from uF R L i (r,rc) l] at this
 ·rw [gZ _ _ _ _ hRi,fA _ _ _ _ hLi];by_cases e : j=i
  ·simp only [I6 e];exact dS hr _ ha
  ·simp only [I5 e];exact dS (h.row j hj) _ (h.sB j hj)
 ·rw [gZ _ _ _ _ hRi];by_cases e : j=i
  ·simp only [I6 e];exact ha
  ·simp only [I5 e];exact h.sB j hj
 ·rw [gZ _ _ _ _ hRi,gZ _ _ _ _ hRi];by_cases e : j=i
  ·simp only [I6 e,I5 (show ¬ k=i by omega)];exact flip (hs k hk (by omega))
  ·simp only [I5 e];by_cases e2 : k=i
   ·simp only [I6 e2];exact hs j hj e
   ·simp only [I5 e2];exact h.sep j k hj hk hjk
theorem mc (h : aP w B a n c R L) {w' : World} (hb' : NS w w') {i : Nat} (hi : i<n) {r : OA} {rc : Nat} (v : Value) (hr : r ≠ none->bS a R (aj r)\/w.heap.size<=aj r) :
  aA w (w'.setCell ⟨aj a,aL a+i,none⟩ v) (bS a R) (bS a (R.set i (r,rc))):=by
 have hRi : i<R.length:=by rw [h.rl];exact hi
 have hb0 : Below 0 w (w'.setCell ⟨aj a,aL a+i,none⟩ v):=(hb'.mono (I7 _)).setCell (I7 _) v;refine ⟨hb0.os,hb0.tape,hb0.output,hb0.size,λb hb hI=>(Jr _ _ _ _ λe=>hI (.inl ⟨h.ne (by omega),e⟩)).trans (hb'.block b hb),λb hb=>?_⟩;rcases hb with hb | ⟨j,hj,h1,rfl⟩
 ·exact .inl (.inl hb)
 ·rw [KA] at hj;rw [gZ _ _ _ _ hRi] at h1 ⊢;by_cases e : j=i
  ·simp only [I6 e] at h1 ⊢;exact hr h1
  ·simp only [I5 e] at h1 ⊢;exact .inl (.inr ⟨j,hj,h1,rfl⟩)
theorem F9 (h : aP w B a n c R L) {i : Nat} (hi : i<n) {l : Lz} (hl : l.length=(an L i).length)
  (ho : w'.ownsRow B 3 1 (.slice (aO R i).1 (an L i).length (aO R i).2) (an L i).length (l.map (Value.int .i64)))
  (hg : ∀b,b<w.heap.size->((aO R i).1=none\/b ≠ aj (aO R i).1)->w'.heap[b]? = w.heap[b]?) : aP w' B a n c R (L.set i l):=by
 have hRi : i<R.length:=by rw [h.rl];exact hi
 have hLi : i<L.length:=by rw [h.ll];exact hi
 have key : ∀ {e : TypeId} {a' : OA} {c m : Nat} {xs : List Value},w.ownsRow B e 1 (.slice a' m c) m xs->((aO R i).1=none\/a'=none\/aj a' ≠ aj (aO R i).1)->w'.ownsRow B e 1 (.slice a' m c) m xs:=by
  intro e a' c m xs ho hk;by_cases ha : a'=none
  ·subst ha;refine ⟨ho.1,?_⟩;rcases ho.2 with h2 | ⟨g,cap,cur,hv,_⟩
   ·exact .inl h2
   ·cases hv
  ·exact iV ho (hg _ (aM ho ha).2 (by rcases hk with hk | hk | hk;exact .inl hk;exact absurd hk ha;exact .inr hk))
 refine ⟨h.rl,by simp [h.ll],?_,λj hj=>?_,h.sB,h.sep⟩
 ·have e : List.zipWith eY R (L.set i l)=List.zipWith eY R L:=by
   apply L5;intro j;simp only [Lu,Kp];by_cases e : i=j
   ·subst e;simp only [hLi,if_true,JI hRi,JI hLi];rw [aE hLi] at hl;simp [eY,hl]
   ·simp [e]
  rw [e];exact key h.own (by rcases h.sB i hi with h2 | h2;exact .inl h2;exact .inr (.inr λe=>h2 e.symm))
 ·rw [fA _ _ _ _ hLi];by_cases e : j=i
  ·subst e;simp only [if_true,hl];exact ho
  ·simp only [I5 e];refine key (h.row j hj) ?_;rcases h.sep i j hi hj (by omega) with h2 | h2 | h2
   ·exact .inl h2
   ·exact .inr (.inl h2)
   ·exact .inr (.inr h2)
end aP
theorem tz {w : World} {B : Nat} {a : OA} {n c : Nat} (h : w.ownsRow B 22 1 (.slice a n c) n (List.replicate n (.slice none 0 0))) :
  aP w B a n c (List.replicate n (none,0)) (List.replicate n []):=by
 refine ⟨by simp,by simp,?_,λi hi=>?_,λi hi=>?_,λi j hi hj hij=>?_⟩
 ·simpa [eY] using h
 ·rw [rH,iZ];exact bX
 ·rw [iZ];exact .inl rfl
 ·rw [iZ];exact .inl rfl
end
section
variable {w : World} {b : Nat} {G : cW}
theorem Ints.Er {w : World} {n : Nat} {l : Lz} (h : Ints w none n l) : n=0/\l=[]:=by
 have h0 : n=0:=by
  rcases JS n with h0 | h0
  ·exact h0
  ·have:=h.pl h0;cases this
 exact ⟨h0,Jp (by rw [h.len];exact h0)⟩
theorem eG (a : OA) (n c : Nat) (l : Lz) (hi : Ints w a n l) (hn : n<=1000000) :
  Calls prog 87 #[.slice a n c] w (dh w l):=by
 have heq:=λ(w : World) (a : OA) (l c : Nat)=>Go.run_eql_slice_nil (P:=prog) w 22 3 a l c underlying22;by_cases ha : a=none
 ·subst ha;obtain ⟨rfl,rfl⟩:=hi.Er;have hin : (none : OA).isNone=true:=rfl;go_enter func87,ntmps87;go_wp2_with fail;go_ret;exact ⟨none,0,rfl,bX,I1 _ _⟩
 ·have hin : a.isNone=false:=by cases a with | none=>exact absurd rfl ha | some x=>rfl
  have hlen:=hi.len;have Hlen:=Z5 hlen;have hO:=ff w 3;have hal:=Z5 ((I1 w.heap.size w).alloc (IZ _) (.cells #[] 3));clear ha hlen;go_enter func87,ntmps87;go_upto_region 3 with fail;iterate 7 go_step
  have hbal:=hal.out;generalize w.alloc (.cells #[] 3)=W0 at *;have hiW:=hi.aa hbal;refine ee (by rfl) (.tmp 5) (.tmp 6) 22 3 (by rfl) (.int .i64 0) 8 underlying22 ba (by rfl) w.heap.size _ 0 0 [] (by rfl) hO a n c (l.map (Value.int .i64)) (by rfl) hiW.pl (by simp [Hlen.out]) (Np hiW) (ints_oneCell _ _) (by omega) (by unfold maxLen;omega) (J7 hbal) ?_;intro a3 c3 w3 hown3 hgr3 hap3;have hb3 : NS w w3:=Nk (B:=w.heap.size) (e:=3) (xs:=[]) hbal hO hgr3 (IZ _) (J7 hbal);rw [Kk] at hown3 ⊢;rw [JL] at hown3;go_wp2_with fail;go_ret;exact ⟨a3,c3,by rw [Hlen.out];rfl,by rw [Hlen.out];exact hown3,hb3⟩
def zT (w : World) (L : Ll) (e : Ending) (w' : World) : Prop :=
 ∃a c R,e = .returned (.slice a L.length c)/\aP w' w.heap.size a L.length c R L/\NS w w'
theorem di : (prog.info? 22).map (λi=>(i.zero,i.size,i.bytes))=some (some (.slice none 0 0),1,24):=by kernel_rfl
def iq (n k : Nat) (L : Ll) : Ll:=L.take k ++ List.replicate (n - k) []
theorem rV {n k : Nat} {L : Ll} (hk : k<n) (hL : L.length=n) : (iq n k L).set k (an L k)=iq n (k+1) L:=by
 unfold iq;have e1 : (L.take k).length=k:=by simp;omega
 rw [Ja (by omega),Lr (h:=by omega),e1,show n - k=(n - (k+1))+1 by omega,LH,KK,I3,JQ,aE (by omega)];rfl
theorem rL {n : Nat} {L : Ll} (hL : L.length=n) : iq n n L=L:=by simp [iq,I8 (show L.length<=n by omega)]
theorem tq (a : OA) (n c : Nat) (L : Ll) (hi : ch w a n L) (hn : n<=1000000) (hL : ∀l ∈ L,l.length<=1000000) :
  Calls prog 213 #[.slice a n c] w (zT w L):=by
 have hpl:=hi.pl;have Hlen:=Z5 hi.len;have HL:=Z5 hL;clear hL;go_enter func213,ntmps213;go_wp2_with (at_make;refine cC rfl _ _ 25 22 rfl (.slice none 0 0) 24 underlying25 di rfl n rfl rfl (by omega) (by unfold maxLen;omega) ?_;intro a1 w1 hown hbel hge hlt);have hO:=tz hown;have hO1 : ∃R,aP w1 w.heap.size a1 n n R (iq n 0 L):=⟨_,by simpa [iq] using hO⟩
 clear hO hown;go_loopw [11] (λiv wr=>∃k : Nat,k<=n/\iv = .int .i64 k/\(∃R,aP wr w.heap.size a1 n n R (iq n k L))/\NS w wr) (λiv _=>n - (intOf iv).toNat);case atStart=>exact ⟨0,I7 _,rfl,hO1,hbel⟩
 case round =>
  obtain ⟨k,hk,rfl,⟨R,hO⟩,hbr⟩:=hrel
  by_cases hlt : k<n
  ·have hiW:=hi.aa hbr
   obtain ⟨ra,rn,rc,hcell,hrow⟩:=hiW.cell k hlt
   have hkL : k<L.length:=by rw [Hlen.out];exact hlt
   have hrl : rn<=1000000:=by rw [<- hrow.len,aE hkL];exact HL.out _ (JA hkL)
   have hset:=rV hlt Hlen.out
   have Hset:=Z5 hset
   clear hset
   have hpl1:=hO.pl
   generalize an L k=l at *
   go_wp2_with fail
   refine (eG ra rn rc l hrow hrl).mono ?_
   rintro e w3 ⟨a3,c3,rfl,hown3,hb3⟩
   have hO3:=hO.aa hb3
   have hf:=hO3.frozen hlt
   have hc:=hO3.cell hlt
   have hB:=(aP.lt hO3 (aj a1) (.inl ⟨hO3.ne (by omega),rfl⟩)).1
   have hbr3:=Nh hbr hb3
   have hsz:=hbr.size
   have hnew:=aP.setRow hO3 hlt (aU hown3 hsz) (lA hown3 (aP.lt hO (aj a1) (.inl ⟨hO.ne (by omega),rfl⟩)).2) (λj hj _=>by
    by_cases hn : (aO R j).1=none
    ·exact .inl hn
    ·exact .inr (lA hown3 (aP.lt hO _ (aP.lZ (by rw [hO.rl];exact hj) hn)).2))
   rw [Hset.out] at hnew
   have Hnew:=Z5 hnew
   clear hnew
   go_wp2_with fail
   go_roundw
   case rel=>exact ⟨k+1,by omega,by go_num,⟨_,Hnew.out⟩,hbr3.setCell hB _⟩
   case measure=>simp [intOf] <;> omega
  ·obtain rfl : k=n:=by omega
   rw [rL Hlen.out] at hO
   go_wp2_with fail
   go_ret
   exact ⟨a1,k,R,by rw [Hlen.out];rfl,by rw [Hlen.out];exact hO,hbr⟩
end
structure aS where
 add : Int->Int->Int
 mul : Int->Int->Int
 neg : Int->Int
 inv : Int->Int
def bP (O : aS) (v : Lz) (s : Int) (u : Lz) : Lz:=List.zipWith (λp q=>if q=0 then p else O.add p (O.mul s q)) v u
theorem cA (O : aS) (v : Lz) (s : Int) (u : Lz) (h : u.length=v.length) : (bP O v s u).length=v.length:=by simp [bP,h]
theorem gK (O : aS) (v : Lz) (s : Int) (u : Lz) (i : Nat) (h : u.length=v.length) (hi : i<v.length) :
  nth (bP O v s u) i=if nth u i=0 then nth v i else O.add (nth v i) (O.mul s (nth u i)):=by rw [ai (show i<(bP O v s u).length by rw [cA _ _ _ _ h];exact hi),ai (show i<u.length by omega),ai hi];simp [bP]
theorem qI (new il : Lz) (j : Nat) (h : new.length=il.length) (hj : j<il.length) (e : nth new j=nth il j) : fc new il (j+1)=fc new il j:=by
 rw [<- ey new il j h hj,e];refine fQ (by simp) λi hi=>?_;have hl:=iK new il j h (by omega);rw [gP _ _ _ _ (by omega)];by_cases e2 : i=j
 ·subst e2;rw [I6 rfl,ek _ _ _ _ h (by omega),I5 (by omega)]
 ·rw [I5 e2]
def en (L : Ll) (c : Nat) : Nat->Nat->Nat
 | k,0=>k
 | k,f+1=>if nth (an L k) c=0 then en L c (k+1) f else k
def bn (L : Ll) (c k : Nat) : Nat:=en L c k (L.length - k)
theorem tN (L : Ll) (c : Nat) : ∀f k,k<=en L c k f/\en L c k f<=k+f
 | 0,k=>by simp [en]
 | f+1,k=>by have:=tN L c f (k+1);unfold en;split <;> omega
theorem jw (L : Ll) (c : Nat) : ∀f k,en L c k f<k+f->nth (an L (en L c k f)) c ≠ 0
 | 0,k,h=>by simp [en] at h
 | f+1,k,h=>by
  unfold en at h ⊢;split
  ·rename_i h0;rw [I6 h0] at h;exact jw L c f (k+1) (by omega)
  ·assumption
theorem pf (L : Ll) (c : Nat) : ∀f k i,k<=i->i<en L c k f->nth (an L i) c=0
 | 0,k,i,h1,h2=>by simp [en] at h2;omega
 | f+1,k,i,h1,h2=>by
  unfold en at h2;split at h2
  ·rename_i h0;rcases MA h1 with h3 | h3
   ·rw [<- h3];exact h0
   ·exact pf L c f (k+1) i h3 h2
  ·omega
theorem gh {L : Ll} {c k : Nat} (hk : k<L.length) : bn L c k=if nth (an L k) c=0 then bn L c (k+1) else k:=by unfold bn;rw [show L.length - k=(L.length - (k+1))+1 by omega,en]
theorem jq {L : Ll} {c k : Nat} (hk : L.length<=k) : bn L c k=k:=by unfold bn;rw [show L.length - k=0 by omega,en]
theorem my {L : Ll} {c k : Nat} (hk : k<=L.length) : k<=bn L c k/\bn L c k<=L.length:=by have:=tN L c (L.length - k) k;unfold bn;omega
def bh (L : Ll) (i j : Nat) : Ll:=(L.set i (an L j)).set j (an L i)
def bY (O : aS) (pv : Lz) (c : Nat) (r : Lz) : Lz:=if nth r c=0 then r else bP O r (O.neg (nth r c)) pv
def aR (O : aS) (t c : Nat) (L : Ll) : Nat->Ll
 | 0=>L
 | i+1=>if i=t then aR O t c L i else (aR O t c L i).set i (bY O (an (aR O t c L i) t) c (an (aR O t c L i) i))
def bm (O : aS) (L : Ll) (t c : Nat) : Ll:=if O.inv (nth (an L t) c)=1 then L else L.set t ((an L t).map (O.mul (O.inv (nth (an L t) c))))
def ed (O : aS) (L : Ll) (t k c : Nat) : Ll :=
 let L1:=if k=t then L else bh L t k
 let L2:=bm O L1 t c
 aR O t c L2 L2.length
def aD (O : aS) (L : Ll) : Nat->Ll × Lz
 | 0=>(L,[])
 | c+1 =>
  let s:=aD O L c
  if s.2.length<s.1.length then
   if bn s.1 c s.2.length=s.1.length then s
   else (ed O s.1 s.2.length (bn s.1 c s.2.length) c,s.2 ++ [(c : Int)])
  else s
theorem dJ (L : Ll) (i j : Nat) : (bh L i j).length=L.length:=by simp [bh]
theorem cY (O : aS) (t c : Nat) (L : Ll) : ∀i,(aR O t c L i).length=L.length
 | 0=>rfl
 | i+1=>by unfold aR;split <;> simp [cY O t c L i]
theorem cZ (O : aS) (L : Ll) (t c : Nat) : (bm O L t c).length=L.length:=by unfold bm;split <;> simp
theorem dZ (O : aS) (L : Ll) (t k c : Nat) : (ed O L t k c).length=L.length:=by unfold ed;simp only [cY,cZ];split <;> simp [dJ]
theorem b9 (O : aS) (L : Ll) : ∀c,(aD O L c).1.length=L.length
 | 0=>rfl
 | c+1=>by
  unfold aD;simp only;split
  ·split <;> simp [dZ,b9 O L c]
  ·exact b9 O L c
theorem jd (O : aS) (L : Ll) : ∀c,(aD O L c).2.length<=c/\(aD O L c).2.length<=L.length
 | 0=>by simp [aD]
 | c+1=>by
  have ih:=jd O L c;have hl:=b9 O L c;unfold aD;simp only;split
  ·split
   ·omega
   ·simp only [Jh,Js];omega
  ·omega
def cw (El : Int->Prop) (m : Nat) (L : Ll) : Prop:=∀r ∈ L,r.length=m/\∀x ∈ r,El x
theorem kX {L : Ll} {i : Nat} (h : L.length<=i) : an L i=[]:=by simp [an,JZ h]
theorem cw.row {El : Int->Prop} {m : Nat} {L : Ll} (h : cw El m L) {i : Nat} (hi : i<L.length) : (an L i).length=m/\∀x ∈ an L i,El x:=h _ (wF hi)
theorem cw.set {El : Int->Prop} {m : Nat} {L : Ll} (h : cw El m L) (i : Nat) {r : Lz} (hr : r.length=m/\∀x ∈ r,El x) : cw El m (L.set i r):=by
 intro x hx;rcases K0 hx with h1 | rfl
 ·exact h x h1
 ·exact hr
structure vO (O : aS) (El : Int->Prop) : Prop where
 add : ∀x y,El x->El y->El (O.add x y)
 mul : ∀x y,El x->El y->El (O.mul x y)
 neg : ∀x,El x->El (O.neg x)
 inv : ∀x,El x->x ≠ 0->El (O.inv x)
theorem ow {O : aS} {El : Int->Prop} (hO : vO O El) {v u : Lz} {s : Int} (hv : ∀x ∈ v,El x) (hu : ∀x ∈ u,El x) (hs : El s) : ∀x ∈ bP O v s u,El x:=by
 intro x hx;unfold bP at hx;rw [LB] at hx;obtain ⟨i,hi,rfl⟩:=hx;rw [LC];simp only [My] at hi;split
 ·exact hv _ (JA _)
 ·exact hO.add _ _ (hv _ (JA _)) (hO.mul _ _ hs (hu _ (JA _)))
theorem cw.swap {El : Int->Prop} {m : Nat} {L : Ll} (h : cw El m L) {i j : Nat} (hi : i<L.length) (hj : j<L.length) : cw El m (bh L i j) :=
 (h.set i (h.row hj)).set j (h.row hi)
theorem cw.bY {O : aS} {El : Int->Prop} {m : Nat} (hO : vO O El) {r pv : Lz} {c : Nat} (hc : c<m) (hr : r.length=m/\∀x ∈ r,El x) (hp : pv.length=m/\∀x ∈ pv,El x) :
  (bY O pv c r).length=m/\∀x ∈ bY O pv c r,El x:=by
 unfold Proofs.YtcfmiocdlcapoaaGreat.bY;split
 ·exact hr
 ·exact ⟨by rw [cA _ _ _ _ (by omega)];exact hr.1,ow hO hr.2 hp.2 (hO.neg _ (hr.2 _ (aK (by omega))))⟩
theorem cw.clear {O : aS} {El : Int->Prop} {m : Nat} {L : Ll} (hO : vO O El) (h : cw El m L) {t c : Nat} (ht : t<L.length) (hc : c<m) : ∀i,i<=L.length->cw El m (aR O t c L i)
 | 0,_=>h
 | i+1,hi=>by
  have ih:=cw.clear hO h ht hc i (by omega);unfold aR;split
  ·exact ih
  ·exact ih.set i (cw.bY hO hc (ih.row (by rw [cY];omega)) (ih.row (by rw [cY];omega)))
theorem cw.norm {O : aS} {El : Int->Prop} {m : Nat} {L : Ll} (hO : vO O El) (h : cw El m L) {t c : Nat} (ht : t<L.length) (hc : c<m) (h0 : nth (an L t) c ≠ 0) : cw El m (bm O L t c):=by
 unfold bm;split
 ·exact h
 ·refine h.set t ⟨by rw [Jl];exact (h.row ht).1,λx hx=>?_⟩;obtain ⟨y,hy,rfl⟩:=List.mem_map.1 hx;exact hO.mul _ _ (hO.inv _ ((h.row ht).2 _ (aK (by rw [(h.row ht).1];exact hc))) h0) ((h.row ht).2 y hy)
theorem fu {O : aS} {L : Ll} {k : Nat} (h : (aD O L k).2.length=L.length) : ∀d,aD O L (k+d)=aD O L k
 | 0=>rfl
 | d+1=>by have ih:=fu h d;show aD O L ((k+d)+1)=_;rw [aD];simp only [ih];rw [I5 (by rw [b9];omega)]
theorem du {O : aS} {L Lk : Ll} {P : Lz} {k : Nat} (h : (Lk,P)=aD O L k) (hlt : P.length<Lk.length) :
  aD O L (k+1)=if bn Lk k P.length=Lk.length then (Lk,P) else (ed O Lk P.length (bn Lk k P.length) k,P ++ [(k : Int)]):=by rw [aD];simp only [<- h];rw [I6 hlt]
theorem gN (O : aS) (L : Ll) (t k c : Nat) : ed O L t k c=aR O t c (bm O (if k=t then L else bh L t k) t c) L.length:=by unfold ed;simp only [cZ];split <;> simp [dJ]
section
def bf (w w' : World) : Prop:=∃n,w'=w.drewN n
theorem bf.refl (w : World) : bf w w:=⟨0,rfl⟩
theorem bf.drewN {w w' : World} (h : bf w w') (n : Nat) : bf w (w'.drewN n):=by obtain ⟨m,rfl⟩:=h;exact ⟨m+n,by rw [World.drewN_drewN]⟩
theorem bf.drew {w w' : World} (h : bf w w') : bf w w'.drew:=h.drewN 1
theorem bf.below {w w' : World} (h : bf w w') : NS w w':=by obtain ⟨m,rfl⟩:=h;exact below_drewN (I1 _ _) m
theorem bf.cell {w w' : World} (h : bf w w') {p : Addr} {v : Value} (hc : w.cell? p=some v) : w'.cell? p=some v:=by obtain ⟨m,rfl⟩:=h;exact hc
theorem bf.frozen {w w' : World} (h : bf w w') {p : Addr} {v : Bool} (hc : w.frozen? p=v) : w'.frozen? p=v:=by obtain ⟨m,rfl⟩:=h;exact hc
theorem bf.ue {w0 w w' : World} {B : Nat} (h : bf w w') (hb : Below B w0 w) : Below B w0 w':=by obtain ⟨m,rfl⟩:=h;exact below_drewN hb m
def cW.ops (G : cW) : aS:=⟨G.add,G.mul,G.neg,G.inv⟩
theorem cW.cl {w : World} {b : Nat} {G : cW} (h : dT w b G) : vO G.ops G.El:=⟨λx y _ _=>cW.GJ h x y,λx y _ _=>NJ h x y,λx _=>cW.ux h x,λx _ _=>NP h x⟩
def cP (a : OA) (w w' : World) : Prop:=aA w w' (λb=>a ≠ none/\b=aj a) (λb=>a ≠ none/\b=aj a)
theorem cP.refl (a : OA) (w : World) : cP a w w:=aA.refl _ _
theorem cP.trans {a : OA} {w w' w'' : World} (h : cP a w w') (k : cP a w' w'') : cP a w w'' := aA.trans h k
theorem cP.drawn {a : OA} {w w' : World} (h : bf w w') : cP a w w':=aA.aV h.below _
theorem cP.set {a : OA} (w : World) (i : Nat) (v : Value) (ha : a ≠ none) : cP a w (w.setCell ⟨aj a,aL a+i,none⟩ v):=by have hb0 : Below 0 w (w.setCell ⟨aj a,aL a+i,none⟩ v):=(I1 0 w).setCell (I7 _) v;exact ⟨hb0.os,hb0.tape,hb0.output,hb0.size,λb hb hI=>Jr _ _ _ _ λe=>hI ⟨ha,e⟩,λb hb=>.inl hb⟩
theorem cP.ints {a : OA} {w w' : World} (h : cP a w w') {u : OA} {n : Nat} {l : Lz} (hi : Ints w u n l) (hu : a=none\/u=none\/aj u ≠ aj a) : Ints w' u n l:=by
 refine hi.of_block λhn=>h.block _ (hi.lt hn) ?_;rintro ⟨h1,h2⟩;rcases hu with hu | hu | hu
 ·exact h1 hu
 ·have:=hi.pl hn;rw [hu] at this;cases this
 ·exact hu h2
theorem cP.below {a : OA} {w w' : World} {B : Nat} (h : cP a w w') (ha : a ≠ none->B<=aj a) (hB : B<=w.heap.size) : Below B w w':=aA.below h (λ_ hb=>by rw [hb.2];exact ha hb.1) hB
variable {w : World} {b : Nat} {G : cW}
theorem AB (w0 : World) (av : OA) (cv n : Nat) (v : Lz) (s : Int) (au : OA) (cu : Nat) (u : Lz) (h : dT w0 b G) (hb : NS w0 w)
  (hv : w.ownsRow w0.heap.size 3 1 (.slice av n cv) n (v.map (Value.int .i64))) (hu : Ints w au n u) (hap : av=none\/au=none\/aj au ≠ aj av)
  (hve : ∀x ∈ v,G.El x) (hue : ∀x ∈ u,G.El x) (hs : G.El s) :
  Calls prog 207 #[.pointer (some ⟨b,0,none⟩),.slice av n cv,.int .i64 s,.slice au n cu] w
   λe w'=>e = .returned (.tuple #[])/\w'.ownsRow w0.heap.size 3 1 (.slice av n cv) n ((bP G.ops v s u).map (Value.int .i64))/\cP av w w':=by
 have hul:=hu.len;have hvl : v.length=n:=by simpa using iP hv
 have hmax:=hu.max;unfold maxLen at hmax;have hpu:=hu.pl;have hpv:=(Ni hv).1.pl;have hav : 0<n->av ≠ none:=λhn e=>by have:=hpv hn;rw [e] at this;cases this
 have hll : (bP G.ops v s u).length=v.length:=cA _ _ _ _ (by omega);have hnth:=λi=>gK G.ops v s u i (by omega);have Hnth:=Z5 hnth;have Hul:=Z5 hul;have Hvl:=Z5 hvl;have Hll:=Z5 hll;have Hav:=Z5 hav;have Hve:=Z5 hve;have Hue:=Z5 hue;clear hnth hul hvl hll hav hve hue;generalize bP G.ops v s u=N at *;go_enter func207,ntmps207;go_wp2_with fail;go_loopw [12] (λiv wr=>∃k : Nat,k<=n/\iv = .int .i64 k/\wr.ownsRow w0.heap.size 3 1 (.slice av n cv) n ((fc N v k).map (Value.int .i64))/\cP av w wr) (λiv _=>n - (intOf iv).toNat);case atStart=>exact ⟨0,I7 _,rfl,by rw [eQ];exact hv,cP.refl _ _⟩
 case round =>
  obtain ⟨k,hk,rfl,hown,honly⟩:=hrel
  by_cases hlt : k<n
  ·have hiu:=honly.ints hu hap
   have cu1:=hiu.cell k hlt
   have hkN : N.length=v.length:=Hll.out
   have hkv : k<v.length:=by rw [Hvl.out];exact hlt
   have hval:=Hnth.out k hkv
   have hmix:=ek N v k k hkN (by omega)
   rw [I5 (by omega)] at hmix
   by_cases hz : nth u k=0
   ·rw [I6 hz] at hval
    have hsame:=qI N v k hkN hkv hval
    have Hsame:=Z5 hsame
    clear hval hmix hsame hkN hkv
    go_wp2_with fail
    go_roundw
    case rel=>exact ⟨k+1,by omega,by go_num,by rw [Hsame.out];exact hown,honly⟩
    case measure=>simp [intOf] <;> omega
   ·rw [I5 hz] at hval
    have hset:=ey N v k hkN hkv
    obtain ⟨hiv,hmv⟩:=Ni hown
    have cv1:=hiv.cell k hlt
    have fv1:=(hmv (by omega)).2 k hlt
    rw [hmix] at cv1
    have elv : G.El (nth v k):=Hve.out _ (aK hkv)
    have elu : G.El (nth u k):=Hue.out _ (aK (by rw [Hul.out];exact hlt))
    have hGr : dT wr b G:=h.aa (Ju hb (honly.below (λha=>(aM hv ha).1) hb.size))
    have Hval:=Z5 hval
    have Hset:=Z5 hset
    have hS : ∀W,bf wr W->W.cell? ⟨aj av,aL av+k,none⟩=some (.int .i64 (nth v k))/\W.frozen? ⟨aj av,aL av+k,none⟩=false/\dT W b G/\bf wr W :=
     λW hW=>⟨hW.cell cv1,hW.frozen fv1,hGr.aa hW.below,hW⟩
    have HS:=Z5 hS
    have elm : ∀x y,G.El (G.mul x y):=λx y=>NJ h x y
    have hz' : (nth u k != 0)=true:=by simpa using hz
    clear hval hmix hset hkN hkv hS hz
    go_wp2_with fail
    have HG : Hid (dT wr.drew b G/\∀n,dT (wr.drewN n) b G):=⟨hGr.aa (I1 _ _).drew,λn=>hGr.drewN n⟩
    go_region_law ((first
     | (go_simp;go_at_call 153;((with_reducible refine (n9 s (nth u k) HG.out.1 hs elu).mono ?_);rintro e w4 ⟨m4,rfl,rfl⟩))
     | (go_simp;go_at_call 153;((with_reducible refine (n9 s (nth u k) (HG.out.2 _) hs elu).mono ?_);rintro e w4 ⟨m4,rfl,rfl⟩))
     | (go_simp;go_at_call 152;((with_reducible refine (Il (nth v k) (G.mul s (nth u k)) (HG.out.2 _) elv (elm _ _)).mono ?_);rintro e w4 ⟨m5,rfl,rfl⟩))))
    all_goals (
     go_wp2_with fail
     go_roundw
     case rel =>
      have hdr : bf wr (wr.drewN (1+m4+m5)):=⟨_,rfl⟩
      refine ⟨k+1,by omega,by go_num,?_,honly.trans ((cP.drawn hdr).trans (cP.set _ k _ (Hav.out (by omega))))⟩
      have h1:=bT (w:=wr.drewN (1+m4+m5)) hown k hlt (.int .i64 (nth N k))
      rw [<- Jq,Hset.out,Hval.out] at h1
      exact h1
     case measure=>simp [intOf] <;> omega)
  ·obtain rfl : k=n:=by omega
   rw [fD N v k (by rw [Hll.out,Hvl.out]) Hvl.out] at hown
   go_wp2_with fail
   go_end0
   exact ⟨rfl,hown,honly⟩
end
section
variable {w : World} {b : Nat} {G : cW}
def qA (R : La) (i j : Nat) : La:=(R.set i (aO R j)).set j (aO R i)
theorem mP (R : La) (i j : Nat) : (qA R i j).length=R.length:=by simp [qA]
def kA (t k i : Nat) : Nat:=if i=k then t else if i=t then k else i
theorem jK (R : La) (t k i : Nat) (ht : t<R.length) (hk : k<R.length) : aO (qA R t k) i=aO R (kA t k i):=by
 unfold qA kA;rw [gZ _ _ _ _ (by simpa using hk),gZ _ _ _ _ ht];split
 ·rfl
 ·split <;> rfl
theorem nU (L : Ll) (t k i : Nat) (ht : t<L.length) (hk : k<L.length) : an (bh L t k) i=an L (kA t k i):=by
 unfold bh kA;rw [fA _ _ _ _ (by simpa using hk),fA _ _ _ _ ht];split
 ·rfl
 ·split <;> rfl
theorem kK {t k i n : Nat} (ht : t<n) (hk : k<n) (hi : i<n) : kA t k i<n:=by unfold kA;split <;> (try split) <;> assumption
theorem DX {t k i j : Nat} (h : i ≠ j) : kA t k i ≠ kA t k j:=by unfold kA;split <;> split <;> (try split) <;> (try split) <;> omega
theorem aP.swap {B : Nat} {a : OA} {n c : Nat} {R : La} {L : Ll} (h : aP w B a n c R L) {t k : Nat} (ht : t<n) (hk : k<n) :
  aP ((w.setCell ⟨aj a,aL a+t,none⟩ (.slice (aO R k).1 (an L k).length (aO R k).2)).setCell ⟨aj a,aL a+k,none⟩ (.slice (aO R t).1 (an L t).length (aO R t).2)) B a n c (qA R t k) (bh L t k):=by
 have hRt : t<R.length:=by rw [h.rl];exact ht
 have hRk : k<R.length:=by rw [h.rl];exact hk
 have hLt : t<L.length:=by rw [h.ll];exact ht
 have hLk : k<L.length:=by rw [h.ll];exact hk
 refine ⟨by rw [mP];exact h.rl,by rw [dJ];exact h.ll,?_,λi hi=>?_,λi hi=>?_,λi j hi hj hij=>?_⟩
 ·have h1:=bT (bT h.own t ht (.slice (aO R k).1 (an L k).length (aO R k).2)) k hk (.slice (aO R t).1 (an L t).length (aO R t).2);rw [show (List.zipWith eY R L).set t (.slice (aO R k).1 (an L k).length (aO R k).2)=_ from uF R L t (aO R k) (an L k)] at h1;rw [show (List.zipWith eY (R.set t (aO R k)) (L.set t (an L k))).set k (.slice (aO R t).1 (an L t).length (aO R t).2)=_ from uF _ _ k (aO R t) (an L t)] at h1;exact h1
 ·rw [jK _ _ _ _ hRt hRk,nU _ _ _ _ hLt hLk];have hf:=kK ht hk hi;exact dS (p:=⟨aj a,aL a+k,none⟩) (dS (p:=⟨aj a,aL a+t,none⟩) (h.row _ hf) _ (h.sB _ hf)) _ (h.sB _ hf)
 ·rw [jK _ _ _ _ hRt hRk];exact h.sB _ (kK ht hk hi)
 ·rw [jK _ _ _ _ hRt hRk,jK _ _ _ _ hRt hRk];exact h.sep _ _ (kK ht hk hi) (kK ht hk hj) (DX hij)
theorem bS.swap {a : OA} {R : La} {t k b : Nat} (ht : t<R.length) (hk : k<R.length) (h : bS a (qA R t k) b) : bS a R b:=by
 rcases h with h | ⟨i,hi,h1,rfl⟩
 ·exact .inl h
 ·rw [mP] at hi;rw [jK _ _ _ _ ht hk] at h1 ⊢;exact aP.lZ (kK ht hk hi) h1
theorem aP.pY {B : Nat} {a : OA} {n c : Nat} {R : La} {L : Ll} (h : aP w B a n c R L) {t k : Nat} (ht : t<n) (hk : k<n) (u v : Value) :
  aA w ((w.setCell ⟨aj a,aL a+t,none⟩ u).setCell ⟨aj a,aL a+k,none⟩ v) (bS a R) (bS a (qA R t k)):=by have hb0 : Below 0 w ((w.setCell ⟨aj a,aL a+t,none⟩ u).setCell ⟨aj a,aL a+k,none⟩ v):=((I1 0 w).setCell (I7 _) u).setCell (I7 _) v;have hne:=h.ne (by omega);refine ⟨hb0.os,hb0.tape,hb0.output,hb0.size,λb hb hI=>?_,λb hb=>.inl (bS.swap (by rw [h.rl];exact ht) (by rw [h.rl];exact hk) hb)⟩;rw [Jr _ _ _ _ λe=>hI (.inl ⟨hne,e⟩),Jr _ _ _ _ λe=>hI (.inl ⟨hne,e⟩)]
theorem aP.drew {B : Nat} {a : OA} {n c : Nat} {R : La} {L : Ll} (h : aP w B a n c R L) : aP w.drew B a n c R L:=h.aa (I1 _ _).drew
theorem aA.drew {w w' : World} {I I' : Nat->Prop} (h : aA w w' I I') : aA w w'.drew I I':=⟨h.os,h.tape,h.output,h.size,h.block,h.grow⟩
theorem qT (B : Nat) (a : OA) (n c : Nat) (R : La) (L : Ll) (pk pt k t : Nat) (hO : aP w B a n c R L)
  (hk : w.cell? ⟨pk,0,none⟩=some (.int .i64 k)) (ht : w.cell? ⟨pt,0,none⟩=some (.int .i64 t)) (hkn : k<n) (htn : t<n) (hkt : k ≠ t) (nk : ¬ bS a R pk) (nt : ¬ bS a R pt) :
  Calls prog 250 #[.slice a n c,.pointer (some ⟨pk,0,none⟩),.pointer (some ⟨pt,0,none⟩)] w
   λe w'=>e = .returned (.tuple #[])/\∃R',aP w' B a n c R' (bh L t k)/\aA w w' (bS a R) (bS a R'):=by
 have hpl:=hO.pl;have ck:=hO.cell hkn;have ct:=hO.cell htn;have fk:=hO.frozen hkn;have ft:=hO.frozen htn;have hane : a ≠ none:=hO.ne (by omega);have npk : pk ≠ aj a:=λe=>nk (.inl ⟨hane,e⟩);have npt : pt ≠ aj a:=λe=>nt (.inl ⟨hane,e⟩);have k1 : (w.setCell ⟨aj a,aL a+t,none⟩ (.slice (aO R k).1 (an L k).length (aO R k).2)).cell? ⟨pk,0,none⟩=some (.int .i64 k):=by rw [Jw _ _ _ _ (by simp [npk])];exact hk
 have k2 : (w.setCell ⟨aj a,aL a+t,none⟩ (.slice (aO R k).1 (an L k).length (aO R k).2)).cell? ⟨pt,0,none⟩=some (.int .i64 t):=by rw [Jw _ _ _ _ (by simp [npt])];exact ht
 have k3 : (w.setCell ⟨aj a,aL a+t,none⟩ (.slice (aO R k).1 (an L k).length (aO R k).2)).cell? ⟨aj a,aL a+k,none⟩=some (.slice (aO R k).1 (an L k).length (aO R k).2):=by rw [Jw _ _ _ _ (by simp <;> omega)];exact ck
 go_enter func250,ntmps250;go_wp2_with fail;go_region;have hO2:=(hO.swap htn hkn).drew;have hM2:=(hO.pY htn hkn (.slice (aO R k).1 (an L k).length (aO R k).2) (.slice (aO R t).1 (an L t).length (aO R t).2)).drew;go_wp2_with fail;go_end0;exact ⟨rfl,_,hO2,hM2⟩
theorem oz (w0 : World) (a : OA) (n c : Nat) (R : La) (L : Ll) (pg ps pt : Nat) (s : Int) (t : Nat) (hO : aP w w0.heap.size a n c R L)
  (h : dT w0 b G) (hb : NS w0 w)
  (hg : w.cell? ⟨pg,0,none⟩=some (.pointer (some ⟨b,0,none⟩))) (hs : w.cell? ⟨ps,0,none⟩=some (.int .i64 s)) (ht : w.cell? ⟨pt,0,none⟩=some (.int .i64 t)) (htn : t<n) (hse : G.El s)
  (hel : G.Bz (an L t)) (hln : (an L t).length<=1000000) :
  Calls prog 251 #[.slice a n c,.pointer (some ⟨pg,0,none⟩),.pointer (some ⟨ps,0,none⟩),.pointer (some ⟨pt,0,none⟩)] w
   λe w'=>e = .returned (.tuple #[])/\∃R',aP w' w0.heap.size a n c R' (L.set t ((an L t).map (G.mul s)))/\aA w w' (bS a R) (bS a R'):=by
 have hpl:=hO.pl;have ct:=hO.cell htn;have ft:=hO.frozen htn;have hi:=hO.ints htn;have hG:=h.aa hb;have hS : ∀W,NS w W->W.cell? ⟨pg,0,none⟩=some (.pointer (some ⟨b,0,none⟩))/\W.cell? ⟨ps,0,none⟩=some (.int .i64 s)/\W.cell? ⟨pt,0,none⟩=some (.int .i64 t) /\
   W.cell? ⟨aj a,aL a+t,none⟩=some (.slice (aO R t).1 (an L t).length (aO R t).2)/\W.frozen? ⟨aj a,aL a+t,none⟩=false/\NS w W :=
  λW hW=>⟨aB hW hg,aB hW hs,aB hW ht,aB hW ct,(hO.aa hW).frozen htn,hW⟩
 have HS:=Z5 hS;clear hS;have hF : ∀w4 a4 c4,w4.ownsRow w.drew.heap.size 3 1 (.slice a4 ((an L t).map (G.mul s)).length c4) ((an L t).map (G.mul s)).length (((an L t).map (G.mul s)).map (Value.int .i64))->Below w.drew.heap.size w.drew w4 ->
   ∃R',aP (w4.setCell ⟨aj a,aL a+t,none⟩ (.slice a4 (an L t).length c4)) w0.heap.size a n c R' (L.set t ((an L t).map (G.mul s)))/\aA w (w4.setCell ⟨aj a,aL a+t,none⟩ (.slice a4 (an L t).length c4)) (bS a R) (bS a R'):=by
  intro w4 a4 c4 hown4 hb4;have hb5 : NS w w4:=Nh (I1 _ _).drew hb4;have hO4:=hO.aa hb5;have hsz : w.drew.heap.size=w.heap.size:=rfl;rw [hsz] at hown4;have hnew : ∀b,b<w.heap.size->cJ a4 b:=λb hb=>lA hown4 hb;have h1:=hO4.setRow htn (aU hown4 hb.size) (hnew _ (hO.lt _ (.inl ⟨hO.ne (by omega),rfl⟩)).2) (λj hj _=>by
   by_cases hn : (aO R j).1=none
   ·exact .inl hn
   ·exact .inr (hnew _ (hO.lt _ (aP.lZ (by rw [hO.rl];exact hj) hn)).2))
  have h2:=hO.mc hb5 htn (r:=a4) (rc:=c4) (.slice a4 ((an L t).map (G.mul s)).length c4) (λha=>.inr (aM hown4 ha).1);rw [Jl] at h1 h2;exact ⟨_,h1,h2⟩
 have HF:=Z5 hF;clear hF;go_enter func251,ntmps251;go_wp2_with fail;go_region_law ((first
  | (go_simp;go_at_call 194;((with_reducible refine (uE s _ _ _ _ (hG.aa (I1 _ _).drew) hse (hi.aa (I1 _ _).drew) hel hln).mono ?_);rintro e w4 ⟨a4,c4,rfl,hown4,hb4⟩;obtain ⟨q0,q1,q2,q3,q4,q5⟩:=HS.out w4 (Nh (I1 _ _).drew hb4)))))
 all_goals (
  go_wp2_with fail
  go_end0
  exact ⟨rfl,HF.out _ _ _ hown4 hb4⟩)
end
section
variable {w : World} {b : Nat} {G : cW}
theorem cP.bQ {a av : OA} {R : La} {w w' : World} (h : cP av w w') (hin : av ≠ none->bS a R (aj av)) : aA w w' (bS a R) (bS a R) :=
 ⟨h.os,h.tape,h.output,h.size,λb hb hI=>h.block b hb (λ⟨h1,h2⟩=>hI (by rw [h2];exact hin h1)),λ_ h=>.inl h⟩
theorem oq (w0 : World) (a : OA) (n c : Nat) (R : La) (L : Ll) (pg pi px pt m : Nat) (i : Nat) (x : Int) (t : Nat) (hO : aP w w0.heap.size a n c R L)
  (h : dT w0 b G) (hb : NS w0 w)
  (hg : w.cell? ⟨pg,0,none⟩=some (.pointer (some ⟨b,0,none⟩))) (hi : w.cell? ⟨pi,0,none⟩=some (.int .i64 i)) (hx : w.cell? ⟨px,0,none⟩=some (.int .i64 x)) (ht : w.cell? ⟨pt,0,none⟩=some (.int .i64 t))
  (hin : i<n) (htn : t<n) (hit : i ≠ t) (hxe : G.El x) (ng : ¬ bS a R pg) (ni : ¬ bS a R pi) (nx : ¬ bS a R px) (nt : ¬ bS a R pt) (hei : G.Bz (an L i)) (het : G.Bz (an L t)) (hli : (an L i).length=m) (hlt : (an L t).length=m) :
  Calls prog 252 #[.slice a n c,.pointer (some ⟨pg,0,none⟩),.pointer (some ⟨pi,0,none⟩),.pointer (some ⟨px,0,none⟩),.pointer (some ⟨pt,0,none⟩)] w
   λe w'=>e = .returned (.tuple #[])/\aP w' w0.heap.size a n c R (L.set i (bP G.ops (an L i) (G.neg x) (an L t)))/\aA w w' (bS a R) (bS a R):=by
 have hpl:=hO.pl;have ct:=hO.cell htn;have ci:=hO.cell hin;have ri:=hO.row i hin;have rt:=hO.ints htn;have hsep:=hO.sep i t hin htn hit;have hne : G.El (G.neg x):=cW.ux h x;rw [hlt] at ct rt;rw [hli] at ci ri;have hap : (aO R i).1=none\/(aO R t).1=none\/aj (aO R t).1 ≠ aj (aO R i).1:=hsep;have hadd : ∀k,Calls prog 207 #[.pointer (some ⟨b,0,none⟩),.slice (aO R i).1 m (aO R i).2,.int .i64 (G.neg x),.slice (aO R t).1 m (aO R t).2] (w.drewN k)
   λe w'=>e = .returned (.tuple #[])/\(w'.cell? ⟨pg,0,none⟩=some (.pointer (some ⟨b,0,none⟩))/\w'.cell? ⟨pi,0,none⟩=some (.int .i64 i)/\w'.cell? ⟨px,0,none⟩=some (.int .i64 x)/\w'.cell? ⟨pt,0,none⟩=some (.int .i64 t) /\
    w'.cell? ⟨aj a,aL a+t,none⟩=some (.slice (aO R t).1 m (aO R t).2)/\w'.cell? ⟨aj a,aL a+i,none⟩=some (.slice (aO R i).1 m (aO R i).2))/\(aP w' w0.heap.size a n c R (L.set i (bP G.ops (an L i) (G.neg x) (an L t)))/\aA w w' (bS a R) (bS a R)):=by
  intro k;have hd : bf w (w.drewN k):=⟨k,rfl⟩
  refine (AB w0 _ _ m (an L i) (G.neg x) _ _ (an L t) h (hd.ue hb) (aX ri hd.below) (rt.aa hd.below) hap hei het hne).mono ?_;rintro e w' ⟨rfl,hown,honly⟩;have hmv : aA w w' (bS a R) (bS a R):=(aA.aV hd.below _).trans (honly.bQ (λhn=>aP.lZ (by rw [hO.rl];exact hin) hn));have hne2 : ¬ ((aO R i).1 ≠ none/\aj a=aj (aO R i).1):=by
   rintro ⟨h1,h2⟩;rcases hO.sB i hin with h3 | h3
   ·exact h1 h3
   ·exact h3 h2.symm
  refine ⟨rfl,⟨hmv.cell hg ng,hmv.cell hi ni,hmv.cell hx nx,hmv.cell ht nt,aA.cell (aA.trans (aA.aV hd.below _) honly) ct hne2,aA.cell (aA.trans (aA.aV hd.below _) honly) ci hne2⟩,?_,hmv⟩;have hOr:=hO.aa hd.below;have hl : (bP G.ops (an L i) (G.neg x) (an L t)).length=(an L i).length:=cA _ _ _ _ (by rw [hli,hlt]);refine hOr.F9 hin hl (by rw [hli];exact hown) λb hb hne=>honly.block b hb λ⟨h1,h2⟩=>?_;rcases hne with h3 | h3
  ·exact h1 h3
  ·exact h3 h2
 have Hadd:=Z5 hadd;have hG:=h.aa hb;have HG : Hid (dT w.drew b G/\∀n,dT (w.drewN n) b G):=⟨hG.aa (I1 _ _).drew,λn=>hG.drewN n⟩
 clear hadd hsep hap hli hlt;generalize L.set i (bP G.ops (an L i) (G.neg x) (an L t))=L' at *;go_enter func252,ntmps252;go_wp2_with fail;go_region_held3 (fun w' => w'.cell? ⟨pg, 0, none⟩ = some (.pointer (some ⟨b, 0, none⟩)) ∧ w'.cell? ⟨pi, 0, none⟩ = some (.int .i64 i) ∧ w'.cell? ⟨px, 0, none⟩ = some (.int .i64 x) ∧ w'.cell? ⟨pt, 0, none⟩ = some (.int .i64 t) ∧
       w'.cell? ⟨aj a,aL a+t,none⟩=some (.slice (aO R t).1 m (aO R t).2)/\w'.cell? ⟨aj a,aL a+i,none⟩=some (.slice (aO R i).1 m (aO R i).2))
  (first | assumption | exact ⟨hg,hi,hx,ht,ct,ci⟩)
  (first
  | (go_at_call 88;((with_reducible refine (Gj x HG.out.1 hxe).mono ?_);rintro e w4 ⟨m4,rfl,rfl⟩))
  | (go_at_call 207;((with_reducible refine (Hadd.out _).mono ?_);rintro e w5 ⟨rfl,hS5,hO5,hM5⟩)))
 go_wp2_with fail;go_end0;exact ⟨rfl,hO5,hM5⟩
end
section
variable {w : World}
theorem BJ (c0 c1 : Value) (p q : Nat) (a : OA) (n c : Nat) (X : World->Prop) (h1 : w.cell? ⟨p,0,none⟩=some (.slice a n c))
  (hf : Calls prog 250 #[.slice a n c,c0,c1] w λe w'=>e = .returned (.tuple #[])/\w'.cell? ⟨q,0,none⟩=some (.slice none 0 0)/\X w') :
  Calls prog 249 #[.func (.func 250) #[] #[c0,c1],.pointer (some ⟨p,0,none⟩),.pointer (some ⟨q,0,none⟩)] w
   λe w'=>e = .returned (.tuple #[])/\X w':=by have Hf:=Z5 hf;clear hf;go_enter func249,ntmps249;go_wp2_with fail;refine Hf.out.mono ?_;rintro e w' ⟨rfl,hq,hX⟩;go_wp2_with fail;go_end0;exact ⟨rfl,hX⟩
theorem BY (c0 c1 c2 : Value) (p q : Nat) (a : OA) (n c : Nat) (X : World->Prop) (h1 : w.cell? ⟨p,0,none⟩=some (.slice a n c))
  (hf : Calls prog 251 #[.slice a n c,c0,c1,c2] w λe w'=>e = .returned (.tuple #[])/\w'.cell? ⟨q,0,none⟩=some (.slice none 0 0)/\X w') :
  Calls prog 249 #[.func (.func 251) #[] #[c0,c1,c2],.pointer (some ⟨p,0,none⟩),.pointer (some ⟨q,0,none⟩)] w
   λe w'=>e = .returned (.tuple #[])/\X w':=by have Hf:=Z5 hf;clear hf;go_enter func249,ntmps249;go_wp2_with fail;refine Hf.out.mono ?_;rintro e w' ⟨rfl,hq,hX⟩;go_wp2_with fail;go_end0;exact ⟨rfl,hX⟩
theorem Cy (c0 c1 c2 c3 : Value) (p q : Nat) (a : OA) (n c : Nat) (X : World->Prop) (h1 : w.cell? ⟨p,0,none⟩=some (.slice a n c))
  (hf : Calls prog 252 #[.slice a n c,c0,c1,c2,c3] w λe w'=>e = .returned (.tuple #[])/\w'.cell? ⟨q,0,none⟩=some (.slice none 0 0)/\X w') :
  Calls prog 249 #[.func (.func 252) #[] #[c0,c1,c2,c3],.pointer (some ⟨p,0,none⟩),.pointer (some ⟨q,0,none⟩)] w
   λe w'=>e = .returned (.tuple #[])/\X w':=by have Hf:=Z5 hf;clear hf;go_enter func249,ntmps249;go_wp2_with fail;refine Hf.out.mono ?_;rintro e w' ⟨rfl,hq,hX⟩;go_wp2_with fail;go_end0;exact ⟨rfl,hX⟩
end
theorem n7 (w : World) (cs : Array Value) (e : TypeId) {g : Nat} (hg : g=w.heap.size) (i : Nat) : (w.alloc (.cells cs e)).frozen? ⟨g,i,none⟩=false:=by subst hg;simp
theorem jn {w w' : World} (hb : NS w w') {g i : Nat} (hg : g<w.heap.size) {v : Bool} (h : w.frozen? ⟨g,i,none⟩=v) : w'.frozen? ⟨g,i,none⟩=v:=(hb.frozen (p:=⟨g,i,none⟩) hg).trans h
theorem ef {w : World} {g i : Nat} {v : Bool} (hg : g<w.heap.size) (h : w.frozen? ⟨g,i,none⟩=v) (o : Obj) : (w.alloc o).frozen? ⟨g,i,none⟩=v:=jn ((I1 _ _).alloc (IZ _) o) hg h
def aZ (w : World) (b : Nat) (cs : List Value) : Prop:=b<w.heap.size/\(∀i v,cs[i]? = some v->w.cell? ⟨b,i,none⟩=some v)/\∀i,w.frozen? ⟨b,i,none⟩=false
theorem aZ.new (w : World) (cs : List Value) (e : TypeId) {g : Nat} (hg : g=w.heap.size) : aZ (w.alloc (.cells cs.toArray e)) g cs :=
 ⟨by subst hg;simp,λi v hv=>by rw [aG _ _ _ hg i];simpa using hv,λi=>n7 _ _ _ hg i⟩
theorem aZ.aa {w w' : World} {b : Nat} {cs : List Value} (h : aZ w b cs) (hb : NS w w') : aZ w' b cs :=
 ⟨Jv h.1 hb.size,λi v hv=>aB hb (h.2.1 i v hv),λi=>jn hb h.1 (h.2.2 i)⟩
theorem aZ.alloc {w : World} {b : Nat} {cs : List Value} (h : aZ w b cs) (o : Obj) : aZ (w.alloc o) b cs:=h.aa ((I1 _ _).alloc (IZ _) o)
theorem aZ.cell {w : World} {b : Nat} {cs : List Value} (h : aZ w b cs) (i : Nat) {v : Value} (hv : cs[i]? = some v) : w.cell? ⟨b,i,none⟩=some v:=h.2.1 i v hv
theorem aZ.frozen {w : World} {b : Nat} {cs : List Value} (h : aZ w b cs) (i : Nat) : w.frozen? ⟨b,i,none⟩=false:=h.2.2 i
theorem nY (w : World) (o1 o2 o3 : Obj) : NS w (((w.alloc o1).alloc o2).alloc o3):=(((I1 _ _).alloc (IZ _) _).alloc (by simp) _).alloc (by simp;omega) _
theorem dA (w : World) (o1 o2 : Obj) : NS w ((w.alloc o1).alloc o2):=((I1 _ _).alloc (IZ _) _).alloc (by simp) _
theorem aw (w : World) (o1 : Obj) : NS w (w.alloc o1):=(I1 _ _).alloc (IZ _) _
theorem Ints.drawn {w w' : World} {a : OA} {n : Nat} {l : Lz} (h : Ints w a n l) (hd : bf w w') : Ints w' a n l:=h.aa hd.below
theorem ch.drawn {w w' : World} {a : OA} {n : Nat} {l : Ll} (h : ch w a n l) (hd : bf w w') : ch w' a n l:=h.aa hd.below
theorem bf.trans {w w' w'' : World} (h : bf w w') (k : bf w' w'') : bf w w'' := by obtain ⟨m, rfl⟩ := h; obtain ⟨n, rfl⟩ := k; exact ⟨m + n, World.drewN_drewN _ _ _⟩
def jR (w : World) (z : Bool) (e : Ending) (w' : World) : Prop:=e = .returned (.bool z)/\bf w w'
section
structure dw (O : aS) (El : Int->Prop) : Prop where
 cl : vO O El
 zero : El 0
 one : El 1
 add_comm : ∀x y,El x->El y->O.add x y=O.add y x
 add_assoc : ∀x y z,El x->El y->El z->O.add (O.add x y) z=O.add x (O.add y z)
 add_zero : ∀x,El x->O.add x 0=x
 add_neg : ∀x,El x->O.add x (O.neg x)=0
 mul_comm : ∀x y,El x->El y->O.mul x y=O.mul y x
 mul_assoc : ∀x y z,El x->El y->El z->O.mul (O.mul x y) z=O.mul x (O.mul y z)
 one_mul : ∀x,El x->O.mul 1 x=x
 mul_add : ∀x y z,El x->El y->El z->O.mul x (O.add y z)=O.add (O.mul x y) (O.mul x z)
 mul_inv : ∀x,El x->x ≠ 0->O.mul x (O.inv x)=1
def pw (P : Int) (M : Nat) (mod : Lz) (y : Int) : Nat->Int
 | 0=>1
 | k+1=>dj P M mod (pw P M mod y k) y
variable {P : Int} {M : Nat} {mod : Lz} {q : Nat} {y : Int}
theorem sQ (h : ku P M) (y : Int) : ∀k,e9 P M (pw P M mod y k)
 | 0=>uw h
 | k+1=>fE h _ _
theorem iA (h : ku P M) (y : Int) (a : Nat) : ∀b,dj P M mod (pw P M mod y a) (pw P M mod y b)=pw P M mod y (a+b)
 | 0=>by rw [pw,iW h,gV h (sQ h y a)];rfl
 | b+1=>by rw [pw,<- qt h,iA h y a b];rfl
theorem sP (y : Int) : ∀(n : Nat) (l : Lz),(∀i,i<l.length->nth l i=pw P M mod y i)->l.Nodup->(∀e ∈ l,e ≠ 0) ->
  (∀i,i<(iJ (λz=>dj P M mod z y) n l (pw P M mod y l.length)).length->nth (iJ (λz=>dj P M mod z y) n l (pw P M mod y l.length)) i=pw P M mod y i) /\
  (iJ (λz=>dj P M mod z y) n l (pw P M mod y l.length)).Nodup/\∀e ∈ iJ (λz=>dj P M mod z y) n l (pw P M mod y l.length),e ≠ 0
 | 0,l,h1,h2,h3=>⟨h1,h2,h3⟩
 | n+1,l,h1,h2,h3=>by
  by_cases hs : pw P M mod y l.length=0\/pw P M mod y l.length ∈ l
  ·rw [i6 _ _ _ _ hs];exact ⟨h1,h2,h3⟩
  ·rw [rI _ _ _ _ hs];have e : dj P M mod (pw P M mod y l.length) y=pw P M mod y (l ++ [pw P M mod y l.length]).length:=by simp [pw]
   rw [e];refine sP y n _ (λi hi=>?_) ?_ ?_
   ·simp only [Jh,Js] at hi;by_cases hl : i<l.length
    ·rw [nth,Jc,JF hl,<- Jc];exact h1 i hl
    ·obtain rfl : i=l.length:=by omega
     simp [nth]
   ·rw [J2];refine ⟨h2,by simp,λa ha b hb=>?_⟩;rw [List.mem_singleton.1 hb];intro e;exact hs (.inr (e ▸ ha))
   ·intro e he;rcases List.mem_append.1 he with h | h
    ·exact h3 e h
    ·rw [List.mem_singleton.1 h];intro e;exact hs (.inl e)
theorem Ez (h : ku P M) (hy : e9 P M y) (q : Nat) :
  (∀i,i<(eR P M mod q y).length->nth (eR P M mod q y) i=pw P M mod y i)/\(eR P M mod q y).Nodup/\∀e ∈ eR P M mod q y,e ≠ 0:=by
 have e : pw P M mod y [(1 : Int)].length=y:=by show dj P M mod (pw P M mod y 0) y=y;rw [pw,gV h hy]
 have:=sP (P:=P) (M:=M) (mod:=mod) y q [1] (λi hi=>by
  have : i=0:=by simp at hi;omega
  subst this;rfl) (by simp) (by simp)
 rw [e] at this;exact this
structure sd (P : Int) (M : Nat) (mod : Lz) (q : Nat) (y : Int) (ex : Lz) : Prop where
 res : ku P M
 q2 : 2<=q
 pq : (q : Int)=P ^ M
 yel : e9 P M y
 len : ex.length=q - 1
 val : ∀i,i<q - 1->nth ex i=pw P M mod y i
 nodup : ex.Nodup
 ne : ∀e ∈ ex,e ≠ 0
 last : pw P M mod y (q - 1)=1
theorem sd.xu (h : ku P M) (hq : (q : Int)=P ^ M) (hy : e9 P M y) (hg : fM P M mod q y=true) : sd P M mod q y (eR P M mod q y):=by
 have hq2 : 2<=q:=by have:=one_lt_pow h;omega
 simp only [fM,Jo,beq_iff_eq] at hg;obtain ⟨h1,h2,h3⟩:=Ez (mod:=mod) h hy q;refine ⟨h,hq2,hq,hy,hg.1,λi hi=>h1 i (by omega),h2,h3,?_⟩;have:=hg.2;rw [h1 _ (by omega)] at this;rw [show q - 1=(q - 2)+1 by omega];exact this
namespace sd
variable {ex : Lz}
theorem mem (g : sd P M mod q y ex) {e : Int} (he : e9 P M e) (h0 : e ≠ 0) : e ∈ ex:=by
 apply JE;intro hn;have hnd : (e :: ex).Nodup:=List.nodup_cons.2 ⟨hn,g.nodup⟩;have hsub : ∀x ∈ e :: ex,x ∈ (List.range (q - 1)).map (λi : Nat=>(i : Int)+1):=by
  intro x hx;have hx2 : e9 P M x/\x ≠ 0:=by
   rcases List.mem_cons.1 hx with rfl | hx
   ·exact ⟨he,h0⟩
   ·refine ⟨?_,g.ne x hx⟩;obtain ⟨i,hi,rfl⟩:=List.mem_iff_getElem.1 hx;rw [<- ai hi,g.val i (by rw [<- g.len];exact hi)];exact sQ g.res y i
  rw [Lj];have h1:=hx2.1.1;have h2:=hx2.1.2;have h3:=hx2.2;have h4:=g.pq;have h5:=g.q2;exact ⟨(x - 1).toNat,by rw [Lm];omega,by omega⟩
 have hle:=List.Nodup.length_le_of_subset hnd hsub;simp at hle;have h5:=g.q2;have h6:=g.len;omega
theorem log (g : sd P M mod q y ex) {e : Int} (he : e9 P M e) (h0 : e ≠ 0) : ∃k,k<q - 1/\e=pw P M mod y k/\nth ex k=e:=by
 obtain ⟨i,hi,e1⟩:=List.mem_iff_getElem.1 (g.mem he h0);have hi2 : i<q - 1:=by rw [<- g.len];exact hi
 refine ⟨i,hi2,?_,?_⟩
 ·rw [<- g.val i hi2,ai hi,e1]
 ·rw [ai hi,e1]
theorem period (g : sd P M mod q y ex) (a : Nat) : ∀n,pw P M mod y (a+n * (q - 1))=pw P M mod y a
 | 0=>by simp
 | n+1=>by rw [show a+(n+1) * (q - 1)=(a+n * (q - 1))+(q - 1) by rw [L3];omega,<- iA g.res,g.last,iW g.res,gV g.res (sQ g.res y _),period g a n]
theorem red (g : sd P M mod q y ex) (a : Nat) : pw P M mod y (a % (q - 1))=pw P M mod y a:=by have h:=g.period (a % (q - 1)) (a / (q - 1));rw [<- h,LM,Nat.mod_add_div]
theorem G8 (g : sd P M mod q y ex) (a : Nat) : pw P M mod y a ≠ 0:=by have h5:=g.q2;rw [<- g.red a];have hlt : a % (q - 1)<q - 1:=LP _ (by omega);rw [<- g.val _ hlt];exact g.ne _ (aK (by rw [g.len];exact hlt))
theorem inj (g : sd P M mod q y ex) {i j : Nat} (hi : i<q - 1) (hj : j<q - 1) (h : nth ex i=nth ex j) : i=j:=by
 rw [ai (by rw [g.len];exact hi),ai (by rw [g.len];exact hj)] at h;have hp:=List.pairwise_iff_getElem.1 g.nodup;rcases MU i j with h1 | h1 | h1
 ·exact absurd h (hp i j _ _ h1)
 ·exact h1
 ·exact absurd h.symm (hp j i _ _ h1)
theorem sW (g : sd P M mod q y ex) {k : Nat} (hk : k<q - 1) : e9 P M (nth ex k):=by rw [g.val k hk];exact sQ g.res y k
theorem tU (g : sd P M mod q y ex) : ∀k,k<=q - 1->∀j,j<k->nth (dN q ex k) (nth ex j).toNat=j
 | 0,_,j,hj=>by omega
 | k+1,hk,j,hj=>by
  have hkel:=g.sW (k:=k) (by omega);have hjel:=g.sW (k:=j) (by omega);have h1:=hkel.1;have h2:=hkel.2;have h3:=hjel.1;have h4:=g.pq;rw [dN,gP _ _ _ _ (by rw [iQ];omega)];by_cases e : j=k
  ·subst e;rw [I6 rfl]
  ·rw [I5]
   ·exact tU g k (by omega) j (by omega)
   ·intro e2;exact e (g.inj (by omega) (by omega) (by omega))
theorem Gr (g : sd P M mod q y ex) {k : Nat} (hk : k<q - 1) : nth (dN q ex (q - 1)) (pw P M mod y k).toNat=k:=by rw [<- g.val k hk];exact g.tU (q - 1) (IZ _) k hk
theorem Bk (g : sd P M mod q y ex) {x z : Int} (hx : e9 P M x) (hz : e9 P M z) : qM q ex (dN q ex (q - 1)) x z=dj P M mod x z:=by
 unfold qM;by_cases h0 : x=0\/z=0
 ·rw [I6 h0];rcases h0 with rfl | rfl
  ·rw [iW g.res,oc g.res]
  ·rw [oc g.res]
 ·rw [I5 h0];obtain ⟨a,ha,rfl,_⟩:=g.log hx (λe=>h0 (.inl e));obtain ⟨b,hb,rfl,_⟩:=g.log hz (λe=>h0 (.inr e));have h5:=g.q2;rw [g.Gr ha,g.Gr hb,iA g.res];have e1 : ((a : Int)+b) % ((q : Int) - 1)=(((a+b) % (q - 1) : Nat) : Int):=by rw [M1,Int.natCast_add,Mk (by omega)];rfl
  rw [e1,Jd,g.val _ (LP _ (by omega)),g.red]
theorem Dk (g : sd P M mod q y ex) {x : Int} (hx : e9 P M x) (h0 : x ≠ 0) : dj P M mod x (xm q ex (dN q ex (q - 1)) x)=1:=by
 obtain ⟨a,ha,rfl,_⟩:=g.log hx h0;have h5:=g.q2;unfold xm;rw [g.Gr ha];have e1 : ((q : Int) - 1 - a) % ((q : Int) - 1)=(((q - 1 - a) % (q - 1) : Nat) : Int):=by rw [M1,Mk (by omega),Mk (by omega)];rfl
 rw [e1,Jd,g.val _ (LP _ (by omega)),g.red,iA g.res,show a+(q - 1 - a)=q - 1 by omega,g.last]
theorem FE (g : sd P M mod q y ex) (x : Int) : e9 P M (xm q ex (dN q ex (q - 1)) x):=by have h5:=g.q2;unfold xm;refine g.sW ?_;have h1:=JK ((q : Int) - 1 - nth (dN q ex (q - 1)) x.toNat) (show (q : Int) - 1 ≠ 0 by omega);have h2:=JB ((q : Int) - 1 - nth (dN q ex (q - 1)) x.toNat) (show 0<(q : Int) - 1 by omega);omega
theorem IQ (g : sd P M mod q y ex) : dw (cW.ops ⟨P,M,q,ex,dN q ex (q - 1)⟩) (e9 P M):=by
 have hmul : ∀ {x z : Int},e9 P M x->e9 P M z->(cW.ops ⟨P,M,q,ex,dN q ex (q - 1)⟩).mul x z=dj P M mod x z:=λhx hz=>g.Bk hx hz;have h:=g.res;have hinv : ∀x,e9 P M ((cW.ops ⟨P,M,q,ex,dN q ex (q - 1)⟩).inv x):=λx=>g.FE x;refine ⟨⟨λx z _ _=>gO h x z,λx z hx hz=>?_,λx _=>uC h x,λx _ _=>hinv x⟩,ui h,uw h,λx z _ _=>Cn h x z,λx z u _ _ _=>zR h x z u,λx hx=>Ft h hx,λx _=>Bt h x,?_,?_,?_,?_,?_⟩
 ·rw [hmul hx hz];exact fE h x z
 ·intro x z hx hz;rw [hmul hx hz,hmul hz hx,iW h]
 ·intro x z u hx hz hu;rw [hmul hx hz,hmul hz hu,hmul (fE h x z) hu,hmul hx (fE h z u),qt h]
 ·intro x hx;rw [hmul (uw h) hx,gV h hx]
 ·intro x z u hx hz hu;have hs : (cW.ops ⟨P,M,q,ex,dN q ex (q - 1)⟩).add=eh P M:=rfl;rw [hs,hmul hx (gO h z u),hmul hx hz,hmul hx hu,Dd h]
 ·intro x hx h0;rw [hmul hx (hinv x)];exact g.Dk hx h0
end sd
theorem rE {P M : Int} {mod : Lz} (h : bp P M mod=true) : ∃(m : Nat) (y : Int),M=m/\ku P m/\P ^ m<=256/\cB P m mod=true/\(aN P m).toNat=P ^ m/\sd P m mod (aN P m).toNat y (fX P m mod (aN P m).toNat):=by
 unfold bp at h;rw [Jo] at h;obtain ⟨hs,hg⟩:=h;have hs2:=hs;simp only [cB,Jo,bne_iff_ne,ne_eq] at hs2;obtain ⟨b1,b2,b3,b4,b5,b6⟩:=iU hs2.1.1;obtain ⟨m,rfl⟩ : ∃m : Nat,M=m:=⟨M.toNat,by omega⟩
 rw [Jd] at *;have hres : ku P m:=⟨b1,by omega⟩
 have hq : ((aN P m).toNat : Int)=P ^ m:=by have:=one_lt_pow hres;omega
 have hne : fX P m mod (aN P m).toNat ≠ []:=by intro e;rw [e] at hg;simp at hg
 obtain ⟨y,hy1,hy2,hy3,hy4⟩:=od hne;refine ⟨m,y,rfl,hres,b5,hs,hq,?_⟩;rw [hy4];exact sd.xu hres hq ⟨by omega,by omega⟩ hy3
theorem fq {P M : Int} {mod : Lz} (h : bp P M mod=true) : dw (ah P M.toNat mod).ops (ah P M.toNat mod).El:=by
 obtain ⟨m,y,rfl,hr,_,_,hq,g⟩:=rE h;have e : (ah P ((m : Int).toNat) mod).El=e9 P m:=by funext x;simp only [cW.El,ah,e9,Jd];rw [hq]
 rw [e];exact g.IQ
end
def Nj:=@aZ.new
def Nn:=@aA.aV
def No:=@bf.refl
def Nq:=@bf.below
def Ns:=@aA.refl
def Nt:=@cP.drawn
def Nv:=@cw.clear
def Nz:=@cP.set
def NA:=@cW.cl
def ND:=@cP.refl
def NK:=@aA.trans
def NL:=@bf.drewN
end Go.Proofs.YtcfmiocdlcapoaaGreat
