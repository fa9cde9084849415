import Derived.Test.YtjfiflldinnhmaaGreatHSO4
namespace Go.Proofs.YtjfiflldinnhmaaGreat
set_option linter.all false
set_option maxRecDepth 100000
set_option maxHeartbeats 1600000
open Go.RowKit Go.Proofs.Tryz
section
def gZ (q x : Int) : Bool:=decide (0<=x) && decide (x<q)
def jj (q : Int) (l : LI) : Bool:=l.all (gZ q)
def ki (q : Int) (l : LI) : Int:=if jj q l then 0 else 2
def gR (cols : Int) (L : LL) : Bool:=L.all λr=>decide ((r.length : Int)=cols)
def ed (q cols : Int) (L : LL) : Int :=
 if cols<0\/256<cols\/256<L.length then 3 else if gR cols L=false then 3 else if L.all (jj q) then 0 else 2
theorem cK {α : Type} {p : α->Bool} {l : List α} {k : Nat} (hk : k<l.length) (h : (l.take k).all p=true) (hp : p l[k]=true) : (l.take (k+1)).all p=true:=by rw [EV hk,GQ,h];simp [hp]
theorem cJ {α : Type} {p : α->Bool} {l : List α} {k : Nat} (hk : k<l.length) (hp : p l[k]=false) : l.all p=false:=by rw [F6];exact ⟨_,Fj hk,by simp [hp]⟩
variable {w : World} {b : Nat} {G : cC}
theorem uO (a : OA) (n c : Nat) (l : LI) (h : dY w b G) (hi : Ints w a n l) :
  Calls prog 172 #[.pointer (some ⟨b,0,none⟩),.slice a n c] w λe w'=>e = .returned (.int .i64 (ki G.q l))/\w=w':=by
 have hpl:=hi.pl;have hlen:=hi.len;have hmax:=hi.max;unfold maxLen at hmax;have Hlen:=Z5 hlen;clear hlen;go_enter func172,ntmps172;go_wp2;go_loop [9] (λiv=>∃k : Nat,k<=n/\iv = .int .i64 k/\Hid ((l.take k).all (gZ G.q)=true)) (λiv=>n - (intOf iv).toNat);case atStart=>exact ⟨0,EL _,rfl,by show _=_;simp⟩
 case round =>
  obtain ⟨k,hk,rfl,hall⟩:=hrel
  by_cases hlt : k<n
  ·have hc:=hi.cell k hlt
   by_cases hq : gZ G.q (nth l k)=true
   ·have hq':=hq
    unfold gZ at hq'
    have Hq:=Z5 hq
    clear hq
    go_wp2_with (first | (go_at_call 75;refine (Ex (nth l k) h).mono ?_;rintro e w' ⟨rfl,rfl⟩))
    go_round
    case rel=>exact ⟨k+1,by omega,by go_num,cK (by rw [Hlen.out];exact hlt) hall.out (by rw [<- ai (by rw [Hlen.out];exact hlt)];exact Hq.out)⟩
    case measure=>simp [intOf] <;> omega
   ·have hq : gZ G.q (nth l k)=false:=by simpa using hq
    have hq':=hq
    unfold gZ at hq'
    have Hf : Hid (jj G.q l=false):=cJ (k:=k) (by rw [Hlen.out];exact hlt) (by rw [<- ai (by rw [Hlen.out];exact hlt)];exact hq)
    clear hq
    go_wp2_with (first | (go_at_call 75;refine (Ex (nth l k) h).mono ?_;rintro e w' ⟨rfl,rfl⟩))
    go_ret
    exact ⟨aF (by rw [ki,Hf.out];rfl),rfl⟩
  ·obtain rfl : k=n:=by omega
   have Hf : Hid (jj G.q l=true):=by have:=hall.out;rw [ES (by rw [Hlen.out];exact EF _)] at this;exact this
   go_wp2
   go_ret
   exact ⟨aF (by rw [ki,Hf.out];rfl),rfl⟩
theorem y9 (cols : Int) (a : OA) (n c : Nat) (L : LL) (h : dY w b G) (hi : bY w a n L) :
  Calls prog 226 #[.pointer (some ⟨b,0,none⟩),.agg #[.int .i64 cols,.slice a n c]] w λe w'=>e = .returned (.int .i64 (ed G.q cols L))/\JA w w':=by
 have hpl:=hi.pl;have hlen:=hi.len;have hmax:=hi.max;unfold maxLen at hmax;have Hlen:=Z5 hlen;clear hlen;have hbox : ∀w' : World,Below (w.heap.size+1) (w.alloc (.cells #[.int .i64 cols,.slice a n c] 87)) w' ->
   w'.cell? ⟨w.heap.size,0,none⟩=some (.int .i64 cols)/\w'.cell? ⟨w.heap.size,1,none⟩=some (.slice a n c)/\JA w w':=by intro w' h;refine ⟨(h.cell (by simp)).trans (by simp),(h.cell (by simp)).trans (by simp),((EI _ _).alloc (EF _) _).trans (h.mono (by omega))⟩
 have Hbox:=Z5 hbox;clear hbox;have Hal:=Z5 ((EI w.heap.size w).alloc (EF _) (.cells #[.int .i64 cols,.slice a n c] 87));by_cases b1 : cols<0
 ·have Hf : Hid (ed G.q cols L=3):=by show _=_;rw [ed,EH (.inl b1)]
  go_enter func226,ntmps226;go_wp2_with fail;go_ret;exact ⟨aF Hf.out.symm,Hal.out⟩
 by_cases b2 : 256<cols
 ·have Hf : Hid (ed G.q cols L=3):=by show _=_;rw [ed,EH (.inr (.inl b2))]
  go_enter func226,ntmps226;go_wp2_with fail;go_ret;exact ⟨aF Hf.out.symm,Hal.out⟩
 by_cases b3 : 256<n
 ·have Hf : Hid (ed G.q cols L=3):=by show _=_;rw [ed,EH (.inr (.inr (by rw [Hlen.out];exact b3)))]
  have t1 : decide (cols<0)=false:=by simpa using b1
  have t2 : decide (256<cols)=false:=by simpa using b2
  have t3 : decide (256<(n : Int))=true:=by simp;omega
  go_enter func226,ntmps226;go_wp2_with fail;go_ret;exact ⟨aF Hf.out.symm,Hal.out⟩
 have Hm : Hid (ed G.q cols L=if gR cols L=false then 3 else if L.all (jj G.q) then 0 else 2):=by show _=_;rw [ed,EG (by rw [Hlen.out];omega)]
 have t1 : decide (cols<0)=false:=by simpa using b1
 have t2 : decide (256<cols)=false:=by simpa using b2
 have t3 : decide (256<(n : Int))=false:=by simp;omega
 clear b1 b2;go_enter func226,ntmps226;go_wp2_with fail;generalize hW0 : w.alloc (.cells #[.int .i64 cols,.slice a n c] 87)=W0 at *;have hW0s : W0.heap.size=w.heap.size+1:=by rw [<- hW0];simp
 obtain ⟨q0,q1,hbw⟩:=Hbox.out W0 (EI _ _);have hiW:=hi.aa hbw;clear hW0;go_loop [27] (λiv=>∃k : Nat,k<=n/\iv = .int .i64 k/\Hid ((L.take k).all (λr=>decide ((r.length : Int)=cols))=true)) (λiv=>n - (intOf iv).toNat);case atStart=>exact ⟨0,EL _,rfl,by show _=_;simp⟩
 case round =>
  obtain ⟨k,hk,rfl,hall⟩:=hrel
  by_cases hlt : k<n
  ·obtain ⟨ra,rn,rc,hcell,hrow⟩:=hiW.cell k hlt
   have hrl:=hrow.len
   have hkL : k<L.length:=by rw [Hlen.out];exact hlt
   rw [aE hkL] at hrl
   have Hrl:=Z5 hrl
   clear hrl
   by_cases he : (rn : Int)=cols
   ·have he' : ((rn : Int) != cols)=false:=by simpa using he
    have Hq : Hid (decide ((L[k].length : Int)=cols)=true):=by show _=_;rw [Hrl.out];simpa using he
    clear he
    go_wp2_with fail
    go_round
    case rel=>exact ⟨k+1,by omega,by go_num,cK hkL hall.out Hq.out⟩
    case measure=>simp [intOf] <;> omega
   ·have he' : ((rn : Int) != cols)=true:=by simpa using he
    have Hq : Hid (ed G.q cols L=3):=by show _=_;rw [Hm.out,EH];exact cJ hkL (by simp only [Hrl.out];simpa using he)
    clear he
    go_wp2_with fail
    go_ret
    exact ⟨aF Hq.out.symm,hbw⟩
  ·obtain rfl : k=n:=by omega
   have Hm2 : Hid (ed G.q cols L=if L.all (jj G.q) then 0 else 2):=by have:=hall.out;rw [ES (by rw [Hlen.out];exact EF _)] at this;show _=_;rw [Hm.out,EG (by rw [gR,this];simp)]
   have hG:=h.aa hbw
   go_wp2_with fail
   go_loop [40] (λiv=>∃j : Nat,j<=k/\iv = .int .i64 j/\Hid ((L.take j).all (jj G.q)=true)) (λiv=>k - (intOf iv).toNat)
   case atStart=>exact ⟨0,EL _,rfl,by show _=_;simp⟩
   case round =>
    obtain ⟨j,hj,rfl,hall2⟩:=hrel
    by_cases hlt : j<k
    ·obtain ⟨ra,rn,rc,hcell,hrow⟩:=hiW.cell j hlt
     have hjL : j<L.length:=by rw [Hlen.out];exact hlt
     go_wp2_with fail
     refine (uO ra rn rc _ hG hrow).mono ?_
     rintro e w' ⟨rfl,rfl⟩
     by_cases he : jj G.q (af L j)=true
     ·have he2 : ki G.q (af L j)=0:=by rw [ki,he];rfl
      rw [he2]
      rw [aE hjL] at he
      have He:=Z5 he
      clear he he2
      go_wp2_with fail
      go_round
      case rel=>exact ⟨j+1,by omega,by go_num,cK hjL hall2.out He.out⟩
      case measure=>simp [intOf] <;> omega
     ·have he2 : ki G.q (af L j)=2:=by rw [ki,EG he]
      rw [he2]
      rw [aE hjL] at he
      have Hq : Hid (ed G.q cols L=2):=by show _=_;rw [Hm2.out,cJ hjL (by simpa using he)];rfl
      clear he he2
      go_wp2_with fail
      go_ret
      exact ⟨aF Hq.out.symm,hbw⟩
    ·obtain rfl : j=k:=by omega
     have Hq : Hid (ed G.q cols L=0):=by have:=hall2.out;rw [ES (by rw [Hlen.out];exact EF _)] at this;show _=_;rw [Hm2.out,this];rfl
     go_wp2_with fail
     go_ret
     exact ⟨aF Hq.out.symm,hbw⟩
end
structure rF (w : World) (a : OA) (n : Nat) (l : List (Int × LL)) : Prop where
 len : l.length=n
 pl : Pl a n
 max : n<=maxLen
 cell : ∀i (hi : i<l.length),∃b m c,w.cell? ⟨ah a,aG a+i * 2,none⟩=some (.int .i64 l[i].1)/\w.cell? ⟨ah a,aG a+i * 2+1,none⟩=some (.slice b m c)/\bY w b m l[i].2
theorem rF.aa {w w' : World} {a : OA} {n : Nat} {l : List (Int × LL)} (h : rF w a n l) (hb : JA w w') : rF w' a n l:=by refine ⟨h.len,h.pl,h.max,λi hi=>?_⟩;obtain ⟨b,m,c,h1,h2,h3⟩:=h.cell i hi;exact ⟨b,m,c,aj hb h1,aj hb h2,h3.aa hb⟩
def gv (q : Int) : List (Int × LL)->Int
 | []=>0
 | m :: l=>if ed q m.1 m.2=0 then gv q l else ed q m.1 m.2
theorem vG {q : Int} {l : List (Int × LL)} {k : Nat} (hk : k<l.length) : gv q (l.drop k)=if ed q l[k].1 l[k].2=0 then gv q (l.drop (k+1)) else ed q l[k].1 l[k].2:=by rw [FL hk,gv]
def Az (P M : Int) (mod : LI) (l : List (Int × LL)) (w : World) (e : Ending) (w' : World) : Prop :=
 JA w w'/\(
 (bA P M mod=false/\e = .returned (.tuple #[.pointer none,.int .i64 1])) \/
 (bA P M mod=true/\∃er,er ≠ 0/\gv (an P M.toNat mod).q l=er/\e = .returned (.tuple #[.pointer none,.int .i64 er])) \/
 (bA P M mod=true/\gv (an P M.toNat mod).q l=0/\∃b,e = .returned (.tuple #[.pointer (some ⟨b,0,none⟩),.int .i64 0])/\dY w' b (an P M.toNat mod)/\w.heap.size<=b))
theorem jQ (P M : Int) (am : OA) (mn cm : Nat) (mod : LI) (a : OA) (n c : Nat) (l : List (Int × LL)) (w : World) (hmod : Ints w am mn mod) (hl : rF w a n l) :
  Calls prog 171 #[.agg #[.int .i64 P,.int .i64 M,.slice am mn cm],.slice a n c] w (Az P M mod l w):=by
 have hpl:=hl.pl;have hlen:=hl.len;have hmax:=hl.max;unfold maxLen at hmax;have Hlen:=Z5 hlen;clear hlen;have Hal:=Z5 ((EI w.heap.size w).alloc (EF _) (.cells #[.int .i64 P,.int .i64 M,.slice am mn cm] 24));go_enter func171,ntmps171;go_wp2_with fail;have hbw:=Hal.out;generalize w.alloc (.cells #[.int .i64 P,.int .i64 M,.slice am mn cm] 24)=W0 at *;refine (fD P M am mn cm mod W0 (hmod.aa hbw)).mono ?_;rintro e w1 (⟨hB,rfl,hb1⟩ | ⟨hB,b,rfl,hGs,hbl,hb1⟩)
 ·have HB:=Z5 hB;clear hB;have hbw1:=I8 hbw hb1;go_wp2_with fail;go_ret2;exact ⟨hbw1,.inl ⟨HB.out,rfl⟩⟩
 ·have HB:=Z5 hB;clear hB;have hbw1:=I8 hbw hb1;have hbb : w.heap.size<=b:=ET hbw.size hbl;have hG:=hGs.gf;clear hGs;generalize hT : an P M.toNat mod=G at *;have HT:=Z5 hT;clear hT;go_wp2_with fail;go_loopw [20] (λiv wr=>∃k : Nat,k<=n/\iv = .int .i64 k/\Hid (gv G.q l=gv G.q (l.drop k))/\JA w1 wr) (λiv _=>n - (intOf iv).toNat);case atStart=>exact ⟨0,EL _,rfl,by show _=_;simp,EI _ _⟩
  case round =>
   obtain ⟨k,hk,rfl,hall,hbr⟩:=hrel
   have hbwr:=I8 hbw1 hbr
   by_cases hlt : k<n
   ·have hkl : k<l.length:=by rw [Hlen.out];exact hlt
    have hlr:=hl.aa hbwr
    obtain ⟨rb,rm,rc,c1,c2,hM⟩:=hlr.cell k hkl
    have hstep:=vG (q:=G.q) hkl
    have Hstep:=Z5 hstep
    clear hstep
    generalize l[k].1=cols at *
    generalize l[k].2=L at *
    have Hal2:=Z5 ((EI wr.heap.size wr).alloc (EF _) (.cells #[.int .i64 cols,.slice rb rm rc] 87))
    go_wp2_with fail
    have hbx:=Hal2.out
    generalize wr.alloc (.cells #[.int .i64 cols,.slice rb rm rc] 87)=W2 at *
    have hB2 : JA w1 W2:=I8 hbr hbx
    refine (y9 cols rb rm rc L (hG.aa hB2) (hM.aa hbx)).mono ?_
    rintro e w3 ⟨rfl,hb3⟩
    have hB3 : JA w1 w3:=I8 hB2 hb3
    by_cases he : ed G.q cols L=0
    ·have Hs : Hid (gv G.q l=gv G.q (l.drop (k+1))):=by show _=_;rw [hall.out,Hstep.out,EH he]
     rw [he]
     clear he
     go_wp2_with fail
     go_roundw
     case rel=>exact ⟨k+1,by omega,by go_num,Hs.out,hB3⟩
     case measure=>simp [intOf] <;> omega
    ·have Hs : Hid (gv G.q l=ed G.q cols L):=by show _=_;rw [hall.out,Hstep.out,EG he]
     generalize ed G.q cols L=er at *
     have he' : (er != 0)=true:=by simpa using he
     have He : Hid (er ≠ 0):=he
     clear he
     go_wp2_with fail
     go_ret2
     exact ⟨I8 hbw1 hB3,.inr (.inl ⟨HB.out,er,He.out,by rw [HT.out];exact Hs.out,rfl⟩)⟩
   ·obtain rfl : k=n:=by omega
    have Hs : Hid (gv G.q l=0):=by show _=_;rw [hall.out,Gx (by rw [Hlen.out];exact EF _)];rfl
    go_wp2_with fail
    go_ret2
    exact ⟨hbwr,.inr (.inr ⟨HB.out,by rw [HT.out];exact Hs.out,b,rfl,by rw [HT.out];exact hG.aa hbr,hbb⟩)⟩
section
def gU (r : OA × Nat) (l : LI) : Value:=.slice r.1 l.length r.2
def aK (R : LA) (i : Nat) : OA × Nat:=R.getD i (none,0)
theorem eD {l : LA} {i : Nat} (h : i<l.length) : aK l i=l[i]:=by simp [aK,h]
theorem fu (l : LA) (i j : Nat) (x : OA × Nat) (hi : i<l.length) : aK (l.set i x) j=if j=i then x else aK l j:=by
 unfold aK;simp only [EJ,FQ];by_cases h : i=j
 ·subst h;simp [hi]
 ·rw [EG h,EG (by omega)]
theorem eg (l : LL) (i j : Nat) (x : LI) (hi : i<l.length) : af (l.set i x) j=if j=i then x else af l j:=by
 unfold af;simp only [EJ,FQ];by_cases h : i=j
 ·subst h;simp [hi]
 ·rw [EG h,EG (by omega)]
theorem oK (n i : Nat) : af (List.replicate n []) i=[]:=by simp only [af,EJ,E9];split <;> rfl
theorem fy (n i : Nat) : aK (List.replicate n (none,0)) i=(none,0):=by simp only [aK,EJ,E9];split <;> rfl
theorem sc (R : LA) (L : LL) (i : Nat) (r : OA × Nat) (l : LI) :
  (List.zipWith gU R L).set i (gU r l)=List.zipWith gU (R.set i r) (L.set i l):=by
 apply HY;intro j;simp only [FQ,GI,GW];by_cases h : i=j
 ·subst h;by_cases h1 : i<R.length <;> by_cases h2 : i<L.length <;> simp [h1,h2,show ¬ (i<R.length/\i<L.length)->¬ i<min R.length L.length from by omega];exact Nat.lt_min.2 ⟨h1,h2⟩
 ·simp [h]
structure aN (w : World) (B : Nat) (a : OA) (n c : Nat) (R : LA) (L : LL) : Prop where
 rl : R.length=n
 ll : L.length=n
 own : w.ownsRow B 22 1 (.slice a n c) n (List.zipWith gU R L)
 row : ∀i,i<n->w.ownsRow B 3 1 (.slice (aK R i).1 (af L i).length (aK R i).2) (af L i).length ((af L i).map (Value.int .i64))
 mM : ∀i,i<n->db (aK R i).1 (ah a)
 sep : ∀i j,i<n->j<n->i ≠ j->(aK R i).1=none\/db (aK R j).1 (ah (aK R i).1)
def bH (a : OA) (R : LA) (b : Nat) : Prop:=(a ≠ none/\b=ah a)\/∃i,i<R.length/\(aK R i).1 ≠ none/\b=ah (aK R i).1
structure aw (w w' : World) (I I' : Nat->Prop) : Prop where
 os : w'.os=w.os
 tape : w'.tape=w.tape
 output : w'.output=w.output
 size : w.heap.size<=w'.heap.size
 block : ∀b,b<w.heap.size->¬ I b->w'.heap[b]? = w.heap[b]?
 grow : ∀b,I' b->I b\/w.heap.size<=b
variable {w w' w'' : World} {B : Nat} {a : OA} {n c : Nat} {R : LA} {L : LL} {I I' I'' : Nat -> Prop}
theorem aw.refl (w : World) (I : Nat->Prop) : aw w w I I:=⟨rfl,rfl,rfl,EF _,λ_ _ _=>rfl,λ_ h=>.inl h⟩
theorem aw.trans (h : aw w w' I I') (k : aw w' w'' I' I'') : aw w w'' I I'' := by
 refine ⟨k.os.trans h.os,k.tape.trans h.tape,k.output.trans h.output,ET h.size k.size,λb hb hI=>?_,λb hb=>?_⟩
 ·refine (k.block b (Fc hb h.size) λh'=>?_).trans (h.block b hb hI);rcases h.grow b h' with h2 | h2
  ·exact hI h2
  ·omega
 ·rcases k.grow b hb with h2 | h2
  ·exact h.grow b h2
  ·exact .inr (ET h.size h2)
theorem aw.aV (h : JA w w') (I : Nat->Prop) : aw w w' I I:=⟨h.os,h.tape,h.output,h.size,λb hb _=>h.block b hb,λ_ h=>.inl h⟩
theorem aw.below (h : aw w w' I I') (hI : ∀b,I b->B<=b) (hB : B<=w.heap.size) : Below B w w' :=
 ⟨h.os,h.tape,h.output,h.size,λb hb=>h.block b (Fc hb hB) λhi=>by have:=hI b hi;omega⟩
theorem aw.cell (h : aw w w' I I') {p : Addr} {v : Value} (hc : w.cell? p=some v) (hI : ¬ I p.block) : w'.cell? p=some v :=
 (E4 (w:=w) (a:=p) (h.block _ (EP w _ hc) hI)).trans hc
theorem aw.not (h : aw w w' I I') {b : Nat} (hb : b<w.heap.size) (hI : ¬ I b) : ¬ I' b:=λh'=>by
 rcases h.grow b h' with h2 | h2
 ·exact hI h2
 ·omega
theorem aw.own (h : aw w w' I I') {e : TypeId} {a : OA} {c n : Nat} {xs : List Value} (ho : w.ownsRow B e 1 (.slice a n c) n xs) (hI : a ≠ none->¬ I (ah a)) : w'.ownsRow B e 1 (.slice a n c) n xs:=by
 rcases iM ho with ⟨rfl,rfl,rfl⟩ | ⟨_,hlt⟩
 ·have hx:=iw ho;obtain rfl : xs=[]:=Fi hx;exact bG
 ·by_cases ha : a=none
  ·subst ha;refine ⟨ho.1,?_⟩;rcases ho.2 with h2 | ⟨g,cap,cur,hv,_⟩
   ·exact .inl h2
   ·cases hv
  ·exact gI ho (h.block _ hlt (hI ha))
theorem aU {w : World} {e : TypeId} {a : OA} {c n : Nat} {xs : List Value} (ho : w.ownsRow B e 1 (.slice a n c) n xs) (ha : a ≠ none) : B<=ah a/\ah a<w.heap.size:=by
 rcases iM ho with ⟨rfl,_⟩ | h
 ·exact absurd rfl ha
 ·exact h
namespace aN
theorem lt (h : aN w B a n c R L) (b : Nat) (hb : bH a R b) : B<=b/\b<w.heap.size:=by
 rcases hb with ⟨h1,rfl⟩ | ⟨i,hi,h1,rfl⟩
 ·exact aU h.own h1
 ·exact aU (h.row i (by rw [h.rl] at hi;exact hi)) h1
theorem new (h : aN w B a n c R L) {b : Nat} (hb : w.heap.size<=b) : ¬ bH a R b:=λh'=>by have:=h.lt b h';omega
theorem kl (h : aN w B a n c R L) {b : Nat} (hb : b<B) : ¬ bH a R b:=λh'=>by have:=h.lt b h';omega
theorem ku {i : Nat} (h : i<R.length) (h1 : (aK R i).1 ≠ none) : bH a R (ah (aK R i).1):=.inr ⟨i,h,h1,rfl⟩
theorem bt (h : aN w B a n c R L) (hb : ∀b,bH a R b->w'.heap[b]? = w.heap[b]?) : aN w' B a n c R L:=by
 have key : ∀ {e : TypeId} {a' : OA} {c m : Nat} {xs : List Value},w.ownsRow B e 1 (.slice a' m c) m xs->(a' ≠ none->w'.heap[ah a']? = w.heap[ah a']?)->w'.ownsRow B e 1 (.slice a' m c) m xs:=by
  intro e a' c m xs ho hk;by_cases ha : a'=none
  ·subst ha;refine ⟨ho.1,?_⟩;rcases ho.2 with h2 | ⟨g,cap,cur,hv,_⟩
   ·exact .inl h2
   ·cases hv
  ·exact gI ho (hk ha)
 exact ⟨h.rl,h.ll,key h.own λha=>hb _ (.inl ⟨ha,rfl⟩),λi hi=>key (h.row i hi) λha=>hb _ (ku (by rw [h.rl];exact hi) ha),h.mM,h.sep⟩
theorem aa (h : aN w B a n c R L) (hb : JA w w') : aN w' B a n c R L:=h.bt λb hi=>hb.block b (h.lt b hi).2
theorem mono {B' : Nat} (h : aN w B a n c R L) (hB : B'<=B) : aN w B' a n c R L:=⟨h.rl,h.ll,aW h.own hB,λi hi=>aW (h.row i hi) hB,h.mM,h.sep⟩
theorem ints (h : aN w B a n c R L) {i : Nat} (hi : i<n) : Ints w (aK R i).1 (af L i).length (af L i):=(I9 (h.row i hi)).1
theorem cell (h : aN w B a n c R L) {i : Nat} (hi : i<n) : w.cell? ⟨ah a,aG a+i,none⟩=some (.slice (aK R i).1 (af L i).length (aK R i).2):=by
 rw [(bs h.own i hi).1,GI,Fa (show i<R.length by rw [h.rl];exact hi),Fa (show i<L.length by rw [h.ll];exact hi),
  eD (by rw [h.rl];exact hi),aE (by rw [h.ll];exact hi)]
 rfl
theorem frozen (h : aN w B a n c R L) {i : Nat} (hi : i<n) : w.frozen? ⟨ah a,aG a+i,none⟩=false:=(bs h.own i hi).2.1
theorem pl (h : aN w B a n c R L) : Pl a n:=by obtain ⟨a',c',hv,hp⟩:=Jl h.own;cases hv;exact hp
theorem ne (h : aN w B a n c R L) (hn : 0<n) : a ≠ none:=by intro ha;have:=h.pl hn;rw [ha] at this;cases this
theorem max (h : aN w B a n c R L) : n<=maxLen:=by
 rcases F1 n with h0 | h0
 ·subst h0;unfold maxLen;omega
 ·exact (bs h.own 0 h0).2.2.2.2
theorem pA (h : aN w B a n c R L) : bY w a n L:=⟨h.ll,h.pl,h.max,λ_ hi=>⟨_,_,_,h.cell hi,h.ints hi⟩⟩
theorem setRow (h : aN w B a n c R L) {i : Nat} (hi : i<n) {r : OA} {rc : Nat} {l : LI} (hr : w.ownsRow B 3 1 (.slice r l.length rc) l.length (l.map (Value.int .i64)))
  (ha : db r (ah a)) (hs : ∀j,j<n->j ≠ i->(aK R j).1=none\/db r (ah (aK R j).1)) :
  aN (w.setCell ⟨ah a,aG a+i,none⟩ (.slice r l.length rc)) B a n c (R.set i (r,rc)) (L.set i l):=by
 have hRi : i<R.length:=by rw [h.rl];exact hi
 have hLi : i<L.length:=by rw [h.ll];exact hi
 have flip : ∀ {x y : OA},(x=none\/db y (ah x))->(y=none\/db x (ah y)):=by
  intro x y hxy;rcases hxy with rfl | rfl | h2
  ·exact .inr (.inl rfl)
  ·exact .inl rfl
  ·exact .inr (.inr λe=>h2 e.symm)
 refine ⟨by simp [h.rl],by simp [h.ll],?_,λj hj=>?_,λj hj=>?_,λj k hj hk hjk=>?_⟩
 ·have:=bz h.own i hi (.slice r l.length rc);rwa [show (List.zipWith gU R L).set i (.slice r l.length rc)=_ from sc R L i (r,rc) l] at this
 ·rw [fu _ _ _ _ hRi,eg _ _ _ _ hLi];by_cases e : j=i
  ·simp only [EH e];exact cY hr _ ha
  ·simp only [EG e];exact cY (h.row j hj) _ (h.mM j hj)
 ·rw [fu _ _ _ _ hRi];by_cases e : j=i
  ·simp only [EH e];exact ha
  ·simp only [EG e];exact h.mM j hj
 ·rw [fu _ _ _ _ hRi,fu _ _ _ _ hRi];by_cases e : j=i
  ·simp only [EH e,EG (show ¬ k=i by omega)];exact flip (hs k hk (by omega))
  ·simp only [EG e];by_cases e2 : k=i
   ·simp only [EH e2];exact hs j hj e
   ·simp only [EG e2];exact h.sep j k hj hk hjk
theorem kr (h : aN w B a n c R L) {w' : World} (hb' : JA w w') {i : Nat} (hi : i<n) {r : OA} {rc : Nat} (v : Value) (hr : r ≠ none->bH a R (ah r)\/w.heap.size<=ah r) :
  aw w (w'.setCell ⟨ah a,aG a+i,none⟩ v) (bH a R) (bH a (R.set i (r,rc))):=by
 have hRi : i<R.length:=by rw [h.rl];exact hi
 have hb0 : Below 0 w (w'.setCell ⟨ah a,aG a+i,none⟩ v):=(hb'.mono (EL _)).setCell (EL _) v;refine ⟨hb0.os,hb0.tape,hb0.output,hb0.size,λb hb hI=>(EZ _ _ _ _ λe=>hI (.inl ⟨h.ne (by omega),e⟩)).trans (hb'.block b hb),λb hb=>?_⟩;rcases hb with hb | ⟨j,hj,h1,rfl⟩
 ·exact .inl (.inl hb)
 ·rw [Fu] at hj;rw [fu _ _ _ _ hRi] at h1 ⊢;by_cases e : j=i
  ·simp only [EH e] at h1 ⊢;exact hr h1
  ·simp only [EG e] at h1 ⊢;exact .inl (.inr ⟨j,hj,h1,rfl⟩)
theorem CF (h : aN w B a n c R L) {i : Nat} (hi : i<n) {l : LI} (hl : l.length=(af L i).length)
  (ho : w'.ownsRow B 3 1 (.slice (aK R i).1 (af L i).length (aK R i).2) (af L i).length (l.map (Value.int .i64)))
  (hg : ∀b,b<w.heap.size->((aK R i).1=none\/b ≠ ah (aK R i).1)->w'.heap[b]? = w.heap[b]?) : aN w' B a n c R (L.set i l):=by
 have hRi : i<R.length:=by rw [h.rl];exact hi
 have hLi : i<L.length:=by rw [h.ll];exact hi
 have key : ∀ {e : TypeId} {a' : OA} {c m : Nat} {xs : List Value},w.ownsRow B e 1 (.slice a' m c) m xs->((aK R i).1=none\/a'=none\/ah a' ≠ ah (aK R i).1)->w'.ownsRow B e 1 (.slice a' m c) m xs:=by
  intro e a' c m xs ho hk;by_cases ha : a'=none
  ·subst ha;refine ⟨ho.1,?_⟩;rcases ho.2 with h2 | ⟨g,cap,cur,hv,_⟩
   ·exact .inl h2
   ·cases hv
  ·exact gI ho (hg _ (aU ho ha).2 (by rcases hk with hk | hk | hk;exact .inl hk;exact absurd hk ha;exact .inr hk))
 refine ⟨h.rl,by simp [h.ll],?_,λj hj=>?_,h.mM,h.sep⟩
 ·have e : List.zipWith gU R (L.set i l)=List.zipWith gU R L:=by
   apply HY;intro j;simp only [GI,FQ];by_cases e : i=j
   ·subst e;simp only [hLi,if_true,Fa hRi,Fa hLi];rw [aE hLi] at hl;simp [gU,hl]
   ·simp [e]
  rw [e];exact key h.own (by rcases h.mM i hi with h2 | h2;exact .inl h2;exact .inr (.inr λe=>h2 e.symm))
 ·rw [eg _ _ _ _ hLi];by_cases e : j=i
  ·subst e;simp only [if_true,hl];exact ho
  ·simp only [EG e];refine key (h.row j hj) ?_;rcases h.sep i j hi hj (by omega) with h2 | h2 | h2
   ·exact .inl h2
   ·exact .inr (.inl h2)
   ·exact .inr (.inr h2)
end aN
theorem qs {w : World} {B : Nat} {a : OA} {n c : Nat} (h : w.ownsRow B 22 1 (.slice a n c) n (List.replicate n (.slice none 0 0))) :
  aN w B a n c (List.replicate n (none,0)) (List.replicate n []):=by
 refine ⟨by simp,by simp,?_,λi hi=>?_,λi hi=>?_,λi j hi hj hij=>?_⟩
 ·simpa [gU] using h
 ·rw [oK,fy];exact bG
 ·rw [fy];exact .inl rfl
 ·rw [fy];exact .inl rfl
end
section
variable {w : World} {b : Nat} {G : cC}
theorem Ints.Bk {w : World} {n : Nat} {l : LI} (h : Ints w none n l) : n=0/\l=[]:=by
 have h0 : n=0:=by
  rcases F1 n with h0 | h0
  ·exact h0
  ·have:=h.pl h0;cases this
 exact ⟨h0,Fi (by rw [h.len];exact h0)⟩
theorem dI (a : OA) (n c : Nat) (l : LI) (hi : Ints w a n l) (hn : n<=1000000) :
  Calls prog 150 #[.slice a n c] w (cB w l):=by
 have heq:=λ(w : World) (a : OA) (l c : Nat)=>Go.run_eql_slice_nil (P:=prog) w 22 3 a l c underlying22;by_cases ha : a=none
 ·subst ha;obtain ⟨rfl,rfl⟩:=hi.Bk;have hin : (none : OA).isNone=true:=rfl;go_enter func150,ntmps150;go_wp2_with fail;go_ret;exact ⟨none,0,rfl,bG,EI _ _⟩
 ·have hin : a.isNone=false:=by cases a with | none=>exact absurd rfl ha | some x=>rfl
  have hlen:=hi.len;have Hlen:=Z5 hlen;have hO:=ke w 3;have hal:=Z5 ((EI w.heap.size w).alloc (EF _) (.cells #[] 3));clear ha hlen;go_enter func150,ntmps150;go_upto_region 3 with fail;iterate 7 go_step
  have hbal:=hal.out;generalize w.alloc (.cells #[] 3)=W0 at *;have hiW:=hi.aa hbal;refine iJ (by rfl) (.tmp 5) (.tmp 6) 22 3 (by rfl) (.int .i64 0) 8 underlying22 bh (by rfl) w.heap.size _ 0 0 [] (by rfl) hO a n c (l.map (Value.int .i64)) (by rfl) hiW.pl (by simp [Hlen.out]) (Jr hiW) (ints_oneCell _ _) (by omega) (by unfold maxLen;omega) (FU hbal) ?_;intro a3 c3 w3 hown3 hgr3 hap3;have hb3 : JA w w3:=Jb (B:=w.heap.size) (e:=3) (xs:=[]) hbal hO hgr3 (EF _) (FU hbal);rw [GX] at hown3 ⊢;rw [FV] at hown3;go_wp2_with fail;go_ret;exact ⟨a3,c3,by rw [Hlen.out];rfl,by rw [Hlen.out];exact hown3,hb3⟩
def Bh (w : World) (L : LL) (e : Ending) (w' : World) : Prop :=
 ∃a c R,e = .returned (.slice a L.length c)/\aN w' w.heap.size a L.length c R L/\JA w w'
theorem eh : (prog.info? 22).map (λi=>(i.zero,i.size,i.bytes))=some (some (.slice none 0 0),1,24):=by kernel_rfl
def di (n k : Nat) (L : LL) : LL:=L.take k ++ List.replicate (n - k) []
theorem nQ {n k : Nat} {L : LL} (hk : k<n) (hL : L.length=n) : (di n k L).set k (af L k)=di n (k+1) L:=by
 unfold di;have e1 : (L.take k).length=k:=by simp;omega
 rw [EV (by omega),Ib (h:=by omega),e1,show n - k=(n - (k+1))+1 by omega,GS,Ge,EN,GA,aE (by omega)];rfl
theorem oH {n : Nat} {L : LL} (hL : L.length=n) : di n n L=L:=by simp [di,ES (show L.length<=n by omega)]
theorem yZ (a : OA) (n c : Nat) (L : LL) (hi : bY w a n L) (hn : n<=1000000) (hL : ∀l ∈ L,l.length<=1000000) :
  Calls prog 244 #[.slice a n c] w (Bh w L):=by
 have hpl:=hi.pl;have Hlen:=Z5 hi.len;have HL:=Z5 hL;clear hL;go_enter func244,ntmps244;go_wp2_with (at_make;refine bZ rfl _ _ 25 22 rfl (.slice none 0 0) 24 underlying25 eh rfl n rfl rfl (by omega) (by unfold maxLen;omega) ?_;intro a1 w1 hown hbel hge hlt);have hO:=qs hown;have hO1 : ∃R,aN w1 w.heap.size a1 n n R (di n 0 L):=⟨_,by simpa [di] using hO⟩
 clear hO hown;go_loopw [11] (λiv wr=>∃k : Nat,k<=n/\iv = .int .i64 k/\(∃R,aN wr w.heap.size a1 n n R (di n k L))/\JA w wr) (λiv _=>n - (intOf iv).toNat);case atStart=>exact ⟨0,EL _,rfl,hO1,hbel⟩
 case round =>
  obtain ⟨k,hk,rfl,⟨R,hO⟩,hbr⟩:=hrel
  by_cases hlt : k<n
  ·have hiW:=hi.aa hbr
   obtain ⟨ra,rn,rc,hcell,hrow⟩:=hiW.cell k hlt
   have hkL : k<L.length:=by rw [Hlen.out];exact hlt
   have hrl : rn<=1000000:=by rw [<- hrow.len,aE hkL];exact HL.out _ (Fj hkL)
   have hset:=nQ hlt Hlen.out
   have Hset:=Z5 hset
   clear hset
   have hpl1:=hO.pl
   generalize af L k=l at *
   go_wp2_with fail
   refine (dI ra rn rc l hrow hrl).mono ?_
   rintro e w3 ⟨a3,c3,rfl,hown3,hb3⟩
   have hO3:=hO.aa hb3
   have hf:=hO3.frozen hlt
   have hc:=hO3.cell hlt
   have hB:=(aN.lt hO3 (ah a1) (.inl ⟨hO3.ne (by omega),rfl⟩)).1
   have hbr3:=I8 hbr hb3
   have hsz:=hbr.size
   have hnew:=aN.setRow hO3 hlt (aW hown3 hsz) (la hown3 (aN.lt hO (ah a1) (.inl ⟨hO.ne (by omega),rfl⟩)).2) (λj hj _=>by
    by_cases hn : (aK R j).1=none
    ·exact .inl hn
    ·exact .inr (la hown3 (aN.lt hO _ (aN.ku (by rw [hO.rl];exact hj) hn)).2))
   rw [Hset.out] at hnew
   have Hnew:=Z5 hnew
   clear hnew
   go_wp2_with fail
   go_roundw
   case rel=>exact ⟨k+1,by omega,by go_num,⟨_,Hnew.out⟩,hbr3.setCell hB _⟩
   case measure=>simp [intOf] <;> omega
  ·obtain rfl : k=n:=by omega
   rw [oH Hlen.out] at hO
   go_wp2_with fail
   go_ret
   exact ⟨a1,k,R,by rw [Hlen.out];rfl,by rw [Hlen.out];exact hO,hbr⟩
end
structure aL where
 add : Int->Int->Int
 mul : Int->Int->Int
 neg : Int->Int
 inv : Int->Int
def cw (O : aL) (v : LI) (s : Int) (u : LI) : LI:=List.zipWith (λp q=>if q=0 then p else O.add p (O.mul s q)) v u
theorem dT (O : aL) (v : LI) (s : Int) (u : LI) (h : u.length=v.length) : (cw O v s u).length=v.length:=by simp [cw,h]
theorem gM (O : aL) (v : LI) (s : Int) (u : LI) (i : Nat) (h : u.length=v.length) (hi : i<v.length) :
  nth (cw O v s u) i=if nth u i=0 then nth v i else O.add (nth v i) (O.mul s (nth u i)):=by rw [ai (show i<(cw O v s u).length by rw [dT _ _ _ _ h];exact hi),ai (show i<u.length by omega),ai hi];simp [cw]
theorem vU (new kl : LI) (j : Nat) (h : new.length=kl.length) (hj : j<kl.length) (e : nth new j=nth kl j) : ei new kl (j+1)=ei new kl j:=by
 rw [<- dW new kl j h hj,e];refine ij (by simp) λi hi=>?_;have hl:=gD new kl j h (by omega);rw [cX _ _ _ _ (by omega)];by_cases e2 : i=j
 ·subst e2;rw [EH rfl,dR _ _ _ _ h (by omega),EG (by omega)]
 ·rw [EG e2]
def dJ (L : LL) (c : Nat) : Nat->Nat->Nat
 | k,0=>k
 | k,f+1=>if nth (af L k) c=0 then dJ L c (k+1) f else k
def aM (L : LL) (c k : Nat) : Nat:=dJ L c k (L.length - k)
theorem kc (L : LL) (c : Nat) : ∀f k,k<=dJ L c k f/\dJ L c k f<=k+f
 | 0,k=>by simp [dJ]
 | f+1,k=>by have:=kc L c f (k+1);unfold dJ;split <;> omega
theorem eB (L : LL) (c : Nat) : ∀f k,dJ L c k f<k+f->nth (af L (dJ L c k f)) c ≠ 0
 | 0,k,h=>by simp [dJ] at h
 | f+1,k,h=>by
  unfold dJ at h ⊢;split
  ·rename_i h0;rw [EH h0] at h;exact eB L c f (k+1) (by omega)
  ·assumption
theorem iA (L : LL) (c : Nat) : ∀f k i,k<=i->i<dJ L c k f->nth (af L i) c=0
 | 0,k,i,h1,h2=>by simp [dJ] at h2;omega
 | f+1,k,i,h1,h2=>by
  unfold dJ at h2;split at h2
  ·rename_i h0;rcases Iv h1 with h3 | h3
   ·rw [<- h3];exact h0
   ·exact iA L c f (k+1) i h3 h2
  ·omega
theorem gx {L : LL} {c k : Nat} (hk : k<L.length) : aM L c k=if nth (af L k) c=0 then aM L c (k+1) else k:=by unfold aM;rw [show L.length - k=(L.length - (k+1))+1 by omega,dJ]
theorem jE {L : LL} {c k : Nat} (hk : L.length<=k) : aM L c k=k:=by unfold aM;rw [show L.length - k=0 by omega,dJ]
theorem jf {L : LL} {c k : Nat} (hk : k<=L.length) : k<=aM L c k/\aM L c k<=L.length:=by have:=kc L c (L.length - k) k;unfold aM;omega
def bm (L : LL) (i j : Nat) : LL:=(L.set i (af L j)).set j (af L i)
def bW (O : aL) (pv : LI) (c : Nat) (r : LI) : LI:=if nth r c=0 then r else cw O r (O.neg (nth r c)) pv
def aT (O : aL) (t c : Nat) (L : LL) : Nat->LL
 | 0=>L
 | i+1=>if i=t then aT O t c L i else (aT O t c L i).set i (bW O (af (aT O t c L i) t) c (af (aT O t c L i) i))
def bw (O : aL) (L : LL) (t c : Nat) : LL:=if O.inv (nth (af L t) c)=1 then L else L.set t ((af L t).map (O.mul (O.inv (nth (af L t) c))))
def et (O : aL) (L : LL) (t k c : Nat) : LL :=
 let L1:=if k=t then L else bm L t k
 let L2:=bw O L1 t c
 aT O t c L2 L2.length
def aB (O : aL) (L : LL) : Nat->LL × LI
 | 0=>(L,[])
 | c+1 =>
  let s:=aB O L c
  if s.2.length<s.1.length then
   if aM s.1 c s.2.length=s.1.length then s
   else (et O s.1 s.2.length (aM s.1 c s.2.length) c,s.2 ++ [(c : Int)])
  else s
theorem dc (L : LL) (i j : Nat) : (bm L i j).length=L.length:=by simp [bm]
theorem cR (O : aL) (t c : Nat) (L : LL) : ∀i,(aT O t c L i).length=L.length
 | 0=>rfl
 | i+1=>by unfold aT;split <;> simp [cR O t c L i]
theorem cP (O : aL) (L : LL) (t c : Nat) : (bw O L t c).length=L.length:=by unfold bw;split <;> simp
theorem dt (O : aL) (L : LL) (t k c : Nat) : (et O L t k c).length=L.length:=by unfold et;simp only [cR,cP];split <;> simp [dc]
theorem cN (O : aL) (L : LL) : ∀c,(aB O L c).1.length=L.length
 | 0=>rfl
 | c+1=>by
  unfold aB;simp only;split
  ·split <;> simp [dt,cN O L c]
  ·exact cN O L c
theorem e9 (O : aL) (L : LL) : ∀c,(aB O L c).2.length<=c/\(aB O L c).2.length<=L.length
 | 0=>by simp [aB]
 | c+1=>by
  have ih:=e9 O L c;have hl:=cN O L c;unfold aB;simp only;split
  ·split
   ·omega
   ·simp only [ER,E0];omega
  ·omega
def bx (El : Int->Prop) (m : Nat) (L : LL) : Prop:=∀r ∈ L,r.length=m/\∀x ∈ r,El x
theorem bx.row {El : Int->Prop} {m : Nat} {L : LL} (h : bx El m L) {i : Nat} (hi : i<L.length) : (af L i).length=m/\∀x ∈ af L i,El x:=h _ (dN hi)
theorem bx.set {El : Int->Prop} {m : Nat} {L : LL} (h : bx El m L) (i : Nat) {r : LI} (hr : r.length=m/\∀x ∈ r,El x) : bx El m (L.set i r):=by
 intro x hx;rcases FK hx with h1 | rfl
 ·exact h x h1
 ·exact hr
structure pz (O : aL) (El : Int->Prop) : Prop where
 add : ∀x y,El x->El y->El (O.add x y)
 mul : ∀x y,El x->El y->El (O.mul x y)
 neg : ∀x,El x->El (O.neg x)
 inv : ∀x,El x->x ≠ 0->El (O.inv x)
theorem qq {O : aL} {El : Int->Prop} (hO : pz O El) {v u : LI} {s : Int} (hv : ∀x ∈ v,El x) (hu : ∀x ∈ u,El x) (hs : El s) : ∀x ∈ cw O v s u,El x:=by
 intro x hx;unfold cw at hx;rw [GN] at hx;obtain ⟨i,hi,rfl⟩:=hx;rw [GO];simp only [GW] at hi;split
 ·exact hv _ (Fj _)
 ·exact hO.add _ _ (hv _ (Fj _)) (hO.mul _ _ hs (hu _ (Fj _)))
theorem bx.swap {El : Int->Prop} {m : Nat} {L : LL} (h : bx El m L) {i j : Nat} (hi : i<L.length) (hj : j<L.length) : bx El m (bm L i j) :=
 (h.set i (h.row hj)).set j (h.row hi)
theorem bx.bW {O : aL} {El : Int->Prop} {m : Nat} (hO : pz O El) {r pv : LI} {c : Nat} (hc : c<m) (hr : r.length=m/\∀x ∈ r,El x) (hp : pv.length=m/\∀x ∈ pv,El x) :
  (bW O pv c r).length=m/\∀x ∈ bW O pv c r,El x:=by
 unfold Proofs.YtjfiflldinnhmaaGreat.bW;split
 ·exact hr
 ·exact ⟨by rw [dT _ _ _ _ (by omega)];exact hr.1,qq hO hr.2 hp.2 (hO.neg _ (hr.2 _ (aO (by omega))))⟩
theorem bx.clear {O : aL} {El : Int->Prop} {m : Nat} {L : LL} (hO : pz O El) (h : bx El m L) {t c : Nat} (ht : t<L.length) (hc : c<m) : ∀i,i<=L.length->bx El m (aT O t c L i)
 | 0,_=>h
 | i+1,hi=>by
  have ih:=bx.clear hO h ht hc i (by omega);unfold aT;split
  ·exact ih
  ·exact ih.set i (bx.bW hO hc (ih.row (by rw [cR];omega)) (ih.row (by rw [cR];omega)))
theorem bx.norm {O : aL} {El : Int->Prop} {m : Nat} {L : LL} (hO : pz O El) (h : bx El m L) {t c : Nat} (ht : t<L.length) (hc : c<m) (h0 : nth (af L t) c ≠ 0) : bx El m (bw O L t c):=by
 unfold bw;split
 ·exact h
 ·refine h.set t ⟨by rw [Fo];exact (h.row ht).1,λx hx=>?_⟩;obtain ⟨y,hy,rfl⟩:=List.mem_map.1 hx;exact hO.mul _ _ (hO.inv _ ((h.row ht).2 _ (aO (by rw [(h.row ht).1];exact hc))) h0) ((h.row ht).2 y hy)
theorem fh {O : aL} {L : LL} {k : Nat} (h : (aB O L k).2.length=L.length) : ∀d,aB O L (k+d)=aB O L k
 | 0=>rfl
 | d+1=>by have ih:=fh h d;show aB O L ((k+d)+1)=_;rw [aB];simp only [ih];rw [EG (by rw [cN];omega)]
theorem dn {O : aL} {L Lk : LL} {P : LI} {k : Nat} (h : (Lk,P)=aB O L k) (hlt : P.length<Lk.length) :
  aB O L (k+1)=if aM Lk k P.length=Lk.length then (Lk,P) else (et O Lk P.length (aM Lk k P.length) k,P ++ [(k : Int)]):=by rw [aB];simp only [<- h];rw [EH hlt]
theorem gH (O : aL) (L : LL) (t k c : Nat) : et O L t k c=aT O t c (bw O (if k=t then L else bm L t k) t c) L.length:=by unfold et;simp only [cP];split <;> simp [dc]
section
def bf (w w' : World) : Prop:=∃n,w'=w.drewN n
theorem bf.refl (w : World) : bf w w:=⟨0,rfl⟩
theorem bf.drewN {w w' : World} (h : bf w w') (n : Nat) : bf w (w'.drewN n):=by obtain ⟨m,rfl⟩:=h;exact ⟨m+n,by rw [World.drewN_drewN]⟩
theorem bf.drew {w w' : World} (h : bf w w') : bf w w'.drew:=h.drewN 1
theorem bf.below {w w' : World} (h : bf w w') : JA w w':=by obtain ⟨m,rfl⟩:=h;exact below_drewN (EI _ _) m
theorem bf.heap {w w' : World} (h : bf w w') : w'.heap=w.heap:=by obtain ⟨m,rfl⟩:=h;rfl
theorem bf.cell {w w' : World} (h : bf w w') {p : Addr} {v : Value} (hc : w.cell? p=some v) : w'.cell? p=some v:=by obtain ⟨m,rfl⟩:=h;exact hc
theorem bf.frozen {w w' : World} (h : bf w w') {p : Addr} {v : Bool} (hc : w.frozen? p=v) : w'.frozen? p=v:=by obtain ⟨m,rfl⟩:=h;exact hc
theorem bf.wR {w0 w w' : World} {B : Nat} (h : bf w w') (hb : Below B w0 w) : Below B w0 w':=by obtain ⟨m,rfl⟩:=h;exact below_drewN hb m
def cC.ops (G : cC) : aL:=⟨G.add,G.mul,G.neg,G.inv⟩
theorem cC.cl {w : World} {b : Nat} {G : cC} (h : dY w b G) : pz G.ops G.El:=⟨λx y _ _=>cC.Ak h x y,λx y _ _=>Jw h x y,λx _=>cC.vk h x,λx _ _=>cC.sL h x⟩
def bT (a : OA) (w w' : World) : Prop:=aw w w' (λb=>a ≠ none/\b=ah a) (λb=>a ≠ none/\b=ah a)
theorem bT.refl (a : OA) (w : World) : bT a w w:=aw.refl _ _
theorem bT.trans {a : OA} {w w' w'' : World} (h : bT a w w') (k : bT a w' w'') : bT a w w'' := aw.trans h k
theorem bT.drawn {a : OA} {w w' : World} (h : bf w w') : bT a w w':=aw.aV h.below _
theorem bT.set {a : OA} (w : World) (i : Nat) (v : Value) (ha : a ≠ none) : bT a w (w.setCell ⟨ah a,aG a+i,none⟩ v):=by have hb0 : Below 0 w (w.setCell ⟨ah a,aG a+i,none⟩ v):=(EI 0 w).setCell (EL _) v;exact ⟨hb0.os,hb0.tape,hb0.output,hb0.size,λb hb hI=>EZ _ _ _ _ λe=>hI ⟨ha,e⟩,λb hb=>.inl hb⟩
theorem bT.ints {a : OA} {w w' : World} (h : bT a w w') {u : OA} {n : Nat} {l : LI} (hi : Ints w u n l) (hu : a=none\/u=none\/ah u ≠ ah a) : Ints w' u n l:=by
 refine hi.of_block λhn=>h.block _ (hi.lt hn) ?_;rintro ⟨h1,h2⟩;rcases hu with hu | hu | hu
 ·exact h1 hu
 ·have:=hi.pl hn;rw [hu] at this;cases this
 ·exact hu h2
theorem bT.below {a : OA} {w w' : World} {B : Nat} (h : bT a w w') (ha : a ≠ none->B<=ah a) (hB : B<=w.heap.size) : Below B w w':=aw.below h (λ_ hb=>by rw [hb.2];exact ha hb.1) hB
variable {w : World} {b : Nat} {G : cC}
theorem xk (w0 : World) (av : OA) (cv n : Nat) (v : LI) (s : Int) (au : OA) (cu : Nat) (u : LI) (h : dY w0 b G) (hb : JA w0 w)
  (hv : w.ownsRow w0.heap.size 3 1 (.slice av n cv) n (v.map (Value.int .i64))) (hu : Ints w au n u) (hap : av=none\/au=none\/ah au ≠ ah av)
  (hve : ∀x ∈ v,G.El x) (hue : ∀x ∈ u,G.El x) (hs : G.El s) :
  Calls prog 227 #[.pointer (some ⟨b,0,none⟩),.slice av n cv,.int .i64 s,.slice au n cu] w
   λe w'=>e = .returned (.tuple #[])/\w'.ownsRow w0.heap.size 3 1 (.slice av n cv) n ((cw G.ops v s u).map (Value.int .i64))/\bT av w w':=by
 have hul:=hu.len;have hvl : v.length=n:=by simpa using iw hv
 have hmax:=hu.max;unfold maxLen at hmax;have hpu:=hu.pl;have hpv:=(I9 hv).1.pl;have hav : 0<n->av ≠ none:=λhn e=>by have:=hpv hn;rw [e] at this;cases this
 have hll : (cw G.ops v s u).length=v.length:=dT _ _ _ _ (by omega);have hnth:=λi=>gM G.ops v s u i (by omega);have Hnth:=Z5 hnth;have Hul:=Z5 hul;have Hvl:=Z5 hvl;have Hll:=Z5 hll;have Hav:=Z5 hav;have Hve:=Z5 hve;have Hue:=Z5 hue;clear hnth hul hvl hll hav hve hue;generalize cw G.ops v s u=N at *;go_enter func227,ntmps227;go_wp2_with fail;go_loopw [12] (λiv wr=>∃k : Nat,k<=n/\iv = .int .i64 k/\wr.ownsRow w0.heap.size 3 1 (.slice av n cv) n ((ei N v k).map (Value.int .i64))/\bT av w wr) (λiv _=>n - (intOf iv).toNat);case atStart=>exact ⟨0,EL _,rfl,by rw [ew];exact hv,bT.refl _ _⟩
 case round =>
  obtain ⟨k,hk,rfl,hown,honly⟩:=hrel
  by_cases hlt : k<n
  ·have hiu:=honly.ints hu hap
   have cu1:=hiu.cell k hlt
   have hkN : N.length=v.length:=Hll.out
   have hkv : k<v.length:=by rw [Hvl.out];exact hlt
   have hval:=Hnth.out k hkv
   have hmix:=dR N v k k hkN (by omega)
   rw [EG (by omega)] at hmix
   by_cases hz : nth u k=0
   ·rw [EH hz] at hval
    have hsame:=vU N v k hkN hkv hval
    have Hsame:=Z5 hsame
    clear hval hmix hsame hkN hkv
    go_wp2_with fail
    go_roundw
    case rel=>exact ⟨k+1,by omega,by go_num,by rw [Hsame.out];exact hown,honly⟩
    case measure=>simp [intOf] <;> omega
   ·rw [EG hz] at hval
    have hset:=dW N v k hkN hkv
    obtain ⟨hiv,hmv⟩:=I9 hown
    have cv1:=hiv.cell k hlt
    have fv1:=(hmv (by omega)).2 k hlt
    rw [hmix] at cv1
    have elv : G.El (nth v k):=Hve.out _ (aO hkv)
    have elu : G.El (nth u k):=Hue.out _ (aO (by rw [Hul.out];exact hlt))
    have hGr : dY wr b G:=h.aa (Ft hb (honly.below (λha=>(aU hv ha).1) hb.size))
    have Hval:=Z5 hval
    have Hset:=Z5 hset
    have hS : ∀W,bf wr W->W.cell? ⟨ah av,aG av+k,none⟩=some (.int .i64 (nth v k))/\W.frozen? ⟨ah av,aG av+k,none⟩=false/\dY W b G/\bf wr W :=
     λW hW=>⟨hW.cell cv1,hW.frozen fv1,hGr.aa hW.below,hW⟩
    have HS:=Z5 hS
    have elm : ∀x y,G.El (G.mul x y):=λx y=>Jw h x y
    have hz' : (nth u k != 0)=true:=by simpa using hz
    clear hval hmix hset hkN hkv hS hz
    go_wp2_with fail
    have HG : Hid (dY wr.drew b G/\∀n,dY (wr.drewN n) b G):=⟨hGr.aa (EI _ _).drew,λn=>hGr.drewN n⟩
    go_region_law ((first
     | (go_simp;go_at_call 77;((with_reducible refine (o0 s (nth u k) HG.out.1 hs elu).mono ?_);rintro e w4 ⟨m4,rfl,rfl⟩))
     | (go_simp;go_at_call 77;((with_reducible refine (o0 s (nth u k) (HG.out.2 _) hs elu).mono ?_);rintro e w4 ⟨m4,rfl,rfl⟩))
     | (go_simp;go_at_call 76;((with_reducible refine (Eu (nth v k) (G.mul s (nth u k)) (HG.out.2 _) elv (elm _ _)).mono ?_);rintro e w4 ⟨m5,rfl,rfl⟩))))
    all_goals (
     go_wp2_with fail
     go_roundw
     case rel =>
      have hdr : bf wr (wr.drewN (1+m4+m5)):=⟨_,rfl⟩
      refine ⟨k+1,by omega,by go_num,?_,honly.trans ((bT.drawn hdr).trans (bT.set _ k _ (Hav.out (by omega))))⟩
      have h1:=bz (w:=wr.drewN (1+m4+m5)) hown k hlt (.int .i64 (nth N k))
      rw [<- Ff,Hset.out,Hval.out] at h1
      exact h1
     case measure=>simp [intOf] <;> omega)
  ·obtain rfl : k=n:=by omega
   rw [fb N v k (by rw [Hll.out,Hvl.out]) Hvl.out] at hown
   go_wp2_with fail
   go_end0
   exact ⟨rfl,hown,honly⟩
end
section
variable {w : World} {b : Nat} {G : cC}
def oT (R : LA) (i j : Nat) : LA:=(R.set i (aK R j)).set j (aK R i)
theorem lp (R : LA) (i j : Nat) : (oT R i j).length=R.length:=by simp [oT]
def js (t k i : Nat) : Nat:=if i=k then t else if i=t then k else i
theorem iR (R : LA) (t k i : Nat) (ht : t<R.length) (hk : k<R.length) : aK (oT R t k) i=aK R (js t k i):=by
 unfold oT js;rw [fu _ _ _ _ (by simpa using hk),fu _ _ _ _ ht];split
 ·rfl
 ·split <;> rfl
theorem mB (L : LL) (t k i : Nat) (ht : t<L.length) (hk : k<L.length) : af (bm L t k) i=af L (js t k i):=by
 unfold bm js;rw [eg _ _ _ _ (by simpa using hk),eg _ _ _ _ ht];split
 ·rfl
 ·split <;> rfl
theorem jM {t k i n : Nat} (ht : t<n) (hk : k<n) (hi : i<n) : js t k i<n:=by unfold js;split <;> (try split) <;> assumption
theorem AO {t k i j : Nat} (h : i ≠ j) : js t k i ≠ js t k j:=by unfold js;split <;> split <;> (try split) <;> (try split) <;> omega
theorem aN.swap {B : Nat} {a : OA} {n c : Nat} {R : LA} {L : LL} (h : aN w B a n c R L) {t k : Nat} (ht : t<n) (hk : k<n) :
  aN ((w.setCell ⟨ah a,aG a+t,none⟩ (.slice (aK R k).1 (af L k).length (aK R k).2)).setCell ⟨ah a,aG a+k,none⟩ (.slice (aK R t).1 (af L t).length (aK R t).2)) B a n c (oT R t k) (bm L t k):=by
 have hRt : t<R.length:=by rw [h.rl];exact ht
 have hRk : k<R.length:=by rw [h.rl];exact hk
 have hLt : t<L.length:=by rw [h.ll];exact ht
 have hLk : k<L.length:=by rw [h.ll];exact hk
 refine ⟨by rw [lp];exact h.rl,by rw [dc];exact h.ll,?_,λi hi=>?_,λi hi=>?_,λi j hi hj hij=>?_⟩
 ·have h1:=bz (bz h.own t ht (.slice (aK R k).1 (af L k).length (aK R k).2)) k hk (.slice (aK R t).1 (af L t).length (aK R t).2);rw [show (List.zipWith gU R L).set t (.slice (aK R k).1 (af L k).length (aK R k).2)=_ from sc R L t (aK R k) (af L k)] at h1;rw [show (List.zipWith gU (R.set t (aK R k)) (L.set t (af L k))).set k (.slice (aK R t).1 (af L t).length (aK R t).2)=_ from sc _ _ k (aK R t) (af L t)] at h1;exact h1
 ·rw [iR _ _ _ _ hRt hRk,mB _ _ _ _ hLt hLk];have hf:=jM ht hk hi;exact cY (p:=⟨ah a,aG a+k,none⟩) (cY (p:=⟨ah a,aG a+t,none⟩) (h.row _ hf) _ (h.mM _ hf)) _ (h.mM _ hf)
 ·rw [iR _ _ _ _ hRt hRk];exact h.mM _ (jM ht hk hi)
 ·rw [iR _ _ _ _ hRt hRk,iR _ _ _ _ hRt hRk];exact h.sep _ _ (jM ht hk hi) (jM ht hk hj) (AO hij)
theorem bH.swap {a : OA} {R : LA} {t k b : Nat} (ht : t<R.length) (hk : k<R.length) (h : bH a (oT R t k) b) : bH a R b:=by
 rcases h with h | ⟨i,hi,h1,rfl⟩
 ·exact .inl h
 ·rw [lp] at hi;rw [iR _ _ _ _ ht hk] at h1 ⊢;exact aN.ku (jM ht hk hi) h1
theorem aN.oJ {B : Nat} {a : OA} {n c : Nat} {R : LA} {L : LL} (h : aN w B a n c R L) {t k : Nat} (ht : t<n) (hk : k<n) (u v : Value) :
  aw w ((w.setCell ⟨ah a,aG a+t,none⟩ u).setCell ⟨ah a,aG a+k,none⟩ v) (bH a R) (bH a (oT R t k)):=by have hb0 : Below 0 w ((w.setCell ⟨ah a,aG a+t,none⟩ u).setCell ⟨ah a,aG a+k,none⟩ v):=((EI 0 w).setCell (EL _) u).setCell (EL _) v;have hne:=h.ne (by omega);refine ⟨hb0.os,hb0.tape,hb0.output,hb0.size,λb hb hI=>?_,λb hb=>.inl (bH.swap (by rw [h.rl];exact ht) (by rw [h.rl];exact hk) hb)⟩;rw [EZ _ _ _ _ λe=>hI (.inl ⟨hne,e⟩),EZ _ _ _ _ λe=>hI (.inl ⟨hne,e⟩)]
theorem aN.drew {B : Nat} {a : OA} {n c : Nat} {R : LA} {L : LL} (h : aN w B a n c R L) : aN w.drew B a n c R L:=h.aa (EI _ _).drew
theorem aw.drew {w w' : World} {I I' : Nat->Prop} (h : aw w w' I I') : aw w w'.drew I I':=⟨h.os,h.tape,h.output,h.size,h.block,h.grow⟩
theorem zN (B : Nat) (a : OA) (n c : Nat) (R : LA) (L : LL) (pk pt k t : Nat) (hO : aN w B a n c R L)
  (hk : w.cell? ⟨pk,0,none⟩=some (.int .i64 k)) (ht : w.cell? ⟨pt,0,none⟩=some (.int .i64 t)) (hkn : k<n) (htn : t<n) (hkt : k ≠ t) (nk : ¬ bH a R pk) (nt : ¬ bH a R pt) :
  Calls prog 276 #[.slice a n c,.pointer (some ⟨pk,0,none⟩),.pointer (some ⟨pt,0,none⟩)] w
   λe w'=>e = .returned (.tuple #[])/\∃R',aN w' B a n c R' (bm L t k)/\aw w w' (bH a R) (bH a R'):=by
 have hpl:=hO.pl;have ck:=hO.cell hkn;have ct:=hO.cell htn;have fk:=hO.frozen hkn;have ft:=hO.frozen htn;have hane : a ≠ none:=hO.ne (by omega);have npk : pk ≠ ah a:=λe=>nk (.inl ⟨hane,e⟩);have npt : pt ≠ ah a:=λe=>nt (.inl ⟨hane,e⟩);have k1 : (w.setCell ⟨ah a,aG a+t,none⟩ (.slice (aK R k).1 (af L k).length (aK R k).2)).cell? ⟨pk,0,none⟩=some (.int .i64 k):=by rw [EY _ _ _ _ (by simp [npk])];exact hk
 have k2 : (w.setCell ⟨ah a,aG a+t,none⟩ (.slice (aK R k).1 (af L k).length (aK R k).2)).cell? ⟨pt,0,none⟩=some (.int .i64 t):=by rw [EY _ _ _ _ (by simp [npt])];exact ht
 have k3 : (w.setCell ⟨ah a,aG a+t,none⟩ (.slice (aK R k).1 (af L k).length (aK R k).2)).cell? ⟨ah a,aG a+k,none⟩=some (.slice (aK R k).1 (af L k).length (aK R k).2):=by rw [EY _ _ _ _ (by simp <;> omega)];exact ck
 go_enter func276,ntmps276;go_wp2_with fail;go_region;have hO2:=(hO.swap htn hkn).drew;have hM2:=(hO.oJ htn hkn (.slice (aK R k).1 (af L k).length (aK R k).2) (.slice (aK R t).1 (af L t).length (aK R t).2)).drew;go_wp2_with fail;go_end0;exact ⟨rfl,_,hO2,hM2⟩
theorem xZ (w0 : World) (a : OA) (n c : Nat) (R : LA) (L : LL) (pg ps pt : Nat) (s : Int) (t : Nat) (hO : aN w w0.heap.size a n c R L)
  (h : dY w0 b G) (hb : JA w0 w)
  (hg : w.cell? ⟨pg,0,none⟩=some (.pointer (some ⟨b,0,none⟩))) (hs : w.cell? ⟨ps,0,none⟩=some (.int .i64 s)) (ht : w.cell? ⟨pt,0,none⟩=some (.int .i64 t)) (htn : t<n) (hse : G.El s)
  (hel : G.CL (af L t)) (hln : (af L t).length<=1000000) :
  Calls prog 277 #[.slice a n c,.pointer (some ⟨pg,0,none⟩),.pointer (some ⟨ps,0,none⟩),.pointer (some ⟨pt,0,none⟩)] w
   λe w'=>e = .returned (.tuple #[])/\∃R',aN w' w0.heap.size a n c R' (L.set t ((af L t).map (G.mul s)))/\aw w w' (bH a R) (bH a R'):=by
 have hpl:=hO.pl;have ct:=hO.cell htn;have ft:=hO.frozen htn;have hi:=hO.ints htn;have hG:=h.aa hb;have hS : ∀W,JA w W->W.cell? ⟨pg,0,none⟩=some (.pointer (some ⟨b,0,none⟩))/\W.cell? ⟨ps,0,none⟩=some (.int .i64 s)/\W.cell? ⟨pt,0,none⟩=some (.int .i64 t) /\
   W.cell? ⟨ah a,aG a+t,none⟩=some (.slice (aK R t).1 (af L t).length (aK R t).2)/\W.frozen? ⟨ah a,aG a+t,none⟩=false/\JA w W :=
  λW hW=>⟨aj hW hg,aj hW hs,aj hW ht,aj hW ct,(hO.aa hW).frozen htn,hW⟩
 have HS:=Z5 hS;clear hS;have hF : ∀w4 a4 c4,w4.ownsRow w.drew.heap.size 3 1 (.slice a4 ((af L t).map (G.mul s)).length c4) ((af L t).map (G.mul s)).length (((af L t).map (G.mul s)).map (Value.int .i64))->Below w.drew.heap.size w.drew w4 ->
   ∃R',aN (w4.setCell ⟨ah a,aG a+t,none⟩ (.slice a4 (af L t).length c4)) w0.heap.size a n c R' (L.set t ((af L t).map (G.mul s)))/\aw w (w4.setCell ⟨ah a,aG a+t,none⟩ (.slice a4 (af L t).length c4)) (bH a R) (bH a R'):=by
  intro w4 a4 c4 hown4 hb4;have hb5 : JA w w4:=I8 (EI _ _).drew hb4;have hO4:=hO.aa hb5;have hsz : w.drew.heap.size=w.heap.size:=rfl;rw [hsz] at hown4;have hnew : ∀b,b<w.heap.size->db a4 b:=λb hb=>la hown4 hb;have h1:=hO4.setRow htn (aW hown4 hb.size) (hnew _ (hO.lt _ (.inl ⟨hO.ne (by omega),rfl⟩)).2) (λj hj _=>by
   by_cases hn : (aK R j).1=none
   ·exact .inl hn
   ·exact .inr (hnew _ (hO.lt _ (aN.ku (by rw [hO.rl];exact hj) hn)).2))
  have h2:=hO.kr hb5 htn (r:=a4) (rc:=c4) (.slice a4 ((af L t).map (G.mul s)).length c4) (λha=>.inr (aU hown4 ha).1);rw [Fo] at h1 h2;exact ⟨_,h1,h2⟩
 have HF:=Z5 hF;clear hF;go_enter func277,ntmps277;go_wp2_with fail;go_region_law ((first
  | (go_simp;go_at_call 86;((with_reducible refine (wS s _ _ _ _ (hG.aa (EI _ _).drew) hse (hi.aa (EI _ _).drew) hel hln).mono ?_);rintro e w4 ⟨a4,c4,rfl,hown4,hb4⟩;obtain ⟨q0,q1,q2,q3,q4,q5⟩:=HS.out w4 (I8 (EI _ _).drew hb4)))))
 all_goals (
  go_wp2_with fail
  go_end0
  exact ⟨rfl,HF.out _ _ _ hown4 hb4⟩)
end
section
variable {w : World} {b : Nat} {G : cC}
theorem bT.dm {a av : OA} {R : LA} {w w' : World} (h : bT av w w') (hin : av ≠ none->bH a R (ah av)) : aw w w' (bH a R) (bH a R) :=
 ⟨h.os,h.tape,h.output,h.size,λb hb hI=>h.block b hb (λ⟨h1,h2⟩=>hI (by rw [h2];exact hin h1)),λ_ h=>.inl h⟩
theorem xW (w0 : World) (a : OA) (n c : Nat) (R : LA) (L : LL) (pg pi px pt m : Nat) (i : Nat) (x : Int) (t : Nat) (hO : aN w w0.heap.size a n c R L)
  (h : dY w0 b G) (hb : JA w0 w)
  (hg : w.cell? ⟨pg,0,none⟩=some (.pointer (some ⟨b,0,none⟩))) (hi : w.cell? ⟨pi,0,none⟩=some (.int .i64 i)) (hx : w.cell? ⟨px,0,none⟩=some (.int .i64 x)) (ht : w.cell? ⟨pt,0,none⟩=some (.int .i64 t))
  (hin : i<n) (htn : t<n) (hit : i ≠ t) (hxe : G.El x) (ng : ¬ bH a R pg) (ni : ¬ bH a R pi) (nx : ¬ bH a R px) (nt : ¬ bH a R pt) (hei : G.CL (af L i)) (het : G.CL (af L t)) (hli : (af L i).length=m) (hlt : (af L t).length=m) :
  Calls prog 278 #[.slice a n c,.pointer (some ⟨pg,0,none⟩),.pointer (some ⟨pi,0,none⟩),.pointer (some ⟨px,0,none⟩),.pointer (some ⟨pt,0,none⟩)] w
   λe w'=>e = .returned (.tuple #[])/\aN w' w0.heap.size a n c R (L.set i (cw G.ops (af L i) (G.neg x) (af L t)))/\aw w w' (bH a R) (bH a R):=by
 have hpl:=hO.pl;have ct:=hO.cell htn;have ci:=hO.cell hin;have ri:=hO.row i hin;have rt:=hO.ints htn;have hsep:=hO.sep i t hin htn hit;have hne : G.El (G.neg x):=cC.vk h x;rw [hlt] at ct rt;rw [hli] at ci ri;have hap : (aK R i).1=none\/(aK R t).1=none\/ah (aK R t).1 ≠ ah (aK R i).1:=hsep;have hadd : ∀k,Calls prog 227 #[.pointer (some ⟨b,0,none⟩),.slice (aK R i).1 m (aK R i).2,.int .i64 (G.neg x),.slice (aK R t).1 m (aK R t).2] (w.drewN k)
   λe w'=>e = .returned (.tuple #[])/\(w'.cell? ⟨pg,0,none⟩=some (.pointer (some ⟨b,0,none⟩))/\w'.cell? ⟨pi,0,none⟩=some (.int .i64 i)/\w'.cell? ⟨px,0,none⟩=some (.int .i64 x)/\w'.cell? ⟨pt,0,none⟩=some (.int .i64 t) /\
    w'.cell? ⟨ah a,aG a+t,none⟩=some (.slice (aK R t).1 m (aK R t).2)/\w'.cell? ⟨ah a,aG a+i,none⟩=some (.slice (aK R i).1 m (aK R i).2))/\(aN w' w0.heap.size a n c R (L.set i (cw G.ops (af L i) (G.neg x) (af L t)))/\aw w w' (bH a R) (bH a R)):=by
  intro k;have hd : bf w (w.drewN k):=⟨k,rfl⟩
  refine (xk w0 _ _ m (af L i) (G.neg x) _ _ (af L t) h (hd.wR hb) (aY ri hd.below) (rt.aa hd.below) hap hei het hne).mono ?_;rintro e w' ⟨rfl,hown,honly⟩;have hmv : aw w w' (bH a R) (bH a R):=(aw.aV hd.below _).trans (honly.dm (λhn=>aN.ku (by rw [hO.rl];exact hin) hn));have hne2 : ¬ ((aK R i).1 ≠ none/\ah a=ah (aK R i).1):=by
   rintro ⟨h1,h2⟩;rcases hO.mM i hin with h3 | h3
   ·exact h1 h3
   ·exact h3 h2.symm
  refine ⟨rfl,⟨hmv.cell hg ng,hmv.cell hi ni,hmv.cell hx nx,hmv.cell ht nt,aw.cell (aw.trans (aw.aV hd.below _) honly) ct hne2,aw.cell (aw.trans (aw.aV hd.below _) honly) ci hne2⟩,?_,hmv⟩;have hOr:=hO.aa hd.below;have hl : (cw G.ops (af L i) (G.neg x) (af L t)).length=(af L i).length:=dT _ _ _ _ (by rw [hli,hlt]);refine hOr.CF hin hl (by rw [hli];exact hown) λb hb hne=>honly.block b hb λ⟨h1,h2⟩=>?_;rcases hne with h3 | h3
  ·exact h1 h3
  ·exact h3 h2
 have Hadd:=Z5 hadd;have hG:=h.aa hb;have HG : Hid (dY w.drew b G/\∀n,dY (w.drewN n) b G):=⟨hG.aa (EI _ _).drew,λn=>hG.drewN n⟩
 clear hadd hsep hap hli hlt;generalize L.set i (cw G.ops (af L i) (G.neg x) (af L t))=L' at *;go_enter func278,ntmps278;go_wp2_with fail;go_region_held3 (fun w' => w'.cell? ⟨pg, 0, none⟩ = some (.pointer (some ⟨b, 0, none⟩)) ∧ w'.cell? ⟨pi, 0, none⟩ = some (.int .i64 i) ∧ w'.cell? ⟨px, 0, none⟩ = some (.int .i64 x) ∧ w'.cell? ⟨pt, 0, none⟩ = some (.int .i64 t) ∧
       w'.cell? ⟨ah a,aG a+t,none⟩=some (.slice (aK R t).1 m (aK R t).2)/\w'.cell? ⟨ah a,aG a+i,none⟩=some (.slice (aK R i).1 m (aK R i).2))
  (first | assumption | exact ⟨hg,hi,hx,ht,ct,ci⟩)
  (first
  | (go_at_call 139;((with_reducible refine (C4 x HG.out.1 hxe).mono ?_);rintro e w4 ⟨m4,rfl,rfl⟩))
  | (go_at_call 227;((with_reducible refine (Hadd.out _).mono ?_);rintro e w5 ⟨rfl,hS5,hO5,hM5⟩)))
 go_wp2_with fail;go_end0;exact ⟨rfl,hO5,hM5⟩
end
section
variable {w : World}
theorem yW (c0 c1 : Value) (p q : Nat) (a : OA) (n c : Nat) (X : World->Prop) (h1 : w.cell? ⟨p,0,none⟩=some (.slice a n c))
  (hf : Calls prog 276 #[.slice a n c,c0,c1] w λe w'=>e = .returned (.tuple #[])/\w'.cell? ⟨q,0,none⟩=some (.slice none 0 0)/\X w') :
  Calls prog 275 #[.func (.func 276) #[] #[c0,c1],.pointer (some ⟨p,0,none⟩),.pointer (some ⟨q,0,none⟩)] w
   λe w'=>e = .returned (.tuple #[])/\X w':=by have Hf:=Z5 hf;clear hf;go_enter func275,ntmps275;go_wp2_with fail;refine Hf.out.mono ?_;rintro e w' ⟨rfl,hq,hX⟩;go_wp2_with fail;go_end0;exact ⟨rfl,hX⟩
theorem yC (c0 c1 c2 : Value) (p q : Nat) (a : OA) (n c : Nat) (X : World->Prop) (h1 : w.cell? ⟨p,0,none⟩=some (.slice a n c))
  (hf : Calls prog 277 #[.slice a n c,c0,c1,c2] w λe w'=>e = .returned (.tuple #[])/\w'.cell? ⟨q,0,none⟩=some (.slice none 0 0)/\X w') :
  Calls prog 275 #[.func (.func 277) #[] #[c0,c1,c2],.pointer (some ⟨p,0,none⟩),.pointer (some ⟨q,0,none⟩)] w
   λe w'=>e = .returned (.tuple #[])/\X w':=by have Hf:=Z5 hf;clear hf;go_enter func275,ntmps275;go_wp2_with fail;refine Hf.out.mono ?_;rintro e w' ⟨rfl,hq,hX⟩;go_wp2_with fail;go_end0;exact ⟨rfl,hX⟩
theorem yQ (c0 c1 c2 c3 : Value) (p q : Nat) (a : OA) (n c : Nat) (X : World->Prop) (h1 : w.cell? ⟨p,0,none⟩=some (.slice a n c))
  (hf : Calls prog 278 #[.slice a n c,c0,c1,c2,c3] w λe w'=>e = .returned (.tuple #[])/\w'.cell? ⟨q,0,none⟩=some (.slice none 0 0)/\X w') :
  Calls prog 275 #[.func (.func 278) #[] #[c0,c1,c2,c3],.pointer (some ⟨p,0,none⟩),.pointer (some ⟨q,0,none⟩)] w
   λe w'=>e = .returned (.tuple #[])/\X w':=by have Hf:=Z5 hf;clear hf;go_enter func275,ntmps275;go_wp2_with fail;refine Hf.out.mono ?_;rintro e w' ⟨rfl,hq,hX⟩;go_wp2_with fail;go_end0;exact ⟨rfl,hX⟩
end
theorem iT (w : World) (cs : Array Value) (e : TypeId) {g : Nat} (hg : g=w.heap.size) (i : Nat) : (w.alloc (.cells cs e)).frozen? ⟨g,i,none⟩=false:=by subst hg;simp
theorem iq {w w' : World} (hb : JA w w') {g i : Nat} (hg : g<w.heap.size) {v : Bool} (h : w.frozen? ⟨g,i,none⟩=v) : w'.frozen? ⟨g,i,none⟩=v:=(hb.frozen (p:=⟨g,i,none⟩) hg).trans h
theorem bV {w : World} {g i : Nat} {v : Bool} (hg : g<w.heap.size) (h : w.frozen? ⟨g,i,none⟩=v) (o : Obj) : (w.alloc o).frozen? ⟨g,i,none⟩=v:=iq ((EI _ _).alloc (EF _) o) hg h
def ba (w : World) (b : Nat) (cs : List Value) : Prop:=b<w.heap.size/\(∀i v,cs[i]? = some v->w.cell? ⟨b,i,none⟩=some v)/\∀i,w.frozen? ⟨b,i,none⟩=false
theorem ba.new (w : World) (cs : List Value) (e : TypeId) {g : Nat} (hg : g=w.heap.size) : ba (w.alloc (.cells cs.toArray e)) g cs :=
 ⟨by subst hg;simp,λi v hv=>by rw [aC _ _ _ hg i];simpa using hv,λi=>iT _ _ _ hg i⟩
theorem ba.aa {w w' : World} {b : Nat} {cs : List Value} (h : ba w b cs) (hb : JA w w') : ba w' b cs :=
 ⟨Fc h.1 hb.size,λi v hv=>aj hb (h.2.1 i v hv),λi=>iq hb h.1 (h.2.2 i)⟩
theorem ba.alloc {w : World} {b : Nat} {cs : List Value} (h : ba w b cs) (o : Obj) : ba (w.alloc o) b cs:=h.aa ((EI _ _).alloc (EF _) o)
theorem ba.cell {w : World} {b : Nat} {cs : List Value} (h : ba w b cs) (i : Nat) {v : Value} (hv : cs[i]? = some v) : w.cell? ⟨b,i,none⟩=some v:=h.2.1 i v hv
theorem ba.frozen {w : World} {b : Nat} {cs : List Value} (h : ba w b cs) (i : Nat) : w.frozen? ⟨b,i,none⟩=false:=h.2.2 i
theorem ph (w : World) (o1 o2 o3 : Obj) : JA w (((w.alloc o1).alloc o2).alloc o3):=(((EI _ _).alloc (EF _) _).alloc (by simp) _).alloc (by simp;omega) _
theorem fI (w : World) (o1 o2 : Obj) : JA w ((w.alloc o1).alloc o2):=((EI _ _).alloc (EF _) _).alloc (by simp) _
theorem aA (w : World) (o1 : Obj) : JA w (w.alloc o1):=(EI _ _).alloc (EF _) _
theorem Ints.drawn {w w' : World} {a : OA} {n : Nat} {l : LI} (h : Ints w a n l) (hd : bf w w') : Ints w' a n l:=h.aa hd.below
theorem bY.drawn {w w' : World} {a : OA} {n : Nat} {l : LL} (h : bY w a n l) (hd : bf w w') : bY w' a n l:=h.aa hd.below
theorem bf.trans {w w' w'' : World} (h : bf w w') (k : bf w' w'') : bf w w'' := by obtain ⟨m, rfl⟩ := h; obtain ⟨n, rfl⟩ := k; exact ⟨m + n, World.drewN_drewN _ _ _⟩
def jW (w : World) (z : Bool) (e : Ending) (w' : World) : Prop:=e = .returned (.bool z)/\bf w w'
section
structure bU (O : aL) (El : Int->Prop) : Prop where
 cl : pz O El
 zero : El 0
 one : El 1
 add_comm : ∀x y,El x->El y->O.add x y=O.add y x
 add_assoc : ∀x y z,El x->El y->El z->O.add (O.add x y) z=O.add x (O.add y z)
 add_zero : ∀x,El x->O.add x 0=x
 add_neg : ∀x,El x->O.add x (O.neg x)=0
 mul_comm : ∀x y,El x->El y->O.mul x y=O.mul y x
 mul_assoc : ∀x y z,El x->El y->El z->O.mul (O.mul x y) z=O.mul x (O.mul y z)
 one_mul : ∀x,El x->O.mul 1 x=x
 mul_add : ∀x y z,El x->El y->El z->O.mul x (O.add y z)=O.add (O.mul x y) (O.mul x z)
 mul_inv : ∀x,El x->x ≠ 0->O.mul x (O.inv x)=1
def pw (P : Int) (M : Nat) (mod : LI) (y : Int) : Nat->Int
 | 0=>1
 | k+1=>cF P M mod (pw P M mod y k) y
variable {P : Int} {M : Nat} {mod : LI} {q : Nat} {y : Int}
theorem qe (h : ju P M) (y : Int) : ∀k,ef P M (pw P M mod y k)
 | 0=>sy h
 | k+1=>eF h _ _
theorem gn (h : ju P M) (y : Int) (a : Nat) : ∀b,cF P M mod (pw P M mod y a) (pw P M mod y b)=pw P M mod y (a+b)
 | 0=>by rw [pw,gK h,fQ h (qe h y a)];rfl
 | b+1=>by rw [pw,<- oo h,gn h y a b];rfl
theorem qt (y : Int) : ∀(n : Nat) (l : LI),(∀i,i<l.length->nth l i=pw P M mod y i)->l.Nodup->(∀e ∈ l,e ≠ 0) ->
  (∀i,i<(gq (λz=>cF P M mod z y) n l (pw P M mod y l.length)).length->nth (gq (λz=>cF P M mod z y) n l (pw P M mod y l.length)) i=pw P M mod y i) /\
  (gq (λz=>cF P M mod z y) n l (pw P M mod y l.length)).Nodup/\∀e ∈ gq (λz=>cF P M mod z y) n l (pw P M mod y l.length),e ≠ 0
 | 0,l,h1,h2,h3=>⟨h1,h2,h3⟩
 | n+1,l,h1,h2,h3=>by
  by_cases hs : pw P M mod y l.length=0\/pw P M mod y l.length ∈ l
  ·rw [gN _ _ _ _ hs];exact ⟨h1,h2,h3⟩
  ·rw [pd _ _ _ _ hs];have e : cF P M mod (pw P M mod y l.length) y=pw P M mod y (l ++ [pw P M mod y l.length]).length:=by simp [pw]
   rw [e];refine qt y n _ (λi hi=>?_) ?_ ?_
   ·simp only [ER,E0] at hi;by_cases hl : i<l.length
    ·rw [nth,EJ,E2 hl,<- EJ];exact h1 i hl
    ·obtain rfl : i=l.length:=by omega
     simp [nth]
   ·rw [FT];refine ⟨h2,by simp,λa ha b hb=>?_⟩;rw [List.mem_singleton.1 hb];intro e;exact hs (.inr (e ▸ ha))
   ·intro e he;rcases List.mem_append.1 he with h | h
    ·exact h3 e h
    ·rw [List.mem_singleton.1 h];intro e;exact hs (.inl e)
theorem AZ (h : ju P M) (hy : ef P M y) (q : Nat) :
  (∀i,i<(dP P M mod q y).length->nth (dP P M mod q y) i=pw P M mod y i)/\(dP P M mod q y).Nodup/\∀e ∈ dP P M mod q y,e ≠ 0:=by
 have e : pw P M mod y [(1 : Int)].length=y:=by show cF P M mod (pw P M mod y 0) y=y;rw [pw,fQ h hy]
 have:=qt (P:=P) (M:=M) (mod:=mod) y q [1] (λi hi=>by
  have : i=0:=by simp at hi;omega
  subst this;rfl) (by simp) (by simp)
 rw [e] at this;exact this
structure pG (P : Int) (M : Nat) (mod : LI) (q : Nat) (y : Int) (ex : LI) : Prop where
 res : ju P M
 q2 : 2<=q
 pq : (q : Int)=P ^ M
 yel : ef P M y
 len : ex.length=q - 1
 val : ∀i,i<q - 1->nth ex i=pw P M mod y i
 nodup : ex.Nodup
 ne : ∀e ∈ ex,e ≠ 0
 last : pw P M mod y (q - 1)=1
theorem pG.tu (h : ju P M) (hq : (q : Int)=P ^ M) (hy : ef P M y) (hg : eO P M mod q y=true) : pG P M mod q y (dP P M mod q y):=by
 have hq2 : 2<=q:=by have:=one_lt_pow h;omega
 simp only [eO,EW,beq_iff_eq] at hg;obtain ⟨h1,h2,h3⟩:=AZ (mod:=mod) h hy q;refine ⟨h,hq2,hq,hy,hg.1,λi hi=>h1 i (by omega),h2,h3,?_⟩;have:=hg.2;rw [h1 _ (by omega)] at this;rw [show q - 1=(q - 2)+1 by omega];exact this
namespace pG
variable {ex : LI}
theorem mem (g : pG P M mod q y ex) {e : Int} (he : ef P M e) (h0 : e ≠ 0) : e ∈ ex:=by
 apply Fe;intro hn;have hnd : (e :: ex).Nodup:=List.nodup_cons.2 ⟨hn,g.nodup⟩;have hsub : ∀x ∈ e :: ex,x ∈ (List.range (q - 1)).map (λi : Nat=>(i : Int)+1):=by
  intro x hx;have hx2 : ef P M x/\x ≠ 0:=by
   rcases List.mem_cons.1 hx with rfl | hx
   ·exact ⟨he,h0⟩
   ·refine ⟨?_,g.ne x hx⟩;obtain ⟨i,hi,rfl⟩:=List.mem_iff_getElem.1 hx;rw [<- ai hi,g.val i (by rw [<- g.len];exact hi)];exact qe g.res y i
  rw [II];have h1:=hx2.1.1;have h2:=hx2.1.2;have h3:=hx2.2;have h4:=g.pq;have h5:=g.q2;exact ⟨(x - 1).toNat,by rw [I6];omega,by omega⟩
 have hle:=List.Nodup.length_le_of_subset hnd hsub;simp at hle;have h5:=g.q2;have h6:=g.len;omega
theorem log (g : pG P M mod q y ex) {e : Int} (he : ef P M e) (h0 : e ≠ 0) : ∃k,k<q - 1/\e=pw P M mod y k/\nth ex k=e:=by
 obtain ⟨i,hi,e1⟩:=List.mem_iff_getElem.1 (g.mem he h0);have hi2 : i<q - 1:=by rw [<- g.len];exact hi
 refine ⟨i,hi2,?_,?_⟩
 ·rw [<- g.val i hi2,ai hi,e1]
 ·rw [ai hi,e1]
theorem period (g : pG P M mod q y ex) (a : Nat) : ∀n,pw P M mod y (a+n * (q - 1))=pw P M mod y a
 | 0=>by simp
 | n+1=>by rw [show a+(n+1) * (q - 1)=(a+n * (q - 1))+(q - 1) by rw [Nat.add_mul];omega,<- gn g.res,g.last,gK g.res,fQ g.res (qe g.res y _),period g a n]
theorem red (g : pG P M mod q y ex) (a : Nat) : pw P M mod y (a % (q - 1))=pw P M mod y a:=by have h:=g.period (a % (q - 1)) (a / (q - 1));rw [<- h,Nat.mul_comm,Nat.mod_add_div]
theorem DF (g : pG P M mod q y ex) (a : Nat) : pw P M mod y a ≠ 0:=by have h5:=g.q2;rw [<- g.red a];have hlt : a % (q - 1)<q - 1:=H6 _ (by omega);rw [<- g.val _ hlt];exact g.ne _ (aO (by rw [g.len];exact hlt))
theorem inj (g : pG P M mod q y ex) {i j : Nat} (hi : i<q - 1) (hj : j<q - 1) (h : nth ex i=nth ex j) : i=j:=by
 rw [ai (by rw [g.len];exact hi),ai (by rw [g.len];exact hj)] at h;have hp:=List.pairwise_iff_getElem.1 g.nodup;rcases IK i j with h1 | h1 | h1
 ·exact absurd h (hp i j _ _ h1)
 ·exact h1
 ·exact absurd h.symm (hp j i _ _ h1)
theorem qb (g : pG P M mod q y ex) {k : Nat} (hk : k<q - 1) : ef P M (nth ex k):=by rw [g.val k hk];exact qe g.res y k
theorem qK (g : pG P M mod q y ex) : ∀k,k<=q - 1->∀j,j<k->nth (dg q ex k) (nth ex j).toNat=j
 | 0,_,j,hj=>by omega
 | k+1,hk,j,hj=>by
  have hkel:=g.qb (k:=k) (by omega);have hjel:=g.qb (k:=j) (by omega);have h1:=hkel.1;have h2:=hkel.2;have h3:=hjel.1;have h4:=g.pq;rw [dg,cX _ _ _ _ (by rw [gC];omega)];by_cases e : j=k
  ·subst e;rw [EH rfl]
  ·rw [EG]
   ·exact qK g k (by omega) j (by omega)
   ·intro e2;exact e (g.inj (by omega) (by omega) (by omega))
theorem Dt (g : pG P M mod q y ex) {k : Nat} (hk : k<q - 1) : nth (dg q ex (q - 1)) (pw P M mod y k).toNat=k:=by rw [<- g.val k hk];exact g.qK (q - 1) (EF _) k hk
theorem wZ (g : pG P M mod q y ex) {x z : Int} (hx : ef P M x) (hz : ef P M z) : ox q ex (dg q ex (q - 1)) x z=cF P M mod x z:=by
 unfold ox;by_cases h0 : x=0\/z=0
 ·rw [EH h0];rcases h0 with rfl | rfl
  ·rw [gK g.res,mh g.res]
  ·rw [mh g.res]
 ·rw [EG h0];obtain ⟨a,ha,rfl,_⟩:=g.log hx (λe=>h0 (.inl e));obtain ⟨b,hb,rfl,_⟩:=g.log hz (λe=>h0 (.inr e));have h5:=g.q2;rw [g.Dt ha,g.Dt hb,gn g.res];have e1 : ((a : Int)+b) % ((q : Int) - 1)=(((a+b) % (q - 1) : Nat) : Int):=by rw [IU,Int.natCast_add,Ia (by omega)];rfl
  rw [e1,EM,g.val _ (H6 _ (by omega)),g.red]
theorem Al (g : pG P M mod q y ex) {x : Int} (hx : ef P M x) (h0 : x ≠ 0) : cF P M mod x (tf q ex (dg q ex (q - 1)) x)=1:=by
 obtain ⟨a,ha,rfl,_⟩:=g.log hx h0;have h5:=g.q2;unfold tf;rw [g.Dt ha];have e1 : ((q : Int) - 1 - a) % ((q : Int) - 1)=(((q - 1 - a) % (q - 1) : Nat) : Int):=by rw [IU,Ia (by omega),Ia (by omega)];rfl
 rw [e1,EM,g.val _ (H6 _ (by omega)),g.red,gn g.res,show a+(q - 1 - a)=q - 1 by omega,g.last]
theorem BA (g : pG P M mod q y ex) (x : Int) : ef P M (tf q ex (dg q ex (q - 1)) x):=by have h5:=g.q2;unfold tf;refine g.qb ?_;have h1:=Fl ((q : Int) - 1 - nth (dg q ex (q - 1)) x.toNat) (show (q : Int) - 1 ≠ 0 by omega);have h2:=Fb ((q : Int) - 1 - nth (dg q ex (q - 1)) x.toNat) (show 0<(q : Int) - 1 by omega);omega
theorem Ey (g : pG P M mod q y ex) : bU (cC.ops ⟨P,M,q,ex,dg q ex (q - 1)⟩) (ef P M):=by
 have hmul : ∀ {x z : Int},ef P M x->ef P M z->(cC.ops ⟨P,M,q,ex,dg q ex (q - 1)⟩).mul x z=cF P M mod x z:=λhx hz=>g.wZ hx hz;have h:=g.res;have hinv : ∀x,ef P M ((cC.ops ⟨P,M,q,ex,dg q ex (q - 1)⟩).inv x):=λx=>g.BA x;refine ⟨⟨λx z _ _=>fP h x z,λx z hx hz=>?_,λx _=>su h x,λx _ _=>hinv x⟩,sf h,sy h,λx z _ _=>yX h x z,λx z u _ _ _=>wb h x z u,λx hx=>CB h hx,λx _=>zw h x,?_,?_,?_,?_,?_⟩
 ·rw [hmul hx hz];exact eF h x z
 ·intro x z hx hz;rw [hmul hx hz,hmul hz hx,gK h]
 ·intro x z u hx hz hu;rw [hmul hx hz,hmul hz hu,hmul (eF h x z) hu,hmul hx (eF h z u),oo h]
 ·intro x hx;rw [hmul (sy h) hx,fQ h hx]
 ·intro x z u hx hz hu;have hs : (cC.ops ⟨P,M,q,ex,dg q ex (q - 1)⟩).add=du P M:=rfl;rw [hs,hmul hx (fP h z u),hmul hx hz,hmul hx hu,As h]
 ·intro x hx h0;rw [hmul hx (hinv x)];exact g.Al hx h0
end pG
theorem oP {P M : Int} {mod : LI} (h : bA P M mod=true) : ∃(m : Nat) (y : Int),M=m/\ju P m/\P ^ m<=256/\bL P m mod=true/\(aH P m).toNat=P ^ m/\pG P m mod (aH P m).toNat y (eX P m mod (aH P m).toNat):=by
 unfold bA at h;rw [EW] at h;obtain ⟨hs,hg⟩:=h;have hs2:=hs;simp only [bL,EW,bne_iff_ne,ne_eq] at hs2;obtain ⟨b1,b2,b3,b4,b5,b6⟩:=gJ hs2.1.1;obtain ⟨m,rfl⟩ : ∃m : Nat,M=m:=⟨M.toNat,by omega⟩
 rw [EM] at *;have hres : ju P m:=⟨b1,by omega⟩
 have hq : ((aH P m).toNat : Int)=P ^ m:=by have:=one_lt_pow hres;omega
 have hne : eX P m mod (aH P m).toNat ≠ []:=by intro e;rw [e] at hg;simp at hg
 obtain ⟨y,hy1,hy2,hy3,hy4⟩:=mi hne;refine ⟨m,y,rfl,hres,b5,hs,hq,?_⟩;rw [hy4];exact pG.tu hres hq ⟨by omega,by omega⟩ hy3
theorem ji {P M : Int} {mod : LI} (h : bA P M mod=true) : bU (an P M.toNat mod).ops (an P M.toNat mod).El:=by
 obtain ⟨m,y,rfl,hr,_,_,hq,g⟩:=oP h;have e : (an P ((m : Int).toNat) mod).El=ef P m:=by funext x;simp only [cC.El,an,ef,EM];rw [hq]
 rw [e];exact g.Ey
end
def Ja:=@ba.new
def Jc:=@aw.aV
def Je:=@bf.refl
def Jg:=@bT.drawn
def Ji:=@aw.refl
def Jk:=@bf.below
def Jm:=@bx.clear
def Jo:=@bT.set
def Jq:=@bT.refl
def Js:=@cC.cl
def Jv:=@aw.trans
end Go.Proofs.YtjfiflldinnhmaaGreat
