import Derived.Test.YtcfmiocdlcapoaaGreatHBS4
namespace Go.Proofs.YtcfmiocdlcapoaaGreat
set_option linter.all false
set_option maxRecDepth 100000
set_option maxHeartbeats 1600000
open Go.RowKit Tryz
section
def jO (q x : Int) : Bool:=decide (0<=x) && decide (x<q)
def kD (q : Int) (l : Lz) : Bool:=l.all (jO q)
def mP (q : Int) (l : Lz) : Int:=if kD q l then 0 else 2
def iy (cols : Int) (L : ZZ) : Bool:=L.all λr=>decide ((r.length : Int)=cols)
def eZ (q cols : Int) (L : ZZ) : Int :=
 if cols<0\/256<cols\/256<L.length then 3 else if iy cols L=false then 3 else if L.all (kD q) then 0 else 2
theorem dx {α : Type} {p : α->Bool} {l : List α} {k : Nat} (hk : k<l.length) (h : (l.take k).all p=true) (hp : p l[k]=true) : (l.take (k+1)).all p=true:=by rw [Mu hk,Pb,h];simp [hp]
theorem dw {α : Type} {p : α->Bool} {l : List α} {k : Nat} (hk : k<l.length) (hp : p l[k]=false) : l.all p=false:=by rw [N1];exact ⟨_,MM hk,by simp [hp]⟩
variable {w : World} {b : Nat} {G : cJ}
theorem Au (a : OA) (n c : Nat) (l : Lz) (h : dW w b G) (hi : Ints w a n l) :
  Calls prog 140 #[.pointer (some ⟨b,0,none⟩),.slice a n c] w λe w'=>e = .returned (.int .i64 (mP G.q l))/\w=w':=by
 have hpl:=hi.pl;have hlen:=hi.len;have hmax:=hi.max;unfold maxLen at hmax;have Hlen:=Z5 hlen;clear hlen;go_enter func140,ntmps140;go_wp2;go_loop [9] (λiv=>∃k : Nat,k<=n/\iv = .int .i64 k/\Hid ((l.take k).all (jO G.q)=true)) (λiv=>n - (intOf iv).toNat);case atStart=>exact ⟨0,Mj _,rfl,by show _=_;simp⟩
 case round =>
  obtain ⟨k,hk,rfl,hall⟩:=hrel
  by_cases hlt : k<n
  ·have hc:=hi.cell k hlt
   by_cases hq : jO G.q (nth l k)=true
   ·have hq':=hq
    unfold jO at hq'
    have Hq:=Z5 hq
    clear hq
    go_wp2_with (first | (go_at_call 138;refine (L5 (nth l k) h).mono ?_;rintro e w' ⟨rfl,rfl⟩))
    go_round
    case rel=>exact ⟨k+1,by omega,by go_num,dx (by rw [Hlen.out];exact hlt) hall.out (by rw [<- aj (by rw [Hlen.out];exact hlt)];exact Hq.out)⟩
    case measure=>simp [intOf] <;> omega
   ·have hq : jO G.q (nth l k)=false:=by simpa using hq
    have hq':=hq
    unfold jO at hq'
    have Hf : Hid (kD G.q l=false):=dw (k:=k) (by rw [Hlen.out];exact hlt) (by rw [<- aj (by rw [Hlen.out];exact hlt)];exact hq)
    clear hq
    go_wp2_with (first | (go_at_call 138;refine (L5 (nth l k) h).mono ?_;rintro e w' ⟨rfl,rfl⟩))
    go_ret
    exact ⟨aI (by rw [mP,Hf.out];rfl),rfl⟩
  ·obtain rfl : k=n:=by omega
   have Hf : Hid (kD G.q l=true):=by have:=hall.out;rw [Ms (by rw [Hlen.out];exact Mf _)] at this;exact this
   go_wp2
   go_ret
   exact ⟨aI (by rw [mP,Hf.out];rfl),rfl⟩
theorem DH (cols : Int) (a : OA) (n c : Nat) (L : ZZ) (h : dW w b G) (hi : cU w a n L) :
  Calls prog 206 #[.pointer (some ⟨b,0,none⟩),.agg #[.int .i64 cols,.slice a n c]] w λe w'=>e = .returned (.int .i64 (eZ G.q cols L))/\Rs w w':=by
 have hpl:=hi.pl;have hlen:=hi.len;have hmax:=hi.max;unfold maxLen at hmax;have Hlen:=Z5 hlen;clear hlen;have hbox : ∀w' : World,Below (w.heap.size+1) (w.alloc (.cells #[.int .i64 cols,.slice a n c] 82)) w' ->
   w'.cell? ⟨w.heap.size,0,none⟩=some (.int .i64 cols)/\w'.cell? ⟨w.heap.size,1,none⟩=some (.slice a n c)/\Rs w w':=by intro w' h;refine ⟨(h.cell (by simp)).trans (by simp),(h.cell (by simp)).trans (by simp),((Mi _ _).alloc (Mf _) _).trans (h.mono (by omega))⟩
 have Hbox:=Z5 hbox;clear hbox;have Hal:=Z5 ((Mi w.heap.size w).alloc (Mf _) (.cells #[.int .i64 cols,.slice a n c] 82));by_cases b1 : cols<0
 ·have Hf : Hid (eZ G.q cols L=3):=by show _=_;rw [eZ,Mg (.inl b1)]
  go_enter func206,ntmps206;go_wp2_with fail;go_ret;exact ⟨aI Hf.out.symm,Hal.out⟩
 by_cases b2 : 256<cols
 ·have Hf : Hid (eZ G.q cols L=3):=by show _=_;rw [eZ,Mg (.inr (.inl b2))]
  go_enter func206,ntmps206;go_wp2_with fail;go_ret;exact ⟨aI Hf.out.symm,Hal.out⟩
 by_cases b3 : 256<n
 ·have Hf : Hid (eZ G.q cols L=3):=by show _=_;rw [eZ,Mg (.inr (.inr (by rw [Hlen.out];exact b3)))]
  have t1 : decide (cols<0)=false:=by simpa using b1
  have t2 : decide (256<cols)=false:=by simpa using b2
  have t3 : decide (256<(n : Int))=true:=by simp;omega
  go_enter func206,ntmps206;go_wp2_with fail;go_ret;exact ⟨aI Hf.out.symm,Hal.out⟩
 have Hm : Hid (eZ G.q cols L=if iy cols L=false then 3 else if L.all (kD G.q) then 0 else 2):=by show _=_;rw [eZ,Mh (by rw [Hlen.out];omega)]
 have t1 : decide (cols<0)=false:=by simpa using b1
 have t2 : decide (256<cols)=false:=by simpa using b2
 have t3 : decide (256<(n : Int))=false:=by simp;omega
 clear b1 b2;go_enter func206,ntmps206;go_wp2_with fail;generalize hW0 : w.alloc (.cells #[.int .i64 cols,.slice a n c] 82)=W0 at *;have hW0s : W0.heap.size=w.heap.size+1:=by rw [<- hW0];simp
 obtain ⟨q0,q1,hbw⟩:=Hbox.out W0 (Mi _ _);have hiW:=hi.ah hbw;clear hW0;go_loop [27] (λiv=>∃k : Nat,k<=n/\iv = .int .i64 k/\Hid ((L.take k).all (λr=>decide ((r.length : Int)=cols))=true)) (λiv=>n - (intOf iv).toNat);case atStart=>exact ⟨0,Mj _,rfl,by show _=_;simp⟩
 case round =>
  obtain ⟨k,hk,rfl,hall⟩:=hrel
  by_cases hlt : k<n
  ·obtain ⟨ra,rn,rc,hcell,hrow⟩:=hiW.cell k hlt
   have hrl:=hrow.len
   have hkL : k<L.length:=by rw [Hlen.out];exact hlt
   rw [aF hkL] at hrl
   have Hrl:=Z5 hrl
   clear hrl
   by_cases he : (rn : Int)=cols
   ·have he' : ((rn : Int) != cols)=false:=by simpa using he
    have Hq : Hid (decide ((L[k].length : Int)=cols)=true):=by show _=_;rw [Hrl.out];simpa using he
    clear he
    go_wp2_with fail
    go_round
    case rel=>exact ⟨k+1,by omega,by go_num,dx hkL hall.out Hq.out⟩
    case measure=>simp [intOf] <;> omega
   ·have he' : ((rn : Int) != cols)=true:=by simpa using he
    have Hq : Hid (eZ G.q cols L=3):=by show _=_;rw [Hm.out,Mg];exact dw hkL (by simp only [Hrl.out];simpa using he)
    clear he
    go_wp2_with fail
    go_ret
    exact ⟨aI Hq.out.symm,hbw⟩
  ·obtain rfl : k=n:=by omega
   have Hm2 : Hid (eZ G.q cols L=if L.all (kD G.q) then 0 else 2):=by have:=hall.out;rw [Ms (by rw [Hlen.out];exact Mf _)] at this;show _=_;rw [Hm.out,Mh (by rw [iy,this];simp)]
   have hG:=h.ah hbw
   go_wp2_with fail
   go_loop [40] (λiv=>∃j : Nat,j<=k/\iv = .int .i64 j/\Hid ((L.take j).all (kD G.q)=true)) (λiv=>k - (intOf iv).toNat)
   case atStart=>exact ⟨0,Mj _,rfl,by show _=_;simp⟩
   case round =>
    obtain ⟨j,hj,rfl,hall2⟩:=hrel
    by_cases hlt : j<k
    ·obtain ⟨ra,rn,rc,hcell,hrow⟩:=hiW.cell j hlt
     have hjL : j<L.length:=by rw [Hlen.out];exact hlt
     go_wp2_with fail
     refine (Au ra rn rc _ hG hrow).mono ?_
     rintro e w' ⟨rfl,rfl⟩
     by_cases he : kD G.q (ai L j)=true
     ·have he2 : mP G.q (ai L j)=0:=by rw [mP,he];rfl
      rw [he2]
      rw [aF hjL] at he
      have He:=Z5 he
      clear he he2
      go_wp2_with fail
      go_round
      case rel=>exact ⟨j+1,by omega,by go_num,dx hjL hall2.out He.out⟩
      case measure=>simp [intOf] <;> omega
     ·have he2 : mP G.q (ai L j)=2:=by rw [mP,Mh he]
      rw [he2]
      rw [aF hjL] at he
      have Hq : Hid (eZ G.q cols L=2):=by show _=_;rw [Hm2.out,dw hjL (by simpa using he)];rfl
      clear he he2
      go_wp2_with fail
      go_ret
      exact ⟨aI Hq.out.symm,hbw⟩
    ·obtain rfl : j=k:=by omega
     have Hq : Hid (eZ G.q cols L=0):=by have:=hall2.out;rw [Ms (by rw [Hlen.out];exact Mf _)] at this;show _=_;rw [Hm2.out,this];rfl
     go_wp2_with fail
     go_ret
     exact ⟨aI Hq.out.symm,hbw⟩
end
structure uE (w : World) (a : OA) (n : Nat) (l : List (Int × ZZ)) : Prop where
 len : l.length=n
 pl : Pl a n
 max : n<=maxLen
 cell : ∀i (hi : i<l.length),∃b m c,w.cell? ⟨an a,aP a+i * 2,none⟩=some (.int .i64 l[i].1)/\w.cell? ⟨an a,aP a+i * 2+1,none⟩=some (.slice b m c)/\cU w b m l[i].2
theorem uE.ah {w w' : World} {a : OA} {n : Nat} {l : List (Int × ZZ)} (h : uE w a n l) (hb : Rs w w') : uE w' a n l:=by refine ⟨h.len,h.pl,h.max,λi hi=>?_⟩;obtain ⟨b,m,c,h1,h2,h3⟩:=h.cell i hi;exact ⟨b,m,c,aA hb h1,aA hb h2,h3.ah hb⟩
def jd (q : Int) : List (Int × ZZ)->Int
 | []=>0
 | m :: l=>if eZ q m.1 m.2=0 then jd q l else eZ q m.1 m.2
theorem Bj {q : Int} {l : List (Int × ZZ)} {k : Nat} (hk : k<l.length) : jd q (l.drop k)=if eZ q l[k].1 l[k].2=0 then jd q (l.drop (k+1)) else eZ q l[k].1 l[k].2:=by rw [M4 hk,jd]
def Gw (P M : Int) (mod : Lz) (l : List (Int × ZZ)) (w : World) (e : Ending) (w' : World) : Prop :=
 Rs w w'/\(
 (bQ P M mod=false/\e = .returned (.tuple #[.pointer none,.int .i64 1])) \/
 (bQ P M mod=true/\∃er,er ≠ 0/\jd (aa P M.toNat mod).q l=er/\e = .returned (.tuple #[.pointer none,.int .i64 er])) \/
 (bQ P M mod=true/\jd (aa P M.toNat mod).q l=0/\∃b,e = .returned (.tuple #[.pointer (some ⟨b,0,none⟩),.int .i64 0])/\dW w' b (aa P M.toNat mod)/\w.heap.size<=b))
theorem kH (P M : Int) (am : OA) (mn cm : Nat) (mod : Lz) (a : OA) (n c : Nat) (l : List (Int × ZZ)) (w : World) (hmod : Ints w am mn mod) (hl : uE w a n l) :
  Calls prog 139 #[.agg #[.int .i64 P,.int .i64 M,.slice am mn cm],.slice a n c] w (Gw P M mod l w):=by
 have hpl:=hl.pl;have hlen:=hl.len;have hmax:=hl.max;unfold maxLen at hmax;have Hlen:=Z5 hlen;clear hlen;have Hal:=Z5 ((Mi w.heap.size w).alloc (Mf _) (.cells #[.int .i64 P,.int .i64 M,.slice am mn cm] 24));go_enter func139,ntmps139;go_wp2_with fail;have hbw:=Hal.out;generalize w.alloc (.cells #[.int .i64 P,.int .i64 M,.slice am mn cm] 24)=W0 at *;refine (fX P M am mn cm mod W0 (hmod.ah hbw)).mono ?_;rintro e w1 (⟨hB,rfl,hb1⟩ | ⟨hB,b,rfl,hGs,hbl,hb1⟩)
 ·have HB:=Z5 hB;clear hB;have hbw1:=QQ hbw hb1;go_wp2_with fail;go_ret2;exact ⟨hbw1,.inl ⟨HB.out,rfl⟩⟩
 ·have HB:=Z5 hB;clear hB;have hbw1:=QQ hbw hb1;have hbb : w.heap.size<=b:=Mt hbw.size hbl;have hG:=hGs.gf;clear hGs;generalize hT : aa P M.toNat mod=G at *;have HT:=Z5 hT;clear hT;go_wp2_with fail;go_loopw [20] (λiv wr=>∃k : Nat,k<=n/\iv = .int .i64 k/\Hid (jd G.q l=jd G.q (l.drop k))/\Rs w1 wr) (λiv _=>n - (intOf iv).toNat);case atStart=>exact ⟨0,Mj _,rfl,by show _=_;simp,Mi _ _⟩
  case round =>
   obtain ⟨k,hk,rfl,hall,hbr⟩:=hrel
   have hbwr:=QQ hbw1 hbr
   by_cases hlt : k<n
   ·have hkl : k<l.length:=by rw [Hlen.out];exact hlt
    have hlr:=hl.ah hbwr
    obtain ⟨rb,rm,rc,c1,c2,hM⟩:=hlr.cell k hkl
    have hstep:=Bj (q:=G.q) hkl
    have Hstep:=Z5 hstep
    clear hstep
    generalize l[k].1=cols at *
    generalize l[k].2=L at *
    have Hal2:=Z5 ((Mi wr.heap.size wr).alloc (Mf _) (.cells #[.int .i64 cols,.slice rb rm rc] 82))
    go_wp2_with fail
    have hbx:=Hal2.out
    generalize wr.alloc (.cells #[.int .i64 cols,.slice rb rm rc] 82)=W2 at *
    have hB2 : Rs w1 W2:=QQ hbr hbx
    refine (DH cols rb rm rc L (hG.ah hB2) (hM.ah hbx)).mono ?_
    rintro e w3 ⟨rfl,hb3⟩
    have hB3 : Rs w1 w3:=QQ hB2 hb3
    by_cases he : eZ G.q cols L=0
    ·have Hs : Hid (jd G.q l=jd G.q (l.drop (k+1))):=by show _=_;rw [hall.out,Hstep.out,Mg he]
     rw [he]
     clear he
     go_wp2_with fail
     go_roundw
     case rel=>exact ⟨k+1,by omega,by go_num,Hs.out,hB3⟩
     case measure=>simp [intOf] <;> omega
    ·have Hs : Hid (jd G.q l=eZ G.q cols L):=by show _=_;rw [hall.out,Hstep.out,Mh he]
     generalize eZ G.q cols L=er at *
     have he' : (er != 0)=true:=by simpa using he
     have He : Hid (er ≠ 0):=he
     clear he
     go_wp2_with fail
     go_ret2
     exact ⟨QQ hbw1 hB3,.inr (.inl ⟨HB.out,er,He.out,by rw [HT.out];exact Hs.out,rfl⟩)⟩
   ·obtain rfl : k=n:=by omega
    have Hs : Hid (jd G.q l=0):=by show _=_;rw [hall.out,OO (by rw [Hlen.out];exact Mf _)];rfl
    go_wp2_with fail
    go_ret2
    exact ⟨hbwr,.inr (.inr ⟨HB.out,by rw [HT.out];exact Hs.out,b,rfl,by rw [HT.out];exact hG.ah hbr,hbb⟩)⟩
section
def jx (r : OA × Nat) (l : Lz) : Value:=.slice r.1 l.length r.2
def aV (R : Z4) (i : Nat) : OA × Nat:=R.getD i (none,0)
theorem fY {l : Z4} {i : Nat} (h : i<l.length) : aV l i=l[i]:=by simp [aV,h]
theorem gw (l : Z4) (i j : Nat) (x : OA × Nat) (hi : i<l.length) : aV (l.set i x) j=if j=i then x else aV l j:=by
 unfold aV;simp only [Mk,NU];by_cases h : i=j
 ·subst h;simp [hi]
 ·rw [Mh h,Mh (by omega)]
theorem e8 (l : ZZ) (i j : Nat) (x : Lz) (hi : i<l.length) : ai (l.set i x) j=if j=i then x else ai l j:=by
 unfold ai;simp only [Mk,NU];by_cases h : i=j
 ·subst h;simp [hi]
 ·rw [Mh h,Mh (by omega)]
theorem tT (n i : Nat) : ai (List.replicate n []) i=[]:=by simp only [ai,Mk,MN];split <;> rfl
theorem gZ (n i : Nat) : aV (List.replicate n (none,0)) i=(none,0):=by simp only [aV,Mk,MN];split <;> rfl
theorem xE (R : Z4) (L : ZZ) (i : Nat) (r : OA × Nat) (l : Lz) :
  (List.zipWith jx R L).set i (jx r l)=List.zipWith jx (R.set i r) (L.set i l):=by
 apply PC;intro j;simp only [NU,O1,Pg];by_cases h : i=j
 ·subst h;by_cases h1 : i<R.length <;> by_cases h2 : i<L.length <;> simp [h1,h2,show ¬ (i<R.length/\i<L.length)->¬ i<min R.length L.length from by omega];exact Nat.lt_min.2 ⟨h1,h2⟩
 ·simp [h]
structure aY (w : World) (B : Nat) (a : OA) (n c : Nat) (R : Z4) (L : ZZ) : Prop where
 rl : R.length=n
 ll : L.length=n
 own : w.ownsRow B 22 1 (.slice a n c) n (List.zipWith jx R L)
 row : ∀i,i<n->w.ownsRow B 3 1 (.slice (aV R i).1 (ai L i).length (aV R i).2) (ai L i).length ((ai L i).map (Value.int .i64))
 uq : ∀i,i<n->cF (aV R i).1 (an a)
 sep : ∀i j,i<n->j<n->i ≠ j->(aV R i).1=none\/cF (aV R j).1 (an (aV R i).1)
def bS (a : OA) (R : Z4) (b : Nat) : Prop:=(a ≠ none/\b=an a)\/∃i,i<R.length/\(aV R i).1 ≠ none/\b=an (aV R i).1
structure aw (w w' : World) (I I' : Nat->Prop) : Prop where
 os : w'.os=w.os
 tape : w'.tape=w.tape
 output : w'.output=w.output
 size : w.heap.size<=w'.heap.size
 block : ∀b,b<w.heap.size->¬ I b->w'.heap[b]? = w.heap[b]?
 grow : ∀b,I' b->I b\/w.heap.size<=b
variable {w w' w'' : World} {B : Nat} {a : OA} {n c : Nat} {R : Z4} {L : ZZ} {I I' I'' : Nat -> Prop}
theorem aw.refl (w : World) (I : Nat->Prop) : aw w w I I:=⟨rfl,rfl,rfl,Mf _,λ_ _ _=>rfl,λ_ h=>.inl h⟩
theorem aw.trans (h : aw w w' I I') (k : aw w' w'' I' I'') : aw w w'' I I'' := by
 refine ⟨k.os.trans h.os,k.tape.trans h.tape,k.output.trans h.output,Mt h.size k.size,λb hb hI=>?_,λb hb=>?_⟩
 ·refine (k.block b (ME hb h.size) λh'=>?_).trans (h.block b hb hI);rcases h.grow b h' with h2 | h2
  ·exact hI h2
  ·omega
 ·rcases k.grow b hb with h2 | h2
  ·exact h.grow b h2
  ·exact .inr (Mt h.size h2)
theorem aw.aT (h : Rs w w') (I : Nat->Prop) : aw w w' I I:=⟨h.os,h.tape,h.output,h.size,λb hb _=>h.block b hb,λ_ h=>.inl h⟩
theorem aw.below (h : aw w w' I I') (hI : ∀b,I b->B<=b) (hB : B<=w.heap.size) : Below B w w' :=
 ⟨h.os,h.tape,h.output,h.size,λb hb=>h.block b (ME hb hB) λhi=>by have:=hI b hi;omega⟩
theorem aw.cell (h : aw w w' I I') {p : Addr} {v : Value} (hc : w.cell? p=some v) (hI : ¬ I p.block) : w'.cell? p=some v :=
 (MI (w:=w) (a:=p) (h.block _ (Mn w _ hc) hI)).trans hc
theorem aw.not (h : aw w w' I I') {b : Nat} (hb : b<w.heap.size) (hI : ¬ I b) : ¬ I' b:=λh'=>by
 rcases h.grow b h' with h2 | h2
 ·exact hI h2
 ·omega
theorem aw.own (h : aw w w' I I') {e : TypeId} {a : OA} {c n : Nat} {xs : List Value} (ho : w.ownsRow B e 1 (.slice a n c) n xs) (hI : a ≠ none->¬ I (an a)) : w'.ownsRow B e 1 (.slice a n c) n xs:=by
 rcases nh ho with ⟨rfl,rfl,rfl⟩ | ⟨_,hlt⟩
 ·have hx:=jT ho;obtain rfl : xs=[]:=MF hx;exact bP
 ·by_cases ha : a=none
  ·subst ha;refine ⟨ho.1,?_⟩;rcases ho.2 with h2 | ⟨g,cap,cur,hv,_⟩
   ·exact .inl h2
   ·cases hv
  ·exact js ho (h.block _ hlt (hI ha))
theorem aZ {w : World} {e : TypeId} {a : OA} {c n : Nat} {xs : List Value} (ho : w.ownsRow B e 1 (.slice a n c) n xs) (ha : a ≠ none) : B<=an a/\an a<w.heap.size:=by
 rcases nh ho with ⟨rfl,_⟩ | h
 ·exact absurd rfl ha
 ·exact h
namespace aY
theorem lt (h : aY w B a n c R L) (b : Nat) (hb : bS a R b) : B<=b/\b<w.heap.size:=by
 rcases hb with ⟨h1,rfl⟩ | ⟨i,hi,h1,rfl⟩
 ·exact aZ h.own h1
 ·exact aZ (h.row i (by rw [h.rl] at hi;exact hi)) h1
theorem new (h : aY w B a n c R L) {b : Nat} (hb : w.heap.size<=b) : ¬ bS a R b:=λh'=>by have:=h.lt b h';omega
theorem i5 (h : aY w B a n c R L) {b : Nat} (hb : b<B) : ¬ bS a R b:=λh'=>by have:=h.lt b h';omega
theorem l6 {i : Nat} (h : i<R.length) (h1 : (aV R i).1 ≠ none) : bS a R (an (aV R i).1):=.inr ⟨i,h,h1,rfl⟩
theorem bu (h : aY w B a n c R L) (hb : ∀b,bS a R b->w'.heap[b]? = w.heap[b]?) : aY w' B a n c R L:=by
 have key : ∀ {e : TypeId} {a' : OA} {c m : Nat} {xs : List Value},w.ownsRow B e 1 (.slice a' m c) m xs->(a' ≠ none->w'.heap[an a']? = w.heap[an a']?)->w'.ownsRow B e 1 (.slice a' m c) m xs:=by
  intro e a' c m xs ho hk;by_cases ha : a'=none
  ·subst ha;refine ⟨ho.1,?_⟩;rcases ho.2 with h2 | ⟨g,cap,cur,hv,_⟩
   ·exact .inl h2
   ·cases hv
  ·exact js ho (hk ha)
 exact ⟨h.rl,h.ll,key h.own λha=>hb _ (.inl ⟨ha,rfl⟩),λi hi=>key (h.row i hi) λha=>hb _ (l6 (by rw [h.rl];exact hi) ha),h.uq,h.sep⟩
theorem ah (h : aY w B a n c R L) (hb : Rs w w') : aY w' B a n c R L:=h.bu λb hi=>hb.block b (h.lt b hi).2
theorem mono {B' : Nat} (h : aY w B a n c R L) (hB : B'<=B) : aY w B' a n c R L:=⟨h.rl,h.ll,bg h.own hB,λi hi=>bg (h.row i hi) hB,h.uq,h.sep⟩
theorem ints (h : aY w B a n c R L) {i : Nat} (hi : i<n) : Ints w (aV R i).1 (ai L i).length (ai L i):=(QR (h.row i hi)).1
theorem cell (h : aY w B a n c R L) {i : Nat} (hi : i<n) : w.cell? ⟨an a,aP a+i,none⟩=some (.slice (aV R i).1 (ai L i).length (aV R i).2):=by
 rw [(bC h.own i hi).1,O1,MP (show i<R.length by rw [h.rl];exact hi),MP (show i<L.length by rw [h.ll];exact hi),
  fY (by rw [h.rl];exact hi),aF (by rw [h.ll];exact hi)]
 rfl
theorem frozen (h : aY w B a n c R L) {i : Nat} (hi : i<n) : w.frozen? ⟨an a,aP a+i,none⟩=false:=(bC h.own i hi).2.1
theorem pl (h : aY w B a n c R L) : Pl a n:=by obtain ⟨a',c',hv,hp⟩:=Q0 h.own;cases hv;exact hp
theorem ne (h : aY w B a n c R L) (hn : 0<n) : a ≠ none:=by intro ha;have:=h.pl hn;rw [ha] at this;cases this
theorem max (h : aY w B a n c R L) : n<=maxLen:=by
 rcases Na n with h0 | h0
 ·subst h0;unfold maxLen;omega
 ·exact (bC h.own 0 h0).2.2.2.2
theorem rC (h : aY w B a n c R L) : cU w a n L:=⟨h.ll,h.pl,h.max,λ_ hi=>⟨_,_,_,h.cell hi,h.ints hi⟩⟩
theorem setRow (h : aY w B a n c R L) {i : Nat} (hi : i<n) {r : OA} {rc : Nat} {l : Lz} (hr : w.ownsRow B 3 1 (.slice r l.length rc) l.length (l.map (Value.int .i64)))
  (ha : cF r (an a)) (hs : ∀j,j<n->j ≠ i->(aV R j).1=none\/cF r (an (aV R j).1)) :
  aY (w.setCell ⟨an a,aP a+i,none⟩ (.slice r l.length rc)) B a n c (R.set i (r,rc)) (L.set i l):=by
 have hRi : i<R.length:=by rw [h.rl];exact hi
 have hLi : i<L.length:=by rw [h.ll];exact hi
 have flip : ∀ {x y : OA},(x=none\/cF y (an x))->(y=none\/cF x (an y)):=by
  intro x y hxy;rcases hxy with rfl | rfl | h2
  ·exact .inr (.inl rfl)
  ·exact .inl rfl
  ·exact .inr (.inr λe=>h2 e.symm)
 refine ⟨by simp [h.rl],by simp [h.ll],?_,λj hj=>?_,λj hj=>?_,λj k hj hk hjk=>?_⟩
 ·have:=bN h.own i hi (.slice r l.length rc);rwa [show (List.zipWith jx R L).set i (.slice r l.length rc)=_ from xE R L i (r,rc) l] at this
 ·rw [gw _ _ _ _ hRi,e8 _ _ _ _ hLi];by_cases e : j=i
  ·simp only [Mg e];exact du hr _ ha
  ·simp only [Mh e];exact du (h.row j hj) _ (h.uq j hj)
 ·rw [gw _ _ _ _ hRi];by_cases e : j=i
  ·simp only [Mg e];exact ha
  ·simp only [Mh e];exact h.uq j hj
 ·rw [gw _ _ _ _ hRi,gw _ _ _ _ hRi];by_cases e : j=i
  ·simp only [Mg e,Mh (show ¬ k=i by omega)];exact flip (hs k hk (by omega))
  ·simp only [Mh e];by_cases e2 : k=i
   ·simp only [Mg e2];exact hs j hj e
   ·simp only [Mh e2];exact h.sep j k hj hk hjk
theorem mY (h : aY w B a n c R L) {w' : World} (hb' : Rs w w') {i : Nat} (hi : i<n) {r : OA} {rc : Nat} (v : Value) (hr : r ≠ none->bS a R (an r)\/w.heap.size<=an r) :
  aw w (w'.setCell ⟨an a,aP a+i,none⟩ v) (bS a R) (bS a (R.set i (r,rc))):=by
 have hRi : i<R.length:=by rw [h.rl];exact hi
 have hb0 : Below 0 w (w'.setCell ⟨an a,aP a+i,none⟩ v):=(hb'.mono (Mj _)).setCell (Mj _) v;refine ⟨hb0.os,hb0.tape,hb0.output,hb0.size,λb hb hI=>(MB _ _ _ _ λe=>hI (.inl ⟨h.ne (by omega),e⟩)).trans (hb'.block b hb),λb hb=>?_⟩;rcases hb with hb | ⟨j,hj,h1,rfl⟩
 ·exact .inl (.inl hb)
 ·rw [M9] at hj;rw [gw _ _ _ _ hRi] at h1 ⊢;by_cases e : j=i
  ·simp only [Mg e] at h1 ⊢;exact hr h1
  ·simp only [Mh e] at h1 ⊢;exact .inl (.inr ⟨j,hj,h1,rfl⟩)
theorem F1 (h : aY w B a n c R L) {i : Nat} (hi : i<n) {l : Lz} (hl : l.length=(ai L i).length)
  (ho : w'.ownsRow B 3 1 (.slice (aV R i).1 (ai L i).length (aV R i).2) (ai L i).length (l.map (Value.int .i64)))
  (hg : ∀b,b<w.heap.size->((aV R i).1=none\/b ≠ an (aV R i).1)->w'.heap[b]? = w.heap[b]?) : aY w' B a n c R (L.set i l):=by
 have hRi : i<R.length:=by rw [h.rl];exact hi
 have hLi : i<L.length:=by rw [h.ll];exact hi
 have key : ∀ {e : TypeId} {a' : OA} {c m : Nat} {xs : List Value},w.ownsRow B e 1 (.slice a' m c) m xs->((aV R i).1=none\/a'=none\/an a' ≠ an (aV R i).1)->w'.ownsRow B e 1 (.slice a' m c) m xs:=by
  intro e a' c m xs ho hk;by_cases ha : a'=none
  ·subst ha;refine ⟨ho.1,?_⟩;rcases ho.2 with h2 | ⟨g,cap,cur,hv,_⟩
   ·exact .inl h2
   ·cases hv
  ·exact js ho (hg _ (aZ ho ha).2 (by rcases hk with hk | hk | hk;exact .inl hk;exact absurd hk ha;exact .inr hk))
 refine ⟨h.rl,by simp [h.ll],?_,λj hj=>?_,h.uq,h.sep⟩
 ·have e : List.zipWith jx R (L.set i l)=List.zipWith jx R L:=by
   apply PC;intro j;simp only [O1,NU];by_cases e : i=j
   ·subst e;simp only [hLi,if_true,MP hRi,MP hLi];rw [aF hLi] at hl;simp [jx,hl]
   ·simp [e]
  rw [e];exact key h.own (by rcases h.uq i hi with h2 | h2;exact .inl h2;exact .inr (.inr λe=>h2 e.symm))
 ·rw [e8 _ _ _ _ hLi];by_cases e : j=i
  ·subst e;simp only [if_true,hl];exact ho
  ·simp only [Mh e];refine key (h.row j hj) ?_;rcases h.sep i j hi hj (by omega) with h2 | h2 | h2
   ·exact .inl h2
   ·exact .inr (.inl h2)
   ·exact .inr (.inr h2)
end aY
theorem pX {w : World} {B : Nat} {a : OA} {n c : Nat} (h : w.ownsRow B 22 1 (.slice a n c) n (List.replicate n (.slice none 0 0))) :
  aY w B a n c (List.replicate n (none,0)) (List.replicate n []):=by
 refine ⟨by simp,by simp,?_,λi hi=>?_,λi hi=>?_,λi j hi hj hij=>?_⟩
 ·simpa [jx] using h
 ·rw [tT,gZ];exact bP
 ·rw [gZ];exact .inl rfl
 ·rw [gZ];exact .inl rfl
end
section
variable {w : World} {b : Nat} {G : cJ}
theorem Ints.Fe {w : World} {n : Nat} {l : Lz} (h : Ints w none n l) : n=0/\l=[]:=by
 have h0 : n=0:=by
  rcases Na n with h0 | h0
  ·exact h0
  ·have:=h.pl h0;cases this
 exact ⟨h0,MF (by rw [h.len];exact h0)⟩
theorem eo (a : OA) (n c : Nat) (l : Lz) (hi : Ints w a n l) (hn : n<=1000000) :
  Calls prog 87 #[.slice a n c] w (cX w l):=by
 have heq:=λ(w : World) (a : OA) (l c : Nat)=>Go.run_eql_slice_nil (P:=prog) w 22 3 a l c underlying22;by_cases ha : a=none
 ·subst ha;obtain ⟨rfl,rfl⟩:=hi.Fe;have hin : (none : OA).isNone=true:=rfl;go_enter func87,ntmps87;go_wp2_with fail;go_ret;exact ⟨none,0,rfl,bP,Mi _ _⟩
 ·have hin : a.isNone=false:=by cases a with | none=>exact absurd rfl ha | some x=>rfl
  have hlen:=hi.len;have Hlen:=Z5 hlen;have hO:=mL w 3;have hal:=Z5 ((Mi w.heap.size w).alloc (Mf _) (.cells #[] 3));clear ha hlen;go_enter func87,ntmps87;go_upto_region 3 with fail;iterate 7 go_step
  have hbal:=hal.out;generalize w.alloc (.cells #[] 3)=W0 at *;have hiW:=hi.ah hbal;refine iH (by rfl) (.tmp 5) (.tmp 6) 22 3 (by rfl) (.int .i64 0) 8 underlying22 bt (by rfl) w.heap.size _ 0 0 [] (by rfl) hO a n c (l.map (Value.int .i64)) (by rfl) hiW.pl (by simp [Hlen.out]) (Q8 hiW) (ints_oneCell _ _) (by omega) (by unfold maxLen;omega) (NW hbal) ?_;intro a3 c3 w3 hown3 hgr3 hap3;have hb3 : Rs w w3:=QT (B:=w.heap.size) (e:=3) (xs:=[]) hbal hO hgr3 (Mf _) (NW hbal);rw [OP] at hown3 ⊢;rw [Nv] at hown3;go_wp2_with fail;go_ret;exact ⟨a3,c3,by rw [Hlen.out];rfl,by rw [Hlen.out];exact hown3,hb3⟩
def Bq (w : World) (L : ZZ) (e : Ending) (w' : World) : Prop :=
 ∃a c R,e = .returned (.slice a L.length c)/\aY w' w.heap.size a L.length c R L/\Rs w w'
theorem fg : (prog.info? 22).map (λi=>(i.zero,i.size,i.bytes))=some (some (.slice none 0 0),1,24):=by kernel_rfl
def dB (n k : Nat) (L : ZZ) : ZZ:=L.take k ++ List.replicate (n - k) []
theorem nM {n k : Nat} {L : ZZ} (hk : k<n) (hL : L.length=n) : (dB n k L).set k (ai L k)=dB n (k+1) L:=by
 unfold dB;have e1 : (L.take k).length=k:=by simp;omega
 rw [Mu (by omega),OX (h:=by omega),e1,show n - k=(n - (k+1))+1 by omega,Pe,NS,Mo,NK,aF (by omega)];rfl
theorem nC {n : Nat} {L : ZZ} (hL : L.length=n) : dB n n L=L:=by simp [dB,Ms (show L.length<=n by omega)]
theorem vw (a : OA) (n c : Nat) (L : ZZ) (hi : cU w a n L) (hn : n<=1000000) (hL : ∀l ∈ L,l.length<=1000000) :
  Calls prog 213 #[.slice a n c] w (Bq w L):=by
 have hpl:=hi.pl;have Hlen:=Z5 hi.len;have HL:=Z5 hL;clear hL;go_enter func213,ntmps213;go_wp2_with (at_make;refine b9 rfl _ _ 25 22 rfl (.slice none 0 0) 24 underlying25 fg rfl n rfl rfl (by omega) (by unfold maxLen;omega) ?_;intro a1 w1 hown hbel hge hlt);have hO:=pX hown;have hO1 : ∃R,aY w1 w.heap.size a1 n n R (dB n 0 L):=⟨_,by simpa [dB] using hO⟩
 clear hO hown;go_loopw [11] (λiv wr=>∃k : Nat,k<=n/\iv = .int .i64 k/\(∃R,aY wr w.heap.size a1 n n R (dB n k L))/\Rs w wr) (λiv _=>n - (intOf iv).toNat);case atStart=>exact ⟨0,Mj _,rfl,hO1,hbel⟩
 case round =>
  obtain ⟨k,hk,rfl,⟨R,hO⟩,hbr⟩:=hrel
  by_cases hlt : k<n
  ·have hiW:=hi.ah hbr
   obtain ⟨ra,rn,rc,hcell,hrow⟩:=hiW.cell k hlt
   have hkL : k<L.length:=by rw [Hlen.out];exact hlt
   have hrl : rn<=1000000:=by rw [<- hrow.len,aF hkL];exact HL.out _ (MM hkL)
   have hset:=nM hlt Hlen.out
   have Hset:=Z5 hset
   clear hset
   have hpl1:=hO.pl
   generalize ai L k=l at *
   go_wp2_with fail
   refine (eo ra rn rc l hrow hrl).mono ?_
   rintro e w3 ⟨a3,c3,rfl,hown3,hb3⟩
   have hO3:=hO.ah hb3
   have hf:=hO3.frozen hlt
   have hc:=hO3.cell hlt
   have hB:=(aY.lt hO3 (an a1) (.inl ⟨hO3.ne (by omega),rfl⟩)).1
   have hbr3:=QQ hbr hb3
   have hsz:=hbr.size
   have hnew:=aY.setRow hO3 hlt (bg hown3 hsz) (mI hown3 (aY.lt hO (an a1) (.inl ⟨hO.ne (by omega),rfl⟩)).2) (λj hj _=>by
    by_cases hn : (aV R j).1=none
    ·exact .inl hn
    ·exact .inr (mI hown3 (aY.lt hO _ (aY.l6 (by rw [hO.rl];exact hj) hn)).2))
   rw [Hset.out] at hnew
   have Hnew:=Z5 hnew
   clear hnew
   go_wp2_with fail
   go_roundw
   case rel=>exact ⟨k+1,by omega,by go_num,⟨_,Hnew.out⟩,hbr3.setCell hB _⟩
   case measure=>simp [intOf] <;> omega
  ·obtain rfl : k=n:=by omega
   rw [nC Hlen.out] at hO
   go_wp2_with fail
   go_ret
   exact ⟨a1,k,R,by rw [Hlen.out];rfl,by rw [Hlen.out];exact hO,hbr⟩
end
structure aJ where
 add : Int->Int->Int
 mul : Int->Int->Int
 neg : Int->Int
 inv : Int->Int
def bW (O : aJ) (v : Lz) (s : Int) (u : Lz) : Lz:=List.zipWith (λp q=>if q=0 then p else O.add p (O.mul s q)) v u
theorem fo (O : aJ) (v : Lz) (s : Int) (u : Lz) (h : u.length=v.length) : (bW O v s u).length=v.length:=by simp [bW,h]
theorem jH (O : aJ) (v : Lz) (s : Int) (u : Lz) (i : Nat) (h : u.length=v.length) (hi : i<v.length) :
  nth (bW O v s u) i=if nth u i=0 then nth v i else O.add (nth v i) (O.mul s (nth u i)):=by rw [aj (show i<(bW O v s u).length by rw [fo _ _ _ _ h];exact hi),aj (show i<u.length by omega),aj hi];simp [bW]
theorem sT (new i5 : Lz) (j : Nat) (h : new.length=i5.length) (hj : j<i5.length) (e : nth new j=nth i5 j) : fA new i5 (j+1)=fA new i5 j:=by
 rw [<- eH new i5 j h hj,e];refine fR (by simp) λi hi=>?_;have hl:=jh new i5 j h (by omega);rw [dD _ _ _ _ (by omega)];by_cases e2 : i=j
 ·subst e2;rw [Mg rfl,eO _ _ _ _ h (by omega),Mh (by omega)]
 ·rw [Mh e2]
def dR (L : ZZ) (c : Nat) : Nat->Nat->Nat
 | k,0=>k
 | k,f+1=>if nth (ai L k) c=0 then dR L c (k+1) f else k
def aW (L : ZZ) (c k : Nat) : Nat:=dR L c k (L.length - k)
theorem mD (L : ZZ) (c : Nat) : ∀f k,k<=dR L c k f/\dR L c k f<=k+f
 | 0,k=>by simp [dR]
 | f+1,k=>by have:=mD L c f (k+1);unfold dR;split <;> omega
theorem fP (L : ZZ) (c : Nat) : ∀f k,dR L c k f<k+f->nth (ai L (dR L c k f)) c ≠ 0
 | 0,k,h=>by simp [dR] at h
 | f+1,k,h=>by
  unfold dR at h ⊢;split
  ·rename_i h0;rw [Mg h0] at h;exact fP L c f (k+1) (by omega)
  ·assumption
theorem j4 (L : ZZ) (c : Nat) : ∀f k i,k<=i->i<dR L c k f->nth (ai L i) c=0
 | 0,k,i,h1,h2=>by simp [dR] at h2;omega
 | f+1,k,i,h1,h2=>by
  unfold dR at h2;split at h2
  ·rename_i h0;rcases Qi h1 with h3 | h3
   ·rw [<- h3];exact h0
   ·exact j4 L c f (k+1) i h3 h2
  ·omega
theorem gP {L : ZZ} {c k : Nat} (hk : k<L.length) : aW L c k=if nth (ai L k) c=0 then aW L c (k+1) else k:=by unfold aW;rw [show L.length - k=(L.length - (k+1))+1 by omega,dR]
theorem ka {L : ZZ} {c k : Nat} (hk : L.length<=k) : aW L c k=k:=by unfold aW;rw [show L.length - k=0 by omega,dR]
theorem lj {L : ZZ} {c k : Nat} (hk : k<=L.length) : k<=aW L c k/\aW L c k<=L.length:=by have:=mD L c (L.length - k) k;unfold aW;omega
def bk (L : ZZ) (i j : Nat) : ZZ:=(L.set i (ai L j)).set j (ai L i)
def bT (O : aJ) (pv : Lz) (c : Nat) (r : Lz) : Lz:=if nth r c=0 then r else bW O r (O.neg (nth r c)) pv
def aR (O : aJ) (t c : Nat) (L : ZZ) : Nat->ZZ
 | 0=>L
 | i+1=>if i=t then aR O t c L i else (aR O t c L i).set i (bT O (ai (aR O t c L i) t) c (ai (aR O t c L i) i))
def bq (O : aJ) (L : ZZ) (t c : Nat) : ZZ:=if O.inv (nth (ai L t) c)=1 then L else L.set t ((ai L t).map (O.mul (O.inv (nth (ai L t) c))))
def eB (O : aJ) (L : ZZ) (t k c : Nat) : ZZ :=
 let L1:=if k=t then L else bk L t k
 let L2:=bq O L1 t c
 aR O t c L2 L2.length
def aC (O : aJ) (L : ZZ) : Nat->ZZ × Lz
 | 0=>(L,[])
 | c+1 =>
  let s:=aC O L c
  if s.2.length<s.1.length then
   if aW s.1 c s.2.length=s.1.length then s
   else (eB O s.1 s.2.length (aW s.1 c s.2.length) c,s.2 ++ [(c : Int)])
  else s
theorem dQ (L : ZZ) (i j : Nat) : (bk L i j).length=L.length:=by simp [bk]
theorem dc (O : aJ) (t c : Nat) (L : ZZ) : ∀i,(aR O t c L i).length=L.length
 | 0=>rfl
 | i+1=>by unfold aR;split <;> simp [dc O t c L i]
theorem cZ (O : aJ) (L : ZZ) (t c : Nat) : (bq O L t c).length=L.length:=by unfold bq;split <;> simp
theorem et (O : aJ) (L : ZZ) (t k c : Nat) : (eB O L t k c).length=L.length:=by unfold eB;simp only [dc,cZ];split <;> simp [dQ]
theorem cN (O : aJ) (L : ZZ) : ∀c,(aC O L c).1.length=L.length
 | 0=>rfl
 | c+1=>by
  unfold aC;simp only;split
  ·split <;> simp [et,cN O L c]
  ·exact cN O L c
theorem fH (O : aJ) (L : ZZ) : ∀c,(aC O L c).2.length<=c/\(aC O L c).2.length<=L.length
 | 0=>by simp [aC]
 | c+1=>by
  have ih:=fH O L c;have hl:=cN O L c;unfold aC;simp only;split
  ·split
   ·omega
   ·simp only [Mp,Mz];omega
  ·omega
def bx (El : Int->Prop) (m : Nat) (L : ZZ) : Prop:=∀r ∈ L,r.length=m/\∀x ∈ r,El x
theorem mg {L : ZZ} {i : Nat} (h : L.length<=i) : ai L i=[]:=by simp [ai,Nf h]
theorem bx.row {El : Int->Prop} {m : Nat} {L : ZZ} (h : bx El m L) {i : Nat} (hi : i<L.length) : (ai L i).length=m/\∀x ∈ ai L i,El x:=h _ (dj hi)
theorem bx.set {El : Int->Prop} {m : Nat} {L : ZZ} (h : bx El m L) (i : Nat) {r : Lz} (hr : r.length=m/\∀x ∈ r,El x) : bx El m (L.set i r):=by
 intro x hx;rcases Ny hx with h1 | rfl
 ·exact h x h1
 ·exact hr
structure sV (O : aJ) (El : Int->Prop) : Prop where
 add : ∀x y,El x->El y->El (O.add x y)
 mul : ∀x y,El x->El y->El (O.mul x y)
 neg : ∀x,El x->El (O.neg x)
 inv : ∀x,El x->x ≠ 0->El (O.inv x)
theorem vS {O : aJ} {El : Int->Prop} (hO : sV O El) {v u : Lz} {s : Int} (hv : ∀x ∈ v,El x) (hu : ∀x ∈ u,El x) (hs : El s) : ∀x ∈ bW O v s u,El x:=by
 intro x hx;unfold bW at hx;rw [O7] at hx;obtain ⟨i,hi,rfl⟩:=hx;rw [O8];simp only [Pg] at hi;split
 ·exact hv _ (MM _)
 ·exact hO.add _ _ (hv _ (MM _)) (hO.mul _ _ hs (hu _ (MM _)))
theorem bx.swap {El : Int->Prop} {m : Nat} {L : ZZ} (h : bx El m L) {i j : Nat} (hi : i<L.length) (hj : j<L.length) : bx El m (bk L i j) :=
 (h.set i (h.row hj)).set j (h.row hi)
theorem bx.bT {O : aJ} {El : Int->Prop} {m : Nat} (hO : sV O El) {r pv : Lz} {c : Nat} (hc : c<m) (hr : r.length=m/\∀x ∈ r,El x) (hp : pv.length=m/\∀x ∈ pv,El x) :
  (bT O pv c r).length=m/\∀x ∈ bT O pv c r,El x:=by
 unfold Proofs.YtcfmiocdlcapoaaGreat.bT;split
 ·exact hr
 ·exact ⟨by rw [fo _ _ _ _ (by omega)];exact hr.1,vS hO hr.2 hp.2 (hO.neg _ (hr.2 _ (aN (by omega))))⟩
theorem bx.clear {O : aJ} {El : Int->Prop} {m : Nat} {L : ZZ} (hO : sV O El) (h : bx El m L) {t c : Nat} (ht : t<L.length) (hc : c<m) : ∀i,i<=L.length->bx El m (aR O t c L i)
 | 0,_=>h
 | i+1,hi=>by
  have ih:=bx.clear hO h ht hc i (by omega);unfold aR;split
  ·exact ih
  ·exact ih.set i (bx.bT hO hc (ih.row (by rw [dc];omega)) (ih.row (by rw [dc];omega)))
theorem bx.norm {O : aJ} {El : Int->Prop} {m : Nat} {L : ZZ} (hO : sV O El) (h : bx El m L) {t c : Nat} (ht : t<L.length) (hc : c<m) (h0 : nth (ai L t) c ≠ 0) : bx El m (bq O L t c):=by
 unfold bq;split
 ·exact h
 ·refine h.set t ⟨by rw [Mx];exact (h.row ht).1,λx hx=>?_⟩;obtain ⟨y,hy,rfl⟩:=List.mem_map.1 hx;exact hO.mul _ _ (hO.inv _ ((h.row ht).2 _ (aN (by rw [(h.row ht).1];exact hc))) h0) ((h.row ht).2 y hy)
theorem fE {O : aJ} {L : ZZ} {k : Nat} (h : (aC O L k).2.length=L.length) : ∀d,aC O L (k+d)=aC O L k
 | 0=>rfl
 | d+1=>by have ih:=fE h d;show aC O L ((k+d)+1)=_;rw [aC];simp only [ih];rw [Mh (by rw [cN];omega)]
theorem dA {O : aJ} {L Lk : ZZ} {P : Lz} {k : Nat} (h : (Lk,P)=aC O L k) (hlt : P.length<Lk.length) :
  aC O L (k+1)=if aW Lk k P.length=Lk.length then (Lk,P) else (eB O Lk P.length (aW Lk k P.length) k,P ++ [(k : Int)]):=by rw [aC];simp only [<- h];rw [Mg hlt]
theorem iB (O : aJ) (L : ZZ) (t k c : Nat) : eB O L t k c=aR O t c (bq O (if k=t then L else bk L t k) t c) L.length:=by unfold eB;simp only [cZ];split <;> simp [dQ]
section
def bs (w w' : World) : Prop:=∃n,w'=w.drewN n
theorem bs.refl (w : World) : bs w w:=⟨0,rfl⟩
theorem bs.drewN {w w' : World} (h : bs w w') (n : Nat) : bs w (w'.drewN n):=by obtain ⟨m,rfl⟩:=h;exact ⟨m+n,by rw [World.drewN_drewN]⟩
theorem bs.drew {w w' : World} (h : bs w w') : bs w w'.drew:=h.drewN 1
theorem bs.below {w w' : World} (h : bs w w') : Rs w w':=by obtain ⟨m,rfl⟩:=h;exact below_drewN (Mi _ _) m
theorem bs.heap {w w' : World} (h : bs w w') : w'.heap=w.heap:=by obtain ⟨m,rfl⟩:=h;rfl
theorem bs.cell {w w' : World} (h : bs w w') {p : Addr} {v : Value} (hc : w.cell? p=some v) : w'.cell? p=some v:=by obtain ⟨m,rfl⟩:=h;exact hc
theorem bs.frozen {w w' : World} (h : bs w w') {p : Addr} {v : Bool} (hc : w.frozen? p=v) : w'.frozen? p=v:=by obtain ⟨m,rfl⟩:=h;exact hc
theorem bs.xR {w0 w w' : World} {B : Nat} (h : bs w w') (hb : Below B w0 w) : Below B w0 w':=by obtain ⟨m,rfl⟩:=h;exact below_drewN hb m
def cJ.ops (G : cJ) : aJ:=⟨G.add,G.mul,G.neg,G.inv⟩
theorem cJ.cl {w : World} {b : Nat} {G : cJ} (h : dW w b G) : sV G.ops G.El:=⟨λx y _ _=>cJ.GS h x y,λx y _ _=>Rc h x y,λx _=>cJ.vV h x,λx _ _=>Rj h x⟩
def de (a : OA) (w w' : World) : Prop:=aw w w' (λb=>a ≠ none/\b=an a) (λb=>a ≠ none/\b=an a)
theorem de.refl (a : OA) (w : World) : de a w w:=aw.refl _ _
theorem de.trans {a : OA} {w w' w'' : World} (h : de a w w') (k : de a w' w'') : de a w w'' := aw.trans h k
theorem de.drawn {a : OA} {w w' : World} (h : bs w w') : de a w w':=aw.aT h.below _
theorem de.set {a : OA} (w : World) (i : Nat) (v : Value) (ha : a ≠ none) : de a w (w.setCell ⟨an a,aP a+i,none⟩ v):=by have hb0 : Below 0 w (w.setCell ⟨an a,aP a+i,none⟩ v):=(Mi 0 w).setCell (Mj _) v;exact ⟨hb0.os,hb0.tape,hb0.output,hb0.size,λb hb hI=>MB _ _ _ _ λe=>hI ⟨ha,e⟩,λb hb=>.inl hb⟩
theorem de.ints {a : OA} {w w' : World} (h : de a w w') {u : OA} {n : Nat} {l : Lz} (hi : Ints w u n l) (hu : a=none\/u=none\/an u ≠ an a) : Ints w' u n l:=by
 refine hi.of_block λhn=>h.block _ (hi.lt hn) ?_;rintro ⟨h1,h2⟩;rcases hu with hu | hu | hu
 ·exact h1 hu
 ·have:=hi.pl hn;rw [hu] at this;cases this
 ·exact hu h2
theorem de.below {a : OA} {w w' : World} {B : Nat} (h : de a w w') (ha : a ≠ none->B<=an a) (hB : B<=w.heap.size) : Below B w w':=aw.below h (λ_ hb=>by rw [hb.2];exact ha hb.1) hB
variable {w : World} {b : Nat} {G : cJ}
theorem C5 (w0 : World) (av : OA) (cv n : Nat) (v : Lz) (s : Int) (au : OA) (cu : Nat) (u : Lz) (h : dW w0 b G) (hb : Rs w0 w)
  (hv : w.ownsRow w0.heap.size 3 1 (.slice av n cv) n (v.map (Value.int .i64))) (hu : Ints w au n u) (hap : av=none\/au=none\/an au ≠ an av)
  (hve : ∀x ∈ v,G.El x) (hue : ∀x ∈ u,G.El x) (hs : G.El s) :
  Calls prog 207 #[.pointer (some ⟨b,0,none⟩),.slice av n cv,.int .i64 s,.slice au n cu] w
   λe w'=>e = .returned (.tuple #[])/\w'.ownsRow w0.heap.size 3 1 (.slice av n cv) n ((bW G.ops v s u).map (Value.int .i64))/\de av w w':=by
 have hul:=hu.len;have hvl : v.length=n:=by simpa using jT hv
 have hmax:=hu.max;unfold maxLen at hmax;have hpu:=hu.pl;have hpv:=(QR hv).1.pl;have hav : 0<n->av ≠ none:=λhn e=>by have:=hpv hn;rw [e] at this;cases this
 have hll : (bW G.ops v s u).length=v.length:=fo _ _ _ _ (by omega);have hnth:=λi=>jH G.ops v s u i (by omega);have Hnth:=Z5 hnth;have Hul:=Z5 hul;have Hvl:=Z5 hvl;have Hll:=Z5 hll;have Hav:=Z5 hav;have Hve:=Z5 hve;have Hue:=Z5 hue;clear hnth hul hvl hll hav hve hue;generalize bW G.ops v s u=N at *;go_enter func207,ntmps207;go_wp2_with fail;go_loopw [12] (λiv wr=>∃k : Nat,k<=n/\iv = .int .i64 k/\wr.ownsRow w0.heap.size 3 1 (.slice av n cv) n ((fA N v k).map (Value.int .i64))/\de av w wr) (λiv _=>n - (intOf iv).toNat);case atStart=>exact ⟨0,Mj _,rfl,by rw [eU];exact hv,de.refl _ _⟩
 case round =>
  obtain ⟨k,hk,rfl,hown,honly⟩:=hrel
  by_cases hlt : k<n
  ·have hiu:=honly.ints hu hap
   have cu1:=hiu.cell k hlt
   have hkN : N.length=v.length:=Hll.out
   have hkv : k<v.length:=by rw [Hvl.out];exact hlt
   have hval:=Hnth.out k hkv
   have hmix:=eO N v k k hkN (by omega)
   rw [Mh (by omega)] at hmix
   by_cases hz : nth u k=0
   ·rw [Mg hz] at hval
    have hsame:=sT N v k hkN hkv hval
    have Hsame:=Z5 hsame
    clear hval hmix hsame hkN hkv
    go_wp2_with fail
    go_roundw
    case rel=>exact ⟨k+1,by omega,by go_num,by rw [Hsame.out];exact hown,honly⟩
    case measure=>simp [intOf] <;> omega
   ·rw [Mh hz] at hval
    have hset:=eH N v k hkN hkv
    obtain ⟨hiv,hmv⟩:=QR hown
    have cv1:=hiv.cell k hlt
    have fv1:=(hmv (by omega)).2 k hlt
    rw [hmix] at cv1
    have elv : G.El (nth v k):=Hve.out _ (aN hkv)
    have elu : G.El (nth u k):=Hue.out _ (aN (by rw [Hul.out];exact hlt))
    have hGr : dW wr b G:=h.ah (MS hb (honly.below (λha=>(aZ hv ha).1) hb.size))
    have Hval:=Z5 hval
    have Hset:=Z5 hset
    have hS : ∀W,bs wr W->W.cell? ⟨an av,aP av+k,none⟩=some (.int .i64 (nth v k))/\W.frozen? ⟨an av,aP av+k,none⟩=false/\dW W b G/\bs wr W :=
     λW hW=>⟨hW.cell cv1,hW.frozen fv1,hGr.ah hW.below,hW⟩
    have HS:=Z5 hS
    have elm : ∀x y,G.El (G.mul x y):=λx y=>Rc h x y
    have hz' : (nth u k != 0)=true:=by simpa using hz
    clear hval hmix hset hkN hkv hS hz
    go_wp2_with fail
    have HG : Hid (dW wr.drew b G/\∀n,dW (wr.drewN n) b G):=⟨hGr.ah (Mi _ _).drew,λn=>hGr.drewN n⟩
    go_region_law ((first
     | (go_simp;go_at_call 153;((with_reducible refine (oK s (nth u k) HG.out.1 hs elu).mono ?_);rintro e w4 ⟨m4,rfl,rfl⟩))
     | (go_simp;go_at_call 153;((with_reducible refine (oK s (nth u k) (HG.out.2 _) hs elu).mono ?_);rintro e w4 ⟨m4,rfl,rfl⟩))
     | (go_simp;go_at_call 152;((with_reducible refine (Lq (nth v k) (G.mul s (nth u k)) (HG.out.2 _) elv (elm _ _)).mono ?_);rintro e w4 ⟨m5,rfl,rfl⟩))))
    all_goals (
     go_wp2_with fail
     go_roundw
     case rel =>
      have hdr : bs wr (wr.drewN (1+m4+m5)):=⟨_,rfl⟩
      refine ⟨k+1,by omega,by go_num,?_,honly.trans ((de.drawn hdr).trans (de.set _ k _ (Hav.out (by omega))))⟩
      have h1:=bN (w:=wr.drewN (1+m4+m5)) hown k hlt (.int .i64 (nth N k))
      rw [<- MH,Hset.out,Hval.out] at h1
      exact h1
     case measure=>simp [intOf] <;> omega)
  ·obtain rfl : k=n:=by omega
   rw [fT N v k (by rw [Hll.out,Hvl.out]) Hvl.out] at hown
   go_wp2_with fail
   go_end0
   exact ⟨rfl,hown,honly⟩
end
section
variable {w : World} {b : Nat} {G : cJ}
def rI (R : Z4) (i j : Nat) : Z4:=(R.set i (aV R j)).set j (aV R i)
theorem nW (R : Z4) (i j : Nat) : (rI R i j).length=R.length:=by simp [rI]
def lI (t k i : Nat) : Nat:=if i=k then t else if i=t then k else i
theorem kG (R : Z4) (t k i : Nat) (ht : t<R.length) (hk : k<R.length) : aV (rI R t k) i=aV R (lI t k i):=by
 unfold rI lI;rw [gw _ _ _ _ (by simpa using hk),gw _ _ _ _ ht];split
 ·rfl
 ·split <;> rfl
theorem pd (L : ZZ) (t k i : Nat) (ht : t<L.length) (hk : k<L.length) : ai (bk L t k) i=ai L (lI t k i):=by
 unfold bk lI;rw [e8 _ _ _ _ (by simpa using hk),e8 _ _ _ _ ht];split
 ·rfl
 ·split <;> rfl
theorem lW {t k i n : Nat} (ht : t<n) (hk : k<n) (hi : i<n) : lI t k i<n:=by unfold lI;split <;> (try split) <;> assumption
theorem H4 {t k i j : Nat} (h : i ≠ j) : lI t k i ≠ lI t k j:=by unfold lI;split <;> split <;> (try split) <;> (try split) <;> omega
theorem aY.swap {B : Nat} {a : OA} {n c : Nat} {R : Z4} {L : ZZ} (h : aY w B a n c R L) {t k : Nat} (ht : t<n) (hk : k<n) :
  aY ((w.setCell ⟨an a,aP a+t,none⟩ (.slice (aV R k).1 (ai L k).length (aV R k).2)).setCell ⟨an a,aP a+k,none⟩ (.slice (aV R t).1 (ai L t).length (aV R t).2)) B a n c (rI R t k) (bk L t k):=by
 have hRt : t<R.length:=by rw [h.rl];exact ht
 have hRk : k<R.length:=by rw [h.rl];exact hk
 have hLt : t<L.length:=by rw [h.ll];exact ht
 have hLk : k<L.length:=by rw [h.ll];exact hk
 refine ⟨by rw [nW];exact h.rl,by rw [dQ];exact h.ll,?_,λi hi=>?_,λi hi=>?_,λi j hi hj hij=>?_⟩
 ·have h1:=bN (bN h.own t ht (.slice (aV R k).1 (ai L k).length (aV R k).2)) k hk (.slice (aV R t).1 (ai L t).length (aV R t).2);rw [show (List.zipWith jx R L).set t (.slice (aV R k).1 (ai L k).length (aV R k).2)=_ from xE R L t (aV R k) (ai L k)] at h1;rw [show (List.zipWith jx (R.set t (aV R k)) (L.set t (ai L k))).set k (.slice (aV R t).1 (ai L t).length (aV R t).2)=_ from xE _ _ k (aV R t) (ai L t)] at h1;exact h1
 ·rw [kG _ _ _ _ hRt hRk,pd _ _ _ _ hLt hLk];have hf:=lW ht hk hi;exact du (p:=⟨an a,aP a+k,none⟩) (du (p:=⟨an a,aP a+t,none⟩) (h.row _ hf) _ (h.uq _ hf)) _ (h.uq _ hf)
 ·rw [kG _ _ _ _ hRt hRk];exact h.uq _ (lW ht hk hi)
 ·rw [kG _ _ _ _ hRt hRk,kG _ _ _ _ hRt hRk];exact h.sep _ _ (lW ht hk hi) (lW ht hk hj) (H4 hij)
theorem bS.swap {a : OA} {R : Z4} {t k b : Nat} (ht : t<R.length) (hk : k<R.length) (h : bS a (rI R t k) b) : bS a R b:=by
 rcases h with h | ⟨i,hi,h1,rfl⟩
 ·exact .inl h
 ·rw [nW] at hi;rw [kG _ _ _ _ ht hk] at h1 ⊢;exact aY.l6 (lW ht hk hi) h1
theorem aY.sK {B : Nat} {a : OA} {n c : Nat} {R : Z4} {L : ZZ} (h : aY w B a n c R L) {t k : Nat} (ht : t<n) (hk : k<n) (u v : Value) :
  aw w ((w.setCell ⟨an a,aP a+t,none⟩ u).setCell ⟨an a,aP a+k,none⟩ v) (bS a R) (bS a (rI R t k)):=by have hb0 : Below 0 w ((w.setCell ⟨an a,aP a+t,none⟩ u).setCell ⟨an a,aP a+k,none⟩ v):=((Mi 0 w).setCell (Mj _) u).setCell (Mj _) v;have hne:=h.ne (by omega);refine ⟨hb0.os,hb0.tape,hb0.output,hb0.size,λb hb hI=>?_,λb hb=>.inl (bS.swap (by rw [h.rl];exact ht) (by rw [h.rl];exact hk) hb)⟩;rw [MB _ _ _ _ λe=>hI (.inl ⟨hne,e⟩),MB _ _ _ _ λe=>hI (.inl ⟨hne,e⟩)]
theorem aY.drew {B : Nat} {a : OA} {n c : Nat} {R : Z4} {L : ZZ} (h : aY w B a n c R L) : aY w.drew B a n c R L:=h.ah (Mi _ _).drew
theorem aw.drew {w w' : World} {I I' : Nat->Prop} (h : aw w w' I I') : aw w w'.drew I I':=⟨h.os,h.tape,h.output,h.size,h.block,h.grow⟩
theorem tC (B : Nat) (a : OA) (n c : Nat) (R : Z4) (L : ZZ) (pk pt k t : Nat) (hO : aY w B a n c R L)
  (hk : w.cell? ⟨pk,0,none⟩=some (.int .i64 k)) (ht : w.cell? ⟨pt,0,none⟩=some (.int .i64 t)) (hkn : k<n) (htn : t<n) (hkt : k ≠ t) (nk : ¬ bS a R pk) (nt : ¬ bS a R pt) :
  Calls prog 250 #[.slice a n c,.pointer (some ⟨pk,0,none⟩),.pointer (some ⟨pt,0,none⟩)] w
   λe w'=>e = .returned (.tuple #[])/\∃R',aY w' B a n c R' (bk L t k)/\aw w w' (bS a R) (bS a R'):=by
 have hpl:=hO.pl;have ck:=hO.cell hkn;have ct:=hO.cell htn;have fk:=hO.frozen hkn;have ft:=hO.frozen htn;have hane : a ≠ none:=hO.ne (by omega);have npk : pk ≠ an a:=λe=>nk (.inl ⟨hane,e⟩);have npt : pt ≠ an a:=λe=>nt (.inl ⟨hane,e⟩);have k1 : (w.setCell ⟨an a,aP a+t,none⟩ (.slice (aV R k).1 (ai L k).length (aV R k).2)).cell? ⟨pk,0,none⟩=some (.int .i64 k):=by rw [MA _ _ _ _ (by simp [npk])];exact hk
 have k2 : (w.setCell ⟨an a,aP a+t,none⟩ (.slice (aV R k).1 (ai L k).length (aV R k).2)).cell? ⟨pt,0,none⟩=some (.int .i64 t):=by rw [MA _ _ _ _ (by simp [npt])];exact ht
 have k3 : (w.setCell ⟨an a,aP a+t,none⟩ (.slice (aV R k).1 (ai L k).length (aV R k).2)).cell? ⟨an a,aP a+k,none⟩=some (.slice (aV R k).1 (ai L k).length (aV R k).2):=by rw [MA _ _ _ _ (by simp <;> omega)];exact ck
 go_enter func250,ntmps250;go_wp2_with fail;go_region;have hO2:=(hO.swap htn hkn).drew;have hM2:=(hO.sK htn hkn (.slice (aV R k).1 (ai L k).length (aV R k).2) (.slice (aV R t).1 (ai L t).length (aV R t).2)).drew;go_wp2_with fail;go_end0;exact ⟨rfl,_,hO2,hM2⟩
theorem pQ (w0 : World) (a : OA) (n c : Nat) (R : Z4) (L : ZZ) (pg ps pt : Nat) (s : Int) (t : Nat) (hO : aY w w0.heap.size a n c R L)
  (h : dW w0 b G) (hb : Rs w0 w)
  (hg : w.cell? ⟨pg,0,none⟩=some (.pointer (some ⟨b,0,none⟩))) (hs : w.cell? ⟨ps,0,none⟩=some (.int .i64 s)) (ht : w.cell? ⟨pt,0,none⟩=some (.int .i64 t)) (htn : t<n) (hse : G.El s)
  (hel : G.Ei (ai L t)) (hln : (ai L t).length<=1000000) :
  Calls prog 251 #[.slice a n c,.pointer (some ⟨pg,0,none⟩),.pointer (some ⟨ps,0,none⟩),.pointer (some ⟨pt,0,none⟩)] w
   λe w'=>e = .returned (.tuple #[])/\∃R',aY w' w0.heap.size a n c R' (L.set t ((ai L t).map (G.mul s)))/\aw w w' (bS a R) (bS a R'):=by
 have hpl:=hO.pl;have ct:=hO.cell htn;have ft:=hO.frozen htn;have hi:=hO.ints htn;have hG:=h.ah hb;have hS : ∀W,Rs w W->W.cell? ⟨pg,0,none⟩=some (.pointer (some ⟨b,0,none⟩))/\W.cell? ⟨ps,0,none⟩=some (.int .i64 s)/\W.cell? ⟨pt,0,none⟩=some (.int .i64 t) /\
   W.cell? ⟨an a,aP a+t,none⟩=some (.slice (aV R t).1 (ai L t).length (aV R t).2)/\W.frozen? ⟨an a,aP a+t,none⟩=false/\Rs w W :=
  λW hW=>⟨aA hW hg,aA hW hs,aA hW ht,aA hW ct,(hO.ah hW).frozen htn,hW⟩
 have HS:=Z5 hS;clear hS;have hF : ∀w4 a4 c4,w4.ownsRow w.drew.heap.size 3 1 (.slice a4 ((ai L t).map (G.mul s)).length c4) ((ai L t).map (G.mul s)).length (((ai L t).map (G.mul s)).map (Value.int .i64))->Below w.drew.heap.size w.drew w4 ->
   ∃R',aY (w4.setCell ⟨an a,aP a+t,none⟩ (.slice a4 (ai L t).length c4)) w0.heap.size a n c R' (L.set t ((ai L t).map (G.mul s)))/\aw w (w4.setCell ⟨an a,aP a+t,none⟩ (.slice a4 (ai L t).length c4)) (bS a R) (bS a R'):=by
  intro w4 a4 c4 hown4 hb4;have hb5 : Rs w w4:=QQ (Mi _ _).drew hb4;have hO4:=hO.ah hb5;have hsz : w.drew.heap.size=w.heap.size:=rfl;rw [hsz] at hown4;have hnew : ∀b,b<w.heap.size->cF a4 b:=λb hb=>mI hown4 hb;have h1:=hO4.setRow htn (bg hown4 hb.size) (hnew _ (hO.lt _ (.inl ⟨hO.ne (by omega),rfl⟩)).2) (λj hj _=>by
   by_cases hn : (aV R j).1=none
   ·exact .inl hn
   ·exact .inr (hnew _ (hO.lt _ (aY.l6 (by rw [hO.rl];exact hj) hn)).2))
  have h2:=hO.mY hb5 htn (r:=a4) (rc:=c4) (.slice a4 ((ai L t).map (G.mul s)).length c4) (λha=>.inr (aZ hown4 ha).1);rw [Mx] at h1 h2;exact ⟨_,h1,h2⟩
 have HF:=Z5 hF;clear hF;go_enter func251,ntmps251;go_wp2_with fail;go_region_law ((first
  | (go_simp;go_at_call 194;((with_reducible refine (wT s _ _ _ _ (hG.ah (Mi _ _).drew) hse (hi.ah (Mi _ _).drew) hel hln).mono ?_);rintro e w4 ⟨a4,c4,rfl,hown4,hb4⟩;obtain ⟨q0,q1,q2,q3,q4,q5⟩:=HS.out w4 (QQ (Mi _ _).drew hb4)))))
 all_goals (
  go_wp2_with fail
  go_end0
  exact ⟨rfl,HF.out _ _ _ hown4 hb4⟩)
end
section
variable {w : World} {b : Nat} {G : cJ}
theorem de.cQ {a av : OA} {R : Z4} {w w' : World} (h : de av w w') (hin : av ≠ none->bS a R (an av)) : aw w w' (bS a R) (bS a R) :=
 ⟨h.os,h.tape,h.output,h.size,λb hb hI=>h.block b hb (λ⟨h1,h2⟩=>hI (by rw [h2];exact hin h1)),λ_ h=>.inl h⟩
theorem o7 (w0 : World) (a : OA) (n c : Nat) (R : Z4) (L : ZZ) (pg pi px pt m : Nat) (i : Nat) (x : Int) (t : Nat) (hO : aY w w0.heap.size a n c R L)
  (h : dW w0 b G) (hb : Rs w0 w)
  (hg : w.cell? ⟨pg,0,none⟩=some (.pointer (some ⟨b,0,none⟩))) (hi : w.cell? ⟨pi,0,none⟩=some (.int .i64 i)) (hx : w.cell? ⟨px,0,none⟩=some (.int .i64 x)) (ht : w.cell? ⟨pt,0,none⟩=some (.int .i64 t))
  (hin : i<n) (htn : t<n) (hit : i ≠ t) (hxe : G.El x) (ng : ¬ bS a R pg) (ni : ¬ bS a R pi) (nx : ¬ bS a R px) (nt : ¬ bS a R pt) (hei : G.Ei (ai L i)) (het : G.Ei (ai L t)) (hli : (ai L i).length=m) (hlt : (ai L t).length=m) :
  Calls prog 252 #[.slice a n c,.pointer (some ⟨pg,0,none⟩),.pointer (some ⟨pi,0,none⟩),.pointer (some ⟨px,0,none⟩),.pointer (some ⟨pt,0,none⟩)] w
   λe w'=>e = .returned (.tuple #[])/\aY w' w0.heap.size a n c R (L.set i (bW G.ops (ai L i) (G.neg x) (ai L t)))/\aw w w' (bS a R) (bS a R):=by
 have hpl:=hO.pl;have ct:=hO.cell htn;have ci:=hO.cell hin;have ri:=hO.row i hin;have rt:=hO.ints htn;have hsep:=hO.sep i t hin htn hit;have hne : G.El (G.neg x):=cJ.vV h x;rw [hlt] at ct rt;rw [hli] at ci ri;have hap : (aV R i).1=none\/(aV R t).1=none\/an (aV R t).1 ≠ an (aV R i).1:=hsep;have hadd : ∀k,Calls prog 207 #[.pointer (some ⟨b,0,none⟩),.slice (aV R i).1 m (aV R i).2,.int .i64 (G.neg x),.slice (aV R t).1 m (aV R t).2] (w.drewN k)
   λe w'=>e = .returned (.tuple #[])/\(w'.cell? ⟨pg,0,none⟩=some (.pointer (some ⟨b,0,none⟩))/\w'.cell? ⟨pi,0,none⟩=some (.int .i64 i)/\w'.cell? ⟨px,0,none⟩=some (.int .i64 x)/\w'.cell? ⟨pt,0,none⟩=some (.int .i64 t) /\
    w'.cell? ⟨an a,aP a+t,none⟩=some (.slice (aV R t).1 m (aV R t).2)/\w'.cell? ⟨an a,aP a+i,none⟩=some (.slice (aV R i).1 m (aV R i).2))/\(aY w' w0.heap.size a n c R (L.set i (bW G.ops (ai L i) (G.neg x) (ai L t)))/\aw w w' (bS a R) (bS a R)):=by
  intro k;have hd : bs w (w.drewN k):=⟨k,rfl⟩
  refine (C5 w0 _ _ m (ai L i) (G.neg x) _ _ (ai L t) h (hd.xR hb) (ba ri hd.below) (rt.ah hd.below) hap hei het hne).mono ?_;rintro e w' ⟨rfl,hown,honly⟩;have hmv : aw w w' (bS a R) (bS a R):=(aw.aT hd.below _).trans (honly.cQ (λhn=>aY.l6 (by rw [hO.rl];exact hin) hn));have hne2 : ¬ ((aV R i).1 ≠ none/\an a=an (aV R i).1):=by
   rintro ⟨h1,h2⟩;rcases hO.uq i hin with h3 | h3
   ·exact h1 h3
   ·exact h3 h2.symm
  refine ⟨rfl,⟨hmv.cell hg ng,hmv.cell hi ni,hmv.cell hx nx,hmv.cell ht nt,aw.cell (aw.trans (aw.aT hd.below _) honly) ct hne2,aw.cell (aw.trans (aw.aT hd.below _) honly) ci hne2⟩,?_,hmv⟩;have hOr:=hO.ah hd.below;have hl : (bW G.ops (ai L i) (G.neg x) (ai L t)).length=(ai L i).length:=fo _ _ _ _ (by rw [hli,hlt]);refine hOr.F1 hin hl (by rw [hli];exact hown) λb hb hne=>honly.block b hb λ⟨h1,h2⟩=>?_;rcases hne with h3 | h3
  ·exact h1 h3
  ·exact h3 h2
 have Hadd:=Z5 hadd;have hG:=h.ah hb;have HG : Hid (dW w.drew b G/\∀n,dW (w.drewN n) b G):=⟨hG.ah (Mi _ _).drew,λn=>hG.drewN n⟩
 clear hadd hsep hap hli hlt;generalize L.set i (bW G.ops (ai L i) (G.neg x) (ai L t))=L' at *;go_enter func252,ntmps252;go_wp2_with fail;go_region_held3 (fun w' => w'.cell? ⟨pg, 0, none⟩ = some (.pointer (some ⟨b, 0, none⟩)) ∧ w'.cell? ⟨pi, 0, none⟩ = some (.int .i64 i) ∧ w'.cell? ⟨px, 0, none⟩ = some (.int .i64 x) ∧ w'.cell? ⟨pt, 0, none⟩ = some (.int .i64 t) ∧
       w'.cell? ⟨an a,aP a+t,none⟩=some (.slice (aV R t).1 m (aV R t).2)/\w'.cell? ⟨an a,aP a+i,none⟩=some (.slice (aV R i).1 m (aV R i).2))
  (first | assumption | exact ⟨hg,hi,hx,ht,ct,ci⟩)
  (first
  | (go_at_call 88;((with_reducible refine (Jp x HG.out.1 hxe).mono ?_);rintro e w4 ⟨m4,rfl,rfl⟩))
  | (go_at_call 207;((with_reducible refine (Hadd.out _).mono ?_);rintro e w5 ⟨rfl,hS5,hO5,hM5⟩)))
 go_wp2_with fail;go_end0;exact ⟨rfl,hO5,hM5⟩
end
section
variable {w : World}
theorem EV (c0 c1 : Value) (p q : Nat) (a : OA) (n c : Nat) (X : World->Prop) (h1 : w.cell? ⟨p,0,none⟩=some (.slice a n c))
  (hf : Calls prog 250 #[.slice a n c,c0,c1] w λe w'=>e = .returned (.tuple #[])/\w'.cell? ⟨q,0,none⟩=some (.slice none 0 0)/\X w') :
  Calls prog 249 #[.func (.func 250) #[] #[c0,c1],.pointer (some ⟨p,0,none⟩),.pointer (some ⟨q,0,none⟩)] w
   λe w'=>e = .returned (.tuple #[])/\X w':=by have Hf:=Z5 hf;clear hf;go_enter func249,ntmps249;go_wp2_with fail;refine Hf.out.mono ?_;rintro e w' ⟨rfl,hq,hX⟩;go_wp2_with fail;go_end0;exact ⟨rfl,hX⟩
theorem EX (c0 c1 c2 : Value) (p q : Nat) (a : OA) (n c : Nat) (X : World->Prop) (h1 : w.cell? ⟨p,0,none⟩=some (.slice a n c))
  (hf : Calls prog 251 #[.slice a n c,c0,c1,c2] w λe w'=>e = .returned (.tuple #[])/\w'.cell? ⟨q,0,none⟩=some (.slice none 0 0)/\X w') :
  Calls prog 249 #[.func (.func 251) #[] #[c0,c1,c2],.pointer (some ⟨p,0,none⟩),.pointer (some ⟨q,0,none⟩)] w
   λe w'=>e = .returned (.tuple #[])/\X w':=by have Hf:=Z5 hf;clear hf;go_enter func249,ntmps249;go_wp2_with fail;refine Hf.out.mono ?_;rintro e w' ⟨rfl,hq,hX⟩;go_wp2_with fail;go_end0;exact ⟨rfl,hX⟩
theorem DT (c0 c1 c2 c3 : Value) (p q : Nat) (a : OA) (n c : Nat) (X : World->Prop) (h1 : w.cell? ⟨p,0,none⟩=some (.slice a n c))
  (hf : Calls prog 252 #[.slice a n c,c0,c1,c2,c3] w λe w'=>e = .returned (.tuple #[])/\w'.cell? ⟨q,0,none⟩=some (.slice none 0 0)/\X w') :
  Calls prog 249 #[.func (.func 252) #[] #[c0,c1,c2,c3],.pointer (some ⟨p,0,none⟩),.pointer (some ⟨q,0,none⟩)] w
   λe w'=>e = .returned (.tuple #[])/\X w':=by have Hf:=Z5 hf;clear hf;go_enter func249,ntmps249;go_wp2_with fail;refine Hf.out.mono ?_;rintro e w' ⟨rfl,hq,hX⟩;go_wp2_with fail;go_end0;exact ⟨rfl,hX⟩
end
theorem kN (w : World) (cs : Array Value) (e : TypeId) {g : Nat} (hg : g=w.heap.size) (i : Nat) : (w.alloc (.cells cs e)).frozen? ⟨g,i,none⟩=false:=by subst hg;simp
theorem j9 {w w' : World} (hb : Rs w w') {g i : Nat} (hg : g<w.heap.size) {v : Bool} (h : w.frozen? ⟨g,i,none⟩=v) : w'.frozen? ⟨g,i,none⟩=v:=(hb.frozen (p:=⟨g,i,none⟩) hg).trans h
theorem cR {w : World} {g i : Nat} {v : Bool} (hg : g<w.heap.size) (h : w.frozen? ⟨g,i,none⟩=v) (o : Obj) : (w.alloc o).frozen? ⟨g,i,none⟩=v:=j9 ((Mi _ _).alloc (Mf _) o) hg h
def bf (w : World) (b : Nat) (cs : List Value) : Prop:=b<w.heap.size/\(∀i v,cs[i]? = some v->w.cell? ⟨b,i,none⟩=some v)/\∀i,w.frozen? ⟨b,i,none⟩=false
theorem bf.new (w : World) (cs : List Value) (e : TypeId) {g : Nat} (hg : g=w.heap.size) : bf (w.alloc (.cells cs.toArray e)) g cs :=
 ⟨by subst hg;simp,λi v hv=>by rw [aE _ _ _ hg i];simpa using hv,λi=>kN _ _ _ hg i⟩
theorem bf.ah {w w' : World} {b : Nat} {cs : List Value} (h : bf w b cs) (hb : Rs w w') : bf w' b cs :=
 ⟨ME h.1 hb.size,λi v hv=>aA hb (h.2.1 i v hv),λi=>j9 hb h.1 (h.2.2 i)⟩
theorem bf.alloc {w : World} {b : Nat} {cs : List Value} (h : bf w b cs) (o : Obj) : bf (w.alloc o) b cs:=h.ah ((Mi _ _).alloc (Mf _) o)
theorem bf.cell {w : World} {b : Nat} {cs : List Value} (h : bf w b cs) (i : Nat) {v : Value} (hv : cs[i]? = some v) : w.cell? ⟨b,i,none⟩=some v:=h.2.1 i v hv
theorem bf.frozen {w : World} {b : Nat} {cs : List Value} (h : bf w b cs) (i : Nat) : w.frozen? ⟨b,i,none⟩=false:=h.2.2 i
theorem tu (w : World) (o1 o2 o3 : Obj) : Rs w (((w.alloc o1).alloc o2).alloc o3):=(((Mi _ _).alloc (Mf _) _).alloc (by simp) _).alloc (by simp;omega) _
theorem iD (w : World) (o1 o2 : Obj) : Rs w ((w.alloc o1).alloc o2):=((Mi _ _).alloc (Mf _) _).alloc (by simp) _
theorem aB (w : World) (o1 : Obj) : Rs w (w.alloc o1):=(Mi _ _).alloc (Mf _) _
theorem Ints.drawn {w w' : World} {a : OA} {n : Nat} {l : Lz} (h : Ints w a n l) (hd : bs w w') : Ints w' a n l:=h.ah hd.below
theorem cU.drawn {w w' : World} {a : OA} {n : Nat} {l : ZZ} (h : cU w a n l) (hd : bs w w') : cU w' a n l:=h.ah hd.below
theorem bs.trans {w w' w'' : World} (h : bs w w') (k : bs w' w'') : bs w w'' := by obtain ⟨m, rfl⟩ := h; obtain ⟨n, rfl⟩ := k; exact ⟨m + n, World.drewN_drewN _ _ _⟩
def mw (w : World) (z : Bool) (e : Ending) (w' : World) : Prop:=e = .returned (.bool z)/\bs w w'
section
structure bR (O : aJ) (El : Int->Prop) : Prop where
 cl : sV O El
 zero : El 0
 one : El 1
 add_comm : ∀x y,El x->El y->O.add x y=O.add y x
 add_assoc : ∀x y z,El x->El y->El z->O.add (O.add x y) z=O.add x (O.add y z)
 add_zero : ∀x,El x->O.add x 0=x
 add_neg : ∀x,El x->O.add x (O.neg x)=0
 mul_comm : ∀x y,El x->El y->O.mul x y=O.mul y x
 mul_assoc : ∀x y z,El x->El y->El z->O.mul (O.mul x y) z=O.mul x (O.mul y z)
 one_mul : ∀x,El x->O.mul 1 x=x
 mul_add : ∀x y z,El x->El y->El z->O.mul x (O.add y z)=O.add (O.mul x y) (O.mul x z)
 mul_inv : ∀x,El x->x ≠ 0->O.mul x (O.inv x)=1
def pw (P : Int) (M : Nat) (mod : Lz) (y : Int) : Nat->Int
 | 0=>1
 | k+1=>dk P M mod (pw P M mod y k) y
variable {P : Int} {M : Nat} {mod : Lz} {q : Nat} {y : Int}
theorem vi (h : lJ P M) (y : Int) : ∀k,fC P M (pw P M mod y k)
 | 0=>wq h
 | k+1=>fW h _ _
theorem i7 (h : lJ P M) (y : Int) (a : Nat) : ∀b,dk P M mod (pw P M mod y a) (pw P M mod y b)=pw P M mod y (a+b)
 | 0=>by rw [pw,ju h,iY h (vi h y a)];rfl
 | b+1=>by rw [pw,<- sf h,i7 h y a b];rfl
theorem uJ (y : Int) : ∀(n : Nat) (l : Lz),(∀i,i<l.length->nth l i=pw P M mod y i)->l.Nodup->(∀e ∈ l,e ≠ 0) ->
  (∀i,i<(jb (λz=>dk P M mod z y) n l (pw P M mod y l.length)).length->nth (jb (λz=>dk P M mod z y) n l (pw P M mod y l.length)) i=pw P M mod y i) /\
  (jb (λz=>dk P M mod z y) n l (pw P M mod y l.length)).Nodup/\∀e ∈ jb (λz=>dk P M mod z y) n l (pw P M mod y l.length),e ≠ 0
 | 0,l,h1,h2,h3=>⟨h1,h2,h3⟩
 | n+1,l,h1,h2,h3=>by
  by_cases hs : pw P M mod y l.length=0\/pw P M mod y l.length ∈ l
  ·rw [jD _ _ _ _ hs];exact ⟨h1,h2,h3⟩
  ·rw [rK _ _ _ _ hs];have e : dk P M mod (pw P M mod y l.length) y=pw P M mod y (l ++ [pw P M mod y l.length]).length:=by simp [pw]
   rw [e];refine uJ y n _ (λi hi=>?_) ?_ ?_
   ·simp only [Mp,Mz] at hi;by_cases hl : i<l.length
    ·rw [nth,Mk,ML hl,<- Mk];exact h1 i hl
    ·obtain rfl : i=l.length:=by omega
     simp [nth]
   ·rw [Nq];refine ⟨h2,by simp,λa ha b hb=>?_⟩;rw [List.mem_singleton.1 hb];intro e;exact hs (.inr (e ▸ ha))
   ·intro e he;rcases List.mem_append.1 he with h | h
    ·exact h3 e h
    ·rw [List.mem_singleton.1 h];intro e;exact hs (.inl e)
theorem Ge (h : lJ P M) (hy : fC P M y) (q : Nat) :
  (∀i,i<(e9 P M mod q y).length->nth (e9 P M mod q y) i=pw P M mod y i)/\(e9 P M mod q y).Nodup/\∀e ∈ e9 P M mod q y,e ≠ 0:=by
 have e : pw P M mod y [(1 : Int)].length=y:=by show dk P M mod (pw P M mod y 0) y=y;rw [pw,iY h hy]
 have:=uJ (P:=P) (M:=M) (mod:=mod) y q [1] (λi hi=>by
  have : i=0:=by simp at hi;omega
  subst this;rfl) (by simp) (by simp)
 rw [e] at this;exact this
structure ui (P : Int) (M : Nat) (mod : Lz) (q : Nat) (y : Int) (ex : Lz) : Prop where
 res : lJ P M
 q2 : 2<=q
 pq : (q : Int)=P ^ M
 yel : fC P M y
 len : ex.length=q - 1
 val : ∀i,i<q - 1->nth ex i=pw P M mod y i
 nodup : ex.Nodup
 ne : ∀e ∈ ex,e ≠ 0
 last : pw P M mod y (q - 1)=1
theorem ui.zd (h : lJ P M) (hq : (q : Int)=P ^ M) (hy : fC P M y) (hg : gn P M mod q y=true) : ui P M mod q y (e9 P M mod q y):=by
 have hq2 : 2<=q:=by have:=one_lt_pow h;omega
 simp only [gn,MC,beq_iff_eq] at hg;obtain ⟨h1,h2,h3⟩:=Ge (mod:=mod) h hy q;refine ⟨h,hq2,hq,hy,hg.1,λi hi=>h1 i (by omega),h2,h3,?_⟩;have:=hg.2;rw [h1 _ (by omega)] at this;rw [show q - 1=(q - 2)+1 by omega];exact this
namespace ui
variable {ex : Lz}
theorem mem (g : ui P M mod q y ex) {e : Int} (he : fC P M e) (h0 : e ≠ 0) : e ∈ ex:=by
 apply Mv;intro hn;have hnd : (e :: ex).Nodup:=List.nodup_cons.2 ⟨hn,g.nodup⟩;have hsub : ∀x ∈ e :: ex,x ∈ (List.range (q - 1)).map (λi : Nat=>(i : Int)+1):=by
  intro x hx;have hx2 : fC P M x/\x ≠ 0:=by
   rcases List.mem_cons.1 hx with rfl | hx
   ·exact ⟨he,h0⟩
   ·refine ⟨?_,g.ne x hx⟩;obtain ⟨i,hi,rfl⟩:=List.mem_iff_getElem.1 hx;rw [<- aj hi,g.val i (by rw [<- g.len];exact hi)];exact vi g.res y i
  rw [Oc];have h1:=hx2.1.1;have h2:=hx2.1.2;have h3:=hx2.2;have h4:=g.pq;have h5:=g.q2;exact ⟨(x - 1).toNat,by rw [M8];omega,by omega⟩
 have hle:=List.Nodup.length_le_of_subset hnd hsub;simp at hle;have h5:=g.q2;have h6:=g.len;omega
theorem log (g : ui P M mod q y ex) {e : Int} (he : fC P M e) (h0 : e ≠ 0) : ∃k,k<q - 1/\e=pw P M mod y k/\nth ex k=e:=by
 obtain ⟨i,hi,e1⟩:=List.mem_iff_getElem.1 (g.mem he h0);have hi2 : i<q - 1:=by rw [<- g.len];exact hi
 refine ⟨i,hi2,?_,?_⟩
 ·rw [<- g.val i hi2,aj hi,e1]
 ·rw [aj hi,e1]
theorem period (g : ui P M mod q y ex) (a : Nat) : ∀n,pw P M mod y (a+n * (q - 1))=pw P M mod y a
 | 0=>by simp
 | n+1=>by rw [show a+(n+1) * (q - 1)=(a+n * (q - 1))+(q - 1) by rw [Ou];omega,<- i7 g.res,g.last,ju g.res,iY g.res (vi g.res y _),period g a n]
theorem red (g : ui P M mod q y ex) (a : Nat) : pw P M mod y (a % (q - 1))=pw P M mod y a:=by have h:=g.period (a % (q - 1)) (a / (q - 1));rw [<- h,Pn,Nat.mod_add_div]
theorem Lo (g : ui P M mod q y ex) (a : Nat) : pw P M mod y a ≠ 0:=by have h5:=g.q2;rw [<- g.red a];have hlt : a % (q - 1)<q - 1:=Po _ (by omega);rw [<- g.val _ hlt];exact g.ne _ (aN (by rw [g.len];exact hlt))
theorem inj (g : ui P M mod q y ex) {i j : Nat} (hi : i<q - 1) (hj : j<q - 1) (h : nth ex i=nth ex j) : i=j:=by
 rw [aj (by rw [g.len];exact hi),aj (by rw [g.len];exact hj)] at h;have hp:=List.pairwise_iff_getElem.1 g.nodup;rcases Pz i j with h1 | h1 | h1
 ·exact absurd h (hp i j _ _ h1)
 ·exact h1
 ·exact absurd h.symm (hp j i _ _ h1)
theorem uO (g : ui P M mod q y ex) {k : Nat} (hk : k<q - 1) : fC P M (nth ex k):=by rw [g.val k hk];exact vi g.res y k
theorem vC (g : ui P M mod q y ex) : ∀k,k<=q - 1->∀j,j<k->nth (dT q ex k) (nth ex j).toNat=j
 | 0,_,j,hj=>by omega
 | k+1,hk,j,hj=>by
  have hkel:=g.uO (k:=k) (by omega);have hjel:=g.uO (k:=j) (by omega);have h1:=hkel.1;have h2:=hkel.2;have h3:=hjel.1;have h4:=g.pq;rw [dT,dD _ _ _ _ (by rw [jf];omega)];by_cases e : j=k
  ·subst e;rw [Mg rfl]
  ·rw [Mh]
   ·exact vC g k (by omega) j (by omega)
   ·intro e2;exact e (g.inj (by omega) (by omega) (by omega))
theorem Ke (g : ui P M mod q y ex) {k : Nat} (hk : k<q - 1) : nth (dT q ex (q - 1)) (pw P M mod y k).toNat=k:=by rw [<- g.val k hk];exact g.vC (q - 1) (Mf _) k hk
theorem CF (g : ui P M mod q y ex) {x z : Int} (hx : fC P M x) (hz : fC P M z) : rN q ex (dT q ex (q - 1)) x z=dk P M mod x z:=by
 unfold rN;by_cases h0 : x=0\/z=0
 ·rw [Mg h0];rcases h0 with rfl | rfl
  ·rw [ju g.res,pE g.res]
  ·rw [pE g.res]
 ·rw [Mh h0];obtain ⟨a,ha,rfl,_⟩:=g.log hx (λe=>h0 (.inl e));obtain ⟨b,hb,rfl,_⟩:=g.log hz (λe=>h0 (.inr e));have h5:=g.q2;rw [g.Ke ha,g.Ke hb,i7 g.res];have e1 : ((a : Int)+b) % ((q : Int) - 1)=(((a+b) % (q - 1) : Nat) : Int):=by rw [QE,Int.natCast_add,PZ (by omega)];rfl
  rw [e1,Mm,g.val _ (Po _ (by omega)),g.red]
theorem GZ (g : ui P M mod q y ex) {x : Int} (hx : fC P M x) (h0 : x ≠ 0) : dk P M mod x (Ao q ex (dT q ex (q - 1)) x)=1:=by
 obtain ⟨a,ha,rfl,_⟩:=g.log hx h0;have h5:=g.q2;unfold Ao;rw [g.Ke ha];have e1 : ((q : Int) - 1 - a) % ((q : Int) - 1)=(((q - 1 - a) % (q - 1) : Nat) : Int):=by rw [QE,PZ (by omega),PZ (by omega)];rfl
 rw [e1,Mm,g.val _ (Po _ (by omega)),g.red,i7 g.res,show a+(q - 1 - a)=q - 1 by omega,g.last]
theorem Iw (g : ui P M mod q y ex) (x : Int) : fC P M (Ao q ex (dT q ex (q - 1)) x):=by have h5:=g.q2;unfold Ao;refine g.uO ?_;have h1:=MZ ((q : Int) - 1 - nth (dT q ex (q - 1)) x.toNat) (show (q : Int) - 1 ≠ 0 by omega);have h2:=MR ((q : Int) - 1 - nth (dT q ex (q - 1)) x.toNat) (show 0<(q : Int) - 1 by omega);omega
theorem Md (g : ui P M mod q y ex) : bR (cJ.ops ⟨P,M,q,ex,dT q ex (q - 1)⟩) (fC P M):=by
 have hmul : ∀ {x z : Int},fC P M x->fC P M z->(cJ.ops ⟨P,M,q,ex,dT q ex (q - 1)⟩).mul x z=dk P M mod x z:=λhx hz=>g.CF hx hz;have h:=g.res;have hinv : ∀x,fC P M ((cJ.ops ⟨P,M,q,ex,dT q ex (q - 1)⟩).inv x):=λx=>g.Iw x;refine ⟨⟨λx z _ _=>iI h x z,λx z hx hz=>?_,λx _=>wk h x,λx _ _=>hinv x⟩,wW h,wq h,λx z _ _=>EP h x z,λx z u _ _ _=>A4 h x z u,λx hx=>JD h hx,λx _=>Ev h x,?_,?_,?_,?_,?_⟩
 ·rw [hmul hx hz];exact fW h x z
 ·intro x z hx hz;rw [hmul hx hz,hmul hz hx,ju h]
 ·intro x z u hx hz hu;rw [hmul hx hz,hmul hz hu,hmul (fW h x z) hu,hmul hx (fW h z u),sf h]
 ·intro x hx;rw [hmul (wq h) hx,iY h hx]
 ·intro x z u hx hz hu;have hs : (cJ.ops ⟨P,M,q,ex,dT q ex (q - 1)⟩).add=eD P M:=rfl;rw [hs,hmul hx (iI h z u),hmul hx hz,hmul hx hu,Fu h]
 ·intro x hx h0;rw [hmul hx (hinv x)];exact g.GZ hx h0
end ui
theorem tS {P M : Int} {mod : Lz} (h : bQ P M mod=true) : ∃(m : Nat) (y : Int),M=m/\lJ P m/\P ^ m<=256/\bZ P m mod=true/\(aU P m).toNat=P ^ m/\ui P m mod (aU P m).toNat y (gC P m mod (aU P m).toNat):=by
 unfold bQ at h;rw [MC] at h;obtain ⟨hs,hg⟩:=h;have hs2:=hs;simp only [bZ,MC,bne_iff_ne,ne_eq] at hs2;obtain ⟨b1,b2,b3,b4,b5,b6⟩:=ik hs2.1.1;obtain ⟨m,rfl⟩ : ∃m : Nat,M=m:=⟨M.toNat,by omega⟩
 rw [Mm] at *;have hres : lJ P m:=⟨b1,by omega⟩
 have hq : ((aU P m).toNat : Int)=P ^ m:=by have:=one_lt_pow hres;omega
 have hne : gC P m mod (aU P m).toNat ≠ []:=by intro e;rw [e] at hg;simp at hg
 obtain ⟨y,hy1,hy2,hy3,hy4⟩:=p3 hne;refine ⟨m,y,rfl,hres,b5,hs,hq,?_⟩;rw [hy4];exact ui.zd hres hq ⟨by omega,by omega⟩ hy3
theorem jy {P M : Int} {mod : Lz} (h : bQ P M mod=true) : bR (aa P M.toNat mod).ops (aa P M.toNat mod).El:=by
 obtain ⟨m,y,rfl,hr,_,_,hq,g⟩:=tS h;have e : (aa P ((m : Int).toNat) mod).El=fC P m:=by funext x;simp only [cJ.El,aa,fC,Mm];rw [hq]
 rw [e];exact g.Md
end
def QS:=@bf.new
def QU:=@aw.aT
def QW:=@bs.refl
def QY:=@aw.refl
def Q1:=@bs.below
def Q2:=@de.drawn
def Q4:=@bx.clear
def Q6:=@cJ.cl
def Ra:=@de.set
def Rb:=@de.refl
def Rg:=@aw.trans
end Go.Proofs.YtcfmiocdlcapoaaGreat
