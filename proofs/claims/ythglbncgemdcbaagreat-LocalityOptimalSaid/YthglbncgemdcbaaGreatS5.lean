import Derived.Test.YthglbncgemdcbaaGreatS4
namespace Go.Proofs.YthglbncgemdcbaaGreat
set_option linter.all false
set_option maxRecDepth 100000
set_option maxHeartbeats 1600000
open Go.RowKit Go.Proofs.Tryz
section
def jR (q x : Int) : Bool:=decide (0<=x) && decide (x<q)
def dY (q : Int) (l : Lz) : Bool:=l.all (jR q)
def gU (q : Int) (l : Lz) : Int:=if dY q l then 0 else 2
def lZ (cols : Int) (L : ZZ) : Bool:=L.all λr=>decide ((r.length : Int)=cols)
def iB (q cols : Int) (L : ZZ) : Int :=
 if cols<0\/256<cols\/256<L.length then 3 else if lZ cols L=false then 3 else if L.all (dY q) then 0 else 2
theorem ed {α : Type} {p : α->Bool} {l : List α} {k : Nat} (hk : k<l.length) (h : (l.take k).all p=true) (hp : p l[k]=true) : (l.take (k+1)).all p=true:=by rw [Nj hk,Qq,h];simp [hp]
theorem dZ {α : Type} {p : α->Bool} {l : List α} {k : Nat} (hk : k<l.length) (hp : p l[k]=false) : l.all p=false:=by rw [OU];exact ⟨_,NO hk,by simp [hp]⟩
variable {w : World} {b : Nat} {G : dn}
theorem uy (a : OA) (n c : Nat) (l : Lz) (h : ew w b G) (hi : Ints w a n l) :
  Calls prog 146 #[.pointer (some ⟨b,0,none⟩),.slice a n c] w λe w'=>e = .returned (.int .i64 (gU G.q l))/\w=w':=by
 have hpl:=hi.pl;have hlen:=hi.len;have hmax:=hi.max;unfold maxLen at hmax;have Hlen:=Z5 hlen;clear hlen;go_enter func146,ntmps146;go_wp2;go_loop [9] (λiv=>∃k : Nat,k<=n/\iv = .int .i64 k/\Hid ((l.take k).all (jR G.q)=true)) (λiv=>n - (intOf iv).toNat);case atStart=>exact ⟨0,Ni _,rfl,by show _=_;simp⟩
 case round =>
  obtain ⟨k,hk,rfl,hall⟩:=hrel
  by_cases hlt : k<n
  ·have hc:=hi.cell k hlt
   by_cases hq : jR G.q (nth l k)=true
   ·have hq':=hq
    unfold jR at hq'
    have Hq:=Z5 hq
    clear hq
    go_wp2_with (first | (go_at_call 55;refine (Mn (nth l k) h).mono ?_;rintro e w' ⟨rfl,rfl⟩))
    go_round
    case rel=>exact ⟨k+1,by omega,by go_num,ed (by rw [Hlen.out];exact hlt) hall.out (by rw [<- aj (by rw [Hlen.out];exact hlt)];exact Hq.out)⟩
    case measure=>simp [intOf] <;> omega
   ·have hq : jR G.q (nth l k)=false:=by simpa using hq
    have hq':=hq
    unfold jR at hq'
    have Hf : Hid (dY G.q l=false):=dZ (k:=k) (by rw [Hlen.out];exact hlt) (by rw [<- aj (by rw [Hlen.out];exact hlt)];exact hq)
    clear hq
    go_wp2_with (first | (go_at_call 55;refine (Mn (nth l k) h).mono ?_;rintro e w' ⟨rfl,rfl⟩))
    go_ret
    exact ⟨aP (by rw [gU,Hf.out];rfl),rfl⟩
  ·obtain rfl : k=n:=by omega
   have Hf : Hid (dY G.q l=true):=by have:=hall.out;rw [No (by rw [Hlen.out];exact Na _)] at this;exact this
   go_wp2
   go_ret
   exact ⟨aP (by rw [gU,Hf.out];rfl),rfl⟩
theorem F8 (cols : Int) (a : OA) (n c : Nat) (L : ZZ) (h : ew w b G) (hi : br w a n L) :
  Calls prog 197 #[.pointer (some ⟨b,0,none⟩),.agg #[.int .i64 cols,.slice a n c]] w λe w'=>e = .returned (.int .i64 (iB G.q cols L))/\SW w w':=by
 have hpl:=hi.pl;have hlen:=hi.len;have hmax:=hi.max;unfold maxLen at hmax;have Hlen:=Z5 hlen;clear hlen;have hbox : ∀w' : World,Below (w.heap.size+1) (w.alloc (.cells #[.int .i64 cols,.slice a n c] 94)) w' ->
   w'.cell? ⟨w.heap.size,0,none⟩=some (.int .i64 cols)/\w'.cell? ⟨w.heap.size,1,none⟩=some (.slice a n c)/\SW w w':=by intro w' h;refine ⟨(h.cell (by simp)).trans (by simp),(h.cell (by simp)).trans (by simp),((Nc _ _).alloc (Na _) _).trans (h.mono (by omega))⟩
 have Hbox:=Z5 hbox;clear hbox;have Hal:=Z5 ((Nc w.heap.size w).alloc (Na _) (.cells #[.int .i64 cols,.slice a n c] 94));by_cases b1 : cols<0
 ·have Hf : Hid (iB G.q cols L=3):=by show _=_;rw [iB,Nd (.inl b1)]
  go_enter func197,ntmps197;go_wp2_with fail;go_ret;exact ⟨aP Hf.out.symm,Hal.out⟩
 by_cases b2 : 256<cols
 ·have Hf : Hid (iB G.q cols L=3):=by show _=_;rw [iB,Nd (.inr (.inl b2))]
  go_enter func197,ntmps197;go_wp2_with fail;go_ret;exact ⟨aP Hf.out.symm,Hal.out⟩
 by_cases b3 : 256<n
 ·have Hf : Hid (iB G.q cols L=3):=by show _=_;rw [iB,Nd (.inr (.inr (by rw [Hlen.out];exact b3)))]
  have t1 : decide (cols<0)=false:=by simpa using b1
  have t2 : decide (256<cols)=false:=by simpa using b2
  have t3 : decide (256<(n : Int))=true:=by simp;omega
  go_enter func197,ntmps197;go_wp2_with fail;go_ret;exact ⟨aP Hf.out.symm,Hal.out⟩
 have Hm : Hid (iB G.q cols L=if lZ cols L=false then 3 else if L.all (dY G.q) then 0 else 2):=by show _=_;rw [iB,Nf (by rw [Hlen.out];omega)]
 have t1 : decide (cols<0)=false:=by simpa using b1
 have t2 : decide (256<cols)=false:=by simpa using b2
 have t3 : decide (256<(n : Int))=false:=by simp;omega
 clear b1 b2;go_enter func197,ntmps197;go_wp2_with fail;generalize hW0 : w.alloc (.cells #[.int .i64 cols,.slice a n c] 94)=W0 at *;have hW0s : W0.heap.size=w.heap.size+1:=by rw [<- hW0];simp
 obtain ⟨q0,q1,hbw⟩:=Hbox.out W0 (Nc _ _);have hiW:=hi.ah hbw;clear hW0;go_loop [27] (λiv=>∃k : Nat,k<=n/\iv = .int .i64 k/\Hid ((L.take k).all (λr=>decide ((r.length : Int)=cols))=true)) (λiv=>n - (intOf iv).toNat);case atStart=>exact ⟨0,Ni _,rfl,by show _=_;simp⟩
 case round =>
  obtain ⟨k,hk,rfl,hall⟩:=hrel
  by_cases hlt : k<n
  ·obtain ⟨ra,rn,rc,hcell,hrow⟩:=hiW.cell k hlt
   have hrl:=hrow.len
   have hkL : k<L.length:=by rw [Hlen.out];exact hlt
   rw [aC hkL] at hrl
   have Hrl:=Z5 hrl
   clear hrl
   by_cases he : (rn : Int)=cols
   ·have he' : ((rn : Int) != cols)=false:=by simpa using he
    have Hq : Hid (decide ((L[k].length : Int)=cols)=true):=by show _=_;rw [Hrl.out];simpa using he
    clear he
    go_wp2_with fail
    go_round
    case rel=>exact ⟨k+1,by omega,by go_num,ed hkL hall.out Hq.out⟩
    case measure=>simp [intOf] <;> omega
   ·have he' : ((rn : Int) != cols)=true:=by simpa using he
    have Hq : Hid (iB G.q cols L=3):=by show _=_;rw [Hm.out,Nd];exact dZ hkL (by simp only [Hrl.out];simpa using he)
    clear he
    go_wp2_with fail
    go_ret
    exact ⟨aP Hq.out.symm,hbw⟩
  ·obtain rfl : k=n:=by omega
   have Hm2 : Hid (iB G.q cols L=if L.all (dY G.q) then 0 else 2):=by have:=hall.out;rw [No (by rw [Hlen.out];exact Na _)] at this;show _=_;rw [Hm.out,Nf (by rw [lZ,this];simp)]
   have hG:=h.ah hbw
   go_wp2_with fail
   go_loop [40] (λiv=>∃j : Nat,j<=k/\iv = .int .i64 j/\Hid ((L.take j).all (dY G.q)=true)) (λiv=>k - (intOf iv).toNat)
   case atStart=>exact ⟨0,Ni _,rfl,by show _=_;simp⟩
   case round =>
    obtain ⟨j,hj,rfl,hall2⟩:=hrel
    by_cases hlt : j<k
    ·obtain ⟨ra,rn,rc,hcell,hrow⟩:=hiW.cell j hlt
     have hjL : j<L.length:=by rw [Hlen.out];exact hlt
     go_wp2_with fail
     refine (uy ra rn rc _ hG hrow).mono ?_
     rintro e w' ⟨rfl,rfl⟩
     by_cases he : dY G.q (ai L j)=true
     ·have he2 : gU G.q (ai L j)=0:=by rw [gU,he];rfl
      rw [he2]
      rw [aC hjL] at he
      have He:=Z5 he
      clear he he2
      go_wp2_with fail
      go_round
      case rel=>exact ⟨j+1,by omega,by go_num,ed hjL hall2.out He.out⟩
      case measure=>simp [intOf] <;> omega
     ·have he2 : gU G.q (ai L j)=2:=by rw [gU,Nf he]
      rw [he2]
      rw [aC hjL] at he
      have Hq : Hid (iB G.q cols L=2):=by show _=_;rw [Hm2.out,dZ hjL (by simpa using he)];rfl
      clear he he2
      go_wp2_with fail
      go_ret
      exact ⟨aP Hq.out.symm,hbw⟩
    ·obtain rfl : j=k:=by omega
     have Hq : Hid (iB G.q cols L=0):=by have:=hall2.out;rw [No (by rw [Hlen.out];exact Na _)] at this;show _=_;rw [Hm2.out,this];rfl
     go_wp2_with fail
     go_ret
     exact ⟨aP Hq.out.symm,hbw⟩
end
structure Ds (w : World) (a : OA) (n : Nat) (l : List (Int × ZZ)) : Prop where
 len : l.length=n
 pl : Pl a n
 max : n<=maxLen
 cell : ∀i (hi : i<l.length),∃b m c,w.cell? ⟨ablk a,aK a+i * 2,none⟩=some (.int .i64 l[i].1)/\w.cell? ⟨ablk a,aK a+i * 2+1,none⟩=some (.slice b m c)/\br w b m l[i].2
theorem Ds.ah {w w' : World} {a : OA} {n : Nat} {l : List (Int × ZZ)} (h : Ds w a n l) (hb : SW w w') : Ds w' a n l:=by refine ⟨h.len,h.pl,h.max,λi hi=>?_⟩;obtain ⟨b,m,c,h1,h2,h3⟩:=h.cell i hi;exact ⟨b,m,c,aB hb h1,aB hb h2,h3.ah hb⟩
def matsE (q : Int) : List (Int × ZZ)->Int
 | []=>0
 | m :: l=>if iB q m.1 m.2=0 then matsE q l else iB q m.1 m.2
theorem Dq {q : Int} {l : List (Int × ZZ)} {k : Nat} (hk : k<l.length) : matsE q (l.drop k)=if iB q l[k].1 l[k].2=0 then matsE q (l.drop (k+1)) else iB q l[k].1 l[k].2:=by rw [NV hk,matsE]
def I0 (P M : Int) (mod : Lz) (l : List (Int × ZZ)) (w : World) (e : Ending) (w' : World) : Prop :=
 SW w w'/\(
 (bA P M mod=false/\e = .returned (.tuple #[.pointer none,.int .i64 1])) \/
 (bA P M mod=true/\∃er,er ≠ 0/\matsE (af P M.toNat mod).q l=er/\e = .returned (.tuple #[.pointer none,.int .i64 er])) \/
 (bA P M mod=true/\matsE (af P M.toNat mod).q l=0/\∃b,e = .returned (.tuple #[.pointer (some ⟨b,0,none⟩),.int .i64 0])/\ew w' b (af P M.toNat mod)/\w.heap.size<=b))
theorem wV (P M : Int) (am : OA) (mn cm : Nat) (mod : Lz) (a : OA) (n c : Nat) (l : List (Int × ZZ)) (w : World) (hmod : Ints w am mn mod) (hl : Ds w a n l) :
  Calls prog 145 #[.agg #[.int .i64 P,.int .i64 M,.slice am mn cm],.slice a n c] w (I0 P M mod l w):=by
 have hpl:=hl.pl;have hlen:=hl.len;have hmax:=hl.max;unfold maxLen at hmax;have Hlen:=Z5 hlen;clear hlen;have Hal:=Z5 ((Nc w.heap.size w).alloc (Na _) (.cells #[.int .i64 P,.int .i64 M,.slice am mn cm] 24));go_enter func145,ntmps145;go_wp2_with fail;have hbw:=Hal.out;generalize w.alloc (.cells #[.int .i64 P,.int .i64 M,.slice am mn cm] 24)=W0 at *;refine (ef P M am mn cm mod W0 (hmod.ah hbw)).mono ?_;rintro e w1 (⟨hB,rfl,hb1⟩ | ⟨hB,b,rfl,hGs,hbl,hb1⟩)
 ·have HB:=Z5 hB;clear hB;have hbw1:=RZ hbw hb1;go_wp2_with fail;go_ret2;exact ⟨hbw1,.inl ⟨HB.out,rfl⟩⟩
 ·have HB:=Z5 hB;clear hB;have hbw1:=RZ hbw hb1;have hbb : w.heap.size<=b:=Nr hbw.size hbl;have hG:=hGs.gf;clear hGs;generalize hT : af P M.toNat mod=G at *;have HT:=Z5 hT;clear hT;go_wp2_with fail;go_loopw [20] (λiv wr=>∃k : Nat,k<=n/\iv = .int .i64 k/\Hid (matsE G.q l=matsE G.q (l.drop k))/\SW w1 wr) (λiv _=>n - (intOf iv).toNat);case atStart=>exact ⟨0,Ni _,rfl,by show _=_;simp,Nc _ _⟩
  case round =>
   obtain ⟨k,hk,rfl,hall,hbr⟩:=hrel
   have hbwr:=RZ hbw1 hbr
   by_cases hlt : k<n
   ·have hkl : k<l.length:=by rw [Hlen.out];exact hlt
    have hlr:=hl.ah hbwr
    obtain ⟨rb,rm,rc,c1,c2,hM⟩:=hlr.cell k hkl
    have hstep:=Dq (q:=G.q) hkl
    have Hstep:=Z5 hstep
    clear hstep
    generalize l[k].1=cols at *
    generalize l[k].2=L at *
    have Hal2:=Z5 ((Nc wr.heap.size wr).alloc (Na _) (.cells #[.int .i64 cols,.slice rb rm rc] 94))
    go_wp2_with fail
    have hbx:=Hal2.out
    generalize wr.alloc (.cells #[.int .i64 cols,.slice rb rm rc] 94)=W2 at *
    have hB2 : SW w1 W2:=RZ hbr hbx
    refine (F8 cols rb rm rc L (hG.ah hB2) (hM.ah hbx)).mono ?_
    rintro e w3 ⟨rfl,hb3⟩
    have hB3 : SW w1 w3:=RZ hB2 hb3
    by_cases he : iB G.q cols L=0
    ·have Hs : Hid (matsE G.q l=matsE G.q (l.drop (k+1))):=by show _=_;rw [hall.out,Hstep.out,Nd he]
     rw [he]
     clear he
     go_wp2_with fail
     go_roundw
     case rel=>exact ⟨k+1,by omega,by go_num,Hs.out,hB3⟩
     case measure=>simp [intOf] <;> omega
    ·have Hs : Hid (matsE G.q l=iB G.q cols L):=by show _=_;rw [hall.out,Hstep.out,Nf he]
     generalize iB G.q cols L=er at *
     have he' : (er != 0)=true:=by simpa using he
     have He : Hid (er ≠ 0):=he
     clear he
     go_wp2_with fail
     go_ret2
     exact ⟨RZ hbw1 hB3,.inr (.inl ⟨HB.out,er,He.out,by rw [HT.out];exact Hs.out,rfl⟩)⟩
   ·obtain rfl : k=n:=by omega
    have Hs : Hid (matsE G.q l=0):=by show _=_;rw [hall.out,Qd (by rw [Hlen.out];exact Na _)];rfl
    go_wp2_with fail
    go_ret2
    exact ⟨hbwr,.inr (.inr ⟨HB.out,by rw [HT.out];exact Hs.out,b,rfl,by rw [HT.out];exact hG.ah hbr,hbb⟩)⟩
section
def l5 (r : OA × Nat) (l : Lz) : Value:=.slice r.1 l.length r.2
def aV (R : Z4) (i : Nat) : OA × Nat:=R.getD i (none,0)
theorem i5 {l : Z4} {i : Nat} (h : i<l.length) : aV l i=l[i]:=by simp [aV,h]
theorem lU (l : Z4) (i j : Nat) (x : OA × Nat) (hi : i<l.length) : aV (l.set i x) j=if j=i then x else aV l j:=by
 unfold aV;simp only [Ng,Oi];by_cases h : i=j
 ·subst h;simp [hi]
 ·rw [Nf h,Nf (by omega)]
theorem eH (l : ZZ) (i j : Nat) (x : Lz) (hi : i<l.length) : ai (l.set i x) j=if j=i then x else ai l j:=by
 unfold ai;simp only [Ng,Oi];by_cases h : i=j
 ·subst h;simp [hi]
 ·rw [Nf h,Nf (by omega)]
theorem wI (n i : Nat) : ai (List.replicate n []) i=[]:=by simp only [ai,Ng,NI];split <;> rfl
theorem lL (n i : Nat) : aV (List.replicate n (none,0)) i=(none,0):=by simp only [aV,Ng,NI];split <;> rfl
theorem zW (R : Z4) (L : ZZ) (i : Nat) (r : OA × Nat) (l : Lz) :
  (List.zipWith l5 R L).set i (l5 r l)=List.zipWith l5 (R.set i r) (L.set i l):=by
 apply QH;intro j;simp only [Oi,Qh,OL];by_cases h : i=j
 ·subst h;by_cases h1 : i<R.length <;> by_cases h2 : i<L.length <;> simp [h1,h2,show ¬ (i<R.length/\i<L.length)->¬ i<min R.length L.length from by omega];exact Nat.lt_min.2 ⟨h1,h2⟩
 ·simp [h]
structure aT (w : World) (B : Nat) (a : OA) (n c : Nat) (R : Z4) (L : ZZ) : Prop where
 rl : R.length=n
 ll : L.length=n
 own : w.ownsRow B 22 1 (.slice a n c) n (List.zipWith l5 R L)
 row : ∀i,i<n->w.ownsRow B 3 1 (.slice (aV R i).1 (ai L i).length (aV R i).2) (ai L i).length ((ai L i).map (Value.int .i64))
 sL : ∀i,i<n->gE (aV R i).1 (ablk a)
 sep : ∀i j,i<n->j<n->i ≠ j->(aV R i).1=none\/gE (aV R j).1 (ablk (aV R i).1)
def cU (a : OA) (R : Z4) (b : Nat) : Prop:=(a ≠ none/\b=ablk a)\/∃i,i<R.length/\(aV R i).1 ≠ none/\b=ablk (aV R i).1
structure aE (w w' : World) (I I' : Nat->Prop) : Prop where
 os : w'.os=w.os
 tape : w'.tape=w.tape
 output : w'.output=w.output
 size : w.heap.size<=w'.heap.size
 block : ∀b,b<w.heap.size->¬ I b->w'.heap[b]? = w.heap[b]?
 grow : ∀b,I' b->I b\/w.heap.size<=b
variable {w w' w'' : World} {B : Nat} {a : OA} {n c : Nat} {R : Z4} {L : ZZ} {I I' I'' : Nat -> Prop}
theorem aE.refl (w : World) (I : Nat->Prop) : aE w w I I:=⟨rfl,rfl,rfl,Na _,λ_ _ _=>rfl,λ_ h=>.inl h⟩
theorem aE.trans (h : aE w w' I I') (k : aE w' w'' I' I'') : aE w w'' I I'' := by
 refine ⟨k.os.trans h.os,k.tape.trans h.tape,k.output.trans h.output,Nr h.size k.size,λb hb hI=>?_,λb hb=>?_⟩
 ·refine (k.block b (NR hb h.size) λh'=>?_).trans (h.block b hb hI);rcases h.grow b h' with h2 | h2
  ·exact hI h2
  ·omega
 ·rcases k.grow b hb with h2 | h2
  ·exact h.grow b h2
  ·exact .inr (Nr h.size h2)
theorem aE.bm (h : SW w w') (I : Nat->Prop) : aE w w' I I:=⟨h.os,h.tape,h.output,h.size,λb hb _=>h.block b hb,λ_ h=>.inl h⟩
theorem aE.below (h : aE w w' I I') (hI : ∀b,I b->B<=b) (hB : B<=w.heap.size) : Below B w w' :=
 ⟨h.os,h.tape,h.output,h.size,λb hb=>h.block b (NR hb hB) λhi=>by have:=hI b hi;omega⟩
theorem aE.cell (h : aE w w' I I') {p : Addr} {v : Value} (hc : w.cell? p=some v) (hI : ¬ I p.block) : w'.cell? p=some v :=
 (NT (w:=w) (a:=p) (h.block _ (Nt w _ hc) hI)).trans hc
theorem aE.not (h : aE w w' I I') {b : Nat} (hb : b<w.heap.size) (hI : ¬ I b) : ¬ I' b:=λh'=>by
 rcases h.grow b h' with h2 | h2
 ·exact hI h2
 ·omega
theorem aE.own (h : aE w w' I I') {e : TypeId} {a : OA} {c n : Nat} {xs : List Value} (ho : w.ownsRow B e 1 (.slice a n c) n xs) (hI : a ≠ none->¬ I (ablk a)) : w'.ownsRow B e 1 (.slice a n c) n xs:=by
 rcases lE ho with ⟨rfl,rfl,rfl⟩ | ⟨_,hlt⟩
 ·have hx:=kS ho;obtain rfl : xs=[]:=NL hx;exact bV
 ·by_cases ha : a=none
  ·subst ha;refine ⟨ho.1,?_⟩;rcases ho.2 with h2 | ⟨g,cap,cur,hv,_⟩
   ·exact .inl h2
   ·cases hv
  ·exact gZ ho (h.block _ hlt (hI ha))
theorem aY {w : World} {e : TypeId} {a : OA} {c n : Nat} {xs : List Value} (ho : w.ownsRow B e 1 (.slice a n c) n xs) (ha : a ≠ none) : B<=ablk a/\ablk a<w.heap.size:=by
 rcases lE ho with ⟨rfl,_⟩ | h
 ·exact absurd rfl ha
 ·exact h
namespace aT
theorem lt (h : aT w B a n c R L) (b : Nat) (hb : cU a R b) : B<=b/\b<w.heap.size:=by
 rcases hb with ⟨h1,rfl⟩ | ⟨i,hi,h1,rfl⟩
 ·exact aY h.own h1
 ·exact aY (h.row i (by rw [h.rl] at hi;exact hi)) h1
theorem new (h : aT w B a n c R L) {b : Nat} (hb : w.heap.size<=b) : ¬ cU a R b:=λh'=>by have:=h.lt b h';omega
theorem qq (h : aT w B a n c R L) {b : Nat} (hb : b<B) : ¬ cU a R b:=λh'=>by have:=h.lt b h';omega
theorem mS {i : Nat} (h : i<R.length) (h1 : (aV R i).1 ≠ none) : cU a R (ablk (aV R i).1):=.inr ⟨i,h,h1,rfl⟩
theorem bq (h : aT w B a n c R L) (hb : ∀b,cU a R b->w'.heap[b]? = w.heap[b]?) : aT w' B a n c R L:=by
 have key : ∀ {e : TypeId} {a' : OA} {c m : Nat} {xs : List Value},w.ownsRow B e 1 (.slice a' m c) m xs->(a' ≠ none->w'.heap[ablk a']? = w.heap[ablk a']?)->w'.ownsRow B e 1 (.slice a' m c) m xs:=by
  intro e a' c m xs ho hk;by_cases ha : a'=none
  ·subst ha;refine ⟨ho.1,?_⟩;rcases ho.2 with h2 | ⟨g,cap,cur,hv,_⟩
   ·exact .inl h2
   ·cases hv
  ·exact gZ ho (hk ha)
 exact ⟨h.rl,h.ll,key h.own λha=>hb _ (.inl ⟨ha,rfl⟩),λi hi=>key (h.row i hi) λha=>hb _ (mS (by rw [h.rl];exact hi) ha),h.sL,h.sep⟩
theorem ah (h : aT w B a n c R L) (hb : SW w w') : aT w' B a n c R L:=h.bq λb hi=>hb.block b (h.lt b hi).2
theorem mono {B' : Nat} (h : aT w B a n c R L) (hB : B'<=B) : aT w B' a n c R L:=⟨h.rl,h.ll,aX h.own hB,λi hi=>aX (h.row i hi) hB,h.sL,h.sep⟩
theorem ints (h : aT w B a n c R L) {i : Nat} (hi : i<n) : Ints w (aV R i).1 (ai L i).length (ai L i):=(R6 (h.row i hi)).1
theorem cell (h : aT w B a n c R L) {i : Nat} (hi : i<n) : w.cell? ⟨ablk a,aK a+i,none⟩=some (.slice (aV R i).1 (ai L i).length (aV R i).2):=by
 rw [(cJ h.own i hi).1,Qh,NQ (show i<R.length by rw [h.rl];exact hi),NQ (show i<L.length by rw [h.ll];exact hi),
  i5 (by rw [h.rl];exact hi),aC (by rw [h.ll];exact hi)]
 rfl
theorem frozen (h : aT w B a n c R L) {i : Nat} (hi : i<n) : w.frozen? ⟨ablk a,aK a+i,none⟩=false:=(cJ h.own i hi).2.1
theorem pl (h : aT w B a n c R L) : Pl a n:=by obtain ⟨a',c',hv,hp⟩:=Sv h.own;cases hv;exact hp
theorem ne (h : aT w B a n c R L) (hn : 0<n) : a ≠ none:=by intro ha;have:=h.pl hn;rw [ha] at this;cases this
theorem max (h : aT w B a n c R L) : n<=maxLen:=by
 rcases Pf n with h0 | h0
 ·subst h0;unfold maxLen;omega
 ·exact (cJ h.own 0 h0).2.2.2.2
theorem jt (h : aT w B a n c R L) : br w a n L:=⟨h.ll,h.pl,h.max,λ_ hi=>⟨_,_,_,h.cell hi,h.ints hi⟩⟩
theorem setRow (h : aT w B a n c R L) {i : Nat} (hi : i<n) {r : OA} {rc : Nat} {l : Lz} (hr : w.ownsRow B 3 1 (.slice r l.length rc) l.length (l.map (Value.int .i64)))
  (ha : gE r (ablk a)) (hs : ∀j,j<n->j ≠ i->(aV R j).1=none\/gE r (ablk (aV R j).1)) :
  aT (w.setCell ⟨ablk a,aK a+i,none⟩ (.slice r l.length rc)) B a n c (R.set i (r,rc)) (L.set i l):=by
 have hRi : i<R.length:=by rw [h.rl];exact hi
 have hLi : i<L.length:=by rw [h.ll];exact hi
 have flip : ∀ {x y : OA},(x=none\/gE y (ablk x))->(y=none\/gE x (ablk y)):=by
  intro x y hxy;rcases hxy with rfl | rfl | h2
  ·exact .inr (.inl rfl)
  ·exact .inl rfl
  ·exact .inr (.inr λe=>h2 e.symm)
 refine ⟨by simp [h.rl],by simp [h.ll],?_,λj hj=>?_,λj hj=>?_,λj k hj hk hjk=>?_⟩
 ·have:=bK h.own i hi (.slice r l.length rc);rwa [show (List.zipWith l5 R L).set i (.slice r l.length rc)=_ from zW R L i (r,rc) l] at this
 ·rw [lU _ _ _ _ hRi,eH _ _ _ _ hLi];by_cases e : j=i
  ·simp only [Nd e];exact fU hr _ ha
  ·simp only [Nf e];exact fU (h.row j hj) _ (h.sL j hj)
 ·rw [lU _ _ _ _ hRi];by_cases e : j=i
  ·simp only [Nd e];exact ha
  ·simp only [Nf e];exact h.sL j hj
 ·rw [lU _ _ _ _ hRi,lU _ _ _ _ hRi];by_cases e : j=i
  ·simp only [Nd e,Nf (show ¬ k=i by omega)];exact flip (hs k hk (by omega))
  ·simp only [Nf e];by_cases e2 : k=i
   ·simp only [Nd e2];exact hs j hj e
   ·simp only [Nf e2];exact h.sep j k hj hk hjk
theorem mH (h : aT w B a n c R L) {w' : World} (hb' : SW w w') {i : Nat} (hi : i<n) {r : OA} {rc : Nat} (v : Value) (hr : r ≠ none->cU a R (ablk r)\/w.heap.size<=ablk r) :
  aE w (w'.setCell ⟨ablk a,aK a+i,none⟩ v) (cU a R) (cU a (R.set i (r,rc))):=by
 have hRi : i<R.length:=by rw [h.rl];exact hi
 have hb0 : Below 0 w (w'.setCell ⟨ablk a,aK a+i,none⟩ v):=(hb'.mono (Ni _)).setCell (Ni _) v;refine ⟨hb0.os,hb0.tape,hb0.output,hb0.size,λb hb hI=>(Nz _ _ _ _ λe=>hI (.inl ⟨h.ne (by omega),e⟩)).trans (hb'.block b hb),λb hb=>?_⟩;rcases hb with hb | ⟨j,hj,h1,rfl⟩
 ·exact .inl (.inl hb)
 ·rw [N9] at hj;rw [lU _ _ _ _ hRi] at h1 ⊢;by_cases e : j=i
  ·simp only [Nd e] at h1 ⊢;exact hr h1
  ·simp only [Nf e] at h1 ⊢;exact .inl (.inr ⟨j,hj,h1,rfl⟩)
theorem Lt (h : aT w B a n c R L) {i : Nat} (hi : i<n) {l : Lz} (hl : l.length=(ai L i).length)
  (ho : w'.ownsRow B 3 1 (.slice (aV R i).1 (ai L i).length (aV R i).2) (ai L i).length (l.map (Value.int .i64)))
  (hg : ∀b,b<w.heap.size->((aV R i).1=none\/b ≠ ablk (aV R i).1)->w'.heap[b]? = w.heap[b]?) : aT w' B a n c R (L.set i l):=by
 have hRi : i<R.length:=by rw [h.rl];exact hi
 have hLi : i<L.length:=by rw [h.ll];exact hi
 have key : ∀ {e : TypeId} {a' : OA} {c m : Nat} {xs : List Value},w.ownsRow B e 1 (.slice a' m c) m xs->((aV R i).1=none\/a'=none\/ablk a' ≠ ablk (aV R i).1)->w'.ownsRow B e 1 (.slice a' m c) m xs:=by
  intro e a' c m xs ho hk;by_cases ha : a'=none
  ·subst ha;refine ⟨ho.1,?_⟩;rcases ho.2 with h2 | ⟨g,cap,cur,hv,_⟩
   ·exact .inl h2
   ·cases hv
  ·exact gZ ho (hg _ (aY ho ha).2 (by rcases hk with hk | hk | hk;exact .inl hk;exact absurd hk ha;exact .inr hk))
 refine ⟨h.rl,by simp [h.ll],?_,λj hj=>?_,h.sL,h.sep⟩
 ·have e : List.zipWith l5 R (L.set i l)=List.zipWith l5 R L:=by
   apply QH;intro j;simp only [Qh,Oi];by_cases e : i=j
   ·subst e;simp only [hLi,if_true,NQ hRi,NQ hLi];rw [aC hLi] at hl;simp [l5,hl]
   ·simp [e]
  rw [e];exact key h.own (by rcases h.sL i hi with h2 | h2;exact .inl h2;exact .inr (.inr λe=>h2 e.symm))
 ·rw [eH _ _ _ _ hLi];by_cases e : j=i
  ·subst e;simp only [if_true,hl];exact ho
  ·simp only [Nf e];refine key (h.row j hj) ?_;rcases h.sep i j hi hj (by omega) with h2 | h2 | h2
   ·exact .inl h2
   ·exact .inr (.inl h2)
   ·exact .inr (.inr h2)
end aT
theorem yD {w : World} {B : Nat} {a : OA} {n c : Nat} (h : w.ownsRow B 22 1 (.slice a n c) n (List.replicate n (.slice none 0 0))) :
  aT w B a n c (List.replicate n (none,0)) (List.replicate n []):=by
 refine ⟨by simp,by simp,?_,λi hi=>?_,λi hi=>?_,λi j hi hj hij=>?_⟩
 ·simpa [l5] using h
 ·rw [wI,lL];exact bV
 ·rw [lL];exact .inl rfl
 ·rw [lL];exact .inl rfl
end
section
variable {w : World} {b : Nat} {G : dn}
theorem Ints.Jw {w : World} {n : Nat} {l : Lz} (h : Ints w none n l) : n=0/\l=[]:=by
 have h0 : n=0:=by
  rcases Pf n with h0 | h0
  ·exact h0
  ·have:=h.pl h0;cases this
 exact ⟨h0,NL (by rw [h.len];exact h0)⟩
theorem dP (a : OA) (n c : Nat) (l : Lz) (hi : Ints w a n l) (hn : n<=1000000) :
  Calls prog 115 #[.slice a n c] w (b8 w l):=by
 have heq:=λ(w : World) (a : OA) (l c : Nat)=>Go.run_eql_slice_nil (P:=prog) w 22 3 a l c underlying22;by_cases ha : a=none
 ·subst ha;obtain ⟨rfl,rfl⟩:=hi.Jw;have hin : (none : OA).isNone=true:=rfl;go_enter func115,ntmps115;go_wp2_with fail;go_ret;exact ⟨none,0,rfl,bV,Nc _ _⟩
 ·have hin : a.isNone=false:=by cases a with | none=>exact absurd rfl ha | some x=>rfl
  have hlen:=hi.len;have Hlen:=Z5 hlen;have hO:=fA w 3;have hal:=Z5 ((Nc w.heap.size w).alloc (Na _) (.cells #[] 3));clear ha hlen;go_enter func115,ntmps115;go_upto_region 3 with fail;iterate 7 go_step
  have hbal:=hal.out;generalize w.alloc (.cells #[] 3)=W0 at *;have hiW:=hi.ah hbal;refine dH (by rfl) (.tmp 5) (.tmp 6) 22 3 (by rfl) (.int .i64 0) 8 underlying22 aU (by rfl) w.heap.size _ 0 0 [] (by rfl) hO a n c (l.map (Value.int .i64)) (by rfl) hiW.pl (by simp [Hlen.out]) (Si hiW) (ints_oneCell _ _) (by omega) (by unfold maxLen;omega) (Om hbal) ?_;intro a3 c3 w3 hown3 hgr3 hap3;have hb3 : SW w w3:=Sa (B:=w.heap.size) (e:=3) (xs:=[]) hbal hO hgr3 (Na _) (Om hbal);rw [OI] at hown3 ⊢;rw [N5] at hown3;go_wp2_with fail;go_ret;exact ⟨a3,c3,by rw [Hlen.out];rfl,by rw [Hlen.out];exact hown3,hb3⟩
def JM (w : World) (L : ZZ) (e : Ending) (w' : World) : Prop :=
 ∃a c R,e = .returned (.slice a L.length c)/\aT w' w.heap.size a L.length c R L/\SW w w'
theorem df : (prog.info? 22).map (λi=>(i.zero,i.size,i.bytes))=some (some (.slice none 0 0),1,24):=by kernel_rfl
def lG (n k : Nat) (L : ZZ) : ZZ:=L.take k ++ List.replicate (n - k) []
theorem vw {n k : Nat} {L : ZZ} (hk : k<n) (hL : L.length=n) : (lG n k L).set k (ai L k)=lG n (k+1) L:=by
 unfold lG;have e1 : (L.take k).length=k:=by simp;omega
 rw [Nj (by omega),PJ (h:=by omega),e1,show n - k=(n - (k+1))+1 by omega,Qs,P9,Nk,NX,aC (by omega)];rfl
theorem wB {n : Nat} {L : ZZ} (hL : L.length=n) : lG n n L=L:=by simp [lG,No (show L.length<=n by omega)]
theorem F5 (a : OA) (n c : Nat) (L : ZZ) (hi : br w a n L) (hn : n<=1000000) (hL : ∀l ∈ L,l.length<=1000000) :
  Calls prog 222 #[.slice a n c] w (JM w L):=by
 have hpl:=hi.pl;have Hlen:=Z5 hi.len;have HL:=Z5 hL;clear hL;go_enter func222,ntmps222;go_wp2_with (at_make;refine bS rfl _ _ 25 22 rfl (.slice none 0 0) 24 underlying25 df rfl n rfl rfl (by omega) (by unfold maxLen;omega) ?_;intro a1 w1 hown hbel hge hlt);have hO:=yD hown;have hO1 : ∃R,aT w1 w.heap.size a1 n n R (lG n 0 L):=⟨_,by simpa [lG] using hO⟩
 clear hO hown;go_loopw [11] (λiv wr=>∃k : Nat,k<=n/\iv = .int .i64 k/\(∃R,aT wr w.heap.size a1 n n R (lG n k L))/\SW w wr) (λiv _=>n - (intOf iv).toNat);case atStart=>exact ⟨0,Ni _,rfl,hO1,hbel⟩
 case round =>
  obtain ⟨k,hk,rfl,⟨R,hO⟩,hbr⟩:=hrel
  by_cases hlt : k<n
  ·have hiW:=hi.ah hbr
   obtain ⟨ra,rn,rc,hcell,hrow⟩:=hiW.cell k hlt
   have hkL : k<L.length:=by rw [Hlen.out];exact hlt
   have hrl : rn<=1000000:=by rw [<- hrow.len,aC hkL];exact HL.out _ (NO hkL)
   have hset:=vw hlt Hlen.out
   have Hset:=Z5 hset
   clear hset
   have hpl1:=hO.pl
   generalize ai L k=l at *
   go_wp2_with fail
   refine (dP ra rn rc l hrow hrl).mono ?_
   rintro e w3 ⟨a3,c3,rfl,hown3,hb3⟩
   have hO3:=hO.ah hb3
   have hf:=hO3.frozen hlt
   have hc:=hO3.cell hlt
   have hB:=(aT.lt hO3 (ablk a1) (.inl ⟨hO3.ne (by omega),rfl⟩)).1
   have hbr3:=RZ hbr hb3
   have hsz:=hbr.size
   have hnew:=aT.setRow hO3 hlt (aX hown3 hsz) (mq hown3 (aT.lt hO (ablk a1) (.inl ⟨hO.ne (by omega),rfl⟩)).2) (λj hj _=>by
    by_cases hn : (aV R j).1=none
    ·exact .inl hn
    ·exact .inr (mq hown3 (aT.lt hO _ (aT.mS (by rw [hO.rl];exact hj) hn)).2))
   rw [Hset.out] at hnew
   have Hnew:=Z5 hnew
   clear hnew
   go_wp2_with fail
   go_roundw
   case rel=>exact ⟨k+1,by omega,by go_num,⟨_,Hnew.out⟩,hbr3.setCell hB _⟩
   case measure=>simp [intOf] <;> omega
  ·obtain rfl : k=n:=by omega
   rw [wB Hlen.out] at hO
   go_wp2_with fail
   go_ret
   exact ⟨a1,k,R,by rw [Hlen.out];rfl,by rw [Hlen.out];exact hO,hbr⟩
end
structure aL where
 add : Int->Int->Int
 mul : Int->Int->Int
 neg : Int->Int
 inv : Int->Int
def bR (O : aL) (v : Lz) (s : Int) (u : Lz) : Lz:=List.zipWith (λp q=>if q=0 then p else O.add p (O.mul s q)) v u
theorem bY (O : aL) (v : Lz) (s : Int) (u : Lz) (h : u.length=v.length) : (bR O v s u).length=v.length:=by simp [bR,h]
theorem gP (O : aL) (v : Lz) (s : Int) (u : Lz) (i : Nat) (h : u.length=v.length) (hi : i<v.length) :
  nth (bR O v s u) i=if nth u i=0 then nth v i else O.add (nth v i) (O.mul s (nth u i)):=by rw [aj (show i<(bR O v s u).length by rw [bY _ _ _ _ h];exact hi),aj (show i<u.length by omega),aj hi];simp [bR]
theorem rH (new qq : Lz) (j : Nat) (h : new.length=qq.length) (hj : j<qq.length) (e : nth new j=nth qq j) : jk new qq (j+1)=jk new qq j:=by
 rw [<- gD new qq j h hj,e];refine jn (by simp) λi hi=>?_;have hl:=kX new qq j h (by omega);rw [eh _ _ _ _ (by omega)];by_cases e2 : i=j
 ·subst e2;rw [Nd rfl,fI _ _ _ _ h (by omega),Nf (by omega)]
 ·rw [Nf e2]
def findTo (L : ZZ) (c : Nat) : Nat->Nat->Nat
 | k,0=>k
 | k,f+1=>if nth (ai L k) c=0 then findTo L c (k+1) f else k
def bh (L : ZZ) (c k : Nat) : Nat:=findTo L c k (L.length - k)
theorem yz (L : ZZ) (c : Nat) : ∀f k,k<=findTo L c k f/\findTo L c k f<=k+f
 | 0,k=>by simp [findTo]
 | f+1,k=>by have:=yz L c f (k+1);unfold findTo;split <;> omega
theorem ky (L : ZZ) (c : Nat) : ∀f k,findTo L c k f<k+f->nth (ai L (findTo L c k f)) c ≠ 0
 | 0,k,h=>by simp [findTo] at h
 | f+1,k,h=>by
  unfold findTo at h ⊢;split
  ·rename_i h0;rw [Nd h0] at h;exact ky L c f (k+1) (by omega)
  ·assumption
theorem mj (L : ZZ) (c : Nat) : ∀f k i,k<=i->i<findTo L c k f->nth (ai L i) c=0
 | 0,k,i,h1,h2=>by simp [findTo] at h2;omega
 | f+1,k,i,h1,h2=>by
  unfold findTo at h2;split at h2
  ·rename_i h0;rcases Rm h1 with h3 | h3
   ·rw [<- h3];exact h0
   ·exact mj L c f (k+1) i h3 h2
  ·omega
theorem jI {L : ZZ} {c k : Nat} (hk : k<L.length) : bh L c k=if nth (ai L k) c=0 then bh L c (k+1) else k:=by unfold bh;rw [show L.length - k=(L.length - (k+1))+1 by omega,findTo]
theorem mh {L : ZZ} {c k : Nat} (hk : L.length<=k) : bh L c k=k:=by unfold bh;rw [show L.length - k=0 by omega,findTo]
theorem n8 {L : ZZ} {c k : Nat} (hk : k<=L.length) : k<=bh L c k/\bh L c k<=L.length:=by have:=yz L c (L.length - k) k;unfold bh;omega
def bt (L : ZZ) (i j : Nat) : ZZ:=(L.set i (ai L j)).set j (ai L i)
def di (O : aL) (pv : Lz) (c : Nat) (r : Lz) : Lz:=if nth r c=0 then r else bR O r (O.neg (nth r c)) pv
def clearTo (O : aL) (t c : Nat) (L : ZZ) : Nat->ZZ
 | 0=>L
 | i+1=>if i=t then clearTo O t c L i else (clearTo O t c L i).set i (di O (ai (clearTo O t c L i) t) c (ai (clearTo O t c L i) i))
def bH (O : aL) (L : ZZ) (t c : Nat) : ZZ:=if O.inv (nth (ai L t) c)=1 then L else L.set t ((ai L t).map (O.mul (O.inv (nth (ai L t) c))))
def fo (O : aL) (L : ZZ) (t k c : Nat) : ZZ :=
 let L1:=if k=t then L else bt L t k
 let L2:=bH O L1 t c
 clearTo O t c L2 L2.length
def aD (O : aL) (L : ZZ) : Nat->ZZ × Lz
 | 0=>(L,[])
 | c+1 =>
  let s:=aD O L c
  if s.2.length<s.1.length then
   if bh s.1 c s.2.length=s.1.length then s
   else (fo O s.1 s.2.length (bh s.1 c s.2.length) c,s.2 ++ [(c : Int)])
  else s
theorem bM (L : ZZ) (i j : Nat) : (bt L i j).length=L.length:=by simp [bt]
theorem en (O : aL) (t c : Nat) (L : ZZ) : ∀i,(clearTo O t c L i).length=L.length
 | 0=>rfl
 | i+1=>by unfold clearTo;split <;> simp [en O t c L i]
theorem ek (O : aL) (L : ZZ) (t c : Nat) : (bH O L t c).length=L.length:=by unfold bH;split <;> simp
theorem gd (O : aL) (L : ZZ) (t k c : Nat) : (fo O L t k c).length=L.length:=by unfold fo;simp only [en,ek];split <;> simp [bM]
theorem bX (O : aL) (L : ZZ) : ∀c,(aD O L c).1.length=L.length
 | 0=>rfl
 | c+1=>by
  unfold aD;simp only;split
  ·split <;> simp [gd,bX O L c]
  ·exact bX O L c
theorem fh (O : aL) (L : ZZ) : ∀c,(aD O L c).2.length<=c/\(aD O L c).2.length<=L.length
 | 0=>by simp [aD]
 | c+1=>by
  have ih:=fh O L c;have hl:=bX O L c;unfold aD;simp only;split
  ·split
   ·omega
   ·simp only [Nl,ND];omega
  ·omega
def bp (El : Int->Prop) (m : Nat) (L : ZZ) : Prop:=∀r ∈ L,r.length=m/\∀x ∈ r,El x
theorem bp.row {El : Int->Prop} {m : Nat} {L : ZZ} (h : bp El m L) {i : Nat} (hi : i<L.length) : (ai L i).length=m/\∀x ∈ ai L i,El x:=h _ (dN hi)
theorem bp.set {El : Int->Prop} {m : Nat} {L : ZZ} (h : bp El m L) (i : Nat) {r : Lz} (hr : r.length=m/\∀x ∈ r,El x) : bp El m (L.set i r):=by
 intro x hx;rcases Oz hx with h1 | rfl
 ·exact h x h1
 ·exact hr
structure uT (O : aL) (El : Int->Prop) : Prop where
 add : ∀x y,El x->El y->El (O.add x y)
 mul : ∀x y,El x->El y->El (O.mul x y)
 neg : ∀x,El x->El (O.neg x)
 inv : ∀x,El x->x ≠ 0->El (O.inv x)
theorem nC {O : aL} {El : Int->Prop} (hO : uT O El) {v u : Lz} {s : Int} (hv : ∀x ∈ v,El x) (hu : ∀x ∈ u,El x) (hs : El s) : ∀x ∈ bR O v s u,El x:=by
 intro x hx;unfold bR at hx;rw [Qm] at hx;obtain ⟨i,hi,rfl⟩:=hx;rw [PV];simp only [OL] at hi;split
 ·exact hv _ (NO _)
 ·exact hO.add _ _ (hv _ (NO _)) (hO.mul _ _ hs (hu _ (NO _)))
theorem bp.swap {El : Int->Prop} {m : Nat} {L : ZZ} (h : bp El m L) {i j : Nat} (hi : i<L.length) (hj : j<L.length) : bp El m (bt L i j) :=
 (h.set i (h.row hj)).set j (h.row hi)
theorem bp.di {O : aL} {El : Int->Prop} {m : Nat} (hO : uT O El) {r pv : Lz} {c : Nat} (hc : c<m) (hr : r.length=m/\∀x ∈ r,El x) (hp : pv.length=m/\∀x ∈ pv,El x) :
  (di O pv c r).length=m/\∀x ∈ di O pv c r,El x:=by
 unfold Proofs.YthglbncgemdcbaaGreat.di;split
 ·exact hr
 ·exact ⟨by rw [bY _ _ _ _ (by omega)];exact hr.1,nC hO hr.2 hp.2 (hO.neg _ (hr.2 _ (aH (by omega))))⟩
theorem bp.clear {O : aL} {El : Int->Prop} {m : Nat} {L : ZZ} (hO : uT O El) (h : bp El m L) {t c : Nat} (ht : t<L.length) (hc : c<m) : ∀i,i<=L.length->bp El m (clearTo O t c L i)
 | 0,_=>h
 | i+1,hi=>by
  have ih:=bp.clear hO h ht hc i (by omega);unfold clearTo;split
  ·exact ih
  ·exact ih.set i (bp.di hO hc (ih.row (by rw [en];omega)) (ih.row (by rw [en];omega)))
theorem bp.norm {O : aL} {El : Int->Prop} {m : Nat} {L : ZZ} (hO : uT O El) (h : bp El m L) {t c : Nat} (ht : t<L.length) (hc : c<m) (h0 : nth (ai L t) c ≠ 0) : bp El m (bH O L t c):=by
 unfold bH;split
 ·exact h
 ·refine h.set t ⟨by rw [Nq];exact (h.row ht).1,λx hx=>?_⟩;obtain ⟨y,hy,rfl⟩:=List.mem_map.1 hx;exact hO.mul _ _ (hO.inv _ ((h.row ht).2 _ (aH (by rw [(h.row ht).1];exact hc))) h0) ((h.row ht).2 y hy)
theorem jw {O : aL} {L : ZZ} {k : Nat} (h : (aD O L k).2.length=L.length) : ∀d,aD O L (k+d)=aD O L k
 | 0=>rfl
 | d+1=>by have ih:=jw h d;show aD O L ((k+d)+1)=_;rw [aD];simp only [ih];rw [Nf (by rw [bX];omega)]
theorem fR {O : aL} {L Lk : ZZ} {P : Lz} {k : Nat} (h : (Lk,P)=aD O L k) (hlt : P.length<Lk.length) :
  aD O L (k+1)=if bh Lk k P.length=Lk.length then (Lk,P) else (fo O Lk P.length (bh Lk k P.length) k,P ++ [(k : Int)]):=by rw [aD];simp only [<- h];rw [Nd hlt]
theorem lf (O : aL) (L : ZZ) (t k c : Nat) : fo O L t k c=clearTo O t c (bH O (if k=t then L else bt L t k) t c) L.length:=by unfold fo;simp only [ek];split <;> simp [bM]
section
def bf (w w' : World) : Prop:=∃n,w'=w.drewN n
theorem bf.refl (w : World) : bf w w:=⟨0,rfl⟩
theorem bf.drewN {w w' : World} (h : bf w w') (n : Nat) : bf w (w'.drewN n):=by obtain ⟨m,rfl⟩:=h;exact ⟨m+n,by rw [World.drewN_drewN]⟩
theorem bf.drew {w w' : World} (h : bf w w') : bf w w'.drew:=h.drewN 1
theorem bf.below {w w' : World} (h : bf w w') : SW w w':=by obtain ⟨m,rfl⟩:=h;exact below_drewN (Nc _ _) m
theorem bf.cell {w w' : World} (h : bf w w') {p : Addr} {v : Value} (hc : w.cell? p=some v) : w'.cell? p=some v:=by obtain ⟨m,rfl⟩:=h;exact hc
theorem bf.frozen {w w' : World} (h : bf w w') {p : Addr} {v : Bool} (hc : w.frozen? p=v) : w'.frozen? p=v:=by obtain ⟨m,rfl⟩:=h;exact hc
theorem bf.zU {w0 w w' : World} {B : Nat} (h : bf w w') (hb : Below B w0 w) : Below B w0 w':=by obtain ⟨m,rfl⟩:=h;exact below_drewN hb m
def dn.ops (G : dn) : aL:=⟨G.add,G.mul,G.neg,G.inv⟩
theorem dn.cl {w : World} {b : Nat} {G : dn} (h : ew w b G) : uT G.ops G.El:=⟨λx y _ _=>dn.Jd h x y,λx y _ _=>SE h x y,λx _=>dn.zF h x,λx _ _=>SV h x⟩
def dp (a : OA) (w w' : World) : Prop:=aE w w' (λb=>a ≠ none/\b=ablk a) (λb=>a ≠ none/\b=ablk a)
theorem dp.refl (a : OA) (w : World) : dp a w w:=aE.refl _ _
theorem dp.trans {a : OA} {w w' w'' : World} (h : dp a w w') (k : dp a w' w'') : dp a w w'' := aE.trans h k
theorem dp.drawn {a : OA} {w w' : World} (h : bf w w') : dp a w w':=aE.bm h.below _
theorem dp.set {a : OA} (w : World) (i : Nat) (v : Value) (ha : a ≠ none) : dp a w (w.setCell ⟨ablk a,aK a+i,none⟩ v):=by have hb0 : Below 0 w (w.setCell ⟨ablk a,aK a+i,none⟩ v):=(Nc 0 w).setCell (Ni _) v;exact ⟨hb0.os,hb0.tape,hb0.output,hb0.size,λb hb hI=>Nz _ _ _ _ λe=>hI ⟨ha,e⟩,λb hb=>.inl hb⟩
theorem dp.ints {a : OA} {w w' : World} (h : dp a w w') {u : OA} {n : Nat} {l : Lz} (hi : Ints w u n l) (hu : a=none\/u=none\/ablk u ≠ ablk a) : Ints w' u n l:=by
 refine hi.of_block λhn=>h.block _ (hi.lt hn) ?_;rintro ⟨h1,h2⟩;rcases hu with hu | hu | hu
 ·exact h1 hu
 ·have:=hi.pl hn;rw [hu] at this;cases this
 ·exact hu h2
theorem dp.below {a : OA} {w w' : World} {B : Nat} (h : dp a w w') (ha : a ≠ none->B<=ablk a) (hB : B<=w.heap.size) : Below B w w':=aE.below h (λ_ hb=>by rw [hb.2];exact ha hb.1) hB
variable {w : World} {b : Nat} {G : dn}
theorem E0 (w0 : World) (av : OA) (cv n : Nat) (v : Lz) (s : Int) (au : OA) (cu : Nat) (u : Lz) (h : ew w0 b G) (hb : SW w0 w)
  (hv : w.ownsRow w0.heap.size 3 1 (.slice av n cv) n (v.map (Value.int .i64))) (hu : Ints w au n u) (hap : av=none\/au=none\/ablk au ≠ ablk av)
  (hve : ∀x ∈ v,G.El x) (hue : ∀x ∈ u,G.El x) (hs : G.El s) :
  Calls prog 198 #[.pointer (some ⟨b,0,none⟩),.slice av n cv,.int .i64 s,.slice au n cu] w
   λe w'=>e = .returned (.tuple #[])/\w'.ownsRow w0.heap.size 3 1 (.slice av n cv) n ((bR G.ops v s u).map (Value.int .i64))/\dp av w w':=by
 have hul:=hu.len;have hvl : v.length=n:=by simpa using kS hv
 have hmax:=hu.max;unfold maxLen at hmax;have hpu:=hu.pl;have hpv:=(R6 hv).1.pl;have hav : 0<n->av ≠ none:=λhn e=>by have:=hpv hn;rw [e] at this;cases this
 have hll : (bR G.ops v s u).length=v.length:=bY _ _ _ _ (by omega);have hnth:=λi=>gP G.ops v s u i (by omega);have Hnth:=Z5 hnth;have Hul:=Z5 hul;have Hvl:=Z5 hvl;have Hll:=Z5 hll;have Hav:=Z5 hav;have Hve:=Z5 hve;have Hue:=Z5 hue;clear hnth hul hvl hll hav hve hue;generalize bR G.ops v s u=N at *;go_enter func198,ntmps198;go_wp2_with fail;go_loopw [12] (λiv wr=>∃k : Nat,k<=n/\iv = .int .i64 k/\wr.ownsRow w0.heap.size 3 1 (.slice av n cv) n ((jk N v k).map (Value.int .i64))/\dp av w wr) (λiv _=>n - (intOf iv).toNat);case atStart=>exact ⟨0,Ni _,rfl,by rw [gR];exact hv,dp.refl _ _⟩
 case round =>
  obtain ⟨k,hk,rfl,hown,honly⟩:=hrel
  by_cases hlt : k<n
  ·have hiu:=honly.ints hu hap
   have cu1:=hiu.cell k hlt
   have hkN : N.length=v.length:=Hll.out
   have hkv : k<v.length:=by rw [Hvl.out];exact hlt
   have hval:=Hnth.out k hkv
   have hmix:=fI N v k k hkN (by omega)
   rw [Nf (by omega)] at hmix
   by_cases hz : nth u k=0
   ·rw [Nd hz] at hval
    have hsame:=rH N v k hkN hkv hval
    have Hsame:=Z5 hsame
    clear hval hmix hsame hkN hkv
    go_wp2_with fail
    go_roundw
    case rel=>exact ⟨k+1,by omega,by go_num,by rw [Hsame.out];exact hown,honly⟩
    case measure=>simp [intOf] <;> omega
   ·rw [Nf hz] at hval
    have hset:=gD N v k hkN hkv
    obtain ⟨hiv,hmv⟩:=R6 hown
    have cv1:=hiv.cell k hlt
    have fv1:=(hmv (by omega)).2 k hlt
    rw [hmix] at cv1
    have elv : G.El (nth v k):=Hve.out _ (aH hkv)
    have elu : G.El (nth u k):=Hue.out _ (aH (by rw [Hul.out];exact hlt))
    have hGr : ew wr b G:=h.ah (N2 hb (honly.below (λha=>(aY hv ha).1) hb.size))
    have Hval:=Z5 hval
    have Hset:=Z5 hset
    have hS : ∀W,bf wr W->W.cell? ⟨ablk av,aK av+k,none⟩=some (.int .i64 (nth v k))/\W.frozen? ⟨ablk av,aK av+k,none⟩=false/\ew W b G/\bf wr W :=
     λW hW=>⟨hW.cell cv1,hW.frozen fv1,hGr.ah hW.below,hW⟩
    have HS:=Z5 hS
    have elm : ∀x y,G.El (G.mul x y):=λx y=>SE h x y
    have hz' : (nth u k != 0)=true:=by simpa using hz
    clear hval hmix hset hkN hkv hS hz
    go_wp2_with fail
    have HG : Hid (ew wr.drew b G/\∀n,ew (wr.drewN n) b G):=⟨hGr.ah (Nc _ _).drew,λn=>hGr.drewN n⟩
    go_region_law ((first
     | (go_simp;go_at_call 57;((with_reducible refine (qF s (nth u k) HG.out.1 hs elu).mono ?_);rintro e w4 ⟨m4,rfl,rfl⟩))
     | (go_simp;go_at_call 57;((with_reducible refine (qF s (nth u k) (HG.out.2 _) hs elu).mono ?_);rintro e w4 ⟨m4,rfl,rfl⟩))
     | (go_simp;go_at_call 56;((with_reducible refine (LJ (nth v k) (G.mul s (nth u k)) (HG.out.2 _) elv (elm _ _)).mono ?_);rintro e w4 ⟨m5,rfl,rfl⟩))))
    all_goals (
     go_wp2_with fail
     go_roundw
     case rel =>
      have hdr : bf wr (wr.drewN (1+m4+m5)):=⟨_,rfl⟩
      refine ⟨k+1,by omega,by go_num,?_,honly.trans ((dp.drawn hdr).trans (dp.set _ k _ (Hav.out (by omega))))⟩
      have h1:=bK (w:=wr.drewN (1+m4+m5)) hown k hlt (.int .i64 (nth N k))
      rw [<- NF,Hset.out,Hval.out] at h1
      exact h1
     case measure=>simp [intOf] <;> omega)
  ·obtain rfl : k=n:=by omega
   rw [iW N v k (by rw [Hll.out,Hvl.out]) Hvl.out] at hown
   go_wp2_with fail
   go_end0
   exact ⟨rfl,hown,honly⟩
end
section
variable {w : World} {b : Nat} {G : dn}
def wu (R : Z4) (i j : Nat) : Z4:=(R.set i (aV R j)).set j (aV R i)
theorem ta (R : Z4) (i j : Nat) : (wu R i j).length=R.length:=by simp [wu]
def du (t k i : Nat) : Nat:=if i=k then t else if i=t then k else i
theorem mV (R : Z4) (t k i : Nat) (ht : t<R.length) (hk : k<R.length) : aV (wu R t k) i=aV R (du t k i):=by
 unfold wu du;rw [lU _ _ _ _ (by simpa using hk),lU _ _ _ _ ht];split
 ·rfl
 ·split <;> rfl
theorem jc (L : ZZ) (t k i : Nat) (ht : t<L.length) (hk : k<L.length) : ai (bt L t k) i=ai L (du t k i):=by
 unfold bt du;rw [eH _ _ _ _ (by simpa using hk),eH _ _ _ _ ht];split
 ·rfl
 ·split <;> rfl
theorem lK {t k i n : Nat} (ht : t<n) (hk : k<n) (hi : i<n) : du t k i<n:=by unfold du;split <;> (try split) <;> assumption
theorem Jh {t k i j : Nat} (h : i ≠ j) : du t k i ≠ du t k j:=by unfold du;split <;> split <;> (try split) <;> (try split) <;> omega
theorem aT.swap {B : Nat} {a : OA} {n c : Nat} {R : Z4} {L : ZZ} (h : aT w B a n c R L) {t k : Nat} (ht : t<n) (hk : k<n) :
  aT ((w.setCell ⟨ablk a,aK a+t,none⟩ (.slice (aV R k).1 (ai L k).length (aV R k).2)).setCell ⟨ablk a,aK a+k,none⟩ (.slice (aV R t).1 (ai L t).length (aV R t).2)) B a n c (wu R t k) (bt L t k):=by
 have hRt : t<R.length:=by rw [h.rl];exact ht
 have hRk : k<R.length:=by rw [h.rl];exact hk
 have hLt : t<L.length:=by rw [h.ll];exact ht
 have hLk : k<L.length:=by rw [h.ll];exact hk
 refine ⟨by rw [ta];exact h.rl,by rw [bM];exact h.ll,?_,λi hi=>?_,λi hi=>?_,λi j hi hj hij=>?_⟩
 ·have h1:=bK (bK h.own t ht (.slice (aV R k).1 (ai L k).length (aV R k).2)) k hk (.slice (aV R t).1 (ai L t).length (aV R t).2);rw [show (List.zipWith l5 R L).set t (.slice (aV R k).1 (ai L k).length (aV R k).2)=_ from zW R L t (aV R k) (ai L k)] at h1;rw [show (List.zipWith l5 (R.set t (aV R k)) (L.set t (ai L k))).set k (.slice (aV R t).1 (ai L t).length (aV R t).2)=_ from zW _ _ k (aV R t) (ai L t)] at h1;exact h1
 ·rw [mV _ _ _ _ hRt hRk,jc _ _ _ _ hLt hLk];have hf:=lK ht hk hi;exact fU (p:=⟨ablk a,aK a+k,none⟩) (fU (p:=⟨ablk a,aK a+t,none⟩) (h.row _ hf) _ (h.sL _ hf)) _ (h.sL _ hf)
 ·rw [mV _ _ _ _ hRt hRk];exact h.sL _ (lK ht hk hi)
 ·rw [mV _ _ _ _ hRt hRk,mV _ _ _ _ hRt hRk];exact h.sep _ _ (lK ht hk hi) (lK ht hk hj) (Jh hij)
theorem cU.swap {a : OA} {R : Z4} {t k b : Nat} (ht : t<R.length) (hk : k<R.length) (h : cU a (wu R t k) b) : cU a R b:=by
 rcases h with h | ⟨i,hi,h1,rfl⟩
 ·exact .inl h
 ·rw [ta] at hi;rw [mV _ _ _ _ ht hk] at h1 ⊢;exact aT.mS (lK ht hk hi) h1
theorem aT.oq {B : Nat} {a : OA} {n c : Nat} {R : Z4} {L : ZZ} (h : aT w B a n c R L) {t k : Nat} (ht : t<n) (hk : k<n) (u v : Value) :
  aE w ((w.setCell ⟨ablk a,aK a+t,none⟩ u).setCell ⟨ablk a,aK a+k,none⟩ v) (cU a R) (cU a (wu R t k)):=by have hb0 : Below 0 w ((w.setCell ⟨ablk a,aK a+t,none⟩ u).setCell ⟨ablk a,aK a+k,none⟩ v):=((Nc 0 w).setCell (Ni _) u).setCell (Ni _) v;have hne:=h.ne (by omega);refine ⟨hb0.os,hb0.tape,hb0.output,hb0.size,λb hb hI=>?_,λb hb=>.inl (cU.swap (by rw [h.rl];exact ht) (by rw [h.rl];exact hk) hb)⟩;rw [Nz _ _ _ _ λe=>hI (.inl ⟨hne,e⟩),Nz _ _ _ _ λe=>hI (.inl ⟨hne,e⟩)]
theorem aT.drew {B : Nat} {a : OA} {n c : Nat} {R : Z4} {L : ZZ} (h : aT w B a n c R L) : aT w.drew B a n c R L:=h.ah (Nc _ _).drew
theorem aE.drew {w w' : World} {I I' : Nat->Prop} (h : aE w w' I I') : aE w w'.drew I I':=⟨h.os,h.tape,h.output,h.size,h.block,h.grow⟩
theorem Jf (B : Nat) (a : OA) (n c : Nat) (R : Z4) (L : ZZ) (pk pt k t : Nat) (hO : aT w B a n c R L)
  (hk : w.cell? ⟨pk,0,none⟩=some (.int .i64 k)) (ht : w.cell? ⟨pt,0,none⟩=some (.int .i64 t)) (hkn : k<n) (htn : t<n) (hkt : k ≠ t) (nk : ¬ cU a R pk) (nt : ¬ cU a R pt) :
  Calls prog 254 #[.slice a n c,.pointer (some ⟨pk,0,none⟩),.pointer (some ⟨pt,0,none⟩)] w
   λe w'=>e = .returned (.tuple #[])/\∃R',aT w' B a n c R' (bt L t k)/\aE w w' (cU a R) (cU a R'):=by
 have hpl:=hO.pl;have ck:=hO.cell hkn;have ct:=hO.cell htn;have fk:=hO.frozen hkn;have ft:=hO.frozen htn;have hane : a ≠ none:=hO.ne (by omega);have npk : pk ≠ ablk a:=λe=>nk (.inl ⟨hane,e⟩);have npt : pt ≠ ablk a:=λe=>nt (.inl ⟨hane,e⟩);have k1 : (w.setCell ⟨ablk a,aK a+t,none⟩ (.slice (aV R k).1 (ai L k).length (aV R k).2)).cell? ⟨pk,0,none⟩=some (.int .i64 k):=by rw [NC _ _ _ _ (by simp [npk])];exact hk
 have k2 : (w.setCell ⟨ablk a,aK a+t,none⟩ (.slice (aV R k).1 (ai L k).length (aV R k).2)).cell? ⟨pt,0,none⟩=some (.int .i64 t):=by rw [NC _ _ _ _ (by simp [npt])];exact ht
 have k3 : (w.setCell ⟨ablk a,aK a+t,none⟩ (.slice (aV R k).1 (ai L k).length (aV R k).2)).cell? ⟨ablk a,aK a+k,none⟩=some (.slice (aV R k).1 (ai L k).length (aV R k).2):=by rw [NC _ _ _ _ (by simp <;> omega)];exact ck
 go_enter func254,ntmps254;go_wp2_with fail;go_region;have hO2:=(hO.swap htn hkn).drew;have hM2:=(hO.oq htn hkn (.slice (aV R k).1 (ai L k).length (aV R k).2) (.slice (aV R t).1 (ai L t).length (aV R t).2)).drew;go_wp2_with fail;go_end0;exact ⟨rfl,_,hO2,hM2⟩
theorem Gg (w0 : World) (a : OA) (n c : Nat) (R : Z4) (L : ZZ) (pg ps pt : Nat) (s : Int) (t : Nat) (hO : aT w w0.heap.size a n c R L)
  (h : ew w0 b G) (hb : SW w0 w)
  (hg : w.cell? ⟨pg,0,none⟩=some (.pointer (some ⟨b,0,none⟩))) (hs : w.cell? ⟨ps,0,none⟩=some (.int .i64 s)) (ht : w.cell? ⟨pt,0,none⟩=some (.int .i64 t)) (htn : t<n) (hse : G.El s)
  (hel : G.Ec (ai L t)) (hln : (ai L t).length<=1000000) :
  Calls prog 255 #[.slice a n c,.pointer (some ⟨pg,0,none⟩),.pointer (some ⟨ps,0,none⟩),.pointer (some ⟨pt,0,none⟩)] w
   λe w'=>e = .returned (.tuple #[])/\∃R',aT w' w0.heap.size a n c R' (L.set t ((ai L t).map (G.mul s)))/\aE w w' (cU a R) (cU a R'):=by
 have hpl:=hO.pl;have ct:=hO.cell htn;have ft:=hO.frozen htn;have hi:=hO.ints htn;have hG:=h.ah hb;have hS : ∀W,SW w W->W.cell? ⟨pg,0,none⟩=some (.pointer (some ⟨b,0,none⟩))/\W.cell? ⟨ps,0,none⟩=some (.int .i64 s)/\W.cell? ⟨pt,0,none⟩=some (.int .i64 t) /\
   W.cell? ⟨ablk a,aK a+t,none⟩=some (.slice (aV R t).1 (ai L t).length (aV R t).2)/\W.frozen? ⟨ablk a,aK a+t,none⟩=false/\SW w W :=
  λW hW=>⟨aB hW hg,aB hW hs,aB hW ht,aB hW ct,(hO.ah hW).frozen htn,hW⟩
 have HS:=Z5 hS;clear hS;have hF : ∀w4 a4 c4,w4.ownsRow w.drew.heap.size 3 1 (.slice a4 ((ai L t).map (G.mul s)).length c4) ((ai L t).map (G.mul s)).length (((ai L t).map (G.mul s)).map (Value.int .i64))->Below w.drew.heap.size w.drew w4 ->
   ∃R',aT (w4.setCell ⟨ablk a,aK a+t,none⟩ (.slice a4 (ai L t).length c4)) w0.heap.size a n c R' (L.set t ((ai L t).map (G.mul s)))/\aE w (w4.setCell ⟨ablk a,aK a+t,none⟩ (.slice a4 (ai L t).length c4)) (cU a R) (cU a R'):=by
  intro w4 a4 c4 hown4 hb4;have hb5 : SW w w4:=RZ (Nc _ _).drew hb4;have hO4:=hO.ah hb5;have hsz : w.drew.heap.size=w.heap.size:=rfl;rw [hsz] at hown4;have hnew : ∀b,b<w.heap.size->gE a4 b:=λb hb=>mq hown4 hb;have h1:=hO4.setRow htn (aX hown4 hb.size) (hnew _ (hO.lt _ (.inl ⟨hO.ne (by omega),rfl⟩)).2) (λj hj _=>by
   by_cases hn : (aV R j).1=none
   ·exact .inl hn
   ·exact .inr (hnew _ (hO.lt _ (aT.mS (by rw [hO.rl];exact hj) hn)).2))
  have h2:=hO.mH hb5 htn (r:=a4) (rc:=c4) (.slice a4 ((ai L t).map (G.mul s)).length c4) (λha=>.inr (aY hown4 ha).1);rw [Nq] at h1 h2;exact ⟨_,h1,h2⟩
 have HF:=Z5 hF;clear hF;go_enter func255,ntmps255;go_wp2_with fail;go_region_law ((first
  | (go_simp;go_at_call 66;((with_reducible refine (xj s _ _ _ _ (hG.ah (Nc _ _).drew) hse (hi.ah (Nc _ _).drew) hel hln).mono ?_);rintro e w4 ⟨a4,c4,rfl,hown4,hb4⟩;obtain ⟨q0,q1,q2,q3,q4,q5⟩:=HS.out w4 (RZ (Nc _ _).drew hb4)))))
 all_goals (
  go_wp2_with fail
  go_end0
  exact ⟨rfl,HF.out _ _ _ hown4 hb4⟩)
end
section
variable {w : World} {b : Nat} {G : dn}
theorem dp.dD {a av : OA} {R : Z4} {w w' : World} (h : dp av w w') (hin : av ≠ none->cU a R (ablk av)) : aE w w' (cU a R) (cU a R) :=
 ⟨h.os,h.tape,h.output,h.size,λb hb hI=>h.block b hb (λ⟨h1,h2⟩=>hI (by rw [h2];exact hin h1)),λ_ h=>.inl h⟩
theorem F9 (w0 : World) (a : OA) (n c : Nat) (R : Z4) (L : ZZ) (pg pi px pt m : Nat) (i : Nat) (x : Int) (t : Nat) (hO : aT w w0.heap.size a n c R L)
  (h : ew w0 b G) (hb : SW w0 w)
  (hg : w.cell? ⟨pg,0,none⟩=some (.pointer (some ⟨b,0,none⟩))) (hi : w.cell? ⟨pi,0,none⟩=some (.int .i64 i)) (hx : w.cell? ⟨px,0,none⟩=some (.int .i64 x)) (ht : w.cell? ⟨pt,0,none⟩=some (.int .i64 t))
  (hin : i<n) (htn : t<n) (hit : i ≠ t) (hxe : G.El x) (ng : ¬ cU a R pg) (ni : ¬ cU a R pi) (nx : ¬ cU a R px) (nt : ¬ cU a R pt) (hei : G.Ec (ai L i)) (het : G.Ec (ai L t)) (hli : (ai L i).length=m) (hlt : (ai L t).length=m) :
  Calls prog 256 #[.slice a n c,.pointer (some ⟨pg,0,none⟩),.pointer (some ⟨pi,0,none⟩),.pointer (some ⟨px,0,none⟩),.pointer (some ⟨pt,0,none⟩)] w
   λe w'=>e = .returned (.tuple #[])/\aT w' w0.heap.size a n c R (L.set i (bR G.ops (ai L i) (G.neg x) (ai L t)))/\aE w w' (cU a R) (cU a R):=by
 have hpl:=hO.pl;have ct:=hO.cell htn;have ci:=hO.cell hin;have ri:=hO.row i hin;have rt:=hO.ints htn;have hsep:=hO.sep i t hin htn hit;have hne : G.El (G.neg x):=dn.zF h x;rw [hlt] at ct rt;rw [hli] at ci ri;have hap : (aV R i).1=none\/(aV R t).1=none\/ablk (aV R t).1 ≠ ablk (aV R i).1:=hsep;have hadd : ∀k,Calls prog 198 #[.pointer (some ⟨b,0,none⟩),.slice (aV R i).1 m (aV R i).2,.int .i64 (G.neg x),.slice (aV R t).1 m (aV R t).2] (w.drewN k)
   λe w'=>e = .returned (.tuple #[])/\(w'.cell? ⟨pg,0,none⟩=some (.pointer (some ⟨b,0,none⟩))/\w'.cell? ⟨pi,0,none⟩=some (.int .i64 i)/\w'.cell? ⟨px,0,none⟩=some (.int .i64 x)/\w'.cell? ⟨pt,0,none⟩=some (.int .i64 t) /\
    w'.cell? ⟨ablk a,aK a+t,none⟩=some (.slice (aV R t).1 m (aV R t).2)/\w'.cell? ⟨ablk a,aK a+i,none⟩=some (.slice (aV R i).1 m (aV R i).2))/\(aT w' w0.heap.size a n c R (L.set i (bR G.ops (ai L i) (G.neg x) (ai L t)))/\aE w w' (cU a R) (cU a R)):=by
  intro k;have hd : bf w (w.drewN k):=⟨k,rfl⟩
  refine (E0 w0 _ _ m (ai L i) (G.neg x) _ _ (ai L t) h (hd.zU hb) (bd ri hd.below) (rt.ah hd.below) hap hei het hne).mono ?_;rintro e w' ⟨rfl,hown,honly⟩;have hmv : aE w w' (cU a R) (cU a R):=(aE.bm hd.below _).trans (honly.dD (λhn=>aT.mS (by rw [hO.rl];exact hin) hn));have hne2 : ¬ ((aV R i).1 ≠ none/\ablk a=ablk (aV R i).1):=by
   rintro ⟨h1,h2⟩;rcases hO.sL i hin with h3 | h3
   ·exact h1 h3
   ·exact h3 h2.symm
  refine ⟨rfl,⟨hmv.cell hg ng,hmv.cell hi ni,hmv.cell hx nx,hmv.cell ht nt,aE.cell (aE.trans (aE.bm hd.below _) honly) ct hne2,aE.cell (aE.trans (aE.bm hd.below _) honly) ci hne2⟩,?_,hmv⟩;have hOr:=hO.ah hd.below;have hl : (bR G.ops (ai L i) (G.neg x) (ai L t)).length=(ai L i).length:=bY _ _ _ _ (by rw [hli,hlt]);refine hOr.Lt hin hl (by rw [hli];exact hown) λb hb hne=>honly.block b hb λ⟨h1,h2⟩=>?_;rcases hne with h3 | h3
  ·exact h1 h3
  ·exact h3 h2
 have Hadd:=Z5 hadd;have hG:=h.ah hb;have HG : Hid (ew w.drew b G/\∀n,ew (w.drewN n) b G):=⟨hG.ah (Nc _ _).drew,λn=>hG.drewN n⟩
 clear hadd hsep hap hli hlt;generalize L.set i (bR G.ops (ai L i) (G.neg x) (ai L t))=L' at *;go_enter func256,ntmps256;go_wp2_with fail;go_region_held3 (fun w' => w'.cell? ⟨pg, 0, none⟩ = some (.pointer (some ⟨b, 0, none⟩)) ∧ w'.cell? ⟨pi, 0, none⟩ = some (.int .i64 i) ∧ w'.cell? ⟨px, 0, none⟩ = some (.int .i64 x) ∧ w'.cell? ⟨pt, 0, none⟩ = some (.int .i64 t) ∧
       w'.cell? ⟨ablk a,aK a+t,none⟩=some (.slice (aV R t).1 m (aV R t).2)/\w'.cell? ⟨ablk a,aK a+i,none⟩=some (.slice (aV R i).1 m (aV R i).2))
  (first | assumption | exact ⟨hg,hi,hx,ht,ct,ci⟩)
  (first
  | (go_at_call 103;((with_reducible refine (Kv x HG.out.1 hxe).mono ?_);rintro e w4 ⟨m4,rfl,rfl⟩))
  | (go_at_call 198;((with_reducible refine (Hadd.out _).mono ?_);rintro e w5 ⟨rfl,hS5,hO5,hM5⟩)))
 go_wp2_with fail;go_end0;exact ⟨rfl,hO5,hM5⟩
end
section
variable {w : World}
theorem Gz (c0 c1 : Value) (p q : Nat) (a : OA) (n c : Nat) (X : World->Prop) (h1 : w.cell? ⟨p,0,none⟩=some (.slice a n c))
  (hf : Calls prog 254 #[.slice a n c,c0,c1] w λe w'=>e = .returned (.tuple #[])/\w'.cell? ⟨q,0,none⟩=some (.slice none 0 0)/\X w') :
  Calls prog 253 #[.func (.func 254) #[] #[c0,c1],.pointer (some ⟨p,0,none⟩),.pointer (some ⟨q,0,none⟩)] w
   λe w'=>e = .returned (.tuple #[])/\X w':=by have Hf:=Z5 hf;clear hf;go_enter func253,ntmps253;go_wp2_with fail;refine Hf.out.mono ?_;rintro e w' ⟨rfl,hq,hX⟩;go_wp2_with fail;go_end0;exact ⟨rfl,hX⟩
theorem GY (c0 c1 c2 : Value) (p q : Nat) (a : OA) (n c : Nat) (X : World->Prop) (h1 : w.cell? ⟨p,0,none⟩=some (.slice a n c))
  (hf : Calls prog 255 #[.slice a n c,c0,c1,c2] w λe w'=>e = .returned (.tuple #[])/\w'.cell? ⟨q,0,none⟩=some (.slice none 0 0)/\X w') :
  Calls prog 253 #[.func (.func 255) #[] #[c0,c1,c2],.pointer (some ⟨p,0,none⟩),.pointer (some ⟨q,0,none⟩)] w
   λe w'=>e = .returned (.tuple #[])/\X w':=by have Hf:=Z5 hf;clear hf;go_enter func253,ntmps253;go_wp2_with fail;refine Hf.out.mono ?_;rintro e w' ⟨rfl,hq,hX⟩;go_wp2_with fail;go_end0;exact ⟨rfl,hX⟩
theorem G8 (c0 c1 c2 c3 : Value) (p q : Nat) (a : OA) (n c : Nat) (X : World->Prop) (h1 : w.cell? ⟨p,0,none⟩=some (.slice a n c))
  (hf : Calls prog 256 #[.slice a n c,c0,c1,c2,c3] w λe w'=>e = .returned (.tuple #[])/\w'.cell? ⟨q,0,none⟩=some (.slice none 0 0)/\X w') :
  Calls prog 253 #[.func (.func 256) #[] #[c0,c1,c2,c3],.pointer (some ⟨p,0,none⟩),.pointer (some ⟨q,0,none⟩)] w
   λe w'=>e = .returned (.tuple #[])/\X w':=by have Hf:=Z5 hf;clear hf;go_enter func253,ntmps253;go_wp2_with fail;refine Hf.out.mono ?_;rintro e w' ⟨rfl,hq,hX⟩;go_wp2_with fail;go_end0;exact ⟨rfl,hX⟩
end
section
structure bF (O : aL) (El : Int->Prop) : Prop where
 cl : uT O El
 zero : El 0
 one : El 1
 add_comm : ∀x y,El x->El y->O.add x y=O.add y x
 add_assoc : ∀x y z,El x->El y->El z->O.add (O.add x y) z=O.add x (O.add y z)
 add_zero : ∀x,El x->O.add x 0=x
 add_neg : ∀x,El x->O.add x (O.neg x)=0
 mul_comm : ∀x y,El x->El y->O.mul x y=O.mul y x
 mul_assoc : ∀x y z,El x->El y->El z->O.mul (O.mul x y) z=O.mul x (O.mul y z)
 one_mul : ∀x,El x->O.mul 1 x=x
 mul_add : ∀x y z,El x->El y->El z->O.mul x (O.add y z)=O.add (O.mul x y) (O.mul x z)
 mul_inv : ∀x,El x->x ≠ 0->O.mul x (O.inv x)=1
def pw (P : Int) (M : Nat) (mod : Lz) (y : Int) : Nat->Int
 | 0=>1
 | k+1=>dQ P M mod (pw P M mod y k) y
variable {P : Int} {M : Nat} {mod : Lz} {q : Nat} {y : Int}
theorem uo (h : oL P M) (y : Int) : ∀k,gq P M (pw P M mod y k)
 | 0=>zI h
 | k+1=>ja h _ _
theorem kN (h : oL P M) (y : Int) (a : Nat) : ∀b,dQ P M mod (pw P M mod y a) (pw P M mod y b)=pw P M mod y (a+b)
 | 0=>by rw [pw,ld h,ku h (uo h y a)];rfl
 | b+1=>by rw [pw,<- vE h,kN h y a b];rfl
theorem yB (y : Int) : ∀(n : Nat) (l : Lz),(∀i,i<l.length->nth l i=pw P M mod y i)->l.Nodup->(∀e ∈ l,e ≠ 0) ->
  (∀i,i<(powTo (λz=>dQ P M mod z y) n l (pw P M mod y l.length)).length->nth (powTo (λz=>dQ P M mod z y) n l (pw P M mod y l.length)) i=pw P M mod y i) /\
  (powTo (λz=>dQ P M mod z y) n l (pw P M mod y l.length)).Nodup/\∀e ∈ powTo (λz=>dQ P M mod z y) n l (pw P M mod y l.length),e ≠ 0
 | 0,l,h1,h2,h3=>⟨h1,h2,h3⟩
 | n+1,l,h1,h2,h3=>by
  by_cases hs : pw P M mod y l.length=0\/pw P M mod y l.length ∈ l
  ·rw [lA _ _ _ _ hs];exact ⟨h1,h2,h3⟩
  ·rw [vq _ _ _ _ hs];have e : dQ P M mod (pw P M mod y l.length) y=pw P M mod y (l ++ [pw P M mod y l.length]).length:=by simp [pw]
   rw [e];refine yB y n _ (λi hi=>?_) ?_ ?_
   ·simp only [Nl,ND] at hi;by_cases hl : i<l.length
    ·rw [nth,Ng,Ny hl,<- Ng];exact h1 i hl
    ·obtain rfl : i=l.length:=by omega
     simp [nth]
   ·rw [OM];refine ⟨h2,by simp,λa ha b hb=>?_⟩;rw [List.mem_singleton.1 hb];intro e;exact hs (.inr (e ▸ ha))
   ·intro e he;rcases List.mem_append.1 he with h | h
    ·exact h3 e h
    ·rw [List.mem_singleton.1 h];intro e;exact hs (.inl e)
theorem JD (h : oL P M) (hy : gq P M y) (q : Nat) :
  (∀i,i<(gV P M mod q y).length->nth (gV P M mod q y) i=pw P M mod y i)/\(gV P M mod q y).Nodup/\∀e ∈ gV P M mod q y,e ≠ 0:=by
 have e : pw P M mod y [(1 : Int)].length=y:=by show dQ P M mod (pw P M mod y 0) y=y;rw [pw,ku h hy]
 have:=yB (P:=P) (M:=M) (mod:=mod) y q [1] (λi hi=>by
  have : i=0:=by simp at hi;omega
  subst this;rfl) (by simp) (by simp)
 rw [e] at this;exact this
structure xN (P : Int) (M : Nat) (mod : Lz) (q : Nat) (y : Int) (ex : Lz) : Prop where
 res : oL P M
 q2 : 2<=q
 pq : (q : Int)=P ^ M
 yel : gq P M y
 len : ex.length=q - 1
 val : ∀i,i<q - 1->nth ex i=pw P M mod y i
 nodup : ex.Nodup
 ne : ∀e ∈ ex,e ≠ 0
 last : pw P M mod y (q - 1)=1
theorem xN.CL (h : oL P M) (hq : (q : Int)=P ^ M) (hy : gq P M y) (hg : je P M mod q y=true) : xN P M mod q y (gV P M mod q y):=by
 have hq2 : 2<=q:=by have:=one_lt_pow h;omega
 simp only [je,NK,beq_iff_eq] at hg;obtain ⟨h1,h2,h3⟩:=JD (mod:=mod) h hy q;refine ⟨h,hq2,hq,hy,hg.1,λi hi=>h1 i (by omega),h2,h3,?_⟩;have:=hg.2;rw [h1 _ (by omega)] at this;rw [show q - 1=(q - 2)+1 by omega];exact this
namespace xN
variable {ex : Lz}
theorem mem (g : xN P M mod q y ex) {e : Int} (he : gq P M e) (h0 : e ≠ 0) : e ∈ ex:=by
 apply NH;intro hn;have hnd : (e :: ex).Nodup:=List.nodup_cons.2 ⟨hn,g.nodup⟩;have hsub : ∀x ∈ e :: ex,x ∈ (List.range (q - 1)).map (λi : Nat=>(i : Int)+1):=by
  intro x hx;have hx2 : gq P M x/\x ≠ 0:=by
   rcases List.mem_cons.1 hx with rfl | hx
   ·exact ⟨he,h0⟩
   ·refine ⟨?_,g.ne x hx⟩;obtain ⟨i,hi,rfl⟩:=List.mem_iff_getElem.1 hx;rw [<- aj hi,g.val i (by rw [<- g.len];exact hi)];exact uo g.res y i
  rw [Pp];have h1:=hx2.1.1;have h2:=hx2.1.2;have h3:=hx2.2;have h4:=g.pq;have h5:=g.q2;exact ⟨(x - 1).toNat,by rw [PQ];omega,by omega⟩
 have hle:=List.Nodup.length_le_of_subset hnd hsub;simp at hle;have h5:=g.q2;have h6:=g.len;omega
theorem log (g : xN P M mod q y ex) {e : Int} (he : gq P M e) (h0 : e ≠ 0) : ∃k,k<q - 1/\e=pw P M mod y k/\nth ex k=e:=by
 obtain ⟨i,hi,e1⟩:=List.mem_iff_getElem.1 (g.mem he h0);have hi2 : i<q - 1:=by rw [<- g.len];exact hi
 refine ⟨i,hi2,?_,?_⟩
 ·rw [<- g.val i hi2,aj hi,e1]
 ·rw [aj hi,e1]
theorem period (g : xN P M mod q y ex) (a : Nat) : ∀n,pw P M mod y (a+n * (q - 1))=pw P M mod y a
 | 0=>by simp
 | n+1=>by rw [show a+(n+1) * (q - 1)=(a+n * (q - 1))+(q - 1) by rw [Nat.add_mul];omega,<- kN g.res,g.last,ld g.res,ku g.res (uo g.res y _),period g a n]
theorem red (g : xN P M mod q y ex) (a : Nat) : pw P M mod y (a % (q - 1))=pw P M mod y a:=by have h:=g.period (a % (q - 1)) (a / (q - 1));rw [<- h,Oe,Nat.mod_add_div]
theorem Lr (g : xN P M mod q y ex) (a : Nat) : pw P M mod y a ≠ 0:=by have h5:=g.q2;rw [<- g.red a];have hlt : a % (q - 1)<q - 1:=O1 _ (by omega);rw [<- g.val _ hlt];exact g.ne _ (aH (by rw [g.len];exact hlt))
theorem inj (g : xN P M mod q y ex) {i j : Nat} (hi : i<q - 1) (hj : j<q - 1) (h : nth ex i=nth ex j) : i=j:=by
 rw [aj (by rw [g.len];exact hi),aj (by rw [g.len];exact hj)] at h;have hp:=List.pairwise_iff_getElem.1 g.nodup;rcases Rs i j with h1 | h1 | h1
 ·exact absurd h (hp i j _ _ h1)
 ·exact h1
 ·exact absurd h.symm (hp j i _ _ h1)
theorem y9 (g : xN P M mod q y ex) {k : Nat} (hk : k<q - 1) : gq P M (nth ex k):=by rw [g.val k hk];exact uo g.res y k
theorem yP (g : xN P M mod q y ex) : ∀k,k<=q - 1->∀j,j<k->nth (logTo q ex k) (nth ex j).toNat=j
 | 0,_,j,hj=>by omega
 | k+1,hk,j,hj=>by
  have hkel:=g.y9 (k:=k) (by omega);have hjel:=g.y9 (k:=j) (by omega);have h1:=hkel.1;have h2:=hkel.2;have h3:=hjel.1;have h4:=g.pq;rw [logTo,eh _ _ _ _ (by rw [kZ];omega)];by_cases e : j=k
  ·subst e;rw [Nd rfl]
  ·rw [Nf]
   ·exact yP g k (by omega) j (by omega)
   ·intro e2;exact e (g.inj (by omega) (by omega) (by omega))
theorem Kj (g : xN P M mod q y ex) {k : Nat} (hk : k<q - 1) : nth (logTo q ex (q - 1)) (pw P M mod y k).toNat=k:=by rw [<- g.val k hk];exact g.yP (q - 1) (Na _) k hk
theorem va (g : xN P M mod q y ex) {x z : Int} (hx : gq P M x) (hz : gq P M z) : wW q ex (logTo q ex (q - 1)) x z=dQ P M mod x z:=by
 unfold wW;by_cases h0 : x=0\/z=0
 ·rw [Nd h0];rcases h0 with rfl | rfl
  ·rw [ld g.res,tK g.res]
  ·rw [tK g.res]
 ·rw [Nf h0];obtain ⟨a,ha,rfl,_⟩:=g.log hx (λe=>h0 (.inl e));obtain ⟨b,hb,rfl,_⟩:=g.log hz (λe=>h0 (.inr e));have h5:=g.q2;rw [g.Kj ha,g.Kj hb,kN g.res];have e1 : ((a : Int)+b) % ((q : Int) - 1)=(((a+b) % (q - 1) : Nat) : Int):=by rw [Pc,Int.natCast_add,QY (by omega)];rfl
  rw [e1,Nb,g.val _ (O1 _ (by omega)),g.red]
theorem JV (g : xN P M mod q y ex) {x : Int} (hx : gq P M x) (h0 : x ≠ 0) : dQ P M mod x (BX q ex (logTo q ex (q - 1)) x)=1:=by
 obtain ⟨a,ha,rfl,_⟩:=g.log hx h0;have h5:=g.q2;unfold BX;rw [g.Kj ha];have e1 : ((q : Int) - 1 - a) % ((q : Int) - 1)=(((q - 1 - a) % (q - 1) : Nat) : Int):=by rw [Pc,QY (by omega),QY (by omega)];rfl
 rw [e1,Nb,g.val _ (O1 _ (by omega)),g.red,kN g.res,show a+(q - 1 - a)=q - 1 by omega,g.last]
theorem Lg (g : xN P M mod q y ex) (x : Int) : gq P M (BX q ex (logTo q ex (q - 1)) x):=by have h5:=g.q2;unfold BX;refine g.y9 ?_;have h1:=Oa ((q : Int) - 1 - nth (logTo q ex (q - 1)) x.toNat) (show (q : Int) - 1 ≠ 0 by omega);have h2:=N0 ((q : Int) - 1 - nth (logTo q ex (q - 1)) x.toNat) (show 0<(q : Int) - 1 by omega);omega
theorem M7 (g : xN P M mod q y ex) : bF (dn.ops ⟨P,M,q,ex,logTo q ex (q - 1)⟩) (gq P M):=by
 have hmul : ∀ {x z : Int},gq P M x->gq P M z->(dn.ops ⟨P,M,q,ex,logTo q ex (q - 1)⟩).mul x z=dQ P M mod x z:=λhx hz=>g.va hx hz;have h:=g.res;have hinv : ∀x,gq P M ((dn.ops ⟨P,M,q,ex,logTo q ex (q - 1)⟩).inv x):=λx=>g.Lg x;refine ⟨⟨λx z _ _=>ki h x z,λx z hx hz=>?_,λx _=>Ai h x,λx _ _=>hinv x⟩,zL h,zI h,λx z _ _=>Ib h x z,λx z u _ _ _=>DG h x z u,λx hx=>KQ h hx,λx _=>GJ h x,?_,?_,?_,?_,?_⟩
 ·rw [hmul hx hz];exact ja h x z
 ·intro x z hx hz;rw [hmul hx hz,hmul hz hx,ld h]
 ·intro x z u hx hz hu;rw [hmul hx hz,hmul hz hu,hmul (ja h x z) hu,hmul hx (ja h z u),vE h]
 ·intro x hx;rw [hmul (zI h) hx,ku h hx]
 ·intro x z u hx hz hu;have hs : (dn.ops ⟨P,M,q,ex,logTo q ex (q - 1)⟩).add=fsum P M:=rfl;rw [hs,hmul hx (ki h z u),hmul hx hz,hmul hx hu,Jb h]
 ·intro x hx h0;rw [hmul hx (hinv x)];exact g.JV hx h0
end xN
theorem ob {P M : Int} {mod : Lz} (h : bA P M mod=true) : ∃(m : Nat) (y : Int),M=m/\oL P m/\P ^ m<=256/\dg P m mod=true/\(aJ P m).toNat=P ^ m/\xN P m mod (aJ P m).toNat y (ji P m mod (aJ P m).toNat):=by
 unfold bA at h;rw [NK] at h;obtain ⟨hs,hg⟩:=h;have hs2:=hs;simp only [dg,NK,bne_iff_ne,ne_eq] at hs2;obtain ⟨b1,b2,b3,b4,b5,b6⟩:=gX hs2.1.1;obtain ⟨m,rfl⟩ : ∃m : Nat,M=m:=⟨M.toNat,by omega⟩
 rw [Nb] at *;have hres : oL P m:=⟨b1,by omega⟩
 have hq : ((aJ P m).toNat : Int)=P ^ m:=by have:=one_lt_pow hres;omega
 have hne : ji P m mod (aJ P m).toNat ≠ []:=by intro e;rw [e] at hg;simp at hg
 obtain ⟨y,hy1,hy2,hy3,hy4⟩:=tR hne;refine ⟨m,y,rfl,hres,b5,hs,hq,?_⟩;rw [hy4];exact xN.CL hres hq ⟨by omega,by omega⟩ hy3
theorem dM {P M : Int} {mod : Lz} (h : bA P M mod=true) : bF (af P M.toNat mod).ops (af P M.toNat mod).El:=by
 obtain ⟨m,y,rfl,hr,_,_,hq,g⟩:=ob h;have e : (af P ((m : Int).toNat) mod).El=gq P m:=by funext x;simp only [dn.El,af,gq,Nb];rw [hq]
 rw [e];exact g.M7
end
theorem i7 (w : World) (cs : Array Value) (e : TypeId) {g : Nat} (hg : g=w.heap.size) (i : Nat) : (w.alloc (.cells cs e)).frozen? ⟨g,i,none⟩=false:=by subst hg;simp
theorem eT {w w' : World} (hb : SW w w') {g i : Nat} (hg : g<w.heap.size) {v : Bool} (h : w.frozen? ⟨g,i,none⟩=v) : w'.frozen? ⟨g,i,none⟩=v:=(hb.frozen (p:=⟨g,i,none⟩) hg).trans h
theorem dX {w : World} {g i : Nat} {v : Bool} (hg : g<w.heap.size) (h : w.frozen? ⟨g,i,none⟩=v) (o : Obj) : (w.alloc o).frozen? ⟨g,i,none⟩=v:=eT ((Nc _ _).alloc (Na _) o) hg h
def aN (w : World) (b : Nat) (cs : List Value) : Prop:=b<w.heap.size/\(∀i v,cs[i]? = some v->w.cell? ⟨b,i,none⟩=some v)/\∀i,w.frozen? ⟨b,i,none⟩=false
theorem aN.new (w : World) (cs : List Value) (e : TypeId) {g : Nat} (hg : g=w.heap.size) : aN (w.alloc (.cells cs.toArray e)) g cs :=
 ⟨by subst hg;simp,λi v hv=>by rw [aI _ _ _ hg i];simpa using hv,λi=>i7 _ _ _ hg i⟩
theorem aN.ah {w w' : World} {b : Nat} {cs : List Value} (h : aN w b cs) (hb : SW w w') : aN w' b cs :=
 ⟨NR h.1 hb.size,λi v hv=>aB hb (h.2.1 i v hv),λi=>eT hb h.1 (h.2.2 i)⟩
theorem aN.alloc {w : World} {b : Nat} {cs : List Value} (h : aN w b cs) (o : Obj) : aN (w.alloc o) b cs:=h.ah ((Nc _ _).alloc (Na _) o)
theorem aN.cell {w : World} {b : Nat} {cs : List Value} (h : aN w b cs) (i : Nat) {v : Value} (hv : cs[i]? = some v) : w.cell? ⟨b,i,none⟩=some v:=h.2.1 i v hv
theorem aN.frozen {w : World} {b : Nat} {cs : List Value} (h : aN w b cs) (i : Nat) : w.frozen? ⟨b,i,none⟩=false:=h.2.2 i
theorem mF (w : World) (o1 o2 o3 : Obj) : SW w (((w.alloc o1).alloc o2).alloc o3):=(((Nc _ _).alloc (Na _) _).alloc (by simp) _).alloc (by simp;omega) _
theorem bN (w : World) (o1 o2 : Obj) : SW w ((w.alloc o1).alloc o2):=((Nc _ _).alloc (Na _) _).alloc (by simp) _
theorem an (w : World) (o1 : Obj) : SW w (w.alloc o1):=(Nc _ _).alloc (Na _) _
theorem Ints.drawn {w w' : World} {a : OA} {n : Nat} {l : Lz} (h : Ints w a n l) (hd : bf w w') : Ints w' a n l:=h.ah hd.below
theorem br.drawn {w w' : World} {a : OA} {n : Nat} {l : ZZ} (h : br w a n l) (hd : bf w w') : br w' a n l:=h.ah hd.below
theorem bf.trans {w w' w'' : World} (h : bf w w') (k : bf w' w'') : bf w w'' := by obtain ⟨m, rfl⟩ := h; obtain ⟨n, rfl⟩ := k; exact ⟨m + n, World.drewN_drewN _ _ _⟩
def i6 (w : World) (z : Bool) (e : Ending) (w' : World) : Prop:=e = .returned (.bool z)/\bf w w'
def R9:=@aN.new
def Se:=@aE.bm
def Sf:=@bf.refl
def Sj:=@bf.below
def Sm:=@dp.drawn
def Sp:=@aE.refl
def Sq:=@dp.refl
def St:=@dp.set
def Sx:=@aE.trans
def Sy:=@bp.clear
def SA:=@dn.cl
def SG:=@bf.drewN
end Go.Proofs.YthglbncgemdcbaaGreat
