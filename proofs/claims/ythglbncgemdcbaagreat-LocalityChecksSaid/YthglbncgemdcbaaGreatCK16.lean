import Derived.Test.YthglbncgemdcbaaGreatCK15
import Derived.OpenShut
import Derived.ShutString
import Derived.ChangeOld
import Derived.Deep.Matrix
namespace Go.Proofs.YthglbncgemdcbaaGreat
set_option linter.all false
set_option maxRecDepth 100000
set_option maxHeartbeats 8000000
open Go.RowKit Go.Proofs.Tryz
theorem Hj (O : aM) (L : Ll) (m : Nat) (C : iz) (d : Nat) (s z : LI) (T : Ll) (hd : s.length+d=C.W) (Z : dm O L m C s (eJ O L m C s z)=true) (Y : T.length ≠ 65536) :
  jn O L m C d s z T=gr (jn O L m C (d - 1)) s z (if s.length<C.W then (eJ O L m C s z).filter (λx=>decide (¬ x ∈ z)) else []) (T ++ [eJ O L m C s z]):=by
 match d with
 | 0 =>
  have h1 : (if s.length<C.W then (eJ O L m C s z).filter (λx=>decide (¬ x ∈ z)) else [])=[]:=JR (by omega)
  rw [h1,jn,JT Z,JR Y]
  rfl
 | d+1 =>
  have h1 : (if s.length<C.W then (eJ O L m C s z).filter (λx=>decide (¬ x ∈ z)) else [])=iW C s z (eJ O L m C s z):=rfl
  rw [h1,jn,JT Z,JR Y]
  rfl
theorem B5 (O : aM) (L : Ll) (m : Nat) (C : iz) (d : Nat) (s z : LI) (T : Ll) (Z : dm O L m C s (eJ O L m C s z)=false) : jn O L m C d s z T=(11,[]):=by
 match d with
 | 0=>rw [jn];exact JR (by rw [Z];simp)
 | d+1=>rw [jn];exact JR (by rw [Z];simp)
theorem Ex (O : aM) (L : Ll) (m : Nat) (C : iz) (d : Nat) (s z : LI) (T : Ll) (Z : dm O L m C s (eJ O L m C s z)=true) (Y : T.length=65536) : jn O L m C d s z T=(8,[]):=by
 match d with
 | 0=>rw [jn,JT Z,JT Y]
 | d+1=>rw [jn,JT Z,JT Y]
theorem D6 {R Z : LA} (h : R <+: Z) {i : Nat} (hi : i<R.length) : aR Z i=aR R i:=by obtain ⟨X,rfl⟩:=h;rw [fw (show i<(R ++ X).length by simp;omega),fw hi,MK]
theorem Fa {R Z : Ll} (h : R <+: Z) {i : Nat} (hi : i<R.length) : ai Z i=ai R i:=by obtain ⟨X,rfl⟩:=h;rw [aE (show i<(R ++ X).length by simp;omega),aE hi,MK]
theorem Cf (R : LA) (r : OA × Nat) : aR (R ++ [r]) R.length=r:=by rw [fw (by simp)];simp
theorem CO (R : Ll) (r : LI) : ai (R ++ [r]) R.length=r:=by rw [aE (by simp)];simp
structure wb where
 ar : OA
 cr : Nat
 R : LA
 T : Ll
def wb.J (Z : Nat) (σ : wb) (x : Nat) : Prop:=x=Z\/bX σ.ar σ.R x
structure jR (w : World) (B pb b : Nat) (P M : Int) (am : OA) (mn cm : Nat) (m : Nat) (a : OA) (n c : Nat) (ay : OA) (ny cy : Nat) (C : iz) (σ : wb) : Prop where
 box : aO w pb (lL b P M am mn cm m a n c ay ny cy C (.slice σ.ar σ.T.length σ.cr) 0)
 om : aT w B σ.ar σ.T.length σ.cr σ.R σ.T
 np : ¬ bX σ.ar σ.R pb
 ln : σ.T.length<=65536
theorem jR.lt {w : World} {B Y b : Nat} {P M : Int} {am : OA} {X cm m : Nat} {a : OA} {n c : Nat} {U : OA} {V cy : Nat} {C : iz} {σ : wb} (h : jR w B Y b P M am X cm m a n c U V cy C σ) {x : Nat} (Z : σ.J Y x) : x<w.heap.size:=by
 rcases Z with rfl | Z
 ·exact h.box.1
 ·exact (h.om.lt x Z).2
theorem jR.dQ {w w' : World} {I : Nat->Prop} {B Z b : Nat} {P M : Int} {am : OA} {X cm m : Nat} {a : OA} {n c : Nat} {U : OA} {V cy : Nat} {C : iz} {σ : wb} (h : jR w B Z b P M am X cm m a n c U V cy C σ)
  (Y : aD w w' I I) (hI : ∀x,σ.J Z x->¬ I x) : jR w' B Z b P M am X cm m a n c U V cy C σ :=
 ⟨h.box.dQ Y (hI _ (.inl rfl)),h.om.bj λx S=>Y.block x (h.om.lt x S).2 (hI x (.inr S)),h.np,h.ln⟩
theorem jR.af {w w' : World} {B X b : Nat} {P M : Int} {am : OA} {Z cm m : Nat} {a : OA} {n c : Nat} {V : OA} {Y cy : Nat} {C : iz} {σ : wb} (h : jR w B X b P M am Z cm m a n c V Y cy C σ)
  (U : OC w w') : jR w' B X b P M am Z cm m a n c V Y cy C σ:=h.dQ (I:=λ_=>False) (N3 U _) λ_ _ h=>h
def ue (S : World) (Y b : Nat) (P M : Int) (am : OA) (X cm : Nat) (m : Nat) (a : OA) (n c : Nat) (Q : OA) (U cy : Nat) (C : iz) (σ : wb) (V : Int × Ll) (w : World) (e : Ending) (w' : World) : Prop :=
 ∃Z : wb,jR w' S.heap.size Y b P M am X cm m a n c Q U cy C Z/\σ.R <+: Z.R/\σ.T <+: Z.T/\aD w w' (σ.J Y) (Z.J Y)/\e = .returned (.int .i64 V.1)/\(V.1=0->Z.T=V.2)
theorem jR.push {V N : World} {B Z b : Nat} {P M : Int} {am : OA} {z cm m : Nat} {a : OA} {n c : Nat} {j : OA} {r cy : Nat} {C : iz} {σ : wb} (h : jR V B Z b P M am z cm m a n c j r cy C σ) (hB : B<=V.heap.size)
  {a3 : OA} {A : Nat} {t : LI} (hr : V.ownsRow B 3 1 (.slice a3 t.length A) t.length (t.map (Value.int .i64))) (E : a3 ≠ none->¬ σ.J Z (ablk a3)) (hT : σ.T.length<65536) {o : Obj}
  {a5 : OA} {U : Nat} (D : N.ownsRow B 22 1 (.slice a5 (σ.T.length+1) U) (σ.T.length+1) (List.zipWith kb σ.R σ.T ++ [.slice a3 t.length A])) (hg : (V.alloc o).grownBy N (Value.slice σ.ar σ.T.length σ.cr).ownBlock)
  (G : ∀b,b<(V.alloc o).heap.size->eX σ.ar b->eX a5 b) :
  jR (N.setCell ⟨Z,10,none⟩ (.slice a5 (σ.T.length+1) U)) B Z b P M am z cm m a n c j r cy C ⟨a5,U,σ.R ++ [(a3,A)],σ.T ++ [t]⟩ /\
   aD V (N.setCell ⟨Z,10,none⟩ (.slice a5 (σ.T.length+1) U)) (λx=>σ.J Z x\/(a3 ≠ none/\x=ablk a3)) ((⟨a5,U,σ.R ++ [(a3,A)],σ.T ++ [t]⟩ : wb).J Z):=by
 have Y:=an V o;have I : aT (V.alloc o) B σ.ar σ.T.length σ.cr σ.R σ.T:=h.om.af Y;have F : a3 ≠ none->¬ bX σ.ar σ.R (ablk a3):=λh0 hh=>E h0 (.inr hh);have hO5:=Ob I (bp hr Y) F D hg G;have hnp : σ.ar=none\/ablk σ.ar ≠ Z:=by
  by_cases e : σ.ar=none
  ·exact .inl e
  ·exact .inr λe2=>h.np (.inl ⟨e,e2.symm⟩)
 have L : aO N Z (lL b P M am z cm m a n c j r cy C (.slice σ.ar σ.T.length σ.cr) 0):=(h.box.af Y).dQ (Ol (K:=λx=>σ.ar ≠ none/\x=ablk σ.ar) hg λh0=>⟨h0,rfl⟩) λ⟨h0,e⟩=>by
  rcases hnp with h1 | h1
  ·exact h0 h1
  ·exact h1 e.symm
 have hne : ¬ bX a5 (σ.R ++ [(a3,A)]) Z:=λhh=>by
  rcases bX.push I G hh with h1 | ⟨h1,h2⟩ | h1
  ·exact h.np h1
  ·exact E h1 (.inl h2.symm)
  ·have h2:=h.box.1;have h3:=Y.size;omega
 refine ⟨⟨?_,?_,hne,by simp;omega⟩,?_⟩
 ·have h1:=L.setCell 10 (.slice a5 (σ.T.length+1) U);show aO _ Z (lL b P M am z cm m a n c j r cy C (.slice a5 (σ.T ++ [t]).length U) 0);rw [J0,Ka];exact h1
 ·show aT _ B a5 (σ.T ++ [t]).length U _ _;rw [J0,Ka];exact hO5.bj λx Q=>J6 _ _ _ _ λe=>hne (by have e' : x=Z:=e;rw [<- e'];exact Q)
 ·have hM0 : aD V (V.alloc o) (λx=>σ.J Z x\/(a3 ≠ none/\x=ablk a3)) (λx=>σ.J Z x\/(a3 ≠ none/\x=ablk a3)):=N3 Y _;have hM1 : aD (V.alloc o) N (λx=>σ.J Z x\/(a3 ≠ none/\x=ablk a3)) (λx=>σ.J Z x\/(a3 ≠ none/\x=ablk a3)):=Ol hg λh0=>.inl (.inr (.inl ⟨h0,rfl⟩));have X:=hM0.trans hM1;have S : Below 0 N (N.setCell ⟨Z,10,none⟩ (.slice a5 (σ.T.length+1) U)):=(JP 0 N).setCell (JU _) _;refine ⟨S.os.trans X.os,S.tape.trans X.tape,S.output.trans X.output,J4 X.size S.size,λx Q hI=>?_,λx Q=>?_⟩
  ·exact (J6 _ _ _ _ λe=>hI (.inl (.inl e))).trans (X.block x Q hI)
  ·rcases Q with Q | Q
   ·exact .inl (.inl (.inl Q))
   ·rcases bX.push I G Q with h1 | h1 | h1
    ·exact .inl (.inl (.inr h1))
    ·exact .inl (.inr h1)
    ·exact .inr (J4 Y.size h1)
theorem jR.xP {V S : World} {B X b : Nat} {P M : Int} {am : OA} {Z cm m : Nat} {a : OA} {n c : Nat} {U : OA} {Y cy : Nat} {C : iz} {σ : wb} (h : jR V B X b P M am Z cm m a n c U Y cy C σ)
  {o : Obj} (Q : (V.alloc o).grownBy S (Value.slice σ.ar σ.T.length σ.cr).ownBlock) : aO S X (lL b P M am Z cm m a n c U Y cy C (.slice σ.ar σ.T.length σ.cr) 0) :=
 (h.box.af (an V o)).dQ (Ol (K:=λx=>σ.ar ≠ none/\x=ablk σ.ar) Q λh0=>⟨h0,rfl⟩) λ⟨h0,e⟩=>h.np (.inl ⟨h0,e⟩)
theorem aD.F2 {w V Z : World} {I I' A : Nat->Prop} (h : OC w V) (g : aD V Z (λx=>I x\/A x) I') (U : ∀x,A x->w.heap.size<=x) : aD w Z I I' :=
 ⟨g.os.trans h.os,g.tape.trans h.tape,g.output.trans h.output,J4 h.size g.size,λx X hI=>(g.block x (Kl X h.size) λY=>by
  rcases Y with Y | Y
  ·exact hI Y
  ·have:=U x Y;omega).trans (h.block x X),λx X=>by
  rcases g.grow x X with Y | Y
  ·rcases Y with Y | Y
   ·exact .inl Y
   ·exact .inr (U x Y)
  ·exact .inr (J4 h.size Y)⟩
theorem o8 {w0 : World} {b : Nat} {G : cX} {a : OA} {n : Nat} {L : Ll} {m : Nat} {ay : OA} {ny : Nat} {C : iz} (U : Nat) (P M : Int) (am : OA) (mn cm c cy : Nat)
  (E : zU w0 b G a n L m ay ny C) (hpb : w0.heap.size<=U) :
  ∀(d : Nat) (w : World) (σ : wb) (F : OA) (ns cs : Nat) (s : LI) (az : OA) (nz cz : Nat) (z : LI),ns+d=C.W->nz<=64->OC w0 w->jR w w0.heap.size U b P M am mn cm m a n c ay ny cy C σ ->
   Ints w F ns s->Ints w az nz z->(0<ns->¬ σ.J U (ablk F))->(0<nz->¬ σ.J U (ablk az))->z.Nodup->(∀x ∈ z,0<=x/\x<(m : Int)) ->
   Calls prog 184 #[.pointer (some ⟨U,0,none⟩),.slice F ns cs,.slice az nz cz] w (ue w0 U b P M am mn cm m a n c ay ny cy C σ (jn G.ops L m C d s z σ.T) w)
 | d,w,σ,F,ns,cs,s,az,nz,cz,z,hd,hnz,hb,hB,hs,hz,hsp,hzp,hzn,hzb=>by
  have IH : Hid (∀d',d'+1=d->∀(w : World) (σ : wb) (F : OA) (ns cs : Nat) (s : LI) (az : OA) (nz cz : Nat) (z : LI),ns+d'=C.W->nz<=64->OC w0 w->jR w w0.heap.size U b P M am mn cm m a n c ay ny cy C σ ->
   Ints w F ns s->Ints w az nz z->(0<ns->¬ σ.J U (ablk F))->(0<nz->¬ σ.J U (ablk az))->z.Nodup->(∀x ∈ z,0<=x/\x<(m : Int)) ->
   Calls prog 184 #[.pointer (some ⟨U,0,none⟩),.slice F ns cs,.slice az nz cz] w (ue w0 U b P M am mn cm m a n c ay ny cy C σ (jn G.ops L m C d' s z σ.T) w)):=λd' hd'=>by subst hd';exact o8 U P M am mn cm c cy E hpb d'
  have hm6:=E.m6;have hw6:=E.w6;have HE:=Z5 E;have Hsl:=Z5 hs.len;have Hzl:=Z5 hz.len;have p4:=hB.box.cell 4 rfl;have p7:=hB.box.cell 7 rfl;have p8:=hB.box.cell 8 rfl;obtain ⟨RF,hRF⟩ : ∃RF,jn G.ops L m C d s z σ.T=RF:=⟨_,rfl⟩
  rw [hRF];have HRF:=Z5 hRF;have HB:=Z5 hB;have Hz:=Z5 (JZ hzn hzb);obtain ⟨mo,hmo⟩ : ∃mo,(if C.cos=true then m else C.M)=mo:=⟨_,rfl⟩
  have Hmo:=Z5 hmo;obtain ⟨bc,hbc⟩ : ∃bc,C.cos=bc:=⟨_,rfl⟩
  rw [hbc] at p7;have Hbc:=Z5 hbc;clear hbc;have hol:=EV m s z;have horng : ∀j,j<(i5 m s z).length->0<=nth (i5 m s z) j/\nth (i5 m s z) j<m:=λj hj=>by
   rcases xT (aI hj) with h1 | h1
   ·exact hzb _ h1
   ·exact ⟨h1.1,h1.2.1⟩
  have Horng:=Z5 horng;have HO : Hid (Calls prog 232 #[.pointer (some ⟨U,0,none⟩),.slice F ns cs,.slice az nz cz] w (db w (i5 m s z))):=sc U m F ns cs s az nz cz z w p4 hs hz (by omega) (by omega);clear hRF hB hzn hzb E hmo horng;go_enter func184,ntmps184;go_upto_if 16 with fail;go_cut [7] (λv wx=>v = .int .i64 mo/\w=wx);case first =>
   cases bc
   ·have Hm2 : Hid (mo=C.M):=by show _=_;rw [<- Hmo.out,Hbc.out];rfl
    go_wp2_with fail
    go_meet
    exact ⟨by rw [Hm2.out],rfl⟩
   ·have Hm2 : Hid (mo=m):=by show _=_;rw [<- Hmo.out,Hbc.out];rfl
    go_wp2_with fail
    go_meet
    exact ⟨by rw [Hm2.out],rfl⟩
  obtain ⟨rfl,rfl⟩:=hcut;go_wp2_with fail;refine HO.out.mono ?_;rintro e w2 ⟨a2,c2,rfl,hown2,hb2⟩;have hB2:=HB.out.af hb2;have hGr:=nU U a n c L m a2 _ c2 (i5 m s z) mo (hB2.box.cell 0 rfl) (hB2.box.cell 5 rfl) (HE.out.g.af (hb.trans (hb2.mono hb.size))) (HE.out.je.af (hb.trans (hb2.mono hb.size))) HE.out.rws (NZ hown2).1 Horng.out HE.out.n6 (by rw [Hzl.out] at hol;omega);have hgl:=A7 (O:=G.ops) (L:=L) (Q:=i5 m s z) (most:=mo);have Hcs : Hid (eJ G.ops L m C s z=dn (xl G.ops L (i5 m s z) mo)):=by show _=_;rw [eJ,Hmo.out]
  have hcn : (eJ G.ops L m C s z).Nodup:=zJ Hz.out.1;have hcb : ∀x ∈ eJ G.ops L m C s z,0<=x/\x<(m : Int):=λx Y=>by
   rcases xT (A7 x (DH.1 Y)) with h1 | h1
   ·exact Hz.out.2 x h1
   ·exact ⟨h1.1,h1.2.1⟩
  have hcl : (eJ G.ops L m C s z).length<=64:=J4 (mJ hcn hcb) hm6;rw [Hcs.out,fy] at hcl;have Hcn:=Z5 (JZ hcn hcb);unfold db at hGr;obtain ⟨gl,hgle⟩ : ∃gl,(xl G.ops L (i5 m s z) mo).length=gl:=⟨_,rfl⟩
  have Hgl:=Z5 hgle;rw [hgle] at hGr hcl;obtain ⟨t,hte⟩ : ∃t,eJ G.ops L m C s z=t:=⟨_,rfl⟩
  have Htl : Hid (t.length=gl):=by show _=_;rw [<- hte,Hcs.out,fy,hgle]
  have Hcs2 : Hid (dn (xl G.ops L (i5 m s z) mo)=t):=by show _=_;rw [<- hte,Hcs.out]
  rw [hte] at Hcn;have Hte:=Z5 hte;clear hcn hcb hgle hgl hte Hcs;have HGr:=Z5 hGr;clear hGr;generalize (i5 m s z).length=ol at *;go_wp2_with fail;refine HGr.out.mono ?_;rintro e w3 ⟨a3,c3,rfl,hown3,hb3⟩;have hbw3:=NX hb2 hb3;have hown3':=bd hown3 (B':=w.heap.size) hb2.size;have HSo:=Z5 (qS w.heap.size a3 gl c3 _ w3 hown3' hbw3.size (by omega));rw [Hcs2.out] at HSo;clear hown3 hown3';go_wp2_with fail;refine HSo.out.mono ?_;rintro e w4 ⟨rfl,D,_,hb4⟩;have A : OC w w4:=hbw3.trans hb4;have hB4:=HB.out.af A;have ht4:=(NZ D).1;have HRt:=Z5 (pj (c:=c) (cy:=cy) U P M am mn cm _ 0 F ns cs s a3 gl c3 t HE.out (hb.trans (A.mono hb.size)) hB4.box (hs.af A) ht4 (by omega));obtain ⟨rr,hrr⟩ : ∃rr,dm G.ops L m C s t=rr:=⟨_,rfl⟩
  rw [hrr] at HRt;have Hrr : Hid (dm G.ops L m C s (eJ G.ops L m C s z)=rr):=by show _=_;rw [Hte.out];exact hrr
  clear hrr;go_wp2_with fail;refine HRt.out.mono ?_;rintro e w5 ⟨rfl,hb5⟩;have K : OC w w5:=NX A hb5;have S:=HB.out.af K;cases rr
  ·have HF : Hid (RF=(11,[])):=by show _=_;rw [<- HRF.out,B5 _ _ _ _ _ _ _ _ Hrr.out]
   go_wp2_with fail;go_ret;exact ⟨σ,S,K6,K6,N3 K _,by rw [HF.out];rfl,λh=>by rw [HF.out] at h;cases h⟩
  have p10:=S.box.cell 10 rfl;by_cases r : σ.T.length=65536
  ·have HF : Hid (RF=(8,[])):=by show _=_;rw [<- HRF.out,Ex _ _ _ _ _ _ _ _ Hrr.out r]
   have hbg : ((σ.T.length : Int) == 65536)=true:=by simp;omega
   clear r;go_wp2_with fail;go_ret;exact ⟨σ,S,K6,K6,N3 K _,by rw [HF.out];rfl,λh=>by rw [HF.out] at h;cases h⟩
  have hbg : ((σ.T.length : Int) == 65536)=false:=by simp;omega
  have HF : Hid (RF=gr (jn G.ops L m C (d - 1)) s z (if ns<C.W then t.filter (λx=>decide (¬ x ∈ z)) else []) (σ.T ++ [t])):=by show _=_;rw [<- HRF.out,Hj _ _ _ _ _ _ _ _ (by rw [Hsl.out];exact hd) Hrr.out r,Hsl.out,Hte.out]
  have hTl:=S.ln;have hTlt : σ.T.length<65536:=by omega
  have N:=bp D hb5;have f10:=S.box.frozen 10;have hcn:=bf w5 (.slice a3 gl c3) 22;have hbn:=an w5 (.cells #[.slice a3 gl c3] 22);have hsz5:=K.size;have hszb:=hb.size;clear r;go_wp2_with (at_builtin;refine aS rfl _ _ 25 22 rfl (.slice none 0 0) 24 underlying25 dO rfl w0.heap.size σ.ar σ.T.length σ.cr _ rfl ((S.om.own).alloc _) ⟨w5.heap.size,0,none⟩ 1 (.slice a3 gl c3) rfl hcn rfl (by omega) (by unfold maxLen;omega) (by simp;omega) ?_;intro a6 c6 w6 hown6 B hap6;have q10:=(S.xP B).cell 10 rfl;have qf10:=(S.xP B).frozen 10);obtain rfl:=Htl.out;have hra : a3 ≠ none->¬ σ.J U (ablk a3):=λh0 hj=>by have h1:=HB.out.lt hj;have h2:=(ba N h0).1;omega
  obtain ⟨hB7,hM7⟩:=jR.push S (J4 hszb hsz5) (bd N hszb) hra hTlt hown6 B hap6;obtain ⟨Z,hZ⟩ : ∃Z : World,Z=w6.setCell ⟨U,10,none⟩ (.slice a6 (σ.T.length+1) c6):=⟨_,rfl⟩
  rw [<- hZ] at hB7 hM7;have hB05 : OC w0 w5:=hb.trans (K.mono hszb);have hbZ : OC w0 Z:=hB05.trans (hM7.below (λx Y=>by
   rcases Y with (Y | Y) | ⟨h1,h2⟩
   ·rw [Y];exact hpb
   ·exact (S.om.lt x Y).1
   ·rw [h2];exact J4 hszb (ba N h1).1) hB05.size)
  have I : aD w Z (σ.J U) ((⟨a6,c6,σ.R ++ [(a3,c3)],σ.T ++ [t]⟩ : wb).J U):=aD.F2 K hM7 λx Y=>by rw [Y.2];exact (ba N Y.1).1
  have hsZ:=hs.dQ I hsp;have hzZ:=hz.dQ I hzp;have hsJ : 0<ns->¬ (⟨a6,c6,σ.R ++ [(a3,c3)],σ.T ++ [t]⟩ : wb).J U (ablk F):=λh0=>I.not (hs.lt h0) (hsp h0);have hRl : σ.R.length=σ.T.length:=S.om.rl;have hszZ:=I.size;have HCh : Hid (Calls prog 234 #[.pointer (some ⟨U,0,none⟩),.slice F ns cs,.slice az nz cz,.slice a3 t.length c3,.func (.func 184) #[.pointer (some ⟨U,0,none⟩)] #[]] Z
    (ue w0 U b P M am mn cm m a n c ay ny cy C σ RF w)):=by
   refine (pH (σ:=wb) (λV τ=>OC w0 V/\jR V w0.heap.size U b P M am mn cm m a n c ay ny cy C τ/\Ints V F ns s/\(0<ns->¬ τ.J U (ablk F))/\(σ.R ++ [(a3,c3)]) <+: τ.R/\(σ.T ++ [t]) <+: τ.T) (λτ x=>τ.J U x) (λτ=>τ.T)
    (λs z T=>jn G.ops L m C (d - 1) s z T) U C.W F ns cs s az nz cz z a3 t.length c3 t Z ⟨a6,c6,σ.R ++ [(a3,c3)],σ.T ++ [t]⟩ ⟨hbZ,hB7,hsZ,hsJ,K6,K6⟩ ?_ (hB7.box.cell 9 rfl) ?_ (λV τ x h Y=>h.2.1.lt Y) hzZ Hcn.out.1 (by omega) (by omega) (by omega) (by omega) ?_).mono ?_
   ·rintro V1 V2 τ ⟨e1,e2,e3,e4,e5,e6⟩ hM;refine ⟨e1.trans (hM.below (λx Y=>J4 hbZ.size Y.1) e1.size),e2.dQ hM λx Y hh=>hh.2 Y,e3.dQ hM λhn Y=>?_,e4,e5,e6⟩;have h1:=hsZ.lt hn;omega
   ·rintro V τ ⟨e1,e2,e3,e4,e5,e6⟩;refine ⟨e3,?_⟩;have hlt : σ.T.length<τ.T.length:=by obtain ⟨X,hX⟩:=e6;rw [<- hX];simp <;> omega
    have h1:=e2.om.ints hlt;rw [Fa e6 (by simp),CO,<- hRl,D6 e5 (by simp),Cf] at h1;exact h1
   ·intro hlt V1 τ a1 c1 a2 c2 j zc hj hzc hnj hI hM h1 h2 h3 h4;obtain ⟨d',hd'⟩ : ∃d',d'+1=d:=⟨d - 1,by omega⟩
    have hzl : zc.length<=64/\zc.Nodup/\∀x ∈ zc,0<=x/\x<(m : Int):=by
     have hsub : ∀x ∈ (t.take j).filter (λx=>decide (¬ x ∈ z)),x ∈ t/\¬ x ∈ z:=λx Y=>by rw [Lx] at Y;exact ⟨KQ Y.1,by simpa using Y.2⟩
     have hnd : zc.Nodup:=by rw [hzc,K2];refine ⟨Hz.out.1,LZ _ (LP (Me _ _) Hcn.out.1),λx Y y hy e=>?_⟩;exact (hsub y hy).2 (e ▸ Y)
     have hbd : ∀x ∈ zc,0<=x/\x<(m : Int):=λx Y=>by
      rw [hzc] at Y;rcases List.mem_append.1 Y with Y | Y
      ·exact Hz.out.2 x Y
      ·exact Hcn.out.2 x (hsub x Y).1
     exact ⟨J4 (mJ hnd hbd) hm6,hnd,hbd⟩
    have h5:=IH.out d' hd' V1 τ a1 (ns+1) c1 (s ++ [nth t j]) a2 zc.length c2 zc (by omega) hzl.1 hI.1 hI.2.1 h1 h2 (λ_=>h3) (λh0=>h4 (by intro e;have:=h2.pl h0;rw [e] at this;cases this)) hzl.2.1 hzl.2.2;have hdd : d - 1=d':=by omega
    refine h5.mono ?_;rintro e V2 ⟨τ',g1,g2,g3,g4,g5,g6⟩;rw [hdd];exact ⟨τ',⟨hI.1.trans (g4.below (λx Y=>by
      rcases Y with Y | Y
      ·rw [Y];exact hpb
      ·exact (hI.2.1.om.lt x Y).1) hI.1.size),g1,hI.2.2.1.dQ g4 hI.2.2.2.1,λhn=>g4.not (hI.2.2.1.lt hn) (hI.2.2.2.1 hn),hI.2.2.2.2.1.trans g2,hI.2.2.2.2.2.trans g3⟩,g4,g5,g6⟩
   ·rintro e V2 ⟨τ',g1,g2,g3,g4⟩;rw [<- HF.out] at g3 g4;exact ⟨τ',g1.2.1,(My _ _).trans g1.2.2.2.2.1,(My _ _).trans g1.2.2.2.2.2,I.trans g2,g3,g4⟩
  rw [<- hZ];clear IH HO HSo HGr HRt D N hown6 B hap6 hB7 hM7 hZ I hsZ hzZ HF;go_wp2_with fail;refine HCh.out.mono ?_;rintro e w7 ⟨τ',g1,g2,g3,g4,rfl,g6⟩;go_wp2_with fail;go_ret;exact ⟨τ',g1,g2,g3,g4,rfl,g6⟩
def jE (P M : Int) (mod : LI) (m : Nat) (L : Ll) (w : World) (e : Ending) (w' : World) : Prop :=
 ∃a1 c1 a2 c2,e = .returned (.tuple #[.agg #[.int .i64 P,.int .i64 M,.slice a1 mod.length c1,.int .i64 m,.slice a2 (aQ (ah P M.toNat mod) L m).length c2],.int .i64 0])/\bJ w.heap.size w' a1 mod.length mod /\
  b8 w.heap.size w' a2 (aQ (ah P M.toNat mod) L m).length (aQ (ah P M.toNat mod) L m)/\OC w w'
theorem pR {w : World} {g : Nat} {x y u v : Value} (h0 : w.cell? ⟨g,0,none⟩=some x) (h1 : w.cell? ⟨g,1,none⟩=some y) :
  ((w.setCell ⟨g,0,none⟩ u).setCell ⟨g,1,none⟩ v).cell? ⟨g,0,none⟩=some u/\((w.setCell ⟨g,0,none⟩ u).setCell ⟨g,1,none⟩ v).cell? ⟨g,1,none⟩=some v:=by
 have e1 : (w.setCell ⟨g,0,none⟩ u).cell? ⟨g,0,none⟩=some u:=Kf w _ _ h0;have Z : (w.setCell ⟨g,0,none⟩ u).cell? ⟨g,1,none⟩=some y:=by rw [J7 _ _ _ _ (by simp)];exact h1
 exact ⟨by rw [J7 _ _ _ _ (by simp)];exact e1,Kf _ _ _ Z⟩
theorem qL (P M : Int) (am : OA) (G cm : Nat) (mod : LI) (m : Nat) (a : OA) (n c : Nat) (L : Ll) (w : World) (K : Ints w am G mod) (hi : bu w a n L) (hE : aJ P M mod m L=0) (hmn : G<=1000000) :
  Calls prog 80 #[.agg #[.int .i64 P,.int .i64 M,.slice am G cm,.int .i64 m,.slice a n c]] w (jE P M mod m L w):=by
 go_enter func80,ntmps80;go_wp2_with fail;obtain ⟨W,hW⟩ : ∃W : World,W=(w.alloc (.cells #[.int .i64 P,.int .i64 M,.slice am G cm,.int .i64 m,.slice a n c] 27)).alloc (.cells #[.int .i64 0,.int .i64 0,.slice none 0 0,.int .i64 0,.slice none 0 0] 27):=⟨_,rfl⟩
 rw [<- hW];have A : OC w W:=by rw [hW];exact bT _ _ _
 have hsW : W.heap.size=w.heap.size+2:=by rw [hW];simp
 have x0 : aO W w.heap.size [.int .i64 P,.int .i64 M,.slice am G cm,.int .i64 m,.slice a n c]:=by rw [hW];exact (NY _ _ _ rfl).alloc _
 have z0 : aO W (w.heap.size+1) [.int .i64 0,.int .i64 0,.slice none 0 0,.int .i64 0,.slice none 0 0]:=by rw [hW];exact NY _ _ _ (by simp)
 clear hW;refine (df P M am G cm mod m a n c L W (K.af A) (hi.af A)).mono ?_;rintro e U ⟨rfl,C⟩;have S:=NX A C;have HK : Hid (∀V,OC U V->Calls prog 133 #[.agg #[.int .i64 P,.int .i64 M,.slice am G cm],.agg #[.int .i64 m,.slice a n c]] V (p9 (ah P M.toNat mod) L m V)):=λV hV =>
  Aa P M am G cm mod m a n c L V (K.af (NX S hV)) (hi.af (NX S hV)) hE
 have HO : Hid (∀V a5 k5 N,OC U V->Calls prog 120 #[.agg #[.int .i64 P,.int .i64 M,.slice am G cm],.agg #[.int .i64 m,.slice a5 k5 N],.int .i64 0] V (ot P M mod m a5 k5 N V)):=λV a5 k5 N hV =>
  Ac P M am G cm mod m a5 k5 N V (K.af (NX S hV)) hmn
 have Q : Hid (∀a1 c1 a2 c2 w',bJ w.heap.size w' a1 mod.length mod->b8 w.heap.size w' a2 (aQ (ah P M.toNat mod) L m).length (aQ (ah P M.toNat mod) L m)->OC w w' ->
   jE P M mod m L w (.returned (.tuple #[.agg #[.int .i64 P,.int .i64 M,.slice a1 mod.length c1,.int .i64 m,.slice a2 (aQ (ah P M.toNat mod) L m).length c2],.int .i64 0])) w'):=λa1 c1 a2 c2 w' h1 h2 h3=>⟨a1,c1,a2,c2,rfl,h1,h2,h3⟩
 rw [hE];unfold p9 at HK;obtain ⟨KM,hKM⟩ : ∃KM,aQ (ah P M.toNat mod) L m=KM:=⟨_,rfl⟩
 rw [hKM] at HK Q;have hS : ∀V,OC U V->V.cell? ⟨w.heap.size,0,none⟩=some (.int .i64 P)/\V.cell? ⟨w.heap.size,1,none⟩=some (.int .i64 M)/\V.cell? ⟨w.heap.size,2,none⟩=some (.slice am G cm)/\V.cell? ⟨w.heap.size,3,none⟩=some (.int .i64 m)/\V.cell? ⟨w.heap.size,4,none⟩=some (.slice a n c) /\
   aO V (w.heap.size+1) [.int .i64 0,.int .i64 0,.slice none 0 0,.int .i64 0,.slice none 0 0]:=λV hV=>by have x1:=(x0.af C).af hV;exact ⟨x1.cell 0 rfl,x1.cell 1 rfl,x1.cell 2 rfl,x1.cell 3 rfl,x1.cell 4 rfl,(z0.af C).af hV⟩
 have HS:=Z5 hS;have Hbw1:=Z5 S;have HsW : Hid (w.heap.size+2<=U.heap.size):=by show _<=_;rw [<- hsW];exact C.size
 obtain ⟨c0,c1,c2,c3,c4,_⟩:=HS.out U (JP _ _);obtain ⟨q,hq⟩ : ∃q,KM.length=q:=⟨_,rfl⟩
 rw [hq] at HK Q;clear hE hKM hS x0 z0 A hsW K hi C S hq;go_wp2_with fail;go_cut [5,6] (λv5 v6 wx=>∃g a5 N,v5 = .pointer (some ⟨g,0,none⟩)/\v6 = .int .i64 0/\wx.cell? ⟨g,0,none⟩=some (.int .i64 m)/\wx.cell? ⟨g,1,none⟩=some (.slice a5 q N)/\b8 U.heap.size wx a5 q KM/\OC U wx);case first =>
  obtain ⟨b0,b1,b2,b3,b4,_⟩:=HS.out (U.alloc (.cells #[.int .i64 0,.slice none 0 0] 94)) (an _ _)
  go_region_law ((first
   | (go_simp;go_at_call 91;((with_reducible refine (mL P M am G cm m a n c _).mono ?_);rintro e F ⟨rfl,hb4⟩;have Z : OC U F:=(by first | exact NX (JP _ _).drew hb4 | exact NX (an _ (.cells #[.int .i64 0,.slice none 0 0] 94)).drew hb4 | exact NX (N1 (JP _ _).drew _) hb4);obtain ⟨c0,c1,c2,c3,c4,_⟩:=HS.out F Z;obtain ⟨d0,d1,d2,d3,d4,_⟩:=HS.out (F.alloc (.cells #[.int .i64 0,.slice none 0 0] 94)) (N1 Z _);(first | (have j:=aB hb4 (aF (g:=U.heap.size) U #[.int .i64 0,.slice none 0 0] 94 rfl 0);have r:=aB hb4 (aF (g:=U.heap.size) U #[.int .i64 0,.slice none 0 0] 94 rfl 1);have gf0:=dE hb4 (by simp) (fB (g:=U.heap.size) U #[.int .i64 0,.slice none 0 0] 94 rfl 0);have gf1:=dE hb4 (by simp) (fB (g:=U.heap.size) U #[.int .i64 0,.slice none 0 0] 94 rfl 1)) | skip)))
   | (go_simp;go_at_call 133;((with_reducible refine (HK.out _ (by first | exact Z | exact N1 Z _)).mono ?_);rintro e w5 ⟨a5,N,rfl,I,Y⟩;have E : OC U w5:=(by first | exact NX Z Y | exact NX (N1 Z _) Y);(first | (have D:=aB Y j;have B:=aB Y r;have gh0:=dE Y (J2 _ _ j) gf0;have gh1:=dE Y (J2 _ _ r) gf1) | (have D:=aB Y (aF F #[.int .i64 0,.slice none 0 0] 94 rfl 0);have B:=aB Y (aF F #[.int .i64 0,.slice none 0 0] 94 rfl 1);have gh0:=dE Y (by simp) (fB F #[.int .i64 0,.slice none 0 0] 94 rfl 0);have gh1:=dE Y (by simp) (fB F #[.int .i64 0,.slice none 0 0] 94 rfl 1)) | skip)))))
  all_goals (go_wp2_with fail;go_meet)
  all_goals (first
   | exact ⟨w5.heap.size,a5,N,rfl,rfl,aF _ _ _ rfl 0,aF _ _ _ rfl 1,(I.af (an _ _)).mono (by first | exact Z.size | exact (N1 Z _).size),N1 E _⟩
   | exact ⟨U.heap.size,a5,N,rfl,rfl,(pR D B).1,(pR D B).2,((I.setCell (p:=⟨U.heap.size,0,none⟩) (J2 _ _ j) _).setCell (p:=⟨U.heap.size,1,none⟩) (J2 _ _ r) _).mono Z.size,(E.setCell (p:=⟨U.heap.size,0,none⟩) (JO _) _).setCell (p:=⟨U.heap.size,1,none⟩) (JO _) _⟩
   | exact ⟨F.heap.size,a5,N,rfl,rfl,(pR D B).1,(pR D B).2,((I.setCell (p:=⟨F.heap.size,0,none⟩) (by simp) _).setCell (p:=⟨F.heap.size,1,none⟩) (by simp) _).mono (N1 Z _).size,(E.setCell (p:=⟨F.heap.size,0,none⟩) Z.size _).setCell (p:=⟨F.heap.size,1,none⟩) Z.size _⟩)
 obtain ⟨g,a5,N,rfl,rfl,g0,g1,I,Y⟩:=hcut;generalize wc=V at *;obtain ⟨c0,c1,c2,c3,c4,zz⟩:=HS.out V Y;have HOV:=Z5 (HO.out V a5 q N Y);clear HK HO;go_wp2_with fail;refine HOV.out.mono ?_;rintro e w6 ⟨a6,c6,rfl,hN6,hb6⟩;obtain ⟨_,_,_,_,_,X⟩:=HS.out w6 (NX Y hb6);have z0:=X.cell 0 rfl;have z1:=X.cell 1 rfl;have z2:=X.cell 2 rfl;have z3:=X.cell 3 rfl;have z4:=X.cell 4 rfl;have f0:=X.frozen 0;have f1:=X.frozen 1;have f2:=X.frozen 2;have f3:=X.frozen 3;have f4:=X.frozen 4;have hbF:=NX Hbw1.out (NX Y hb6);have hs:=HsW.out;have hs2:=Y.size;have hM6:=I.af hb6;have z:=Q.out a6 c6 a5 N (((((w6.setCell ⟨w.heap.size+1,0,none⟩ (.int .i64 P)).setCell ⟨w.heap.size+1,1,none⟩ (.int .i64 M)).setCell ⟨w.heap.size+1,2,none⟩ (.slice a6 mod.length c6)).setCell ⟨w.heap.size+1,3,none⟩ (.int .i64 m)).setCell ⟨w.heap.size+1,4,none⟩ (.slice a5 q N))
  ((((((hN6.setCell (p:=⟨w.heap.size+1,0,none⟩) (by simp;omega) _).setCell (p:=⟨w.heap.size+1,1,none⟩) (by simp;omega) _).setCell (p:=⟨w.heap.size+1,2,none⟩) (by simp;omega) _).setCell (p:=⟨w.heap.size+1,3,none⟩) (by simp;omega) _).setCell (p:=⟨w.heap.size+1,4,none⟩) (by simp;omega) _).mono (by omega))
  ((((((hM6.setCell (p:=⟨w.heap.size+1,0,none⟩) (by simp;omega) _).setCell (p:=⟨w.heap.size+1,1,none⟩) (by simp;omega) _).setCell (p:=⟨w.heap.size+1,2,none⟩) (by simp;omega) _).setCell (p:=⟨w.heap.size+1,3,none⟩) (by simp;omega) _).setCell (p:=⟨w.heap.size+1,4,none⟩) (by simp;omega) _).mono (by omega))
  (((((hbF.setCell (p:=⟨w.heap.size+1,0,none⟩) (by simp) _).setCell (p:=⟨w.heap.size+1,1,none⟩) (by simp) _).setCell (p:=⟨w.heap.size+1,2,none⟩) (by simp) _).setCell (p:=⟨w.heap.size+1,3,none⟩) (by simp) _).setCell (p:=⟨w.heap.size+1,4,none⟩) (by simp) _)
 have HFin:=Z5 z;clear z hM6 I hN6 HOV zz X;go_wp2_with fail;exact bodyPost_ret (v:=.tuple #[.agg #[.int .i64 P,.int .i64 M,.slice a6 mod.length c6,.int .i64 m,.slice a5 q N],.int .i64 0]) (by simp [results,results80,go_sem,z0,z1,z2,z3,z4]) rfl HFin.out
section
variable {O : aM} {El : Int->Prop}
def gI (O : aM) : LI->Int->Int
 | [],_=>0
 | c :: a,x=>O.add c (O.mul x (gI O a x))
def quoP (O : aM) (s : Int) : LI->LI
 | []=>[]
 | [_]=>[]
 | _ :: d :: a=>gI O (d :: a) s :: quoP O s (d :: a)
theorem kS (F : bI O El) {x : Int} (Z : El x) : ∀ {a : LI},(∀c ∈ a,El c)->El (gI O a x)
 | [],_=>F.zero
 | c :: a,h=>F.cl.add _ _ (h c (by simp)) (F.cl.mul _ _ Z (kS F Z λy Y=>h y (Ku _ Y)))
theorem xd (O : aM) (s : Int) : ∀a : LI,(quoP O s a).length=a.length - 1
 | []=>rfl
 | [_]=>rfl
 | _ :: d :: a=>by rw [quoP,Kr,xd O s (d :: a)];simp
theorem pW (F : bI O El) {s : Int} (X : El s) : ∀ {a : LI},(∀c ∈ a,El c)->∀c ∈ quoP O s a,El c
 | [],_,c,Z=>by simp [quoP] at Z
 | [_],_,c,Z=>by simp [quoP] at Z
 | b :: d :: a,h,c,Z=>by
  rw [quoP] at Z;rcases List.mem_cons.1 Z with rfl | Z
  ·exact kS F X λy Y=>h y (Ku _ Y)
  ·exact pW F X (λy Y=>h y (Ku _ Y)) c Z
theorem Bl (F : bI O El) {c x : Int} (Z : El c) (Y : El x) : gI O [c] x=c:=by show O.add c (O.mul x 0)=c;rw [F.cQ Y,F.add_zero _ Z]
theorem A5 (F : bI O El) {s x : Int} (S : El s) (V : El x) : ∀ {a : LI},(∀c ∈ a,El c)->gI O a x=O.add (O.mul (O.add x (O.neg s)) (gI O (quoP O s a) x)) (gI O a s)
 | [],_=>by show (0 : Int)=O.add (O.mul _ 0) 0;rw [F.cQ (F.cl.add _ _ V (F.cl.neg _ S)),F.add_zero _ F.zero]
 | [c],h=>by have N:=h c (by simp);rw [Bl F N V,Bl F N S];show c=O.add (O.mul _ 0) c;rw [F.cQ (F.cl.add _ _ V (F.cl.neg _ S)),F.sl N]
 | c :: d :: a,h=>by
  have N:=h c (by simp);have ha : ∀y ∈ d :: a,El y:=λy r=>h y (Ku _ r);have ih:=A5 F S V ha;have Y:=kS F S ha;have e:=kS F V ha;have I:=kS F V (pW F S ha);have Z:=F.cl.add _ _ V (F.cl.neg _ S);have e1 : gI O (c :: d :: a) x=O.add c (O.mul x (gI O (d :: a) x)):=rfl;have j : gI O (c :: d :: a) s=O.add c (O.mul s (gI O (d :: a) s)):=rfl;have e3 : gI O (quoP O s (c :: d :: a)) x=O.add (gI O (d :: a) s) (O.mul x (gI O (quoP O s (d :: a)) x)):=rfl;rw [e1,j,e3];generalize gI O (d :: a) s=A at *;generalize gI O (d :: a) x=B at *;generalize gI O (quoP O s (d :: a)) x=Q at *;generalize hD : O.add x (O.neg s)=D at *;have G : x=O.add D s:=by rw [<- hD,F.add_assoc _ _ _ V (F.cl.neg _ S) S,F.j6 S,F.add_zero _ V]
  have U:=F.cl.mul _ _ Z Y;have L:=F.cl.mul _ _ S Y;have K:=F.cl.mul _ _ V I;have X:=F.cl.mul _ _ Z K;have C:=F.cl.mul _ _ V Y;have E:=F.cl.mul _ _ Z I;have f1 : O.mul x B=O.add (O.mul D (O.mul x Q)) (O.mul x A):=by rw [ih,F.mul_add _ _ _ V E Y,<- F.mul_assoc _ _ _ V Z I,F.mul_comm _ _ V Z,F.mul_assoc _ _ _ Z V I]
  have f2 : O.mul x A=O.add (O.mul D A) (O.mul s A):=by rw [F.mul_comm _ _ V Y,F.mul_comm _ _ Z Y,F.mul_comm _ _ S Y,<- F.mul_add _ _ _ Y Z S,<- G]
  rw [f1,f2,F.mul_add _ _ _ Z Y K];generalize O.mul D A=u at *;generalize O.mul s A=v at *;generalize O.mul D (O.mul x Q)=z at *;rw [F.add_comm _ _ U X,F.add_assoc _ _ _ X U (F.cl.add _ _ N L),<- F.add_assoc _ _ _ N X (F.cl.add _ _ U L),F.add_comm _ _ N X,F.add_assoc _ _ _ X N (F.cl.add _ _ U L),<- F.add_assoc _ _ _ N U L,F.add_comm _ _ N U,F.add_assoc _ _ _ U N L]
theorem jM (F : bI O El) {s : Int} (Z : El s) : ∀ {l : LI},(∀y ∈ l,y=0)->gI O l s=0
 | [],_=>rfl
 | y :: l,h=>by show O.add y (O.mul s (gI O l s))=0;rw [jM F Z λz Y=>h z (Ku _ Y),h y (by simp),F.cQ Z,F.add_zero _ F.zero]
theorem tw (F : bI O El) {s : Int} (Y : El s) : ∀ {c : Int} {a : LI},(∀y ∈ a,El y)->(∀y ∈ quoP O s (c :: a),y=0)->∀y ∈ a,y=0
 | c,[],_,_=>by simp
 | c,d :: a,h,X=>by
  rw [quoP] at X;have hd:=h d (by simp);have ha : ∀y ∈ a,El y:=λy Z=>h y (Ku _ Z);have h1:=tw F Y ha λy Z=>X y (Ku _ Z);have h2 : gI O (d :: a) s=0:=X _ (by simp);have h3 : d=0:=by have e : gI O (d :: a) s=O.add d (O.mul s (gI O a s)):=rfl;rw [e,jM F Y h1,F.cQ Y,F.add_zero _ hd] at h2;exact h2
  intro y Z;rcases List.mem_cons.1 Z with rfl | Z
  ·exact h3
  ·exact h1 y Z
theorem jY (F : bI O El) : ∀ {X a : LI},X.Nodup->(∀x ∈ X,El x)->(∀c ∈ a,El c)->(∀x ∈ X,gI O a x=0)->a.length<=X.length->∀c ∈ a,c=0
 | [],a,_,_,_,_,Q=>by have e : a=[]:=Kd (by simpa using Q);subst e;simp
 | s :: X,[],_,_,_,_,_=>by simp
 | s :: X,c :: a,K,G,ha,h0,Q=>by
  have Y:=G s (by simp);have V : ∀x ∈ X,El x:=λx S=>G x (Ku _ S);have h1:=jY F (X:=X) (a:=quoP O s (c :: a)) (List.nodup_cons.1 K).2 V (pW F Y ha) (λx S=>by
   have Z:=V x S;have h2:=A5 F Y Z ha;rw [h0 x (Ku _ S),h0 s (by simp)] at h2;have I:=F.cl.add _ _ Z (F.cl.neg _ Y);have L:=kS F Z (pW F Y ha);rw [F.add_zero _ (F.cl.mul _ _ I L)] at h2;refine F.u9 I L (λe=>(List.nodup_cons.1 K).1 ?_) h2.symm;have h3 : x=s:=by
    have D:=F.js Z (F.cl.neg _ Y) e;have N : O.neg (O.neg s)=O.neg (O.neg x):=by rw [D]
    rw [F.neg_neg Y,F.neg_neg Z] at N;exact N.symm
   rw [<- h3];exact S) (by rw [xd];simp only [Kr] at Q ⊢;omega)
  have h2:=tw F Y (λy U=>ha y (Ku _ U)) h1;intro y U;rcases List.mem_cons.1 U with rfl | U
  ·have h3:=h0 s (by simp);have e : gI O (y :: a) s=O.add y (O.mul s (gI O a s)):=rfl;have E : gI O a s=0:=jM F Y h2;rw [e,E,F.cQ Y,F.add_zero _ (ha y (by simp))] at h3;exact h3
  ·exact h2 y U
end
theorem zh (N : Int) (a : OA) (n c : Nat) (l : LI) (w : World) (hi : Ints w a n l) :
  Calls prog 38 #[.slice a n c,.int .i64 N] w (iG w (fF N l)):=by
 have V:=Z5 hi.len;have D:=hi.pl;have L:=hi.max;unfold maxLen at L;go_enter func38,ntmps38;go_wp2_with fail;go_loopw [5] (λF wr=>∃k : Nat,k<=n/\F = .int .i64 k/\Hid (rR N l k=true)/\bm w wr) (λF _=>n - (intOf F).toNat);case atStart=>exact ⟨0,JU _,rfl,by show _=_;simp [rR],N4 _⟩
 case round =>
  obtain ⟨j,A,rfl,Q,hd⟩:=hrel
  have I:=hi.drawn hd
  by_cases U : j<n
  ·have B:=I.cell j U
   have C : (j : Int)<n:=by omega
   have S : jH N l j=false->fF N l=false:=λhb=>A9 (by rw [V.out];exact U) hb
   have X:=Z5 S
   clear S
   by_cases h0 : 0<=nth l j
   ·have d1 : decide (nth l j<0)=false:=by simp;omega
    by_cases h1 : nth l j<N
    ·have d2 : decide (N<=nth l j)=false:=by simp;omega
     by_cases Y : j=0
     ·have Z : Hid (jH N l j=true):=by show _=_;unfold jH;rw [Kc h0,Kc h1];simp [Y]
      have d3 : decide (0<j)=false:=by simp;omega
      clear Y
      go_wp2_with fail
      go_quiet (fail)
      go_wp2
      go_roundw
      case rel=>exact ⟨j+1,by omega,by go_num,lF Q.out Z.out,hd.drewN _⟩
      case measure=>simp [intOf] <;> omega
     ·have cp:=I.cell (j - 1) (by omega)
      have e1 : ((j : Int) - 1).toNat=j - 1:=by omega
      have d3 : decide (0<j)=true:=by simp;omega
      have d4 : (0 : Int)<=(j : Int) - 1:=by omega
      have d5 : (1 : Int)<=(j : Int):=by omega
      have d6 : (j : Int) - 1<n:=by omega
      have kw : IntKind.i64.wrap ((j : Int) - 1)=(j : Int) - 1:=J3 _ (by omega)
      by_cases h2 : nth l (j - 1)<nth l j
      ·have Z : Hid (jH N l j=true):=by show _=_;unfold jH;simp [h0,h1,h2]
       have G : decide (nth l j<=nth l (j - 1))=false:=by simp;omega
       clear Y
       go_wp2_with fail
       go_quiet (fail)
       go_wp2
       go_roundw
       case rel=>exact ⟨j+1,by omega,by go_num,lF Q.out Z.out,hd.drewN _⟩
       case measure=>simp [intOf] <;> omega
      ·have K : Hid (fF N l=false):=X.out (by unfold jH;simp [h2,Y])
       have G : decide (nth l j<=nth l (j - 1))=true:=by simp;omega
       clear Y
       go_wp2_with fail
       go_quiet (fail)
       go_wp2
       go_ret
       exact ⟨by rw [K.out];rfl,hd.drewN _⟩
    ·have K : Hid (fF N l=false):=X.out (by unfold jH;simp [h1])
     have d2 : decide (N<=nth l j)=true:=by simp;omega
     go_wp2_with fail
     go_quiet (fail)
     go_wp2
     go_ret
     exact ⟨by rw [K.out];rfl,hd.drewN _⟩
   ·have K : Hid (fF N l=false):=X.out (by unfold jH;simp [h0])
    have d1 : decide (nth l j<0)=true:=by simp;omega
    go_wp2_with fail
    go_quiet (fail)
    go_wp2
    go_ret
    exact ⟨by rw [K.out];rfl,hd.drewN _⟩
  ·obtain rfl : j=n:=by omega
   have E : Hid (fF N l=true):=by show _=_;rw [fF,V.out];exact Q.out
   go_wp2_with fail
   go_ret
   exact ⟨by rw [E.out];rfl,hd⟩
theorem rG (P M : Int) (am : OA) (Y cm : Nat) (mod : LI) (N : Int) (a : OA) (n c : Nat) (L : Ll) (w : World) (Z : Ints w am Y mod) (hi : bu w a n L) :
  Calls prog 35 #[.agg #[.int .i64 P,.int .i64 M,.slice am Y cm,.int .i64 N,.slice a n c]] w λe w'=>e = .returned (.int .i64 (aJ P M mod N L))/\OC w w':=by rw [<- CP];exact rL P M am Y cm mod N a n c L w Z hi kT
def iK (w : World) (e : Ending) (w' : World) : Prop:=∃z,e = .returned (.bool z)/\OC w w'
theorem ox (a : OA) (n c K : Nat) (L : Ll) (w : World) (hi : bu w a n L) (r : K<=100000) :
  Calls prog 83 #[.agg #[.int .i64 0,.slice a n c],.int .i64 K] w (iK w):=by
 have D:=Z5 hi.len;have B:=hi.pl;have V:=hi.max;unfold maxLen at V;go_enter func83,ntmps83;go_upto_region 1 with fail;obtain ⟨W,U⟩ : ∃W : World,W=w.alloc (.cells #[.int .i64 0,.slice a n c] 94):=⟨_,rfl⟩
 rw [<- U];have Y : OC w W:=by rw [U];exact an _ _
 have F : aO W w.heap.size [.int .i64 0,.slice a n c]:=by rw [U];exact NY _ _ _ rfl
 have c0:=F.cell 0 rfl;have c1:=F.cell 1 rfl;have E:=hi.af Y;have X:=Z5 Y;clear U F hi Y;by_cases h1 : K<n
 ·have d1 : decide (K<n)=true:=by simpa using h1
  have S : decide ((K : Int)<n)=true:=by simp;omega
  go_wp2_with fail;go_ret;exact ⟨_,rfl,X.out⟩
 ·have d1 : decide (K<n)=false:=by simpa using h1
  have S : decide ((K : Int)<n)=false:=by simp;omega
  go_wp2_with fail;go_loopw [5,6] (λA G wr=>∃k m : Nat,k<=n/\m<=K/\A = .int .i64 m/\G = .int .i64 k/\wr=W) (λ_ G _=>n - (intOf G).toNat);case atStart=>exact ⟨0,K - n,JU _,by omega,by go_num,rfl,rfl⟩
  case round =>
   obtain ⟨k,m,z,hm,rfl,rfl,rfl⟩:=hrel
   by_cases N : k<n
   ·obtain ⟨j,Z,rc,I,C⟩:=E.cell k N
    by_cases h2 : m<Z
    ·have d2 : decide (m<Z)=true:=by simpa using h2
     have Q : decide ((m : Int)<Z)=true:=by simp;omega
     go_wp2_with fail
     go_ret
     exact ⟨_,rfl,X.out⟩
    ·have d2 : decide (m<Z)=false:=by simpa using h2
     have Q : decide ((m : Int)<Z)=false:=by simp;omega
     have d3 : (Z : Int)<=m:=by omega
     go_wp2_with fail
     go_roundw
     case rel=>exact ⟨k+1,m - Z,by omega,by omega,by go_num,by go_num,by first | rfl | trivial⟩
     case measure=>simp [intOf] <;> omega
   ·obtain rfl : k=n:=by omega
    go_wp2_with fail
    go_ret
    exact ⟨_,rfl,X.out⟩
theorem yS (P M : Int) (am : OA) (X cm : Nat) (N : Int) (a : OA) (n c K : Nat) (L : Ll) (w : World) (hi : bu w a n L) (U : K<=100000) :
  Calls prog 32 #[.agg #[.int .i64 P,.int .i64 M,.slice am X cm,.int .i64 N,.slice a n c],.int .i64 K] w (iK w):=by have H:=Z5 (λV S=>ox a n c K L V (hi.af S) U : ∀V,OC w V->_);clear hi;go_enter func32,ntmps32;go_wp2_with fail;have Z:=an w (.cells #[.int .i64 P,.int .i64 M,.slice am X cm,.int .i64 N,.slice a n c] 27);refine (H.out _ Z).mono ?_;rintro e Q ⟨z,rfl,Y⟩;have hF:=NX Z Y;go_wp2_with fail;go_ret;exact ⟨z,rfl,hF⟩
section
open Go.RowKit
end
section
open Go.ChangeShapes Go.WideShapes Go.ChangeAt Go.RowKit
theorem Tryz.own : ownKnob prog.godebug=none:=by kernel_rfl
theorem Tryz.laid : laidOutB prog=true:=by kernel_rfl
section
variable {H : Type} {enc : TypeId × Value->H} {W : World} {held : Bool} {fuel : Nat} {cs : List Value} {x : DataW H × List MemPlace}
theorem mM {a : Addr} {v : Value} {i : Nat} (h : W.cell? (a.add i)=some v) : W.cell? ⟨a.block,a.off+i,none⟩=some v:=by
 have Z:=NJ h;obtain ⟨b,o,s⟩:=a;by_cases h0 : i=0
 ·subst h0;simp only [Addr.add,if_true] at Z h;subst Z;exact h
 ·simpa [Addr.add,h0] using h
theorem nM {a : Addr} {v : Value} (h : W.cell? (a.add 0)=some v) : a=⟨a.block,a.off,none⟩:=by have Z:=NJ h;obtain ⟨b,o,s⟩:=a;simp only [Addr.add,if_true] at Z;subst Z;rfl
theorem lX (l : LI) (n i : Nat) (h : i<n) : nth (l.take n) i=l.getD i 0:=by unfold nth;simp only [JS,K0];rw [JT h]
theorem xZ (h : DataW.trod enc prog W 0 (λ_=>true) held fuel 22 cs=some x) : ∃a n c l,cs=[.slice a n c]/\Ints W a n l:=by
 rcases open_ints underlying22 underlying3 (by kernel_rfl) h with ⟨Y,_⟩ | ⟨a,len,cap,V,Y,_,U,hm,X,_,Z,_⟩
 ·exact ⟨none,0,0,[],Y,N5 _ _⟩
 ·simp only [if_true] at X;refine ⟨some a,len,cap,V.take len,Y,⟨by simp;omega,λh0=>?_,by omega,λi hi=>?_⟩⟩
  ·exact congrArg some (nM (Z 0 (by omega)))
  ·rw [lX _ _ _ hi];exact mM (Z i (by omega))
theorem l0 (h : DataW.trod enc prog W 0 (λ_=>true) held fuel 25 cs=some x) : ∃a n c L,cs=[.slice a n c]/\bu W a n L:=by
 rcases Go.Deep.open_int_rows underlying25 underlying22 underlying3 (by kernel_rfl) (by kernel_rfl) h with ⟨X,_⟩ | ⟨a,len,cap,A,V,C,Z,X,_,K,hm,_,Y⟩
 ·exact ⟨none,0,0,[],X,⟨rfl,λh0=>by omega,by unfold maxLen;omega,λi hi=>by omega⟩⟩
 ·refine ⟨some a,len,cap,(List.range len).map (λr=>(Z r).take (V r)),X,⟨by simp,λh0=>congrArg some (nM (Y 0 (by omega)).1),by omega,λr N=>?_⟩⟩;obtain ⟨h1,h2,h3,G,_,U,S⟩:=Y r (by omega);refine ⟨A r,V r,C r,mM h1,?_⟩;have e : ai ((List.range len).map (λr=>(Z r).take (V r))) r=(Z r).take (V r):=by unfold ai;simp [JS,Ly,List.getElem?_range N]
  rw [e];match I : A r,U,S with
  | none,U,_ =>
   have h0 : V r=0:=by have:=U rfl;omega
   rw [h0]
   exact N5 _ _
  | some b,_,S =>
   obtain ⟨_,Q⟩:=S b rfl
   exact ⟨by simp;omega,λh0=>congrArg some (nM (Q 0 (by omega))),by omega,λi hi=>by rw [lX _ _ _ hi];exact mM (Q i (by omega))⟩
end
section
variable {H : Type} {enc : TypeId × Value->H} {W : World} {held : Bool} {b0 : Nat} {v : Value} {d : DataW H} {p : List MemPlace}
theorem E2 (hv : Value.okWide prog W .any b0 27 v) (h : DataW.Trod enc prog W 0 (λ_=>true) held 27 v d p) :
  ∃(P M : Int) (am : OA) (G cm : Nat) (mod : LI) (N : Int) (a : OA) (n c : Nat) (L : Ll),v = .agg #[.int .i64 P,.int .i64 M,.slice am G cm,.int .i64 N,.slice a n c]/\Ints W am G mod/\bu W a n L:=by
 obtain ⟨cs,rfl,S⟩:=okWide_struct underlying27 hv;rw [show prog.cellsOf 27 = 5 by kernel_rfl] at S;obtain ⟨l⟩:=cs;match l,S with
 | [v0,v1,v2,v3,v4],_ =>
 obtain ⟨fuel,hf⟩:=h;obtain ⟨xs,B,_,_,_,hlen,X⟩:=Mg underlying27 hf;obtain ⟨K,V,I,rfl⟩ : ∃K V I,xs=[K,V,I]:=by
  match xs,hlen with
  | [K,V,I],_=>exact ⟨K,V,I,rfl⟩
 have A : prog.cellsOf 24 = 3:=by kernel_rfl
 have F : prog.cellsOf 3 = 1:=by kernel_rfl
 have C : prog.cellsOf 22 = 1:=by kernel_rfl
 have D : prog.cellsOf 25 = 1:=by kernel_rfl
 have g0 : DataW.trod enc prog W 0 (λ_=>true) held B 24 [v0,v1,v2]=some K:=by simpa [Value.cells,A] using X 0 _ rfl
 have g1 : DataW.trod enc prog W 0 (λ_=>true) held B 3 [v3]=some V:=by simpa [Value.cells,F] using X 1 _ rfl
 have g2 : DataW.trod enc prog W 0 (λ_=>true) held B 25 [v4]=some I:=by simpa [Value.cells,D] using X 2 _ rfl
 obtain ⟨U,E,_,_,_,Y,Z⟩:=Mg underlying24 g0;obtain ⟨z0,Q,z2,rfl⟩ : ∃z0 Q z2,U=[z0,Q,z2]:=by
  match U,Y with
  | [z0,Q,z2],_=>exact ⟨z0,Q,z2,rfl⟩
 have q0 : DataW.trod enc prog W 0 (λ_=>true) held E 3 [v0]=some z0:=by simpa [F] using Z 0 _ rfl
 have q1 : DataW.trod enc prog W 0 (λ_=>true) held E 3 [v1]=some Q:=by simpa [F] using Z 1 _ rfl
 have q2 : DataW.trod enc prog W 0 (λ_=>true) held E 22 [v2]=some z2:=by simpa [C] using Z 2 _ rfl
 obtain ⟨P,eP,_,_⟩:=Ni underlying3 q0;obtain ⟨M,r,_,_⟩:=Ni underlying3 q1;obtain ⟨N,e,_,_⟩:=Ni underlying3 g1;obtain ⟨am,G,cm,mod,z,hI⟩:=xZ q2;obtain ⟨a,n,c,L,j,hL⟩:=l0 g2;simp at eP r e z j;subst eP r e z j;exact ⟨P,M,am,G,cm,mod,N,a,n,c,L,rfl,hI,hL⟩
end
end
section
open Go.ChangeShapes Go.WideShapes Go.ChangeAt Go.RowKit
section
variable {H : Type} {enc : TypeId × Value->H} {W : World} {held : Bool} {fuel : Nat} {cs : List Value} {x : DataW H × List MemPlace}
theorem xQ (h : DataW.trod enc prog W 0 (λ_=>true) held fuel 25 cs=some x) : ∃a n c L,cs=[.slice a n c]/\bu W a n L/\n<=c:=by
 obtain ⟨a,n,c,L,e,Y⟩:=l0 h;refine ⟨a,n,c,L,e,Y,?_⟩;rcases Go.Deep.open_int_rows underlying25 underlying22 underlying3 (by kernel_rfl) (by kernel_rfl) h with ⟨Z,_⟩ | ⟨a',len,cap,_,_,_,_,Z,_,X,_⟩
 ·rw [Z] at e;simp at e;omega
 ·rw [Z] at e;simp at e;omega
end
section
variable {H : Type} {enc : TypeId × Value->H} {W : World} {held : Bool} {b0 : Nat} {v : Value} {d : DataW H} {p : List MemPlace}
end
end
end Go.Proofs.YthglbncgemdcbaaGreat
