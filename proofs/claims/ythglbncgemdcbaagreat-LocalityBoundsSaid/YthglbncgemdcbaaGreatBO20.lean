import Derived.Test.YthglbncgemdcbaaGreatBO19
import Derived.Test.YthglbncgemdcbaaGreatBO16
import Derived.ArgAppend
import Derived.RangeFuncNested
import Derived.Test.YthglbncgemdcbaaGreatBO18
namespace Go.Proofs.YthglbncgemdcbaaGreat
set_option linter.all false
set_option maxRecDepth 100000
set_option maxHeartbeats 8000000
open Go.RowKit Go.Proofs.Tryz
theorem Jy (O:aL) (L:ZZ) (m:Nat) (C:kW) (d:Nat) (s z:Lz) (T:ZZ) (hd:s.length+d=C.W) (Y:eB O L m C s (e8 O L m C s z)=true) (Z:T.length ≠ 65536) :
  jX O L m C d s z T=gT (jX O L m C (d - 1)) s z (if s.length<C.W then (e8 O L m C s z).filter (λx=>decide (¬ x ∈ z)) else []) (T ++ [e8 O L m C s z]):=by
 match d with
 | 0 =>
  have h1:(if s.length<C.W then (e8 O L m C s z).filter (λx=>decide (¬ x ∈ z)) else [])=[]:=M8 (by omega)
  rw [h1,jX,M7 Y,M8 Z]
  rfl
 | d+1 =>
  have h1:(if s.length<C.W then (e8 O L m C s z).filter (λx=>decide (¬ x ∈ z)) else [])=AZ C s z (e8 O L m C s z):=rfl
  rw [h1,jX,M7 Y,M8 Z]
  rfl
theorem EF (O:aL) (L:ZZ) (m:Nat) (C:kW) (d:Nat) (s z:Lz) (T:ZZ) (Z:eB O L m C s (e8 O L m C s z)=false):jX O L m C d s z T=(11,[]):=by
 match d with
 | 0=>rw [jX];exact M8 (by rw [Z];simp)
 | d+1=>rw [jX];exact M8 (by rw [Z];simp)
theorem IG (O:aL) (L:ZZ) (m:Nat) (C:kW) (d:Nat) (s z:Lz) (T:ZZ) (Y:eB O L m C s (e8 O L m C s z)=true) (Z:T.length=65536):jX O L m C d s z T=(8,[]):=by
 match d with
 | 0=>rw [jX,M7 Y,M7 Z]
 | d+1=>rw [jX,M7 Y,M7 Z]
theorem Il {R Z:Z4} (h:R <+: Z) {i:Nat} (hi:i<R.length):aM Z i=aM R i:=by obtain ⟨X,rfl⟩:=h;rw [fK (show i<(R ++ X).length by simp;omega),fK hi,Qy]
theorem IK {R Z:ZZ} (h:R <+: Z) {i:Nat} (hi:i<R.length):aj Z i=aj R i:=by obtain ⟨X,rfl⟩:=h;rw [aH (show i<(R ++ X).length by simp;omega),aH hi,Qy]
theorem Fb (R:Z4) (r:OA × Nat):aM (R ++ [r]) R.length=r:=by rw [fK (by simp)];simp
theorem F9 (R:ZZ) (r:Lz):aj (R ++ [r]) R.length=r:=by rw [aH (by simp)];simp
structure Aw where
 ar:OA
 cr:Nat
 R:Z4
 T:ZZ
def Aw.J (Z:Nat) (σ:Aw) (x:Nat):Prop:=x=Z\/bN σ.ar σ.R x
structure kM (w:ej) (B pb b:Nat) (P M:Int) (am:OA) (mn cm:Nat) (m:Nat) (a:OA) (n c:Nat) (ay:OA) (ny cy:Nat) (C:kW) (σ:Aw):Prop where
 box:aQ w pb (mT b P M am mn cm m a n c ay ny cy C (.slice σ.ar σ.T.length σ.cr) 0)
 om:aS w B σ.ar σ.T.length σ.cr σ.R σ.T
 np:¬ bN σ.ar σ.R pb
 ln:σ.T.length<=65536
theorem kM.lt {w:ej} {B Y b:Nat} {P M:Int} {am:OA} {V U m:Nat} {a:OA} {n c:Nat} {X:OA} {S cy:Nat} {C:kW} {σ:Aw} (h:kM w B Y b P M am V U m a n c X S cy C σ) {x:Nat} (Z:σ.J Y x):x<w.heap.size:=by
 rcases Z with rfl | Z
 ·exact h.box.1
 ·exact (h.om.lt x Z).2
theorem kM.cQ {w w':ej} {I:Nat->Prop} {B Z b:Nat} {P M:Int} {am:OA} {V U m:Nat} {a:OA} {n c:Nat} {Y:OA} {S cy:Nat} {C:kW} {σ:Aw} (h:kM w B Z b P M am V U m a n c Y S cy C σ)
  (X:aB w w' I I) (hI:∀x,σ.J Z x->¬ I x):kM w' B Z b P M am V U m a n c Y S cy C σ :=
 ⟨h.box.cQ X (hI _ (.inl rfl)),h.om.bf λx Q=>X.block x (h.om.lt x Q).2 (hI x (.inr Q)),h.np,h.ln⟩
theorem kM.ai {w w':ej} {B Y b:Nat} {P M:Int} {am:OA} {X V m:Nat} {a:OA} {n c:Nat} {Z:OA} {U cy:Nat} {C:kW} {σ:Aw} (h:kM w B Y b P M am X V m a n c Z U cy C σ)
  (S:SJ w w'):kM w' B Y b P M am X V m a n c Z U cy C σ:=h.cQ (I:=λ_=>False) (RZ S _) λ_ _ h=>h
def yA (N:ej) (Y b:Nat) (P M:Int) (am:OA) (U S:Nat) (m:Nat) (a:OA) (n c:Nat) (X:OA) (Q cy:Nat) (C:kW) (σ:Aw) (V:Int × ZZ) (w:ej) (e:Ending) (w':ej):Prop :=
 ∃Z:Aw,kM w' N.heap.size Y b P M am U S m a n c X Q cy C Z/\σ.R <+: Z.R/\σ.T <+: Z.T/\aB w w' (σ.J Y) (Z.J Y)/\e = .returned (cG V.1)/\(V.1=0->Z.T=V.2)
theorem kM.push {V U:ej} {B Z b:Nat} {P M:Int} {am:OA} {j cm m:Nat} {a:OA} {n c:Nat} {r:OA} {ny cy:Nat} {C:kW} {σ:Aw} (h:kM V B Z b P M am j cm m a n c r ny cy C σ) (hB:B<=V.heap.size)
  {a3:OA} {D:Nat} {t:Lz} (hr:V.ownsRow B 3 1 (.slice a3 t.length D) t.length (t.map (Value.int .i64))) (F:a3 ≠ none->¬ σ.J Z (ablk a3)) (hT:σ.T.length<65536) {o:Obj}
  {a5:OA} {S:Nat} (z:U.ownsRow B 22 1 (.slice a5 (σ.T.length+1) S) (σ.T.length+1) (List.zipWith jD σ.R σ.T ++ [.slice a3 t.length D])) (hg:(V.alloc o).grownBy U (Value.slice σ.ar σ.T.length σ.cr).ownBlock)
  (G:∀b,b<(V.alloc o).heap.size->dq σ.ar b->dq a5 b) :
  kM (U.setCell ⟨Z,10,none⟩ (.slice a5 (σ.T.length+1) S)) B Z b P M am j cm m a n c r ny cy C ⟨a5,S,σ.R ++ [(a3,D)],σ.T ++ [t]⟩ /\
   aB V (U.setCell ⟨Z,10,none⟩ (.slice a5 (σ.T.length+1) S)) (λx=>σ.J Z x\/(a3 ≠ none/\x=ablk a3)) ((⟨a5,S,σ.R ++ [(a3,D)],σ.T ++ [t]⟩:Aw).J Z):=by
 have Y:=aD V o;have H:aS (V.alloc o) B σ.ar σ.T.length σ.cr σ.R σ.T:=h.om.ai Y;have E:a3 ≠ none->¬ bN σ.ar σ.R (ablk a3):=λh0 hh=>F h0 (.inr hh);have hO5:=Ss H (bj hr Y) E z hg G;have hnp:σ.ar=none\/ablk σ.ar ≠ Z:=by
  by_cases e:σ.ar=none
  ·exact .inl e
  ·exact .inr λe2=>h.np (.inl ⟨e,e2.symm⟩)
 have I:aQ U Z (mT b P M am j cm m a n c r ny cy C (.slice σ.ar σ.T.length σ.cr) 0):=(h.box.ai Y).cQ (Se (K:=λx=>σ.ar ≠ none/\x=ablk σ.ar) hg λh0=>⟨h0,rfl⟩) λ⟨h0,e⟩=>by
  rcases hnp with h1 | h1
  ·exact h0 h1
  ·exact h1 e.symm
 have hne:¬ bN a5 (σ.R ++ [(a3,D)]) Z:=λhh=>by
  rcases bN.push H G hh with h1 | ⟨h1,h2⟩ | h1
  ·exact h.np h1
  ·exact F h1 (.inl h2.symm)
  ·have h2:=h.box.1;have h3:=Y.size;omega
 refine ⟨⟨?_,?_,hne,by simp;omega⟩,?_⟩
 ·have h1:=I.setCell 10 (.slice a5 (σ.T.length+1) S);show aQ _ Z (mT b P M am j cm m a n c r ny cy C (.slice a5 (σ.T ++ [t]).length S) 0);rw [Ni,ND];exact h1
 ·show aS _ B a5 (σ.T ++ [t]).length S _ _;rw [Ni,ND];exact hO5.bf λx N=>Nt _ _ _ _ λe=>hne (by have e':x=Z:=e;rw [<- e'];exact N)
 ·have hM0:aB V (V.alloc o) (λx=>σ.J Z x\/(a3 ≠ none/\x=ablk a3)) (λx=>σ.J Z x\/(a3 ≠ none/\x=ablk a3)):=RZ Y _;have hM1:aB (V.alloc o) U (λx=>σ.J Z x\/(a3 ≠ none/\x=ablk a3)) (λx=>σ.J Z x\/(a3 ≠ none/\x=ablk a3)):=Se hg λh0=>.inl (.inr (.inl ⟨h0,rfl⟩));have X:=hM0.trans hM1;have Q:Below 0 U (U.setCell ⟨Z,10,none⟩ (.slice a5 (σ.T.length+1) S)):=(M5 0 U).setCell (Nb _) _;refine ⟨Q.os.trans X.os,Q.tape.trans X.tape,Q.output.trans X.output,Np X.size Q.size,λx N hI=>?_,λx N=>?_⟩
  ·exact (Nt _ _ _ _ λe=>hI (.inl (.inl e))).trans (X.block x N hI)
  ·rcases N with N | N
   ·exact .inl (.inl (.inl N))
   ·rcases bN.push H G N with h1 | h1 | h1
    ·exact .inl (.inl (.inr h1))
    ·exact .inl (.inr h1)
    ·exact .inr (Np Y.size h1)
theorem kM.AL {V S:ej} {B Y b:Nat} {P M:Int} {am:OA} {X U m:Nat} {a:OA} {n c:Nat} {Z:OA} {Q cy:Nat} {C:kW} {σ:Aw} (h:kM V B Y b P M am X U m a n c Z Q cy C σ)
  {o:Obj} (N:(V.alloc o).grownBy S (Value.slice σ.ar σ.T.length σ.cr).ownBlock):aQ S Y (mT b P M am X U m a n c Z Q cy C (.slice σ.ar σ.T.length σ.cr) 0) :=
 (h.box.ai (aD V o)).cQ (Se (K:=λx=>σ.ar ≠ none/\x=ablk σ.ar) N λh0=>⟨h0,rfl⟩) λ⟨h0,e⟩=>h.np (.inl ⟨h0,e⟩)
theorem aB.K2 {w V Z:ej} {I I' A:Nat->Prop} (h:SJ w V) (g:aB V Z (λx=>I x\/A x) I') (U:∀x,A x->w.heap.size<=x):aB w Z I I' :=
 ⟨g.os.trans h.os,g.tape.trans h.tape,g.output.trans h.output,Np h.size g.size,λx X hI=>(g.block x (Nz X h.size) λY=>by
  rcases Y with Y | Y
  ·exact hI Y
  ·have:=U x Y;omega).trans (h.block x X),λx X=>by
  rcases g.grow x X with Y | Y
  ·rcases Y with Y | Y
   ·exact .inl Y
   ·exact .inr (U x Y)
  ·exact .inr (Np h.size Y)⟩
theorem qw {r:ej} {b:Nat} {G:bX} {a:OA} {n:Nat} {L:ZZ} {m:Nat} {ay:OA} {ny:Nat} {C:kW} (U:Nat) (P M:Int) (am:OA) (mn cm c cy:Nat)
  (E:Ce r b G a n L m ay ny C) (hpb:r.heap.size<=U) :
  ∀(d:Nat) (w:ej) (σ:Aw) (H:OA) (ns cs:Nat) (s:Lz) (az:OA) (nz cz:Nat) (z:Lz),ns+d=C.W->nz<=64->SJ r w->kM w r.heap.size U b P M am mn cm m a n c ay ny cy C σ ->
   Ints w H ns s->Ints w az nz z->(0<ns->¬ σ.J U (ablk H))->(0<nz->¬ σ.J U (ablk az))->z.Nodup->(∀x ∈ z,0<=x/\x<(m:Int)) ->
   Calls prog 184 #[ea U 0,.slice H ns cs,.slice az nz cz] w (yA r U b P M am mn cm m a n c ay ny cy C σ (jX G.ops L m C d s z σ.T) w)
 | d,w,σ,H,ns,cs,s,az,nz,cz,z,hd,hnz,hb,hB,hs,hz,hsp,hzp,hzn,hzb=>by
  have IH:Hid (∀d',d'+1=d->∀(w:ej) (σ:Aw) (H:OA) (ns cs:Nat) (s:Lz) (az:OA) (nz cz:Nat) (z:Lz),ns+d'=C.W->nz<=64->SJ r w->kM w r.heap.size U b P M am mn cm m a n c ay ny cy C σ ->
   Ints w H ns s->Ints w az nz z->(0<ns->¬ σ.J U (ablk H))->(0<nz->¬ σ.J U (ablk az))->z.Nodup->(∀x ∈ z,0<=x/\x<(m:Int)) ->
   Calls prog 184 #[ea U 0,.slice H ns cs,.slice az nz cz] w (yA r U b P M am mn cm m a n c ay ny cy C σ (jX G.ops L m C d' s z σ.T) w)):=λd' hd'=>by subst hd';exact qw U P M am mn cm c cy E hpb d'
  have hm6:=E.m6;have hw6:=E.w6;have HE:=Z5 E;have Hsl:=Z5 hs.len;have Hzl:=Z5 hz.len;have p4:=hB.box.cell 4 rfl;have p7:=hB.box.cell 7 rfl;have p8:=hB.box.cell 8 rfl;obtain ⟨RF,hRF⟩:∃RF,jX G.ops L m C d s z σ.T=RF:=⟨_,rfl⟩
  rw [hRF];have HRF:=Z5 hRF;have HB:=Z5 hB;have Hz:=Z5 (Ng hzn hzb);obtain ⟨mo,hmo⟩:∃mo,(if C.cos=true then m else C.M)=mo:=⟨_,rfl⟩
  have Hmo:=Z5 hmo;obtain ⟨bc,hbc⟩:∃bc,C.cos=bc:=⟨_,rfl⟩
  rw [hbc] at p7;have Hbc:=Z5 hbc;clear hbc;have hol:=Ih m s z;have horng:∀j,j<(i9 m s z).length->0<=nth (i9 m s z) j/\nth (i9 m s z) j<m:=λj hj=>by
   rcases zy (aG hj) with h1 | h1
   ·exact hzb _ h1
   ·exact ⟨h1.1,h1.2.1⟩
  have Horng:=Z5 horng;have HO:Hid (Calls prog 232 #[ea U 0,.slice H ns cs,.slice az nz cz] w (cR w (i9 m s z))):=nj U m H ns cs s az nz cz z w p4 hs hz (by omega) (by omega);clear hRF hB hzn hzb E hmo horng;go_enter func184,ntmps184;go_upto_if 16 with fail;go_cut [7] (λv wx=>v = cG mo/\w=wx);case first =>
   cases bc
   ·have Hm2:Hid (mo=C.M):=by show _=_;rw [<- Hmo.out,Hbc.out];rfl
    go_wp2_with fail
    go_meet
    exact ⟨by rw [Hm2.out],rfl⟩
   ·have Hm2:Hid (mo=m):=by show _=_;rw [<- Hmo.out,Hbc.out];rfl
    go_wp2_with fail
    go_meet
    exact ⟨by rw [Hm2.out],rfl⟩
  obtain ⟨rfl,rfl⟩:=hcut;go_wp2_with fail;refine HO.mono ?_;rintro e w2 ⟨a2,c2,rfl,hown2,hb2⟩;have hB2:=HB.ai hb2;have hGr:=kX U a n c L m a2 _ c2 (i9 m s z) mo (hB2.box.cell 0 rfl) (hB2.box.cell 5 rfl) (HE.g.ai (hb.trans (hb2.mono hb.size))) (HE.lL.ai (hb.trans (hb2.mono hb.size))) HE.rws (RW hown2).1 Horng.out HE.n6 (by rw [Hzl.out] at hol;omega);have hgl:=Db (O:=G.ops) (L:=L) (Q:=i9 m s z) (most:=mo);have Hcs:Hid (e8 G.ops L m C s z=bF (yH G.ops L (i9 m s z) mo)):=by show _=_;rw [e8,Hmo.out]
  have hcn:(e8 G.ops L m C s z).Nodup:=B8 Hz.1;have hcb:∀x ∈ e8 G.ops L m C s z,0<=x/\x<(m:Int):=λx Y=>by
   rcases zy (Db x (It.1 Y)) with h1 | h1
   ·exact Hz.2 x h1
   ·exact ⟨h1.1,h1.2.1⟩
  have hcl:(e8 G.ops L m C s z).length<=64:=Np (sQ hcn hcb) hm6;rw [Hcs.out,fb] at hcl;have Hcn:=Z5 (Ng hcn hcb);unfold cR at hGr;obtain ⟨gl,hgle⟩:∃gl,(yH G.ops L (i9 m s z) mo).length=gl:=⟨_,rfl⟩
  have Hgl:=Z5 hgle;rw [hgle] at hGr hcl;obtain ⟨t,hte⟩:∃t,e8 G.ops L m C s z=t:=⟨_,rfl⟩
  have Htl:Hid (t.length=gl):=by show _=_;rw [<- hte,Hcs.out,fb,hgle]
  have Hcs2:Hid (bF (yH G.ops L (i9 m s z) mo)=t):=by show _=_;rw [<- hte,Hcs.out]
  rw [hte] at Hcn;have Hte:=Z5 hte;clear hcn hcb hgle hgl hte Hcs;have HGr:=Z5 hGr;clear hGr;generalize (i9 m s z).length=ol at *;go_wp2_with fail;refine HGr.mono ?_;rintro e w3 ⟨a3,c3,rfl,hown3,hb3⟩;have hbw3:=RU hb2 hb3;have hown3':=bq hown3 (B':=w.heap.size) hb2.size;have HSo:=Z5 (oo w.heap.size a3 gl c3 _ w3 hown3' hbw3.size (by omega));rw [Hcs2.out] at HSo;clear hown3 hown3';go_wp2_with fail;refine HSo.mono ?_;rintro e w4 ⟨rfl,F,_,hb4⟩;have hbw4:SJ w w4:=hbw3.trans hb4;have hB4:=HB.ai hbw4;have ht4:=(RW F).1;have HRt:=Z5 (qk (c:=c) (cy:=cy) U P M am mn cm _ 0 H ns cs s a3 gl c3 t HE.out (hb.trans (hbw4.mono hb.size)) hB4.box (hs.ai hbw4) ht4 (by omega));obtain ⟨rr,hrr⟩:∃rr,eB G.ops L m C s t=rr:=⟨_,rfl⟩
  rw [hrr] at HRt;have Hrr:Hid (eB G.ops L m C s (e8 G.ops L m C s z)=rr):=by show _=_;rw [Hte.out];exact hrr
  clear hrr;go_wp2_with fail;refine HRt.mono ?_;rintro e w5 ⟨rfl,hb5⟩;have I:SJ w w5:=RU hbw4 hb5;have S:=HB.ai I;cases rr
  ·have HF:Hid (RF=(11,[])):=by show _=_;rw [<- HRF.out,EF _ _ _ _ _ _ _ _ Hrr.out]
   go_wp2_with fail;go_ret;exact ⟨σ,S,OJ,OJ,RZ I _,by rw [HF.out];rfl,λh=>by rw [HF.out] at h;cases h⟩
  have p10:=S.box.cell 10 rfl;by_cases hbig:σ.T.length=65536
  ·have HF:Hid (RF=(8,[])):=by show _=_;rw [<- HRF.out,IG _ _ _ _ _ _ _ _ Hrr.out hbig]
   have hbg:((σ.T.length:Int) == 65536)=true:=by simp;omega
   clear hbig;go_wp2_with fail;go_ret;exact ⟨σ,S,OJ,OJ,RZ I _,by rw [HF.out];rfl,λh=>by rw [HF.out] at h;cases h⟩
  have hbg:((σ.T.length:Int) == 65536)=false:=by simp;omega
  have HF:Hid (RF=gT (jX G.ops L m C (d - 1)) s z (if ns<C.W then t.filter (λx=>decide (¬ x ∈ z)) else []) (σ.T ++ [t])):=by show _=_;rw [<- HRF.out,Jy _ _ _ _ _ _ _ _ (by rw [Hsl.out];exact hd) Hrr.out hbig,Hsl.out,Hte.out]
  have hTl:=S.ln;have hTlt:σ.T.length<65536:=by omega
  have N:=bj F hb5;have f10:=S.box.frozen 10;have hcn:=bh w5 (.slice a3 gl c3) 22;have hbn:=aD w5 (.cells #[.slice a3 gl c3] 22);have hsz5:=I.size;have D:=hb.size;clear hbig;go_wp2_with (at_builtin;refine bd rfl _ _ 25 22 rfl ds 24 underlying25 ed rfl r.heap.size σ.ar σ.T.length σ.cr _ rfl ((S.om.own).alloc _) ⟨w5.heap.size,0,none⟩ 1 (.slice a3 gl c3) rfl hcn rfl (by omega) (by unfold maxLen;omega) (by simp;omega) ?_;intro a6 c6 w6 hown6 hgr6 hap6;have q10:=(S.AL hgr6).cell 10 rfl;have qf10:=(S.AL hgr6).frozen 10);obtain rfl:=Htl.out;have hra:a3 ≠ none->¬ σ.J U (ablk a3):=λh0 hj=>by have h1:=HB.lt hj;have h2:=(aP N h0).1;omega
  obtain ⟨hB7,hM7⟩:=kM.push S (Np D hsz5) (bq N D) hra hTlt hown6 hgr6 hap6;obtain ⟨Z,hZ⟩:∃Z:ej,Z=w6.setCell ⟨U,10,none⟩ (.slice a6 (σ.T.length+1) c6):=⟨_,rfl⟩
  rw [<- hZ] at hB7 hM7;have hB05:SJ r w5:=hb.trans (I.mono D);have hbZ:SJ r Z:=hB05.trans (hM7.below (λx Y=>by
   rcases Y with (Y | Y) | ⟨h1,h2⟩
   ·rw [Y];exact hpb
   ·exact (S.om.lt x Y).1
   ·rw [h2];exact Np D (aP N h1).1) hB05.size)
  have K:aB w Z (σ.J U) ((⟨a6,c6,σ.R ++ [(a3,c3)],σ.T ++ [t]⟩:Aw).J U):=aB.K2 I hM7 λx Y=>by rw [Y.2];exact (aP N Y.1).1
  have hsZ:=hs.cQ K hsp;have hzZ:=hz.cQ K hzp;have hsJ:0<ns->¬ (⟨a6,c6,σ.R ++ [(a3,c3)],σ.T ++ [t]⟩:Aw).J U (ablk H):=λh0=>K.not (hs.lt h0) (hsp h0);have hRl:σ.R.length=σ.T.length:=S.om.rl;have hszZ:=K.size;have HCh:Hid (Calls prog 234 #[ea U 0,.slice H ns cs,.slice az nz cz,.slice a3 t.length c3,.func (.func 184) #[ea U 0] #[]] Z
    (yA r U b P M am mn cm m a n c ay ny cy C σ RF w)):=by
   refine (qW (σ:=Aw) (λV τ=>SJ r V/\kM V r.heap.size U b P M am mn cm m a n c ay ny cy C τ/\Ints V H ns s/\(0<ns->¬ τ.J U (ablk H))/\(σ.R ++ [(a3,c3)]) <+: τ.R/\(σ.T ++ [t]) <+: τ.T) (λτ x=>τ.J U x) (λτ=>τ.T)
    (λs z T=>jX G.ops L m C (d - 1) s z T) U C.W H ns cs s az nz cz z a3 t.length c3 t Z ⟨a6,c6,σ.R ++ [(a3,c3)],σ.T ++ [t]⟩ ⟨hbZ,hB7,hsZ,hsJ,OJ,OJ⟩ ?_ (hB7.box.cell 9 rfl) ?_ (λV τ x h Y=>h.2.1.lt Y) hzZ Hcn.1 (by omega) (by omega) (by omega) (by omega) ?_).mono ?_
   ·rintro V1 V2 τ ⟨e1,e2,e3,e4,e5,e6⟩ hM;refine ⟨e1.trans (hM.below (λx Y=>Np hbZ.size Y.1) e1.size),e2.cQ hM λx Y hh=>hh.2 Y,e3.cQ hM λhn Y=>?_,e4,e5,e6⟩;have h1:=hsZ.lt hn;omega
   ·rintro V τ ⟨e1,e2,e3,e4,e5,e6⟩;refine ⟨e3,?_⟩;have hlt:σ.T.length<τ.T.length:=by obtain ⟨X,hX⟩:=e6;rw [<- hX];simp<;>omega
    have h1:=e2.om.ints hlt;rw [IK e6 (by simp),F9,<- hRl,Il e5 (by simp),Fb] at h1;exact h1
   ·intro hlt V1 τ a1 c1 a2 c2 j zc hj hzc hnj hI hM h1 h2 h3 h4;obtain ⟨d',hd'⟩:∃d',d'+1=d:=⟨d - 1,by omega⟩
    have hzl:zc.length<=64/\zc.Nodup/\∀x ∈ zc,0<=x/\x<(m:Int):=by
     have hsub:∀x ∈ (t.take j).filter (λx=>decide (¬ x ∈ z)),x ∈ t/\¬ x ∈ z:=λx Y=>by rw [OT] at Y;exact ⟨N9 Y.1,by simpa using Y.2⟩
     have hnd:zc.Nodup:=by rw [hzc,Oj];refine ⟨Hz.1,PB _ (PO (PY _ _) Hcn.1),λx Y y hy e=>?_⟩;exact (hsub y hy).2 (e ▸ Y)
     have hbd:∀x ∈ zc,0<=x/\x<(m:Int):=λx Y=>by
      rw [hzc] at Y;rcases List.mem_append.1 Y with Y | Y
      ·exact Hz.2 x Y
      ·exact Hcn.2 x (hsub x Y).1
     exact ⟨Np (sQ hnd hbd) hm6,hnd,hbd⟩
    have h5:=IH d' hd' V1 τ a1 (ns+1) c1 (s ++ [nth t j]) a2 zc.length c2 zc (by omega) hzl.1 hI.1 hI.2.1 h1 h2 (λ_=>h3) (λh0=>h4 (by intro e;have:=h2.pl h0;rw [e] at this;cases this)) hzl.2.1 hzl.2.2;have hdd:d - 1=d':=by omega
    refine h5.mono ?_;rintro e V2 ⟨τ',g1,g2,g3,g4,g5,g6⟩;rw [hdd];exact ⟨τ',⟨hI.1.trans (g4.below (λx Y=>by
      rcases Y with Y | Y
      ·rw [Y];exact hpb
      ·exact (hI.2.1.om.lt x Y).1) hI.1.size),g1,hI.2.2.1.cQ g4 hI.2.2.2.1,λhn=>g4.not (hI.2.2.1.lt hn) (hI.2.2.2.1 hn),hI.2.2.2.2.1.trans g2,hI.2.2.2.2.2.trans g3⟩,g4,g5,g6⟩
   ·rintro e V2 ⟨τ',g1,g2,g3,g4⟩;rw [<- HF.out] at g3 g4;exact ⟨τ',g1.2.1,(Qr _ _).trans g1.2.2.2.2.1,(Qr _ _).trans g1.2.2.2.2.2,K.trans g2,g3,g4⟩
  rw [<- hZ];clear IH HO HSo HGr HRt F N hown6 hgr6 hap6 hB7 hM7 hZ K hsZ hzZ HF;go_wp2_with fail;refine HCh.mono ?_;rintro e w7 ⟨τ',g1,g2,g3,g4,rfl,g6⟩;go_wp2_with fail;go_ret;exact ⟨τ',g1,g2,g3,g4,rfl,g6⟩
theorem F3 (P M:Int) (am:OA) (mn cm:Nat) (mod:Lz) (n:Nat) (a:OA) (k c:Nat) (L:ZZ) (W:ej) (Bc l:Nat) (hE:aI P M mod n L=0)
  (x0:aQ W Bc [cG P,cG M,.slice am mn cm,cG n,.slice a k c]) (C:Ints W am mn mod) (hi:bP W a k L)
  (J:List WX->ej->Prop) (U:Nat->Prop) (hML:∀x,U x->x<W.heap.size)
  (hmat:∀V,(∀x,x<W.heap.size->¬ U x->V.heap[x]? = W.heap[x]?)->bP V a k L/\V.cell? ⟨Bc,4,none⟩=some (.slice a k c))
  (hJa:∀pre V Z,J pre V->SJ V Z->J pre Z)
  (hJb:∀B pre V v,W.heap.size<=B->(∀x ∈ pre,ablk x.a ≠ B)->J pre V->J pre (V.setCell ⟨B,0,none⟩ v))
  (hY:∀m pre x V,J pre V->pre.length<(ah P M.toNat mod).q ^ k->Ints V x.a n x.l->(∀j,U j->j ≠ ablk x.a)->Mb l n J U m pre x V)
  (hN:(ah P M.toNat mod).q ^ k<=1000000) (h0:J [] W) :
  Calls prog 250 #[.func (.yield l) #[] #[],ea Bc 0] W λe V=>e = .returned (.tuple #[]) /\
   ∃xs:List WX,xs.map WX.l=wlkS (ah P M.toNat mod).ops (ah P M.toNat mod).q L (List.replicate n 0)/\J xs V/\aB W V U U:=by
 obtain ⟨N',em,hm1,hm64,F,hR⟩:=aT hE;obtain rfl:n=N':=by omega
 have hk256:k<=256:=by rw [<- hi.len];exact (eh hE).choose_spec.2.2.2.1
 have hfB:=(aX hE).1;have hLk:L.length=k:=hi.len;have HCk:Hid (∀V,SJ W V->Calls prog 88 #[.agg #[cG P,cG M,.slice am mn cm,cG n,.slice a k c]] V λe w'=>e = .returned (cG 0)/\SJ V w'):=λV hV=>by have h:=cH P M am mn cm mod n a k c L V (C.ai hV) (hi.ai hV);rw [hE] at h;exact h
 have HNw:Hid (∀V,SJ W V->Calls prog 52 #[.agg #[cG P,cG M,.slice am mn cm]] V λe w'=>∃b,e = ec #[ea b 0,cG 0]/\yL V.heap.size w' b (ah P M.toNat mod)/\V.heap.size<=b/\SJ V w'):=λV hV=>by
  refine (dh P M am mn cm mod V (C.ai hV)).mono ?_;rintro e w' (⟨h1,_⟩ | ⟨_,h2⟩)
  ·rw [hfB] at h1;cases h1
  ·exact h2
 obtain ⟨G,hG⟩:∃G,ah P M.toNat mod=G:=⟨_,rfl⟩
 rw [hG] at HNw F hR hY hN ⊢;have HX:=Z5 x0;have HJa:=Z5 hJa;have HJb:=Z5 hJb;have HY:=Z5 hY;have Hmat:=Z5 hmat;have HML:=Z5 hML;have H0:=Z5 h0;have HR:=Z5 hR;have HN:=Z5 hN;have HLk:=Z5 hLk;clear hG hfB hE em C hi hJa hJb hY hmat hML h0 hR hN hLk;clear x0;go_enter func250,ntmps250;go_upto_region 1 with fail;obtain ⟨W1,hW1⟩:∃W1:ej,W1=W.alloc (.cells #[.func (.yield l) #[] #[]] 251):=⟨_,rfl⟩
 rw [<- hW1];have r:SJ W W1:=by rw [hW1];exact aD _ _
 have y1:aQ W1 W.heap.size [.func (.yield l) #[] #[]]:=by rw [hW1];exact RV _ _ _ rfl
 have Y1:=Z5 y1;have x1:=HX.ai r;have c0:=x1.cell 0 rfl;have c1:=x1.cell 1 rfl;have c2:=x1.cell 2 rfl;have c3:=x1.cell 3 rfl;have c4:=x1.cell 4 rfl;clear hW1 y1 x1;go_wp2_with (go_at_call 88;refine (HCk _ r).mono ?_;rintro e w2 ⟨rfl,K⟩;have x2:=(HX.ai r).ai K;have d0:=x2.cell 0 rfl;have d1:=x2.cell 1 rfl;have d2:=x2.cell 2 rfl;have d3:=x2.cell 3 rfl;have d4:=x2.cell 4 rfl;clear x2);refine (HNw w2 (RU r K)).mono ?_;rintro e w3 ⟨b,rfl,hG3,hbb,hb3⟩;have HG3:=Z5 hG3;have Hbb:=Z5 hbb;clear hG3 hbb d0 d1 d2 d3 d4 c0 c1 c2 c3 c4;go_upto_region 5 with fail;obtain ⟨N,S⟩:∃N:ej,N=(((w3.alloc (.cells #[ea b 0] 79)).alloc (.cells #[cG 0] 3)).alloc (.cells #[.nilFunc] 251)):=⟨_,rfl⟩
 rw [<- S];have hb4:SJ w3 N:=by rw [S];exact kY _ _ _ _
 have hs4:N.heap.size=w3.heap.size+3:=by rw [S];simp
 have g4:aQ N w3.heap.size [ea b 0]:=by rw [S];exact ((RV _ _ _ rfl).alloc _).alloc _
 have a4:aQ N (w3.heap.size+1) [cG 0]:=by rw [S];exact (RV _ _ _ (by simp)).alloc _
 have f4:aQ N (w3.heap.size+1+1) [.nilFunc]:=by rw [S];exact RV _ _ _ (by simp)
 clear S;have fc:=f4.cell 0 rfl;have ff:=f4.frozen 0;have G4:=Z5 g4;have A4:=Z5 a4;have F4:=Z5 f4;clear g4 a4 f4;have hst:∀(fn:Fn) (x y:Array Value),(store (⟨w3.heap.size+1+1,0,none⟩:Addr) (.func fn x y)).run prog N = .ok () (N.setCell ⟨w3.heap.size+1+1,0,none⟩ (.func fn x y)):=λfn x y=>by rw [run_store _ _ _ _ _ rfl,fc];simp [ff]
 go_upto_region 6 with fail;have F5e:∃FV:Value,FV = .func (.func 251) #[] #[ea Bc 0,ea (w3.heap.size+1) 0,ea W.heap.size 0,ea w3.heap.size 0,ea (w3.heap.size+1+1) 0]:=⟨_,rfl⟩
 obtain ⟨Y,E⟩:∃Y:ej,Y=N.setCell ⟨w3.heap.size+1+1,0,none⟩ (.func (.func 251) #[] #[ea Bc 0,ea (w3.heap.size+1) 0,ea W.heap.size 0,ea w3.heap.size 0,ea (w3.heap.size+1+1) 0]):=⟨_,rfl⟩
 rw [<- E];clear F5e;have hb45:Below (w3.heap.size+2) N Y:=by rw [E];exact (M5 _ _).setCell (p:=⟨w3.heap.size+1+1,0,none⟩) (M4 _) _
 have fc5:Y.cell? ⟨w3.heap.size+1+1,0,none⟩=some (.func (.func 251) #[] #[ea Bc 0,ea (w3.heap.size+1) 0,ea W.heap.size 0,ea w3.heap.size 0,ea (w3.heap.size+1+1) 0]):=by rw [E];exact PJ _ _ _ (by rw [fc];rfl)
 have hs5:Y.heap.size=w3.heap.size+3:=by rw [E,<- hs4];simp
 clear E hst fc ff;have hb12:=RU r K;have hb13:=RU hb12 hb3;have D:SJ w3 Y:=hb4.trans (hb45.mono (by omega));have z:SJ W Y:=RU hb13 D;have cN:=(HX.ai z).cell 3 rfl;have gc5:Y.cell? ⟨w3.heap.size,0,none⟩=some (ea b 0):=(hb45.cell (p:=⟨w3.heap.size,0,none⟩) (by show w3.heap.size<_;omega)).trans (G4.cell 0 rfl);have ac5:zL Y (w3.heap.size+1) 0:=zL.of_block (V:=N) ⟨A4.cell 0 rfl,A4.frozen 0⟩ (hb45.block _ (by omega));have yc5:Y.cell? ⟨W.heap.size,0,none⟩=some (.func (.yield l) #[] #[]):=((Y1.ai K).ai hb3 |>.ai D).cell 0 rfl;have hsz1:W.heap.size<W1.heap.size:=Y1.1;have hsz2:=K.size;have hsz3:=hb3.size;have Hc:Hid (∀V a1 c1,V.ownsRow Y.heap.size 3 1 (.slice a1 n c1) n ((List.replicate n (0:Int)).map (Value.int .i64))->SJ Y V ->
   Calls prog 251 #[cG 0,.slice a1 n c1,ea Bc 0,ea (w3.heap.size+1) 0,ea W.heap.size 0,ea w3.heap.size 0,ea (w3.heap.size+1+1) 0] V
    λe Z=>e = .returned (.bool true)/\∃xs:List WX,xs.map WX.l=wlkS G.ops G.q L (List.replicate n 0)/\J xs Z/\aB W Z U U):=by
  intro V a1 c1 hown X;have hWV:SJ W V:=RU z X;have Q:SJ w3 V:=D.trans (X.mono (by omega));have hMo:∀Z,aB V Z (λx=>U x\/x=w3.heap.size+1) (λx=>U x\/x=w3.heap.size+1)->∀x,x<W.heap.size->¬ U x->Z.heap[x]? = W.heap[x]?:=λZ hm x hx hn =>
   (hm.block x (by have:=hWV.size;omega) (λh=>h.elim hn (by omega))).trans (hWV.block x hx)
  obtain ⟨hia,_⟩:=RW hown;have hres:=Ae (W0:=V) (b:=b) (G:=G) (Bc:=Bc) (Bat:=w3.heap.size+1) (By:=W.heap.size) (Bg:=w3.heap.size) (Bf:=w3.heap.size+1+1) (l:=l) (ag:=a) (k:=k) (cg:=c) (n:=n) (L:=L)
   (I:=λx=>U x\/x=w3.heap.size+1) J U (λx h=>.inl h) (.inr rfl) (λh=>by have:=HML _ h;omega)
   (λx h=>by have:=hWV.size;have:=Q.size;have:=X.size;exact h.elim (λh=>by have:=HML _ h;omega) (λh=>by omega))
   (λZ hm=>by
    obtain ⟨hma,hgc⟩:=Hmat Z (hMo Z hm);have hnI:∀x,W.heap.size<=x->x ≠ w3.heap.size+1->¬ (U x\/x=w3.heap.size+1):=λx h1 h2 h3=>h3.elim (λh=>by have:=HML _ h;omega) h2;refine ⟨hgc,hma,?_,?_,?_,?_,?_⟩
    ·exact hm.cell ((X.cell (p:=⟨W.heap.size,0,none⟩) (Nf _ _ yc5)).trans yc5) (hnI _ (M4 _) (by show W.heap.size ≠ _;omega))
    ·exact hm.cell ((X.cell (p:=⟨w3.heap.size,0,none⟩) (Nf _ _ gc5)).trans gc5) (hnI _ (by show W.heap.size<=w3.heap.size;omega) (by show w3.heap.size ≠ _;omega))
    ·refine HG3 Z λx h1 h2=>(hm.block x (by have:=Q.size;omega) (hnI x (by omega) (by omega))).trans (Q.block x h2)
    ·exact hm.cell ((X.cell (p:=⟨w3.heap.size+1+1,0,none⟩) (Nf _ _ fc5)).trans fc5) (hnI _ (by show W.heap.size<=w3.heap.size+1+1;omega) (by show w3.heap.size+1+1 ≠ _;omega))
    ·have:=hm.size;have:=Q.size;have:=X.size;omega)
   HJa (λpre Z v hp hj=>HJb _ pre Z v (by omega) hp hj) (G.q ^ k)
   (λm pre x Z _ hj hlt hix hI=>HY m pre x Z hj hlt hix λj hj'=>hI j (.inl hj'))
   HN (by omega) hm1 HR.out (by omega) F.cl k 0 (by omega)
   a1 c1 (List.replicate n 0) [] V (Sb _ _) (HJa _ _ _ H0.out hWV) (λx hx=>by simp at hx) (ac5.ai X) hia
   (λj hj=>by
    have h2:=(aP hown (λe=>by have:=hia.pl (by omega);rw [e] at this;cases this)).1;rcases hj with h | h
    ·have:=HML _ h;have:=z.size;omega
    ·omega)
   (λx hx=>by rw [(List.mem_replicate.1 hx).2];exact F.zero) (by simp)
  refine hres.mono ?_;rintro e Z ⟨he,xs,h1,h2,_,_,h5⟩;refine ⟨he,xs,by rw [h1,O9],by simpa using h2,?_⟩;have H:aB W Z (λx=>U x\/x=w3.heap.size+1) (λx=>U x\/x=w3.heap.size+1):=(RZ hWV _).trans h5;exact ⟨H.os,H.tape,H.output,H.size,λx hx hn=>H.block x hx λh=>h.elim hn (by omega),λx h=>.inl h⟩
 have hmk:=run_mk (P:=prog) 22 3 (cG 0) 8 underlying22 br rfl n (by omega) (by omega);have hoD:(Y.alloc (.cells (Array.replicate n (Value.int .i64 0)) 3)).drew.ownsRow Y.heap.size 3 1 (.slice (some ⟨Y.heap.size,0,none⟩) n n) n (List.replicate n (Value.int .i64 0)):=mH Y.drew 3 (cG 0) n rfl (M4 _) (by unfold maxLen;omega);rw [<- OB (f:=Value.int .i64)] at hoD;have HC:=Z5 (Hc _ _ _ hoD ((M5 _ _).alloc (M4 _) _).drew);have fc6:=(((M5 Y.heap.size Y).alloc (M4 _) (.cells (Array.replicate n (Value.int .i64 0)) 3)).cell (p:=⟨w3.heap.size+1+1,0,none⟩) (Nf _ _ fc5)).trans fc5;clear hoD gc5 yc5 ac5 hs5 hs4;go_region_law ((first
  | (go_simp;go_at_call 251;((with_reducible refine HC.out.mono ?_);rintro e V ⟨rfl,xs,hx,hJx,hmx⟩))))
 all_goals go_wp2_with fail
 all_goals go_end0
 all_goals exact ⟨rfl,xs,hx,hJx,hmx⟩
theorem fU.cells {I:Nat->Prop} {w:ej} {a:OA} {n:Nat} {L:ZZ} (h:fU I w a n L):∃l:List Value,l.length=n/\(∀j,j<n->w.cell? ⟨ablk a,aN a+j,none⟩=l[j]?)/\(∀u ∈ l,u.oneCell'=true) /\
  ∀j,j<n->∃b m c,l[j]? = some (.slice b m c)/\Ints w b m (aj L j)/\(0<m->¬ I (ablk b)):=by
 have key:∀k,k<=n->∃l:List Value,l.length=k/\(∀j,j<k->w.cell? ⟨ablk a,aN a+j,none⟩=l[j]?)/\(∀u ∈ l,u.oneCell'=true)/\∀j,j<k->∃b m c,l[j]? = some (.slice b m c)/\Ints w b m (aj L j)/\(0<m->¬ I (ablk b)):=λk V=>by
  induction k with
  | zero=>exact ⟨[],rfl,λj Z=>by omega,λu hu=>by simp at hu,λj Z=>by omega⟩
  | succ k X =>
   obtain ⟨l,h1,h2,h3,h4⟩:=X (by omega)
   obtain ⟨b,m,c,Y,hi⟩:=h.cell k (by omega)
   refine ⟨l ++ [.slice b m c],by simp [h1],λj Z=>?_,λu hu=>?_,λj Z=>?_⟩
   ·by_cases e:j=k
    ·subst e;rw [Y,<- h1,Qo]
    ·rw [NA (by omega)];exact h2 j (by omega)
   ·rcases List.mem_append.1 hu with hu | hu
    ·exact h3 u hu
    ·rw [List.mem_singleton.1 hu];rfl
   ·by_cases e:j=k
    ·subst e;exact ⟨b,m,c,by rw [<- h1,Qo],hi⟩
    ·rw [NA (by omega)];exact h4 j (by omega)
 exact key n (M4 _)
theorem ur {P:Program} {w:ej} {ops:Array Oper} {rest:List Oper} {o:Oper} {ac:Act} {Q:Exit->Act->ej->Prop}
  (hg:o.guard=none) (s x:Operand) (t e:TypeId) (H:o.op = .call { callee:=.builtin .append,args:=#[s,x],argTypes:=#[t,t] }) (bytes:Nat)
  (h1:P.underlying t=some (.slice e)) (h2:(P.info? e).map (λi=>(i.zero,i.size,i.bytes))=some (some ds,1,bytes))
  (I:Nat->Prop) (hI:∀b,I b->b<w.heap.size) (a:OA) (k:Nat) (A:ZZ) (hs:ac.eval s = .slice a k k) (V:fU I w a k A)
  (a2:OA) (n c:Nat) (L:ZZ) (hx:ac.eval x = .slice a2 n c) (G:fU I w a2 n L) (b2:(k+n) * bytes<=140737488355328) (b3:k+n<=maxLen)
  (hK:∀a' c' w',fU I w' a' (k+n) (A ++ L)->SJ w w'->wpList P ops Q rest (ac.put o.dst (.slice a' (k+n) c')) w') :
  wpList P ops Q (o :: rest) ac w:=by
 obtain ⟨i,hi,hz0,C,E⟩:=info_parts h2;by_cases hn:n=0
 ·subst hn;obtain rfl:L=[]:=NF G.len;refine wpList_plain hg λK z=>?_;unfold Oper.wp execOp;simp only [H,resolve,invoke,builtin,QF,QG,PW,P7,Oq,QH,hs,hx,lC (P:=P) w t o.type e i h1 hi a a2 k k c (M4 _)];exact z _ _ (hK a k w (by rw [OS];exact V) (M5 _ _))
 ·obtain ⟨N,o1,o2,o3,o4⟩:=V.cells;obtain ⟨news,n1,n2,n3,n4⟩:=G.cells;have U:=G.pl (by omega);have S:∀ {l:List Value} {j:Nat} {u:Value},l[j]? = some u->j<l.length:=λh=>(List.getElem?_eq_some_iff.1 h).1;refine wpList_append_grows (P:=P) w hg s x t H e i ds 1 bytes h1 hi hz0 C E rfl (by decide) a k k N hs (λh0=>?_) (by omega) (λb hb j u X=>?_) ⟨ablk a2,aN a2,none⟩ n c news (by rw [hx,<- U]) (by omega) (λj u X=>?_) n3 (by omega) b3 b2 λv' w' Y Z=>?_
  ·rcases Om k with h | h
   ·exact ⟨h,h⟩
   ·have:=V.pl h;rw [h0] at this;cases this
  ·have r:=S X;have hp:=V.pl (by omega);subst hb;injection hp with U
   rw [U,Qn,o2 j (by omega)];exact X
  ·have r:=S X;rw [Qn,n2 j (by omega)];exact X
  ·obtain ⟨a',c',rfl,hpl⟩:=Sf Y;have hb:SJ w w':=⟨Z.os,Z.tape,Z.output,Z.size,λj X=>Z.block j X (by simp)⟩
   refine hK a' c' w' ⟨by rw [Ni,V.len,G.len],hpl,b3,λh0 F=>?_,λj X=>?_⟩ hb
   ·have h3:=hI _ F;have h4:=(ew Y h0).1;omega
   have F:=(bL Y j X).1;by_cases h:j<k
   ·obtain ⟨b,m,c2,e1,D,e3⟩:=o4 j h;refine ⟨b,m,c2,?_,?_,e3⟩
    ·rw [F,NA (by omega),e1]
    ·rw [show aj (A ++ L) j=aj A j by simp only [aj,Na];rw [NA (by rw [V.len];exact h)]];exact D.ai hb
   ·obtain ⟨b,m,c2,e1,D,e3⟩:=n4 (j - k) (by omega);refine ⟨b,m,c2,?_,?_,e3⟩
    ·rw [F,N4 (by omega),o1,e1]
    ·rw [show aj (A ++ L) j=aj L (j - k) by simp only [aj,Na];rw [N4 (by rw [V.len];omega),V.len]];exact D.ai hb
theorem aB.se (w:ej) {I:Nat->Prop} {p:Addr} (Y:I p.block) (v:Value):aB w (w.setCell p v) I I:=by have Z:Below 0 w (w.setCell p v):=(M5 0 w).setCell (Nb _) v;exact ⟨Z.os,Z.tape,Z.output,Z.size,λb hb hI=>Nt _ _ _ _ λe=>hI (e ▸ Y),λb hb=>.inl hb⟩
theorem bJ.Ig {A:Nat->Prop} {B:Nat} {w:ej} {a:OA} {n:Nat} {L:ZZ} (h:bJ B w a n L) (Y:∀b,A b->b<B):fU A w a n L :=
 ⟨h.len,h.pl,h.max,λX Z=>Pr _ (Nz (Y _ Z) (h.lo X)),λi hi=>by obtain ⟨b,m,c,h1,h2⟩:=h.cell i hi;exact ⟨b,m,c,h1,h2.ints,λhm Z=>Pr _ (Nz (Y _ Z) (h2.lo hm))⟩⟩
theorem bJ.MQ {B g:Nat} {w:ej} {a:OA} {n:Nat} {L:ZZ} (h:bJ B w a n L) (Z:g<B) (x y:Value):fU (λb=>b=g) ((w.setCell ⟨g,0,none⟩ x).setCell ⟨g,1,none⟩ y) a n L :=
 ((h.Ig (A:=λb=>b=g) (λb hb=>by rw [show b=g from hb];exact Z)).cQ (aB.se w (I:=λb=>b=g) (p:=⟨g,0,none⟩) rfl x)).cQ (aB.se _ (I:=λb=>b=g) (p:=⟨g,1,none⟩) rfl y)
theorem Ints.o8 {w:ej} {a:OA} {n:Nat} {l:Lz} (h:Ints w a n l) {p:Addr} {b:OA} {m c:Nat} (Y:w.cell? p=some (.slice b m c)) (v:Value):Ints (w.setCell p v) a n l :=
 ⟨h.len,h.pl,h.max,λi hi=>by have Z:=h.cell i hi;rw [Nr _ _ _ _ (λe=>by rw [e,Z] at Y;cases Y)];exact Z⟩
theorem bP.o8 {w:ej} {a:OA} {n:Nat} {L:ZZ} (h:bP w a n L) {p:Addr} {b:OA} {m c:Nat} (Y:w.cell? p=some (.slice b m c)) (hne:0<n->p.block ≠ ablk a) (v:Value):bP (w.setCell p v) a n L :=
 ⟨h.len,h.pl,h.max,λi hi=>by obtain ⟨b',Z,X,h1,h2⟩:=h.cell i hi;exact ⟨b',Z,X,by rw [Nr _ _ _ _ (λe=>hne (by omega) (by rw [e]))];exact h1,h2.o8 Y v⟩⟩
theorem aQ.MD {w:ej} {b:Nat} {cs:List Value} (h:aQ w b cs) {g:Nat} (hb:g ≠ b) (i:Nat) (v:Value):aQ (w.setCell ⟨g,i,none⟩ v) b cs:=by
 refine ⟨by rw [Rg];exact h.1,λj x Z=>?_,λj=>?_⟩
 ·rw [Nr _ _ _ _ (by intro e;injection e with e1 _ _;exact hb e1)];exact h.2.1 j x Z
 ·rw [NY];exact h.2.2 j
section
variable {O:aL} {El:Int->Prop} {m:Nat} {A B L:ZZ}
theorem GA (F:bQ O El) (Q:bz El m A) {X:Nat->Nat} (V:∀j,j<A.length->X j<m) (h1:∀i j,i<A.length->j<A.length->nth (aj A i) (X j)=if i=j then 1 else 0) {f:Nat->Int} (N:∀x,x<m->El (f x)) :
  ∀k,k<=A.length->∃g,RS O El m A g/\∀j,j<k->g (X j)=f (X j)
 | 0,_=>⟨λ_=>0,RS.K8 F λ_ _=>rfl,λj I=>by omega⟩
 | k+1,G=>by
  obtain ⟨g,K,h2⟩:=GA F Q V h1 N k (by omega);have U:=λx (H:x<m)=>RS.el F Q K H;have Z:=U _ (V k (by omega));have Y:=N _ (V k (by omega));have S:El (O.add (g (X k)) (O.neg (f (X k)))):=F.cl.add _ _ Z (F.cl.neg _ Y);refine ⟨_,K.comb F (Sx F (show k<A.length by omega)) S,λj I=>?_⟩;show O.add (g (X j)) (O.neg (O.mul (nth (aj A k) (X j)) (O.add (g (X k)) (O.neg (f (X k))))))=_;rw [h1 k j (by omega) (by omega)];by_cases e:k=j
  ·subst e;rw [M7 rfl,F.one_mul _ S,F.neg_add Z (F.cl.neg _ Y),F.neg_neg Y,<- F.add_assoc _ _ _ Z (F.cl.neg _ Z) Y,F.add_neg _ Z,F.ui Y]
  ·rw [M8 e,F.lI S,F.gw,F.add_zero _ (U _ (V j (by omega)))];exact h2 j (by omega)
theorem vE (F:bQ O El) {a b c:Nat->Int}:∀t,(∀p,p<t->El (a p))->(∀p,p<t->El (b p))->(∀p,p<t->El (c p))->dotN O (λp=>O.add (a p) (O.neg (b p))) c t=O.add (dotN O a c t) (O.neg (dotN O b c t))
 | 0,_,_,_=>by show (0:Int)=O.add 0 (O.neg 0);rw [F.gw,F.add_zero _ F.zero]
 | t+1,ha,hb,Y=>by have V:=vE F t (λp Z=>ha p (by omega)) (λp Z=>hb p (by omega)) (λp Z=>Y p (by omega));have h1:=ha t (by omega);have h2:=hb t (by omega);have h3:=Y t (by omega);have d1:=mR F t (λp Z=>ha p (by omega)) (λp Z=>Y p (by omega));have d2:=mR F t (λp Z=>hb p (by omega)) (λp Z=>Y p (by omega));have m1:=F.cl.mul _ _ h1 h3;have X:=F.cl.mul _ _ h2 h3;show O.add (dotN O (λp=>O.add (a p) (O.neg (b p))) c t) (O.mul (O.add (a t) (O.neg (b t))) (c t))=O.add (O.add (dotN O a c t) (O.mul (a t) (c t))) (O.neg (O.add (dotN O b c t) (O.mul (b t) (c t))));rw [V,F.mul_comm _ _ (F.cl.add _ _ h1 (F.cl.neg _ h2)) h3,F.mul_add _ _ _ h3 h1 (F.cl.neg _ h2),F.mul_neg h3 h2,F.mul_comm _ _ h3 h1,F.mul_comm _ _ h3 h2,F.neg_add d2 X,F.Em d1 (F.cl.neg _ d2) m1 (F.cl.neg _ X)]
theorem RS.dot (F:bQ O El) (Y:bz El m A) (V:bz El m B) (S:oY O m A B) {f:Nat->Int} (U:RS O El m A f) {i:Nat} (hi:i<B.length):dotN O f (λp=>nth (aj B i) p) m=0:=by obtain ⟨e,he,h2⟩:=U;have hb:∀p,p<m->El (nth (aj B i) p):=λp Z=>R0 (V.row hi) Z;rw [gu (a':=λp=>e (bp A p)) (b':=λp=>nth (aj B i) p) m λp Z=>⟨h2 p Z,rfl⟩];rw [gW F m (λp _=>he.el _ (dw Y F.zero p)) hb];refine lQ F Y he hb λj X=>?_;rw [gW F m hb λp Z=>R0 (Y.row X) Z];exact S j i X hi
theorem rO (F:bQ O El) (I:bz El m A) (r:bz El m B) {H Y:Nat->Nat} (E:∀j,j<A.length->H j<m) (h1:∀i j,i<A.length->j<A.length->nth (aj A i) (H j)=if i=j then 1 else 0)
  (z:∀i,i<B.length->Y i<m) (h2:∀i j,i<B.length->j<B.length->nth (aj B i) (Y j)=if i=j then 1 else 0)
  (X:∀x,x<m->(∃j,j<A.length/\H j=x)\/∃i,i<B.length/\Y i=x) (ho:oY O m A B) {f:Nat->Int} (U:∀x,x<m->El (f x)) (D:∀i,i<B.length->dotN O f (λp=>nth (aj B i) p) m=0):RS O El m A f:=by
 obtain ⟨g,G,K⟩:=GA F I E h1 U A.length (M4 _);have Z:=λx (C:x<m)=>RS.el F I G C;refine G.congr λx C=>?_;rcases X x C with ⟨j,N,rfl⟩ | ⟨i,hi,rfl⟩
 ·exact (K j N).symm
 ·have hb:∀p,p<m->El (nth (aj B i) p):=λp S=>R0 (r.row hi) S;have hd:=vE F m U Z hb;rw [D i hi,RS.dot F I r ho G hi,F.gw,F.add_zero _ F.zero] at hd;have V:=z i hi;have Q:El (O.add (f (Y i)) (O.neg (g (Y i)))):=F.cl.add _ _ (U _ V) (F.cl.neg _ (Z _ V));have h3:=ki F (a:=λp=>O.add (f p) (O.neg (g p))) (b:=λp=>nth (aj B i) p) (x:=Y i) (F.cl.mul _ _ Q (hb _ V)) m λp S hne=>?_
  ·rw [hd,M7 V] at h3;have h4:O.mul (O.add (f (Y i)) (O.neg (g (Y i)))) (nth (aj B i) (Y i))=0:=h3.symm;rw [h2 i i hi hi,M7 rfl,F.iH Q] at h4;have h5:=F.l8 (U _ V) (F.cl.neg _ (Z _ V)) h4;rw [<- F.neg_neg (U _ V),<- h5,F.neg_neg (Z _ V)]
  ·show O.mul (O.add (f p) (O.neg (g p))) (nth (aj B i) p)=0;rcases X p S with ⟨j,N,rfl⟩ | ⟨j,N,rfl⟩
   ·rw [K j N,F.add_neg _ (U _ S),F.lI (hb _ S)]
   ·rw [h2 i j hi N,M8 (λe=>hne (by rw [e])),F.df (F.cl.add _ _ (U _ S) (F.cl.neg _ (Z _ S)))]
theorem wD (P:Lz):∀k i j,i<j->j<(eW P k).length->(eW P k).getD i 0<(eW P k).getD j 0
 | 0,i,j,_,h=>by simp [eW] at h
 | k+1,i,j,Z,h=>by
  have V:=wD P k i j Z;rw [eW] at h ⊢;split at h
  ·rename_i Y;rw [M7 Y];exact V h
  ·rename_i Y;rw [M8 Y];rw [Ni,ND] at h;have e1:(eW P k ++ [k]).getD i 0=(eW P k).getD i 0:=by simp only [Na];rw [NA (by omega)]
   rw [e1];by_cases e:j<(eW P k).length
   ·have X:(eW P k ++ [k]).getD j 0=(eW P k).getD j 0:=by simp only [Na];rw [NA e]
    rw [X];exact V e
   ·have X:(eW P k ++ [k]).getD j 0=k:=by
     have U:j=(eW P k).length:=by omega
     simp only [Na];rw [N4 (by omega)];simp [U]
    rw [X];exact (lM (k:=k) (j:=i) (by omega)).1
theorem Ah (F:bQ O El) {R:ZZ} {P:Lz} (S:bz El m R) (X:lK R P m) (z:pz R P) (hlen:R.length=P.length) {f:Nat->Int} (G:∀x,x<m->El (f x)) :
  ((∀i,i<R.length->dotN O f (λp=>nth (aj R i) p) m=0)->RS O El m (dn O m R P m) f)/\((∀i,i<(dn O m R P m).length->dotN O f (λp=>nth (aj (dn O m R P m) i) p) m=0)->RS O El m R f):=by
 have K:=jA F S X hlen;have H:=ow F S X z hlen;have U:=gI O m R P m;have V:∀j,j<R.length->(nth P j).toNat<m:=λj Z=>by have:=X.lt j (by omega);omega
 have h1:∀i j,i<R.length->j<R.length->nth (aj R i) (nth P j).toNat=if i=j then 1 else 0:=λi j hi Z=>X.one j i (by omega) hi
 have Q:∀i,i<(dn O m R P m).length->(eW P m).getD i 0<m:=λi hi=>(lM (by omega)).1;have h2:∀i j,i<(dn O m R P m).length->j<(dn O m R P m).length->nth (aj (dn O m R P m) i) ((eW P m).getD j 0)=if i=j then 1 else 0:=λi j hi Z=>by
  rw [U] at hi Z;obtain ⟨a1,a2⟩:=lM (P:=P) hi;obtain ⟨b1,r⟩:=lM (P:=P) Z;rw [jP O m R P m hi];by_cases e:i=j
  ·subst e;rw [M7 rfl];exact ju X a1 a2 _ (M4 _)
  ·rw [M8 e];refine jM X b1 (λD=>?_) _ (M4 _) λq E D=>?_
   ·rcases Nat.lt_or_gt_of_ne e with h | h
    ·have:=wD P m i j h Z;omega
    ·have:=wD P m j i h hi;omega
   ·apply r;have N:=X.lt q E;rw [<- D,OV N.1];exact aG E
 have Y:∀x,x<m->(∃j,j<R.length/\(nth P j).toNat=x)\/∃i,i<(dn O m R P m).length/\(eW P m).getD i 0=x:=λx I=>by
  by_cases C:(x:Int) ∈ P
  ·obtain ⟨j,Z,e⟩:=List.mem_iff_getElem.1 C;exact .inl ⟨j,by omega,by rw [an Z,e];simp⟩
  ·obtain ⟨j,Z,e⟩:=List.mem_iff_getElem.1 ((jN (P:=P) m).2 ⟨I,C⟩);exact .inr ⟨j,by rw [U];exact Z,by rw [Na,NJ Z];exact e⟩
 exact ⟨rO F K S Q h2 V h1 (λx I=>(Y x I).symm) (oY.symm F S K H) G,rO F S K V h1 Q h2 Y H G⟩
def sU (O:aL) (m:Nat) (L:ZZ):ZZ:=bI O m (dn O m (bI O m L) (aE O L m).2 m)
theorem rI (F:bQ O El) (Z:bz El m L):bz El m (sU O m L):=dk F (jA F (dk F Z) (dc F Z).1 (cU F Z))
theorem qf (F:bQ O El) (Z:bz El m A) {f:Nat->Int} (Y:∀x,x<m->El (f x)) (h:∀i,i<A.length->dotN O f (λp=>nth (aj A i) p) m=0) {g:Nat->Int} (X:RS O El m A g):dotN O f g m=0:=by obtain ⟨e,he,h2⟩:=X;rw [gu (a':=f) (b':=λp=>e (bp A p)) m λp V=>⟨rfl,h2 p V⟩];exact lQ F Z he Y h
theorem J8 (F:bQ O El) (Y:bz El m L) {f:Nat->Int} (X:∀x,x<m->El (f x)):RS O El m (sU O m L) f ↔ ∀i,i<L.length->dotN O f (λp=>nth (aj L i) p) m=0:=by
 obtain ⟨V,S⟩:=dc F Y;have hlen:=cU F Y;have Z:=dk F Y;have U:=jA F Z V hlen;obtain ⟨s1,s2⟩:=dC F U;obtain ⟨t1,t2⟩:=dC F Y;have Q:=oY.symm F Z U (ow F Z V S hlen);constructor
 ·intro h i hi;exact qf F Z X (λj N=>RS.dot F U Z Q (s1.rs h) N) (t2 i hi)
 ·intro h;refine s2.rs ((Ah F Z V S hlen X).1 λi hi=>?_);exact qf F Y X h (t1 i hi)
theorem J3 (F:bQ O El) (Z:bz El m L) {f:Nat->Int} (X:∀x,x<m->El (f x)):(∀i,i<(sU O m L).length->dotN O f (λp=>nth (aj (sU O m L) i) p) m=0) ↔ RS O El m L f:=by
 obtain ⟨V,Q⟩:=dc F Z;have hlen:=cU F Z;have U:=dk F Z;have K:=jA F U V hlen;obtain ⟨s1,s2⟩:=dC F K;obtain ⟨t1,t2⟩:=dC F Z;have S:=rI F Z;constructor
 ·intro h;exact t1.rs ((Ah F U V Q hlen X).2 λi hi=>qf F S X h (s2 i hi))
 ·intro h i hi;have Y:∀p,p<m->El (nth (aj (sU O m L) i) p):=λp N=>R0 (S.row hi) N;rw [gW F m X Y];exact qf F Z Y ((J8 F Z Y).1 (Sx F hi)) h
def eZ (m:Nat) (z:Int):Lz:=(List.replicate m 0).set z.toNat 1
theorem Gp (F:bQ O El) (m:Nat) (z:Int):Vc El m (eZ m z):=⟨by simp [eZ],λy hy=>by
 rcases Oe hy with h | rfl
 ·rw [N3 h];exact F.zero
 ·exact F.one⟩
theorem RS.MA (F:bQ O El) (U:bz El m L) {f:Nat->Int} (h:RS O El m L f):∃v,Vc El L.length v/\∀x,x<m->f x=nth (cmbTo O m v L L.length) x:=by
 obtain ⟨e,he,h2⟩:=h;obtain ⟨c,N⟩:∃c,((List.range L.length).map λt=>e (gQ L.length t))=c:=⟨_,rfl⟩
 have X:c.length=L.length:=by rw [<- N];simp
 have Z:∀t,t<L.length->nth c t=e (gQ L.length t):=λt V=>by rw [<- N,dN _ _ _ V]
 have Y:Vc El L.length c:=⟨X,λy hy=>by obtain ⟨t,V,rfl⟩:=List.mem_iff_getElem.1 hy;rw [<- an V,Z t (by omega)];exact he.el _ (mg F _ _)⟩
 refine ⟨c,Y,λx Q=>?_⟩;rw [h2 x Q,uT F he (dw U F.zero x),mQ F U (λk K=>Y.at K) Q _ (M4 _)];exact gu _ λp S=>⟨(Z p S).symm,dx _ _ _ S⟩
theorem xy {l:Z6} {x:Nat} (V:∀y ∈ l,y<m) (X:x<m):lu O El A.length (bp A) l x ↔ ∀f,RS O El m A f->(∀y ∈ l,f y=0)->f x=0:=by
 constructor
 ·rintro h f ⟨e,he,h2⟩ h0;rw [h2 x X];exact h e he λy hy=>by rw [<- h2 y (V y hy)];exact h0 y hy
 ·intro h Y Z h0;exact h (λx=>Y (bp A x)) ⟨Y,Z,λ_ _=>rfl⟩ h0
end
theorem yY (P M:Int) (am:OA) (S I:Nat) (mod:Lz) (n:Nat) (a:OA) (k c:Nat) (L:ZZ) (w:ej) (z:aI P M mod n L=0) (Y:Ints w am S mod) (hi:bP w a k L) :
  Calls prog 210 #[.agg #[cG P,cG M,.slice am S I,cG n,.slice a k c]] w λe w' =>
   e = ec #[cG (nD (ah P M.toNat mod).q k),cG (jU (ah P M.toNat mod).q k)]/\SJ w w':=by
 have hk256:k<=256:=by rw [<- hi.len];exact (eh z).choose_spec.2.2.2.1
 have E:=(aX z).1;have r:Hid (∀V,SJ w V->Calls prog 88 #[.agg #[cG P,cG M,.slice am S I,cG n,.slice a k c]] V λe w'=>e = .returned (cG 0)/\SJ V w'):=λV Q=>by have h:=cH P M am S I mod n a k c L V (Y.ai Q) (hi.ai Q);rw [z] at h;exact h
 have D:Hid (∀V,SJ w V->Calls prog 52 #[.agg #[cG P,cG M,.slice am S I]] V λe w'=>∃b,e = ec #[ea b 0,cG 0]/\dg w' b (ah P M.toNat mod)/\SJ V w'):=λV Q=>by
  refine (dh P M am S I mod V (Y.ai Q)).mono ?_;rintro e w' (⟨h1,_⟩ | ⟨_,b,h2,h3,_,h4⟩)
  ·rw [E] at h1;cases h1
  ·exact ⟨b,h2,h3.gf,h4⟩
 obtain ⟨G,hG⟩:∃G,ah P M.toNat mod=G:=⟨_,rfl⟩
 rw [hG] at D ⊢;clear hG E z Y hi;go_enter func210,ntmps210;go_upto_region 1 with fail;obtain ⟨W,C⟩:∃W:ej,W=w.alloc (.cells #[cG P,cG M,.slice am S I,cG n,.slice a k c] 27):=⟨_,rfl⟩
 rw [<- C];have K:SJ w W:=by rw [C];exact aD _ _
 have F:aQ W w.heap.size [cG P,cG M,.slice am S I,cG n,.slice a k c]:=by rw [C];exact RV _ _ _ rfl
 have HX:=Z5 F;have c0:=F.cell 0 rfl;have c1:=F.cell 1 rfl;have c2:=F.cell 2 rfl;clear C F;go_wp2_with (go_at_call 52;refine (D _ K).mono ?_;rintro e w2 ⟨b,rfl,hG2,Z⟩;have H:=HX.ai Z;have d0:=H.cell 0 rfl;have d1:=H.cell 1 rfl;have d2:=H.cell 2 rfl;have d3:=H.cell 3 rfl;have d4:=H.cell 4 rfl;clear H);refine (r _ (RU K Z)).mono ?_;rintro e w3 ⟨rfl,U⟩;have X:=hG2.ai U;have j:(2:Int)<=G.q:=by have:=X.q2;omega
 have N:(G.q:Int)<=256:=by have:=X.q256;omega
 have e4:=((HX.ai Z).ai U).cell 4 rfl;have hGd:∀m,dg (w3.drewN m) b G:=λm=>X.drewN m;clear d0 d1 d2 d3 d4 c0 c1 c2;go_wp2_with fail;have HS:Hid (∀V,SJ w3 V->V.cell? ⟨w.heap.size,4,none⟩=some (.slice a k c)/\dg V b G/\SJ w3 V):=λV Q =>
  ⟨(((HX.ai Z).ai U).ai Q).cell 4 rfl,X.ai Q,Q⟩
 clear e4 hGd;go_region_held3 (λV=>V.cell? ⟨w.heap.size,4,none⟩=some (.slice a k c)/\dg V b G/\SJ w3 V)
  ((refine HS _ ?_;first|exact (M5 _ _).drew|(go_split_ands;assumption)|(go_split_ands;exact RU (by assumption) (by assumption))))
  (first
   | (go_at_call 63;((with_reducible refine (qg (b:=b) (G:=G) (by go_split_ands;assumption)).mono ?_);rintro e w4 ⟨rfl,rfl⟩))
   | (go_at_call 207;((with_reducible refine (Dz (G.q:Int) k _ j N (by omega)).mono ?_);rintro e w5 ⟨rfl,rfl⟩)))
 all_goals go_wp2_with fail
 all_goals go_ret2
 all_goals exact ⟨rfl,RU (RU (RU K Z) U) (by go_split_ands;assumption)⟩
theorem FG (P M:Int) (am:OA) (Z F:Nat) (mod:Lz) (Y:OA) (X V:Nat) (w:ej) (h:Ints w am Z mod) (D:Ints w Y X mod) :
  Calls prog 228 #[.agg #[cG P,cG M,.slice am Z F],.agg #[cG P,cG M,.slice Y X V]] w λe w'=>e = .returned (.bool true)/\SJ w w':=by
 obtain rfl:Z=X:=by have:=h.len;have:=D.len;omega
 have j:=h.pl;have r:=D.pl;have S:=h.max;unfold maxLen at S;go_enter func228,ntmps228;go_upto_region 1 with fail;obtain ⟨W,Q⟩:∃W:ej,W=(w.alloc (.cells #[cG P,cG M,.slice am Z F] 24)).alloc (.cells #[cG P,cG M,.slice Y Z V] 24):=⟨_,rfl⟩
 rw [<- Q];have U:SJ w W:=by rw [Q];exact dP _ _ _
 have K:aQ W w.heap.size [cG P,cG M,.slice am Z F]:=by rw [Q];exact (RV _ _ _ rfl).alloc _
 have I:aQ W (w.heap.size+1) [cG P,cG M,.slice Y Z V]:=by rw [Q];exact RV _ _ _ (by simp)
 have hh:=h.ai U;have G:=D.ai U;have c0:=K.cell 0 rfl;have c1:=K.cell 1 rfl;have c2:=K.cell 2 rfl;have d0:=I.cell 0 rfl;have d1:=I.cell 1 rfl;have d2:=I.cell 2 rfl;clear Q K I;have z:(P != P)=false:=by simp
 have C:(M != M)=false:=by simp
 have E:((Z:Int) != Z)=false:=by simp
 go_wp2_with fail;clear z C E;go_loop [31] (λH=>∃k:Nat,k<=Z/\H = cG k) (λH=>Z - (intOf H).toNat);case atStart=>exact ⟨0,Nb _,rfl⟩
 case round =>
  obtain ⟨k,hk,rfl⟩:=hrel
  by_cases N:k<Z
  ·have cc:=hh.cell k N
   have dd:=G.cell k N
   have hne:(nth mod k != nth mod k)=false:=by simp
   go_wp2_with fail
   go_round
   case rel=>exact ⟨k+1,by omega,by go_num⟩
   case measure=>simp [intOf]<;>omega
  ·obtain rfl:k=Z:=by omega
   go_wp2_with fail
   go_ret
   exact ⟨rfl,U⟩
theorem JO (P M:Int) (am:OA) (N K:Nat) (mod:Lz) (m:Nat) (a:OA) (n c:Nat) (L:ZZ) (Y:OA) (Z X:Nat) (a':OA) (H F:Nat) (L':ZZ) (w:ej)
  (Q:Ints w am N mod) (hi:bP w a n L) (U:Ints w Y Z mod) (E:bP w a' H L') (hE:aI P M mod m L=0) (C:aI P M mod m L'=0) :
  Calls prog 180 #[.agg #[cG P,cG M,.slice am N K,cG m,.slice a n c],.agg #[cG P,cG M,.slice Y Z X,cG m,.slice a' H F]] w λe w'=>e = .returned (cG 0)/\SJ w w':=by
 have HC1:Hid (∀V,SJ w V->Calls prog 88 #[.agg #[cG P,cG M,.slice am N K,cG m,.slice a n c]] V λe w'=>e = .returned (cG 0)/\SJ V w'):=λV S=>by have h:=cH P M am N K mod m a n c L V (Q.ai S) (hi.ai S);rw [hE] at h;exact h
 have HC2:Hid (∀V,SJ w V->Calls prog 88 #[.agg #[cG P,cG M,.slice Y Z X,cG m,.slice a' H F]] V λe w'=>e = .returned (cG 0)/\SJ V w'):=λV S=>by have h:=cH P M Y Z X mod m a' H F L' V (U.ai S) (E.ai S);rw [C] at h;exact h
 have HSm:Hid (∀V,SJ w V->Calls prog 228 #[.agg #[cG P,cG M,.slice am N K],.agg #[cG P,cG M,.slice Y Z X]] V λe w'=>e = .returned (.bool true)/\SJ V w'):=λV S =>
  FG P M am N K mod Y Z X V (Q.ai S) (U.ai S)
 clear Q hi U E hE C;go_enter func180,ntmps180;go_upto_region 1 with fail;obtain ⟨W,hW⟩:∃W:ej,W=(w.alloc (.cells #[cG P,cG M,.slice am N K,cG m,.slice a n c] 27)).alloc (.cells #[cG P,cG M,.slice Y Z X,cG m,.slice a' H F] 27):=⟨_,rfl⟩
 rw [<- hW];have z:SJ w W:=by rw [hW];exact dP _ _ _
 have x0:aQ W w.heap.size [cG P,cG M,.slice am N K,cG m,.slice a n c]:=by rw [hW];exact (RV _ _ _ rfl).alloc _
 have y0:aQ W (w.heap.size+1) [cG P,cG M,.slice Y Z X,cG m,.slice a' H F]:=by rw [hW];exact RV _ _ _ (by simp)
 have HS:Hid (∀V,SJ W V->V.cell? ⟨w.heap.size,0,none⟩=some (cG P)/\V.cell? ⟨w.heap.size,1,none⟩=some (cG M)/\V.cell? ⟨w.heap.size,2,none⟩=some (.slice am N K)/\V.cell? ⟨w.heap.size,3,none⟩=some (cG m)/\V.cell? ⟨w.heap.size,4,none⟩=some (.slice a n c) /\
   V.cell? ⟨w.heap.size+1,0,none⟩=some (cG P)/\V.cell? ⟨w.heap.size+1,1,none⟩=some (cG M)/\V.cell? ⟨w.heap.size+1,2,none⟩=some (.slice Y Z X)/\V.cell? ⟨w.heap.size+1,3,none⟩=some (cG m)/\V.cell? ⟨w.heap.size+1,4,none⟩=some (.slice a' H F)):=λV S=>by have j:=x0.ai S;have y1:=y0.ai S;exact ⟨j.cell 0 rfl,j.cell 1 rfl,j.cell 2 rfl,j.cell 3 rfl,j.cell 4 rfl,y1.cell 0 rfl,y1.cell 1 rfl,y1.cell 2 rfl,y1.cell 3 rfl,y1.cell 4 rfl⟩
 clear hW x0 y0;obtain ⟨c0,c1,c2,c3,c4,d0,d1,d2,d3,d4⟩:=HS W (M5 _ _);have HbW:=Z5 z;clear z;go_wp2_with fail;refine (HC1 W HbW.out).mono ?_;rintro e w1 ⟨rfl,G⟩;have r:=RU HbW.out G;clear c0 c1 c2 c3 c4 d0 d1 d2 d3 d4;obtain ⟨c0,c1,c2,c3,c4,d0,d1,d2,d3,d4⟩:=HS w1 G;go_wp2_with fail;refine (HC2 w1 r).mono ?_;rintro e w2 ⟨rfl,D⟩;have hF2:=RU r D;have I:=RU G D;clear c0 c1 c2 c3 c4 d0 d1 d2 d3 d4;obtain ⟨c0,c1,c2,c3,c4,d0,d1,d2,d3,d4⟩:=HS w2 I;have hmm:((m:Int) != m)=false:=by simp
 go_wp2_with (go_at_call 228;refine (HSm w2 hF2).mono ?_;rintro e w3 ⟨rfl,hb3⟩;obtain ⟨_,_,_,e3,_,_,_,_,g3,_⟩:=HS w3 (RU I hb3);have hF3:=RU hF2 hb3);go_ret;exact ⟨rfl,hF3⟩
def rY (P M:Int) (mod:Lz) (m:Nat) (a:OA) (n c:Nat) (L:ZZ) (w:ej) (e:Ending) (w':ej):Prop :=
 ∃b ap cp v2,e = ec #[.agg #[ea b 0,cG m,.slice a n c,.slice ap (bu (ah P M.toNat mod) L m).length cp],v2,cG 0] /\
  (∃(U:Nat) (S:Int) (a2:OA) (X c2:Nat) (Y:OA) (V Z:Nat),v2 = .agg #[ea U 0,cG S,.slice a2 X c2,.slice Y V Z])/\dg w' b (ah P M.toNat mod)/\Ints w' ap (bu (ah P M.toNat mod) L m).length (bu (ah P M.toNat mod) L m)/\SJ w w'
theorem Gq (P M:Int) (am:OA) (mn cm:Nat) (mod:Lz) (m:Nat) (a:OA) (n c:Nat) (L:ZZ) (a':OA) (z c':Nat) (L':ZZ) (w:ej)
  (hmod:Ints w am mn mod) (hi:bP w a n L) (hi':bP w a' z L') (hE:dI P M mod m L=0) (hE':dI P M mod m L'=0) :
  Calls prog 229 #[.agg #[cG P,cG M,.slice am mn cm],.agg #[cG m,.slice a n c],.agg #[cG m,.slice a' z c']] w (rY P M mod m a n c L w):=by
 have HO:Hid (∀V a n c L,SJ w V->bP V a n L->dI P M mod m L=0->Calls prog 190 #[.agg #[cG P,cG M,.slice am mn cm],.agg #[cG m,.slice a n c]] V λe w'=>SJ V w'/\∃b ap cp,
   e = ec #[.agg #[ea b 0,cG m,.slice a n c,.slice ap (bu (ah P M.toNat mod) L m).length cp],cG 0]/\yL V.heap.size w' b (ah P M.toNat mod)/\bH V.heap.size w' ap (bu (ah P M.toNat mod) L m).length (bu (ah P M.toNat mod) L m)):=λV a n c L hV hM h=>by
  refine (jZ P M am mn cm mod m a n c L V (hmod.ai hV) hM).mono ?_;rintro e w' ⟨hb,⟨h1,_⟩ | ⟨_,m',b,hm',ap,cp,rfl,E,_,D⟩⟩
  ·exact absurd h h1
  ·obtain rfl:m=m':=by omega
   exact ⟨hb,b,ap,cp,rfl,E,D⟩
 have Q:Hid (∀b ap cp v2 V,(∃(b2:Nat) (m2:Int) (a2:OA) (n2 c2:Nat) (K:OA) (k2 N:Nat),v2 = .agg #[ea b2 0,cG m2,.slice a2 n2 c2,.slice K k2 N])->dg V b (ah P M.toNat mod)->Ints V ap (bu (ah P M.toNat mod) L m).length (bu (ah P M.toNat mod) L m)->SJ w V ->
   rY P M mod m a n c L w (ec #[.agg #[ea b 0,cG m,.slice a n c,.slice ap (bu (ah P M.toNat mod) L m).length cp],v2,cG 0]) V):=λb ap cp v2 V h1 h2 h3 h4=>⟨b,ap,cp,v2,rfl,h1,h2,h3,h4⟩
 have HI:=Z5 (Ng hi hi');have HO1:=Z5 (λV hV hM=>HO V a n c L hV hM hE);have HO2:=Z5 (λV hV hM=>HO V a' z c' L' hV hM hE');generalize rY P M mod m a n c L w=Post at *;obtain ⟨k,hk⟩:∃k,(bu (ah P M.toNat mod) L m).length=k:=⟨_,rfl⟩
 obtain ⟨k',hk'⟩:∃k,(bu (ah P M.toNat mod) L' m).length=k:=⟨_,rfl⟩
 rw [hk] at HO1 Q;rw [hk'] at HO2;clear hmod hi hi' hE hE' HO hk hk';generalize bu (ah P M.toNat mod) L m=Pv at *;generalize bu (ah P M.toNat mod) L' m=Pv' at *;generalize ah P M.toNat mod=G at *;go_enter func229,ntmps229;go_upto_region 1 with fail;obtain ⟨W,j⟩:∃W:ej,W=((((w.alloc (.cells #[cG P,cG M,.slice am mn cm] 24)).alloc (.cells #[cG m,.slice a n c] 94)).alloc (.cells #[cG m,.slice a' z c'] 94)).alloc (.cells #[.pointer none,cG 0,ds,ds] 210)).alloc (.cells #[.pointer none,cG 0,ds,ds] 210):=⟨_,rfl⟩
 rw [<- j];have hbW:SJ w W:=by rw [j];exact RU (kY _ _ _ _) (dP _ _ _)
 have hsW:W.heap.size=w.heap.size+5:=by rw [j];simp
 have I:aQ W w.heap.size [cG P,cG M,.slice am mn cm]:=by rw [j];exact ((((RV _ _ _ rfl).alloc _).alloc _).alloc _).alloc _
 have F:aQ W (w.heap.size+1) [cG m,.slice a n c]:=by rw [j];exact (((RV _ _ _ (by simp)).alloc _).alloc _).alloc _
 have x2:aQ W (w.heap.size+1+1) [cG m,.slice a' z c']:=by rw [j];exact ((RV _ _ _ (by simp)).alloc _).alloc _
 have Y:aQ W (w.heap.size+1+1+1) [.pointer none,cG 0,ds,ds]:=by rw [j];exact (RV _ _ _ (by simp)).alloc _
 have x4:aQ W (w.heap.size+1+1+1+1) [.pointer none,cG 0,ds,ds]:=by rw [j];exact RV _ _ _ (by simp)
 clear j;have HX:=Z5 (Ng I (Ng F (Ng x2 (Ng Y x4))));have HbW:=Z5 hbW;have HsW:=Z5 hsW;go_cut [8] (λv8 wx=>v8 = cG 0/\∃b ap cp,aQ wx (w.heap.size+1+1+1) [ea b 0,cG m,.slice a n c,.slice ap k cp]/\aQ wx w.heap.size [cG P,cG M,.slice am mn cm]/\aQ wx (w.heap.size+1) [cG m,.slice a n c]/\aQ wx (w.heap.size+1+1) [cG m,.slice a' z c']/\aQ wx (w.heap.size+1+1+1+1) [.pointer none,cG 0,ds,ds]/\yL (w.heap.size+5) wx b G/\bH (w.heap.size+5) wx ap k Pv/\SJ w wx);case first =>
  have c0:=I.cell 0 rfl
  have c1:=I.cell 1 rfl
  have c2:=I.cell 2 rfl
  have d0:=F.cell 0 rfl
  have d1:=F.cell 1 rfl
  clear I F x2 Y x4 hbW hsW
  go_wp2_with fail
  refine (HO1 W HbW.out (HI.1.ai HbW.out)).mono ?_
  rintro e w1 ⟨S,b,ap,cp,rfl,E,D⟩
  clear c0 c1 c2 d0 d1
  obtain ⟨I,F,x2,Y,x4⟩:=HX.out
  have I:=I.ai S
  have F:=F.ai S
  have x2:=x2.ai S
  have Y:=Y.ai S
  have x4:=x4.ai S
  have z0:=Y.cell 0 rfl
  have z1:=Y.cell 1 rfl
  have z2:=Y.cell 2 rfl
  have z3:=Y.cell 3 rfl
  have f0:=Y.frozen 0
  have f1:=Y.frozen 1
  have f2:=Y.frozen 2
  have f3:=Y.frozen 3
  have hs:=HsW.out
  have hF:=RU HbW.out S
  have HR:Hid (aQ ((((w1.setCell ⟨w.heap.size+1+1+1,0,none⟩ (ea b 0)).setCell ⟨w.heap.size+1+1+1,1,none⟩ (cG m)).setCell ⟨w.heap.size+1+1+1,2,none⟩ (.slice a n c)).setCell ⟨w.heap.size+1+1+1,3,none⟩ (.slice ap k cp)) (w.heap.size+1+1+1) [ea b 0,cG m,.slice a n c,.slice ap k cp] /\
    (∀g cs,g ≠ w.heap.size+1+1+1->aQ w1 g cs->aQ ((((w1.setCell ⟨w.heap.size+1+1+1,0,none⟩ (ea b 0)).setCell ⟨w.heap.size+1+1+1,1,none⟩ (cG m)).setCell ⟨w.heap.size+1+1+1,2,none⟩ (.slice a n c)).setCell ⟨w.heap.size+1+1+1,3,none⟩ (.slice ap k cp)) g cs) /\
    yL (w.heap.size+5) ((((w1.setCell ⟨w.heap.size+1+1+1,0,none⟩ (ea b 0)).setCell ⟨w.heap.size+1+1+1,1,none⟩ (cG m)).setCell ⟨w.heap.size+1+1+1,2,none⟩ (.slice a n c)).setCell ⟨w.heap.size+1+1+1,3,none⟩ (.slice ap k cp)) b G /\
    bH (w.heap.size+5) ((((w1.setCell ⟨w.heap.size+1+1+1,0,none⟩ (ea b 0)).setCell ⟨w.heap.size+1+1+1,1,none⟩ (cG m)).setCell ⟨w.heap.size+1+1+1,2,none⟩ (.slice a n c)).setCell ⟨w.heap.size+1+1+1,3,none⟩ (.slice ap k cp)) ap k Pv /\
    SJ w ((((w1.setCell ⟨w.heap.size+1+1+1,0,none⟩ (ea b 0)).setCell ⟨w.heap.size+1+1+1,1,none⟩ (cG m)).setCell ⟨w.heap.size+1+1+1,2,none⟩ (.slice a n c)).setCell ⟨w.heap.size+1+1+1,3,none⟩ (.slice ap k cp))):=by
   refine ⟨(((Y.setCell 0 _).setCell 1 _).setCell 2 _).setCell 3 _,λg cs hg hx=>(((hx.MD (RP hg) 0 _).MD (RP hg) 1 _).MD (RP hg) 2 _).MD (RP hg) 3 _,?_,?_,?_⟩
   ·rw [<- hs];exact (((E.setCell (p:=⟨w.heap.size+1+1+1,0,none⟩) (by simp;omega) _).setCell (p:=⟨w.heap.size+1+1+1,1,none⟩) (by simp;omega) _).setCell (p:=⟨w.heap.size+1+1+1,2,none⟩) (by simp;omega) _).setCell (p:=⟨w.heap.size+1+1+1,3,none⟩) (by simp;omega) _
   ·rw [<- hs];exact (((D.setCell (p:=⟨w.heap.size+1+1+1,0,none⟩) (by simp;omega) _).setCell (p:=⟨w.heap.size+1+1+1,1,none⟩) (by simp;omega) _).setCell (p:=⟨w.heap.size+1+1+1,2,none⟩) (by simp;omega) _).setCell (p:=⟨w.heap.size+1+1+1,3,none⟩) (by simp;omega) _
   ·exact (((hF.setCell (p:=⟨w.heap.size+1+1+1,0,none⟩) (by simp;omega) _).setCell (p:=⟨w.heap.size+1+1+1,1,none⟩) (by simp;omega) _).setCell (p:=⟨w.heap.size+1+1+1,2,none⟩) (by simp;omega) _).setCell (p:=⟨w.heap.size+1+1+1,3,none⟩) (by simp;omega) _
  have HY:=Z5 (Ng I (Ng F (Ng x2 x4)))
  clear E D hs hF I F x2 Y x4
  go_wp2_with fail
  go_meet
  obtain ⟨r1,r2,r3,r4,r5⟩:=HR.out
  obtain ⟨r,C,H,Z⟩:=HY.out
  exact ⟨rfl,b,ap,cp,r1,r2 _ _ (by omega) r,r2 _ _ (by omega) C,r2 _ _ (by omega) H,r2 _ _ (by omega) Z,r3,r4,r5⟩
 obtain ⟨rfl,b,ap,cp,z3,r,C,H,Z,E,D,hF⟩:=hcut;generalize wc=V at *;clear I F x2 Y x4 hbW hsW HX HO1;have c0:=r.cell 0 rfl;have c1:=r.cell 1 rfl;have c2:=r.cell 2 rfl;have d0:=H.cell 0 rfl;have d1:=H.cell 1 rfl;have HZ:=Z5 (Ng z3 (Ng r (Ng C (Ng H Z))));have HG:=Z5 (Ng E D);clear z3 r C H Z E D;go_wp2_with fail;refine (HO2 V hF (HI.2.ai hF)).mono ?_;rintro e w2 ⟨U,b2,K,N,rfl,_,_⟩;clear c0 c1 c2 d0 d1;obtain ⟨z3,r,C,H,Z⟩:=HZ.out;have z3:=z3.ai U;have C:=C.ai U;have H:=H.ai U;have Z:=Z.ai U;have p0:=z3.cell 0 rfl;have p1:=z3.cell 1 rfl;have p2:=z3.cell 2 rfl;have p3:=z3.cell 3 rfl;have e0:=C.cell 0 rfl;have g0:=H.cell 0 rfl;have q0:=Z.cell 0 rfl;have q1:=Z.cell 1 rfl;have q2:=Z.cell 2 rfl;have q3:=Z.cell 3 rfl;have f0:=Z.frozen 0;have f1:=Z.frozen 1;have f2:=Z.frozen 2;have f3:=Z.frozen 3;have fp0:=z3.frozen 0;have fp1:=z3.frozen 1;have fp2:=z3.frozen 2;have fp3:=z3.frozen 3;have hmm:((m:Int) != m)=false:=by simp
 have hF2:=RU hF U;obtain ⟨E,D⟩:=HG.out;have hG2:=E.ai U;have hN2:=D.ai U;have HFin:Hid (∀(X:ej),X=((((w2.setCell ⟨w.heap.size+1+1+1+1,0,none⟩ (ea b2 0)).setCell ⟨w.heap.size+1+1+1+1,1,none⟩ (cG m)).setCell ⟨w.heap.size+1+1+1+1,2,none⟩ (.slice a' z c')).setCell ⟨w.heap.size+1+1+1+1,3,none⟩ (.slice K k' N)) ->
   Post (ec #[.agg #[ea b 0,cG m,.slice a n c,.slice ap k cp],.agg #[ea b2 0,cG m,.slice a' z c',.slice K k' N],cG 0]) X):=λX hX=>by
  subst hX;refine Q b ap cp _ _ ⟨_,_,_,_,_,_,_,_,rfl⟩ ?_ ?_ ?_
  ·exact ((((hG2.setCell (p:=⟨w.heap.size+1+1+1+1,0,none⟩) (by simp) _).setCell (p:=⟨w.heap.size+1+1+1+1,1,none⟩) (by simp) _).setCell (p:=⟨w.heap.size+1+1+1+1,2,none⟩) (by simp) _).setCell (p:=⟨w.heap.size+1+1+1+1,3,none⟩) (by simp) _).gf
  ·exact ((((hN2.setCell (p:=⟨w.heap.size+1+1+1+1,0,none⟩) (by simp) _).setCell (p:=⟨w.heap.size+1+1+1+1,1,none⟩) (by simp) _).setCell (p:=⟨w.heap.size+1+1+1+1,2,none⟩) (by simp) _).setCell (p:=⟨w.heap.size+1+1+1+1,3,none⟩) (by simp) _).ints
  ·exact (((hF2.setCell (p:=⟨w.heap.size+1+1+1+1,0,none⟩) (by simp;omega) _).setCell (p:=⟨w.heap.size+1+1+1+1,1,none⟩) (by simp;omega) _).setCell (p:=⟨w.heap.size+1+1+1+1,2,none⟩) (by simp;omega) _).setCell (p:=⟨w.heap.size+1+1+1+1,3,none⟩) (by simp;omega) _
 clear E D hG2 hN2 z3 r C H Z HZ HG;go_wp2_with fail;exact bodyPost_ret (v:=.tuple #[.agg #[ea b 0,cG m,.slice a n c,.slice ap k cp],.agg #[ea b2 0,cG m,.slice a' z c',.slice K k' N],cG 0]) (by simp [results,results229,go_sem,p0,p1,p2,p3,q0,q1,q2,q3]) rfl (HFin _ rfl)
section
open Go.RowKit Go.Shelf
theorem aB.putAt (w:ej) {I:Nat->Prop} {B:Nat} (Y:I B) (o:Obj):aB w (w.putObj B o) I I:=by have Z:=grownBy_putObj' w B o;exact ⟨Z.os,Z.tape,Z.output,Z.size,λb hb hI=>Z.block b hb (λe=>by cases e;exact hI Y),λb hb=>.inl hb⟩
theorem Ints.put {w:ej} {a:OA} {n:Nat} {l:Lz} (h:Ints w a n l) (B:Nat) (o:Obj) (Z:0<n->ablk a ≠ B):Ints (w.putObj B o) a n l :=
 h.of_block λY=>World.putObj_heap_other (λe=>Z Y e)
theorem uj {g:Operand} {ps:Array Tmp} {assign body:Code} {Q:Exit->Act->ej->Prop} {a:Act} {w:ej} {m n N:Nat} {lb:Array Value} {R:ZZ}
  (hg:a.eval g = .func (.func 250) #[] lb) (eg:∀args w,(callFunc 250 args).run prog w = .ok (.enter 250 args) w) (hps:ps.size=2) (hm:1<=m) (hn1:1<=n)
  (Y:Nat->Prop) (hMB:∀x,Y x->x<w.heap.size)
  (hseq:∀(l:Nat) (J:List WX->ej->Prop) (MM:Nat->Prop) (W:ej),SJ w W->W.heap.size=w.heap.size+2->(∀x,MM x->Y x\/x=w.heap.size+1) ->
   (∀pre V r,J pre V->SJ V r->J pre r)->(∀B pre V v,W.heap.size<=B->(∀x ∈ pre,ablk x.a ≠ B)->J pre V->J pre (V.setCell ⟨B,0,none⟩ v)) ->
   (∀m pre x V,J pre V->pre.length<N->Ints V x.a n x.l->(∀j,MM j->j ≠ ablk x.a)->Mb l n J MM m pre x V)->J [] W ->
   Calls prog 250 (#[.func (.yield l) #[] #[]] ++ lb) W λe V=>e = .returned (.tuple #[])/\∃xs:List WX,xs.map WX.l=R/\J xs V/\aB W V MM MM)
  (I:List WX->ej->Prop) (hIa:∀pre V r,I pre V->SJ V r->I pre r)
  (hIb:∀B pre V v,w.heap.size<=B->(∀x ∈ pre,ablk x.a ≠ B)->I pre V->I pre (V.setCell ⟨B,0,none⟩ v))
  (hIp:∀B pre V o,w.heap.size<=B->(∀x ∈ pre,ablk x.a ≠ B)->I pre V->I pre (V.putObj B o)) (h0:I [] w)
  (G:List WX->WX->Act)
  (X:∀(l m:Nat) (pre:List WX) (x:WX) (W:ej) (K:Act->ej->Prop),K (G pre x) W ->
   assign.wpIn (Fence.wide.inRound l) m prog (Exit.then K (λ_ _ _=>False)) { tmps:=(ps.zip #[cG (pre.length:Nat),.slice x.a n x.c]).foldl (λt (p,v)=>t.setIfInBounds p v) a.tmps,defers:=[] } W)
  (E:∀(l m:Nat) (pre:List WX) (x:WX) (W:ej),I pre W->pre.length<N->Ints W x.a n x.l->(∀j,Y j->j ≠ ablk x.a) ->
   body.wpIn (Fence.wide.inRound l) m prog (λe _ W'=>e = .normal/\I (pre ++ [x]) W'/\aB W W' Y Y) (G pre x) W)
  (C:∀(xs:List WX) (W:ej),xs.map WX.l=R->I xs W->aB w W (λx=>Y x\/w.heap.size<=x) (λx=>Y x\/w.heap.size<=x)->W.heap[w.heap.size]? = some (.deferred (some []))->Q .normal { a with defers:={ target:=.collected w.heap.size,args:=#[] } :: a.defers } W) :
  (Code.rangeFunc g ps assign body).wpIn Fence.wide m prog Q a w:=by
 refine wpIn_rangeFunc ?_;intro fn hfn;obtain ⟨rec,Z⟩:∃rec:LoopState->Option Code->Loop,rec=λst pe=>{ state:=st,pending:=pe,fn,tmps:=a.tmps,params:=ps,assign,body,defers:=w.heap.size }:=⟨_,rfl⟩
 obtain ⟨H,U⟩:∃H,(w.alloc (.deferred (some []))).alloc (.loop (rec .ready none))=H:=⟨_,rfl⟩
 have hL1:H.heap[w.heap.size+1]? = some (.loop (rec .ready none)):=by rw [<- U];have:=World.alloc_heap_new (w.alloc (.deferred (some []))) (.loop (rec .ready none));rwa [P9] at this
 have hK1:H.heap[w.heap.size]? = some (.deferred (some [])):=by rw [<- U];exact (PH _ _ _ (by simp)).trans (World.alloc_heap_new w _)
 have D:SJ w H:=by rw [<- U];exact dP _ _ _
 have hs1:H.heap.size=w.heap.size+2:=by rw [<- U];simp
 refine ⟨w.heap.size+1,[{ target:=.collected w.heap.size,args:=#[] }],H,{ target:=.fn (.func 250) lb,args:=#[.func (.yield (w.heap.size+1)) #[] #[]] },H,250,
  #[.func (.yield (w.heap.size+1)) #[] #[]] ++ lb,H,?_,?_,?_,?_,λ_=>hm,?_⟩
 ·rw [<- U,Z];exact run_enterLoop_outer _ _ _ _ _
 ·simp only [resolve,hg];simp [go_sem]
 ·intro f' hf';trivial
 ·simp [invoke,go_sem,eg]
 ·refine callsIn_wide.2 ((hseq (w.heap.size+1)
   (λpre W=>I pre W/\W.heap[w.heap.size+1]? = some (.loop (rec .ready none))/\W.heap[w.heap.size]? = some (.deferred (some []))/\∀x ∈ pre,ablk x.a ≠ w.heap.size+1)
   (λx=>Y x\/x=w.heap.size+1) H D hs1 (λx h=>h) ?_ ?_ ?_ ⟨hIa _ _ _ h0 D,hL1,hK1,λx hx=>by simp at hx⟩).mono ?_)
  ·rintro pre V r ⟨h1,h2,h3,h4⟩ hb;exact ⟨hIa _ _ _ h1 hb,(hb.block _ (Array.getElem?_eq_some_iff.1 h2).1).trans h2,(hb.block _ (Array.getElem?_eq_some_iff.1 h3).1).trans h3,h4⟩
  ·rintro B pre V v hB hx ⟨h1,h2,h3,h4⟩;exact ⟨hIb B _ _ _ (by omega) hx h1,(Nt _ _ _ _ (by show w.heap.size+1 ≠ B;omega)).trans h2,(Nt _ _ _ _ (by show w.heap.size ≠ B;omega)).trans h3,h4⟩
  ·rintro k pre x V ⟨hi,hl,hd,S⟩ hlen hix hxM;have hlt:w.heap.size+1<V.heap.size:=(Array.getElem?_eq_some_iff.1 hl).1;have F:ablk x.a ≠ w.heap.size+1:=λe=>hxM _ (.inr rfl) e.symm;have hy:=run_yield (P:=prog) (args:=#[cG (pre.length:Nat),.slice x.a n x.c]) hl (by rw [Z];exact hps.symm ▸ rfl);rw [Z] at hy;refine ⟨fn,_,assign,body,hy,roundIn_of_wpIn hfn (X _ _ pre x V _ ⟨_,run_beginRound hl (by rw [Z]),?_⟩)⟩;have hl2:(V.putObj (w.heap.size+1) (.loop { rec .ready none with state:=.busy })).heap[w.heap.size+1]? = some (.loop { rec .ready none with state:=.busy }):=World.putObj_heap_same hlt;have hd2:(V.putObj (w.heap.size+1) (.loop { rec .ready none with state:=.busy })).heap[w.heap.size]? = some (.deferred (some [])):=(World.putObj_heap_other (by omega)).trans hd;have hm2:aB V (V.putObj (w.heap.size+1) (.loop { rec .ready none with state:=.busy })) (λx=>Y x\/x=w.heap.size+1) (λx=>Y x\/x=w.heap.size+1):=aB.putAt _ (.inr rfl) _;refine wpIn_mono (E _ _ pre x _ (hIp _ _ _ _ (by omega) S hi) hlen (hix.put _ _ (λ_=>F)) (λj hj=>hxM j (.inl hj))) ?_;rintro e a3 W3 ⟨rfl,hi3,z⟩;have hnl:¬ Y (w.heap.size+1):=λh=>by have:=hMB _ h;omega
   have hnd:¬ Y w.heap.size:=λh=>by have:=hMB _ h;omega
   have hl3:=(z.block _ (Array.getElem?_eq_some_iff.1 hl2).1 hnl).trans hl2;have hd3:=(z.block _ (Array.getElem?_eq_some_iff.1 hd2).1 hnd).trans hd2;have hr:=run_endRound (P:=prog) none hl3;rw [Z] at hr;refine ⟨_,_,hr,rfl,⟨hIp _ _ _ _ (by omega) ?_ hi3,?_,?_,?_⟩,?_⟩
   ·intro y hy;rcases List.mem_append.1 hy with hy | hy
    ·exact S y hy
    ·rw [List.mem_singleton.1 hy];exact F
   ·rw [Z];exact World.putObj_heap_same (Array.getElem?_eq_some_iff.1 hl3).1
   ·exact (World.putObj_heap_other (by omega)).trans hd3
   ·intro y hy;rcases List.mem_append.1 hy with hy | hy
    ·exact S y hy
    ·rw [List.mem_singleton.1 hy];exact F
   ·exact (hm2.trans (z.wide (λx h=>.inl h))).trans (aB.putAt _ (.inr rfl) _)
  ·rintro e W2 ⟨rfl,xs,hx,⟨hi,hl,hd,S⟩,hmv⟩;refine ⟨none,_,by have:=run_endLoop (P:=prog) hl (by rw [Z];simp);rw [Z] at this;exact this,C xs _ hx (hIp _ _ _ _ (by omega) S hi) ?_ ((World.putObj_heap_other (by omega)).trans hd)⟩;have hw:aB w W2 (λx=>Y x\/w.heap.size<=x) (λx=>Y x\/w.heap.size<=x):=(RZ D _).trans (hmv.wide (λx h=>h.elim .inl (λe=>.inr (by omega))));exact hw.trans (aB.putAt _ (.inr (by omega)) _)
end
theorem pB (x:Int) (w:ej):Calls prog 221 #[cG x] w λe w'=>e = .returned (.bool false)/\w=w':=by go_enter func221,ntmps221;go_wp2;go_ret;exact ⟨by simp,rfl⟩
def uE (x y:Int):Int:=if x<y then -1 else if y<x then 1 else 0
theorem tD (x y:Int) (w:ej):Calls prog 212 #[cG x,cG y] w λe w'=>e = .returned (cG (uE x y))/\w=w':=by
 obtain ⟨r,Z⟩:∃r,uE x y=r:=⟨_,rfl⟩
 rw [Z];go_enter func212,ntmps212;unfold uE at Z;by_cases h1:x<y
 ·have d1:decide (x<y)=true:=by simpa using h1
  rw [M7 h1] at Z;clear h1;go_wp2_with (go_at_call 221;refine (pB _ _).mono ?_;rintro e w' ⟨rfl,rfl⟩);go_ret;exact ⟨by rw [<- Z];rfl,rfl⟩
 ·have d1:decide (x<y)=false:=by simpa using h1
  rw [M8 h1] at Z;by_cases h2:y<x
  ·have d2:decide (y<x)=true:=by simpa using h2
   rw [M7 h2] at Z;clear h1 h2;go_wp2_with (go_at_call 221;refine (pB _ _).mono ?_;rintro e w' ⟨rfl,rfl⟩);go_ret;exact ⟨by rw [<- Z];rfl,rfl⟩
  ·have d2:decide (y<x)=false:=by simpa using h2
   rw [M8 h2] at Z;clear h1 h2;go_wp2_with (go_at_call 221;refine (pB _ _).mono ?_;rintro e w' ⟨rfl,rfl⟩);go_ret;exact ⟨by rw [<- Z];rfl,rfl⟩
theorem DE:∀ {a b:Lz} {k:Nat},(∀j,j<k->nth a j=nth b j)->k<a.length->k<b.length->uE (nth a k) (nth b k) ≠ 0->cmpL a b=uE (nth a k) (nth b k)
 | [],_,k,_,h,_,_=>by simp at h
 | x :: a,[],k,_,_,h,_=>by simp at h
 | x :: a,y :: b,0,_,_,_,hne=>by
  have e1:nth (x :: a) 0=x:=rfl;have Z:nth (y :: b) 0=y:=rfl;rw [e1,Z] at hne ⊢;rw [cmpL];unfold uE at hne ⊢;split
  ·rfl
  ·split
   ·rfl
   ·rename_i h1 h2;rw [M8 h1,M8 h2] at hne;exact absurd rfl hne
 | x :: a,y :: b,k+1,h0,ha,hb,hne=>by
  have e:x=y:=by simpa [nth] using h0 0 (by omega)
  rw [cmpL,M8 (by omega),M8 (by omega)];have h1:=DE (a:=a) (b:=b) (k:=k) (λj Y=>by simpa [nth] using h0 (j+1) (by omega)) (by simpa using ha) (by simpa using hb) (by simpa [nth] using hne);simpa [nth] using h1
theorem rP:∀ {a b:Lz} {k:Nat},(∀j,j<k->nth a j=nth b j)->(k=a.length\/k=b.length)->k<=a.length->k<=b.length->cmpL a b=if a.length<b.length then -1 else if b.length<a.length then 1 else 0
 | [],[],_,_,_,_,_=>by simp [cmpL]
 | [],y :: b,_,_,_,_,_=>by simp [cmpL]
 | x :: a,[],_,_,_,_,_=>by simp [cmpL]
 | x :: a,y :: b,0,_,h,_,_=>by simp at h
 | x :: a,y :: b,k+1,h0,h,ha,hb=>by
  have e:x=y:=by simpa [nth] using h0 0 (by omega)
  rw [cmpL,M8 (by omega),M8 (by omega)];have h1:=rP (a:=a) (b:=b) (k:=k) (λj Z=>by simpa [nth] using h0 (j+1) (by omega)) (by simpa using h) (by simpa using ha) (by simpa using hb);rw [h1];simp
theorem qt (a:OA) (n c:Nat) (l:Lz) (a2:OA) (V c2:Nat) (X:Lz) (w:ej) (hi:Ints w a n l) (U:Ints w a2 V X) :
  Calls prog 159 #[.slice a n c,.slice a2 V c2] w λe w'=>e = .returned (cG (cmpL l X))/\w=w':=by
 have K:=Z5 hi.len;have Y:=Z5 U.len;have hpl:=hi.pl;have hpl2:=U.pl;have I:=hi.max;have N:=U.max;unfold maxLen at I N;go_enter func159,ntmps159;go_wp2_with fail;go_loop [11] (λE=>∃k:Nat,k<=n/\k<=V/\E = cG k/\Hid (∀j,j<k->nth l j=nth X j)) (λE=>n - (intOf E).toNat);case atStart=>exact ⟨0,Nb _,Nb _,rfl,λj hj=>by omega⟩
 case round =>
  obtain ⟨k,hk,G,rfl,Z⟩:=hrel
  by_cases H:k<n
  ·have ck:=hi.cell k H
   by_cases S:k<V
   ·have ck2:=U.cell k S
    have F:decide ((V:Int)<=(k:Int))=false:=by simp;omega
    by_cases he:uE (nth l k) (nth X k)=0
    ·have C:Hid (nth l k=nth X k):=by
      show _=_;unfold uE at he;split at he
      ·omega
      ·split at he
       ·omega
       ·omega
     have z:=tD (nth l k) (nth X k)
     rw [he] at z
     have D:=Z5 z
     clear he z
     go_wp2_with (go_at_call 212;refine (D _).mono ?_;rintro e w' ⟨rfl,rfl⟩)
     go_round
     case rel=>exact ⟨k+1,by omega,by omega,by go_num,λj hj=>by
      rcases NU j k with h | h
      ·exact Z j h
      ·rw [show j=k by omega];exact C⟩
     case measure=>simp [intOf]<;>omega
    ·have Q:=Z5 (DE Z.out (by rw [K.out];exact H) (by rw [Y.out];exact S) he)
     have D:=Z5 (tD (nth l k) (nth X k))
     have hne:(uE (nth l k) (nth X k) != 0)=true:=by simpa using he
     clear he
     generalize uE (nth l k) (nth X k)=r at *
     go_wp2_with (go_at_call 212;refine (D _).mono ?_;rintro e w' ⟨rfl,rfl⟩)
     go_ret
     exact ⟨aK Q.symm,rfl⟩
   ·have F:decide ((V:Int)<=(k:Int))=true:=by simp;omega
    have Q:Hid (cmpL l X=1):=by show _=_;rw [rP Z.out (.inr (by rw [Y.out];omega)) (by rw [K.out];exact hk) (by rw [Y.out];exact G),K.out,Y.out,M8 (by omega),M7 (by omega)]
    go_wp2_with fail
    go_ret
    exact ⟨aK Q.symm,rfl⟩
  ·have Q:Hid (cmpL l X=if n<V then -1 else 0):=by show _=_;rw [rP Z.out (.inl (by rw [K.out];omega)) (by rw [K.out];exact hk) (by rw [Y.out];exact G),K.out,Y.out,M8 (show ¬ V<n by omega)]
   obtain rfl:k=n:=by omega
   by_cases h2:k<V
   ·rw [M7 h2] at Q
    go_wp2_with fail
    go_ret
    exact ⟨aK Q.symm,rfl⟩
   ·rw [M8 h2] at Q
    go_wp2_with fail
    go_ret
    exact ⟨aK Q.symm,rfl⟩
section
variable {O:aL} {El:Int->Prop} {m:Nat} {L:ZZ}
theorem H6 (F:bQ O El) (Z:bz El m L) {f g:Nat->Int} (Y:RS O El m L f) (V:RS O El m (sU O m L) g):dotN O f g m=0:=by have U:=rI F Z;refine qf F U (λx X=>Y.el F Z X) (λi hi=>?_) V;exact (J3 F Z λx X=>Y.el F Z X).2 Y i hi
theorem Fz (F:bQ O El) (S:bz El m L) {l:Z6} (K:∀y ∈ l,y<m) {x:Nat} (U:x<m) {y:Lz} (hy:RS O El m (sU O m L) (λj=>nth y j)) (h1:nth y x=1)
  (h0:∀j,j<m->j ≠ x->¬ j ∈ l->nth y j=0):lu O El L.length (bp L) l x:=by
 refine (xy K U).2 λf Q I=>?_;have H:=rI F S;have hd:=H6 F S Q hy;have Y:∀p,p<m->El (f p):=λp Z=>Q.el F S Z;have X:∀p,p<m->El (nth y p):=λp Z=>hy.el F H Z;have e:=ki F (a:=f) (b:=λp=>nth y p) (x:=x) (F.cl.mul _ _ (Y x U) (X x U)) m λp Z hne=>by
  by_cases V:p ∈ l
  ·show O.mul (f p) (nth y p)=0;rw [I p V,F.mul_comm _ _ F.zero (X p Z),F.df (X p Z)]
  ·show O.mul (f p) (nth y p)=0;rw [h0 p Z hne V,F.df (Y p Z)]
 rw [hd,M7 U] at e;have N:O.mul (f x) (nth y x)=0:=e.symm;rw [h1,F.iH (Y x U)] at N;exact N
end
section
open Go.RowKit Go.Shelf
theorem A9:(prog.info? 22).map (λi=>(i.zero,i.size,i.bytes))=some (some ds,1,24):=by kernel_rfl
theorem KY (n:Nat) (V:n<=1000000) (w:ej) :
  (Instr.makeSlice 25 (cG 0) (cG n)).run prog w = .ok (.slice (some ⟨w.heap.size,0,none⟩) 0 n) (w.alloc (.cells (List.replicate n (Value.slice none 0 0)).toArray 22)):=by
 obtain ⟨i,hi,Y,Z,X⟩:=info_parts A9;have h:=run_make (P:=prog) w 25 22 i ds underlying25 hi Y .i64 .i64 0 n (by omega) (by omega) (by rw [X];omega) (by omega);rw [Z,RG,show (Value.slice none 0 0).cells = #[Value.slice none 0 0] from rfl,M9] at h;have e:madeCells #[Value.slice none 0 0] n=(List.replicate n (Value.slice none 0 0)).toArray:=by rw [<- toList_madeCells_one]
 rw [h,e];rfl
def Dk (B Y Z n X:Nat) (pre:List WX) (V:ej):Prop :=
 (aQ V Y [.slice (some ⟨Z,0,none⟩) pre.length X]/\V.ownsRow B 22 1 (.slice (some ⟨Z,0,none⟩) pre.length X) pre.length (pre.map λx=>.slice x.a n x.c)) /\
  ∀x ∈ pre,Ints V x.a n x.l/\ablk x.a ≠ Y/\ablk x.a ≠ Z
theorem Dk.bf {B Y U n Q:Nat} {pre:List WX} {V X:ej} (h:Dk B Y U n Q pre V) (S:X.heap[Y]? = V.heap[Y]?) (H:X.heap[U]? = V.heap[U]?) (I:∀x ∈ pre,X.heap[ablk x.a]? = V.heap[ablk x.a]?) (K:V.heap.size<=X.heap.size):Dk B Y U n Q pre X :=
 ⟨⟨⟨Nz h.1.1.1 K,λi v N=>(NG (w:=V) (a:=⟨Y,i,none⟩) S).trans (h.1.1.2.1 i v N),λi=>(NI (w:=V) (a:=⟨Y,i,none⟩) S).trans (h.1.1.2.2 i)⟩,
  fh h.1.2 H⟩,λx Z=>⟨(h.2 x Z).1.of_block λ_=>I x Z,(h.2 x Z).2⟩⟩
theorem Dk.Md {B Y Z n X:Nat} {pre:List WX} {V:ej} (h:Dk B Y Z n X pre V):B<=Z/\Z<V.heap.size:=aP h.1.2 (by simp)
theorem aQ.MI {w:ej} {b:Nat} {v:Value} (h:aQ w b [v]) (u:Value):aQ (w.setCell ⟨b,0,none⟩ u) b [u] :=
 ⟨by have:=((M5 0 w).setCell (p:=⟨b,0,none⟩) (Nb _) u).size;exact Nz h.1 this,λi x Z=>by
  cases i with
  | zero=>simp at Z;subst Z;exact PJ _ _ _ (by rw [h.2.1 0 v rfl];rfl)
  | succ i=>simp at Z,λi=>by rw [NY];exact h.2.2 i⟩
theorem aQ.of_block {w w':ej} {b:Nat} {cs:List Value} (h:aQ w b cs) (hb:w'.heap[b]? = w.heap[b]?) (Y:w.heap.size<=w'.heap.size):aQ w' b cs :=
 ⟨Nz h.1 Y,λi v Z=>(NG (w:=w) (a:=⟨b,i,none⟩) hb).trans (h.2.1 i v Z),λi=>(NI (w:=w) (a:=⟨b,i,none⟩) hb).trans (h.2.2 i)⟩
theorem aB.LJ {w w':ej} {I:Nat->Prop} {B:Nat} (Z:w.grownBy w' (some B)) (Y:I B):aB w w' I I :=
 ⟨Z.os,Z.tape,Z.output,Z.size,λb hb hI=>Z.block b hb (λe=>by cases e;exact hI Y),λb hb=>.inl hb⟩
theorem Dk.step {B Z n U:Nat} {pre:List WX} {x:WX} {W X:ej} {o:Obj} (h:Dk B (Z+1) Z n U pre W) (H:Ints W x.a n x.l) (F:1<=n) (K:ablk x.a ≠ Z+1) (Q:ablk x.a ≠ Z)
  (N:(W.alloc o).grownBy X (some Z)) (S:X.ownsRow B 22 1 (.slice (some ⟨Z,0,none⟩) (pre.length+1) U) (pre.length+1) (pre.map (λx=>.slice x.a n x.c) ++ [.slice x.a n x.c])) :
  Dk B (Z+1) Z n U (pre ++ [x]) (X.setCell ⟨Z+1,0,none⟩ (.slice (some ⟨Z,0,none⟩) (pre.length+1) U)) /\
   aB W (X.setCell ⟨Z+1,0,none⟩ (.slice (some ⟨Z,0,none⟩) (pre.length+1) U)) (λy=>y=Z+1\/y=Z) (λy=>y=Z+1\/y=Z):=by
 have V:∀y,y<W.heap.size->y ≠ Z->X.heap[y]? = W.heap[y]?:=λy hy h2=>(N.block y (by simp;omega) (λe=>by cases e;exact h2 rfl)).trans (PH _ _ _ hy);have I:W.heap.size<=X.heap.size:=by have:=N.size;simp at this;omega
 have G:aQ X (Z+1) [.slice (some ⟨Z,0,none⟩) pre.length U]:=h.1.1.of_block (V _ h.1.1.1 (by omega)) I;refine ⟨⟨⟨by rw [Ni];exact G.MI _,?_⟩,?_⟩,((RZ (aD W o) _).trans (aB.LJ N (.inr rfl))).trans (aB.setAt _ (.inl rfl) _)⟩
 ·have h2:=fh S (w':=X.setCell ⟨Z+1,0,none⟩ (.slice (some ⟨Z,0,none⟩) (pre.length+1) U)) (Nt _ _ _ _ (by show Z ≠ Z+1;omega));rw [Ni,NT];exact h2
 ·intro y hy;have Y:Ints W y.a n y.l/\ablk y.a ≠ Z+1/\ablk y.a ≠ Z:=by
   rcases List.mem_append.1 hy with hy | hy
   ·exact h.2 y hy
   ·rw [List.mem_singleton.1 hy];exact ⟨H,K,Q⟩
  refine ⟨Y.1.of_block λh0=>?_,Y.2⟩;exact (Nt _ _ _ _ (by show ablk y.a ≠ Z+1;exact Y.2.1)).trans (V _ (Y.1.lt h0) Y.2.2)
attribute [local go_sem] QO
theorem IE (P M:Int) (am:OA) (Z Y:Nat) (N:Int) (a:OA) (k c:Nat) (w:ej) :
  Calls prog 211 #[.agg #[cG P,cG M,.slice am Z Y,cG N,.slice a k c]] w λe w' =>
   e = .returned (.func (.func 250) #[] #[ea w.heap.size 0])/\w'=w.alloc (.cells #[cG P,cG M,.slice am Z Y,cG N,.slice a k c] 27):=by have X:∀(fn:Fn) (first cap:Array Value) (w:ej),(Instr.makeFunc fn first cap).run prog w = .ok (.func fn first cap) w:=λ_ _ _ _=>rfl;go_enter func211,ntmps211;go_wp2;go_ret;exact ⟨rfl,rfl⟩
theorem Eg (P M:Int) (am:OA) (z r:Nat) (mod:Lz) (n:Nat) (a:OA) (k c:Nat) (L:ZZ) (w:ej) (Y:Nat) (hE:aI P M mod n L=0) (hmod:Ints w am z mod) (hi:bP w a k L)
  (hNN:(ah P M.toNat mod).q ^ k=Y) (hN6:Y<=65536) :
  Calls prog 158 #[.agg #[cG P,cG M,.slice am z r,cG n,.slice a k c]] w λe w' =>
   ∃ao co,e = ec #[.slice ao Y co,cG 0]/\bP w' ao Y (wlkS (ah P M.toNat mod).ops (ah P M.toNat mod).q L (List.replicate n 0))/\SJ w w':=by
 obtain ⟨N',em,hm1,hm64,F,hR⟩:=aT hE;obtain rfl:n=N':=by omega
 have HSz:Hid (∀V,SJ w V->Calls prog 210 #[.agg #[cG P,cG M,.slice am z r,cG n,.slice a k c]] V λe w'=>e = ec #[cG (Y:Nat),cG 0]/\SJ V w'):=λV hV=>by
  refine (yY P M am z r mod n a k c L V hE (hmod.ai hV) (hi.ai hV)).mono ?_;rintro e w' ⟨rfl,h2⟩;have h3:((ah P M.toNat mod).q:Int) ^ k=(Y:Nat):=by rw [<- hNN];simp
  have h4:=od (q:=(ah P M.toNat mod).q) (k:=k) (by rw [h3];omega);rw [h4.1,h4.2,h3];exact ⟨rfl,h2⟩
 have HWk:Hid (∀(W:ej) (Bc l:Nat),SJ w W->aQ W Bc [cG P,cG M,.slice am z r,cG n,.slice a k c]->∀(J:List WX->ej->Prop) (MM:Nat->Prop),(∀x,MM x->x<W.heap.size) ->
   (∀V,(∀x,x<W.heap.size->¬ MM x->V.heap[x]? = W.heap[x]?)->bP V a k L/\V.cell? ⟨Bc,4,none⟩=some (.slice a k c)) ->
   (∀pre V V',J pre V->SJ V V'->J pre V')->(∀B pre V v,W.heap.size<=B->(∀x ∈ pre,ablk x.a ≠ B)->J pre V->J pre (V.setCell ⟨B,0,none⟩ v)) ->
   (∀m pre x V,J pre V->pre.length<Y->Ints V x.a n x.l->(∀j,MM j->j ≠ ablk x.a)->Mb l n J MM m pre x V)->J [] W ->
   Calls prog 250 #[.func (.yield l) #[] #[],ea Bc 0] W λe V=>e = .returned (.tuple #[]) /\
    ∃xs:List WX,xs.map WX.l=wlkS (ah P M.toNat mod).ops (ah P M.toNat mod).q L (List.replicate n 0)/\J xs V/\aB W V MM MM):=by intro W Bc l hb X J MM h1 h2 h3 h4 h5 h6;refine F3 P M am z r mod n a k c L W Bc l hE X (hmod.ai hb) (hi.ai hb) J MM h1 h2 h3 h4 ?_ (by rw [hNN];omega) h6;intro m pre x V hj hl;rw [hNN] at hl;exact h5 m pre x V hj hl
 have Hmat:Hid (∀V,(∀x,x<w.heap.size->V.heap[x]? = w.heap[x]?)->bP V a k L):=λV hV=>⟨hi.len,hi.pl,hi.max,λi hik=>by obtain ⟨b,m,c',h1,h2⟩:=hi.cell i hik;exact ⟨b,m,c',(NG (w:=w) (hV _ (Nf _ _ h1))).trans h1,h2.of_block λh0=>hV _ (h2.lt h0)⟩⟩
 have Hlen:Hid ((wlkS (ah P M.toNat mod).ops (ah P M.toNat mod).q L (List.replicate n 0)).length=Y):=by show _=_;rw [lY,hi.len,hNN]
 generalize wlkS (ah P M.toNat mod).ops (ah P M.toNat mod).q L (List.replicate n 0)=R at *;clear hNN hR F em hE hmod hi;refine (callsIn_wide (n:=8)).1 ?_;refine callsIn_of_wp_marks func158 rfl trivial ?_ rfl;simp only [ntmps158,O5,NO,Pn,Nat.reduceAdd,Nat.reduceSub,ON,OO,O6,OU,Oy,OD];refine wpIn_wide.2 ?_;go_upto_region 1 with fail;obtain ⟨W1,hW1⟩:∃W1:ej,W1=w.alloc (.cells #[cG P,cG M,.slice am z r,cG n,.slice a k c] 27):=⟨_,rfl⟩
 rw [<- hW1];have hb1:SJ w W1:=by rw [hW1];exact aD _ _
 have x1:aQ W1 w.heap.size [cG P,cG M,.slice am z r,cG n,.slice a k c]:=by rw [hW1];exact RV _ _ _ rfl
 have X1:=Z5 x1;have c0:=x1.cell 0 rfl;have c1:=x1.cell 1 rfl;have c2:=x1.cell 2 rfl;have c3:=x1.cell 3 rfl;have c4:=x1.cell 4 rfl;clear hW1 x1;go_upto_region 4 with (go_at_call 210;refine (HSz _ hb1).mono ?_;rintro e w2 ⟨rfl,hb2⟩;clear c0 c1 c2 c3 c4)
 have hmk:=λV=>KY Y (by omega) V;go_upto_region 5 with fail;obtain ⟨Z,E⟩:∃Z,Z=w2.heap.size:=⟨_,rfl⟩
 rw [<- E];obtain ⟨Q,D⟩:∃Q:ej,Q=((w2.alloc (.cells (Array.replicate Y (Value.slice none 0 0)) 22)).alloc (.cells #[.slice (some ⟨Z,0,none⟩) 0 Y] 25)):=⟨_,rfl⟩
 rw [<- D];have hb3:SJ w2 Q:=by rw [D];exact dP _ _ _
 have S:Q.heap.size=Z+2:=by rw [D,E];simp
 have hwB:w.heap.size<Z:=by have h1:=X1.1;have h2:=hb2.size;omega
 have hwi:Dk w.heap.size (Z+1) Z n Y [] Q:=by
  refine ⟨⟨?_,?_⟩,λx X=>by simp at X⟩
  ·rw [D];exact RV _ _ _ (by rw [E];simp)
  ·refine ⟨rfl,.inr ⟨Z,Y,Array.replicate Y (Value.slice none 0 0),rfl,by omega,?_,by simp,by unfold maxLen;omega,by simp,by simp⟩⟩;rw [D,E];exact (PH _ _ _ (by simp)).trans (World.alloc_heap_new w2 _)
 have Hwi:=Z5 hwi;have HBr:=Z5 E;have hb13:=RU (RU hb1 hb2) hb3;have x3:=(X1.ai hb2).ai hb3;have c0:=x3.cell 0 rfl;have c1:=x3.cell 1 rfl;have c2:=x3.cell 2 rfl;have c3:=x3.cell 3 rfl;have c4:=x3.cell 4 rfl;have Hs3:=Z5 S;clear D hwi E x3 hmk;go_wp2_with (go_at_call 211;refine (IE P M am z r n a k c Q).mono ?_;rintro e w4 ⟨rfl,I⟩;have Hw4:=Z5 I;clear I S);have I:=Hw4.out;have S:=Hs3.out;have C:SJ Q w4:=by rw [I];exact aD _ _
 have G:w4.heap.size=Q.heap.size+1:=by rw [I];simp
 have x4:aQ w4 Q.heap.size [cG P,cG M,.slice am z r,cG n,.slice a k c]:=by rw [I];exact RV _ _ _ rfl
 clear I c0 c1 c2 c3 c4;have hi4:Dk w.heap.size (Z+1) Z n Y [] w4:=Dk.bf Hwi.out (C.block _ (by omega)) (C.block _ (by omega)) (λx X=>by simp at X) C.size;have Hs4:=Z5 G;obtain ⟨i0,hi,hz0,hz1,hz2⟩:=info_parts A9;have hMB4:∀x,(x=Z+1\/x=Z)->x<w4.heap.size:=λx X=>by omega
 clear S G;refine (wpIn_wide (n:=8)).1 ?_;refine uj (n:=n) (N:=Y) (lb:=#[ea Q.heap.size 0]) (R:=R) rfl (enters_of func250 (by kernel_rfl) rfl) rfl (by omega) hm1
  (λx=>x=Z+1\/x=Z) hMB4 ?hseq (Dk w.heap.size (Z+1) Z n Y) ?hIa ?hIb ?hIp hi4
  (λpre x=>{ tmps:=#[.agg #[cG P,cG M,.slice am z r,cG n,.slice a k c],ea w.heap.size 0,ds,cG 0,cG Y,cG 0,ea (Z+1) 0,undef,.slice x.a n x.c,
   .tuple #[cG Y,cG 0],.agg #[cG P,cG M,.slice am z r,cG n,.slice a k c],.tuple #[cG Y,cG 0],cG Y,cG 0,cG 0,.bool false,undef,cG Y,.slice (some ⟨Z,0,none⟩) 0 Y,
   .agg #[cG P,cG M,.slice am z r,cG n,.slice a k c],.func (.func 250) #[] #[ea Q.heap.size 0],cG (pre.length:Nat),.slice x.a n x.c,undef,undef,undef,undef,undef],defers:=[] })
  ?assign ?body ?done
 case hseq =>
  intro l J MM W hb hs hMM hJa hJb hY h0
  have S:=Hs3.out
  have G:=Hs4.out
  have hbw:SJ w W:=RU (RU hb13 C) hb
  refine HWk W Q.heap.size l hbw (x4.ai hb) J MM (λx X=>by have:=hMM x X;omega) (λV hV=>?_) hJa hJb hY h0
  have hwV:∀x,x<w.heap.size->V.heap[x]? = w.heap[x]?:=λx X=>(hV x (by have:=hbw.size;omega) (λh=>by have:=hMM x h;have:=C.size;omega)).trans (hbw.block x X)
  refine ⟨Hmat V hwV,?_⟩
  ·refine (NG (w:=W) (a:=⟨Q.heap.size,4,none⟩) (hV _ ?_ ?_)).trans ((x4.ai hb).cell 4 rfl)
   ·have:=(x4.ai hb).1;exact this
   ·intro h
    have h2:(Q.heap.size=Z+1\/Q.heap.size=Z)\/Q.heap.size=w4.heap.size+1:=hMM _ h
    omega
 case hIa =>
  intro pre V V' h hb
  exact h.bf (hb.block _ h.1.1.1) (hb.block _ h.Md.2) (λx X=>hb.block _ ((h.2 x X).1.lt hm1)) hb.size
 case hIb =>
  intro B pre V v hB X h
  have S:=Hs3.out
  have G:=Hs4.out
  refine h.bf (Nt _ _ _ _ ?_) (Nt _ _ _ _ ?_) (λx hxp=>Nt _ _ _ _ (X x hxp)) (((M5 0 V).setCell (p:=⟨B,0,none⟩) (Nb _) v).size)
  ·show Z+1 ≠ B;omega
  ·show Z ≠ B;omega
 case hIp =>
  intro B pre V o hB X h
  have S:=Hs3.out
  have G:=Hs4.out
  refine h.bf (World.putObj_heap_other ?_) (World.putObj_heap_other ?_) (λx hxp=>World.putObj_heap_other (X x hxp)) (grownBy_putObj' V B o).size
  ·omega
  ·omega
 case assign =>
  intro l m pre x W K hK
  gi_wp2
  exact hK
 case body =>
  rintro l m pre x W h hlt hix hxM
  have hcv:=h.1.1.cell 0 rfl
  have hrow:=h.1.2
  obtain ⟨v,hv⟩:∃v,v=Value.slice (some ⟨Z,0,none⟩) pre.length Y:=⟨_,rfl⟩
  rw [<- hv] at hcv
  have Hv:=Z5 hv
  have Hh:=Z5 h
  clear hv h
  gi_wp2_with (gi_at_builtin;refine wpListIn_append_fits _ rfl _ _ 25 rfl w.heap.size 22 i0 1 underlying25 hi hz1 Z pre.length Y (pre.map λx=>.slice x.a n x.c) Hv.out (hrow.alloc _) ⟨W.heap.size,0,none⟩ 1 1 [.slice x.a n x.c] rfl rfl (cell_one_new _ _ _) (by simp [Value.oneCell']) (by omega) ?_;intro w1 hown1 U;have hbo:aQ w1 (Z+1) [.slice (some ⟨Z,0,none⟩) pre.length Y]:=(Hh.1.1.alloc _).of_block (U.block _ (Hh.1.1.alloc _).1 (λe=>by injection e with e;omega)) U.size;have hc1:=hbo.cell 0 rfl;have hf1:=hbo.frozen 0)
  have hst:=Dk.step Hh.out hix hm1 (λe=>hxM _ (.inl rfl) e.symm) (λe=>hxM _ (.inr rfl) e.symm) U hown1
  exact ⟨hst.1,hst.2⟩
 case done =>
  intro xs V X hI hm hK
  have hcv:=hI.1.1.cell 0 rfl
  have HI:=Z5 hI
  have Hm:=Z5 hm
  have Hx:=Z5 X
  clear hI hm X
  go_wp2_with fail
  refine ⟨by simp,.inl ⟨_,_,rfl,run_takeDeferred hK,?_⟩⟩
  have hxl:xs.length=Y:=by rw [<- Hlen.out,<- Hx.out,No]
  have hIV:Dk w.heap.size (Z+1) Z n Y xs (V.putObj w4.heap.size (.deferred none)):=by
   have S:=Hs3.out;have G:=Hs4.out;have hlo:∀x ∈ xs,ablk x.a ≠ w4.heap.size:=λx X e=>by obtain ⟨_,ix⟩:=(HI.2 x X).1.cell 0 hm1 |> λh=>Ng h (Array.getElem?_eq_some_iff.1 hK).1;have h1:=(HI.2 x X).1.cell 0 hm1;rw [e] at h1;simp [World.cell?,hK] at h1
   exact HI.bf (World.putObj_heap_other (by omega)) (World.putObj_heap_other (by omega)) (λx X=>World.putObj_heap_other (hlo x X)) (grownBy_putObj' V _ _).size
  have H:SJ w w4:=RU hb13 C
  have hbV:Below w.heap.size w4 V:=Hm.below (λb hb=>by have:=H.size;omega) H.size
  refine ⟨_,results_tmp2 rfl _ _ _,some ⟨Z,0,none⟩,Y,?_,?_,?_⟩
  ·simp [hxl]
  ·refine ⟨Hlen,λ_=>rfl,by unfold maxLen;omega,λi hi=>?_⟩
   obtain ⟨y,hy⟩:∃y,xs[i]? = some y:=⟨xs[i],NJ (by omega)⟩
   have hrow:=hIV.1.2
   have hc:=hrow.cellAt i (by omega)
   rw [OQ,hy] at hc
   refine ⟨y.a,n,y.c,?_,?_⟩
   ·have e:aN (some ⟨Z,0,none⟩:OA)+i=i:=by simp [aN]
    rw [e];exact hc
   ·have h2:=(hIV.2 y (List.mem_of_getElem? hy)).1
    have e:aj R i=y.l:=by
     rw [<- Hx.out,aH (by rw [No];omega),Oc];rw [NJ (by omega)] at hy;injection hy with hy
     rw [hy]
    rw [e];exact h2
  ·exact (H.trans hbV).trans (belowK_b (w:=w4) H.size V w4.heap.size _ _ (M4 _) hK rfl rfl)
end
section
variable {O:aL} {El:Int->Prop} {m:Nat} {R:ZZ} {P:Lz}
theorem xR (F:bQ O El) (hI:BS.Inv El m ⟨R,P⟩) {S:ZZ} (hS:bz El m S) (X:eY O El m R S) {v:Lz} (Q:Vc El m v):∀k,k<=R.length->(RS O El m S (λx=>nth (redTo O R P v k) x) ↔ RS O El m S (λx=>nth v x))
 | 0,_=>Iff.rfl
 | k+1,N=>by
  have hu:Vc El m (redTo O R P v k):=SD F hI.ok Q k (show k<=R.length by omega);have Z:(nth P k).toNat<m:=hI.ok.pl (show k<R.length by omega);have V:Vc El m (aj R k):=hI.ok.row (show k<R.length by omega);refine Iff.trans ?_ (xR F hI hS X Q k (by omega));constructor
  ·intro h;refine (RS.add F hS h (X k (by omega)) (hu.at Z)).congr λx Y=>?_;have e1:=hu.at Y;have U:=F.cl.mul _ _ (hu.at Z) (V.at Y);rw [redTo,gy F hu V Z Y,F.mul_comm _ _ (V.at Y) (hu.at Z),F.add_assoc _ _ _ e1 (F.cl.neg _ U) U,F.po U,F.add_zero _ e1]
  ·intro h;refine (h.comb F (X k (by omega)) (hu.at Z)).congr λx Y=>?_;rw [redTo,gy F hu V Z Y,F.mul_comm _ _ (hu.at Z) (V.at Y)]
theorem fY {A B:ZZ} (h:∀r ∈ A,RS O El m B (λx=>nth r x)):eY O El m A B:=λi hi=>h _ (jy hi)
theorem oy {A B:ZZ} (h:eY O El m A B) {r:Lz} (Z:r ∈ A):RS O El m B (λx=>nth r x):=by obtain ⟨i,hi,rfl⟩:=mq Z;exact h i hi
theorem iy (F:bQ O El) {A:ZZ} {r:Lz} (Z:r ∈ A):RS O El m A (λx=>nth r x):=by obtain ⟨i,hi,rfl⟩:=mq Z;exact Sx F hi
theorem eY.tr {A B C:ZZ} (h:eY O El m A B) (h2:eY O El m B C):eY O El m A C:=λi hi=>h2.rs (h i hi)
theorem zN (F:bQ O El) {X Y:ZZ} (Z:bz El m X) (V:bz El m Y) (h1:eY O El m X Y) (h2:eY O El m Y X):bI O m X=bI O m Y:=by obtain ⟨U,N⟩:=dC F Z;obtain ⟨Q,S⟩:=dC F V;exact AM F (dk F Z) (dk F V) (dc F Z).1 (dc F V).1 (dc F Z).2 (dc F V).2 (cU F Z) (cU F V) ((U.tr h1).tr S) ((Q.tr h2).tr N)
theorem my {A B:ZZ} (Z:bz El m A) (Y:bz El m B):bz El m (A ++ B):=λr X=>by
 rcases List.mem_append.1 X with h | h
 ·exact Z r h
 ·exact Y r h
def tF (O:aL) (R:ZZ) (P:Lz) (B:ZZ):ZZ:=B.map λv=>redTo O R P v R.length
def MS (O:aL) (m:Nat) (R:ZZ) (P:Lz) (B:ZZ):ZZ:=bI O m (bI O m (tF O R P B) ++ R)
theorem yX (F:bQ O El) (hI:BS.Inv El m ⟨R,P⟩) {B:ZZ} (Y:bz El m B):bz El m (tF O R P B):=λr X=>by obtain ⟨v,Z,rfl⟩:=List.mem_map.1 X;exact SD F hI.ok (Y v Z) R.length (M4 _)
theorem LP (F:bQ O El) (Y:bz El m R) (N:lK R P m) (hlen:R.length=P.length) {B:ZZ} (Z:bz El m B):MS O m R P B=bI O m (R ++ B):=by
 have hI:=rD Y N hlen;have Q:=yX F hI Z;have K:=dk F Q;obtain ⟨c1,c2⟩:=dC F Q;have U:=my K Y;have S:=my Y Z;refine zN F U S (fY λr X=>?_) (fY λr X=>?_)
 ·rcases List.mem_append.1 X with h | h
  ·refine eY.rs (fY λd hd=>?_) (oy c1 h);obtain ⟨v,V,rfl⟩:=List.mem_map.1 hd;exact (xR F hI S (fY λy hy=>iy F (List.mem_append.2 (.inl hy))) (Z v V) R.length (M4 _)).2 (iy F (List.mem_append.2 (.inr V)))
  ·exact iy F (List.mem_append.2 (.inl h))
 ·rcases List.mem_append.1 X with h | h
  ·exact iy F (List.mem_append.2 (.inr h))
  ·refine (xR F hI U (fY λy hy=>iy F (List.mem_append.2 (.inr hy))) (Z r h) R.length (M4 _)).1 ?_;refine eY.rs (fY λy hy=>iy F (List.mem_append.2 (.inl hy))) (oy c2 (List.mem_map.2 ⟨r,h,rfl⟩))
theorem Kf (F:bQ O El) {A B:ZZ} (X:bz El m A) (Z:bz El m B):bI O m (A ++ bI O m B)=bI O m (A ++ B):=by
 obtain ⟨U,V⟩:=dC F Z;refine zN F (my X (dk F Z)) (my X Z) (fY λr Y=>?_) (fY λr Y=>?_)
 ·rcases List.mem_append.1 Y with h | h
  ·exact iy F (List.mem_append.2 (.inl h))
  ·exact eY.rs (fY λy hy=>iy F (List.mem_append.2 (.inr hy))) (oy U h)
 ·rcases List.mem_append.1 Y with h | h
  ·exact iy F (List.mem_append.2 (.inl h))
  ·exact eY.rs (fY λy hy=>iy F (List.mem_append.2 (.inr hy))) (oy V h)
end
section
variable {P M:Int} {mod:Lz}
theorem iM {m:Nat} {L:ZZ} (Z:aI P M mod m L=0):L.length<=m:=by have h:=(dF (aX Z).2.2.2).2;rw [M9] at h;rw [<- h,ek];exact (eO _ L m).1
theorem uZ {Z:Nat} {V:ZZ} (Y:bw P M mod=true) (N:bz (ah P M.toNat mod).El Z V) (h1:1<=Z) (I:Z<=64) (H:V.length<=256):aI P M mod Z (bI (ah P M.toNat mod).ops Z V)=0:=by
 have F:=dY Y;have U:=dk F N;have X:=qb F N;have Q:(bI (ah P M.toNat mod).ops Z V).length<=256:=by unfold bI;rw [NH,bW];omega
 generalize bI (ah P M.toNat mod).ops Z V=D at *;have K:dK P M mod Z D=0:=iR Y (by omega) Q U;have S:dI P M mod Z D=0:=by unfold dI;rw [M7 K,M9,M7];exact X
 have hle:jf (Z:Int)=0:=rN (by omega) (by omega);unfold aI;rw [M7 Y,M7 hle];exact S
end
theorem FL {w:ej} {b:Nat} {G:bX} (m:Nat) (a:OA) (n c:Nat) (R:ZZ) (ap:OA) (cp:Nat) (Pv:Lz) (a2:OA) (Z c2:Nat) (D:ZZ)
  (h:dg w b G) (hi:bP w a n R) (hp:Ints w ap n Pv) (hD:bP w a2 Z D) (S:BS.Ok G.El m ⟨R,Pv⟩) (E:bz G.El m D) (hn:n<=1000000) (hm:m<=1000000) (hn2:Z<=1000000) :
  Calls prog 230 #[.agg #[ea b 0,cG m,.slice a n c,.slice ap n cp],.agg #[cG m,.slice a2 Z c2]] w
   λe w'=>∃a3 c3,e = .returned (.agg #[cG m,.slice a3 Z c3])/\bJ w.heap.size w' a3 Z (tF G.ops R Pv D)/\SJ w w':=by
 have hrl:R.length=n:=hi.len;have hdl:D.length=Z:=hD.len;obtain ⟨N,I⟩:∃N,tF G.ops R Pv D=N:=⟨_,rfl⟩
 rw [I];have HRl:Hid (N.length=Z):=by show _=_;rw [<- I,tF,No];exact hdl
 have HRd:Hid (∀V k ra rc,k<Z->SJ w V->Ints V ra m (aj D k)->Calls prog 242 #[.agg #[ea b 0,cG m,.slice a n c,.slice ap n cp],.slice ra m rc] V
   λe w'=>∃a1 c1 v2,e = ec #[.slice a1 m c1,v2]/\w'.ownsRow V.heap.size 3 1 (.slice a1 m c1) m ((aj N k).map (Value.int .i64))/\SJ V w'):=λV k ra rc hk hV hr=>by have h1:=qD m a n c R ap cp Pv ra rc (aj D k) (h.ai hV) (hi.ai hV) (hp.ai hV) hr S (E.row (by omega)) hn hm;rw [<- I,tF,oT _ D (by omega),hrl];exact h1
 have HDr:Hid (∀k,k<Z->(aj D k).length=m):=λk hk=>(E.row (i:=k) (by omega)).1;have HRn:Hid (∀k,k<Z->(aj N k).length=m):=λk hk=>by have h1:=(kG (Sk h) S.rws (Q:=Pv) S.plc (E.row (i:=k) (by omega)) R.length (M4 _)).1;rw [<- I,tF,oT _ D (by omega)];exact h1
 have HTk:Hid (∀k,k<Z->N.take (k+1)=N.take k ++ [aj N k]):=λk hk=>by
  have hk':k<N.length:=by rw [HRl.out];exact hk
  rw [Nh hk',<- aH hk']
 have hpl:=hD.pl;clear h hi hp S E I hrl hdl;go_enter func230,ntmps230;go_upto_region 1 with fail;obtain ⟨W,hW⟩:∃W:ej,W=((w.alloc (.cells #[ea b 0,cG m,.slice a n c,.slice ap n cp] 210)).alloc (.cells #[cG m,.slice a2 Z c2] 94)).alloc (.cells #[cG 0,ds] 94):=⟨_,rfl⟩
 rw [<- hW];have hbW:SJ w W:=by rw [hW];exact kY _ _ _ _
 have hsW:W.heap.size=w.heap.size+3:=by rw [hW];simp
 have x0:aQ W w.heap.size [ea b 0,cG m,.slice a n c,.slice ap n cp]:=by rw [hW];exact ((RV _ _ _ rfl).alloc _).alloc _
 have x1:aQ W (w.heap.size+1) [cG m,.slice a2 Z c2]:=by rw [hW];exact (RV _ _ _ (by simp)).alloc _
 have x2:aQ W (w.heap.size+1+1) [cG 0,ds]:=by rw [hW];exact RV _ _ _ (by simp)
 clear hW;have HX:=Z5 (Ng x0 (Ng x1 x2));have HbW:=Z5 hbW;have HsW:=Z5 hsW;obtain ⟨g,hg⟩:∃g,W.heap.size=g:=⟨_,rfl⟩
 have HG:=Z5 hg;clear hg;have m0:=x1.cell 0 rfl;have m1:=x1.cell 1 rfl;go_cut [5] (λv wx=>v = ea W.heap.size 0/\jF wx W.heap.size (cG m) none 0 0 [] []/\SJ W wx);case first =>
  clear x0 x1 x2 hbW hsW
  go_wp2_with fail
  go_meet
  exact ⟨rfl,jF.start (RV W [cG m,ds] _ rfl),aD _ _⟩
 obtain ⟨rfl,hO0,hbc⟩:=hcut;generalize wc=U at *;have hs3:=HG.out;rw [hs3] at hO0 ⊢;have HbU:=Z5 hbc;have r1:=x1.ai hbc;clear m0 m1 x0 x1 x2 hbW;have m0:=r1.cell 0 rfl;have m1:=r1.cell 1 rfl;have hgW:W.heap.size<=g:=by omega
 have HD:=Z5 hD;clear r1 hbc hs3 hD hsW;go_wp2_with fail;clear m0 m1;go_loopw [16] (λiv wr=>∃(j:Nat) (a1:OA) (c1:Nat) (Rr:Z4),j<=Z/\iv = cG j/\jF wr g (cG m) a1 j c1 Rr (N.take j)/\Below g U wr) (λiv _=>Z - (intOf iv).toNat);case atStart=>exact ⟨0,none,0,[],Nb _,rfl,by simpa using hO0,M5 _ _⟩
 case round =>
  clear hO0
  obtain ⟨j,a1,c1,Rr,hj,rfl,C,hbr⟩:=hrel
  have F:=NK HbU.out (hbr.mono hgW)
  have K:=RU HbW.out F
  by_cases Y:j<Z
  ·obtain ⟨ra,rn,rc,hcell,X⟩:=(HD.ai K).cell j Y
   have hrn:rn=m:=by rw [<- X.len];exact HDr j Y
   rw [hrn] at hcell X
   have Htk:=Z5 (HTk j Y)
   have HR1:=Z5 (HRd wr j ra rc Y K X)
   obtain ⟨pk,hpk⟩:∃pk,aj N j=pk:=⟨_,rfl⟩
   have Hpl:Hid (pk.length=m):=by show _=_;rw [<- hpk];exact HRn j Y
   rw [hpk] at HR1 Htk
   have xr:=HX.1.ai F
   have v0:=xr.cell 0 rfl
   have v1:=xr.cell 1 rfl
   have v2:=xr.cell 2 rfl
   have v3:=xr.cell 3 rfl
   have hgr:=C.lt
   have HO:=Z5 C
   clear hrn hpk X xr C
   go_wp2_with fail
   refine HR1.mono ?_
   rintro e w3 ⟨a5,c5,vv,rfl,r,hb3⟩
   clear v0 v1 v2 v3
   have z:=HO.ai hb3
   have S:=z.om.ai (aD w3 (.cells #[.slice a5 m c5] 22))
   have hcp:=z.c1
   have hgs:=z.lt
   go_wp2_with (at_builtin;refine bd rfl _ _ 25 22 rfl ds 24 underlying25 ed rfl (g+1) a1 j c1 _ rfl S.own ⟨w3.heap.size,0,none⟩ 1 (.slice a5 m c5) rfl (bh w3 _ _) rfl (by omega) (by unfold maxLen;omega) (by simp;omega) ?_;intro a6 c6 w6 hown6 H hap6;have hk6:=(z.lO H).2.1;have hf6:=(z.lO H).2.2)
   go_roundw
   case rel =>
    have hra:a5 ≠ none->¬ bN a1 Rr (ablk a5):=λh0 hI=>by have h1:=(aP r h0).1;have h2:=(HO.om.lt _ hI).2;omega
    obtain ⟨hP,hbP⟩:=z.push Hpl.out (bq r (by omega)) hra hown6 H hap6
    exact ⟨j+1,a6,c6,_,by omega,by go_num,by rw [Htk.out];exact hP,NK hbr ((hb3.mono (by omega)).trans hbP)⟩
   case measure=>simp [intOf]<;>omega
  ·obtain rfl:j=Z:=by omega
   rw [Nj (by rw [HRl.out];exact M4 _)] at C
   have g0:=C.c0
   have g1:=C.c1
   have z6:=HX.2.2.ai F
   have z0:=z6.cell 0 rfl
   have z1:=z6.cell 1 rfl
   have f0:=z6.frozen 0
   have f1:=z6.frozen 1
   have z:=HsW.out
   have hg2:=HG.out
   have hMN:bJ (g+1) wr a1 j N:=Sq C.om
   have HF:=Z5 (Ng (((hMN.setCell (p:=⟨w.heap.size+1+1,0,none⟩) (by simp;omega) (cG m)).setCell (p:=⟨w.heap.size+1+1,1,none⟩) (by simp;omega) (.slice a1 j c1)).mono (show w.heap.size<=g+1 by omega))
    ((K.setCell (p:=⟨w.heap.size+1+1,0,none⟩) (by simp;omega) (cG m)).setCell (p:=⟨w.heap.size+1+1,1,none⟩) (by simp;omega) (.slice a1 j c1)))
   clear hMN z6 C z hg2
   go_wp2_with fail
   exact bodyPost_ret (v:=.agg #[cG m,.slice a1 j c1]) (by simp [results,results230,go_sem,z0,z1]) rfl ⟨a1,c1,rfl,HF.1,HF.2⟩
theorem jB {X Z:ej} {t:TypeId} (hb:Below (X.alloc (.cells #[cG 0,ds] t)).heap.size (X.alloc (.cells #[cG 0,ds] t)) Z):aQ Z X.heap.size [cG 0,ds] :=
 (RV X [cG 0,ds] t rfl).ai hb
theorem kC {X Z:ej} {t:TypeId} (hb:Below (X.alloc (.cells #[cG 0,ds] t)).drew.heap.size (X.alloc (.cells #[cG 0,ds] t)).drew Z):aQ Z X.heap.size [cG 0,ds] :=
 (RV X [cG 0,ds] t rfl).ai (RU (M5 _ _).drew hb)
def oa (S:ZZ) (m:Nat) (w:ej) (e:Ending) (w':ej):Prop :=
 ∃a3 Z,e = ec #[.agg #[cG m,.slice a3 S.length Z],cG 0]/\bJ w.heap.size w' a3 S.length S/\SJ w w'
theorem xN (P M:Int) (am:OA) (E r:Nat) (mod:Lz) (m:Nat) (a:OA) (n c:Nat) (L:ZZ) (a':OA) (Y c':Nat) (L':ZZ) (w:ej)
  (H:Ints w am E mod) (hi:bP w a n L) (hi':bP w a' Y L') (hE:aI P M mod m L=0) (hE':aI P M mod m L'=0) :
  Calls prog 181 #[.agg #[cG P,cG M,.slice am E r],.agg #[cG m,.slice a n c],.agg #[cG m,.slice a' Y c']] w (oa (bI (ah P M.toNat mod).ops m (L ++ L')) m w):=by
 obtain ⟨N',e,hm1,hm64,F,hR⟩:=aT hE;obtain rfl:m=N':=by omega
 obtain ⟨N',e',_,_,_,hR'⟩:=aT hE';obtain rfl:m=N':=by omega
 have hfB:=(aX hE).1;have hsp:=(aX hE).2.2.2;have hsp':=(aX hE').2.2.2;have z:=(dF hsp).2;rw [M9] at z;have hln:L.length=n:=hi.len;have hln':L'.length=Y:=hi'.len;have hn64:n<=64:=by have:=iM hE;omega
 have hn64':Y<=64:=by have:=iM hE';omega
 have hpl:(bu (ah P M.toNat mod) L m).length=n:=by rw [<- ek,z];exact hln
 have hPv:lK L (bu (ah P M.toNat mod) L m) m:=by have h:=(dc F hR).1;rw [show bI (ah P M.toNat mod).ops m L=L from z] at h;exact h
 have hI:=rD hR hPv (by rw [hpl];exact hln);have hDr:=yX F hI hR';have hS:bI (ah P M.toNat mod).ops m (L ++ L')=bI (ah P M.toNat mod).ops m (bI (ah P M.toNat mod).ops m (tF (ah P M.toNat mod).ops L (bu (ah P M.toNat mod) L m) L') ++ L) :=
  (LP F hR hPv (by rw [hpl];exact hln) hR').symm
 rw [hS];have HPair:Hid (∀V,SJ w V->Calls prog 229 #[.agg #[cG P,cG M,.slice am E r],.agg #[cG m,.slice a n c],.agg #[cG m,.slice a' Y c']] V λe w'=>∃b ap cp b2 m2 a2 n2 c2 ap2 k2 cp2,
   e = ec #[.agg #[ea b 0,cG m,.slice a n c,.slice ap n cp],.agg #[ea b2 0,cG m2,.slice a2 n2 c2,.slice ap2 k2 cp2],cG 0]/\dg w' b (ah P M.toNat mod)/\Ints w' ap n (bu (ah P M.toNat mod) L m)/\SJ V w'):=λV Z=>by refine (Gq P M am E r mod m a n c L a' Y c' L' V (H.ai Z) (hi.ai Z) (hi'.ai Z) hsp hsp').mono ?_;rintro e w' ⟨b,ap,cp,v2,rfl,⟨b2,m2,a2,n2,c2,ap2,k2,cp2,rfl⟩,h1,h2,h3⟩;rw [hpl] at h2 ⊢;exact ⟨b,ap,cp,b2,m2,a2,n2,c2,ap2,k2,cp2,rfl,h1,h2,h3⟩
 have HRe:Hid (∀V b ap cp,SJ w V->dg V b (ah P M.toNat mod)->Ints V ap n (bu (ah P M.toNat mod) L m)->Calls prog 230 #[.agg #[ea b 0,cG m,.slice a n c,.slice ap n cp],.agg #[cG m,.slice a' Y c']] V
   λe w'=>∃a3 c3,e = .returned (.agg #[cG m,.slice a3 Y c3])/\bJ V.heap.size w' a3 Y (tF (ah P M.toNat mod).ops L (bu (ah P M.toNat mod) L m) L')/\SJ V w'):=λV b ap cp Z hG hp =>
  FL m a n c L ap cp _ a' Y c' L' hG (hi.ai Z) hp (hi'.ai Z) hI.ok hR' (by omega) (by omega) (by omega)
 obtain ⟨D,hD⟩:∃D,tF (ah P M.toNat mod).ops L (bu (ah P M.toNat mod) L m) L'=D:=⟨_,rfl⟩
 rw [hD] at HRe hDr ⊢;have hDl:D.length=Y:=by rw [<- hD,tF,No];exact hln'
 have hfD:dK P M mod m D=0:=iR hfB (by omega) (by omega) hDr;have HC1:Hid (∀V a3 c3,SJ w V->bP V a3 Y D->Calls prog 118 #[.agg #[cG P,cG M,.slice am E r],.agg #[cG m,.slice a3 Y c3]] V λe w'=>∃a5 ap cp,
   e = ec #[.agg #[cG m,.slice a5 (bu (ah P M.toNat mod) D m).length (bu (ah P M.toNat mod) D m).length],.slice ap (bu (ah P M.toNat mod) D m).length cp,cG 0]/\bJ V.heap.size w' a5 (bu (ah P M.toNat mod) D m).length (bI (ah P M.toNat mod).ops m D)/\SJ V w'):=λV a3 c3 Z hM=>by
  refine (jk P M am E r mod m a3 Y c3 D V (H.ai Z) hM).mono ?_;rintro e w' ⟨hb,⟨h1,_⟩ | ⟨_,m',hm',a5,ap,cp,rfl,hN,_⟩⟩
  ·exact absurd hfD h1
  ·obtain rfl:m=m':=by omega
   exact ⟨a5,ap,cp,rfl,hN,hb⟩
 have hk64:(bu (ah P M.toNat mod) D m).length<=64:=by have:=(eO (ah P M.toNat mod).ops D m).1;show (aE (ah P M.toNat mod).ops D m).2.length<=64;omega
 have hCl:(bI (ah P M.toNat mod).ops m D).length=(bu (ah P M.toNat mod) D m).length:=ek _ _ _;have hCr:=dk F hDr;obtain ⟨k,hk⟩:∃k,(bu (ah P M.toNat mod) D m).length=k:=⟨_,rfl⟩
 obtain ⟨C,hC⟩:∃C,bI (ah P M.toNat mod).ops m D=C:=⟨_,rfl⟩
 rw [hk,hC] at HC1 hCl;rw [hk] at hk64;rw [hC] at hCr ⊢;have hfX:dK P M mod m (C ++ L)=0:=iR hfB (by omega) (by rw [Ni];omega) (my hCr hR);have HC2:Hid (∀V a6 c6,SJ w V->bP V a6 (k+n) (C ++ L)->Calls prog 118 #[.agg #[cG P,cG M,.slice am E r],.agg #[cG m,.slice a6 (k+n:Nat) c6]] V λe w'=>∃a7 c7 ap q cp,
   e = ec #[.agg #[cG m,.slice a7 (bI (ah P M.toNat mod).ops m (C ++ L)).length c7],.slice ap q cp,cG 0]/\bJ V.heap.size w' a7 (bI (ah P M.toNat mod).ops m (C ++ L)).length (bI (ah P M.toNat mod).ops m (C ++ L))/\SJ V w'):=λV a6 c6 Z hM=>by
  refine (jk P M am E r mod m a6 (k+n) c6 (C ++ L) V (H.ai Z) hM).mono ?_;rintro e w' ⟨hb,⟨h1,_⟩ | ⟨_,m',hm',a5,ap,cp,rfl,hN,_⟩⟩
  ·exact absurd hfX h1
  ·obtain rfl:m=m':=by omega
   rw [<- ek] at hN ⊢;exact ⟨a5,_,ap,_,cp,rfl,hN,hb⟩
 have HI:=Z5 (Ng hi hi');obtain ⟨S,hS2⟩:∃S,bI (ah P M.toNat mod).ops m (C ++ L)=S:=⟨_,rfl⟩
 rw [hS2] at HC2 ⊢;have HPost:Hid (∀a3 c3 V,bJ w.heap.size V a3 S.length S->SJ w V->oa S m w (ec #[.agg #[cG m,.slice a3 S.length c3],cG 0]) V):=λa3 c3 V h1 h2=>⟨a3,c3,rfl,h1,h2⟩
 generalize oa S m w=Post at *;obtain ⟨q,hq⟩:∃q,S.length=q:=⟨_,rfl⟩
 rw [hq] at HC2 HPost;generalize ah P M.toNat mod=G at *;generalize bu G L m=Pv at *;clear H hi hi' hE hE' hfB hsp hsp' z hpl hPv hI hDr hS hD hDl hfD hk hC hCl hCr hfX hS2 hq hR hR' F e e' hln hln';go_enter func181,ntmps181;go_upto_region 1 with fail;obtain ⟨W,hW⟩:∃W:ej,W=(((w.alloc (.cells #[cG P,cG M,.slice am E r] 24)).alloc (.cells #[cG m,.slice a n c] 94)).alloc (.cells #[cG m,.slice a' Y c'] 94)).alloc (.cells #[cG 0,ds] 94):=⟨_,rfl⟩
 rw [<- hW];have hbW:SJ w W:=by rw [hW];exact RU (kY _ _ _ _) (aD _ _)
 have hsW:W.heap.size=w.heap.size+4:=by rw [hW];simp
 have x0:aQ W w.heap.size [cG P,cG M,.slice am E r]:=by rw [hW];exact (((RV _ _ _ rfl).alloc _).alloc _).alloc _
 have x1:aQ W (w.heap.size+1) [cG m,.slice a n c]:=by rw [hW];exact ((RV _ _ _ (by simp)).alloc _).alloc _
 have x2:aQ W (w.heap.size+1+1) [cG m,.slice a' Y c']:=by rw [hW];exact (RV _ _ _ (by simp)).alloc _
 have x3:aQ W (w.heap.size+1+1+1) [cG 0,ds]:=by rw [hW];exact RV _ _ _ (by simp)
 clear hW;have HX:Hid (∀V,SJ W V->V.cell? ⟨w.heap.size,0,none⟩=some (cG P)/\V.cell? ⟨w.heap.size,1,none⟩=some (cG M)/\V.cell? ⟨w.heap.size,2,none⟩=some (.slice am E r)/\V.cell? ⟨w.heap.size+1,0,none⟩=some (cG m)/\V.cell? ⟨w.heap.size+1,1,none⟩=some (.slice a n c)/\V.cell? ⟨w.heap.size+1+1,0,none⟩=some (cG m)/\V.cell? ⟨w.heap.size+1+1,1,none⟩=some (.slice a' Y c')):=λV Z=>by have a0:=x0.ai Z;have a1:=x1.ai Z;have a2:=x2.ai Z;exact ⟨a0.cell 0 rfl,a0.cell 1 rfl,a0.cell 2 rfl,a1.cell 0 rfl,a1.cell 1 rfl,a2.cell 0 rfl,a2.cell 1 rfl⟩
 have HX3:=Z5 x3;have HbW:=Z5 hbW;have HsW:=Z5 hsW;clear x0 x1 x2 x3 hbW hsW;go_cut [8,10] (λv8 v10 wx=>v10 = cG 0/\∃g b ap cp,v8 = ea g 0/\Hid (aQ wx g [ea b 0,cG m,.slice a n c,.slice ap n cp])/\Hid (dg wx b G)/\Hid (Ints wx ap n Pv)/\SJ W wx);case first =>
  obtain ⟨c0,c1,c2,d0,d1,e0,e1⟩:=HX W (M5 _ _)
  go_wp2_with fail
  refine (HPair W HbW.out).mono ?_
  rintro e w1 ⟨b,ap,cp,b9,m9,a9,n9,d9,ap9,k9,cp9,rfl,hG,hP,N⟩
  have HG:=Z5 (Ng hG hP)
  clear c0 c1 c2 d0 d1 e0 e1 hG hP
  go_wp2_with fail
  go_meet
  have hbn:=dP w1 (.cells #[ea b 0,cG m,.slice a n c,.slice ap n cp] 210) (.cells #[ea b9 0,cG m9,.slice a9 n9 d9,.slice ap9 k9 cp9] 210)
  exact ⟨rfl,w1.heap.size,b,ap,cp,rfl,(RV w1 [ea b 0,cG m,.slice a n c,.slice ap n cp] _ rfl).alloc _,HG.1.ai hbn,HG.2.ai hbn,RU N hbn⟩
 obtain ⟨rfl,g,b,ap,cp,rfl,HV,HG,HP,N⟩:=hcut;generalize wc=U at *;have j:=RU HbW.out N;have HS5:Hid (∀V,SJ U V->V.cell? ⟨w.heap.size,0,none⟩=some (cG P)/\V.cell? ⟨w.heap.size,1,none⟩=some (cG M)/\V.cell? ⟨w.heap.size,2,none⟩=some (.slice am E r)/\V.cell? ⟨w.heap.size+1+1,0,none⟩=some (cG m)/\V.cell? ⟨w.heap.size+1+1,1,none⟩=some (.slice a' Y c') /\
   V.cell? ⟨g,0,none⟩=some (ea b 0)/\V.cell? ⟨g,1,none⟩=some (cG m)/\V.cell? ⟨g,2,none⟩=some (.slice a n c)/\V.cell? ⟨g,3,none⟩=some (.slice ap n cp)/\SJ U V):=λV Z=>by obtain ⟨q0,q1,q2,_,_,q5,q6⟩:=HX V (RU N Z);have y:=HV.ai Z;exact ⟨q0,q1,q2,q5,q6,y.cell 0 rfl,y.cell 1 rfl,y.cell 2 rfl,y.cell 3 rfl,Z⟩
 have HR1:=Z5 (λV (Z:SJ U V)=>HRe V b ap cp (RU j Z) (HG.ai Z) (HP.ai Z));have HK1:=Z5 (λV a3 c3 (Z:SJ U V) h=>HC1 V a3 c3 (RU j Z) h);obtain ⟨c0,c1,c2,e0,e1,g0,g1,g2,g3,_⟩:=HS5 U (M5 _ _);go_upto_region 4 with fail;go_cut [11,10] (λv11 v10 wx=>v10 = cG 0/\∃h a5,v11 = ea h 0/\Hid (aQ wx h [cG m,.slice a5 k k])/\Hid (U.heap.size<=h)/\Hid (fU (λb=>b=h) wx a5 k C)/\SJ U wx);case first =>
  go_region_held3 (λV=>V.cell? ⟨w.heap.size,0,none⟩=some (cG P)/\V.cell? ⟨w.heap.size,1,none⟩=some (cG M)/\V.cell? ⟨w.heap.size,2,none⟩=some (.slice am E r)/\V.cell? ⟨w.heap.size+1+1,0,none⟩=some (cG m)/\V.cell? ⟨w.heap.size+1+1,1,none⟩=some (.slice a' Y c') /\
   V.cell? ⟨g,0,none⟩=some (ea b 0)/\V.cell? ⟨g,1,none⟩=some (cG m)/\V.cell? ⟨g,2,none⟩=some (.slice a n c)/\V.cell? ⟨g,3,none⟩=some (.slice ap n cp)/\SJ U V)
   ((refine HS5 _ ?_;first|exact (M5 _ _).drew|assumption|(go_split_ands;first|assumption|exact RU (by assumption) (aD _ _)|exact (RU (by assumption) (aD _ _)).drew|exact RU (by assumption) (by assumption)|exact Qb (Qb (by assumption) (by first|exact hB2.size|exact hB3.size|simp) _) (by first|exact hB2.size|exact hB3.size|simp) _)))
   (first
    | (go_at_call 230;((with_reducible refine (HR1.out _ (by go_split_ands;assumption)).mono ?_);rintro e w2 ⟨a3,k3,rfl,hM3,hb2⟩;have hB2:SJ U w2:=(by go_split_ands;exact RU (by assumption) hb2);have HM3:=Z5 hM3.lL;clear hM3;(first|(have HB2:=Z5 (kC hb2))|(have HB2:=Z5 (jB hb2))|skip)))
    | (go_at_call 118;((with_reducible refine (HK1.out _ a3 k3 (by go_split_ands;assumption) (by first|exact HM3.out|exact HM3.out.ai (aD _ _)|exact HM3.out.ai (aD _ _).drew|exact HM3.out.ai (M5 _ _).drew)).mono ?_);rintro e w3 ⟨a5,ap5,cp5,rfl,hM5,hb3⟩;have hB3:SJ U w3:=(by go_split_ands;exact RU (by assumption) hb3);have HM5:=Z5 hM5;clear hM5;(first|(have Q:=Z5 (kC hb3))|(have Q:=Z5 (jB hb3))|(have Q:=Z5 (HB2.out.ai hb3))|skip);(first|(have z0:=Q.out.cell 0 rfl;have z1:=Q.out.cell 1 rfl;have f0:=Q.out.frozen 0;have f1:=Q.out.frozen 1)|skip))))
  all_goals (
   go_wp2_with fail
   go_meet
   first
    | exact ⟨rfl,_,a5,rfl,RV w3 [cG m,.slice a5 k k] _ rfl,hB3.size,(fU.G3 HM5.lL (λb hb=>by rw [show b=w3.heap.size from hb];exact M4 _)).ai (aD _ _),by go_split_ands;assumption⟩
    | exact ⟨rfl,_,a5,rfl,(Q.setCell 0 (cG m)).setCell 1 (.slice a5 k k),(by first|exact hB2.size|exact M4 _),HM5.MQ (by first|exact HB2.1|simp) _ _,by go_split_ands;assumption⟩)
 obtain ⟨rfl,h,a5,rfl,K,HUh,HMA,hbV⟩:=hcut;generalize wc=V at *;have hF2:=RU j hbV;clear c0 c1 c2 e0 e1 g0 g1 g2 g3;have HXV:Hid (∀X,SJ U X->X.cell? ⟨w.heap.size,0,none⟩=some (cG P)/\X.cell? ⟨w.heap.size,1,none⟩=some (cG M)/\X.cell? ⟨w.heap.size,2,none⟩=some (.slice am E r)/\X.cell? ⟨w.heap.size+1,1,none⟩=some (.slice a n c)):=λX hX=>by obtain ⟨q0,q1,q2,_,q4,_⟩:=HX X (RU N hX);exact ⟨q0,q1,q2,q4⟩
 obtain ⟨c0,c1,c2,e1⟩:=HXV V hbV;have h0:=K.cell 0 rfl;have h1:=K.cell 1 rfl;have hwU:=j.size;have hLA:fU (λb=>b=h) V a n L:=(fU.G3 HI.1 (λb hb=>by rw [show b=h from hb];exact Np hwU HUh.out)).ai hF2;have HLA:=Z5 hLA;have hhV:=K.1;have HhV:=Z5 hhV;clear hLA hhV hwU;go_wp2_with (at_builtin;refine ur rfl _ _ 25 22 rfl 24 underlying25 ed (λb=>b=h) (λb hb=>by rw [show b=h from hb];exact HhV) a5 k C rfl HMA.out a n c L rfl HLA.out (by omega) (by unfold maxLen;omega) ?_;intro a6 c6 w6 hM6 hb6;have k1:=(K.ai hb6).cell 1 rfl;have k0:=(K.ai hb6).cell 0 rfl;have f1:=(K.ai hb6).frozen 1;have hbU6:=RU hbV hb6;have hM7:=(hM6.cQ (aB.se (I:=λb=>b=h) (p:=⟨h,1,none⟩) w6 rfl (.slice a6 (k+n) c6))).lL;have hb7:SJ U (w6.setCell ⟨h,1,none⟩ (.slice a6 (k+n) c6)):=hbU6.setCell (p:=⟨h,1,none⟩) HUh.out _;have hC7:=HC2 _ a6 c6 (RU j hb7) hM7;obtain ⟨r0,r1,r2,_⟩:=HXV _ hb7;have y7:=(K.ai hb6).setCell 1 (.slice a6 (k+n) c6);have s0:=y7.cell 0 rfl;have s1:=y7.cell 1 rfl);refine hC7.mono ?_;rintro e w8 ⟨a7,c7,ap7,q7,cp7,rfl,hN7,hb8⟩;have hbU8:=RU hb7 hb8;have hF8:=RU j hbU8;have x3:=HX3.ai (RU N hbU8);have z0:=x3.cell 0 rfl;have z1:=x3.cell 1 rfl;have g0:=x3.frozen 0;have g1:=x3.frozen 1;have hs:=HsW.out;have hs1:=N.size;have hs2:=hb7.size;rw [Rg] at hs2;have hz:w.heap.size+1+1+1<w8.heap.size:=x3.1;have HFin:Hid (bJ w.heap.size (((w8.setCell ⟨w.heap.size+1+1+1,0,none⟩ (cG m)).setCell ⟨w.heap.size+1+1+1,1,none⟩ (.slice a7 q c7)).alloc (.cells #[cG m,.slice a7 q c7] 94)) a7 q S /\
   SJ w (((w8.setCell ⟨w.heap.size+1+1+1,0,none⟩ (cG m)).setCell ⟨w.heap.size+1+1+1,1,none⟩ (.slice a7 q c7)).alloc (.cells #[cG m,.slice a7 q c7] 94))) :=
  ⟨(((hN7.setCell (p:=⟨w.heap.size+1+1+1,0,none⟩) (by simp;omega) _).setCell (p:=⟨w.heap.size+1+1+1,1,none⟩) (by simp;omega) _).ai (aD _ _)).mono (by simp;omega),
   RU ((hF8.setCell (p:=⟨w.heap.size+1+1+1,0,none⟩) (by simp;omega) _).setCell (p:=⟨w.heap.size+1+1+1,1,none⟩) (by simp;omega) _) (aD _ _)⟩
 clear r0 r1 r2 s0 s1 k0 k1 f1 hN7 hM6 hM7 y7 x3 c0 c1 c2 e1 h0 h1;go_wp2_with fail;exact bodyPost_ret (v:=.tuple #[.agg #[cG m,.slice a7 q c7],cG 0]) (by simp [results,results181,go_sem,z0,z1,hz]) rfl (HPost a7 c7 _ HFin.1 HFin.2)
section
open Go.RowKit
end
theorem L7 {P M:Int} {mod:Lz} {N:Int} {L:ZZ} {Q:Lz} (h:fw P M mod N L Q=0):BF P M mod N L Q=yE (ah P M.toNat mod).ops L Q:=by
 unfold BF yE;rw [h];by_cases h1:(jm (ah P M.toNat mod).ops L Q).length=Q.length
 ·rw [h1];simp
 ·simp [h1]
section
open Go.RowKit
end
section
open Go.RowKit
end
section
open Go.RowKit
end
section
open Go.RowKit
end
section
open Go.RowKit
end
section
open Go.RowKit
end
section
open Go.RowKit
end
section
open Go.RowKit
end
section
open Go.RowKit
end
theorem aQ.LW {w:ej} {b:Nat} {cs:List Value} (h:aQ w b cs) (i:Nat) (v:Value):aQ (w.setCell ⟨b,i,none⟩ v) b (cs.set i v):=by
 refine ⟨by simpa using h.1,λj u hu=>?_,λj=>by rw [NY];exact h.2.2 j⟩;by_cases e:j=i
 ·subst e;by_cases Z:j<cs.length
  ·rw [QJ Z] at hu;cases hu
   exact Ns _ _ _ (h.2.1 j cs[j] (NJ Z))
  ·rw [OL (by omega),N5 (by omega)] at hu;cases hu
 ·rw [Q6 (by omega)] at hu;rw [Nr _ _ _ _ (by simp<;>omega)];exact h.2.1 j u hu
theorem bJ.cQ {B:Nat} {w w':ej} {I I':Nat->Prop} {a:OA} {n:Nat} {L:ZZ} (h:bJ B w a n L) (Y:aB w w' I I') (hI:∀b,I b->b<B):bJ B w' a n L :=
 ⟨h.len,h.pl,h.max,h.lo,λi hi=>by obtain ⟨b,m,c,h1,h2⟩:=h.cell i hi;exact ⟨b,m,c,Y.cell h1 (λZ=>Pr _ (Nz (hI _ Z) (h.lo (by omega)))),h2.ints.cQ Y (λhm Z=>Pr _ (Nz (hI _ Z) (h2.lo hm))),h2.lo⟩⟩
end Go.Proofs.YthglbncgemdcbaaGreat
