import Derived.Test.YthglbncgemdcbaaGreatCE15
import Derived.OpenShut
import Derived.ShutString
import Derived.ChangeOld
import Derived.Deep.Matrix
namespace Go.Proofs.YthglbncgemdcbaaGreat
set_option linter.all false
set_option maxRecDepth 100000
set_option maxHeartbeats 8000000
open Go.RowKit Go.Proofs.Tryz
theorem CS (O:aP) (L:Ll) (m:Nat) (C:js) (d:Nat) (s z:LI) (T:Ll) (hd:s.length+d=C.W) (Z:dx O L m C s (et O L m C s z)=true) (Y:T.length ≠ 65536) :
  gH O L m C d s z T=e9 (gH O L m C (d - 1)) s z (if s.length<C.W then (et O L m C s z).filter (λx=>decide (¬ x ∈ z)) else []) (T ++ [et O L m C s z]):=by
 match d with
 | 0 =>
  have h1:(if s.length<C.W then (et O L m C s z).filter (λx=>decide (¬ x ∈ z)) else [])=[]:=KY (by omega)
  rw [h1,gH,KX Z,KY Y]
  rfl
 | d+1 =>
  have h1:(if s.length<C.W then (et O L m C s z).filter (λx=>decide (¬ x ∈ z)) else [])=jL C s z (et O L m C s z):=rfl
  rw [h1,gH,KX Z,KY Y]
  rfl
theorem ua (O:aP) (L:Ll) (m:Nat) (C:js) (d:Nat) (s z:LI) (T:Ll) (Z:dx O L m C s (et O L m C s z)=false):gH O L m C d s z T=(11,[]):=by
 match d with
 | 0=>rw [gH];exact KY (by rw [Z];simp)
 | d+1=>rw [gH];exact KY (by rw [Z];simp)
theorem yo (O:aP) (L:Ll) (m:Nat) (C:js) (d:Nat) (s z:LI) (T:Ll) (Z:dx O L m C s (et O L m C s z)=true) (Y:T.length=65536):gH O L m C d s z T=(8,[]):=by
 match d with
 | 0=>rw [gH,KX Z,KX Y]
 | d+1=>rw [gH,KX Z,KX Y]
theorem EW {R Z:LA} (h:R <+: Z) {i:Nat} (hi:i<R.length):aM Z i=aM R i:=by obtain ⟨X,rfl⟩:=h;rw [fJ (show i<(R ++ X).length by simp;omega),fJ hi,N5]
theorem Fu {R Z:Ll} (h:R <+: Z) {i:Nat} (hi:i<R.length):ai Z i=ai R i:=by obtain ⟨X,rfl⟩:=h;rw [aE (show i<(R ++ X).length by simp;omega),aE hi,N5]
theorem Ec (R:LA) (r:OA × Nat):aM (R ++ [r]) R.length=r:=by rw [fJ (by simp)];simp
theorem Dd (R:Ll) (r:LI):ai (R ++ [r]) R.length=r:=by rw [aE (by simp)];simp
structure mD where
 ar:OA
 cr:Nat
 R:LA
 T:Ll
def mD.J (Z:Nat) (σ:mD) (x:Nat):Prop:=x=Z\/bQ σ.ar σ.R x
structure kF (w:World) (B pb b:Nat) (P M:Int) (am:OA) (mn cm:Nat) (m:Nat) (a:OA) (n c:Nat) (ay:OA) (ny cy:Nat) (C:js) (σ:mD):Prop where
 box:aQ w pb (mA b P M am mn cm m a n c ay ny cy C (.slice σ.ar σ.T.length σ.cr) 0)
 om:aO w B σ.ar σ.T.length σ.cr σ.R σ.T
 np:¬ bQ σ.ar σ.R pb
 ln:σ.T.length<=65536
theorem kF.lt {w:World} {B Y b:Nat} {P M:Int} {am:OA} {U cm m:Nat} {a:OA} {n c:Nat} {X:OA} {V cy:Nat} {C:js} {σ:mD} (h:kF w B Y b P M am U cm m a n c X V cy C σ) {x:Nat} (Z:σ.J Y x):x<w.heap.size:=by
 rcases Z with rfl | Z
 ·exact h.box.1
 ·exact (h.om.lt x Z).2
theorem kF.dc {w w':World} {I:Nat->Prop} {B Z b:Nat} {P M:Int} {am:OA} {S cm m:Nat} {a:OA} {n c:Nat} {X:OA} {V cy:Nat} {C:js} {σ:mD} (h:kF w B Z b P M am S cm m a n c X V cy C σ)
  (U:aC w w' I I) (hI:∀x,σ.J Z x->¬ I x):kF w' B Z b P M am S cm m a n c X V cy C σ :=
 ⟨h.box.dc U (hI _ (.inl rfl)),h.om.bp λx Y=>U.block x (h.om.lt x Y).2 (hI x (.inr Y)),h.np,h.ln⟩
theorem kF.af {w w':World} {B V b:Nat} {P M:Int} {am:OA} {X cm m:Nat} {a:OA} {n c:Nat} {Z:OA} {Y cy:Nat} {C:js} {σ:mD} (h:kF w B V b P M am X cm m a n c Z Y cy C σ)
  (U:PY w w'):kF w' B V b P M am X cm m a n c Z Y cy C σ:=h.dc (I:=λ_=>False) (Pr U _) λ_ _ h=>h
def wI (U:World) (Y b:Nat) (P M:Int) (am:OA) (Q cm:Nat) (m:Nat) (a:OA) (n c:Nat) (X:OA) (S cy:Nat) (C:js) (σ:mD) (V:Int × Ll) (w:World) (e:Ending) (w':World):Prop :=
 ∃Z:mD,kF w' U.heap.size Y b P M am Q cm m a n c X S cy C Z/\σ.R <+: Z.R/\σ.T <+: Z.T/\aC w w' (σ.J Y) (Z.J Y)/\e = .returned (cG V.1)/\(V.1=0->Z.T=V.2)
theorem kF.push {V N:World} {B Z b:Nat} {P M:Int} {am:OA} {mn cm m:Nat} {a:OA} {n c:Nat} {r:OA} {j cy:Nat} {C:js} {σ:mD} (h:kF V B Z b P M am mn cm m a n c r j cy C σ) (hB:B<=V.heap.size)
  {a3:OA} {D:Nat} {t:LI} (hr:V.ownsRow B 3 1 (.slice a3 t.length D) t.length (t.map (Value.int .i64))) (z:a3 ≠ none->¬ σ.J Z (ablk a3)) (hT:σ.T.length<65536) {o:Obj}
  {a5:OA} {S:Nat} (E:N.ownsRow B 22 1 (.slice a5 (σ.T.length+1) S) (σ.T.length+1) (List.zipWith j8 σ.R σ.T ++ [.slice a3 t.length D])) (hg:(V.alloc o).grownBy N (Value.slice σ.ar σ.T.length σ.cr).ownBlock)
  (G:∀b,b<(V.alloc o).heap.size->eY σ.ar b->eY a5 b) :
  kF (N.setCell ⟨Z,10,none⟩ (.slice a5 (σ.T.length+1) S)) B Z b P M am mn cm m a n c r j cy C ⟨a5,S,σ.R ++ [(a3,D)],σ.T ++ [t]⟩ /\
   aC V (N.setCell ⟨Z,10,none⟩ (.slice a5 (σ.T.length+1) S)) (λx=>σ.J Z x\/(a3 ≠ none/\x=ablk a3)) ((⟨a5,S,σ.R ++ [(a3,D)],σ.T ++ [t]⟩:mD).J Z):=by
 have Y:=an V o;have F:aO (V.alloc o) B σ.ar σ.T.length σ.cr σ.R σ.T:=h.om.af Y;have A:a3 ≠ none->¬ bQ σ.ar σ.R (ablk a3):=λh0 hh=>z h0 (.inr hh);have hO5:=Py F (bf hr Y) A E hg G;have hnp:σ.ar=none\/ablk σ.ar ≠ Z:=by
  by_cases e:σ.ar=none
  ·exact .inl e
  ·exact .inr λe2=>h.np (.inl ⟨e,e2.symm⟩)
 have L:aQ N Z (mA b P M am mn cm m a n c r j cy C (.slice σ.ar σ.T.length σ.cr) 0):=(h.box.af Y).dc (PC (K:=λx=>σ.ar ≠ none/\x=ablk σ.ar) hg λh0=>⟨h0,rfl⟩) λ⟨h0,e⟩=>by
  rcases hnp with h1 | h1
  ·exact h0 h1
  ·exact h1 e.symm
 have hne:¬ bQ a5 (σ.R ++ [(a3,D)]) Z:=λhh=>by
  rcases bQ.push F G hh with h1 | ⟨h1,h2⟩ | h1
  ·exact h.np h1
  ·exact z h1 (.inl h2.symm)
  ·have h2:=h.box.1;have h3:=Y.size;omega
 refine ⟨⟨?_,?_,hne,by simp;omega⟩,?_⟩
 ·have h1:=L.setCell 10 (.slice a5 (σ.T.length+1) S);show aQ _ Z (mA b P M am mn cm m a n c r j cy C (.slice a5 (σ.T ++ [t]).length S) 0);rw [K6,Lo];exact h1
 ·show aO _ B a5 (σ.T ++ [t]).length S _ _;rw [K6,Lo];exact hO5.bp λx U=>Lf _ _ _ _ λe=>hne (by have e':x=Z:=e;rw [<- e'];exact U)
 ·have hM0:aC V (V.alloc o) (λx=>σ.J Z x\/(a3 ≠ none/\x=ablk a3)) (λx=>σ.J Z x\/(a3 ≠ none/\x=ablk a3)):=Pr Y _;have hM1:aC (V.alloc o) N (λx=>σ.J Z x\/(a3 ≠ none/\x=ablk a3)) (λx=>σ.J Z x\/(a3 ≠ none/\x=ablk a3)):=PC hg λh0=>.inl (.inr (.inl ⟨h0,rfl⟩));have X:=hM0.trans hM1;have Q:Below 0 N (N.setCell ⟨Z,10,none⟩ (.slice a5 (σ.T.length+1) S)):=(KU 0 N).setCell (K0 _) _;refine ⟨Q.os.trans X.os,Q.tape.trans X.tape,Q.output.trans X.output,K9 X.size Q.size,λx U hI=>?_,λx U=>?_⟩
  ·exact (Lf _ _ _ _ λe=>hI (.inl (.inl e))).trans (X.block x U hI)
  ·rcases U with U | U
   ·exact .inl (.inl (.inl U))
   ·rcases bQ.push F G U with h1 | h1 | h1
    ·exact .inl (.inl (.inr h1))
    ·exact .inl (.inr h1)
    ·exact .inr (K9 Y.size h1)
theorem kF.xD {V S:World} {B U b:Nat} {P M:Int} {am:OA} {X cm m:Nat} {a:OA} {n c:Nat} {Z:OA} {Y cy:Nat} {C:js} {σ:mD} (h:kF V B U b P M am X cm m a n c Z Y cy C σ)
  {o:Obj} (Q:(V.alloc o).grownBy S (Value.slice σ.ar σ.T.length σ.cr).ownBlock):aQ S U (mA b P M am X cm m a n c Z Y cy C (.slice σ.ar σ.T.length σ.cr) 0) :=
 (h.box.af (an V o)).dc (PC (K:=λx=>σ.ar ≠ none/\x=ablk σ.ar) Q λh0=>⟨h0,rfl⟩) λ⟨h0,e⟩=>h.np (.inl ⟨h0,e⟩)
theorem aC.Cx {w V Z:World} {I I' A:Nat->Prop} (h:PY w V) (g:aC V Z (λx=>I x\/A x) I') (U:∀x,A x->w.heap.size<=x):aC w Z I I' :=
 ⟨g.os.trans h.os,g.tape.trans h.tape,g.output.trans h.output,K9 h.size g.size,λx X hI=>(g.block x (Lx X h.size) λY=>by
  rcases Y with Y | Y
  ·exact hI Y
  ·have:=U x Y;omega).trans (h.block x X),λx X=>by
  rcases g.grow x X with Y | Y
  ·rcases Y with Y | Y
   ·exact .inl Y
   ·exact .inr (U x Y)
  ·exact .inr (K9 h.size Y)⟩
theorem pR {w0:World} {b:Nat} {G:cZ} {a:OA} {n:Nat} {L:Ll} {m:Nat} {ay:OA} {ny:Nat} {C:js} (U:Nat) (P M:Int) (am:OA) (mn cm c cy:Nat)
  (E:Ak w0 b G a n L m ay ny C) (hpb:w0.heap.size<=U) :
  ∀(d:Nat) (w:World) (σ:mD) (D:OA) (ns cs:Nat) (s:LI) (az:OA) (nz cz:Nat) (z:LI),ns+d=C.W->nz<=64->PY w0 w->kF w w0.heap.size U b P M am mn cm m a n c ay ny cy C σ ->
   Ints w D ns s->Ints w az nz z->(0<ns->¬ σ.J U (ablk D))->(0<nz->¬ σ.J U (ablk az))->z.Nodup->(∀x ∈ z,0<=x/\x<(m:Int)) ->
   Calls prog 184 #[.pointer (some ⟨U,0,none⟩),.slice D ns cs,.slice az nz cz] w (wI w0 U b P M am mn cm m a n c ay ny cy C σ (gH G.ops L m C d s z σ.T) w)
 | d,w,σ,D,ns,cs,s,az,nz,cz,z,hd,hnz,hb,hB,hs,hz,hsp,hzp,hzn,hzb=>by
  have IH:Hid (∀d',d'+1=d->∀(w:World) (σ:mD) (D:OA) (ns cs:Nat) (s:LI) (az:OA) (nz cz:Nat) (z:LI),ns+d'=C.W->nz<=64->PY w0 w->kF w w0.heap.size U b P M am mn cm m a n c ay ny cy C σ ->
   Ints w D ns s->Ints w az nz z->(0<ns->¬ σ.J U (ablk D))->(0<nz->¬ σ.J U (ablk az))->z.Nodup->(∀x ∈ z,0<=x/\x<(m:Int)) ->
   Calls prog 184 #[.pointer (some ⟨U,0,none⟩),.slice D ns cs,.slice az nz cz] w (wI w0 U b P M am mn cm m a n c ay ny cy C σ (gH G.ops L m C d' s z σ.T) w)):=λd' hd'=>by subst hd';exact pR U P M am mn cm c cy E hpb d'
  have hm6:=E.m6;have hw6:=E.w6;have HE:=Z5 E;have Hsl:=Z5 hs.len;have Hzl:=Z5 hz.len;have p4:=hB.box.cell 4 rfl;have p7:=hB.box.cell 7 rfl;have p8:=hB.box.cell 8 rfl;obtain ⟨RF,hRF⟩:∃RF,gH G.ops L m C d s z σ.T=RF:=⟨_,rfl⟩
  rw [hRF];have HRF:=Z5 hRF;have HB:=Z5 hB;have Hz:=Z5 (K3 hzn hzb);obtain ⟨mo,hmo⟩:∃mo,(if C.cos=true then m else C.M)=mo:=⟨_,rfl⟩
  have Hmo:=Z5 hmo;obtain ⟨bc,hbc⟩:∃bc,C.cos=bc:=⟨_,rfl⟩
  rw [hbc] at p7;have Hbc:=Z5 hbc;clear hbc;have hol:=zt m s z;have horng:∀j,j<(gU m s z).length->0<=nth (gU m s z) j/\nth (gU m s z) j<m:=λj hj=>by
   rcases nf (aG hj) with h1 | h1
   ·exact hzb _ h1
   ·exact ⟨h1.1,h1.2.1⟩
  have Horng:=Z5 horng;have HO:Hid (Calls prog 232 #[.pointer (some ⟨U,0,none⟩),.slice D ns cs,.slice az nz cz] w (cQ w (gU m s z))):=mN U m D ns cs s az nz cz z w p4 hs hz (by omega) (by omega);clear hRF hB hzn hzb E hmo horng;go_enter func184,ntmps184;go_upto_if 16 with fail;go_cut [7] (λv wx=>v = cG mo/\w=wx);case first =>
   cases bc
   ·have Hm2:Hid (mo=C.M):=by show _=_;rw [<- Hmo.out,Hbc.out];rfl
    go_wp2_with fail
    go_meet
    exact ⟨by rw [Hm2.out],rfl⟩
   ·have Hm2:Hid (mo=m):=by show _=_;rw [<- Hmo.out,Hbc.out];rfl
    go_wp2_with fail
    go_meet
    exact ⟨by rw [Hm2.out],rfl⟩
  obtain ⟨rfl,rfl⟩:=hcut;go_wp2_with fail;refine HO.mono ?_;rintro e w2 ⟨a2,c2,rfl,hown2,hb2⟩;have hB2:=HB.af hb2;have hGr:=kY U a n c L m a2 _ c2 (gU m s z) mo (hB2.box.cell 0 rfl) (hB2.box.cell 5 rfl) (HE.g.af (hb.trans (hb2.mono hb.size))) (HE.iZ.af (hb.trans (hb2.mono hb.size))) HE.rws (Pn hown2).1 Horng.out HE.n6 (by rw [Hzl.out] at hol;omega);have hgl:=vz (O:=G.ops) (L:=L) (Q:=gU m s z) (most:=mo);have Hcs:Hid (et G.ops L m C s z=cO (tD G.ops L (gU m s z) mo)):=by show _=_;rw [et,Hmo.out]
  have hcn:(et G.ops L m C s z).Nodup:=sU Hz.1;have hcb:∀x ∈ et G.ops L m C s z,0<=x/\x<(m:Int):=λx Y=>by
   rcases nf (vz x (yK.1 Y)) with h1 | h1
   ·exact Hz.2 x h1
   ·exact ⟨h1.1,h1.2.1⟩
  have hcl:(et G.ops L m C s z).length<=64:=K9 (lI hcn hcb) hm6;rw [Hcs.out,eE] at hcl;have Hcn:=Z5 (K3 hcn hcb);unfold cQ at hGr;obtain ⟨gl,r⟩:∃gl,(tD G.ops L (gU m s z) mo).length=gl:=⟨_,rfl⟩
  have Hgl:=Z5 r;rw [r] at hGr hcl;obtain ⟨t,hte⟩:∃t,et G.ops L m C s z=t:=⟨_,rfl⟩
  have Htl:Hid (t.length=gl):=by show _=_;rw [<- hte,Hcs.out,eE,r]
  have Hcs2:Hid (cO (tD G.ops L (gU m s z) mo)=t):=by show _=_;rw [<- hte,Hcs.out]
  rw [hte] at Hcn;have Hte:=Z5 hte;clear hcn hcb r hgl hte Hcs;have HGr:=Z5 hGr;clear hGr;generalize (gU m s z).length=ol at *;go_wp2_with fail;refine HGr.mono ?_;rintro e w3 ⟨a3,c3,rfl,hown3,hb3⟩;have hbw3:=Pm hb2 hb3;have hown3':=aY hown3 (B':=w.heap.size) hb2.size;have HSo:=Z5 (sN w.heap.size a3 gl c3 _ w3 hown3' hbw3.size (by omega));rw [Hcs2.out] at HSo;clear hown3 hown3';go_wp2_with fail;refine HSo.mono ?_;rintro e w4 ⟨rfl,B,_,hb4⟩;have hbw4:PY w w4:=hbw3.trans hb4;have hB4:=HB.af hbw4;have ht4:=(Pn B).1;have HRt:=Z5 (qi (c:=c) (cy:=cy) U P M am mn cm _ 0 D ns cs s a3 gl c3 t HE.out (hb.trans (hbw4.mono hb.size)) hB4.box (hs.af hbw4) ht4 (by omega));obtain ⟨rr,hrr⟩:∃rr,dx G.ops L m C s t=rr:=⟨_,rfl⟩
  rw [hrr] at HRt;have Hrr:Hid (dx G.ops L m C s (et G.ops L m C s z)=rr):=by show _=_;rw [Hte.out];exact hrr
  clear hrr;go_wp2_with fail;refine HRt.mono ?_;rintro e w5 ⟨rfl,hb5⟩;have K:PY w w5:=Pm hbw4 hb5;have N:=HB.af K;cases rr
  ·have HF:Hid (RF=(11,[])):=by show _=_;rw [<- HRF.out,ua _ _ _ _ _ _ _ _ Hrr.out]
   go_wp2_with fail;go_ret;exact ⟨σ,N,Mt,Mt,Pr K _,by rw [HF.out];rfl,λh=>by rw [HF.out] at h;cases h⟩
  have p10:=N.box.cell 10 rfl;by_cases hbig:σ.T.length=65536
  ·have HF:Hid (RF=(8,[])):=by show _=_;rw [<- HRF.out,yo _ _ _ _ _ _ _ _ Hrr.out hbig]
   have hbg:((σ.T.length:Int) == 65536)=true:=by simp;omega
   clear hbig;go_wp2_with fail;go_ret;exact ⟨σ,N,Mt,Mt,Pr K _,by rw [HF.out];rfl,λh=>by rw [HF.out] at h;cases h⟩
  have hbg:((σ.T.length:Int) == 65536)=false:=by simp;omega
  have HF:Hid (RF=e9 (gH G.ops L m C (d - 1)) s z (if ns<C.W then t.filter (λx=>decide (¬ x ∈ z)) else []) (σ.T ++ [t])):=by show _=_;rw [<- HRF.out,CS _ _ _ _ _ _ _ _ (by rw [Hsl.out];exact hd) Hrr.out hbig,Hsl.out,Hte.out]
  have hTl:=N.ln;have hTlt:σ.T.length<65536:=by omega
  have S:=bf B hb5;have f10:=N.box.frozen 10;have hcn:=bm w5 (.slice a3 gl c3) 22;have hbn:=an w5 (.cells #[.slice a3 gl c3] 22);have hsz5:=K.size;have hszb:=hb.size;clear hbig;go_wp2_with (at_builtin;refine aS rfl _ _ 25 22 rfl ds 24 underlying25 dw rfl w0.heap.size σ.ar σ.T.length σ.cr _ rfl ((N.om.own).alloc _) ⟨w5.heap.size,0,none⟩ 1 (.slice a3 gl c3) rfl hcn rfl (by omega) (by unfold maxLen;omega) (by simp;omega) ?_;intro a6 c6 w6 hown6 hgr6 hap6;have q10:=(N.xD hgr6).cell 10 rfl;have qf10:=(N.xD hgr6).frozen 10);obtain rfl:=Htl.out;have hra:a3 ≠ none->¬ σ.J U (ablk a3):=λh0 hj=>by have h1:=HB.lt hj;have h2:=(aT S h0).1;omega
  obtain ⟨hB7,hM7⟩:=kF.push N (K9 hszb hsz5) (aY S hszb) hra hTlt hown6 hgr6 hap6;obtain ⟨Z,hZ⟩:∃Z:World,Z=w6.setCell ⟨U,10,none⟩ (.slice a6 (σ.T.length+1) c6):=⟨_,rfl⟩
  rw [<- hZ] at hB7 hM7;have hB05:PY w0 w5:=hb.trans (K.mono hszb);have hbZ:PY w0 Z:=hB05.trans (hM7.below (λx Y=>by
   rcases Y with (Y | Y) | ⟨h1,h2⟩
   ·rw [Y];exact hpb
   ·exact (N.om.lt x Y).1
   ·rw [h2];exact K9 hszb (aT S h1).1) hB05.size)
  have F:aC w Z (σ.J U) ((⟨a6,c6,σ.R ++ [(a3,c3)],σ.T ++ [t]⟩:mD).J U):=aC.Cx K hM7 λx Y=>by rw [Y.2];exact (aT S Y.1).1
  have hsZ:=hs.dc F hsp;have hzZ:=hz.dc F hzp;have hsJ:0<ns->¬ (⟨a6,c6,σ.R ++ [(a3,c3)],σ.T ++ [t]⟩:mD).J U (ablk D):=λh0=>F.not (hs.lt h0) (hsp h0);have hRl:σ.R.length=σ.T.length:=N.om.rl;have hszZ:=F.size;have HCh:Hid (Calls prog 234 #[.pointer (some ⟨U,0,none⟩),.slice D ns cs,.slice az nz cz,.slice a3 t.length c3,.func (.func 184) #[.pointer (some ⟨U,0,none⟩)] #[]] Z
    (wI w0 U b P M am mn cm m a n c ay ny cy C σ RF w)):=by
   refine (qB (σ:=mD) (λV A=>PY w0 V/\kF V w0.heap.size U b P M am mn cm m a n c ay ny cy C A/\Ints V D ns s/\(0<ns->¬ A.J U (ablk D))/\(σ.R ++ [(a3,c3)]) <+: A.R/\(σ.T ++ [t]) <+: A.T) (λA x=>A.J U x) (λA=>A.T)
    (λs z T=>gH G.ops L m C (d - 1) s z T) U C.W D ns cs s az nz cz z a3 t.length c3 t Z ⟨a6,c6,σ.R ++ [(a3,c3)],σ.T ++ [t]⟩ ⟨hbZ,hB7,hsZ,hsJ,Mt,Mt⟩ ?_ (hB7.box.cell 9 rfl) ?_ (λV A x h Y=>h.2.1.lt Y) hzZ Hcn.1 (by omega) (by omega) (by omega) (by omega) ?_).mono ?_
   ·rintro V1 V2 A ⟨e1,e2,e3,e4,e5,e6⟩ hM;refine ⟨e1.trans (hM.below (λx Y=>K9 hbZ.size Y.1) e1.size),e2.dc hM λx Y hh=>hh.2 Y,e3.dc hM λhn Y=>?_,e4,e5,e6⟩;have h1:=hsZ.lt hn;omega
   ·rintro V A ⟨e1,e2,e3,e4,e5,e6⟩;refine ⟨e3,?_⟩;have hlt:σ.T.length<A.T.length:=by obtain ⟨X,hX⟩:=e6;rw [<- hX];simp <;> omega
    have h1:=e2.om.ints hlt;rw [Fu e6 (by simp),Dd,<- hRl,EW e5 (by simp),Ec] at h1;exact h1
   ·intro hlt V1 A a1 c1 a2 c2 j zc hj hzc hnj hI hM h1 h2 h3 h4;obtain ⟨d',hd'⟩:∃d',d'+1=d:=⟨d - 1,by omega⟩
    have hzl:zc.length<=64/\zc.Nodup/\∀x ∈ zc,0<=x/\x<(m:Int):=by
     have hsub:∀x ∈ (t.take j).filter (λx=>decide (¬ x ∈ z)),x ∈ t/\¬ x ∈ z:=λx Y=>by rw [MQ] at Y;exact ⟨Mb Y.1,by simpa using Y.2⟩
     have hnd:zc.Nodup:=by rw [hzc,Mq];refine ⟨Hz.1,Nh _ (M4 (Nx _ _) Hcn.1),λx Y y hy e=>?_⟩;exact (hsub y hy).2 (e ▸ Y)
     have hbd:∀x ∈ zc,0<=x/\x<(m:Int):=λx Y=>by
      rw [hzc] at Y;rcases List.mem_append.1 Y with Y | Y
      ·exact Hz.2 x Y
      ·exact Hcn.2 x (hsub x Y).1
     exact ⟨K9 (lI hnd hbd) hm6,hnd,hbd⟩
    have h5:=IH d' hd' V1 A a1 (ns+1) c1 (s ++ [nth t j]) a2 zc.length c2 zc (by omega) hzl.1 hI.1 hI.2.1 h1 h2 (λ_=>h3) (λh0=>h4 (by intro e;have:=h2.pl h0;rw [e] at this;cases this)) hzl.2.1 hzl.2.2;have hdd:d - 1=d':=by omega
    refine h5.mono ?_;rintro e V2 ⟨τ',g1,g2,g3,g4,g5,g6⟩;rw [hdd];exact ⟨τ',⟨hI.1.trans (g4.below (λx Y=>by
      rcases Y with Y | Y
      ·rw [Y];exact hpb
      ·exact (hI.2.1.om.lt x Y).1) hI.1.size),g1,hI.2.2.1.dc g4 hI.2.2.2.1,λhn=>g4.not (hI.2.2.1.lt hn) (hI.2.2.2.1 hn),hI.2.2.2.2.1.trans g2,hI.2.2.2.2.2.trans g3⟩,g4,g5,g6⟩
   ·rintro e V2 ⟨τ',g1,g2,g3,g4⟩;rw [<- HF.out] at g3 g4;exact ⟨τ',g1.2.1,(NU _ _).trans g1.2.2.2.2.1,(NU _ _).trans g1.2.2.2.2.2,F.trans g2,g3,g4⟩
  rw [<- hZ];clear IH HO HSo HGr HRt B S hown6 hgr6 hap6 hB7 hM7 hZ F hsZ hzZ HF;go_wp2_with fail;refine HCh.mono ?_;rintro e w7 ⟨τ',g1,g2,g3,g4,rfl,g6⟩;go_wp2_with fail;go_ret;exact ⟨τ',g1,g2,g3,g4,rfl,g6⟩
def kp (P M:Int) (mod:LI) (m:Nat) (L:Ll) (w:World) (e:Ending) (w':World):Prop :=
 ∃a1 c1 a2 c2,e = .returned (.tuple #[.agg #[cG P,cG M,.slice a1 mod.length c1,cG m,.slice a2 (aU (ah P M.toNat mod) L m).length c2],cG 0])/\bL w.heap.size w' a1 mod.length mod /\
  cF w.heap.size w' a2 (aU (ah P M.toNat mod) L m).length (aU (ah P M.toNat mod) L m)/\PY w w'
theorem qT {w:World} {g:Nat} {x y u v:Value} (h0:w.cell? ⟨g,0,none⟩=some x) (h1:w.cell? ⟨g,1,none⟩=some y) :
  ((w.setCell ⟨g,0,none⟩ u).setCell ⟨g,1,none⟩ v).cell? ⟨g,0,none⟩=some u/\((w.setCell ⟨g,0,none⟩ u).setCell ⟨g,1,none⟩ v).cell? ⟨g,1,none⟩=some v:=by
 have e1:(w.setCell ⟨g,0,none⟩ u).cell? ⟨g,0,none⟩=some u:=Lh w _ _ h0;have Z:(w.setCell ⟨g,0,none⟩ u).cell? ⟨g,1,none⟩=some y:=by rw [Le _ _ _ _ (by simp)];exact h1
 exact ⟨by rw [Le _ _ _ _ (by simp)];exact e1,Lh _ _ _ Z⟩
theorem tj (P M:Int) (am:OA) (E cm:Nat) (mod:LI) (m:Nat) (a:OA) (n c:Nat) (L:Ll) (w:World) (K:Ints w am E mod) (hi:bw w a n L) (hE:aI P M mod m L=0) (hmn:E<=1000000) :
  Calls prog 80 #[.agg #[cG P,cG M,.slice am E cm,cG m,.slice a n c]] w (kp P M mod m L w):=by
 go_enter func80,ntmps80;go_wp2_with fail;obtain ⟨W,hW⟩:∃W:World,W=(w.alloc (.cells #[cG P,cG M,.slice am E cm,cG m,.slice a n c] 27)).alloc (.cells #[cG 0,cG 0,ds,cG 0,ds] 27):=⟨_,rfl⟩
 rw [<- hW];have z:PY w W:=by rw [hW];exact bY _ _ _
 have hsW:W.heap.size=w.heap.size+2:=by rw [hW];simp
 have x0:aQ W w.heap.size [cG P,cG M,.slice am E cm,cG m,.slice a n c]:=by rw [hW];exact (Po _ _ _ rfl).alloc _
 have z0:aQ W (w.heap.size+1) [cG 0,cG 0,ds,cG 0,ds]:=by rw [hW];exact Po _ _ _ (by simp)
 clear hW;refine (dn P M am E cm mod m a n c L W (K.af z) (hi.af z)).mono ?_;rintro e X ⟨rfl,A⟩;have S:=Pm z A;have HK:Hid (∀V,PY X V->Calls prog 133 #[.agg #[cG P,cG M,.slice am E cm],.agg #[cG m,.slice a n c]] V (qH (ah P M.toNat mod) L m V)):=λV hV =>
  A6 P M am E cm mod m a n c L V (K.af (Pm S hV)) (hi.af (Pm S hV)) hE
 have HO:Hid (∀V a5 k5 Q,PY X V->Calls prog 120 #[.agg #[cG P,cG M,.slice am E cm],.agg #[cG m,.slice a5 k5 Q],cG 0] V (pz P M mod m a5 k5 Q V)):=λV a5 k5 Q hV =>
  Bw P M am E cm mod m a5 k5 Q V (K.af (Pm S hV)) hmn
 have N:Hid (∀a1 c1 a2 c2 w',bL w.heap.size w' a1 mod.length mod->cF w.heap.size w' a2 (aU (ah P M.toNat mod) L m).length (aU (ah P M.toNat mod) L m)->PY w w' ->
   kp P M mod m L w (.returned (.tuple #[.agg #[cG P,cG M,.slice a1 mod.length c1,cG m,.slice a2 (aU (ah P M.toNat mod) L m).length c2],cG 0])) w'):=λa1 c1 a2 c2 w' h1 h2 h3=>⟨a1,c1,a2,c2,rfl,h1,h2,h3⟩
 rw [hE];unfold qH at HK;obtain ⟨KM,hKM⟩:∃KM,aU (ah P M.toNat mod) L m=KM:=⟨_,rfl⟩
 rw [hKM] at HK N;have hS:∀V,PY X V->V.cell? ⟨w.heap.size,0,none⟩=some (cG P)/\V.cell? ⟨w.heap.size,1,none⟩=some (cG M)/\V.cell? ⟨w.heap.size,2,none⟩=some (.slice am E cm)/\V.cell? ⟨w.heap.size,3,none⟩=some (cG m)/\V.cell? ⟨w.heap.size,4,none⟩=some (.slice a n c) /\
   aQ V (w.heap.size+1) [cG 0,cG 0,ds,cG 0,ds]:=λV hV=>by have x1:=(x0.af A).af hV;exact ⟨x1.cell 0 rfl,x1.cell 1 rfl,x1.cell 2 rfl,x1.cell 3 rfl,x1.cell 4 rfl,(z0.af A).af hV⟩
 have HS:=Z5 hS;have Hbw1:=Z5 S;have HsW:Hid (w.heap.size+2<=X.heap.size):=by show _<=_;rw [<- hsW];exact A.size
 obtain ⟨c0,c1,c2,c3,c4,_⟩:=HS X (KU _ _);obtain ⟨q,hq⟩:∃q,KM.length=q:=⟨_,rfl⟩
 rw [hq] at HK N;clear hE hKM hS x0 z0 z hsW K hi A S hq;go_wp2_with fail;go_cut [5,6] (λv5 v6 wx=>∃g a5 Q,v5 = .pointer (some ⟨g,0,none⟩)/\v6 = cG 0/\wx.cell? ⟨g,0,none⟩=some (cG m)/\wx.cell? ⟨g,1,none⟩=some (.slice a5 q Q)/\cF X.heap.size wx a5 q KM/\PY X wx);case first =>
  obtain ⟨b0,b1,b2,b3,b4,_⟩:=HS (X.alloc (.cells #[cG 0,ds] 94)) (an _ _)
  go_region_law ((first
   | (go_simp;go_at_call 91;((with_reducible refine (nJ P M am E cm m a n c _).mono ?_);rintro e F ⟨rfl,hb4⟩;have Z:PY X F:=(by first | exact Pm (KU _ _).drew hb4 | exact Pm (an _ (.cells #[cG 0,ds] 94)).drew hb4 | exact Pm (Pq (KU _ _).drew _) hb4);obtain ⟨c0,c1,c2,c3,c4,_⟩:=HS.out F Z;obtain ⟨d0,d1,d2,d3,d4,_⟩:=HS.out (F.alloc (.cells #[cG 0,ds] 94)) (Pq Z _);(first | (have gz0:=aB hb4 (aF (g:=X.heap.size) X #[cG 0,ds] 94 rfl 0);have j:=aB hb4 (aF (g:=X.heap.size) X #[cG 0,ds] 94 rfl 1);have gf0:=dK hb4 (by simp) (fN (g:=X.heap.size) X #[cG 0,ds] 94 rfl 0);have gf1:=dK hb4 (by simp) (fN (g:=X.heap.size) X #[cG 0,ds] 94 rfl 1)) | skip)))
   | (go_simp;go_at_call 133;((with_reducible refine (HK.out _ (by first | exact Z | exact Pq Z _)).mono ?_);rintro e w5 ⟨a5,Q,rfl,G,Y⟩;have B:PY X w5:=(by first | exact Pm Z Y | exact Pm (Pq Z _) Y);(first | (have C:=aB Y gz0;have D:=aB Y j;have gh0:=dK Y (Lb _ _ gz0) gf0;have gh1:=dK Y (Lb _ _ j) gf1) | (have C:=aB Y (aF F #[cG 0,ds] 94 rfl 0);have D:=aB Y (aF F #[cG 0,ds] 94 rfl 1);have gh0:=dK Y (by simp) (fN F #[cG 0,ds] 94 rfl 0);have gh1:=dK Y (by simp) (fN F #[cG 0,ds] 94 rfl 1)) | skip)))))
  all_goals (go_wp2_with fail;go_meet)
  all_goals (first
   | exact ⟨w5.heap.size,a5,Q,rfl,rfl,aF _ _ _ rfl 0,aF _ _ _ rfl 1,(G.af (an _ _)).mono (by first | exact Z.size | exact (Pq Z _).size),Pq B _⟩
   | exact ⟨X.heap.size,a5,Q,rfl,rfl,(qT C D).1,(qT C D).2,((G.setCell (p:=⟨X.heap.size,0,none⟩) (Lb _ _ gz0) _).setCell (p:=⟨X.heap.size,1,none⟩) (Lb _ _ j) _).mono Z.size,(B.setCell (p:=⟨X.heap.size,0,none⟩) (KT _) _).setCell (p:=⟨X.heap.size,1,none⟩) (KT _) _⟩
   | exact ⟨F.heap.size,a5,Q,rfl,rfl,(qT C D).1,(qT C D).2,((G.setCell (p:=⟨F.heap.size,0,none⟩) (by simp) _).setCell (p:=⟨F.heap.size,1,none⟩) (by simp) _).mono (Pq Z _).size,(B.setCell (p:=⟨F.heap.size,0,none⟩) Z.size _).setCell (p:=⟨F.heap.size,1,none⟩) Z.size _⟩)
 obtain ⟨g,a5,Q,rfl,rfl,g0,g1,G,Y⟩:=hcut;generalize wc=V at *;obtain ⟨c0,c1,c2,c3,c4,zz⟩:=HS V Y;have HOV:=Z5 (HO V a5 q Q Y);clear HK HO;go_wp2_with fail;refine HOV.mono ?_;rintro e w6 ⟨a6,c6,rfl,hN6,hb6⟩;obtain ⟨_,_,_,_,_,U⟩:=HS w6 (Pm Y hb6);have z0:=U.cell 0 rfl;have z1:=U.cell 1 rfl;have z2:=U.cell 2 rfl;have z3:=U.cell 3 rfl;have z4:=U.cell 4 rfl;have f0:=U.frozen 0;have f1:=U.frozen 1;have f2:=U.frozen 2;have f3:=U.frozen 3;have f4:=U.frozen 4;have hbF:=Pm Hbw1.out (Pm Y hb6);have hs:=HsW.out;have hs2:=Y.size;have hM6:=G.af hb6;have r:=N a6 c6 a5 Q (((((w6.setCell ⟨w.heap.size+1,0,none⟩ (cG P)).setCell ⟨w.heap.size+1,1,none⟩ (cG M)).setCell ⟨w.heap.size+1,2,none⟩ (.slice a6 mod.length c6)).setCell ⟨w.heap.size+1,3,none⟩ (cG m)).setCell ⟨w.heap.size+1,4,none⟩ (.slice a5 q Q))
  ((((((hN6.setCell (p:=⟨w.heap.size+1,0,none⟩) (by simp;omega) _).setCell (p:=⟨w.heap.size+1,1,none⟩) (by simp;omega) _).setCell (p:=⟨w.heap.size+1,2,none⟩) (by simp;omega) _).setCell (p:=⟨w.heap.size+1,3,none⟩) (by simp;omega) _).setCell (p:=⟨w.heap.size+1,4,none⟩) (by simp;omega) _).mono (by omega))
  ((((((hM6.setCell (p:=⟨w.heap.size+1,0,none⟩) (by simp;omega) _).setCell (p:=⟨w.heap.size+1,1,none⟩) (by simp;omega) _).setCell (p:=⟨w.heap.size+1,2,none⟩) (by simp;omega) _).setCell (p:=⟨w.heap.size+1,3,none⟩) (by simp;omega) _).setCell (p:=⟨w.heap.size+1,4,none⟩) (by simp;omega) _).mono (by omega))
  (((((hbF.setCell (p:=⟨w.heap.size+1,0,none⟩) (by simp) _).setCell (p:=⟨w.heap.size+1,1,none⟩) (by simp) _).setCell (p:=⟨w.heap.size+1,2,none⟩) (by simp) _).setCell (p:=⟨w.heap.size+1,3,none⟩) (by simp) _).setCell (p:=⟨w.heap.size+1,4,none⟩) (by simp) _)
 have HFin:=Z5 r;clear r hM6 G hN6 HOV zz U;go_wp2_with fail;exact bodyPost_ret (v:=.tuple #[.agg #[cG P,cG M,.slice a6 mod.length c6,cG m,.slice a5 q Q],cG 0]) (by simp [results,results80,go_sem,z0,z1,z2,z3,z4]) rfl HFin.out
section
variable {O:aP} {El:Int->Prop}
def iG (O:aP):LI->Int->Int
 | [],_=>0
 | c :: a,x=>O.add c (O.mul x (iG O a x))
def quoP (O:aP) (s:Int):LI->LI
 | []=>[]
 | [_]=>[]
 | _ :: d :: a=>iG O (d :: a) s :: quoP O s (d :: a)
theorem lK (F:bK O El) {x:Int} (Z:El x):∀ {a:LI},(∀c ∈ a,El c)->El (iG O a x)
 | [],_=>F.zero
 | c :: a,h=>F.cl.add _ _ (h c (by simp)) (F.cl.mul _ _ Z (lK F Z λy Y=>h y (LF _ Y)))
theorem xT (O:aP) (s:Int):∀a:LI,(quoP O s a).length=a.length - 1
 | []=>rfl
 | [_]=>rfl
 | _ :: d :: a=>by rw [quoP,LB,xT O s (d :: a)];simp
theorem qI (F:bK O El) {s:Int} (X:El s):∀ {a:LI},(∀c ∈ a,El c)->∀c ∈ quoP O s a,El c
 | [],_,c,Z=>by simp [quoP] at Z
 | [_],_,c,Z=>by simp [quoP] at Z
 | b :: d :: a,h,c,Z=>by
  rw [quoP] at Z;rcases List.mem_cons.1 Z with rfl | Z
  ·exact lK F X λy Y=>h y (LF _ Y)
  ·exact qI F X (λy Y=>h y (LF _ Y)) c Z
theorem BQ (F:bK O El) {c x:Int} (Y:El c) (Z:El x):iG O [c] x=c:=by show O.add c (O.mul x 0)=c;rw [F.dh Z,F.add_zero _ Y]
theorem BP (F:bK O El) {s x:Int} (S:El s) (V:El x):∀ {a:LI},(∀c ∈ a,El c)->iG O a x=O.add (O.mul (O.add x (O.neg s)) (iG O (quoP O s a) x)) (iG O a s)
 | [],_=>by show (0:Int)=O.add (O.mul _ 0) 0;rw [F.dh (F.cl.add _ _ V (F.cl.neg _ S)),F.add_zero _ F.zero]
 | [c],h=>by have N:=h c (by simp);rw [BQ F N V,BQ F N S];show c=O.add (O.mul _ 0) c;rw [F.dh (F.cl.add _ _ V (F.cl.neg _ S)),F.tP N]
 | c :: d :: a,h=>by
  have N:=h c (by simp);have ha:∀y ∈ d :: a,El y:=λy j=>h y (LF _ j);have ih:=BP F S V ha;have Y:=lK F S ha;have hAx:=lK F V ha;have G:=lK F V (qI F S ha);have Z:=F.cl.add _ _ V (F.cl.neg _ S);have e1:iG O (c :: d :: a) x=O.add c (O.mul x (iG O (d :: a) x)):=rfl;have e2:iG O (c :: d :: a) s=O.add c (O.mul s (iG O (d :: a) s)):=rfl;have e:iG O (quoP O s (c :: d :: a)) x=O.add (iG O (d :: a) s) (O.mul x (iG O (quoP O s (d :: a)) x)):=rfl;rw [e1,e2,e];generalize iG O (d :: a) s=A at *;generalize iG O (d :: a) x=B at *;generalize iG O (quoP O s (d :: a)) x=Q at *;generalize hD:O.add x (O.neg s)=D at *;have E:x=O.add D s:=by rw [<- hD,F.add_assoc _ _ _ V (F.cl.neg _ S) S,F.lL S,F.add_zero _ V]
  have U:=F.cl.mul _ _ Z Y;have L:=F.cl.mul _ _ S Y;have K:=F.cl.mul _ _ V G;have X:=F.cl.mul _ _ Z K;have r:=F.cl.mul _ _ V Y;have C:=F.cl.mul _ _ Z G;have f1:O.mul x B=O.add (O.mul D (O.mul x Q)) (O.mul x A):=by rw [ih,F.mul_add _ _ _ V C Y,<- F.mul_assoc _ _ _ V Z G,F.mul_comm _ _ V Z,F.mul_assoc _ _ _ Z V G]
  have f2:O.mul x A=O.add (O.mul D A) (O.mul s A):=by rw [F.mul_comm _ _ V Y,F.mul_comm _ _ Z Y,F.mul_comm _ _ S Y,<- F.mul_add _ _ _ Y Z S,<- E]
  rw [f1,f2,F.mul_add _ _ _ Z Y K];generalize O.mul D A=u at *;generalize O.mul s A=v at *;generalize O.mul D (O.mul x Q)=z at *;rw [F.add_comm _ _ U X,F.add_assoc _ _ _ X U (F.cl.add _ _ N L),<- F.add_assoc _ _ _ N X (F.cl.add _ _ U L),F.add_comm _ _ N X,F.add_assoc _ _ _ X N (F.cl.add _ _ U L),<- F.add_assoc _ _ _ N U L,F.add_comm _ _ N U,F.add_assoc _ _ _ U N L]
theorem ko (F:bK O El) {s:Int} (Z:El s):∀ {l:LI},(∀y ∈ l,y=0)->iG O l s=0
 | [],_=>rfl
 | y :: l,h=>by show O.add y (O.mul s (iG O l s))=0;rw [ko F Z λz Y=>h z (LF _ Y),h y (by simp),F.dh Z,F.add_zero _ F.zero]
theorem uJ (F:bK O El) {s:Int} (Y:El s):∀ {c:Int} {a:LI},(∀y ∈ a,El y)->(∀y ∈ quoP O s (c :: a),y=0)->∀y ∈ a,y=0
 | c,[],_,_=>by simp
 | c,d :: a,h,X=>by
  rw [quoP] at X;have hd:=h d (by simp);have ha:∀y ∈ a,El y:=λy Z=>h y (LF _ Z);have h1:=uJ F Y ha λy Z=>X y (LF _ Z);have h2:iG O (d :: a) s=0:=X _ (by simp);have h3:d=0:=by have e:iG O (d :: a) s=O.add d (O.mul s (iG O a s)):=rfl;rw [e,ko F Y h1,F.dh Y,F.add_zero _ hd] at h2;exact h2
  intro y Z;rcases List.mem_cons.1 Z with rfl | Z
  ·exact h3
  ·exact h1 y Z
theorem kH (F:bK O El):∀ {X a:LI},X.Nodup->(∀x ∈ X,El x)->(∀c ∈ a,El c)->(∀x ∈ X,iG O a x=0)->a.length<=X.length->∀c ∈ a,c=0
 | [],a,_,_,_,_,Q=>by have e:a=[]:=Lw (by simpa using Q);subst e;simp
 | s :: X,[],_,_,_,_,_=>by simp
 | s :: X,c :: a,G,K,ha,h0,Q=>by
  have Y:=K s (by simp);have S:∀x ∈ X,El x:=λx V=>K x (LF _ V);have h1:=kH F (X:=X) (a:=quoP O s (c :: a)) (List.nodup_cons.1 G).2 S (qI F Y ha) (λx V=>by
   have Z:=S x V;have h2:=BP F Y Z ha;rw [h0 x (LF _ V),h0 s (by simp)] at h2;have N:=F.cl.add _ _ Z (F.cl.neg _ Y);have L:=lK F Z (qI F Y ha);rw [F.add_zero _ (F.cl.mul _ _ N L)] at h2;refine F.vr N L (λe=>(List.nodup_cons.1 G).1 ?_) h2.symm;have h3:x=s:=by
    have D:=F.jX Z (F.cl.neg _ Y) e;have E:O.neg (O.neg s)=O.neg (O.neg x):=by rw [D]
    rw [F.neg_neg Y,F.neg_neg Z] at E;exact E.symm
   rw [<- h3];exact V) (by rw [xT];simp only [LB] at Q ⊢;omega)
  have h2:=uJ F Y (λy U=>ha y (LF _ U)) h1;intro y U;rcases List.mem_cons.1 U with rfl | U
  ·have h3:=h0 s (by simp);have e:iG O (y :: a) s=O.add y (O.mul s (iG O a s)):=rfl;have C:iG O a s=0:=ko F Y h2;rw [e,C,F.dh Y,F.add_zero _ (ha y (by simp))] at h3;exact h3
  ·exact h2 y U
end
def swp (X:LI) (j:Nat):LI:=(X.set j (nth X (j - 1))).set (j - 1) (nth X j)
theorem Cq {X:LI} {j:Nat} (h0:0<j) (Z:j<X.length) (i:Nat):nth (swp X j) i=if i=j - 1 then nth X j else if i=j then nth X (j - 1) else nth X i:=by unfold swp;rw [dS _ _ _ _ (by simp;omega),dS _ _ _ _ Z]
theorem E3 {X:LI} {j:Nat} (h0:0<j) (Z:j<X.length):(swp X j).Perm X:=by
 obtain ⟨A,u,v,C,rfl,Y⟩:∃A u v C,X=A ++ u :: v :: C/\A.length+1=j:=by
  refine ⟨X.take (j - 1),X[j - 1],X[j],X.drop (j+1),?_,by rw [Lt];omega⟩;have h1:X.drop (j - 1)=X[j - 1] :: X.drop j:=by rw [LH (by omega)];congr 2;omega
  rw [<- LH Z,<- h1,Nb]
 subst Y;have h1:nth (A ++ u :: v :: C) A.length=u:=by unfold nth;simp
 have h2:nth (A ++ u :: v :: C) (A.length+1)=v:=by unfold nth;simp [List.getElem?_append]
 have h3:swp (A ++ u :: v :: C) (A.length+1)=A ++ v :: u :: C:=by unfold swp;rw [M7,h1,h2];simp [List.set_append]
 rw [h3];exact List.Perm.append_left A (Pg u v C)
def y5 (X:LI) (k:Nat):Prop:=∀p q,p<q->q<k->nth X p<=nth X q
def xC (X:LI) (i j:Nat):Prop:=∀p q,p<q->q<=i->q ≠ j->nth X p<=nth X q
theorem y5.start {X:LI} {i:Nat} (h:y5 X i):xC X i i:=λp q h1 h2 h3=>h p q h1 (by omega)
theorem xC.step {X:LI} {i j:Nat} (h:xC X i j) (h0:0<j) (U:j<=i) (Y:j<X.length) (S:nth X j<nth X (j - 1)):xC (swp X j) i (j - 1):=λp q h1 h2 h3=>by
 rw [Cq h0 Y,Cq h0 Y];by_cases e1:q=j
 ·subst e1;rw [KY h3,KX rfl];by_cases Z:p=q - 1
  ·rw [KX Z];omega
  ·rw [KY Z,KY (by omega)];exact h p (q - 1) (by omega) (by omega) (by omega)
 ·rw [KY h3,KY e1];by_cases Z:p=j - 1
  ·rw [KX Z];exact h j q (by omega) h2 e1
  ·rw [KY Z];by_cases V:p=j
   ·rw [KX V];exact h (j - 1) q (by omega) h2 e1
   ·rw [KY V];exact h p q h1 h2 e1
theorem xC.done {X:LI} {i j:Nat} (h:xC X i j) (Y:j<=i) (hd:j=0\/nth X (j - 1)<=nth X j):y5 X (i+1):=λp q h1 h2=>by
 by_cases e:q=j
 ·subst e;rcases hd with hd | hd
  ·omega
  ·by_cases Z:p=q - 1
   ·rw [Z];exact hd
   ·exact Ob (h p (q - 1) (by omega) (by omega) (by omega)) hd
 ·exact h p q h1 (by omega) e
theorem y5.sort {X Q:LI} {k:Nat} (h:y5 X k) (U:X.length<=k) (V:X.Perm Q):X=cO Q:=by refine kP ?_ V;rw [Nn];intro i j hi Y Z;have:=h i j Z (by omega);rwa [aj hi,aj Y] at this
theorem AK (N:Int) (a:OA) (n c:Nat) (l:LI) (w:World) (hi:Ints w a n l) :
  Calls prog 38 #[.slice a n c,cG N] w (jd w (fP N l)):=by
 have S:=Z5 hi.len;have B:=hi.pl;have K:=hi.max;unfold maxLen at K;go_enter func38,ntmps38;go_wp2_with fail;go_loopw [5] (λF wr=>∃k:Nat,k<=n/\F = cG k/\Hid (ru N l k=true)/\bg w wr) (λF _=>n - (intOf F).toNat);case atStart=>exact ⟨0,K0 _,rfl,by show _=_;simp [ru],Pt _⟩
 case round =>
  obtain ⟨j,z,rfl,Q,hd⟩:=hrel
  have G:=hi.drawn hd
  by_cases V:j<n
  ·have A:=G.cell j V
   have C:(j:Int)<n:=by omega
   have U:ke N l j=false->fP N l=false:=λhb=>BX (by rw [S.out];exact V) hb
   have Y:=Z5 U
   clear U
   by_cases h0:0<=nth l j
   ·have d1:decide (nth l j<0)=false:=by simp;omega
    by_cases h1:nth l j<N
    ·have d2:decide (N<=nth l j)=false:=by simp;omega
     by_cases X:j=0
     ·have Z:Hid (ke N l j=true):=by show _=_;unfold ke;rw [Lj h0,Lj h1];simp [X]
      have d3:decide (0<j)=false:=by simp;omega
      clear X
      go_wp2_with fail
      go_quiet (fail)
      go_wp2
      go_roundw
      case rel=>exact ⟨j+1,by omega,by go_num,mq Q.out Z.out,hd.drewN _⟩
      case measure=>simp [intOf] <;> omega
     ·have cp:=G.cell (j - 1) (by omega)
      have e1:((j:Int) - 1).toNat=j - 1:=by omega
      have d3:decide (0<j)=true:=by simp;omega
      have d4:(0:Int)<=(j:Int) - 1:=by omega
      have d5:(1:Int)<=(j:Int):=by omega
      have d6:(j:Int) - 1<n:=by omega
      have kw:IntKind.i64.wrap ((j:Int) - 1)=(j:Int) - 1:=La _ (by omega)
      by_cases h2:nth l (j - 1)<nth l j
      ·have Z:Hid (ke N l j=true):=by show _=_;unfold ke;simp [h0,h1,h2]
       have E:decide (nth l j<=nth l (j - 1))=false:=by simp;omega
       clear X
       go_wp2_with fail
       go_quiet (fail)
       go_wp2
       go_roundw
       case rel=>exact ⟨j+1,by omega,by go_num,mq Q.out Z.out,hd.drewN _⟩
       case measure=>simp [intOf] <;> omega
      ·have L:Hid (fP N l=false):=Y (by unfold ke;simp [h2,X])
       have E:decide (nth l j<=nth l (j - 1))=true:=by simp;omega
       clear X
       go_wp2_with fail
       go_quiet (fail)
       go_wp2
       go_ret
       exact ⟨by rw [L.out];rfl,hd.drewN _⟩
    ·have L:Hid (fP N l=false):=Y (by unfold ke;simp [h1])
     have d2:decide (N<=nth l j)=true:=by simp;omega
     go_wp2_with fail
     go_quiet (fail)
     go_wp2
     go_ret
     exact ⟨by rw [L.out];rfl,hd.drewN _⟩
   ·have L:Hid (fP N l=false):=Y (by unfold ke;simp [h0])
    have d1:decide (nth l j<0)=true:=by simp;omega
    go_wp2_with fail
    go_quiet (fail)
    go_wp2
    go_ret
    exact ⟨by rw [L.out];rfl,hd.drewN _⟩
  ·obtain rfl:j=n:=by omega
   have D:Hid (fP N l=true):=by show _=_;rw [fP,S.out];exact Q
   go_wp2_with fail
   go_ret
   exact ⟨by rw [D.out];rfl,hd⟩
theorem sZ (P M:Int) (am:OA) (Y cm:Nat) (mod:LI) (N:Int) (a:OA) (n c:Nat) (L:Ll) (w:World) (Z:Ints w am Y mod) (hi:bw w a n L) :
  Calls prog 35 #[.agg #[cG P,cG M,.slice am Y cm,cG N,.slice a n c]] w λe w'=>e = .returned (cG (aI P M mod N L))/\PY w w':=by rw [<- ur];exact lM P M am Y cm mod N a n c L w Z hi kd
def J8 (P M:Int) (mod:LI) (N:Int) (L:Ll):Int:=if aI P M mod N L=0 then oq (ah P M.toNat mod).q L.length else 0
def J7 (P M:Int) (mod:LI) (N:Int) (L:Ll):Int:=if aI P M mod N L=0 then jP (ah P M.toNat mod).q L.length else aI P M mod N L
theorem wi {P M:Int} {mod:LI} {N:Int} {L:Ll} (Z:aI P M mod N L=0):aK P M=((ah P M.toNat mod).q:Nat)/\(2:Int)<=(ah P M.toNat mod).q/\((ah P M.toNat mod).q:Int)<=256:=by
 obtain ⟨m,hm,_,Y,_⟩:=eQ (aL Z).1;subst hm;rw [KV];rw [Y];have h0:aK P m ≠ 0:=by intro h0;have h1:=(aL Z).1;unfold bs cH at h1;simp [h0] at h1
 obtain ⟨h1,h2,h3,V,U,X⟩:=gP h0;refine ⟨rfl,?_,by omega⟩;rw [X];have:=dF (show 1<=P by omega) (show 1<=(m:Int).toNat by omega);have e:P ^ 1=P:=by rw [LY,MU,Ns]
 omega
theorem qb (P M:Int) (am:OA) (Y cm:Nat) (mod:LI) (N:Int) (a:OA) (k c:Nat) (L:Ll) (w:World) (D:Ints w am Y mod) (hi:bw w a k L) :
  Calls prog 46 #[.agg #[cG P,cG M,.slice am Y cm,cG N,.slice a k c]] w λe w' =>
   e = .returned (.tuple #[cG (J8 P M mod N L),cG (J7 P M mod N L)])/\PY w w':=by
 have S:Hid (∀V,PY w V->Calls prog 35 #[.agg #[cG P,cG M,.slice am Y cm,cG N,.slice a k c]] V λe w'=>e = .returned (cG (aI P M mod N L))/\PY V w'):=λV F=>by have h:=lM P M am Y cm mod N a k c L V (D.af F) (hi.af F) λh=>kd h;rw [ur] at h;exact h
 have K:L.length=k:=hi.len;go_enter func46,ntmps46;go_upto_region 1 with fail;obtain ⟨W,B⟩:∃W:World,W=w.alloc (.cells #[cG P,cG M,.slice am Y cm,cG N,.slice a k c] 27):=⟨_,rfl⟩
 rw [<- B];have X:PY w W:=by rw [B];exact an _ _
 have G:aQ W w.heap.size [cG P,cG M,.slice am Y cm,cG N,.slice a k c]:=by rw [B];exact Po _ _ _ rfl
 have HX:=Z5 G;have c0:=G.cell 0 rfl;have c1:=G.cell 1 rfl;have c2:=G.cell 2 rfl;have c3:=G.cell 3 rfl;have c4:=G.cell 4 rfl;clear B G;by_cases Z:aI P M mod N L=0
 ·have r:k<=256:=by rw [<- K];exact (di Z).choose_spec.2.2.2.1
  obtain ⟨j,A,Q⟩:=wi Z;have E:Hid (J8 P M mod N L=oq (ah P M.toNat mod).q k/\J7 P M mod N L=jP (ah P M.toNat mod).q k):=by show _/\_;unfold J8 J7;rw [KX Z,KX Z,K];exact ⟨rfl,rfl⟩
  rw [Z] at S;have HOr:Hid (∀V,Calls prog 24 #[.agg #[cG P,cG M,.slice am Y cm]] V λe w'=>e = .returned (cG ((ah P M.toNat mod).q:Nat))/\PY V w'):=λV=>by have h:=jh P M am Y cm V;rw [j] at h;exact h
  generalize (ah P M.toNat mod).q=q at *;clear j Z K;go_wp2_with (go_at_call 35;refine (S _ X).mono ?_;rintro e w3 ⟨rfl,U⟩;clear c0 c1 c2 c3 c4);have HS:Hid (∀V,PY w3 V->V.cell? ⟨w.heap.size,0,none⟩=some (cG P)/\V.cell? ⟨w.heap.size,1,none⟩=some (cG M)/\V.cell? ⟨w.heap.size,2,none⟩=some (.slice am Y cm)/\V.cell? ⟨w.heap.size,4,none⟩=some (.slice a k c)/\PY w3 V):=λV F=>by have C:=(HX.af U).af F;exact ⟨C.cell 0 rfl,C.cell 1 rfl,C.cell 2 rfl,C.cell 4 rfl,F⟩
  go_region_held3 (λV=>V.cell? ⟨w.heap.size,0,none⟩=some (cG P)/\V.cell? ⟨w.heap.size,1,none⟩=some (cG M)/\V.cell? ⟨w.heap.size,2,none⟩=some (.slice am Y cm)/\V.cell? ⟨w.heap.size,4,none⟩=some (.slice a k c)/\PY w3 V)
   ((refine HS _ ?_;first | exact (KU _ _).drew | (go_split_ands;assumption) | (go_split_ands;exact Pm (by assumption) (by assumption))))
   (first
    | (go_at_call 24;((with_reducible refine (HOr.out _).mono ?_);rintro e w4 ⟨rfl,hb4⟩))
    | (go_at_call 100;((with_reducible refine (Fy (q:Int) k _ A Q (by omega)).mono ?_);rintro e w5 ⟨rfl,rfl⟩)))
  all_goals go_wp2_with fail
  all_goals go_ret2
  all_goals exact ⟨mw E.1.symm E.2.symm,Pm (Pm X U) (by go_split_ands;assumption)⟩
 ·have E:Hid (J8 P M mod N L=0/\J7 P M mod N L=aI P M mod N L):=by show _/\_;unfold J8 J7;rw [KY Z,KY Z];exact ⟨rfl,rfl⟩
  generalize aI P M mod N L=z at *;have hz:(z != 0)=true:=by simpa using Z
  clear Z;go_wp2_with (go_at_call 35;refine (S _ X).mono ?_;rintro e w3 ⟨rfl,U⟩;clear c0 c1 c2 c3 c4);go_ret2;exact ⟨mw E.1.symm E.2.symm,Pm X U⟩
def lu (w:World) (e:Ending) (w':World):Prop:=∃z,e = .returned (.bool z)/\PY w w'
theorem Ea (a:OA) (n c K:Nat) (L:Ll) (w:World) (hi:bw w a n L) (j:K<=100000) :
  Calls prog 83 #[.agg #[cG 0,.slice a n c],cG K] w (lu w):=by
 have B:=Z5 hi.len;have z:=hi.pl;have V:=hi.max;unfold maxLen at V;go_enter func83,ntmps83;go_upto_region 1 with fail;obtain ⟨W,U⟩:∃W:World,W=w.alloc (.cells #[cG 0,.slice a n c] 94):=⟨_,rfl⟩
 rw [<- U];have Y:PY w W:=by rw [U];exact an _ _
 have G:aQ W w.heap.size [cG 0,.slice a n c]:=by rw [U];exact Po _ _ _ rfl
 have c0:=G.cell 0 rfl;have c1:=G.cell 1 rfl;have S:=hi.af Y;have Z:=Z5 Y;clear U G hi Y;by_cases h1:K<n
 ·have d1:decide (K<n)=true:=by simpa using h1
  have E:decide ((K:Int)<n)=true:=by simp;omega
  go_wp2_with fail;go_ret;exact ⟨_,rfl,Z⟩
 ·have d1:decide (K<n)=false:=by simpa using h1
  have E:decide ((K:Int)<n)=false:=by simp;omega
  go_wp2_with fail;go_loopw [5,6] (λA F wr=>∃k m:Nat,k<=n/\m<=K/\A = cG m/\F = cG k/\wr=W) (λ_ F _=>n - (intOf F).toNat);case atStart=>exact ⟨0,K - n,K0 _,by omega,by go_num,rfl,rfl⟩
  case round =>
   obtain ⟨k,m,r,hm,rfl,rfl,rfl⟩:=hrel
   by_cases Q:k<n
   ·obtain ⟨e,X,rc,N,C⟩:=S.cell k Q
    by_cases h2:m<X
    ·have d2:decide (m<X)=true:=by simpa using h2
     have D:decide ((m:Int)<X)=true:=by simp;omega
     go_wp2_with fail
     go_ret
     exact ⟨_,rfl,Z⟩
    ·have d2:decide (m<X)=false:=by simpa using h2
     have D:decide ((m:Int)<X)=false:=by simp;omega
     have d3:(X:Int)<=m:=by omega
     go_wp2_with fail
     go_roundw
     case rel=>exact ⟨k+1,m - X,by omega,by omega,by go_num,by go_num,by first | rfl | trivial⟩
     case measure=>simp [intOf] <;> omega
   ·obtain rfl:k=n:=by omega
    go_wp2_with fail
    go_ret
    exact ⟨_,rfl,Z⟩
theorem AG (P M:Int) (am:OA) (X cm:Nat) (N:Int) (a:OA) (n c K:Nat) (L:Ll) (w:World) (hi:bw w a n L) (S:K<=100000) :
  Calls prog 32 #[.agg #[cG P,cG M,.slice am X cm,cG N,.slice a n c],cG K] w (lu w):=by have H:=Z5 (λV U=>Ea a n c K L V (hi.af U) S:∀V,PY w V->_);clear hi;go_enter func32,ntmps32;go_wp2_with fail;have Z:=an w (.cells #[cG P,cG M,.slice am X cm,cG N,.slice a n c] 27);refine (H _ Z).mono ?_;rintro e Q ⟨z,rfl,Y⟩;have hF:=Pm Z Y;go_wp2_with fail;go_ret;exact ⟨z,rfl,hF⟩
section
open Go.ChangeShapes Go.WideShapes Go.ChangeAt Go.RowKit
theorem Tryz.own:ownKnob prog.godebug=none:=by kernel_rfl
theorem Tryz.laid:laidOutB prog=true:=by kernel_rfl
section
variable {H:Type} {enc:TypeId × Value->H} {W:World} {held:Bool} {fuel:Nat} {cs:List Value} {x:DataW H × List MemPlace}
theorem sM {a:Addr} {v:Value} {i:Nat} (h:W.cell? (a.add i)=some v):W.cell? ⟨a.block,a.off+i,none⟩=some v:=by
 have Z:=O5 h;obtain ⟨b,o,s⟩:=a;by_cases h0:i=0
 ·subst h0;simp only [Addr.add,if_true] at Z h;subst Z;exact h
 ·simpa [Addr.add,h0] using h
theorem rL {a:Addr} {v:Value} (h:W.cell? (a.add 0)=some v):a=⟨a.block,a.off,none⟩:=by have Z:=O5 h;obtain ⟨b,o,s⟩:=a;simp only [Addr.add,if_true] at Z;subst Z;rfl
theorem mG (l:LI) (n i:Nat) (h:i<n):nth (l.take n) i=l.getD i 0:=by unfold nth;simp only [KZ,Mo];rw [KX h]
theorem zE (h:DataW.trod enc prog W 0 (λ_=>true) held fuel 22 cs=some x):∃a n c l,cs=[.slice a n c]/\Ints W a n l:=by
 rcases open_ints underlying22 underlying3 (by kernel_rfl) h with ⟨Y,_⟩ | ⟨a,len,cap,X,Y,_,U,hm,V,_,Z,_⟩
 ·exact ⟨none,0,0,[],Y,Pu _ _⟩
 ·simp only [if_true] at V;refine ⟨some a,len,cap,X.take len,Y,⟨by simp;omega,λh0=>?_,by omega,λi hi=>?_⟩⟩
  ·exact congrArg some (rL (Z 0 (by omega)))
  ·rw [mG _ _ _ hi];exact sM (Z i (by omega))
theorem zU (h:DataW.trod enc prog W 0 (λ_=>true) held fuel 25 cs=some x):∃a n c L,cs=[.slice a n c]/\bw W a n L:=by
 rcases Go.Deep.open_int_rows underlying25 underlying22 underlying3 (by kernel_rfl) (by kernel_rfl) h with ⟨X,_⟩ | ⟨a,len,cap,A,V,C,Z,X,_,F,hm,_,Y⟩
 ·exact ⟨none,0,0,[],X,⟨rfl,λh0=>by omega,by unfold maxLen;omega,λi hi=>by omega⟩⟩
 ·refine ⟨some a,len,cap,(List.range len).map (λr=>(Z r).take (V r)),X,⟨by simp,λh0=>congrArg some (rL (Y 0 (by omega)).1),by omega,λr N=>?_⟩⟩;obtain ⟨h1,h2,h3,K,_,S,U⟩:=Y r (by omega);refine ⟨A r,V r,C r,sM h1,?_⟩;have e:ai ((List.range len).map (λr=>(Z r).take (V r))) r=(Z r).take (V r):=by unfold ai;simp [KZ,MS,List.getElem?_range N]
  rw [e];match G:A r,S,U with
  | none,S,_ =>
   have h0:V r=0:=by have:=S rfl;omega
   rw [h0]
   exact Pu _ _
  | some b,_,U =>
   obtain ⟨_,Q⟩:=U b rfl
   exact ⟨by simp;omega,λh0=>congrArg some (rL (Q 0 (by omega))),by omega,λi hi=>by rw [mG _ _ _ hi];exact sM (Q i (by omega))⟩
end
section
variable {H:Type} {enc:TypeId × Value->H} {W:World} {held:Bool} {b0:Nat} {v:Value} {d:DataW H} {p:List MemPlace}
theorem EA (hv:Value.okWide prog W .any b0 27 v) (h:DataW.Trod enc prog W 0 (λ_=>true) held 27 v d p) :
  ∃(P M:Int) (am:OA) (F cm:Nat) (mod:LI) (N:Int) (a:OA) (n c:Nat) (L:Ll),v = .agg #[cG P,cG M,.slice am F cm,cG N,.slice a n c]/\Ints W am F mod/\bw W a n L:=by
 obtain ⟨cs,rfl,K⟩:=okWide_struct underlying27 hv;rw [show prog.cellsOf 27 = 5 by kernel_rfl] at K;obtain ⟨l⟩:=cs;match l,K with
 | [v0,v1,v2,v3,v4],_ =>
 obtain ⟨fuel,hf⟩:=h;obtain ⟨xs,A,_,_,_,hlen,X⟩:=O1 underlying27 hf;obtain ⟨U,V,Q,rfl⟩:∃U V Q,xs=[U,V,Q]:=by
  match xs,hlen with
  | [U,V,Q],_=>exact ⟨U,V,Q,rfl⟩
 have D:prog.cellsOf 24 = 3:=by kernel_rfl
 have z:prog.cellsOf 3 = 1:=by kernel_rfl
 have B:prog.cellsOf 22 = 1:=by kernel_rfl
 have E:prog.cellsOf 25 = 1:=by kernel_rfl
 have g0:DataW.trod enc prog W 0 (λ_=>true) held A 24 [v0,v1,v2]=some U:=by simpa [Value.cells,D] using X 0 _ rfl
 have g1:DataW.trod enc prog W 0 (λ_=>true) held A 3 [v3]=some V:=by simpa [Value.cells,z] using X 1 _ rfl
 have g2:DataW.trod enc prog W 0 (λ_=>true) held A 25 [v4]=some Q:=by simpa [Value.cells,E] using X 2 _ rfl
 obtain ⟨S,C,_,_,_,Y,Z⟩:=O1 underlying24 g0;obtain ⟨z0,G,z2,rfl⟩:∃z0 G z2,S=[z0,G,z2]:=by
  match S,Y with
  | [z0,G,z2],_=>exact ⟨z0,G,z2,rfl⟩
 have q0:DataW.trod enc prog W 0 (λ_=>true) held C 3 [v0]=some z0:=by simpa [z] using Z 0 _ rfl
 have q1:DataW.trod enc prog W 0 (λ_=>true) held C 3 [v1]=some G:=by simpa [z] using Z 1 _ rfl
 have q2:DataW.trod enc prog W 0 (λ_=>true) held C 22 [v2]=some z2:=by simpa [B] using Z 2 _ rfl
 obtain ⟨P,eP,_,_⟩:=OF underlying3 q0;obtain ⟨M,e,_,_⟩:=OF underlying3 q1;obtain ⟨N,eN,_,_⟩:=OF underlying3 g1;obtain ⟨am,F,cm,mod,j,hI⟩:=zE q2;obtain ⟨a,n,c,L,r,hL⟩:=zU g2;simp at eP e eN j r;subst eP e eN j r;exact ⟨P,M,am,F,cm,mod,N,a,n,c,L,rfl,hI,hL⟩
end
end
end Go.Proofs.YthglbncgemdcbaaGreat
