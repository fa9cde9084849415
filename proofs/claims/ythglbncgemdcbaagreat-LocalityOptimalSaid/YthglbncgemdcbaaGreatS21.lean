import Derived.Test.YthglbncgemdcbaaGreatS19
namespace Go.Proofs.YthglbncgemdcbaaGreat
set_option linter.all false
set_option maxRecDepth 100000
set_option maxHeartbeats 8000000
open Go.RowKit Go.Proofs.Tryz
theorem FH (O : aL) (L : ZZ) (m : Nat) (C : jG) (d : Nat) (s z : Lz) (T : ZZ) (hd : s.length+d=C.W) (hr : dI O L m C s (gj O L m C s z)=true) (hT : T.length ≠ 65536) :
  jQ O L m C d s z T=gW (jQ O L m C (d - 1)) s z (if s.length<C.W then (gj O L m C s z).filter (λx=>decide (¬ x ∈ z)) else []) (T ++ [gj O L m C s z]):=by
 match d with
 | 0 =>
  have h1 : (if s.length<C.W then (gj O L m C s z).filter (λx=>decide (¬ x ∈ z)) else [])=[]:=Nf (by omega)
  rw [h1,jQ,Nd hr,Nf hT]
  rfl
 | d+1 =>
  have h1 : (if s.length<C.W then (gj O L m C s z).filter (λx=>decide (¬ x ∈ z)) else [])=iy C s z (gj O L m C s z):=rfl
  rw [h1,jQ,Nd hr,Nf hT]
  rfl
theorem yE (O : aL) (L : ZZ) (m : Nat) (C : jG) (d : Nat) (s z : Lz) (T : ZZ) (hr : dI O L m C s (gj O L m C s z)=false) : jQ O L m C d s z T=(11,[]):=by
 match d with
 | 0=>rw [jQ];exact Nf (by rw [hr];simp)
 | d+1=>rw [jQ];exact Nf (by rw [hr];simp)
theorem CM (O : aL) (L : ZZ) (m : Nat) (C : jG) (d : Nat) (s z : Lz) (T : ZZ) (hr : dI O L m C s (gj O L m C s z)=true) (hT : T.length=65536) : jQ O L m C d s z T=(8,[]):=by
 match d with
 | 0=>rw [jQ,Nd hr,Nd hT]
 | d+1=>rw [jQ,Nd hr,Nd hT]
theorem Jl {R R' : Z4} (h : R <+: R') {i : Nat} (hi : i<R.length) : aV R' i=aV R i:=by obtain ⟨X,rfl⟩:=h;rw [i5 (show i<(R ++ X).length by simp;omega),i5 hi,P3]
theorem I3 {R R' : ZZ} (h : R <+: R') {i : Nat} (hi : i<R.length) : ai R' i=ai R i:=by obtain ⟨X,rfl⟩:=h;rw [aC (show i<(R ++ X).length by simp;omega),aC hi,P3]
theorem Ic (R : Z4) (r : OA × Nat) : aV (R ++ [r]) R.length=r:=by rw [i5 (by simp)];simp
theorem Ii (R : ZZ) (r : Lz) : ai (R ++ [r]) R.length=r:=by rw [aC (by simp)];simp
structure qH where
 ar : OA
 cr : Nat
 R : Z4
 T : ZZ
def qH.J (pb : Nat) (σ : qH) (x : Nat) : Prop:=x=pb\/cU σ.ar σ.R x
structure nN (w : World) (B pb b : Nat) (P M : Int) (am : OA) (mn cm : Nat) (m : Nat) (a : OA) (n c : Nat) (ay : OA) (ny cy : Nat) (C : jG) (σ : qH) : Prop where
 box : aN w pb (qG b P M am mn cm m a n c ay ny cy C (.slice σ.ar σ.T.length σ.cr) 0)
 om : aT w B σ.ar σ.T.length σ.cr σ.R σ.T
 np : ¬ cU σ.ar σ.R pb
 ln : σ.T.length<=65536
theorem nN.lt {w : World} {B pb b : Nat} {P M : Int} {am : OA} {mn cm m : Nat} {a : OA} {n c : Nat} {ay : OA} {ny cy : Nat} {C : jG} {σ : qH} (h : nN w B pb b P M am mn cm m a n c ay ny cy C σ) {x : Nat} (hx : σ.J pb x) : x<w.heap.size:=by
 rcases hx with rfl | hx
 ·exact h.box.1
 ·exact (h.om.lt x hx).2
theorem nN.dD {w w' : World} {I : Nat->Prop} {B pb b : Nat} {P M : Int} {am : OA} {mn cm m : Nat} {a : OA} {n c : Nat} {ay : OA} {ny cy : Nat} {C : jG} {σ : qH} (h : nN w B pb b P M am mn cm m a n c ay ny cy C σ)
  (hM : aE w w' I I) (hI : ∀x,σ.J pb x->¬ I x) : nN w' B pb b P M am mn cm m a n c ay ny cy C σ :=
 ⟨h.box.dD hM (hI _ (.inl rfl)),h.om.bq λx hx=>hM.block x (h.om.lt x hx).2 (hI x (.inr hx)),h.np,h.ln⟩
theorem nN.ah {w w' : World} {B pb b : Nat} {P M : Int} {am : OA} {mn cm m : Nat} {a : OA} {n c : Nat} {ay : OA} {ny cy : Nat} {C : jG} {σ : qH} (h : nN w B pb b P M am mn cm m a n c ay ny cy C σ)
  (hM : SW w w') : nN w' B pb b P M am mn cm m a n c ay ny cy C σ:=h.dD (I:=λ_=>False) (Se hM _) λ_ _ h=>h
def A3 (w0 : World) (pb b : Nat) (P M : Int) (am : OA) (mn cm : Nat) (m : Nat) (a : OA) (n c : Nat) (ay : OA) (ny cy : Nat) (C : jG) (σ : qH) (V : Int × ZZ) (w : World) (e : Ending) (w' : World) : Prop :=
 ∃σ' : qH,nN w' w0.heap.size pb b P M am mn cm m a n c ay ny cy C σ'/\σ.R <+: σ'.R/\σ.T <+: σ'.T/\aE w w' (σ.J pb) (σ'.J pb)/\e = .returned (.int .i64 V.1)/\(V.1=0->σ'.T=V.2)
theorem nN.push {V w5 : World} {B pb b : Nat} {P M : Int} {am : OA} {mn cm m : Nat} {a : OA} {n c : Nat} {ay : OA} {ny cy : Nat} {C : jG} {σ : qH} (h : nN V B pb b P M am mn cm m a n c ay ny cy C σ) (hB : B<=V.heap.size)
  {a3 : OA} {c3 : Nat} {t : Lz} (hr : V.ownsRow B 3 1 (.slice a3 t.length c3) t.length (t.map (Value.int .i64))) (hra : a3 ≠ none->¬ σ.J pb (ablk a3)) (hT : σ.T.length<65536) {o : Obj}
  {a5 : OA} {c5 : Nat} (hown : w5.ownsRow B 22 1 (.slice a5 (σ.T.length+1) c5) (σ.T.length+1) (List.zipWith l5 σ.R σ.T ++ [.slice a3 t.length c3])) (hg : (V.alloc o).grownBy w5 (Value.slice σ.ar σ.T.length σ.cr).ownBlock)
  (hap : ∀b,b<(V.alloc o).heap.size->gE σ.ar b->gE a5 b) :
  nN (w5.setCell ⟨pb,10,none⟩ (.slice a5 (σ.T.length+1) c5)) B pb b P M am mn cm m a n c ay ny cy C ⟨a5,c5,σ.R ++ [(a3,c3)],σ.T ++ [t]⟩ /\
   aE V (w5.setCell ⟨pb,10,none⟩ (.slice a5 (σ.T.length+1) c5)) (λx=>σ.J pb x\/(a3 ≠ none/\x=ablk a3)) ((⟨a5,c5,σ.R ++ [(a3,c3)],σ.T ++ [t]⟩ : qH).J pb):=by
 have hal:=an V o;have hO1 : aT (V.alloc o) B σ.ar σ.T.length σ.cr σ.R σ.T:=h.om.ah hal;have hra2 : a3 ≠ none->¬ cU σ.ar σ.R (ablk a3):=λh0 hh=>hra h0 (.inr hh);have hO5:=Sk hO1 (bd hr hal) hra2 hown hg hap;have hnp : σ.ar=none\/ablk σ.ar ≠ pb:=by
  by_cases e : σ.ar=none
  ·exact .inl e
  ·exact .inr λe2=>h.np (.inl ⟨e,e2.symm⟩)
 have hbox5 : aN w5 pb (qG b P M am mn cm m a n c ay ny cy C (.slice σ.ar σ.T.length σ.cr) 0):=(h.box.ah hal).dD (Ss (K:=λx=>σ.ar ≠ none/\x=ablk σ.ar) hg λh0=>⟨h0,rfl⟩) λ⟨h0,e⟩=>by
  rcases hnp with h1 | h1
  ·exact h0 h1
  ·exact h1 e.symm
 have hne : ¬ cU a5 (σ.R ++ [(a3,c3)]) pb:=λhh=>by
  rcases cU.push hO1 hap hh with h1 | ⟨h1,h2⟩ | h1
  ·exact h.np h1
  ·exact hra h1 (.inl h2.symm)
  ·have h2:=h.box.1;have h3:=hal.size;omega
 refine ⟨⟨?_,?_,hne,by simp;omega⟩,?_⟩
 ·have h1:=hbox5.setCell 10 (.slice a5 (σ.T.length+1) c5);show aN _ pb (qG b P M am mn cm m a n c ay ny cy C (.slice a5 (σ.T ++ [t]).length c5) 0);rw [Nl,ND];exact h1
 ·show aT _ B a5 (σ.T ++ [t]).length c5 _ _;rw [Nl,ND];exact hO5.bq λx hx=>Nz _ _ _ _ λe=>hne (by have e' : x=pb:=e;rw [<- e'];exact hx)
 ·have hM0 : aE V (V.alloc o) (λx=>σ.J pb x\/(a3 ≠ none/\x=ablk a3)) (λx=>σ.J pb x\/(a3 ≠ none/\x=ablk a3)):=Se hal _;have hM1 : aE (V.alloc o) w5 (λx=>σ.J pb x\/(a3 ≠ none/\x=ablk a3)) (λx=>σ.J pb x\/(a3 ≠ none/\x=ablk a3)):=Ss hg λh0=>.inl (.inr (.inl ⟨h0,rfl⟩));have hM2:=hM0.trans hM1;have hb0 : Below 0 w5 (w5.setCell ⟨pb,10,none⟩ (.slice a5 (σ.T.length+1) c5)):=(Nc 0 w5).setCell (Ni _) _;refine ⟨hb0.os.trans hM2.os,hb0.tape.trans hM2.tape,hb0.output.trans hM2.output,Nr hM2.size hb0.size,λx hx hI=>?_,λx hx=>?_⟩
  ·exact (Nz _ _ _ _ λe=>hI (.inl (.inl e))).trans (hM2.block x hx hI)
  ·rcases hx with hx | hx
   ·exact .inl (.inl (.inl hx))
   ·rcases cU.push hO1 hap hx with h1 | h1 | h1
    ·exact .inl (.inl (.inr h1))
    ·exact .inl (.inr h1)
    ·exact .inr (Nr hal.size h1)
theorem nN.CV {V w5 : World} {B pb b : Nat} {P M : Int} {am : OA} {mn cm m : Nat} {a : OA} {n c : Nat} {ay : OA} {ny cy : Nat} {C : jG} {σ : qH} (h : nN V B pb b P M am mn cm m a n c ay ny cy C σ)
  {o : Obj} (hg : (V.alloc o).grownBy w5 (Value.slice σ.ar σ.T.length σ.cr).ownBlock) : aN w5 pb (qG b P M am mn cm m a n c ay ny cy C (.slice σ.ar σ.T.length σ.cr) 0) :=
 (h.box.ah (an V o)).dD (Ss (K:=λx=>σ.ar ≠ none/\x=ablk σ.ar) hg λh0=>⟨h0,rfl⟩) λ⟨h0,e⟩=>h.np (.inl ⟨h0,e⟩)
theorem aE.E3 {w V Z : World} {I I' A : Nat->Prop} (h : SW w V) (g : aE V Z (λx=>I x\/A x) I') (hA : ∀x,A x->w.heap.size<=x) : aE w Z I I' :=
 ⟨g.os.trans h.os,g.tape.trans h.tape,g.output.trans h.output,Nr h.size g.size,λx hx hI=>(g.block x (NR hx h.size) λhh=>by
  rcases hh with hh | hh
  ·exact hI hh
  ·have:=hA x hh;omega).trans (h.block x hx),λx hx=>by
  rcases g.grow x hx with hh | hh
  ·rcases hh with hh | hh
   ·exact .inl hh
   ·exact .inr (hA x hh)
  ·exact .inr (Nr h.size hh)⟩
theorem uv {w0 : World} {b : Nat} {G : dn} {a : OA} {n : Nat} {L : ZZ} {m : Nat} {ay : OA} {ny : Nat} {C : jG} (pb : Nat) (P M : Int) (am : OA) (mn cm c cy : Nat)
  (E : Eg w0 b G a n L m ay ny C) (hpb : w0.heap.size<=pb) :
  ∀(d : Nat) (w : World) (σ : qH) (sa : OA) (ns cs : Nat) (s : Lz) (az : OA) (nz cz : Nat) (z : Lz),ns+d=C.W->nz<=64->SW w0 w->nN w w0.heap.size pb b P M am mn cm m a n c ay ny cy C σ ->
   Ints w sa ns s->Ints w az nz z->(0<ns->¬ σ.J pb (ablk sa))->(0<nz->¬ σ.J pb (ablk az))->z.Nodup->(∀x ∈ z,0<=x/\x<(m : Int)) ->
   Calls prog 184 #[.pointer (some ⟨pb,0,none⟩),.slice sa ns cs,.slice az nz cz] w (A3 w0 pb b P M am mn cm m a n c ay ny cy C σ (jQ G.ops L m C d s z σ.T) w)
 | d,w,σ,sa,ns,cs,s,az,nz,cz,z,hd,hnz,hb,hB,hs,hz,hsp,hzp,hzn,hzb=>by
  have IH : Hid (∀d',d'+1=d->∀(w : World) (σ : qH) (sa : OA) (ns cs : Nat) (s : Lz) (az : OA) (nz cz : Nat) (z : Lz),ns+d'=C.W->nz<=64->SW w0 w->nN w w0.heap.size pb b P M am mn cm m a n c ay ny cy C σ ->
   Ints w sa ns s->Ints w az nz z->(0<ns->¬ σ.J pb (ablk sa))->(0<nz->¬ σ.J pb (ablk az))->z.Nodup->(∀x ∈ z,0<=x/\x<(m : Int)) ->
   Calls prog 184 #[.pointer (some ⟨pb,0,none⟩),.slice sa ns cs,.slice az nz cz] w (A3 w0 pb b P M am mn cm m a n c ay ny cy C σ (jQ G.ops L m C d' s z σ.T) w)):=λd' hd'=>by subst hd';exact uv pb P M am mn cm c cy E hpb d'
  have hm6:=E.m6;have hw6:=E.w6;have HE:=Z5 E;have Hsl:=Z5 hs.len;have Hzl:=Z5 hz.len;have p4:=hB.box.cell 4 rfl;have p7:=hB.box.cell 7 rfl;have p8:=hB.box.cell 8 rfl;obtain ⟨RF,hRF⟩ : ∃RF,jQ G.ops L m C d s z σ.T=RF:=⟨_,rfl⟩
  rw [hRF];have HRF:=Z5 hRF;have HB:=Z5 hB;have Hz:=Z5 (Np hzn hzb);obtain ⟨mo,hmo⟩ : ∃mo,(if C.cos=true then m else C.M)=mo:=⟨_,rfl⟩
  have Hmo:=Z5 hmo;obtain ⟨bc,hbc⟩ : ∃bc,C.cos=bc:=⟨_,rfl⟩
  rw [hbc] at p7;have Hbc:=Z5 hbc;clear hbc;have hol:=Bh m s z;have horng : ∀j,j<(jY m s z).length->0<=nth (jY m s z) j/\nth (jY m s z) j<m:=λj hj=>by
   rcases sH (aH hj) with h1 | h1
   ·exact hzb _ h1
   ·exact ⟨h1.1,h1.2.1⟩
  have Horng:=Z5 horng;have HO : Hid (Calls prog 232 #[.pointer (some ⟨pb,0,none⟩),.slice sa ns cs,.slice az nz cz] w (b8 w (jY m s z))):=qT pb m sa ns cs s az nz cz z w p4 hs hz (by omega) (by omega);clear hRF hB hzn hzb E hmo horng;go_enter func184,ntmps184;go_upto_if 16 with fail;go_cut [7] (λv wx=>v = .int .i64 mo/\w=wx);case first =>
   cases bc
   ·have Hm2 : Hid (mo=C.M):=by show _=_;rw [<- Hmo.out,Hbc.out];rfl
    go_wp2_with fail
    go_meet
    exact ⟨by rw [Hm2.out],rfl⟩
   ·have Hm2 : Hid (mo=m):=by show _=_;rw [<- Hmo.out,Hbc.out];rfl
    go_wp2_with fail
    go_meet
    exact ⟨by rw [Hm2.out],rfl⟩
  obtain ⟨rfl,rfl⟩:=hcut;go_wp2_with fail;refine HO.out.mono ?_;rintro e w2 ⟨a2,c2,rfl,hown2,hb2⟩;have hB2:=HB.out.ah hb2;have hGr:=oe pb a n c L m a2 _ c2 (jY m s z) mo (hB2.box.cell 0 rfl) (hB2.box.cell 5 rfl) (HE.out.g.ah (hb.trans (hb2.mono hb.size))) (HE.out.jt.ah (hb.trans (hb2.mono hb.size))) HE.out.rws (R6 hown2).1 Horng.out HE.out.n6 (by rw [Hzl.out] at hol;omega);have hgl:=Ab (O:=G.ops) (L:=L) (Q:=jY m s z) (most:=mo);have Hcs : Hid (gj G.ops L m C s z=dt (xT G.ops L (jY m s z) mo)):=by show _=_;rw [gj,Hmo.out]
  have hcn : (gj G.ops L m C s z).Nodup:=vm Hz.out.1;have hcb : ∀x ∈ gj G.ops L m C s z,0<=x/\x<(m : Int):=λx hx=>by
   rcases sH (Ab x (CG.1 hx)) with h1 | h1
   ·exact Hz.out.2 x h1
   ·exact ⟨h1.1,h1.2.1⟩
  have hcl : (gj G.ops L m C s z).length<=64:=Nr (mW hcn hcb) hm6;rw [Hcs.out,gv] at hcl;have Hcn:=Z5 (Np hcn hcb);unfold b8 at hGr;obtain ⟨gl,hgle⟩ : ∃gl,(xT G.ops L (jY m s z) mo).length=gl:=⟨_,rfl⟩
  have Hgl:=Z5 hgle;rw [hgle] at hGr hcl;obtain ⟨t,hte⟩ : ∃t,gj G.ops L m C s z=t:=⟨_,rfl⟩
  have Htl : Hid (t.length=gl):=by show _=_;rw [<- hte,Hcs.out,gv,hgle]
  have Hcs2 : Hid (dt (xT G.ops L (jY m s z) mo)=t):=by show _=_;rw [<- hte,Hcs.out]
  rw [hte] at Hcn;have Hte:=Z5 hte;clear hcn hcb hgle hgl hte Hcs;have HGr:=Z5 hGr;clear hGr;generalize (jY m s z).length=ol at *;go_wp2_with fail;refine HGr.out.mono ?_;rintro e w3 ⟨a3,c3,rfl,hown3,hb3⟩;have hbw3:=RZ hb2 hb3;have hown3':=aX hown3 (B':=w.heap.size) hb2.size;have HSo:=Z5 (vI w.heap.size a3 gl c3 _ w3 hown3' hbw3.size (by omega));rw [Hcs2.out] at HSo;clear hown3 hown3';go_wp2_with fail;refine HSo.out.mono ?_;rintro e w4 ⟨rfl,hown4,_,hb4⟩;have hbw4 : SW w w4:=hbw3.trans hb4;have hB4:=HB.out.ah hbw4;have ht4:=(R6 hown4).1;have HRt:=Z5 (uu (c:=c) (cy:=cy) pb P M am mn cm _ 0 sa ns cs s a3 gl c3 t HE.out (hb.trans (hbw4.mono hb.size)) hB4.box (hs.ah hbw4) ht4 (by omega));obtain ⟨rr,hrr⟩ : ∃rr,dI G.ops L m C s t=rr:=⟨_,rfl⟩
  rw [hrr] at HRt;have Hrr : Hid (dI G.ops L m C s (gj G.ops L m C s z)=rr):=by show _=_;rw [Hte.out];exact hrr
  clear hrr;go_wp2_with fail;refine HRt.out.mono ?_;rintro e w5 ⟨rfl,hb5⟩;have hbw5 : SW w w5:=RZ hbw4 hb5;have hB5:=HB.out.ah hbw5;cases rr
  ·have HF : Hid (RF=(11,[])):=by show _=_;rw [<- HRF.out,yE _ _ _ _ _ _ _ _ Hrr.out]
   go_wp2_with fail;go_ret;exact ⟨σ,hB5,OX,OX,Se hbw5 _,by rw [HF.out];rfl,λh=>by rw [HF.out] at h;cases h⟩
  have p10:=hB5.box.cell 10 rfl;by_cases hbig : σ.T.length=65536
  ·have HF : Hid (RF=(8,[])):=by show _=_;rw [<- HRF.out,CM _ _ _ _ _ _ _ _ Hrr.out hbig]
   have hbg : ((σ.T.length : Int) == 65536)=true:=by simp;omega
   clear hbig;go_wp2_with fail;go_ret;exact ⟨σ,hB5,OX,OX,Se hbw5 _,by rw [HF.out];rfl,λh=>by rw [HF.out] at h;cases h⟩
  have hbg : ((σ.T.length : Int) == 65536)=false:=by simp;omega
  have HF : Hid (RF=gW (jQ G.ops L m C (d - 1)) s z (if ns<C.W then t.filter (λx=>decide (¬ x ∈ z)) else []) (σ.T ++ [t])):=by show _=_;rw [<- HRF.out,FH _ _ _ _ _ _ _ _ (by rw [Hsl.out];exact hd) Hrr.out hbig,Hsl.out,Hte.out]
  have hTl:=hB5.ln;have hTlt : σ.T.length<65536:=by omega
  have hown5:=bd hown4 hb5;have f10:=hB5.box.frozen 10;have hcn:=ba w5 (.slice a3 gl c3) 22;have hbn:=an w5 (.cells #[.slice a3 gl c3] 22);have hsz5:=hbw5.size;have hszb:=hb.size;clear hbig;go_wp2_with (at_builtin;refine aO rfl _ _ 25 22 rfl (.slice none 0 0) 24 underlying25 df rfl w0.heap.size σ.ar σ.T.length σ.cr _ rfl ((hB5.om.own).alloc _) ⟨w5.heap.size,0,none⟩ 1 (.slice a3 gl c3) rfl hcn rfl (by omega) (by unfold maxLen;omega) (by simp;omega) ?_;intro a6 c6 w6 hown6 hgr6 hap6;have q10:=(hB5.CV hgr6).cell 10 rfl;have qf10:=(hB5.CV hgr6).frozen 10);obtain rfl:=Htl.out;have hra : a3 ≠ none->¬ σ.J pb (ablk a3):=λh0 hj=>by have h1:=HB.out.lt hj;have h2:=(aY hown5 h0).1;omega
  obtain ⟨hB7,hM7⟩:=nN.push hB5 (Nr hszb hsz5) (aX hown5 hszb) hra hTlt hown6 hgr6 hap6;obtain ⟨Z,hZ⟩ : ∃Z : World,Z=w6.setCell ⟨pb,10,none⟩ (.slice a6 (σ.T.length+1) c6):=⟨_,rfl⟩
  rw [<- hZ] at hB7 hM7;have hB05 : SW w0 w5:=hb.trans (hbw5.mono hszb);have hbZ : SW w0 Z:=hB05.trans (hM7.below (λx hx=>by
   rcases hx with (hx | hx) | ⟨h1,h2⟩
   ·rw [hx];exact hpb
   ·exact (hB5.om.lt x hx).1
   ·rw [h2];exact Nr hszb (aY hown5 h1).1) hB05.size)
  have hMwZ : aE w Z (σ.J pb) ((⟨a6,c6,σ.R ++ [(a3,c3)],σ.T ++ [t]⟩ : qH).J pb):=aE.E3 hbw5 hM7 λx hx=>by rw [hx.2];exact (aY hown5 hx.1).1
  have hsZ:=hs.dD hMwZ hsp;have hzZ:=hz.dD hMwZ hzp;have hsJ : 0<ns->¬ (⟨a6,c6,σ.R ++ [(a3,c3)],σ.T ++ [t]⟩ : qH).J pb (ablk sa):=λh0=>hMwZ.not (hs.lt h0) (hsp h0);have hRl : σ.R.length=σ.T.length:=hB5.om.rl;have hszZ:=hMwZ.size;have HCh : Hid (Calls prog 234 #[.pointer (some ⟨pb,0,none⟩),.slice sa ns cs,.slice az nz cz,.slice a3 t.length c3,.func (.func 184) #[.pointer (some ⟨pb,0,none⟩)] #[]] Z
    (A3 w0 pb b P M am mn cm m a n c ay ny cy C σ RF w)):=by
   refine (uR (σ:=qH) (λV τ=>SW w0 V/\nN V w0.heap.size pb b P M am mn cm m a n c ay ny cy C τ/\Ints V sa ns s/\(0<ns->¬ τ.J pb (ablk sa))/\(σ.R ++ [(a3,c3)]) <+: τ.R/\(σ.T ++ [t]) <+: τ.T) (λτ x=>τ.J pb x) (λτ=>τ.T)
    (λs z T=>jQ G.ops L m C (d - 1) s z T) pb C.W sa ns cs s az nz cz z a3 t.length c3 t Z ⟨a6,c6,σ.R ++ [(a3,c3)],σ.T ++ [t]⟩ ⟨hbZ,hB7,hsZ,hsJ,OX,OX⟩ ?_ (hB7.box.cell 9 rfl) ?_ (λV τ x h hx=>h.2.1.lt hx) hzZ Hcn.out.1 (by omega) (by omega) (by omega) (by omega) ?_).mono ?_
   ·rintro V1 V2 τ ⟨e1,e2,e3,e4,e5,e6⟩ hM;refine ⟨e1.trans (hM.below (λx hx=>Nr hbZ.size hx.1) e1.size),e2.dD hM λx hx hh=>hh.2 hx,e3.dD hM λhn hx=>?_,e4,e5,e6⟩;have h1:=hsZ.lt hn;omega
   ·rintro V τ ⟨e1,e2,e3,e4,e5,e6⟩;refine ⟨e3,?_⟩;have hlt : σ.T.length<τ.T.length:=by obtain ⟨X,hX⟩:=e6;rw [<- hX];simp <;> omega
    have h1:=e2.om.ints hlt;rw [I3 e6 (by simp),Ii,<- hRl,Jl e5 (by simp),Ic] at h1;exact h1
   ·intro hlt V1 τ a1 c1 a2 c2 j zc hj hzc hnj hI hM h1 h2 h3 h4;obtain ⟨d',hd'⟩ : ∃d',d'+1=d:=⟨d - 1,by omega⟩
    have hzl : zc.length<=64/\zc.Nodup/\∀x ∈ zc,0<=x/\x<(m : Int):=by
     have hsub : ∀x ∈ (t.take j).filter (λx=>decide (¬ x ∈ z)),x ∈ t/\¬ x ∈ z:=λx hx=>by rw [OG] at hx;exact ⟨Og hx.1,by simpa using hx.2⟩
     have hnd : zc.Nodup:=by rw [hzc,OM];refine ⟨Hz.out.1,Oy _ (Pd (PK _ _) Hcn.out.1),λx hx y hy e=>?_⟩;exact (hsub y hy).2 (e ▸ hx)
     have hbd : ∀x ∈ zc,0<=x/\x<(m : Int):=λx hx=>by
      rw [hzc] at hx;rcases List.mem_append.1 hx with hx | hx
      ·exact Hz.out.2 x hx
      ·exact Hcn.out.2 x (hsub x hx).1
     exact ⟨Nr (mW hnd hbd) hm6,hnd,hbd⟩
    have h5:=IH.out d' hd' V1 τ a1 (ns+1) c1 (s ++ [nth t j]) a2 zc.length c2 zc (by omega) hzl.1 hI.1 hI.2.1 h1 h2 (λ_=>h3) (λh0=>h4 (by intro e;have:=h2.pl h0;rw [e] at this;cases this)) hzl.2.1 hzl.2.2;have hdd : d - 1=d':=by omega
    refine h5.mono ?_;rintro e V2 ⟨τ',g1,g2,g3,g4,g5,g6⟩;rw [hdd];exact ⟨τ',⟨hI.1.trans (g4.below (λx hx=>by
      rcases hx with hx | hx
      ·rw [hx];exact hpb
      ·exact (hI.2.1.om.lt x hx).1) hI.1.size),g1,hI.2.2.1.dD g4 hI.2.2.2.1,λhn=>g4.not (hI.2.2.1.lt hn) (hI.2.2.2.1 hn),hI.2.2.2.2.1.trans g2,hI.2.2.2.2.2.trans g3⟩,g4,g5,g6⟩
   ·rintro e V2 ⟨τ',g1,g2,g3,g4⟩;rw [<- HF.out] at g3 g4;exact ⟨τ',g1.2.1,(Qz _ _).trans g1.2.2.2.2.1,(Qz _ _).trans g1.2.2.2.2.2,hMwZ.trans g2,g3,g4⟩
  rw [<- hZ];clear IH HO HSo HGr HRt hown4 hown5 hown6 hgr6 hap6 hB7 hM7 hZ hMwZ hsZ hzZ HF;go_wp2_with fail;refine HCh.out.mono ?_;rintro e w7 ⟨τ',g1,g2,g3,g4,rfl,g6⟩;go_wp2_with fail;go_ret;exact ⟨τ',g1,g2,g3,g4,rfl,g6⟩
def nI (P M : Int) (mod : Lz) (m : Nat) (L : ZZ) (w : World) (e : Ending) (w' : World) : Prop :=
 ∃a1 c1 a2 c2,e = .returned (.tuple #[.agg #[.int .i64 P,.int .i64 M,.slice a1 mod.length c1,.int .i64 m,.slice a2 (aS (af P M.toNat mod) L m).length c2],.int .i64 0])/\cR w.heap.size w' a1 mod.length mod /\
  dq w.heap.size w' a2 (aS (af P M.toNat mod) L m).length (aS (af P M.toNat mod) L m)/\SW w w'
theorem vb {w : World} {g : Nat} {x y u v : Value} (h0 : w.cell? ⟨g,0,none⟩=some x) (h1 : w.cell? ⟨g,1,none⟩=some y) :
  ((w.setCell ⟨g,0,none⟩ u).setCell ⟨g,1,none⟩ v).cell? ⟨g,0,none⟩=some u/\((w.setCell ⟨g,0,none⟩ u).setCell ⟨g,1,none⟩ v).cell? ⟨g,1,none⟩=some v:=by
 have e1 : (w.setCell ⟨g,0,none⟩ u).cell? ⟨g,0,none⟩=some u:=NJ w _ _ h0;have e2 : (w.setCell ⟨g,0,none⟩ u).cell? ⟨g,1,none⟩=some y:=by rw [NC _ _ _ _ (by simp)];exact h1
 exact ⟨by rw [NC _ _ _ _ (by simp)];exact e1,NJ _ _ _ e2⟩
theorem vC (P M : Int) (am : OA) (mn cm : Nat) (mod : Lz) (m : Nat) (a : OA) (n c : Nat) (L : ZZ) (w : World) (hmod : Ints w am mn mod) (hi : br w a n L) (hE : aF P M mod m L=0) (hmn : mn<=1000000) :
  Calls prog 80 #[.agg #[.int .i64 P,.int .i64 M,.slice am mn cm,.int .i64 m,.slice a n c]] w (nI P M mod m L w):=by
 go_enter func80,ntmps80;go_wp2_with fail;obtain ⟨W,hW⟩ : ∃W : World,W=(w.alloc (.cells #[.int .i64 P,.int .i64 M,.slice am mn cm,.int .i64 m,.slice a n c] 27)).alloc (.cells #[.int .i64 0,.int .i64 0,.slice none 0 0,.int .i64 0,.slice none 0 0] 27):=⟨_,rfl⟩
 rw [<- hW];have hbW : SW w W:=by rw [hW];exact bN _ _ _
 have hsW : W.heap.size=w.heap.size+2:=by rw [hW];simp
 have x0 : aN W w.heap.size [.int .i64 P,.int .i64 M,.slice am mn cm,.int .i64 m,.slice a n c]:=by rw [hW];exact (R9 _ _ _ rfl).alloc _
 have z0 : aN W (w.heap.size+1) [.int .i64 0,.int .i64 0,.slice none 0 0,.int .i64 0,.slice none 0 0]:=by rw [hW];exact R9 _ _ _ (by simp)
 clear hW;refine (dr P M am mn cm mod m a n c L W (hmod.ah hbW) (hi.ah hbW)).mono ?_;rintro e w1 ⟨rfl,hb1⟩;have hbw1:=RZ hbW hb1;have HK : Hid (∀V,SW w1 V->Calls prog 133 #[.agg #[.int .i64 P,.int .i64 M,.slice am mn cm],.agg #[.int .i64 m,.slice a n c]] V (u7 (af P M.toNat mod) L m V)):=λV hV =>
  DL P M am mn cm mod m a n c L V (hmod.ah (RZ hbw1 hV)) (hi.ah (RZ hbw1 hV)) hE
 have HO : Hid (∀V a5 k5 c5,SW w1 V->Calls prog 120 #[.agg #[.int .i64 P,.int .i64 M,.slice am mn cm],.agg #[.int .i64 m,.slice a5 k5 c5],.int .i64 0] V (tq P M mod m a5 k5 c5 V)):=λV a5 k5 c5 hV =>
  D2 P M am mn cm mod m a5 k5 c5 V (hmod.ah (RZ hbw1 hV)) hmn
 have HPost : Hid (∀a1 c1 a2 c2 w',cR w.heap.size w' a1 mod.length mod->dq w.heap.size w' a2 (aS (af P M.toNat mod) L m).length (aS (af P M.toNat mod) L m)->SW w w' ->
   nI P M mod m L w (.returned (.tuple #[.agg #[.int .i64 P,.int .i64 M,.slice a1 mod.length c1,.int .i64 m,.slice a2 (aS (af P M.toNat mod) L m).length c2],.int .i64 0])) w'):=λa1 c1 a2 c2 w' h1 h2 h3=>⟨a1,c1,a2,c2,rfl,h1,h2,h3⟩
 rw [hE];unfold u7 at HK;obtain ⟨KM,hKM⟩ : ∃KM,aS (af P M.toNat mod) L m=KM:=⟨_,rfl⟩
 rw [hKM] at HK HPost;have hS : ∀V,SW w1 V->V.cell? ⟨w.heap.size,0,none⟩=some (.int .i64 P)/\V.cell? ⟨w.heap.size,1,none⟩=some (.int .i64 M)/\V.cell? ⟨w.heap.size,2,none⟩=some (.slice am mn cm)/\V.cell? ⟨w.heap.size,3,none⟩=some (.int .i64 m)/\V.cell? ⟨w.heap.size,4,none⟩=some (.slice a n c) /\
   aN V (w.heap.size+1) [.int .i64 0,.int .i64 0,.slice none 0 0,.int .i64 0,.slice none 0 0]:=λV hV=>by have x1:=(x0.ah hb1).ah hV;exact ⟨x1.cell 0 rfl,x1.cell 1 rfl,x1.cell 2 rfl,x1.cell 3 rfl,x1.cell 4 rfl,(z0.ah hb1).ah hV⟩
 have HS:=Z5 hS;have Hbw1:=Z5 hbw1;have HsW : Hid (w.heap.size+2<=w1.heap.size):=by show _<=_;rw [<- hsW];exact hb1.size
 obtain ⟨c0,c1,c2,c3,c4,_⟩:=HS.out w1 (Nc _ _);obtain ⟨q,hq⟩ : ∃q,KM.length=q:=⟨_,rfl⟩
 rw [hq] at HK HPost;clear hE hKM hS x0 z0 hbW hsW hmod hi hb1 hbw1 hq;go_wp2_with fail;go_cut [5,6] (λv5 v6 wx=>∃g a5 c5,v5 = .pointer (some ⟨g,0,none⟩)/\v6 = .int .i64 0/\wx.cell? ⟨g,0,none⟩=some (.int .i64 m)/\wx.cell? ⟨g,1,none⟩=some (.slice a5 q c5)/\dq w1.heap.size wx a5 q KM/\SW w1 wx);case first =>
  obtain ⟨b0,b1,b2,b3,b4,_⟩:=HS.out (w1.alloc (.cells #[.int .i64 0,.slice none 0 0] 94)) (an _ _)
  go_region_law ((first
   | (go_simp;go_at_call 91;((with_reducible refine (qE P M am mn cm m a n c _).mono ?_);rintro e w4 ⟨rfl,hb4⟩;have hb04 : SW w1 w4:=(by first | exact RZ (Nc _ _).drew hb4 | exact RZ (an _ (.cells #[.int .i64 0,.slice none 0 0] 94)).drew hb4 | exact RZ (Sb (Nc _ _).drew _) hb4);obtain ⟨c0,c1,c2,c3,c4,_⟩:=HS.out w4 hb04;obtain ⟨d0,d1,d2,d3,d4,_⟩:=HS.out (w4.alloc (.cells #[.int .i64 0,.slice none 0 0] 94)) (Sb hb04 _);(first | (have gz0:=aB hb4 (aI (g:=w1.heap.size) w1 #[.int .i64 0,.slice none 0 0] 94 rfl 0);have gz1:=aB hb4 (aI (g:=w1.heap.size) w1 #[.int .i64 0,.slice none 0 0] 94 rfl 1);have gf0:=eT hb4 (by simp) (i7 (g:=w1.heap.size) w1 #[.int .i64 0,.slice none 0 0] 94 rfl 0);have gf1:=eT hb4 (by simp) (i7 (g:=w1.heap.size) w1 #[.int .i64 0,.slice none 0 0] 94 rfl 1)) | skip)))
   | (go_simp;go_at_call 133;((with_reducible refine (HK.out _ (by first | exact hb04 | exact Sb hb04 _)).mono ?_);rintro e w5 ⟨a5,c5,rfl,hN5,hb5⟩;have hb05 : SW w1 w5:=(by first | exact RZ hb04 hb5 | exact RZ (Sb hb04 _) hb5);(first | (have gy0:=aB hb5 gz0;have gy1:=aB hb5 gz1;have gh0:=eT hb5 (Nt _ _ gz0) gf0;have gh1:=eT hb5 (Nt _ _ gz1) gf1) | (have gy0:=aB hb5 (aI w4 #[.int .i64 0,.slice none 0 0] 94 rfl 0);have gy1:=aB hb5 (aI w4 #[.int .i64 0,.slice none 0 0] 94 rfl 1);have gh0:=eT hb5 (by simp) (i7 w4 #[.int .i64 0,.slice none 0 0] 94 rfl 0);have gh1:=eT hb5 (by simp) (i7 w4 #[.int .i64 0,.slice none 0 0] 94 rfl 1)) | skip)))))
  all_goals (go_wp2_with fail;go_meet)
  all_goals (first
   | exact ⟨w5.heap.size,a5,c5,rfl,rfl,aI _ _ _ rfl 0,aI _ _ _ rfl 1,(hN5.ah (an _ _)).mono (by first | exact hb04.size | exact (Sb hb04 _).size),Sb hb05 _⟩
   | exact ⟨w1.heap.size,a5,c5,rfl,rfl,(vb gy0 gy1).1,(vb gy0 gy1).2,((hN5.setCell (p:=⟨w1.heap.size,0,none⟩) (Nt _ _ gz0) _).setCell (p:=⟨w1.heap.size,1,none⟩) (Nt _ _ gz1) _).mono hb04.size,(hb05.setCell (p:=⟨w1.heap.size,0,none⟩) (Na _) _).setCell (p:=⟨w1.heap.size,1,none⟩) (Na _) _⟩
   | exact ⟨w4.heap.size,a5,c5,rfl,rfl,(vb gy0 gy1).1,(vb gy0 gy1).2,((hN5.setCell (p:=⟨w4.heap.size,0,none⟩) (by simp) _).setCell (p:=⟨w4.heap.size,1,none⟩) (by simp) _).mono (Sb hb04 _).size,(hb05.setCell (p:=⟨w4.heap.size,0,none⟩) hb04.size _).setCell (p:=⟨w4.heap.size,1,none⟩) hb04.size _⟩)
 obtain ⟨g,a5,c5,rfl,rfl,g0,g1,hN5,hb5⟩:=hcut;generalize wc=V at *;obtain ⟨c0,c1,c2,c3,c4,zz⟩:=HS.out V hb5;have HOV:=Z5 (HO.out V a5 q c5 hb5);clear HK HO;go_wp2_with fail;refine HOV.out.mono ?_;rintro e w6 ⟨a6,c6,rfl,hN6,hb6⟩;obtain ⟨_,_,_,_,_,zz6⟩:=HS.out w6 (RZ hb5 hb6);have z0:=zz6.cell 0 rfl;have z1:=zz6.cell 1 rfl;have z2:=zz6.cell 2 rfl;have z3:=zz6.cell 3 rfl;have z4:=zz6.cell 4 rfl;have f0:=zz6.frozen 0;have f1:=zz6.frozen 1;have f2:=zz6.frozen 2;have f3:=zz6.frozen 3;have f4:=zz6.frozen 4;have hbF:=RZ Hbw1.out (RZ hb5 hb6);have hs:=HsW.out;have hs2:=hb5.size;have hM6:=hN5.ah hb6;have hFin:=HPost.out a6 c6 a5 c5 (((((w6.setCell ⟨w.heap.size+1,0,none⟩ (.int .i64 P)).setCell ⟨w.heap.size+1,1,none⟩ (.int .i64 M)).setCell ⟨w.heap.size+1,2,none⟩ (.slice a6 mod.length c6)).setCell ⟨w.heap.size+1,3,none⟩ (.int .i64 m)).setCell ⟨w.heap.size+1,4,none⟩ (.slice a5 q c5))
  ((((((hN6.setCell (p:=⟨w.heap.size+1,0,none⟩) (by simp;omega) _).setCell (p:=⟨w.heap.size+1,1,none⟩) (by simp;omega) _).setCell (p:=⟨w.heap.size+1,2,none⟩) (by simp;omega) _).setCell (p:=⟨w.heap.size+1,3,none⟩) (by simp;omega) _).setCell (p:=⟨w.heap.size+1,4,none⟩) (by simp;omega) _).mono (by omega))
  ((((((hM6.setCell (p:=⟨w.heap.size+1,0,none⟩) (by simp;omega) _).setCell (p:=⟨w.heap.size+1,1,none⟩) (by simp;omega) _).setCell (p:=⟨w.heap.size+1,2,none⟩) (by simp;omega) _).setCell (p:=⟨w.heap.size+1,3,none⟩) (by simp;omega) _).setCell (p:=⟨w.heap.size+1,4,none⟩) (by simp;omega) _).mono (by omega))
  (((((hbF.setCell (p:=⟨w.heap.size+1,0,none⟩) (by simp) _).setCell (p:=⟨w.heap.size+1,1,none⟩) (by simp) _).setCell (p:=⟨w.heap.size+1,2,none⟩) (by simp) _).setCell (p:=⟨w.heap.size+1,3,none⟩) (by simp) _).setCell (p:=⟨w.heap.size+1,4,none⟩) (by simp) _)
 have HFin:=Z5 hFin;clear hFin hM6 hN5 hN6 HOV zz zz6;go_wp2_with fail;exact bodyPost_ret (v:=.tuple #[.agg #[.int .i64 P,.int .i64 M,.slice a6 mod.length c6,.int .i64 m,.slice a5 q c5],.int .i64 0]) (by simp [results,results80,go_sem,z0,z1,z2,z3,z4]) rfl HFin.out
end Go.Proofs.YthglbncgemdcbaaGreat
