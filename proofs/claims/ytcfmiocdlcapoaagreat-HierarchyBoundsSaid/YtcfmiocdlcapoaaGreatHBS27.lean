import Derived.Test.YtcfmiocdlcapoaaGreatHBS25
import Derived.Test.YtcfmiocdlcapoaaGreatHBS23
namespace Go.Proofs.YtcfmiocdlcapoaaGreat
set_option linter.all false
set_option maxRecDepth 100000
set_option maxHeartbeats 8000000
open Go.RowKit Go.Proofs.Tryz
theorem I3 (O : aJ) (L : ZZ) (m : Nat) (C : la) (d : Nat) (s z : Lz) (T : ZZ) (hd : s.length+d=C.W) (hr : ey O L m C s (fb O L m C s z)=true) (hT : T.length ≠ 65536) :
  ko O L m C d s z T=iA (ko O L m C (d - 1)) s z (if s.length<C.W then (fb O L m C s z).filter (λx=>decide (¬ x ∈ z)) else []) (T ++ [fb O L m C s z]):=by
 match d with
 | 0 =>
  have h1 : (if s.length<C.W then (fb O L m C s z).filter (λx=>decide (¬ x ∈ z)) else [])=[]:=Mh (by omega)
  rw [h1,ko,Mg hr,Mh hT]
  rfl
 | d+1 =>
  have h1 : (if s.length<C.W then (fb O L m C s z).filter (λx=>decide (¬ x ∈ z)) else [])=zQ C s z (fb O L m C s z):=rfl
  rw [h1,ko,Mg hr,Mh hT]
  rfl
theorem DQ (O : aJ) (L : ZZ) (m : Nat) (C : la) (d : Nat) (s z : Lz) (T : ZZ) (hr : ey O L m C s (fb O L m C s z)=false) : ko O L m C d s z T=(11,[]):=by
 match d with
 | 0=>rw [ko];exact Mh (by rw [hr];simp)
 | d+1=>rw [ko];exact Mh (by rw [hr];simp)
theorem Ij (O : aJ) (L : ZZ) (m : Nat) (C : la) (d : Nat) (s z : Lz) (T : ZZ) (hr : ey O L m C s (fb O L m C s z)=true) (hT : T.length=65536) : ko O L m C d s z T=(8,[]):=by
 match d with
 | 0=>rw [ko,Mg hr,Mg hT]
 | d+1=>rw [ko,Mg hr,Mg hT]
theorem Fx {R R' : Z4} (h : R <+: R') {i : Nat} (hi : i<R.length) : aV R' i=aV R i:=by obtain ⟨X,rfl⟩:=h;rw [fY (show i<(R ++ X).length by simp;omega),fY hi,OE]
theorem FQ {R R' : ZZ} (h : R <+: R') {i : Nat} (hi : i<R.length) : ai R' i=ai R i:=by obtain ⟨X,rfl⟩:=h;rw [aF (show i<(R ++ X).length by simp;omega),aF hi,OE]
theorem DM (R : Z4) (r : OA × Nat) : aV (R ++ [r]) R.length=r:=by rw [fY (by simp)];simp
theorem Dy (R : ZZ) (r : Lz) : ai (R ++ [r]) R.length=r:=by rw [aF (by simp)];simp
structure pF where
 ar : OA
 cr : Nat
 R : Z4
 T : ZZ
def pF.J (pb : Nat) (σ : pF) (x : Nat) : Prop:=x=pb\/bS σ.ar σ.R x
structure kX (w : World) (B pb b : Nat) (P M : Int) (am : OA) (mn cm : Nat) (m : Nat) (a : OA) (n c : Nat) (ay : OA) (ny cy : Nat) (C : la) (σ : pF) : Prop where
 box : bf w pb (nf b P M am mn cm m a n c ay ny cy C (.slice σ.ar σ.T.length σ.cr) 0)
 om : aY w B σ.ar σ.T.length σ.cr σ.R σ.T
 np : ¬ bS σ.ar σ.R pb
 ln : σ.T.length<=65536
theorem kX.lt {w : World} {B pb b : Nat} {P M : Int} {am : OA} {mn cm m : Nat} {a : OA} {n c : Nat} {ay : OA} {ny cy : Nat} {C : la} {σ : pF} (h : kX w B pb b P M am mn cm m a n c ay ny cy C σ) {x : Nat} (hx : σ.J pb x) : x<w.heap.size:=by
 rcases hx with rfl | hx
 ·exact h.box.1
 ·exact (h.om.lt x hx).2
theorem kX.cQ {w w' : World} {I : Nat->Prop} {B pb b : Nat} {P M : Int} {am : OA} {mn cm m : Nat} {a : OA} {n c : Nat} {ay : OA} {ny cy : Nat} {C : la} {σ : pF} (h : kX w B pb b P M am mn cm m a n c ay ny cy C σ)
  (hM : aw w w' I I) (hI : ∀x,σ.J pb x->¬ I x) : kX w' B pb b P M am mn cm m a n c ay ny cy C σ :=
 ⟨h.box.cQ hM (hI _ (.inl rfl)),h.om.bu λx hx=>hM.block x (h.om.lt x hx).2 (hI x (.inr hx)),h.np,h.ln⟩
theorem kX.ah {w w' : World} {B pb b : Nat} {P M : Int} {am : OA} {mn cm m : Nat} {a : OA} {n c : Nat} {ay : OA} {ny cy : Nat} {C : la} {σ : pF} (h : kX w B pb b P M am mn cm m a n c ay ny cy C σ)
  (hM : Rs w w') : kX w' B pb b P M am mn cm m a n c ay ny cy C σ:=h.cQ (I:=λ_=>False) (QU hM _) λ_ _ h=>h
def xJ (w0 : World) (pb b : Nat) (P M : Int) (am : OA) (mn cm : Nat) (m : Nat) (a : OA) (n c : Nat) (ay : OA) (ny cy : Nat) (C : la) (σ : pF) (V : Int × ZZ) (w : World) (e : Ending) (w' : World) : Prop :=
 ∃σ' : pF,kX w' w0.heap.size pb b P M am mn cm m a n c ay ny cy C σ'/\σ.R <+: σ'.R/\σ.T <+: σ'.T/\aw w w' (σ.J pb) (σ'.J pb)/\e = .returned (.int .i64 V.1)/\(V.1=0->σ'.T=V.2)
theorem kX.push {V w5 : World} {B pb b : Nat} {P M : Int} {am : OA} {mn cm m : Nat} {a : OA} {n c : Nat} {ay : OA} {ny cy : Nat} {C : la} {σ : pF} (h : kX V B pb b P M am mn cm m a n c ay ny cy C σ) (hB : B<=V.heap.size)
  {a3 : OA} {c3 : Nat} {t : Lz} (hr : V.ownsRow B 3 1 (.slice a3 t.length c3) t.length (t.map (Value.int .i64))) (hra : a3 ≠ none->¬ σ.J pb (an a3)) (hT : σ.T.length<65536) {o : Obj}
  {a5 : OA} {c5 : Nat} (hown : w5.ownsRow B 22 1 (.slice a5 (σ.T.length+1) c5) (σ.T.length+1) (List.zipWith jx σ.R σ.T ++ [.slice a3 t.length c3])) (hg : (V.alloc o).grownBy w5 (Value.slice σ.ar σ.T.length σ.cr).ownBlock)
  (hap : ∀b,b<(V.alloc o).heap.size->cF σ.ar b->cF a5 b) :
  kX (w5.setCell ⟨pb,10,none⟩ (.slice a5 (σ.T.length+1) c5)) B pb b P M am mn cm m a n c ay ny cy C ⟨a5,c5,σ.R ++ [(a3,c3)],σ.T ++ [t]⟩ /\
   aw V (w5.setCell ⟨pb,10,none⟩ (.slice a5 (σ.T.length+1) c5)) (λx=>σ.J pb x\/(a3 ≠ none/\x=an a3)) ((⟨a5,c5,σ.R ++ [(a3,c3)],σ.T ++ [t]⟩ : pF).J pb):=by
 have hal:=aB V o;have hO1 : aY (V.alloc o) B σ.ar σ.T.length σ.cr σ.R σ.T:=h.om.ah hal;have hra2 : a3 ≠ none->¬ bS σ.ar σ.R (an a3):=λh0 hh=>hra h0 (.inr hh);have hO5:=Re hO1 (ba hr hal) hra2 hown hg hap;have hnp : σ.ar=none\/an σ.ar ≠ pb:=by
  by_cases e : σ.ar=none
  ·exact .inl e
  ·exact .inr λe2=>h.np (.inl ⟨e,e2.symm⟩)
 have hbox5 : bf w5 pb (nf b P M am mn cm m a n c ay ny cy C (.slice σ.ar σ.T.length σ.cr) 0):=(h.box.ah hal).cQ (QZ (K:=λx=>σ.ar ≠ none/\x=an σ.ar) hg λh0=>⟨h0,rfl⟩) λ⟨h0,e⟩=>by
  rcases hnp with h1 | h1
  ·exact h0 h1
  ·exact h1 e.symm
 have hne : ¬ bS a5 (σ.R ++ [(a3,c3)]) pb:=λhh=>by
  rcases bS.push hO1 hap hh with h1 | ⟨h1,h2⟩ | h1
  ·exact h.np h1
  ·exact hra h1 (.inl h2.symm)
  ·have h2:=h.box.1;have h3:=hal.size;omega
 refine ⟨⟨?_,?_,hne,by simp;omega⟩,?_⟩
 ·have h1:=hbox5.setCell 10 (.slice a5 (σ.T.length+1) c5);show bf _ pb (nf b P M am mn cm m a n c ay ny cy C (.slice a5 (σ.T ++ [t]).length c5) 0);rw [Mp,Mz];exact h1
 ·show aY _ B a5 (σ.T ++ [t]).length c5 _ _;rw [Mp,Mz];exact hO5.bu λx hx=>MB _ _ _ _ λe=>hne (by have e' : x=pb:=e;rw [<- e'];exact hx)
 ·have hM0 : aw V (V.alloc o) (λx=>σ.J pb x\/(a3 ≠ none/\x=an a3)) (λx=>σ.J pb x\/(a3 ≠ none/\x=an a3)):=QU hal _;have hM1 : aw (V.alloc o) w5 (λx=>σ.J pb x\/(a3 ≠ none/\x=an a3)) (λx=>σ.J pb x\/(a3 ≠ none/\x=an a3)):=QZ hg λh0=>.inl (.inr (.inl ⟨h0,rfl⟩));have hM2:=hM0.trans hM1;have hb0 : Below 0 w5 (w5.setCell ⟨pb,10,none⟩ (.slice a5 (σ.T.length+1) c5)):=(Mi 0 w5).setCell (Mj _) _;refine ⟨hb0.os.trans hM2.os,hb0.tape.trans hM2.tape,hb0.output.trans hM2.output,Mt hM2.size hb0.size,λx hx hI=>?_,λx hx=>?_⟩
  ·exact (MB _ _ _ _ λe=>hI (.inl (.inl e))).trans (hM2.block x hx hI)
  ·rcases hx with hx | hx
   ·exact .inl (.inl (.inl hx))
   ·rcases bS.push hO1 hap hx with h1 | h1 | h1
    ·exact .inl (.inl (.inr h1))
    ·exact .inl (.inr h1)
    ·exact .inr (Mt hal.size h1)
theorem kX.zm {V w5 : World} {B pb b : Nat} {P M : Int} {am : OA} {mn cm m : Nat} {a : OA} {n c : Nat} {ay : OA} {ny cy : Nat} {C : la} {σ : pF} (h : kX V B pb b P M am mn cm m a n c ay ny cy C σ)
  {o : Obj} (hg : (V.alloc o).grownBy w5 (Value.slice σ.ar σ.T.length σ.cr).ownBlock) : bf w5 pb (nf b P M am mn cm m a n c ay ny cy C (.slice σ.ar σ.T.length σ.cr) 0) :=
 (h.box.ah (aB V o)).cQ (QZ (K:=λx=>σ.ar ≠ none/\x=an σ.ar) hg λh0=>⟨h0,rfl⟩) λ⟨h0,e⟩=>h.np (.inl ⟨h0,e⟩)
theorem aw.Jl {w V Z : World} {I I' A : Nat->Prop} (h : Rs w V) (g : aw V Z (λx=>I x\/A x) I') (hA : ∀x,A x->w.heap.size<=x) : aw w Z I I' :=
 ⟨g.os.trans h.os,g.tape.trans h.tape,g.output.trans h.output,Mt h.size g.size,λx hx hI=>(g.block x (ME hx h.size) λhh=>by
  rcases hh with hh | hh
  ·exact hI hh
  ·have:=hA x hh;omega).trans (h.block x hx),λx hx=>by
  rcases g.grow x hx with hh | hh
  ·rcases hh with hh | hh
   ·exact .inl hh
   ·exact .inr (hA x hh)
  ·exact .inr (Mt h.size hh)⟩
theorem ql {w0 : World} {b : Nat} {G : cJ} {a : OA} {n : Nat} {L : ZZ} {m : Nat} {ay : OA} {ny : Nat} {C : la} (pb : Nat) (P M : Int) (am : OA) (mn cm c cy : Nat)
  (E : AU w0 b G a n L m ay ny C) (hpb : w0.heap.size<=pb) :
  ∀(d : Nat) (w : World) (σ : pF) (sa : OA) (ns cs : Nat) (s : Lz) (az : OA) (nz cz : Nat) (z : Lz),ns+d=C.W->nz<=64->Rs w0 w->kX w w0.heap.size pb b P M am mn cm m a n c ay ny cy C σ ->
   Ints w sa ns s->Ints w az nz z->(0<ns->¬ σ.J pb (an sa))->(0<nz->¬ σ.J pb (an az))->z.Nodup->(∀x ∈ z,0<=x/\x<(m : Int)) ->
   Calls prog 235 #[.pointer (some ⟨pb,0,none⟩),.slice sa ns cs,.slice az nz cz] w (xJ w0 pb b P M am mn cm m a n c ay ny cy C σ (ko G.ops L m C d s z σ.T) w)
 | d,w,σ,sa,ns,cs,s,az,nz,cz,z,hd,hnz,hb,hB,hs,hz,hsp,hzp,hzn,hzb=>by
  have IH : Hid (∀d',d'+1=d->∀(w : World) (σ : pF) (sa : OA) (ns cs : Nat) (s : Lz) (az : OA) (nz cz : Nat) (z : Lz),ns+d'=C.W->nz<=64->Rs w0 w->kX w w0.heap.size pb b P M am mn cm m a n c ay ny cy C σ ->
   Ints w sa ns s->Ints w az nz z->(0<ns->¬ σ.J pb (an sa))->(0<nz->¬ σ.J pb (an az))->z.Nodup->(∀x ∈ z,0<=x/\x<(m : Int)) ->
   Calls prog 235 #[.pointer (some ⟨pb,0,none⟩),.slice sa ns cs,.slice az nz cz] w (xJ w0 pb b P M am mn cm m a n c ay ny cy C σ (ko G.ops L m C d' s z σ.T) w)):=λd' hd'=>by subst hd';exact ql pb P M am mn cm c cy E hpb d'
  have hm6:=E.m6;have hw6:=E.w6;have HE:=Z5 E;have Hsl:=Z5 hs.len;have Hzl:=Z5 hz.len;have p4:=hB.box.cell 4 rfl;have p7:=hB.box.cell 7 rfl;have p8:=hB.box.cell 8 rfl;obtain ⟨RF,hRF⟩ : ∃RF,ko G.ops L m C d s z σ.T=RF:=⟨_,rfl⟩
  rw [hRF];have HRF:=Z5 hRF;have HB:=Z5 hB;have Hz:=Z5 (My hzn hzb);obtain ⟨mo,hmo⟩ : ∃mo,(if C.cos=true then m else C.M)=mo:=⟨_,rfl⟩
  have Hmo:=Z5 hmo;obtain ⟨bc,hbc⟩ : ∃bc,C.cos=bc:=⟨_,rfl⟩
  rw [hbc] at p7;have Hbc:=Z5 hbc;clear hbc;have hol:=F5 m s z;have horng : ∀j,j<(jR m s z).length->0<=nth (jR m s z) j/\nth (jR m s z) j<m:=λj hj=>by
   rcases zU (aN hj) with h1 | h1
   ·exact hzb _ h1
   ·exact ⟨h1.1,h1.2.1⟩
  have Horng:=Z5 horng;have HO : Hid (Calls prog 262 #[.pointer (some ⟨pb,0,none⟩),.slice sa ns cs,.slice az nz cz] w (cX w (jR m s z))):=uC pb m sa ns cs s az nz cz z w p4 hs hz (by omega) (by omega);clear hRF hB hzn hzb E hmo horng;go_enter func235,ntmps235;go_upto_if 16 with fail;go_cut [7] (λv wx=>v = .int .i64 mo/\w=wx);case first =>
   cases bc
   ·have Hm2 : Hid (mo=C.M):=by show _=_;rw [<- Hmo.out,Hbc.out];rfl
    go_wp2_with fail
    go_meet
    exact ⟨by rw [Hm2.out],rfl⟩
   ·have Hm2 : Hid (mo=m):=by show _=_;rw [<- Hmo.out,Hbc.out];rfl
    go_wp2_with fail
    go_meet
    exact ⟨by rw [Hm2.out],rfl⟩
  obtain ⟨rfl,rfl⟩:=hcut;go_wp2_with fail;refine HO.out.mono ?_;rintro e w2 ⟨a2,c2,rfl,hown2,hb2⟩;have hB2:=HB.out.ah hb2;have hGr:=oz pb a n c L m a2 _ c2 (jR m s z) mo (hB2.box.cell 0 rfl) (hB2.box.cell 5 rfl) (HE.out.g.ah (hb.trans (hb2.mono hb.size))) (HE.out.rC.ah (hb.trans (hb2.mono hb.size))) HE.out.rws (QR hown2).1 Horng.out HE.out.n6 (by rw [Hzl.out] at hol;omega);have hgl:=CO (O:=G.ops) (L:=L) (Q:=jR m s z) (most:=mo);have Hcs : Hid (fb G.ops L m C s z=b8 (y8 G.ops L (jR m s z) mo)):=by show _=_;rw [fb,Hmo.out]
  have hcn : (fb G.ops L m C s z).Nodup:=BJ Hz.out.1;have hcb : ∀x ∈ fb G.ops L m C s z,0<=x/\x<(m : Int):=λx hx=>by
   rcases zU (CO x (Gr.1 hx)) with h1 | h1
   ·exact Hz.out.2 x h1
   ·exact ⟨h1.1,h1.2.1⟩
  have hcl : (fb G.ops L m C s z).length<=64:=Mt (rQ hcn hcb) hm6;rw [Hcs.out,gK] at hcl;have Hcn:=Z5 (My hcn hcb);unfold cX at hGr;obtain ⟨gl,hgle⟩ : ∃gl,(y8 G.ops L (jR m s z) mo).length=gl:=⟨_,rfl⟩
  have Hgl:=Z5 hgle;rw [hgle] at hGr hcl;obtain ⟨t,hte⟩ : ∃t,fb G.ops L m C s z=t:=⟨_,rfl⟩
  have Htl : Hid (t.length=gl):=by show _=_;rw [<- hte,Hcs.out,gK,hgle]
  have Hcs2 : Hid (b8 (y8 G.ops L (jR m s z) mo)=t):=by show _=_;rw [<- hte,Hcs.out]
  rw [hte] at Hcn;have Hte:=Z5 hte;clear hcn hcb hgle hgl hte Hcs;have HGr:=Z5 hGr;clear hGr;generalize (jR m s z).length=ol at *;go_wp2_with fail;refine HGr.out.mono ?_;rintro e w3 ⟨a3,c3,rfl,hown3,hb3⟩;have hbw3:=QQ hb2 hb3;have hown3':=bg hown3 (B':=w.heap.size) hb2.size;have HSo:=Z5 (rU w.heap.size a3 gl c3 _ w3 hown3' hbw3.size (by omega));rw [Hcs2.out] at HSo;clear hown3 hown3';go_wp2_with fail;refine HSo.out.mono ?_;rintro e w4 ⟨rfl,hown4,_,hb4⟩;have hbw4 : Rs w w4:=hbw3.trans hb4;have hB4:=HB.out.ah hbw4;have ht4:=(QR hown4).1;have HRt:=Z5 (qB (c:=c) (cy:=cy) pb P M am mn cm _ 0 sa ns cs s a3 gl c3 t HE.out (hb.trans (hbw4.mono hb.size)) hB4.box (hs.ah hbw4) ht4 (by omega));obtain ⟨rr,hrr⟩ : ∃rr,ey G.ops L m C s t=rr:=⟨_,rfl⟩
  rw [hrr] at HRt;have Hrr : Hid (ey G.ops L m C s (fb G.ops L m C s z)=rr):=by show _=_;rw [Hte.out];exact hrr
  clear hrr;go_wp2_with fail;refine HRt.out.mono ?_;rintro e w5 ⟨rfl,hb5⟩;have hbw5 : Rs w w5:=QQ hbw4 hb5;have hB5:=HB.out.ah hbw5;cases rr
  ·have HF : Hid (RF=(11,[])):=by show _=_;rw [<- HRF.out,DQ _ _ _ _ _ _ _ _ Hrr.out]
   go_wp2_with fail;go_ret;exact ⟨σ,hB5,NO,NO,QU hbw5 _,by rw [HF.out];rfl,λh=>by rw [HF.out] at h;cases h⟩
  have p10:=hB5.box.cell 10 rfl;by_cases hbig : σ.T.length=65536
  ·have HF : Hid (RF=(8,[])):=by show _=_;rw [<- HRF.out,Ij _ _ _ _ _ _ _ _ Hrr.out hbig]
   have hbg : ((σ.T.length : Int) == 65536)=true:=by simp;omega
   clear hbig;go_wp2_with fail;go_ret;exact ⟨σ,hB5,NO,NO,QU hbw5 _,by rw [HF.out];rfl,λh=>by rw [HF.out] at h;cases h⟩
  have hbg : ((σ.T.length : Int) == 65536)=false:=by simp;omega
  have HF : Hid (RF=iA (ko G.ops L m C (d - 1)) s z (if ns<C.W then t.filter (λx=>decide (¬ x ∈ z)) else []) (σ.T ++ [t])):=by show _=_;rw [<- HRF.out,I3 _ _ _ _ _ _ _ _ (by rw [Hsl.out];exact hd) Hrr.out hbig,Hsl.out,Hte.out]
  have hTl:=hB5.ln;have hTlt : σ.T.length<65536:=by omega
  have hown5:=ba hown4 hb5;have f10:=hB5.box.frozen 10;have hcn:=bm w5 (.slice a3 gl c3) 22;have hbn:=aB w5 (.cells #[.slice a3 gl c3] 22);have hsz5:=hbw5.size;have hszb:=hb.size;clear hbig;go_wp2_with (at_builtin;refine bj rfl _ _ 25 22 rfl (.slice none 0 0) 24 underlying25 fg rfl w0.heap.size σ.ar σ.T.length σ.cr _ rfl ((hB5.om.own).alloc _) ⟨w5.heap.size,0,none⟩ 1 (.slice a3 gl c3) rfl hcn rfl (by omega) (by unfold maxLen;omega) (by simp;omega) ?_;intro a6 c6 w6 hown6 hgr6 hap6;have q10:=(hB5.zm hgr6).cell 10 rfl;have qf10:=(hB5.zm hgr6).frozen 10);obtain rfl:=Htl.out;have hra : a3 ≠ none->¬ σ.J pb (an a3):=λh0 hj=>by have h1:=HB.out.lt hj;have h2:=(aZ hown5 h0).1;omega
  obtain ⟨hB7,hM7⟩:=kX.push hB5 (Mt hszb hsz5) (bg hown5 hszb) hra hTlt hown6 hgr6 hap6;obtain ⟨Z,hZ⟩ : ∃Z : World,Z=w6.setCell ⟨pb,10,none⟩ (.slice a6 (σ.T.length+1) c6):=⟨_,rfl⟩
  rw [<- hZ] at hB7 hM7;have hB05 : Rs w0 w5:=hb.trans (hbw5.mono hszb);have hbZ : Rs w0 Z:=hB05.trans (hM7.below (λx hx=>by
   rcases hx with (hx | hx) | ⟨h1,h2⟩
   ·rw [hx];exact hpb
   ·exact (hB5.om.lt x hx).1
   ·rw [h2];exact Mt hszb (aZ hown5 h1).1) hB05.size)
  have hMwZ : aw w Z (σ.J pb) ((⟨a6,c6,σ.R ++ [(a3,c3)],σ.T ++ [t]⟩ : pF).J pb):=aw.Jl hbw5 hM7 λx hx=>by rw [hx.2];exact (aZ hown5 hx.1).1
  have hsZ:=hs.cQ hMwZ hsp;have hzZ:=hz.cQ hMwZ hzp;have hsJ : 0<ns->¬ (⟨a6,c6,σ.R ++ [(a3,c3)],σ.T ++ [t]⟩ : pF).J pb (an sa):=λh0=>hMwZ.not (hs.lt h0) (hsp h0);have hRl : σ.R.length=σ.T.length:=hB5.om.rl;have hszZ:=hMwZ.size;have HCh : Hid (Calls prog 264 #[.pointer (some ⟨pb,0,none⟩),.slice sa ns cs,.slice az nz cz,.slice a3 t.length c3,.func (.func 235) #[.pointer (some ⟨pb,0,none⟩)] #[]] Z
    (xJ w0 pb b P M am mn cm m a n c ay ny cy C σ RF w)):=by
   refine (qL (σ:=pF) (λV τ=>Rs w0 V/\kX V w0.heap.size pb b P M am mn cm m a n c ay ny cy C τ/\Ints V sa ns s/\(0<ns->¬ τ.J pb (an sa))/\(σ.R ++ [(a3,c3)]) <+: τ.R/\(σ.T ++ [t]) <+: τ.T) (λτ x=>τ.J pb x) (λτ=>τ.T)
    (λs z T=>ko G.ops L m C (d - 1) s z T) pb C.W sa ns cs s az nz cz z a3 t.length c3 t Z ⟨a6,c6,σ.R ++ [(a3,c3)],σ.T ++ [t]⟩ ⟨hbZ,hB7,hsZ,hsJ,NO,NO⟩ ?_ (hB7.box.cell 9 rfl) ?_ (λV τ x h hx=>h.2.1.lt hx) hzZ Hcn.out.1 (by omega) (by omega) (by omega) (by omega) ?_).mono ?_
   ·rintro V1 V2 τ ⟨e1,e2,e3,e4,e5,e6⟩ hM;refine ⟨e1.trans (hM.below (λx hx=>Mt hbZ.size hx.1) e1.size),e2.cQ hM λx hx hh=>hh.2 hx,e3.cQ hM λhn hx=>?_,e4,e5,e6⟩;have h1:=hsZ.lt hn;omega
   ·rintro V τ ⟨e1,e2,e3,e4,e5,e6⟩;refine ⟨e3,?_⟩;have hlt : σ.T.length<τ.T.length:=by obtain ⟨X,hX⟩:=e6;rw [<- hX];simp <;> omega
    have h1:=e2.om.ints hlt;rw [FQ e6 (by simp),Dy,<- hRl,Fx e5 (by simp),DM] at h1;exact h1
   ·intro hlt V1 τ a1 c1 a2 c2 j zc hj hzc hnj hI hM h1 h2 h3 h4;obtain ⟨d',hd'⟩ : ∃d',d'+1=d:=⟨d - 1,by omega⟩
    have hzl : zc.length<=64/\zc.Nodup/\∀x ∈ zc,0<=x/\x<(m : Int):=by
     have hsub : ∀x ∈ (t.take j).filter (λx=>decide (¬ x ∈ z)),x ∈ t/\¬ x ∈ z:=λx hx=>by rw [Og] at hx;exact ⟨Nd hx.1,by simpa using hx.2⟩
     have hnd : zc.Nodup:=by rw [hzc,Nq];refine ⟨Hz.out.1,Ot _ (OI (OR _ _) Hcn.out.1),λx hx y hy e=>?_⟩;exact (hsub y hy).2 (e ▸ hx)
     have hbd : ∀x ∈ zc,0<=x/\x<(m : Int):=λx hx=>by
      rw [hzc] at hx;rcases List.mem_append.1 hx with hx | hx
      ·exact Hz.out.2 x hx
      ·exact Hcn.out.2 x (hsub x hx).1
     exact ⟨Mt (rQ hnd hbd) hm6,hnd,hbd⟩
    have h5:=IH.out d' hd' V1 τ a1 (ns+1) c1 (s ++ [nth t j]) a2 zc.length c2 zc (by omega) hzl.1 hI.1 hI.2.1 h1 h2 (λ_=>h3) (λh0=>h4 (by intro e;have:=h2.pl h0;rw [e] at this;cases this)) hzl.2.1 hzl.2.2;have hdd : d - 1=d':=by omega
    refine h5.mono ?_;rintro e V2 ⟨τ',g1,g2,g3,g4,g5,g6⟩;rw [hdd];exact ⟨τ',⟨hI.1.trans (g4.below (λx hx=>by
      rcases hx with hx | hx
      ·rw [hx];exact hpb
      ·exact (hI.2.1.om.lt x hx).1) hI.1.size),g1,hI.2.2.1.cQ g4 hI.2.2.2.1,λhn=>g4.not (hI.2.2.1.lt hn) (hI.2.2.2.1 hn),hI.2.2.2.2.1.trans g2,hI.2.2.2.2.2.trans g3⟩,g4,g5,g6⟩
   ·rintro e V2 ⟨τ',g1,g2,g3,g4⟩;rw [<- HF.out] at g3 g4;exact ⟨τ',g1.2.1,(Pr _ _).trans g1.2.2.2.2.1,(Pr _ _).trans g1.2.2.2.2.2,hMwZ.trans g2,g3,g4⟩
  rw [<- hZ];clear IH HO HSo HGr HRt hown4 hown5 hown6 hgr6 hap6 hB7 hM7 hZ hMwZ hsZ hzZ HF;go_wp2_with fail;refine HCh.out.mono ?_;rintro e w7 ⟨τ',g1,g2,g3,g4,rfl,g6⟩;go_wp2_with fail;go_ret;exact ⟨τ',g1,g2,g3,g4,rfl,g6⟩
section
open Go.RowKit
end
theorem Ints.drop {w : World} {b o : Nat} {n k : Nat} {l : Lz} (h : Ints w (some ⟨b,o,none⟩) n l) (hk : k<=n) : Ints w (some ⟨b,o+k,none⟩) (n - k) (l.drop k) :=
 ⟨by rw [NQ,h.len],λ_=>rfl,by have:=h.max;omega,λi hi=>by
  have h1:=h.cell (k+i) (by omega);have e : nth (l.drop k) i=nth l (k+i):=by unfold nth;simp only [Mk,OF]
  rw [e];simp only [ablk_some,aoff_some] at h1 ⊢;rw [N5];exact h1⟩
section
open Go.RowKit
end
theorem BP {w : World} {b : Nat} {G : cJ} (h : dW w b G) :
  Calls prog 149 #[.pointer (some ⟨b,0,none⟩)] w λe w'=>e = .returned (.int .i64 (G.q : Nat))/\w=w':=by have hc:=h.cq;go_enter func149,ntmps149;go_wp2;go_ret;exact ⟨rfl,rfl⟩
theorem uu (L : ZZ) {r : Nat} (h : r<L.length) : L.drop r=ai L r :: L.drop (r+1):=by rw [aF h];exact M4 h
theorem vF {P M : Int} {mod : Lz} {m : Nat} {L : ZZ} (hE : aH P M mod m L=0) {Q : Lz} (hQ : qW m Q) (hl : Q.length=L.length) (hg : (jP (aa P M.toNat mod).ops L Q).length=Q.length)
  {v : Lz} (hvl : v.length=L.length) (hv : ∀k,k<L.length->(aa P M.toNat mod).El (nth v k)) :
  Vc (aa P M.toNat mod).El m (bK (aa P M.toNat mod).ops m v (ew (aa P M.toNat mod).ops m L Q) L.length) /\
  (∀i,i<m->nth (bU (aa P M.toNat mod).ops L (ee (aa P M.toNat mod) L m) (bK (aa P M.toNat mod).ops m v (ew (aa P M.toNat mod).ops m L Q) L.length) L.length) i=0) /\
  aO Q (bK (aa P M.toNat mod).ops m v (ew (aa P M.toNat mod).ops m L Q) L.length)=v:=by
 obtain ⟨N',e,hm1,hm64,F,hR⟩:=aS hE;obtain rfl : m=N':=by omega
 have h6:=(dK (bL hE).2.2.2).2;rw [Mm] at h6;have hcan : dX (aa P M.toNat mod).ops m L=L:=h6;obtain ⟨hPv,_⟩:=db F hR;have hcl:=bY F hR;rw [hcan] at hPv hcl;have hform:=λi hi=>yE F hR hQ hl hg i hi;obtain ⟨hSr,hSl,hSu,_⟩:=oM hE hQ hl hg;obtain ⟨c1,c2⟩:=gH F hSr (x:=v) (λk hk=>hv k (by omega)) L.length (by omega);have hSL : gF (aa P M.toNat mod).ops (aa P M.toNat mod).El m (ew (aa P M.toNat mod).ops m L Q) L:=λi hi=>by obtain ⟨e,he,hy,_⟩:=hform i (by omega);exact ⟨e,he,hy⟩
 refine ⟨c1,HY F hR hPv hcl c1 (hSL.rs c2),?_⟩;refine fR (by rw [hvl,<- hl];simp [aO]) λj hj=>?_;have hj2 : j<Q.length:=by simpa [aO] using hj
 have hqj:=hQ j hj2;rw [ed Q _ hj2,fV F hSr (λk hk=>hv k (by omega)) (by omega) _ (by omega)];have hone : ∀t,t<L.length->nth (ai (ew (aa P M.toNat mod).ops m L Q) t) (nth Q j).toNat=if t=j then 1 else 0:=λt ht=>by obtain ⟨e',_,hy',hj'⟩:=hform t ht;rw [hy' _ (by omega),hj' j hj2]
 have hvj:=hv j (by omega);rw [jB F (x:=j) (by
  show (aa P M.toNat mod).El ((aa P M.toNat mod).ops.mul (nth v j) (nth (ai (ew (aa P M.toNat mod).ops m L Q) j) (nth Q j).toNat));rw [hone j (by omega),Mg rfl,F.iE hvj];exact hvj) L.length (λp hp hpj=>by
  show (aa P M.toNat mod).ops.mul (nth v p) (nth (ai (ew (aa P M.toNat mod).ops m L Q) p) (nth Q j).toNat)=0;rw [hone p hp,Mh hpj,F.dt (hv p hp)]),Mg (by omega)]
 show (aa P M.toNat mod).ops.mul (nth v j) (nth (ai (ew (aa P M.toNat mod).ops m L Q) j) (nth Q j).toNat)=_;rw [hone j (by omega),Mg rfl,F.iE hvj]
def Eo (P M : Int) (mod : Lz) (N : Int) (L : ZZ) : Int:=if aH P M mod N L=0 then qO (aa P M.toNat mod).q L.length else 0
def Fb (P M : Int) (mod : Lz) (N : Int) (L : ZZ) : Int:=if aH P M mod N L=0 then pS (aa P M.toNat mod).q L.length else aH P M mod N L
theorem x7 {P M : Int} {mod : Lz} {N : Int} {L : ZZ} (hE : aH P M mod N L=0) : aU P M=((aa P M.toNat mod).q : Nat)/\(2 : Int)<=(aa P M.toNat mod).q/\((aa P M.toNat mod).q : Int)<=256:=by
 obtain ⟨m,hm,_,hq,_⟩:=tL (bL hE).1;subst hm;rw [Mm];rw [hq];have h0 : aU P m ≠ 0:=by intro h0;have h1:=(bL hE).1;unfold bQ bZ at h1;simp [h0] at h1
 obtain ⟨h1,h2,h3,h4,h5,h6⟩:=ik h0;refine ⟨rfl,?_,by omega⟩;rw [h6];have:=dF (show 1<=P by omega) (show 1<=(m : Int).toNat by omega);have e : P ^ 1=P:=by rw [M6,N0,OK]
 omega
theorem AB (P M : Int) (am : OA) (mn cm : Nat) (mod : Lz) (N : Int) (a : OA) (k c : Nat) (L : ZZ) (w : World) (hmod : Ints w am mn mod) (hi : cU w a k L) :
  Calls prog 56 #[.agg #[.int .i64 P,.int .i64 M,.slice am mn cm,.int .i64 N,.slice a k c]] w λe w' =>
   e = .returned (.tuple #[.int .i64 (Eo P M mod N L),.int .i64 (Fb P M mod N L)])/\Rs w w':=by
 have HCk : Hid (∀V,Rs w V->Calls prog 22 #[.agg #[.int .i64 P,.int .i64 M,.slice am mn cm,.int .i64 N,.slice a k c]] V λe w'=>e = .returned (.int .i64 (aH P M mod N L))/\Rs V w'):=λV hV=>by have h:=mf P M am mn cm mod N a k c L V (hmod.ah hV) (hi.ah hV) λh=>zX h;rw [vA] at h;exact h
 have hkl : L.length=k:=hi.len;go_enter func56,ntmps56;go_upto_region 1 with fail;obtain ⟨W,hW⟩ : ∃W : World,W=w.alloc (.cells #[.int .i64 P,.int .i64 M,.slice am mn cm,.int .i64 N,.slice a k c] 27):=⟨_,rfl⟩
 rw [<- hW];have hbW : Rs w W:=by rw [hW];exact aB _ _
 have x0 : bf W w.heap.size [.int .i64 P,.int .i64 M,.slice am mn cm,.int .i64 N,.slice a k c]:=by rw [hW];exact QS _ _ _ rfl
 have HX:=Z5 x0;have c0:=x0.cell 0 rfl;have c1:=x0.cell 1 rfl;have c2:=x0.cell 2 rfl;have c3:=x0.cell 3 rfl;have c4:=x0.cell 4 rfl;clear hW x0;by_cases hE : aH P M mod N L=0
 ·have hk256 : k<=256:=by rw [<- hkl];exact (eJ hE).choose_spec.2.2.2.1
  obtain ⟨ho,hq2,hq256⟩:=x7 hE;have HV : Hid (Eo P M mod N L=qO (aa P M.toNat mod).q k/\Fb P M mod N L=pS (aa P M.toNat mod).q k):=by show _/\_;unfold Eo Fb;rw [Mg hE,Mg hE,hkl];exact ⟨rfl,rfl⟩
  rw [hE] at HCk;have HOr : Hid (∀V,Calls prog 45 #[.agg #[.int .i64 P,.int .i64 M,.slice am mn cm]] V λe w'=>e = .returned (.int .i64 ((aa P M.toNat mod).q : Nat))/\Rs V w'):=λV=>by have h:=jz P M am mn cm V;rw [ho] at h;exact h
  generalize (aa P M.toNat mod).q=q at *;clear ho hE hkl;go_wp2_with (go_at_call 22;refine (HCk.out _ hbW).mono ?_;rintro e w3 ⟨rfl,hb3⟩;clear c0 c1 c2 c3 c4);have HS : Hid (∀V,Rs w3 V->V.cell? ⟨w.heap.size,0,none⟩=some (.int .i64 P)/\V.cell? ⟨w.heap.size,1,none⟩=some (.int .i64 M)/\V.cell? ⟨w.heap.size,2,none⟩=some (.slice am mn cm)/\V.cell? ⟨w.heap.size,4,none⟩=some (.slice a k c)/\Rs w3 V):=λV hV=>by have x3:=(HX.out.ah hb3).ah hV;exact ⟨x3.cell 0 rfl,x3.cell 1 rfl,x3.cell 2 rfl,x3.cell 4 rfl,hV⟩
  go_region_held3 (λV=>V.cell? ⟨w.heap.size,0,none⟩=some (.int .i64 P)/\V.cell? ⟨w.heap.size,1,none⟩=some (.int .i64 M)/\V.cell? ⟨w.heap.size,2,none⟩=some (.slice am mn cm)/\V.cell? ⟨w.heap.size,4,none⟩=some (.slice a k c)/\Rs w3 V)
   ((refine HS.out _ ?_;first | exact (Mi _ _).drew | (go_split_ands;assumption) | (go_split_ands;exact QQ (by assumption) (by assumption))))
   (first
    | (go_at_call 45;((with_reducible refine (HOr.out _).mono ?_);rintro e w4 ⟨rfl,hb4⟩))
    | (go_at_call 108;((with_reducible refine (GF (q : Int) k _ hq2 hq256 (by omega)).mono ?_);rintro e w5 ⟨rfl,rfl⟩)))
  all_goals go_wp2_with fail
  all_goals go_ret2
  all_goals exact ⟨gY HV.out.1.symm HV.out.2.symm,QQ (QQ hbW hb3) (by go_split_ands;assumption)⟩
 ·have HV : Hid (Eo P M mod N L=0/\Fb P M mod N L=aH P M mod N L):=by show _/\_;unfold Eo Fb;rw [Mh hE,Mh hE];exact ⟨rfl,rfl⟩
  generalize aH P M mod N L=z at *;have hz : (z != 0)=true:=by simpa using hE
  clear hE;go_wp2_with (go_at_call 22;refine (HCk.out _ hbW).mono ?_;rintro e w3 ⟨rfl,hb3⟩;clear c0 c1 c2 c3 c4);go_ret2;exact ⟨gY HV.out.1.symm HV.out.2.symm,QQ hbW hb3⟩
def wJ (lim P M : Int) (mod : Lz) (N : Int) (L : ZZ) : Int:=if Fb P M mod N L=0/\Eo P M mod N L<=lim then Eo P M mod N L else 0
theorem yQ (lim P M : Int) (am : OA) (mn cm : Nat) (mod : Lz) (N : Int) (a : OA) (k c : Nat) (L : ZZ) (w : World) (hmod : Ints w am mn mod) (hi : cU w a k L) :
  Calls prog 21 #[.agg #[.int .i64 P,.int .i64 M,.slice am mn cm,.int .i64 N,.slice a k c],.int .i64 lim] w λe w' =>
   e = .returned (.int .i64 (wJ lim P M mod N L))/\Rs w w':=by
 have HSz : Hid (∀V,Rs w V->Calls prog 56 #[.agg #[.int .i64 P,.int .i64 M,.slice am mn cm,.int .i64 N,.slice a k c]] V λe w'=>e = .returned (.tuple #[.int .i64 (Eo P M mod N L),.int .i64 (Fb P M mod N L)])/\Rs V w'):=λV hV =>
  AB P M am mn cm mod N a k c L V (hmod.ah hV) (hi.ah hV)
 have HC : Hid (wJ lim P M mod N L=if Fb P M mod N L=0/\Eo P M mod N L<=lim then Eo P M mod N L else 0):=rfl;generalize wJ lim P M mod N L=z at *;generalize Eo P M mod N L=v at *;generalize Fb P M mod N L=f at *;go_enter func21,ntmps21;go_upto_region 1 with fail;obtain ⟨W,hW⟩ : ∃W : World,W=w.alloc (.cells #[.int .i64 P,.int .i64 M,.slice am mn cm,.int .i64 N,.slice a k c] 27):=⟨_,rfl⟩
 rw [<- hW];have hbW : Rs w W:=by rw [hW];exact aB _ _
 have x0 : bf W w.heap.size [.int .i64 P,.int .i64 M,.slice am mn cm,.int .i64 N,.slice a k c]:=by rw [hW];exact QS _ _ _ rfl
 have c0:=x0.cell 0 rfl;have c1:=x0.cell 1 rfl;have c2:=x0.cell 2 rfl;have c3:=x0.cell 3 rfl;have c4:=x0.cell 4 rfl;clear hW x0;by_cases hf : f=0
 ·subst hf;by_cases hv : v<=lim
  ·have Hz : Hid (z=v):=by show _=_;rw [HC.out,Mg ⟨rfl,hv⟩]
   have hv' : decide (v > lim)=false:=by simpa using hv
   clear hv;go_wp2_with (go_at_call 56;refine (HSz.out _ hbW).mono ?_;rintro e w3 ⟨rfl,hb3⟩;clear c0 c1 c2 c3 c4);go_ret;exact ⟨aI Hz.out.symm,QQ hbW hb3⟩
  ·have Hz : Hid (z=0):=by show _=_;rw [HC.out,Mh λh=>hv h.2]
   have hv' : decide (v > lim)=true:=by simpa using hv
   clear hv;go_wp2_with (go_at_call 56;refine (HSz.out _ hbW).mono ?_;rintro e w3 ⟨rfl,hb3⟩;clear c0 c1 c2 c3 c4);go_ret;exact ⟨aI Hz.out.symm,QQ hbW hb3⟩
 ·have Hz : Hid (z=0):=by show _=_;rw [HC.out,Mh λh=>hf h.1]
  have hf' : (f != 0)=true:=by simpa using hf
  clear hf;go_wp2_with (go_at_call 56;refine (HSz.out _ hbW).mono ?_;rintro e w3 ⟨rfl,hb3⟩;clear c0 c1 c2 c3 c4);go_ret;exact ⟨aI Hz.out.symm,QQ hbW hb3⟩
theorem Jb {lim P M : Int} {mod : Lz} {N : Int} {L : ZZ} (h : wJ lim P M mod N L ≠ 0) : aH P M mod N L=0/\(((aa P M.toNat mod).q ^ L.length : Nat) : Int)<=lim/\wJ lim P M mod N L=(((aa P M.toNat mod).q ^ L.length : Nat) : Int):=by
 unfold wJ at h ⊢;split at h
 ·rename_i h1;obtain ⟨h2,h3⟩:=h1;have hE : aH P M mod N L=0:=by
   unfold Fb at h2;split at h2
   ·assumption
   ·exact h2
  unfold Fb at h2;rw [Mg hE] at h2;unfold pS at h2;have hle : ((aa P M.toNat mod).q : Int) ^ L.length<=65536:=by
   split at h2
   ·assumption
   ·omega
  have e : ((aa P M.toNat mod).q : Int) ^ L.length=(((aa P M.toNat mod).q ^ L.length : Nat) : Int):=by simp
  have hs : Eo P M mod N L=(((aa P M.toNat mod).q ^ L.length : Nat) : Int):=by unfold Eo;rw [Mg hE,(ry hle).1,e]
  rw [hs] at h3;refine ⟨hE,by omega,?_⟩;rw [Mg ⟨by unfold Fb;rw [Mg hE];exact (ry hle).2,by rw [hs];omega⟩,hs]
 ·exact absurd rfl h
end Go.Proofs.YtcfmiocdlcapoaaGreat
