import Derived.Test.YthglbncgemdcbaaGreatHE19
import Derived.Test.YthglbncgemdcbaaGreatHE20
import Derived.RangeFuncNested
import Derived.Test.YthglbncgemdcbaaGreatHE22
namespace Go.Proofs.YthglbncgemdcbaaGreat
set_option linter.all false
set_option maxRecDepth 100000
set_option maxHeartbeats 8000000
open Go.RowKit Go.Proofs.Tryz
theorem Et (O : aM) (L : Ll) (m : Nat) (C : jK) (d : Nat) (s z : LI) (T : Ll) (hd : s.length+d=C.W) (hr : dO O L m C s (ey O L m C s z)=true) (hT : T.length ≠ 65536) :
  iZ O L m C d s z T=fU (iZ O L m C (d - 1)) s z (if s.length<C.W then (ey O L m C s z).filter (λx=>decide (¬ x ∈ z)) else []) (T ++ [ey O L m C s z]):=by
 match d with
 | 0 =>
  have h1 : (if s.length<C.W then (ey O L m C s z).filter (λx=>decide (¬ x ∈ z)) else [])=[]:=GU (by omega)
  rw [h1,iZ,GV hr,GU hT]
  rfl
 | d+1 =>
  have h1 : (if s.length<C.W then (ey O L m C s z).filter (λx=>decide (¬ x ∈ z)) else [])=vn C s z (ey O L m C s z):=rfl
  rw [h1,iZ,GV hr,GU hT]
  rfl
theorem BT (O : aM) (L : Ll) (m : Nat) (C : jK) (d : Nat) (s z : LI) (T : Ll) (hr : dO O L m C s (ey O L m C s z)=false) : iZ O L m C d s z T=(11,[]):=by
 match d with
 | 0=>rw [iZ];exact GU (by rw [hr];simp)
 | d+1=>rw [iZ];exact GU (by rw [hr];simp)
theorem Ct (O : aM) (L : Ll) (m : Nat) (C : jK) (d : Nat) (s z : LI) (T : Ll) (hr : dO O L m C s (ey O L m C s z)=true) (hT : T.length=65536) : iZ O L m C d s z T=(8,[]):=by
 match d with
 | 0=>rw [iZ,GV hr,GV hT]
 | d+1=>rw [iZ,GV hr,GV hT]
theorem Dl {R R' : LA} (h : R <+: R') {i : Nat} (hi : i<R.length) : aJ R' i=aJ R i:=by obtain ⟨X,rfl⟩:=h;rw [eY (show i<(R ++ X).length by simp;omega),eY hi,KF]
theorem CW {R R' : Ll} (h : R <+: R') {i : Nat} (hi : i<R.length) : ai R' i=ai R i:=by obtain ⟨X,rfl⟩:=h;rw [aD (show i<(R ++ X).length by simp;omega),aD hi,KF]
theorem AN (R : LA) (r : OA × Nat) : aJ (R ++ [r]) R.length=r:=by rw [eY (by simp)];simp
theorem Av (R : Ll) (r : LI) : ai (R ++ [r]) R.length=r:=by rw [aD (by simp)];simp
structure vJ where
 ar : OA
 cr : Nat
 R : LA
 T : Ll
def vJ.J (pb : Nat) (σ : vJ) (x : Nat) : Prop:=x=pb\/bI σ.ar σ.R x
structure jJ (w : World) (B pb b : Nat) (P M : Int) (am : OA) (mn cm : Nat) (m : Nat) (a : OA) (n c : Nat) (ay : OA) (ny cy : Nat) (C : jK) (σ : vJ) : Prop where
 box : aO w pb (la b P M am mn cm m a n c ay ny cy C (.slice σ.ar σ.T.length σ.cr) 0)
 om : aP w B σ.ar σ.T.length σ.cr σ.R σ.T
 np : ¬ bI σ.ar σ.R pb
 ln : σ.T.length<=65536
theorem jJ.lt {w : World} {B pb b : Nat} {P M : Int} {am : OA} {mn cm m : Nat} {a : OA} {n c : Nat} {ay : OA} {ny cy : Nat} {C : jK} {σ : vJ} (h : jJ w B pb b P M am mn cm m a n c ay ny cy C σ) {x : Nat} (hx : σ.J pb x) : x<w.heap.size:=by
 rcases hx with rfl | hx
 ·exact h.box.1
 ·exact (h.om.lt x hx).2
theorem jJ.dG {w w' : World} {I : Nat->Prop} {B pb b : Nat} {P M : Int} {am : OA} {mn cm m : Nat} {a : OA} {n c : Nat} {ay : OA} {ny cy : Nat} {C : jK} {σ : vJ} (h : jJ w B pb b P M am mn cm m a n c ay ny cy C σ)
  (hM : aB w w' I I) (hI : ∀x,σ.J pb x->¬ I x) : jJ w' B pb b P M am mn cm m a n c ay ny cy C σ :=
 ⟨h.box.dG hM (hI _ (.inl rfl)),h.om.bq λx hx=>hM.block x (h.om.lt x hx).2 (hI x (.inr hx)),h.np,h.ln⟩
theorem jJ.af {w w' : World} {B pb b : Nat} {P M : Int} {am : OA} {mn cm m : Nat} {a : OA} {n c : Nat} {ay : OA} {ny cy : Nat} {C : jK} {σ : vJ} (h : jJ w B pb b P M am mn cm m a n c ay ny cy C σ)
  (hM : Mv w w') : jJ w' B pb b P M am mn cm m a n c ay ny cy C σ:=h.dG (I:=λ_=>False) (L4 hM _) λ_ _ h=>h
def uq (w0 : World) (pb b : Nat) (P M : Int) (am : OA) (mn cm : Nat) (m : Nat) (a : OA) (n c : Nat) (ay : OA) (ny cy : Nat) (C : jK) (σ : vJ) (V : Int × Ll) (w : World) (e : Ending) (w' : World) : Prop :=
 ∃σ' : vJ,jJ w' w0.heap.size pb b P M am mn cm m a n c ay ny cy C σ'/\σ.R <+: σ'.R/\σ.T <+: σ'.T/\aB w w' (σ.J pb) (σ'.J pb)/\e = .returned (.int .i64 V.1)/\(V.1=0->σ'.T=V.2)
theorem jJ.push {V w5 : World} {B pb b : Nat} {P M : Int} {am : OA} {mn cm m : Nat} {a : OA} {n c : Nat} {ay : OA} {ny cy : Nat} {C : jK} {σ : vJ} (h : jJ V B pb b P M am mn cm m a n c ay ny cy C σ) (hB : B<=V.heap.size)
  {a3 : OA} {c3 : Nat} {t : LI} (hr : V.ownsRow B 3 1 (.slice a3 t.length c3) t.length (t.map (Value.int .i64))) (hra : a3 ≠ none->¬ σ.J pb (ablk a3)) (hT : σ.T.length<65536) {o : Obj}
  {a5 : OA} {c5 : Nat} (hown : w5.ownsRow B 22 1 (.slice a5 (σ.T.length+1) c5) (σ.T.length+1) (List.zipWith jn σ.R σ.T ++ [.slice a3 t.length c3])) (hg : (V.alloc o).grownBy w5 (Value.slice σ.ar σ.T.length σ.cr).ownBlock)
  (hap : ∀b,b<(V.alloc o).heap.size->eA σ.ar b->eA a5 b) :
  jJ (w5.setCell ⟨pb,10,none⟩ (.slice a5 (σ.T.length+1) c5)) B pb b P M am mn cm m a n c ay ny cy C ⟨a5,c5,σ.R ++ [(a3,c3)],σ.T ++ [t]⟩ /\
   aB V (w5.setCell ⟨pb,10,none⟩ (.slice a5 (σ.T.length+1) c5)) (λx=>σ.J pb x\/(a3 ≠ none/\x=ablk a3)) ((⟨a5,c5,σ.R ++ [(a3,c3)],σ.T ++ [t]⟩ : vJ).J pb):=by
 have hal:=an V o;have hO1 : aP (V.alloc o) B σ.ar σ.T.length σ.cr σ.R σ.T:=h.om.af hal;have hra2 : a3 ≠ none->¬ bI σ.ar σ.R (ablk a3):=λh0 hh=>hra h0 (.inr hh);have hO5:=Mi hO1 (bj hr hal) hra2 hown hg hap;have hnp : σ.ar=none\/ablk σ.ar ≠ pb:=by
  by_cases e : σ.ar=none
  ·exact .inl e
  ·exact .inr λe2=>h.np (.inl ⟨e,e2.symm⟩)
 have hbox5 : aO w5 pb (la b P M am mn cm m a n c ay ny cy C (.slice σ.ar σ.T.length σ.cr) 0):=(h.box.af hal).dG (Mn (K:=λx=>σ.ar ≠ none/\x=ablk σ.ar) hg λh0=>⟨h0,rfl⟩) λ⟨h0,e⟩=>by
  rcases hnp with h1 | h1
  ·exact h0 h1
  ·exact h1 e.symm
 have hne : ¬ bI a5 (σ.R ++ [(a3,c3)]) pb:=λhh=>by
  rcases bI.push hO1 hap hh with h1 | ⟨h1,h2⟩ | h1
  ·exact h.np h1
  ·exact hra h1 (.inl h2.symm)
  ·have h2:=h.box.1;have h3:=hal.size;omega
 refine ⟨⟨?_,?_,hne,by simp;omega⟩,?_⟩
 ·have h1:=hbox5.setCell 10 (.slice a5 (σ.T.length+1) c5);show aO _ pb (la b P M am mn cm m a n c ay ny cy C (.slice a5 (σ.T ++ [t]).length c5) 0);rw [H5,Ij];exact h1
 ·show aP _ B a5 (σ.T ++ [t]).length c5 _ _;rw [H5,Ij];exact hO5.bq λx hx=>Ia _ _ _ _ λe=>hne (by have e' : x=pb:=e;rw [<- e'];exact hx)
 ·have hM0 : aB V (V.alloc o) (λx=>σ.J pb x\/(a3 ≠ none/\x=ablk a3)) (λx=>σ.J pb x\/(a3 ≠ none/\x=ablk a3)):=L4 hal _;have hM1 : aB (V.alloc o) w5 (λx=>σ.J pb x\/(a3 ≠ none/\x=ablk a3)) (λx=>σ.J pb x\/(a3 ≠ none/\x=ablk a3)):=Mn hg λh0=>.inl (.inr (.inl ⟨h0,rfl⟩));have hM2:=hM0.trans hM1;have hb0 : Below 0 w5 (w5.setCell ⟨pb,10,none⟩ (.slice a5 (σ.T.length+1) c5)):=(GS 0 w5).setCell (G0 _) _;refine ⟨hb0.os.trans hM2.os,hb0.tape.trans hM2.tape,hb0.output.trans hM2.output,H7 hM2.size hb0.size,λx hx hI=>?_,λx hx=>?_⟩
  ·exact (Ia _ _ _ _ λe=>hI (.inl (.inl e))).trans (hM2.block x hx hI)
  ·rcases hx with hx | hx
   ·exact .inl (.inl (.inl hx))
   ·rcases bI.push hO1 hap hx with h1 | h1 | h1
    ·exact .inl (.inl (.inr h1))
    ·exact .inl (.inr h1)
    ·exact .inr (H7 hal.size h1)
theorem jJ.wU {V w5 : World} {B pb b : Nat} {P M : Int} {am : OA} {mn cm m : Nat} {a : OA} {n c : Nat} {ay : OA} {ny cy : Nat} {C : jK} {σ : vJ} (h : jJ V B pb b P M am mn cm m a n c ay ny cy C σ)
  {o : Obj} (hg : (V.alloc o).grownBy w5 (Value.slice σ.ar σ.T.length σ.cr).ownBlock) : aO w5 pb (la b P M am mn cm m a n c ay ny cy C (.slice σ.ar σ.T.length σ.cr) 0) :=
 (h.box.af (an V o)).dG (Mn (K:=λx=>σ.ar ≠ none/\x=ablk σ.ar) hg λh0=>⟨h0,rfl⟩) λ⟨h0,e⟩=>h.np (.inl ⟨h0,e⟩)
theorem aB.DZ {w V Z : World} {I I' A : Nat->Prop} (h : Mv w V) (g : aB V Z (λx=>I x\/A x) I') (hA : ∀x,A x->w.heap.size<=x) : aB w Z I I' :=
 ⟨g.os.trans h.os,g.tape.trans h.tape,g.output.trans h.output,H7 h.size g.size,λx hx hI=>(g.block x (It hx h.size) λhh=>by
  rcases hh with hh | hh
  ·exact hI hh
  ·have:=hA x hh;omega).trans (h.block x hx),λx hx=>by
  rcases g.grow x hx with hh | hh
  ·rcases hh with hh | hh
   ·exact .inl hh
   ·exact .inr (hA x hh)
  ·exact .inr (H7 h.size hh)⟩
theorem n8 {w0 : World} {b : Nat} {G : bX} {a : OA} {n : Nat} {L : Ll} {m : Nat} {ay : OA} {ny : Nat} {C : jK} (pb : Nat) (P M : Int) (am : OA) (mn cm c cy : Nat)
  (E : xz w0 b G a n L m ay ny C) (hpb : w0.heap.size<=pb) :
  ∀(d : Nat) (w : World) (σ : vJ) (sa : OA) (ns cs : Nat) (s : LI) (az : OA) (nz cz : Nat) (z : LI),ns+d=C.W->nz<=64->Mv w0 w->jJ w w0.heap.size pb b P M am mn cm m a n c ay ny cy C σ ->
   Ints w sa ns s->Ints w az nz z->(0<ns->¬ σ.J pb (ablk sa))->(0<nz->¬ σ.J pb (ablk az))->z.Nodup->(∀x ∈ z,0<=x/\x<(m : Int)) ->
   Calls prog 184 #[.pointer (some ⟨pb,0,none⟩),.slice sa ns cs,.slice az nz cz] w (uq w0 pb b P M am mn cm m a n c ay ny cy C σ (iZ G.ops L m C d s z σ.T) w)
 | d,w,σ,sa,ns,cs,s,az,nz,cz,z,hd,hnz,hb,hB,hs,hz,hsp,hzp,hzn,hzb=>by
  have IH : Hid (∀d',d'+1=d->∀(w : World) (σ : vJ) (sa : OA) (ns cs : Nat) (s : LI) (az : OA) (nz cz : Nat) (z : LI),ns+d'=C.W->nz<=64->Mv w0 w->jJ w w0.heap.size pb b P M am mn cm m a n c ay ny cy C σ ->
   Ints w sa ns s->Ints w az nz z->(0<ns->¬ σ.J pb (ablk sa))->(0<nz->¬ σ.J pb (ablk az))->z.Nodup->(∀x ∈ z,0<=x/\x<(m : Int)) ->
   Calls prog 184 #[.pointer (some ⟨pb,0,none⟩),.slice sa ns cs,.slice az nz cz] w (uq w0 pb b P M am mn cm m a n c ay ny cy C σ (iZ G.ops L m C d' s z σ.T) w)):=λd' hd'=>by subst hd';exact n8 pb P M am mn cm c cy E hpb d'
  have hm6:=E.m6;have hw6:=E.w6;have HE:=Z5 E;have Hsl:=Z5 hs.len;have Hzl:=Z5 hz.len;have p4:=hB.box.cell 4 rfl;have p7:=hB.box.cell 7 rfl;have p8:=hB.box.cell 8 rfl;obtain ⟨RF,hRF⟩ : ∃RF,iZ G.ops L m C d s z σ.T=RF:=⟨_,rfl⟩
  rw [hRF];have HRF:=Z5 hRF;have HB:=Z5 hB;have Hz:=Z5 (Hi hzn hzb);obtain ⟨mo,hmo⟩ : ∃mo,(if C.cos=true then m else C.M)=mo:=⟨_,rfl⟩
  have Hmo:=Z5 hmo;obtain ⟨bc,hbc⟩ : ∃bc,C.cos=bc:=⟨_,rfl⟩
  rw [hbc] at p7;have Hbc:=Z5 hbc;clear hbc;have hol:=B6 m s z;have horng : ∀j,j<(gP m s z).length->0<=nth (gP m s z) j/\nth (gP m s z) j<m:=λj hj=>by
   rcases vf (aH hj) with h1 | h1
   ·exact hzb _ h1
   ·exact ⟨h1.1,h1.2.1⟩
  have Horng:=Z5 horng;have HO : Hid (Calls prog 232 #[.pointer (some ⟨pb,0,none⟩),.slice sa ns cs,.slice az nz cz] w (bS w (gP m s z))):=lh pb m sa ns cs s az nz cz z w p4 hs hz (by omega) (by omega);clear hRF hB hzn hzb E hmo horng;go_enter func184,ntmps184;go_upto_if 16 with fail;go_cut [7] (λv wx=>v = .int .i64 mo/\w=wx);case first =>
   cases bc
   ·have Hm2 : Hid (mo=C.M):=by show _=_;rw [<- Hmo.out,Hbc.out];rfl
    go_wp2_with fail
    go_meet
    exact ⟨by rw [Hm2.out],rfl⟩
   ·have Hm2 : Hid (mo=m):=by show _=_;rw [<- Hmo.out,Hbc.out];rfl
    go_wp2_with fail
    go_meet
    exact ⟨by rw [Hm2.out],rfl⟩
  obtain ⟨rfl,rfl⟩:=hcut;go_wp2_with fail;refine HO.out.mono ?_;rintro e w2 ⟨a2,c2,rfl,hown2,hb2⟩;have hB2:=HB.out.af hb2;have hGr:=jG pb a n c L m a2 _ c2 (gP m s z) mo (hB2.box.cell 0 rfl) (hB2.box.cell 5 rfl) (HE.out.g.af (hb.trans (hb2.mono hb.size))) (HE.out.jX.af (hb.trans (hb2.mono hb.size))) HE.out.rws (L0 hown2).1 Horng.out HE.out.n6 (by rw [Hzl.out] at hol;omega);have hgl:=zJ (O:=G.ops) (L:=L) (Q:=gP m s z) (most:=mo);have Hcs : Hid (ey G.ops L m C s z=cJ (vu G.ops L (gP m s z) mo)):=by show _=_;rw [ey,Hmo.out]
  have hcn : (ey G.ops L m C s z).Nodup:=yT Hz.out.1;have hcb : ∀x ∈ ey G.ops L m C s z,0<=x/\x<(m : Int):=λx hx=>by
   rcases vf (zJ x (BY.1 hx)) with h1 | h1
   ·exact Hz.out.2 x h1
   ·exact ⟨h1.1,h1.2.1⟩
  have hcl : (ey G.ops L m C s z).length<=64:=H7 (qs hcn hcb) hm6;rw [Hcs.out,eX] at hcl;have Hcn:=Z5 (Hi hcn hcb);unfold bS at hGr;obtain ⟨gl,hgle⟩ : ∃gl,(vu G.ops L (gP m s z) mo).length=gl:=⟨_,rfl⟩
  have Hgl:=Z5 hgle;rw [hgle] at hGr hcl;obtain ⟨t,hte⟩ : ∃t,ey G.ops L m C s z=t:=⟨_,rfl⟩
  have Htl : Hid (t.length=gl):=by show _=_;rw [<- hte,Hcs.out,eX,hgle]
  have Hcs2 : Hid (cJ (vu G.ops L (gP m s z) mo)=t):=by show _=_;rw [<- hte,Hcs.out]
  rw [hte] at Hcn;have Hte:=Z5 hte;clear hcn hcb hgle hgl hte Hcs;have HGr:=Z5 hGr;clear hGr;generalize (gP m s z).length=ol at *;go_wp2_with fail;refine HGr.out.mono ?_;rintro e w3 ⟨a3,c3,rfl,hown3,hb3⟩;have hbw3:=LY hb2 hb3;have hown3':=bd hown3 (B':=w.heap.size) hb2.size;have HSo:=Z5 (qh w.heap.size a3 gl c3 _ w3 hown3' hbw3.size (by omega));rw [Hcs2.out] at HSo;clear hown3 hown3';go_wp2_with fail;refine HSo.out.mono ?_;rintro e w4 ⟨rfl,hown4,_,hb4⟩;have hbw4 : Mv w w4:=hbw3.trans hb4;have hB4:=HB.out.af hbw4;have ht4:=(L0 hown4).1;have HRt:=Z5 (nY (c:=c) (cy:=cy) pb P M am mn cm _ 0 sa ns cs s a3 gl c3 t HE.out (hb.trans (hbw4.mono hb.size)) hB4.box (hs.af hbw4) ht4 (by omega));obtain ⟨rr,hrr⟩ : ∃rr,dO G.ops L m C s t=rr:=⟨_,rfl⟩
  rw [hrr] at HRt;have Hrr : Hid (dO G.ops L m C s (ey G.ops L m C s z)=rr):=by show _=_;rw [Hte.out];exact hrr
  clear hrr;go_wp2_with fail;refine HRt.out.mono ?_;rintro e w5 ⟨rfl,hb5⟩;have hbw5 : Mv w w5:=LY hbw4 hb5;have hB5:=HB.out.af hbw5;cases rr
  ·have HF : Hid (RF=(11,[])):=by show _=_;rw [<- HRF.out,BT _ _ _ _ _ _ _ _ Hrr.out]
   go_wp2_with fail;go_ret;exact ⟨σ,hB5,I8,I8,L4 hbw5 _,by rw [HF.out];rfl,λh=>by rw [HF.out] at h;cases h⟩
  have p10:=hB5.box.cell 10 rfl;by_cases hbig : σ.T.length=65536
  ·have HF : Hid (RF=(8,[])):=by show _=_;rw [<- HRF.out,Ct _ _ _ _ _ _ _ _ Hrr.out hbig]
   have hbg : ((σ.T.length : Int) == 65536)=true:=by simp;omega
   clear hbig;go_wp2_with fail;go_ret;exact ⟨σ,hB5,I8,I8,L4 hbw5 _,by rw [HF.out];rfl,λh=>by rw [HF.out] at h;cases h⟩
  have hbg : ((σ.T.length : Int) == 65536)=false:=by simp;omega
  have HF : Hid (RF=fU (iZ G.ops L m C (d - 1)) s z (if ns<C.W then t.filter (λx=>decide (¬ x ∈ z)) else []) (σ.T ++ [t])):=by show _=_;rw [<- HRF.out,Et _ _ _ _ _ _ _ _ (by rw [Hsl.out];exact hd) Hrr.out hbig,Hsl.out,Hte.out]
  have hTl:=hB5.ln;have hTlt : σ.T.length<65536:=by omega
  have hown5:=bj hown4 hb5;have f10:=hB5.box.frozen 10;have hcn:=bm w5 (.slice a3 gl c3) 22;have hbn:=an w5 (.cells #[.slice a3 gl c3] 22);have hsz5:=hbw5.size;have hszb:=hb.size;clear hbig;go_wp2_with (at_builtin;refine aU rfl _ _ 25 22 rfl (.slice none 0 0) 24 underlying25 ew rfl w0.heap.size σ.ar σ.T.length σ.cr _ rfl ((hB5.om.own).alloc _) ⟨w5.heap.size,0,none⟩ 1 (.slice a3 gl c3) rfl hcn rfl (by omega) (by unfold maxLen;omega) (by simp;omega) ?_;intro a6 c6 w6 hown6 hgr6 hap6;have q10:=(hB5.wU hgr6).cell 10 rfl;have qf10:=(hB5.wU hgr6).frozen 10);obtain rfl:=Htl.out;have hra : a3 ≠ none->¬ σ.J pb (ablk a3):=λh0 hj=>by have h1:=HB.out.lt hj;have h2:=(aS hown5 h0).1;omega
  obtain ⟨hB7,hM7⟩:=jJ.push hB5 (H7 hszb hsz5) (bd hown5 hszb) hra hTlt hown6 hgr6 hap6;obtain ⟨Z,hZ⟩ : ∃Z : World,Z=w6.setCell ⟨pb,10,none⟩ (.slice a6 (σ.T.length+1) c6):=⟨_,rfl⟩
  rw [<- hZ] at hB7 hM7;have hB05 : Mv w0 w5:=hb.trans (hbw5.mono hszb);have hbZ : Mv w0 Z:=hB05.trans (hM7.below (λx hx=>by
   rcases hx with (hx | hx) | ⟨h1,h2⟩
   ·rw [hx];exact hpb
   ·exact (hB5.om.lt x hx).1
   ·rw [h2];exact H7 hszb (aS hown5 h1).1) hB05.size)
  have hMwZ : aB w Z (σ.J pb) ((⟨a6,c6,σ.R ++ [(a3,c3)],σ.T ++ [t]⟩ : vJ).J pb):=aB.DZ hbw5 hM7 λx hx=>by rw [hx.2];exact (aS hown5 hx.1).1
  have hsZ:=hs.dG hMwZ hsp;have hzZ:=hz.dG hMwZ hzp;have hsJ : 0<ns->¬ (⟨a6,c6,σ.R ++ [(a3,c3)],σ.T ++ [t]⟩ : vJ).J pb (ablk sa):=λh0=>hMwZ.not (hs.lt h0) (hsp h0);have hRl : σ.R.length=σ.T.length:=hB5.om.rl;have hszZ:=hMwZ.size;have HCh : Hid (Calls prog 234 #[.pointer (some ⟨pb,0,none⟩),.slice sa ns cs,.slice az nz cz,.slice a3 t.length c3,.func (.func 184) #[.pointer (some ⟨pb,0,none⟩)] #[]] Z
    (uq w0 pb b P M am mn cm m a n c ay ny cy C σ RF w)):=by
   refine (oE (σ:=vJ) (λV τ=>Mv w0 V/\jJ V w0.heap.size pb b P M am mn cm m a n c ay ny cy C τ/\Ints V sa ns s/\(0<ns->¬ τ.J pb (ablk sa))/\(σ.R ++ [(a3,c3)]) <+: τ.R/\(σ.T ++ [t]) <+: τ.T) (λτ x=>τ.J pb x) (λτ=>τ.T)
    (λs z T=>iZ G.ops L m C (d - 1) s z T) pb C.W sa ns cs s az nz cz z a3 t.length c3 t Z ⟨a6,c6,σ.R ++ [(a3,c3)],σ.T ++ [t]⟩ ⟨hbZ,hB7,hsZ,hsJ,I8,I8⟩ ?_ (hB7.box.cell 9 rfl) ?_ (λV τ x h hx=>h.2.1.lt hx) hzZ Hcn.out.1 (by omega) (by omega) (by omega) (by omega) ?_).mono ?_
   ·rintro V1 V2 τ ⟨e1,e2,e3,e4,e5,e6⟩ hM;refine ⟨e1.trans (hM.below (λx hx=>H7 hbZ.size hx.1) e1.size),e2.dG hM λx hx hh=>hh.2 hx,e3.dG hM λhn hx=>?_,e4,e5,e6⟩;have h1:=hsZ.lt hn;omega
   ·rintro V τ ⟨e1,e2,e3,e4,e5,e6⟩;refine ⟨e3,?_⟩;have hlt : σ.T.length<τ.T.length:=by obtain ⟨X,hX⟩:=e6;rw [<- hX];simp <;> omega
    have h1:=e2.om.ints hlt;rw [CW e6 (by simp),Av,<- hRl,Dl e5 (by simp),AN] at h1;exact h1
   ·intro hlt V1 τ a1 c1 a2 c2 j zc hj hzc hnj hI hM h1 h2 h3 h4;obtain ⟨d',hd'⟩ : ∃d',d'+1=d:=⟨d - 1,by omega⟩
    have hzl : zc.length<=64/\zc.Nodup/\∀x ∈ zc,0<=x/\x<(m : Int):=by
     have hsub : ∀x ∈ (t.take j).filter (λx=>decide (¬ x ∈ z)),x ∈ t/\¬ x ∈ z:=λx hx=>by rw [JL] at hx;exact ⟨I1 hx.1,by simpa using hx.2⟩
     have hnd : zc.Nodup:=by rw [hzc,Jg];refine ⟨Hz.out.1,Kh _ (JZ (KA _ _) Hcn.out.1),λx hx y hy e=>?_⟩;exact (hsub y hy).2 (e ▸ hx)
     have hbd : ∀x ∈ zc,0<=x/\x<(m : Int):=λx hx=>by
      rw [hzc] at hx;rcases List.mem_append.1 hx with hx | hx
      ·exact Hz.out.2 x hx
      ·exact Hcn.out.2 x (hsub x hx).1
     exact ⟨H7 (qs hnd hbd) hm6,hnd,hbd⟩
    have h5:=IH.out d' hd' V1 τ a1 (ns+1) c1 (s ++ [nth t j]) a2 zc.length c2 zc (by omega) hzl.1 hI.1 hI.2.1 h1 h2 (λ_=>h3) (λh0=>h4 (by intro e;have:=h2.pl h0;rw [e] at this;cases this)) hzl.2.1 hzl.2.2;have hdd : d - 1=d':=by omega
    refine h5.mono ?_;rintro e V2 ⟨τ',g1,g2,g3,g4,g5,g6⟩;rw [hdd];exact ⟨τ',⟨hI.1.trans (g4.below (λx hx=>by
      rcases hx with hx | hx
      ·rw [hx];exact hpb
      ·exact (hI.2.1.om.lt x hx).1) hI.1.size),g1,hI.2.2.1.dG g4 hI.2.2.2.1,λhn=>g4.not (hI.2.2.1.lt hn) (hI.2.2.2.1 hn),hI.2.2.2.2.1.trans g2,hI.2.2.2.2.2.trans g3⟩,g4,g5,g6⟩
   ·rintro e V2 ⟨τ',g1,g2,g3,g4⟩;rw [<- HF.out] at g3 g4;exact ⟨τ',g1.2.1,(Ks _ _).trans g1.2.2.2.2.1,(Ks _ _).trans g1.2.2.2.2.2,hMwZ.trans g2,g3,g4⟩
  rw [<- hZ];clear IH HO HSo HGr HRt hown4 hown5 hown6 hgr6 hap6 hB7 hM7 hZ hMwZ hsZ hzZ HF;go_wp2_with fail;refine HCh.out.mono ?_;rintro e w7 ⟨τ',g1,g2,g3,g4,rfl,g6⟩;go_wp2_with fail;go_ret;exact ⟨τ',g1,g2,g3,g4,rfl,g6⟩
theorem BH (P M : Int) (am : OA) (mn cm : Nat) (mod : LI) (am' : OA) (mn' cm' : Nat) (w : World) (h : Ints w am mn mod) (h' : Ints w am' mn' mod) :
  Calls prog 228 #[.agg #[.int .i64 P,.int .i64 M,.slice am mn cm],.agg #[.int .i64 P,.int .i64 M,.slice am' mn' cm']] w λe w'=>e = .returned (.bool true)/\Mv w w':=by
 obtain rfl : mn=mn':=by have:=h.len;have:=h'.len;omega
 have hpl:=h.pl;have hpl':=h'.pl;have hmax:=h.max;unfold maxLen at hmax;go_enter func228,ntmps228;go_upto_region 1 with fail;obtain ⟨W,hW⟩ : ∃W : World,W=(w.alloc (.cells #[.int .i64 P,.int .i64 M,.slice am mn cm] 24)).alloc (.cells #[.int .i64 P,.int .i64 M,.slice am' mn cm'] 24):=⟨_,rfl⟩
 rw [<- hW];have hbW : Mv w W:=by rw [hW];exact du _ _ _
 have x0 : aO W w.heap.size [.int .i64 P,.int .i64 M,.slice am mn cm]:=by rw [hW];exact (LZ _ _ _ rfl).alloc _
 have y0 : aO W (w.heap.size+1) [.int .i64 P,.int .i64 M,.slice am' mn cm']:=by rw [hW];exact LZ _ _ _ (by simp)
 have hh:=h.af hbW;have hh':=h'.af hbW;have c0:=x0.cell 0 rfl;have c1:=x0.cell 1 rfl;have c2:=x0.cell 2 rfl;have d0:=y0.cell 0 rfl;have d1:=y0.cell 1 rfl;have d2:=y0.cell 2 rfl;clear hW x0 y0;have hPP : (P != P)=false:=by simp
 have hMM : (M != M)=false:=by simp
 have hnn : ((mn : Int) != mn)=false:=by simp
 go_wp2_with fail;clear hPP hMM hnn;go_loop [31] (λiv=>∃k : Nat,k<=mn/\iv = .int .i64 k) (λiv=>mn - (intOf iv).toNat);case atStart=>exact ⟨0,G0 _,rfl⟩
 case round =>
  obtain ⟨k,hk,rfl⟩:=hrel
  by_cases hlt : k<mn
  ·have cc:=hh.cell k hlt
   have dd:=hh'.cell k hlt
   have hne : (nth mod k != nth mod k)=false:=by simp
   go_wp2_with fail
   go_round
   case rel=>exact ⟨k+1,by omega,by go_num⟩
   case measure=>simp [intOf] <;> omega
  ·obtain rfl : k=mn:=by omega
   go_wp2_with fail
   go_ret
   exact ⟨rfl,hbW⟩
theorem DD (P M : Int) (am : OA) (mn cm : Nat) (mod : LI) (m : Nat) (a : OA) (n c : Nat) (L : Ll) (am' : OA) (mn' cm' : Nat) (a' : OA) (n' c' : Nat) (L' : Ll) (w : World)
  (hmod : Ints w am mn mod) (hi : bC w a n L) (hmod' : Ints w am' mn' mod) (hi' : bC w a' n' L') (hE : aG P M mod m L=0) (hE' : aG P M mod m L'=0) :
  Calls prog 180 #[.agg #[.int .i64 P,.int .i64 M,.slice am mn cm,.int .i64 m,.slice a n c],.agg #[.int .i64 P,.int .i64 M,.slice am' mn' cm',.int .i64 m,.slice a' n' c']] w λe w'=>e = .returned (.int .i64 0)/\Mv w w':=by
 have HC1 : Hid (∀V,Mv w V->Calls prog 88 #[.agg #[.int .i64 P,.int .i64 M,.slice am mn cm,.int .i64 m,.slice a n c]] V λe w'=>e = .returned (.int .i64 0)/\Mv V w'):=λV hV=>by have h:=b8 P M am mn cm mod m a n c L V (hmod.af hV) (hi.af hV);rw [hE] at h;exact h
 have HC2 : Hid (∀V,Mv w V->Calls prog 88 #[.agg #[.int .i64 P,.int .i64 M,.slice am' mn' cm',.int .i64 m,.slice a' n' c']] V λe w'=>e = .returned (.int .i64 0)/\Mv V w'):=λV hV=>by have h:=b8 P M am' mn' cm' mod m a' n' c' L' V (hmod'.af hV) (hi'.af hV);rw [hE'] at h;exact h
 have HSm : Hid (∀V,Mv w V->Calls prog 228 #[.agg #[.int .i64 P,.int .i64 M,.slice am mn cm],.agg #[.int .i64 P,.int .i64 M,.slice am' mn' cm']] V λe w'=>e = .returned (.bool true)/\Mv V w'):=λV hV =>
  BH P M am mn cm mod am' mn' cm' V (hmod.af hV) (hmod'.af hV)
 clear hmod hi hmod' hi' hE hE';go_enter func180,ntmps180;go_upto_region 1 with fail;obtain ⟨W,hW⟩ : ∃W : World,W=(w.alloc (.cells #[.int .i64 P,.int .i64 M,.slice am mn cm,.int .i64 m,.slice a n c] 27)).alloc (.cells #[.int .i64 P,.int .i64 M,.slice am' mn' cm',.int .i64 m,.slice a' n' c'] 27):=⟨_,rfl⟩
 rw [<- hW];have hbW : Mv w W:=by rw [hW];exact du _ _ _
 have x0 : aO W w.heap.size [.int .i64 P,.int .i64 M,.slice am mn cm,.int .i64 m,.slice a n c]:=by rw [hW];exact (LZ _ _ _ rfl).alloc _
 have y0 : aO W (w.heap.size+1) [.int .i64 P,.int .i64 M,.slice am' mn' cm',.int .i64 m,.slice a' n' c']:=by rw [hW];exact LZ _ _ _ (by simp)
 have HS : Hid (∀V,Mv W V->V.cell? ⟨w.heap.size,0,none⟩=some (.int .i64 P)/\V.cell? ⟨w.heap.size,1,none⟩=some (.int .i64 M)/\V.cell? ⟨w.heap.size,2,none⟩=some (.slice am mn cm)/\V.cell? ⟨w.heap.size,3,none⟩=some (.int .i64 m)/\V.cell? ⟨w.heap.size,4,none⟩=some (.slice a n c) /\
   V.cell? ⟨w.heap.size+1,0,none⟩=some (.int .i64 P)/\V.cell? ⟨w.heap.size+1,1,none⟩=some (.int .i64 M)/\V.cell? ⟨w.heap.size+1,2,none⟩=some (.slice am' mn' cm')/\V.cell? ⟨w.heap.size+1,3,none⟩=some (.int .i64 m)/\V.cell? ⟨w.heap.size+1,4,none⟩=some (.slice a' n' c')):=λV hV=>by have x1:=x0.af hV;have y1:=y0.af hV;exact ⟨x1.cell 0 rfl,x1.cell 1 rfl,x1.cell 2 rfl,x1.cell 3 rfl,x1.cell 4 rfl,y1.cell 0 rfl,y1.cell 1 rfl,y1.cell 2 rfl,y1.cell 3 rfl,y1.cell 4 rfl⟩
 clear hW x0 y0;obtain ⟨c0,c1,c2,c3,c4,d0,d1,d2,d3,d4⟩:=HS.out W (GS _ _);have HbW:=Z5 hbW;clear hbW;go_wp2_with fail;refine (HC1.out W HbW.out).mono ?_;rintro e w1 ⟨rfl,hb1⟩;have hF1:=LY HbW.out hb1;clear c0 c1 c2 c3 c4 d0 d1 d2 d3 d4;obtain ⟨c0,c1,c2,c3,c4,d0,d1,d2,d3,d4⟩:=HS.out w1 hb1;go_wp2_with fail;refine (HC2.out w1 hF1).mono ?_;rintro e w2 ⟨rfl,hb2⟩;have hF2:=LY hF1 hb2;have hb12:=LY hb1 hb2;clear c0 c1 c2 c3 c4 d0 d1 d2 d3 d4;obtain ⟨c0,c1,c2,c3,c4,d0,d1,d2,d3,d4⟩:=HS.out w2 hb12;have hmm : ((m : Int) != m)=false:=by simp
 go_wp2_with (go_at_call 228;refine (HSm.out w2 hF2).mono ?_;rintro e w3 ⟨rfl,hb3⟩;obtain ⟨_,_,_,e3,_,_,_,_,g3,_⟩:=HS.out w3 (LY hb12 hb3);have hF3:=LY hF2 hb3);go_ret;exact ⟨rfl,hF3⟩
def pW (P M : Int) (mod : LI) (m : Nat) (a : OA) (n c : Nat) (L : Ll) (w : World) (e : Ending) (w' : World) : Prop :=
 ∃b ap cp v2,e = .returned (.tuple #[.agg #[.pointer (some ⟨b,0,none⟩),.int .i64 m,.slice a n c,.slice ap (bh (ah P M.toNat mod) L m).length cp],v2,.int .i64 0]) /\
  (∃(b2 : Nat) (m2 : Int) (a2 : OA) (n2 c2 : Nat) (ap2 : OA) (k2 cp2 : Nat),v2 = .agg #[.pointer (some ⟨b2,0,none⟩),.int .i64 m2,.slice a2 n2 c2,.slice ap2 k2 cp2])/\dz w' b (ah P M.toNat mod)/\Ints w' ap (bh (ah P M.toNat mod) L m).length (bh (ah P M.toNat mod) L m)/\Mv w w'
theorem Dx (P M : Int) (am : OA) (mn cm : Nat) (mod : LI) (m : Nat) (a : OA) (n c : Nat) (L : Ll) (a' : OA) (n' c' : Nat) (L' : Ll) (w : World)
  (hmod : Ints w am mn mod) (hi : bC w a n L) (hi' : bC w a' n' L') (hE : db P M mod m L=0) (hE' : db P M mod m L'=0) :
  Calls prog 229 #[.agg #[.int .i64 P,.int .i64 M,.slice am mn cm],.agg #[.int .i64 m,.slice a n c],.agg #[.int .i64 m,.slice a' n' c']] w (pW P M mod m a n c L w):=by
 have HO : Hid (∀V a n c L,Mv w V->bC V a n L->db P M mod m L=0->Calls prog 190 #[.agg #[.int .i64 P,.int .i64 M,.slice am mn cm],.agg #[.int .i64 m,.slice a n c]] V λe w'=>Mv V w'/\∃b ap cp,
   e = .returned (.tuple #[.agg #[.pointer (some ⟨b,0,none⟩),.int .i64 m,.slice a n c,.slice ap (bh (ah P M.toNat mod) L m).length cp],.int .i64 0])/\vY V.heap.size w' b (ah P M.toNat mod)/\bA V.heap.size w' ap (bh (ah P M.toNat mod) L m).length (bh (ah P M.toNat mod) L m)):=λV a n c L hV hM h=>by
  refine (iY P M am mn cm mod m a n c L V (hmod.af hV) hM).mono ?_;rintro e w' ⟨hb,⟨h1,_⟩ | ⟨_,m',b,hm',ap,cp,rfl,hG,_,hN⟩⟩
  ·exact absurd h h1
  ·obtain rfl : m=m':=by omega
   exact ⟨hb,b,ap,cp,rfl,hG,hN⟩
 have HPost : Hid (∀b ap cp v2 V,(∃(b2 : Nat) (m2 : Int) (a2 : OA) (n2 c2 : Nat) (ap2 : OA) (k2 cp2 : Nat),v2 = .agg #[.pointer (some ⟨b2,0,none⟩),.int .i64 m2,.slice a2 n2 c2,.slice ap2 k2 cp2])->dz V b (ah P M.toNat mod)->Ints V ap (bh (ah P M.toNat mod) L m).length (bh (ah P M.toNat mod) L m)->Mv w V ->
   pW P M mod m a n c L w (.returned (.tuple #[.agg #[.pointer (some ⟨b,0,none⟩),.int .i64 m,.slice a n c,.slice ap (bh (ah P M.toNat mod) L m).length cp],v2,.int .i64 0])) V):=λb ap cp v2 V h1 h2 h3 h4=>⟨b,ap,cp,v2,rfl,h1,h2,h3,h4⟩
 have HI:=Z5 (Hi hi hi');have HO1:=Z5 (λV hV hM=>HO.out V a n c L hV hM hE);have HO2:=Z5 (λV hV hM=>HO.out V a' n' c' L' hV hM hE');generalize pW P M mod m a n c L w=Post at *;obtain ⟨k,hk⟩ : ∃k,(bh (ah P M.toNat mod) L m).length=k:=⟨_,rfl⟩
 obtain ⟨k',hk'⟩ : ∃k,(bh (ah P M.toNat mod) L' m).length=k:=⟨_,rfl⟩
 rw [hk] at HO1 HPost;rw [hk'] at HO2;clear hmod hi hi' hE hE' HO hk hk';generalize bh (ah P M.toNat mod) L m=Pv at *;generalize bh (ah P M.toNat mod) L' m=Pv' at *;generalize ah P M.toNat mod=G at *;go_enter func229,ntmps229;go_upto_region 1 with fail;obtain ⟨W,hW⟩ : ∃W : World,W=((((w.alloc (.cells #[.int .i64 P,.int .i64 M,.slice am mn cm] 24)).alloc (.cells #[.int .i64 m,.slice a n c] 94)).alloc (.cells #[.int .i64 m,.slice a' n' c'] 94)).alloc (.cells #[.pointer none,.int .i64 0,.slice none 0 0,.slice none 0 0] 210)).alloc (.cells #[.pointer none,.int .i64 0,.slice none 0 0,.slice none 0 0] 210):=⟨_,rfl⟩
 rw [<- hW];have hbW : Mv w W:=by rw [hW];exact LY (jI _ _ _ _) (du _ _ _)
 have hsW : W.heap.size=w.heap.size+5:=by rw [hW];simp
 have x0 : aO W w.heap.size [.int .i64 P,.int .i64 M,.slice am mn cm]:=by rw [hW];exact ((((LZ _ _ _ rfl).alloc _).alloc _).alloc _).alloc _
 have x1 : aO W (w.heap.size+1) [.int .i64 m,.slice a n c]:=by rw [hW];exact (((LZ _ _ _ (by simp)).alloc _).alloc _).alloc _
 have x2 : aO W (w.heap.size+1+1) [.int .i64 m,.slice a' n' c']:=by rw [hW];exact ((LZ _ _ _ (by simp)).alloc _).alloc _
 have x3 : aO W (w.heap.size+1+1+1) [.pointer none,.int .i64 0,.slice none 0 0,.slice none 0 0]:=by rw [hW];exact (LZ _ _ _ (by simp)).alloc _
 have x4 : aO W (w.heap.size+1+1+1+1) [.pointer none,.int .i64 0,.slice none 0 0,.slice none 0 0]:=by rw [hW];exact LZ _ _ _ (by simp)
 clear hW;have HX:=Z5 (Hi x0 (Hi x1 (Hi x2 (Hi x3 x4))));have HbW:=Z5 hbW;have HsW:=Z5 hsW;go_cut [8] (λv8 wx=>v8 = .int .i64 0/\∃b ap cp,aO wx (w.heap.size+1+1+1) [.pointer (some ⟨b,0,none⟩),.int .i64 m,.slice a n c,.slice ap k cp]/\aO wx w.heap.size [.int .i64 P,.int .i64 M,.slice am mn cm]/\aO wx (w.heap.size+1) [.int .i64 m,.slice a n c]/\aO wx (w.heap.size+1+1) [.int .i64 m,.slice a' n' c']/\aO wx (w.heap.size+1+1+1+1) [.pointer none,.int .i64 0,.slice none 0 0,.slice none 0 0]/\vY (w.heap.size+5) wx b G/\bA (w.heap.size+5) wx ap k Pv/\Mv w wx);case first =>
  have c0:=x0.cell 0 rfl
  have c1:=x0.cell 1 rfl
  have c2:=x0.cell 2 rfl
  have d0:=x1.cell 0 rfl
  have d1:=x1.cell 1 rfl
  clear x0 x1 x2 x3 x4 hbW hsW
  go_wp2_with fail
  refine (HO1.out W HbW.out (HI.out.1.af HbW.out)).mono ?_
  rintro e w1 ⟨hb1,b,ap,cp,rfl,hG,hN⟩
  clear c0 c1 c2 d0 d1
  obtain ⟨x0,x1,x2,x3,x4⟩:=HX.out
  have x0:=x0.af hb1
  have x1:=x1.af hb1
  have x2:=x2.af hb1
  have x3:=x3.af hb1
  have x4:=x4.af hb1
  have z0:=x3.cell 0 rfl
  have z1:=x3.cell 1 rfl
  have z2:=x3.cell 2 rfl
  have z3:=x3.cell 3 rfl
  have f0:=x3.frozen 0
  have f1:=x3.frozen 1
  have f2:=x3.frozen 2
  have f3:=x3.frozen 3
  have hs:=HsW.out
  have hF:=LY HbW.out hb1
  have HR : Hid (aO ((((w1.setCell ⟨w.heap.size+1+1+1,0,none⟩ (.pointer (some ⟨b,0,none⟩))).setCell ⟨w.heap.size+1+1+1,1,none⟩ (.int .i64 m)).setCell ⟨w.heap.size+1+1+1,2,none⟩ (.slice a n c)).setCell ⟨w.heap.size+1+1+1,3,none⟩ (.slice ap k cp)) (w.heap.size+1+1+1) [.pointer (some ⟨b,0,none⟩),.int .i64 m,.slice a n c,.slice ap k cp] /\
    (∀g cs,g ≠ w.heap.size+1+1+1->aO w1 g cs->aO ((((w1.setCell ⟨w.heap.size+1+1+1,0,none⟩ (.pointer (some ⟨b,0,none⟩))).setCell ⟨w.heap.size+1+1+1,1,none⟩ (.int .i64 m)).setCell ⟨w.heap.size+1+1+1,2,none⟩ (.slice a n c)).setCell ⟨w.heap.size+1+1+1,3,none⟩ (.slice ap k cp)) g cs) /\
    vY (w.heap.size+5) ((((w1.setCell ⟨w.heap.size+1+1+1,0,none⟩ (.pointer (some ⟨b,0,none⟩))).setCell ⟨w.heap.size+1+1+1,1,none⟩ (.int .i64 m)).setCell ⟨w.heap.size+1+1+1,2,none⟩ (.slice a n c)).setCell ⟨w.heap.size+1+1+1,3,none⟩ (.slice ap k cp)) b G /\
    bA (w.heap.size+5) ((((w1.setCell ⟨w.heap.size+1+1+1,0,none⟩ (.pointer (some ⟨b,0,none⟩))).setCell ⟨w.heap.size+1+1+1,1,none⟩ (.int .i64 m)).setCell ⟨w.heap.size+1+1+1,2,none⟩ (.slice a n c)).setCell ⟨w.heap.size+1+1+1,3,none⟩ (.slice ap k cp)) ap k Pv /\
    Mv w ((((w1.setCell ⟨w.heap.size+1+1+1,0,none⟩ (.pointer (some ⟨b,0,none⟩))).setCell ⟨w.heap.size+1+1+1,1,none⟩ (.int .i64 m)).setCell ⟨w.heap.size+1+1+1,2,none⟩ (.slice a n c)).setCell ⟨w.heap.size+1+1+1,3,none⟩ (.slice ap k cp))):=by
   refine ⟨(((x3.setCell 0 _).setCell 1 _).setCell 2 _).setCell 3 _,λg cs hg hx=>(((hx.Gu (LQ hg) 0 _).Gu (LQ hg) 1 _).Gu (LQ hg) 2 _).Gu (LQ hg) 3 _,?_,?_,?_⟩
   ·rw [<- hs];exact (((hG.setCell (p:=⟨w.heap.size+1+1+1,0,none⟩) (by simp;omega) _).setCell (p:=⟨w.heap.size+1+1+1,1,none⟩) (by simp;omega) _).setCell (p:=⟨w.heap.size+1+1+1,2,none⟩) (by simp;omega) _).setCell (p:=⟨w.heap.size+1+1+1,3,none⟩) (by simp;omega) _
   ·rw [<- hs];exact (((hN.setCell (p:=⟨w.heap.size+1+1+1,0,none⟩) (by simp;omega) _).setCell (p:=⟨w.heap.size+1+1+1,1,none⟩) (by simp;omega) _).setCell (p:=⟨w.heap.size+1+1+1,2,none⟩) (by simp;omega) _).setCell (p:=⟨w.heap.size+1+1+1,3,none⟩) (by simp;omega) _
   ·exact (((hF.setCell (p:=⟨w.heap.size+1+1+1,0,none⟩) (by simp;omega) _).setCell (p:=⟨w.heap.size+1+1+1,1,none⟩) (by simp;omega) _).setCell (p:=⟨w.heap.size+1+1+1,2,none⟩) (by simp;omega) _).setCell (p:=⟨w.heap.size+1+1+1,3,none⟩) (by simp;omega) _
  have HY:=Z5 (Hi x0 (Hi x1 (Hi x2 x4)))
  clear hG hN hs hF x0 x1 x2 x3 x4
  go_wp2_with fail
  go_meet
  obtain ⟨r1,r2,r3,r4,r5⟩:=HR.out
  obtain ⟨y0,y1,y2,y4⟩:=HY.out
  exact ⟨rfl,b,ap,cp,r1,r2 _ _ (by omega) y0,r2 _ _ (by omega) y1,r2 _ _ (by omega) y2,r2 _ _ (by omega) y4,r3,r4,r5⟩
 obtain ⟨rfl,b,ap,cp,z3,y0,y1,y2,y4,hG,hN,hF⟩:=hcut;generalize wc=V at *;clear x0 x1 x2 x3 x4 hbW hsW HX HO1;have c0:=y0.cell 0 rfl;have c1:=y0.cell 1 rfl;have c2:=y0.cell 2 rfl;have d0:=y2.cell 0 rfl;have d1:=y2.cell 1 rfl;have HZ:=Z5 (Hi z3 (Hi y0 (Hi y1 (Hi y2 y4))));have HG:=Z5 (Hi hG hN);clear z3 y0 y1 y2 y4 hG hN;go_wp2_with fail;refine (HO2.out V hF (HI.out.2.af hF)).mono ?_;rintro e w2 ⟨hb2,b2,ap2,cp2,rfl,_,_⟩;clear c0 c1 c2 d0 d1;obtain ⟨z3,y0,y1,y2,y4⟩:=HZ.out;have z3:=z3.af hb2;have y1:=y1.af hb2;have y2:=y2.af hb2;have y4:=y4.af hb2;have p0:=z3.cell 0 rfl;have p1:=z3.cell 1 rfl;have p2:=z3.cell 2 rfl;have p3:=z3.cell 3 rfl;have e0:=y1.cell 0 rfl;have g0:=y2.cell 0 rfl;have q0:=y4.cell 0 rfl;have q1:=y4.cell 1 rfl;have q2:=y4.cell 2 rfl;have q3:=y4.cell 3 rfl;have f0:=y4.frozen 0;have f1:=y4.frozen 1;have f2:=y4.frozen 2;have f3:=y4.frozen 3;have fp0:=z3.frozen 0;have fp1:=z3.frozen 1;have fp2:=z3.frozen 2;have fp3:=z3.frozen 3;have hmm : ((m : Int) != m)=false:=by simp
 have hF2:=LY hF hb2;obtain ⟨hG,hN⟩:=HG.out;have hG2:=hG.af hb2;have hN2:=hN.af hb2;have HFin : Hid (∀(X : World),X=((((w2.setCell ⟨w.heap.size+1+1+1+1,0,none⟩ (.pointer (some ⟨b2,0,none⟩))).setCell ⟨w.heap.size+1+1+1+1,1,none⟩ (.int .i64 m)).setCell ⟨w.heap.size+1+1+1+1,2,none⟩ (.slice a' n' c')).setCell ⟨w.heap.size+1+1+1+1,3,none⟩ (.slice ap2 k' cp2)) ->
   Post (.returned (.tuple #[.agg #[.pointer (some ⟨b,0,none⟩),.int .i64 m,.slice a n c,.slice ap k cp],.agg #[.pointer (some ⟨b2,0,none⟩),.int .i64 m,.slice a' n' c',.slice ap2 k' cp2],.int .i64 0])) X):=λX hX=>by
  subst hX;refine HPost.out b ap cp _ _ ⟨_,_,_,_,_,_,_,_,rfl⟩ ?_ ?_ ?_
  ·exact ((((hG2.setCell (p:=⟨w.heap.size+1+1+1+1,0,none⟩) (by simp) _).setCell (p:=⟨w.heap.size+1+1+1+1,1,none⟩) (by simp) _).setCell (p:=⟨w.heap.size+1+1+1+1,2,none⟩) (by simp) _).setCell (p:=⟨w.heap.size+1+1+1+1,3,none⟩) (by simp) _).gf
  ·exact ((((hN2.setCell (p:=⟨w.heap.size+1+1+1+1,0,none⟩) (by simp) _).setCell (p:=⟨w.heap.size+1+1+1+1,1,none⟩) (by simp) _).setCell (p:=⟨w.heap.size+1+1+1+1,2,none⟩) (by simp) _).setCell (p:=⟨w.heap.size+1+1+1+1,3,none⟩) (by simp) _).ints
  ·exact (((hF2.setCell (p:=⟨w.heap.size+1+1+1+1,0,none⟩) (by simp;omega) _).setCell (p:=⟨w.heap.size+1+1+1+1,1,none⟩) (by simp;omega) _).setCell (p:=⟨w.heap.size+1+1+1+1,2,none⟩) (by simp;omega) _).setCell (p:=⟨w.heap.size+1+1+1+1,3,none⟩) (by simp;omega) _
 clear hG hN hG2 hN2 z3 y0 y1 y2 y4 HZ HG;go_wp2_with fail;exact bodyPost_ret (v:=.tuple #[.agg #[.pointer (some ⟨b,0,none⟩),.int .i64 m,.slice a n c,.slice ap k cp],.agg #[.pointer (some ⟨b2,0,none⟩),.int .i64 m,.slice a' n' c',.slice ap2 k' cp2],.int .i64 0]) (by simp [results,results229,go_sem,p0,p1,p2,p3,q0,q1,q2,q3]) rfl (HFin.out _ rfl)
section
open Go.RowKit Go.Shelf
theorem aB.putAt (w : World) {I : Nat->Prop} {B : Nat} (hB : I B) (o : Obj) : aB w (w.putObj B o) I I:=by have hg:=grownBy_putObj' w B o;exact ⟨hg.os,hg.tape,hg.output,hg.size,λb hb hI=>hg.block b hb (λe=>by cases e;exact hI hB),λb hb=>.inl hb⟩
theorem Ints.put {w : World} {a : OA} {n : Nat} {l : LI} (h : Ints w a n l) (B : Nat) (o : Obj) (hB : 0<n->ablk a ≠ B) : Ints (w.putObj B o) a n l :=
 h.of_block λhn=>World.putObj_heap_other (λe=>hB hn e)
theorem qX {g : Operand} {ps : Array Tmp} {assign body : Code} {Q : Exit->Act->World->Prop} {a : Act} {w : World} {m n N : Nat} {lb : Array Value} {R : Ll}
  (hg : a.eval g = .func (.func 250) #[] lb) (eg : ∀args w,(callFunc 250 args).run prog w = .ok (.enter 250 args) w) (hps : ps.size=2) (hm : 1<=m) (hn1 : 1<=n)
  (MB : Nat->Prop) (hMB : ∀x,MB x->x<w.heap.size)
  (hseq : ∀(l : Nat) (J : List WX->World->Prop) (MM : Nat->Prop) (W : World),Mv w W->W.heap.size=w.heap.size+2->(∀x,MM x->MB x\/x=w.heap.size+1) ->
   (∀pre V V',J pre V->Mv V V'->J pre V')->(∀B pre V v,W.heap.size<=B->(∀x ∈ pre,ablk x.a ≠ B)->J pre V->J pre (V.setCell ⟨B,0,none⟩ v)) ->
   (∀m pre x V,J pre V->pre.length<N->Ints V x.a n x.l->(∀j,MM j->j ≠ ablk x.a)->F7 l n J MM m pre x V)->J [] W ->
   Calls prog 250 (#[.func (.yield l) #[] #[]] ++ lb) W λe V=>e = .returned (.tuple #[])/\∃xs : List WX,xs.map WX.l=R/\J xs V/\aB W V MM MM)
  (I : List WX->World->Prop) (hIa : ∀pre V V',I pre V->Mv V V'->I pre V')
  (hIb : ∀B pre V v,w.heap.size<=B->(∀x ∈ pre,ablk x.a ≠ B)->I pre V->I pre (V.setCell ⟨B,0,none⟩ v))
  (hIp : ∀B pre V o,w.heap.size<=B->(∀x ∈ pre,ablk x.a ≠ B)->I pre V->I pre (V.putObj B o)) (h0 : I [] w)
  (a₁ : List WX->WX->Act)
  (hassign : ∀(l m : Nat) (pre : List WX) (x : WX) (W : World) (K : Act->World->Prop),K (a₁ pre x) W ->
   assign.wpIn (Fence.wide.inRound l) m prog (Exit.then K (λ_ _ _=>False)) { tmps:=(ps.zip #[.int .i64 (pre.length : Nat),.slice x.a n x.c]).foldl (λt (p,v)=>t.setIfInBounds p v) a.tmps,defers:=[] } W)
  (hbody : ∀(l m : Nat) (pre : List WX) (x : WX) (W : World),I pre W->pre.length<N->Ints W x.a n x.l->(∀j,MB j->j ≠ ablk x.a) ->
   body.wpIn (Fence.wide.inRound l) m prog (λe _ W'=>e = .normal/\I (pre ++ [x]) W'/\aB W W' MB MB) (a₁ pre x) W)
  (hdone : ∀(xs : List WX) (W : World),xs.map WX.l=R->I xs W->aB w W (λx=>MB x\/w.heap.size<=x) (λx=>MB x\/w.heap.size<=x)->W.heap[w.heap.size]? = some (.deferred (some []))->Q .normal { a with defers:={ target:=.collected w.heap.size,args:=#[] } :: a.defers } W) :
  (Code.rangeFunc g ps assign body).wpIn Fence.wide m prog Q a w:=by
 refine wpIn_rangeFunc ?_;intro fn hfn;obtain ⟨rec,hrec⟩ : ∃rec : LoopState->Option Code->Loop,rec=λst pe=>{ state:=st,pending:=pe,fn,tmps:=a.tmps,params:=ps,assign,body,defers:=w.heap.size }:=⟨_,rfl⟩
 obtain ⟨W1,hW1⟩ : ∃W1,(w.alloc (.deferred (some []))).alloc (.loop (rec .ready none))=W1:=⟨_,rfl⟩
 have hL1 : W1.heap[w.heap.size+1]? = some (.loop (rec .ready none)):=by rw [<- hW1];have:=World.alloc_heap_new (w.alloc (.deferred (some []))) (.loop (rec .ready none));rwa [Kc] at this
 have hK1 : W1.heap[w.heap.size]? = some (.deferred (some [])):=by rw [<- hW1];exact (KK _ _ _ (by simp)).trans (World.alloc_heap_new w _)
 have hb1 : Mv w W1:=by rw [<- hW1];exact du _ _ _
 have hs1 : W1.heap.size=w.heap.size+2:=by rw [<- hW1];simp
 refine ⟨w.heap.size+1,[{ target:=.collected w.heap.size,args:=#[] }],W1,{ target:=.fn (.func 250) lb,args:=#[.func (.yield (w.heap.size+1)) #[] #[]] },W1,250,
  #[.func (.yield (w.heap.size+1)) #[] #[]] ++ lb,W1,?_,?_,?_,?_,λ_=>hm,?_⟩
 ·rw [<- hW1,hrec];exact run_enterLoop_outer _ _ _ _ _
 ·simp only [resolve,hg];simp [go_sem]
 ·intro f' hf';trivial
 ·simp [invoke,go_sem,eg]
 ·refine callsIn_wide.2 ((hseq (w.heap.size+1)
   (λpre W=>I pre W/\W.heap[w.heap.size+1]? = some (.loop (rec .ready none))/\W.heap[w.heap.size]? = some (.deferred (some []))/\∀x ∈ pre,ablk x.a ≠ w.heap.size+1)
   (λx=>MB x\/x=w.heap.size+1) W1 hb1 hs1 (λx h=>h) ?_ ?_ ?_ ⟨hIa _ _ _ h0 hb1,hL1,hK1,λx hx=>by simp at hx⟩).mono ?_)
  ·rintro pre V V' ⟨h1,h2,h3,h4⟩ hb;exact ⟨hIa _ _ _ h1 hb,(hb.block _ (Array.getElem?_eq_some_iff.1 h2).1).trans h2,(hb.block _ (Array.getElem?_eq_some_iff.1 h3).1).trans h3,h4⟩
  ·rintro B pre V v hB hx ⟨h1,h2,h3,h4⟩;exact ⟨hIb B _ _ _ (by omega) hx h1,(Ia _ _ _ _ (by show w.heap.size+1 ≠ B;omega)).trans h2,(Ia _ _ _ _ (by show w.heap.size ≠ B;omega)).trans h3,h4⟩
  ·rintro k pre x V ⟨hi,hl,hd,hpx⟩ hlen hix hxM;have hlt : w.heap.size+1<V.heap.size:=(Array.getElem?_eq_some_iff.1 hl).1;have hxl : ablk x.a ≠ w.heap.size+1:=λe=>hxM _ (.inr rfl) e.symm;have hy:=run_yield (P:=prog) (args:=#[.int .i64 (pre.length : Nat),.slice x.a n x.c]) hl (by rw [hrec];exact hps.symm ▸ rfl);rw [hrec] at hy;refine ⟨fn,_,assign,body,hy,roundIn_of_wpIn hfn (hassign _ _ pre x V _ ⟨_,run_beginRound hl (by rw [hrec]),?_⟩)⟩;have hl2 : (V.putObj (w.heap.size+1) (.loop { rec .ready none with state:=.busy })).heap[w.heap.size+1]? = some (.loop { rec .ready none with state:=.busy }):=World.putObj_heap_same hlt;have hd2 : (V.putObj (w.heap.size+1) (.loop { rec .ready none with state:=.busy })).heap[w.heap.size]? = some (.deferred (some [])):=(World.putObj_heap_other (by omega)).trans hd;have hm2 : aB V (V.putObj (w.heap.size+1) (.loop { rec .ready none with state:=.busy })) (λx=>MB x\/x=w.heap.size+1) (λx=>MB x\/x=w.heap.size+1):=aB.putAt _ (.inr rfl) _;refine wpIn_mono (hbody _ _ pre x _ (hIp _ _ _ _ (by omega) hpx hi) hlen (hix.put _ _ (λ_=>hxl)) (λj hj=>hxM j (.inl hj))) ?_;rintro e a3 W3 ⟨rfl,hi3,hm3⟩;have hnl : ¬ MB (w.heap.size+1):=λh=>by have:=hMB _ h;omega
   have hnd : ¬ MB w.heap.size:=λh=>by have:=hMB _ h;omega
   have hl3:=(hm3.block _ (Array.getElem?_eq_some_iff.1 hl2).1 hnl).trans hl2;have hd3:=(hm3.block _ (Array.getElem?_eq_some_iff.1 hd2).1 hnd).trans hd2;have hr:=run_endRound (P:=prog) none hl3;rw [hrec] at hr;refine ⟨_,_,hr,rfl,⟨hIp _ _ _ _ (by omega) ?_ hi3,?_,?_,?_⟩,?_⟩
   ·intro y hy;rcases List.mem_append.1 hy with hy | hy
    ·exact hpx y hy
    ·rw [List.mem_singleton.1 hy];exact hxl
   ·rw [hrec];exact World.putObj_heap_same (Array.getElem?_eq_some_iff.1 hl3).1
   ·exact (World.putObj_heap_other (by omega)).trans hd3
   ·intro y hy;rcases List.mem_append.1 hy with hy | hy
    ·exact hpx y hy
    ·rw [List.mem_singleton.1 hy];exact hxl
   ·exact (hm2.trans (hm3.wide (λx h=>.inl h))).trans (aB.putAt _ (.inr rfl) _)
  ·rintro e W2 ⟨rfl,xs,hx,⟨hi,hl,hd,hpx⟩,hmv⟩;refine ⟨none,_,by have:=run_endLoop (P:=prog) hl (by rw [hrec];simp);rw [hrec] at this;exact this,hdone xs _ hx (hIp _ _ _ _ (by omega) hpx hi) ?_ ((World.putObj_heap_other (by omega)).trans hd)⟩;have hw : aB w W2 (λx=>MB x\/w.heap.size<=x) (λx=>MB x\/w.heap.size<=x):=(L4 hb1 _).trans (hmv.wide (λx h=>h.elim .inl (λe=>.inr (by omega))));exact hw.trans (aB.putAt _ (.inr (by omega)) _)
end
theorem nE (x : Int) (w : World) : Calls prog 221 #[.int .i64 x] w λe w'=>e = .returned (.bool false)/\w=w':=by go_enter func221,ntmps221;go_wp2;go_ret;exact ⟨by simp,rfl⟩
def rJ (x y : Int) : Int:=if x<y then -1 else if y<x then 1 else 0
theorem pj (x y : Int) (w : World) : Calls prog 212 #[.int .i64 x,.int .i64 y] w λe w'=>e = .returned (.int .i64 (rJ x y))/\w=w':=by
 obtain ⟨r,hr⟩ : ∃r,rJ x y=r:=⟨_,rfl⟩
 rw [hr];go_enter func212,ntmps212;unfold rJ at hr;by_cases h1 : x<y
 ·have d1 : decide (x<y)=true:=by simpa using h1
  rw [GV h1] at hr;clear h1;go_wp2_with (go_at_call 221;refine (nE _ _).mono ?_;rintro e w' ⟨rfl,rfl⟩);go_ret;exact ⟨by rw [<- hr];rfl,rfl⟩
 ·have d1 : decide (x<y)=false:=by simpa using h1
  rw [GU h1] at hr;by_cases h2 : y<x
  ·have d2 : decide (y<x)=true:=by simpa using h2
   rw [GV h2] at hr;clear h1 h2;go_wp2_with (go_at_call 221;refine (nE _ _).mono ?_;rintro e w' ⟨rfl,rfl⟩);go_ret;exact ⟨by rw [<- hr];rfl,rfl⟩
  ·have d2 : decide (y<x)=false:=by simpa using h2
   rw [GU h2] at hr;clear h1 h2;go_wp2_with (go_at_call 221;refine (nE _ _).mono ?_;rintro e w' ⟨rfl,rfl⟩);go_ret;exact ⟨by rw [<- hr];rfl,rfl⟩
theorem zy : ∀ {a b : LI} {k : Nat},(∀j,j<k->nth a j=nth b j)->k<a.length->k<b.length->rJ (nth a k) (nth b k) ≠ 0->cmpL a b=rJ (nth a k) (nth b k)
 | [],_,k,_,h,_,_=>by simp at h
 | x :: a,[],k,_,_,h,_=>by simp at h
 | x :: a,y :: b,0,_,_,_,hne=>by
  have e1 : nth (x :: a) 0=x:=rfl;have e2 : nth (y :: b) 0=y:=rfl;rw [e1,e2] at hne ⊢;rw [cmpL];unfold rJ at hne ⊢;split
  ·rfl
  ·split
   ·rfl
   ·rename_i h1 h2;rw [GU h1,GU h2] at hne;exact absurd rfl hne
 | x :: a,y :: b,k+1,h0,ha,hb,hne=>by
  have e : x=y:=by simpa [nth] using h0 0 (by omega)
  rw [cmpL,GU (by omega),GU (by omega)];have h1:=zy (a:=a) (b:=b) (k:=k) (λj hj=>by simpa [nth] using h0 (j+1) (by omega)) (by simpa using ha) (by simpa using hb) (by simpa [nth] using hne);simpa [nth] using h1
theorem qB : ∀ {a b : LI} {k : Nat},(∀j,j<k->nth a j=nth b j)->(k=a.length\/k=b.length)->k<=a.length->k<=b.length->cmpL a b=if a.length<b.length then -1 else if b.length<a.length then 1 else 0
 | [],[],_,_,_,_,_=>by simp [cmpL]
 | [],y :: b,_,_,_,_,_=>by simp [cmpL]
 | x :: a,[],_,_,_,_,_=>by simp [cmpL]
 | x :: a,y :: b,0,_,h,_,_=>by simp at h
 | x :: a,y :: b,k+1,h0,h,ha,hb=>by
  have e : x=y:=by simpa [nth] using h0 0 (by omega)
  rw [cmpL,GU (by omega),GU (by omega)];have h1:=qB (a:=a) (b:=b) (k:=k) (λj hj=>by simpa [nth] using h0 (j+1) (by omega)) (by simpa using h) (by simpa using ha) (by simpa using hb);rw [h1];simp
theorem wg (a : OA) (n c : Nat) (l : LI) (a2 : OA) (n2 c2 : Nat) (l2 : LI) (w : World) (hi : Ints w a n l) (hi2 : Ints w a2 n2 l2) :
  Calls prog 159 #[.slice a n c,.slice a2 n2 c2] w λe w'=>e = .returned (.int .i64 (cmpL l l2))/\w=w':=by
 have Hl:=Z5 hi.len;have Hl2:=Z5 hi2.len;have hpl:=hi.pl;have hpl2:=hi2.pl;have hmax:=hi.max;have hmax2:=hi2.max;unfold maxLen at hmax hmax2;go_enter func159,ntmps159;go_wp2_with fail;go_loop [11] (λiv=>∃k : Nat,k<=n/\k<=n2/\iv = .int .i64 k/\Hid (∀j,j<k->nth l j=nth l2 j)) (λiv=>n - (intOf iv).toNat);case atStart=>exact ⟨0,G0 _,G0 _,rfl,λj hj=>by omega⟩
 case round =>
  obtain ⟨k,hk,hk2,rfl,hall⟩:=hrel
  by_cases hlt : k<n
  ·have ck:=hi.cell k hlt
   by_cases hlt2 : k<n2
   ·have ck2:=hi2.cell k hlt2
    have hge : decide ((n2 : Int)<=(k : Int))=false:=by simp;omega
    by_cases he : rJ (nth l k) (nth l2 k)=0
    ·have hEq : Hid (nth l k=nth l2 k):=by
      show _=_;unfold rJ at he;split at he
      ·omega
      ·split at he
       ·omega
       ·omega
     have hc:=pj (nth l k) (nth l2 k)
     rw [he] at hc
     have Hc:=Z5 hc
     clear he hc
     go_wp2_with (go_at_call 212;refine (Hc.out _).mono ?_;rintro e w' ⟨rfl,rfl⟩)
     go_round
     case rel=>exact ⟨k+1,by omega,by omega,by go_num,λj hj=>by
      rcases ID j k with h | h
      ·exact hall.out j h
      ·rw [show j=k by omega];exact hEq.out⟩
     case measure=>simp [intOf] <;> omega
    ·have Hv:=Z5 (zy hall.out (by rw [Hl.out];exact hlt) (by rw [Hl2.out];exact hlt2) he)
     have Hc:=Z5 (pj (nth l k) (nth l2 k))
     have hne : (rJ (nth l k) (nth l2 k) != 0)=true:=by simpa using he
     clear he
     generalize rJ (nth l k) (nth l2 k)=r at *
     go_wp2_with (go_at_call 212;refine (Hc.out _).mono ?_;rintro e w' ⟨rfl,rfl⟩)
     go_ret
     exact ⟨aK Hv.out.symm,rfl⟩
   ·have hge : decide ((n2 : Int)<=(k : Int))=true:=by simp;omega
    have Hv : Hid (cmpL l l2=1):=by show _=_;rw [qB hall.out (.inr (by rw [Hl2.out];omega)) (by rw [Hl.out];exact hk) (by rw [Hl2.out];exact hk2),Hl.out,Hl2.out,GU (by omega),GV (by omega)]
    go_wp2_with fail
    go_ret
    exact ⟨aK Hv.out.symm,rfl⟩
  ·have Hv : Hid (cmpL l l2=if n<n2 then -1 else 0):=by show _=_;rw [qB hall.out (.inl (by rw [Hl.out];omega)) (by rw [Hl.out];exact hk) (by rw [Hl2.out];exact hk2),Hl.out,Hl2.out,GU (show ¬ n2<n by omega)]
   obtain rfl : k=n:=by omega
   by_cases h2 : k<n2
   ·rw [GV h2] at Hv
    go_wp2_with fail
    go_ret
    exact ⟨aK Hv.out.symm,rfl⟩
   ·rw [GU h2] at Hv
    go_wp2_with fail
    go_ret
    exact ⟨aK Hv.out.symm,rfl⟩
section
open Go.RowKit Go.Shelf
theorem wV : (prog.info? 22).map (λi=>(i.zero,i.size,i.bytes))=some (some (.slice none 0 0),1,24):=by kernel_rfl
theorem Ec (n : Nat) (b2 : n<=1000000) (w : World) :
  (Instr.makeSlice 25 (.int .i64 0) (.int .i64 n)).run prog w = .ok (.slice (some ⟨w.heap.size,0,none⟩) 0 n) (w.alloc (.cells (List.replicate n (Value.slice none 0 0)).toArray 22)):=by
 obtain ⟨i,hi,hz0,hz1,hz2⟩:=info_parts wV;have h:=run_make (P:=prog) w 25 22 i (.slice none 0 0) underlying25 hi hz0 .i64 .i64 0 n (by omega) (by omega) (by rw [hz2];omega) (by omega);rw [hz1,Nat.mul_one,show (Value.slice none 0 0).cells = #[Value.slice none 0 0] from rfl,GW] at h;have e : madeCells #[Value.slice none 0 0] n=(List.replicate n (Value.slice none 0 0)).toArray:=by rw [<- toList_madeCells_one]
 rw [h,e];rfl
def zt (B Bo Br n NN : Nat) (pre : List WX) (V : World) : Prop :=
 (aO V Bo [.slice (some ⟨Br,0,none⟩) pre.length NN]/\V.ownsRow B 22 1 (.slice (some ⟨Br,0,none⟩) pre.length NN) pre.length (pre.map λx=>.slice x.a n x.c)) /\
  ∀x ∈ pre,Ints V x.a n x.l/\ablk x.a ≠ Bo/\ablk x.a ≠ Br
theorem zt.bq {B Bo Br n NN : Nat} {pre : List WX} {V V' : World} (h : zt B Bo Br n NN pre V) (ho : V'.heap[Bo]? = V.heap[Bo]?) (hr : V'.heap[Br]? = V.heap[Br]?) (hx : ∀x ∈ pre,V'.heap[ablk x.a]? = V.heap[ablk x.a]?) (hs : V.heap.size<=V'.heap.size) : zt B Bo Br n NN pre V' :=
 ⟨⟨⟨It h.1.1.1 hs,λi v hv=>(Ii (w:=V) (a:=⟨Bo,i,none⟩) ho).trans (h.1.1.2.1 i v hv),λi=>(Ix (w:=V) (a:=⟨Bo,i,none⟩) ho).trans (h.1.1.2.2 i)⟩,
  eB h.1.2 hr⟩,λx hxp=>⟨(h.2 x hxp).1.of_block λ_=>hx x hxp,(h.2 x hxp).2⟩⟩
theorem zt.Ge {B Bo Br n NN : Nat} {pre : List WX} {V : World} (h : zt B Bo Br n NN pre V) : B<=Br/\Br<V.heap.size:=aS h.1.2 (by simp)
theorem aO.Gy {w : World} {b : Nat} {v : Value} (h : aO w b [v]) (u : Value) : aO (w.setCell ⟨b,0,none⟩ u) b [u] :=
 ⟨by have:=((GS 0 w).setCell (p:=⟨b,0,none⟩) (G0 _) u).size;exact It h.1 this,λi x hx=>by
  cases i with
  | zero=>simp at hx;subst hx;exact JW _ _ _ (by rw [h.2.1 0 v rfl];rfl)
  | succ i=>simp at hx,λi=>by rw [IM];exact h.2.2 i⟩
theorem aO.of_block {w w' : World} {b : Nat} {cs : List Value} (h : aO w b cs) (hb : w'.heap[b]? = w.heap[b]?) (hs : w.heap.size<=w'.heap.size) : aO w' b cs :=
 ⟨It h.1 hs,λi v hv=>(Ii (w:=w) (a:=⟨b,i,none⟩) hb).trans (h.2.1 i v hv),λi=>(Ix (w:=w) (a:=⟨b,i,none⟩) hb).trans (h.2.2 i)⟩
theorem aB.F5 {w w' : World} {I : Nat->Prop} {B : Nat} (hg : w.grownBy w' (some B)) (hB : I B) : aB w w' I I :=
 ⟨hg.os,hg.tape,hg.output,hg.size,λb hb hI=>hg.block b hb (λe=>by cases e;exact hI hB),λb hb=>.inl hb⟩
theorem zt.step {B Br n NN : Nat} {pre : List WX} {x : WX} {W W1 : World} {o : Obj} (h : zt B (Br+1) Br n NN pre W) (hix : Ints W x.a n x.l) (hn : 1<=n) (hx1 : ablk x.a ≠ Br+1) (hx2 : ablk x.a ≠ Br)
  (hg : (W.alloc o).grownBy W1 (some Br)) (hown : W1.ownsRow B 22 1 (.slice (some ⟨Br,0,none⟩) (pre.length+1) NN) (pre.length+1) (pre.map (λx=>.slice x.a n x.c) ++ [.slice x.a n x.c])) :
  zt B (Br+1) Br n NN (pre ++ [x]) (W1.setCell ⟨Br+1,0,none⟩ (.slice (some ⟨Br,0,none⟩) (pre.length+1) NN)) /\
   aB W (W1.setCell ⟨Br+1,0,none⟩ (.slice (some ⟨Br,0,none⟩) (pre.length+1) NN)) (λy=>y=Br+1\/y=Br) (λy=>y=Br+1\/y=Br):=by
 have hblk : ∀y,y<W.heap.size->y ≠ Br->W1.heap[y]? = W.heap[y]?:=λy hy h2=>(hg.block y (by simp;omega) (λe=>by cases e;exact h2 rfl)).trans (KK _ _ _ hy);have hsz : W.heap.size<=W1.heap.size:=by have:=hg.size;simp at this;omega
 have hbx : aO W1 (Br+1) [.slice (some ⟨Br,0,none⟩) pre.length NN]:=h.1.1.of_block (hblk _ h.1.1.1 (by omega)) hsz;refine ⟨⟨⟨by rw [H5];exact hbx.Gy _,?_⟩,?_⟩,((L4 (an W o) _).trans (aB.F5 hg (.inr rfl))).trans (aB.setAt _ (.inl rfl) _)⟩
 ·have h2:=eB hown (w':=W1.setCell ⟨Br+1,0,none⟩ (.slice (some ⟨Br,0,none⟩) (pre.length+1) NN)) (Ia _ _ _ _ (by show Br ≠ Br+1;omega));rw [H5,II];exact h2
 ·intro y hy;have hy' : Ints W y.a n y.l/\ablk y.a ≠ Br+1/\ablk y.a ≠ Br:=by
   rcases List.mem_append.1 hy with hy | hy
   ·exact h.2 y hy
   ·rw [List.mem_singleton.1 hy];exact ⟨hix,hx1,hx2⟩
  refine ⟨hy'.1.of_block λh0=>?_,hy'.2⟩;exact (Ia _ _ _ _ (by show ablk y.a ≠ Br+1;exact hy'.2.1)).trans (hblk _ (hy'.1.lt h0) hy'.2.2)
attribute [local go_sem] KT
theorem Cs (P M : Int) (am : OA) (mn cm : Nat) (N : Int) (a : OA) (k c : Nat) (w : World) :
  Calls prog 211 #[.agg #[.int .i64 P,.int .i64 M,.slice am mn cm,.int .i64 N,.slice a k c]] w λe w' =>
   e = .returned (.func (.func 250) #[] #[.pointer (some ⟨w.heap.size,0,none⟩)])/\w'=w.alloc (.cells #[.int .i64 P,.int .i64 M,.slice am mn cm,.int .i64 N,.slice a k c] 27):=by have hmf : ∀(fn : Fn) (first cap : Array Value) (w : World),(Instr.makeFunc fn first cap).run prog w = .ok (.func fn first cap) w:=λ_ _ _ _=>rfl;go_enter func211,ntmps211;go_wp2;go_ret;exact ⟨rfl,rfl⟩
theorem Ay (P M : Int) (am : OA) (mn cm : Nat) (mod : LI) (n : Nat) (a : OA) (k c : Nat) (L : Ll) (w : World) (NN : Nat) (hE : aG P M mod n L=0) (hmod : Ints w am mn mod) (hi : bC w a k L)
  (hNN : (ah P M.toNat mod).q ^ k=NN) (hN6 : NN<=65536) :
  Calls prog 158 #[.agg #[.int .i64 P,.int .i64 M,.slice am mn cm,.int .i64 n,.slice a k c]] w λe w' =>
   ∃ao co,e = .returned (.tuple #[.slice ao NN co,.int .i64 0])/\bC w' ao NN (wlkS (ah P M.toNat mod).ops (ah P M.toNat mod).q L (List.replicate n 0))/\Mv w w':=by
 obtain ⟨N',em,hm1,hm64,F,hR⟩:=bf hE;obtain rfl : n=N':=by omega
 have HSz : Hid (∀V,Mv w V->Calls prog 210 #[.agg #[.int .i64 P,.int .i64 M,.slice am mn cm,.int .i64 n,.slice a k c]] V λe w'=>e = .returned (.tuple #[.int .i64 (NN : Nat),.int .i64 0])/\Mv V w'):=λV hV=>by
  refine (wB P M am mn cm mod n a k c L V hE (hmod.af hV) (hi.af hV)).mono ?_;rintro e w' ⟨rfl,h2⟩;have h3 : ((ah P M.toNat mod).q : Int) ^ k=(NN : Nat):=by rw [<- hNN];simp
  have h4:=l7 (q:=(ah P M.toNat mod).q) (k:=k) (by rw [h3];omega);rw [h4.1,h4.2,h3];exact ⟨rfl,h2⟩
 have HWk : Hid (∀(W : World) (Bc l : Nat),Mv w W->aO W Bc [.int .i64 P,.int .i64 M,.slice am mn cm,.int .i64 n,.slice a k c]->∀(J : List WX->World->Prop) (MM : Nat->Prop),(∀x,MM x->x<W.heap.size) ->
   (∀V,(∀x,x<W.heap.size->¬ MM x->V.heap[x]? = W.heap[x]?)->bC V a k L/\V.cell? ⟨Bc,4,none⟩=some (.slice a k c)) ->
   (∀pre V V',J pre V->Mv V V'->J pre V')->(∀B pre V v,W.heap.size<=B->(∀x ∈ pre,ablk x.a ≠ B)->J pre V->J pre (V.setCell ⟨B,0,none⟩ v)) ->
   (∀m pre x V,J pre V->pre.length<NN->Ints V x.a n x.l->(∀j,MM j->j ≠ ablk x.a)->F7 l n J MM m pre x V)->J [] W ->
   Calls prog 250 #[.func (.yield l) #[] #[],.pointer (some ⟨Bc,0,none⟩)] W λe V=>e = .returned (.tuple #[]) /\
    ∃xs : List WX,xs.map WX.l=wlkS (ah P M.toNat mod).ops (ah P M.toNat mod).q L (List.replicate n 0)/\J xs V/\aB W V MM MM):=by intro W Bc l hb hx J MM h1 h2 h3 h4 h5 h6;refine BR P M am mn cm mod n a k c L W Bc l hE hx (hmod.af hb) (hi.af hb) J MM h1 h2 h3 h4 ?_ (by rw [hNN];omega) h6;intro m pre x V hj hl;rw [hNN] at hl;exact h5 m pre x V hj hl
 have Hmat : Hid (∀V,(∀x,x<w.heap.size->V.heap[x]? = w.heap[x]?)->bC V a k L):=λV hV=>⟨hi.len,hi.pl,hi.max,λi hik=>by obtain ⟨b,m,c',h1,h2⟩:=hi.cell i hik;exact ⟨b,m,c',(Ii (w:=w) (hV _ (G8 _ _ h1))).trans h1,h2.of_block λh0=>hV _ (h2.lt h0)⟩⟩
 have Hlen : Hid ((wlkS (ah P M.toNat mod).ops (ah P M.toNat mod).q L (List.replicate n 0)).length=NN):=by show _=_;rw [iL,hi.len,hNN]
 generalize wlkS (ah P M.toNat mod).ops (ah P M.toNat mod).q L (List.replicate n 0)=R at *;clear hNN hR F em hE hmod hi;refine (callsIn_wide (n:=8)).1 ?_;refine callsIn_of_wp_marks func158 rfl trivial ?_ rfl;simp only [ntmps158,Jv,Io,JN,Nat.reduceAdd,Nat.reduceSub,Jd,Je,Jw,Ji,I6,JE];refine wpIn_wide.2 ?_;go_upto_region 1 with fail;obtain ⟨W1,hW1⟩ : ∃W1 : World,W1=w.alloc (.cells #[.int .i64 P,.int .i64 M,.slice am mn cm,.int .i64 n,.slice a k c] 27):=⟨_,rfl⟩
 rw [<- hW1];have hb1 : Mv w W1:=by rw [hW1];exact an _ _
 have x1 : aO W1 w.heap.size [.int .i64 P,.int .i64 M,.slice am mn cm,.int .i64 n,.slice a k c]:=by rw [hW1];exact LZ _ _ _ rfl
 have X1:=Z5 x1;have c0:=x1.cell 0 rfl;have c1:=x1.cell 1 rfl;have c2:=x1.cell 2 rfl;have c3:=x1.cell 3 rfl;have c4:=x1.cell 4 rfl;clear hW1 x1;go_upto_region 4 with (go_at_call 210;refine (HSz.out _ hb1).mono ?_;rintro e w2 ⟨rfl,hb2⟩;clear c0 c1 c2 c3 c4)
 have hmk:=λV=>Ec NN (by omega) V;go_upto_region 5 with fail;obtain ⟨Br,hBr⟩ : ∃Br,Br=w2.heap.size:=⟨_,rfl⟩
 rw [<- hBr];obtain ⟨W3,hW3⟩ : ∃W3 : World,W3=((w2.alloc (.cells (Array.replicate NN (Value.slice none 0 0)) 22)).alloc (.cells #[.slice (some ⟨Br,0,none⟩) 0 NN] 25)):=⟨_,rfl⟩
 rw [<- hW3];have hb3 : Mv w2 W3:=by rw [hW3];exact du _ _ _
 have hs3 : W3.heap.size=Br+2:=by rw [hW3,hBr];simp
 have hwB : w.heap.size<Br:=by have h1:=X1.out.1;have h2:=hb2.size;omega
 have hwi : zt w.heap.size (Br+1) Br n NN [] W3:=by
  refine ⟨⟨?_,?_⟩,λx hx=>by simp at hx⟩
  ·rw [hW3];exact LZ _ _ _ (by rw [hBr];simp)
  ·refine ⟨rfl,.inr ⟨Br,NN,Array.replicate NN (Value.slice none 0 0),rfl,by omega,?_,by simp,by unfold maxLen;omega,by simp,by simp⟩⟩;rw [hW3,hBr];exact (KK _ _ _ (by simp)).trans (World.alloc_heap_new w2 _)
 have Hwi:=Z5 hwi;have HBr:=Z5 hBr;have hb13:=LY (LY hb1 hb2) hb3;have x3:=(X1.out.af hb2).af hb3;have c0:=x3.cell 0 rfl;have c1:=x3.cell 1 rfl;have c2:=x3.cell 2 rfl;have c3:=x3.cell 3 rfl;have c4:=x3.cell 4 rfl;have Hs3:=Z5 hs3;clear hW3 hwi hBr x3 hmk;go_wp2_with (go_at_call 211;refine (Cs P M am mn cm n a k c W3).mono ?_;rintro e w4 ⟨rfl,hw4⟩;have Hw4:=Z5 hw4;clear hw4 hs3);have hw4:=Hw4.out;have hs3:=Hs3.out;have hb4 : Mv W3 w4:=by rw [hw4];exact an _ _
 have hs4 : w4.heap.size=W3.heap.size+1:=by rw [hw4];simp
 have x4 : aO w4 W3.heap.size [.int .i64 P,.int .i64 M,.slice am mn cm,.int .i64 n,.slice a k c]:=by rw [hw4];exact LZ _ _ _ rfl
 clear hw4 c0 c1 c2 c3 c4;have hi4 : zt w.heap.size (Br+1) Br n NN [] w4:=zt.bq Hwi.out (hb4.block _ (by omega)) (hb4.block _ (by omega)) (λx hx=>by simp at hx) hb4.size;have Hs4:=Z5 hs4;obtain ⟨i0,hi,hz0,hz1,hz2⟩:=info_parts wV;have hMB4 : ∀x,(x=Br+1\/x=Br)->x<w4.heap.size:=λx hx=>by omega
 clear hs3 hs4;refine (wpIn_wide (n:=8)).1 ?_;refine qX (n:=n) (N:=NN) (lb:=#[.pointer (some ⟨W3.heap.size,0,none⟩)]) (R:=R) rfl (enters_of func250 (by kernel_rfl) rfl) rfl (by omega) hm1
  (λx=>x=Br+1\/x=Br) hMB4 ?hseq (zt w.heap.size (Br+1) Br n NN) ?hIa ?hIb ?hIp hi4
  (λpre x=>{ tmps:=#[.agg #[.int .i64 P,.int .i64 M,.slice am mn cm,.int .i64 n,.slice a k c],.pointer (some ⟨w.heap.size,0,none⟩),.slice none 0 0,.int .i64 0,.int .i64 NN,.int .i64 0,.pointer (some ⟨Br+1,0,none⟩),undef,.slice x.a n x.c,
   .tuple #[.int .i64 NN,.int .i64 0],.agg #[.int .i64 P,.int .i64 M,.slice am mn cm,.int .i64 n,.slice a k c],.tuple #[.int .i64 NN,.int .i64 0],.int .i64 NN,.int .i64 0,.int .i64 0,.bool false,undef,.int .i64 NN,.slice (some ⟨Br,0,none⟩) 0 NN,
   .agg #[.int .i64 P,.int .i64 M,.slice am mn cm,.int .i64 n,.slice a k c],.func (.func 250) #[] #[.pointer (some ⟨W3.heap.size,0,none⟩)],.int .i64 (pre.length : Nat),.slice x.a n x.c,undef,undef,undef,undef,undef],defers:=[] })
  ?assign ?body ?done
 case hseq =>
  intro l J MM W hb hs hMM hJa hJb hY h0
  have hs3:=Hs3.out
  have hs4:=Hs4.out
  have hbw : Mv w W:=LY (LY hb13 hb4) hb
  refine HWk.out W W3.heap.size l hbw (x4.af hb) J MM (λx hx=>by have:=hMM x hx;omega) (λV hV=>?_) hJa hJb hY h0
  have hwV : ∀x,x<w.heap.size->V.heap[x]? = w.heap[x]?:=λx hx=>(hV x (by have:=hbw.size;omega) (λh=>by have:=hMM x h;have:=hb4.size;omega)).trans (hbw.block x hx)
  refine ⟨Hmat.out V hwV,?_⟩
  ·refine (Ii (w:=W) (a:=⟨W3.heap.size,4,none⟩) (hV _ ?_ ?_)).trans ((x4.af hb).cell 4 rfl)
   ·have:=(x4.af hb).1;exact this
   ·intro h
    have h2 : (W3.heap.size=Br+1\/W3.heap.size=Br)\/W3.heap.size=w4.heap.size+1:=hMM _ h
    omega
 case hIa =>
  intro pre V V' h hb
  exact h.bq (hb.block _ h.1.1.1) (hb.block _ h.Ge.2) (λx hx=>hb.block _ ((h.2 x hx).1.lt hm1)) hb.size
 case hIb =>
  intro B pre V v hB hx h
  have hs3:=Hs3.out
  have hs4:=Hs4.out
  refine h.bq (Ia _ _ _ _ ?_) (Ia _ _ _ _ ?_) (λx hxp=>Ia _ _ _ _ (hx x hxp)) (((GS 0 V).setCell (p:=⟨B,0,none⟩) (G0 _) v).size)
  ·show Br+1 ≠ B;omega
  ·show Br ≠ B;omega
 case hIp =>
  intro B pre V o hB hx h
  have hs3:=Hs3.out
  have hs4:=Hs4.out
  refine h.bq (World.putObj_heap_other ?_) (World.putObj_heap_other ?_) (λx hxp=>World.putObj_heap_other (hx x hxp)) (grownBy_putObj' V B o).size
  ·omega
  ·omega
 case assign =>
  intro l m pre x W K hK
  gi_wp2
  exact hK
 case body =>
  rintro l m pre x W h hlt hix hxM
  have hcv:=h.1.1.cell 0 rfl
  have hrow:=h.1.2
  obtain ⟨v,hv⟩ : ∃v,v=Value.slice (some ⟨Br,0,none⟩) pre.length NN:=⟨_,rfl⟩
  rw [<- hv] at hcv
  have Hv:=Z5 hv
  have Hh:=Z5 h
  clear hv h
  gi_wp2_with (gi_at_builtin;refine wpListIn_append_fits _ rfl _ _ 25 rfl w.heap.size 22 i0 1 underlying25 hi hz1 Br pre.length NN (pre.map λx=>.slice x.a n x.c) Hv.out (hrow.alloc _) ⟨W.heap.size,0,none⟩ 1 1 [.slice x.a n x.c] rfl rfl (cell_one_new _ _ _) (by simp [Value.oneCell']) (by omega) ?_;intro w1 hown1 hgrow1;have hbo : aO w1 (Br+1) [.slice (some ⟨Br,0,none⟩) pre.length NN]:=(Hh.out.1.1.alloc _).of_block (hgrow1.block _ (Hh.out.1.1.alloc _).1 (λe=>by injection e with e;omega)) hgrow1.size;have hc1:=hbo.cell 0 rfl;have hf1:=hbo.frozen 0)
  have hst:=zt.step Hh.out hix hm1 (λe=>hxM _ (.inl rfl) e.symm) (λe=>hxM _ (.inr rfl) e.symm) hgrow1 hown1
  exact ⟨hst.1,hst.2⟩
 case done =>
  intro xs V hx hI hm hK
  have hcv:=hI.1.1.cell 0 rfl
  have HI:=Z5 hI
  have Hm:=Z5 hm
  have Hx:=Z5 hx
  clear hI hm hx
  go_wp2_with fail
  refine ⟨by simp,.inl ⟨_,_,rfl,run_takeDeferred hK,?_⟩⟩
  have hxl : xs.length=NN:=by rw [<- Hlen.out,<- Hx.out,H8]
  have hIV : zt w.heap.size (Br+1) Br n NN xs (V.putObj w4.heap.size (.deferred none)):=by
   have hs3:=Hs3.out;have hs4:=Hs4.out;have hlo : ∀x ∈ xs,ablk x.a ≠ w4.heap.size:=λx hx e=>by obtain ⟨_,ix⟩:=(HI.out.2 x hx).1.cell 0 hm1 |> λh=>Hi h (Array.getElem?_eq_some_iff.1 hK).1;have h1:=(HI.out.2 x hx).1.cell 0 hm1;rw [e] at h1;simp [World.cell?,hK] at h1
   exact HI.out.bq (World.putObj_heap_other (by omega)) (World.putObj_heap_other (by omega)) (λx hx=>World.putObj_heap_other (hlo x hx)) (grownBy_putObj' V _ _).size
  have hbw4 : Mv w w4:=LY hb13 hb4
  have hbV : Below w.heap.size w4 V:=Hm.out.below (λb hb=>by have:=hbw4.size;omega) hbw4.size
  refine ⟨_,results_tmp2 rfl _ _ _,some ⟨Br,0,none⟩,NN,?_,?_,?_⟩
  ·simp [hxl]
  ·refine ⟨Hlen.out,λ_=>rfl,by unfold maxLen;omega,λi hi=>?_⟩
   obtain ⟨y,hy⟩ : ∃y,xs[i]? = some y:=⟨xs[i],Iu (by omega)⟩
   have hrow:=hIV.1.2
   have hc:=hrow.cellAt i (by omega)
   rw [Js,hy] at hc
   refine ⟨y.a,n,y.c,?_,?_⟩
   ·have e : aL (some ⟨Br,0,none⟩ : OA)+i=i:=by simp [aL]
    rw [e];exact hc
   ·have h2:=(hIV.2 y (List.mem_of_getElem? hy)).1
    have e : ai R i=y.l:=by
     rw [<- Hx.out,aD (by rw [H8];omega),IF];rw [Iu (by omega)] at hy;injection hy with hy
     rw [hy]
    rw [e];exact h2
  ·exact (hbw4.trans hbV).trans (belowK_b (w:=w4) hbw4.size V w4.heap.size _ _ (GQ _) hK rfl rfl)
end
section
variable {O : aM} {El : Int->Prop} {m : Nat} {R : Ll} {P : LI}
theorem uG (F : bZ O El) (hI : BS.Inv El m ⟨R,P⟩) {S : Ll} (hS : bG El m S) (hRS : eQ O El m R S) {v : LI} (hv : Vc El m v) : ∀k,k<=R.length->(RS O El m S (λx=>nth (redTo O R P v k) x) ↔ RS O El m S (λx=>nth v x))
 | 0,_=>Iff.rfl
 | k+1,hk=>by
  have hu : Vc El m (redTo O R P v k):=Vc.redTo F hI.ok hv k (show k<=R.length by omega);have hp : (nth P k).toNat<m:=hI.ok.pl (show k<R.length by omega);have hr : Vc El m (ai R k):=hI.ok.row (show k<R.length by omega);refine Iff.trans ?_ (uG F hI hS hRS hv k (by omega));constructor
  ·intro h;refine (RS.add F hS h (hRS k (by omega)) (hu.at hp)).congr λx hx=>?_;have e1:=hu.at hx;have e2:=F.cl.mul _ _ (hu.at hp) (hr.at hx);rw [redTo,gB F hu hr hp hx,F.mul_comm _ _ (hr.at hx) (hu.at hp),F.add_assoc _ _ _ e1 (F.cl.neg _ e2) e2,F.nA e2,F.add_zero _ e1]
  ·intro h;refine (h.comb F (hRS k (by omega)) (hu.at hp)).congr λx hx=>?_;rw [redTo,gB F hu hr hp hx,F.mul_comm _ _ (hu.at hp) (hr.at hx)]
theorem fh {A B : Ll} (h : ∀r ∈ A,RS O El m B (λx=>nth r x)) : eQ O El m A B:=λi hi=>h _ (gv hi)
theorem lN {A B : Ll} (h : eQ O El m A B) {r : LI} (hr : r ∈ A) : RS O El m B (λx=>nth r x):=by obtain ⟨i,hi,rfl⟩:=kr hr;exact h i hi
theorem gg (F : bZ O El) {A : Ll} {r : LI} (hr : r ∈ A) : RS O El m A (λx=>nth r x):=by obtain ⟨i,hi,rfl⟩:=kr hr;exact RS.row F hi
theorem eQ.tr {A B C : Ll} (h : eQ O El m A B) (h2 : eQ O El m B C) : eQ O El m A C:=λi hi=>h2.rs (h i hi)
theorem vS (F : bZ O El) {X Y : Ll} (hX : bG El m X) (hY : bG El m Y) (h1 : eQ O El m X Y) (h2 : eQ O El m Y X) : bz O m X=bz O m Y:=by obtain ⟨x1,x2⟩:=fB F hX;obtain ⟨y1,y2⟩:=fB F hY;exact Ch F (di F hX) (di F hY) (dI F hX).1 (dI F hY).1 (dI F hX).2 (dI F hY).2 (dw F hX) (dw F hY) ((x1.tr h1).tr y2) ((y1.tr h2).tr x2)
theorem kH {A B : Ll} (hA : bG El m A) (hB : bG El m B) : bG El m (A ++ B):=λr hr=>by
 rcases List.mem_append.1 hr with h | h
 ·exact hA r h
 ·exact hB r h
def pJ (O : aM) (R : Ll) (P : LI) (B : Ll) : Ll:=B.map λv=>redTo O R P v R.length
def Gw (O : aM) (m : Nat) (R : Ll) (P : LI) (B : Ll) : Ll:=bz O m (bz O m (pJ O R P B) ++ R)
theorem wh (F : bZ O El) (hI : BS.Inv El m ⟨R,P⟩) {B : Ll} (hB : bG El m B) : bG El m (pJ O R P B):=λr hr=>by obtain ⟨v,hv,rfl⟩:=List.mem_map.1 hr;exact Vc.redTo F hI.ok (hB v hv) R.length (GQ _)
theorem FM (F : bZ O El) (hR : bG El m R) (hP : kN R P m) (hlen : R.length=P.length) {B : Ll} (hB : bG El m B) : Gw O m R P B=bz O m (R ++ B):=by
 have hI:=ue hR hP hlen;have hD:=wh F hI hB;have hC:=di F hD;obtain ⟨c1,c2⟩:=fB F hD;have hX:=kH hC hR;have hY:=kH hR hB;refine vS F hX hY (fh λr hr=>?_) (fh λr hr=>?_)
 ·rcases List.mem_append.1 hr with h | h
  ·refine eQ.rs (fh λd hd=>?_) (lN c1 h);obtain ⟨v,hv,rfl⟩:=List.mem_map.1 hd;exact (uG F hI hY (fh λy hy=>gg F (List.mem_append.2 (.inl hy))) (hB v hv) R.length (GQ _)).2 (gg F (List.mem_append.2 (.inr hv)))
  ·exact gg F (List.mem_append.2 (.inl h))
 ·rcases List.mem_append.1 hr with h | h
  ·exact gg F (List.mem_append.2 (.inr h))
  ·refine (uG F hI hX (fh λy hy=>gg F (List.mem_append.2 (.inr hy))) (hB r h) R.length (GQ _)).1 ?_;refine eQ.rs (fh λy hy=>gg F (List.mem_append.2 (.inl hy))) (lN c2 (List.mem_map.2 ⟨r,h,rfl⟩))
theorem ER (F : bZ O El) {A B : Ll} (hA : bG El m A) (hB : bG El m B) : bz O m (A ++ bz O m B)=bz O m (A ++ B):=by
 obtain ⟨b1,b2⟩:=fB F hB;refine vS F (kH hA (di F hB)) (kH hA hB) (fh λr hr=>?_) (fh λr hr=>?_)
 ·rcases List.mem_append.1 hr with h | h
  ·exact gg F (List.mem_append.2 (.inl h))
  ·exact eQ.rs (fh λy hy=>gg F (List.mem_append.2 (.inr hy))) (lN b1 h)
 ·rcases List.mem_append.1 hr with h | h
  ·exact gg F (List.mem_append.2 (.inl h))
  ·exact eQ.rs (fh λy hy=>gg F (List.mem_append.2 (.inr hy))) (lN b2 h)
end
section
variable {P M : Int} {mod : LI}
theorem ko {m : Nat} {L : Ll} (hE : aG P M mod m L=0) : L.length<=m:=by have h:=(fA (aQ hE).2.2.2).2;rw [GW] at h;rw [<- h,dB];exact (ef _ L m).1
theorem sO {m' : Nat} {D0 : Ll} (hfB : ba P M mod=true) (hD : bG (ah P M.toNat mod).El m' D0) (h1 : 1<=m') (h64 : m'<=64) (hl : D0.length<=256) : aG P M mod m' (bz (ah P M.toNat mod).ops m' D0)=0:=by
 have F:=dM hfB;have hKR:=di F hD;have hidem:=nF F hD;have hcl : (bz (ah P M.toNat mod).ops m' D0).length<=256:=by unfold bz;rw [Ir,bV];omega
 generalize bz (ah P M.toNat mod).ops m' D0=D at *;have hf : dk P M mod m' D=0:=j8 hfB (by omega) hcl hKR;have hsp : db P M mod m' D=0:=by unfold db;rw [GV hf,GW,GV];exact hidem
 have hle : gK (m' : Int)=0:=o0 (by omega) (by omega);unfold aG;rw [GV hfB,GV hle];exact hsp
end
section
open Go.RowKit
end
section
open Go.RowKit
end
section
open Go.RowKit
end
section
open Go.RowKit
end
section
open Go.RowKit
end
section
open Go.RowKit
end
section
open Go.RowKit
end
end Go.Proofs.YthglbncgemdcbaaGreat
