import Derived.Test.YtjfiflldinnhmaaGreatHSO23
import Derived.Test.YtjfiflldinnhmaaGreatHSO22
namespace Go.Proofs.YtjfiflldinnhmaaGreat
set_option linter.all false
set_option maxRecDepth 100000
set_option maxHeartbeats 8000000
open Go.RowKit Go.Proofs.Tryz
theorem B2 (O : aL) (L : LL) (m : Nat) (C : iV) (d : Nat) (s z : LI) (T : LL) (hd : s.length+d=C.W) (hr : cG O L m C s (dL O L m C s z)=true) (hT : T.length ≠ 65536) :
  iL O L m C d s z T=fG (iL O L m C (d - 1)) s z (if s.length<C.W then (dL O L m C s z).filter (λx=>decide (¬ x ∈ z)) else []) (T ++ [dL O L m C s z]):=by
 match d with
 | 0 =>
  have h1 : (if s.length<C.W then (dL O L m C s z).filter (λx=>decide (¬ x ∈ z)) else [])=[]:=EG (by omega)
  rw [h1,iL,EH hr,EG hT]
  rfl
 | d+1 =>
  have h1 : (if s.length<C.W then (dL O L m C s z).filter (λx=>decide (¬ x ∈ z)) else [])=lr C s z (dL O L m C s z):=rfl
  rw [h1,iL,EH hr,EG hT]
  rfl
theorem zq (O : aL) (L : LL) (m : Nat) (C : iV) (d : Nat) (s z : LI) (T : LL) (hr : cG O L m C s (dL O L m C s z)=false) : iL O L m C d s z T=(11,[]):=by
 match d with
 | 0=>rw [iL];exact EG (by rw [hr];simp)
 | d+1=>rw [iL];exact EG (by rw [hr];simp)
theorem zG (O : aL) (L : LL) (m : Nat) (C : iV) (d : Nat) (s z : LI) (T : LL) (hr : cG O L m C s (dL O L m C s z)=true) (hT : T.length=65536) : iL O L m C d s z T=(8,[]):=by
 match d with
 | 0=>rw [iL,EH hr,EH hT]
 | d+1=>rw [iL,EH hr,EH hT]
theorem Ar {R R' : LA} (h : R <+: R') {i : Nat} (hi : i<R.length) : aK R' i=aK R i:=by obtain ⟨X,rfl⟩:=h;rw [eD (show i<(R ++ X).length by simp;omega),eD hi,Gs]
theorem zM {R R' : LL} (h : R <+: R') {i : Nat} (hi : i<R.length) : af R' i=af R i:=by obtain ⟨X,rfl⟩:=h;rw [aE (show i<(R ++ X).length by simp;omega),aE hi,Gs]
theorem ym (R : LA) (r : OA × Nat) : aK (R ++ [r]) R.length=r:=by rw [eD (by simp)];simp
theorem ze (R : LL) (r : LI) : af (R ++ [r]) R.length=r:=by rw [aE (by simp)];simp
structure ma where
 ar : OA
 cr : Nat
 R : LA
 T : LL
def ma.J (pb : Nat) (σ : ma) (x : Nat) : Prop:=x=pb\/bH σ.ar σ.R x
structure jk (w : World) (B pb b : Nat) (P M : Int) (am : OA) (mn cm : Nat) (m : Nat) (a : OA) (n c : Nat) (ay : OA) (ny cy : Nat) (C : iV) (σ : ma) : Prop where
 box : ba w pb (kG b P M am mn cm m a n c ay ny cy C (.slice σ.ar σ.T.length σ.cr) 0)
 om : aN w B σ.ar σ.T.length σ.cr σ.R σ.T
 np : ¬ bH σ.ar σ.R pb
 ln : σ.T.length<=65536
theorem jk.lt {w : World} {B pb b : Nat} {P M : Int} {am : OA} {mn cm m : Nat} {a : OA} {n c : Nat} {ay : OA} {ny cy : Nat} {C : iV} {σ : ma} (h : jk w B pb b P M am mn cm m a n c ay ny cy C σ) {x : Nat} (hx : σ.J pb x) : x<w.heap.size:=by
 rcases hx with rfl | hx
 ·exact h.box.1
 ·exact (h.om.lt x hx).2
theorem jk.dm {w w' : World} {I : Nat->Prop} {B pb b : Nat} {P M : Int} {am : OA} {mn cm m : Nat} {a : OA} {n c : Nat} {ay : OA} {ny cy : Nat} {C : iV} {σ : ma} (h : jk w B pb b P M am mn cm m a n c ay ny cy C σ)
  (hM : aw w w' I I) (hI : ∀x,σ.J pb x->¬ I x) : jk w' B pb b P M am mn cm m a n c ay ny cy C σ :=
 ⟨h.box.dm hM (hI _ (.inl rfl)),h.om.bt λx hx=>hM.block x (h.om.lt x hx).2 (hI x (.inr hx)),h.np,h.ln⟩
theorem jk.aa {w w' : World} {B pb b : Nat} {P M : Int} {am : OA} {mn cm m : Nat} {a : OA} {n c : Nat} {ay : OA} {ny cy : Nat} {C : iV} {σ : ma} (h : jk w B pb b P M am mn cm m a n c ay ny cy C σ)
  (hM : JA w w') : jk w' B pb b P M am mn cm m a n c ay ny cy C σ:=h.dm (I:=λ_=>False) (Jc hM _) λ_ _ h=>h
def sS (w0 : World) (pb b : Nat) (P M : Int) (am : OA) (mn cm : Nat) (m : Nat) (a : OA) (n c : Nat) (ay : OA) (ny cy : Nat) (C : iV) (σ : ma) (V : Int × LL) (w : World) (e : Ending) (w' : World) : Prop :=
 ∃σ' : ma,jk w' w0.heap.size pb b P M am mn cm m a n c ay ny cy C σ'/\σ.R <+: σ'.R/\σ.T <+: σ'.T/\aw w w' (σ.J pb) (σ'.J pb)/\e = .returned (.int .i64 V.1)/\(V.1=0->σ'.T=V.2)
theorem jk.push {V w5 : World} {B pb b : Nat} {P M : Int} {am : OA} {mn cm m : Nat} {a : OA} {n c : Nat} {ay : OA} {ny cy : Nat} {C : iV} {σ : ma} (h : jk V B pb b P M am mn cm m a n c ay ny cy C σ) (hB : B<=V.heap.size)
  {a3 : OA} {c3 : Nat} {t : LI} (hr : V.ownsRow B 3 1 (.slice a3 t.length c3) t.length (t.map (Value.int .i64))) (hra : a3 ≠ none->¬ σ.J pb (ah a3)) (hT : σ.T.length<65536) {o : Obj}
  {a5 : OA} {c5 : Nat} (hown : w5.ownsRow B 22 1 (.slice a5 (σ.T.length+1) c5) (σ.T.length+1) (List.zipWith gU σ.R σ.T ++ [.slice a3 t.length c3])) (hg : (V.alloc o).grownBy w5 (Value.slice σ.ar σ.T.length σ.cr).ownBlock)
  (hap : ∀b,b<(V.alloc o).heap.size->db σ.ar b->db a5 b) :
  jk (w5.setCell ⟨pb,10,none⟩ (.slice a5 (σ.T.length+1) c5)) B pb b P M am mn cm m a n c ay ny cy C ⟨a5,c5,σ.R ++ [(a3,c3)],σ.T ++ [t]⟩ /\
   aw V (w5.setCell ⟨pb,10,none⟩ (.slice a5 (σ.T.length+1) c5)) (λx=>σ.J pb x\/(a3 ≠ none/\x=ah a3)) ((⟨a5,c5,σ.R ++ [(a3,c3)],σ.T ++ [t]⟩ : ma).J pb):=by
 have hal:=aA V o;have hO1 : aN (V.alloc o) B σ.ar σ.T.length σ.cr σ.R σ.T:=h.om.aa hal;have hra2 : a3 ≠ none->¬ bH σ.ar σ.R (ah a3):=λh0 hh=>hra h0 (.inr hh);have hO5:=Jt hO1 (aY hr hal) hra2 hown hg hap;have hnp : σ.ar=none\/ah σ.ar ≠ pb:=by
  by_cases e : σ.ar=none
  ·exact .inl e
  ·exact .inr λe2=>h.np (.inl ⟨e,e2.symm⟩)
 have hbox5 : ba w5 pb (kG b P M am mn cm m a n c ay ny cy C (.slice σ.ar σ.T.length σ.cr) 0):=(h.box.aa hal).dm (Jj (K:=λx=>σ.ar ≠ none/\x=ah σ.ar) hg λh0=>⟨h0,rfl⟩) λ⟨h0,e⟩=>by
  rcases hnp with h1 | h1
  ·exact h0 h1
  ·exact h1 e.symm
 have hne : ¬ bH a5 (σ.R ++ [(a3,c3)]) pb:=λhh=>by
  rcases bH.push hO1 hap hh with h1 | ⟨h1,h2⟩ | h1
  ·exact h.np h1
  ·exact hra h1 (.inl h2.symm)
  ·have h2:=h.box.1;have h3:=hal.size;omega
 refine ⟨⟨?_,?_,hne,by simp;omega⟩,?_⟩
 ·have h1:=hbox5.setCell 10 (.slice a5 (σ.T.length+1) c5);show ba _ pb (kG b P M am mn cm m a n c ay ny cy C (.slice a5 (σ.T ++ [t]).length c5) 0);rw [ER,E0];exact h1
 ·show aN _ B a5 (σ.T ++ [t]).length c5 _ _;rw [ER,E0];exact hO5.bt λx hx=>EZ _ _ _ _ λe=>hne (by have e' : x=pb:=e;rw [<- e'];exact hx)
 ·have hM0 : aw V (V.alloc o) (λx=>σ.J pb x\/(a3 ≠ none/\x=ah a3)) (λx=>σ.J pb x\/(a3 ≠ none/\x=ah a3)):=Jc hal _;have hM1 : aw (V.alloc o) w5 (λx=>σ.J pb x\/(a3 ≠ none/\x=ah a3)) (λx=>σ.J pb x\/(a3 ≠ none/\x=ah a3)):=Jj hg λh0=>.inl (.inr (.inl ⟨h0,rfl⟩));have hM2:=hM0.trans hM1;have hb0 : Below 0 w5 (w5.setCell ⟨pb,10,none⟩ (.slice a5 (σ.T.length+1) c5)):=(EI 0 w5).setCell (EL _) _;refine ⟨hb0.os.trans hM2.os,hb0.tape.trans hM2.tape,hb0.output.trans hM2.output,ET hM2.size hb0.size,λx hx hI=>?_,λx hx=>?_⟩
  ·exact (EZ _ _ _ _ λe=>hI (.inl (.inl e))).trans (hM2.block x hx hI)
  ·rcases hx with hx | hx
   ·exact .inl (.inl (.inl hx))
   ·rcases bH.push hO1 hap hx with h1 | h1 | h1
    ·exact .inl (.inl (.inr h1))
    ·exact .inl (.inr h1)
    ·exact .inr (ET hal.size h1)
theorem jk.tP {V w5 : World} {B pb b : Nat} {P M : Int} {am : OA} {mn cm m : Nat} {a : OA} {n c : Nat} {ay : OA} {ny cy : Nat} {C : iV} {σ : ma} (h : jk V B pb b P M am mn cm m a n c ay ny cy C σ)
  {o : Obj} (hg : (V.alloc o).grownBy w5 (Value.slice σ.ar σ.T.length σ.cr).ownBlock) : ba w5 pb (kG b P M am mn cm m a n c ay ny cy C (.slice σ.ar σ.T.length σ.cr) 0) :=
 (h.box.aa (aA V o)).dm (Jj (K:=λx=>σ.ar ≠ none/\x=ah σ.ar) hg λh0=>⟨h0,rfl⟩) λ⟨h0,e⟩=>h.np (.inl ⟨h0,e⟩)
theorem aw.BX {w V Z : World} {I I' A : Nat->Prop} (h : JA w V) (g : aw V Z (λx=>I x\/A x) I') (hA : ∀x,A x->w.heap.size<=x) : aw w Z I I' :=
 ⟨g.os.trans h.os,g.tape.trans h.tape,g.output.trans h.output,ET h.size g.size,λx hx hI=>(g.block x (Fc hx h.size) λhh=>by
  rcases hh with hh | hh
  ·exact hI hh
  ·have:=hA x hh;omega).trans (h.block x hx),λx hx=>by
  rcases g.grow x hx with hh | hh
  ·rcases hh with hh | hh
   ·exact .inl hh
   ·exact .inr (hA x hh)
  ·exact .inr (ET h.size hh)⟩
theorem mO {w0 : World} {b : Nat} {G : cC} {a : OA} {n : Nat} {L : LL} {m : Nat} {ay : OA} {ny : Nat} {C : iV} (pb : Nat) (P M : Int) (am : OA) (mn cm c cy : Nat)
  (E : vj w0 b G a n L m ay ny C) (hpb : w0.heap.size<=pb) :
  ∀(d : Nat) (w : World) (σ : ma) (sa : OA) (ns cs : Nat) (s : LI) (az : OA) (nz cz : Nat) (z : LI),ns+d=C.W->nz<=64->JA w0 w->jk w w0.heap.size pb b P M am mn cm m a n c ay ny cy C σ ->
   Ints w sa ns s->Ints w az nz z->(0<ns->¬ σ.J pb (ah sa))->(0<nz->¬ σ.J pb (ah az))->z.Nodup->(∀x ∈ z,0<=x/\x<(m : Int)) ->
   Calls prog 216 #[.pointer (some ⟨pb,0,none⟩),.slice sa ns cs,.slice az nz cz] w (sS w0 pb b P M am mn cm m a n c ay ny cy C σ (iL G.ops L m C d s z σ.T) w)
 | d,w,σ,sa,ns,cs,s,az,nz,cz,z,hd,hnz,hb,hB,hs,hz,hsp,hzp,hzn,hzb=>by
  have IH : Hid (∀d',d'+1=d->∀(w : World) (σ : ma) (sa : OA) (ns cs : Nat) (s : LI) (az : OA) (nz cz : Nat) (z : LI),ns+d'=C.W->nz<=64->JA w0 w->jk w w0.heap.size pb b P M am mn cm m a n c ay ny cy C σ ->
   Ints w sa ns s->Ints w az nz z->(0<ns->¬ σ.J pb (ah sa))->(0<nz->¬ σ.J pb (ah az))->z.Nodup->(∀x ∈ z,0<=x/\x<(m : Int)) ->
   Calls prog 216 #[.pointer (some ⟨pb,0,none⟩),.slice sa ns cs,.slice az nz cz] w (sS w0 pb b P M am mn cm m a n c ay ny cy C σ (iL G.ops L m C d' s z σ.T) w)):=λd' hd'=>by subst hd';exact mO pb P M am mn cm c cy E hpb d'
  have hm6:=E.m6;have hw6:=E.w6;have HE:=Z5 E;have Hsl:=Z5 hs.len;have Hzl:=Z5 hz.len;have p4:=hB.box.cell 4 rfl;have p7:=hB.box.cell 7 rfl;have p8:=hB.box.cell 8 rfl;obtain ⟨RF,hRF⟩ : ∃RF,iL G.ops L m C d s z σ.T=RF:=⟨_,rfl⟩
  rw [hRF];have HRF:=Z5 hRF;have HB:=Z5 hB;have Hz:=Z5 (E6 hzn hzb);obtain ⟨mo,hmo⟩ : ∃mo,(if C.cos=true then m else C.M)=mo:=⟨_,rfl⟩
  have Hmo:=Z5 hmo;obtain ⟨bc,hbc⟩ : ∃bc,C.cos=bc:=⟨_,rfl⟩
  rw [hbc] at p7;have Hbc:=Z5 hbc;clear hbc;have hol:=zW m s z;have horng : ∀j,j<(gW m s z).length->0<=nth (gW m s z) j/\nth (gW m s z) j<m:=λj hj=>by
   rcases uk (aO hj) with h1 | h1
   ·exact hzb _ h1
   ·exact ⟨h1.1,h1.2.1⟩
  have Horng:=Z5 horng;have HO : Hid (Calls prog 261 #[.pointer (some ⟨pb,0,none⟩),.slice sa ns cs,.slice az nz cz] w (cB w (gW m s z))):=pC pb m sa ns cs s az nz cz z w p4 hs hz (by omega) (by omega);clear hRF hB hzn hzb E hmo horng;go_enter func216,ntmps216;go_upto_if 16 with fail;go_cut [7] (λv wx=>v = .int .i64 mo/\w=wx);case first =>
   cases bc
   ·have Hm2 : Hid (mo=C.M):=by show _=_;rw [<- Hmo.out,Hbc.out];rfl
    go_wp2_with fail
    go_meet
    exact ⟨by rw [Hm2.out],rfl⟩
   ·have Hm2 : Hid (mo=m):=by show _=_;rw [<- Hmo.out,Hbc.out];rfl
    go_wp2_with fail
    go_meet
    exact ⟨by rw [Hm2.out],rfl⟩
  obtain ⟨rfl,rfl⟩:=hcut;go_wp2_with fail;refine HO.out.mono ?_;rintro e w2 ⟨a2,c2,rfl,hown2,hb2⟩;have hB2:=HB.out.aa hb2;have hGr:=lD pb a n c L m a2 _ c2 (gW m s z) mo (hB2.box.cell 0 rfl) (hB2.box.cell 5 rfl) (HE.out.g.aa (hb.trans (hb2.mono hb.size))) (HE.out.pA.aa (hb.trans (hb2.mono hb.size))) HE.out.rws (I9 hown2).1 Horng.out HE.out.n6 (by rw [Hzl.out] at hol;omega);have hgl:=xd (O:=G.ops) (L:=L) (Q:=gW m s z) (most:=mo);have Hcs : Hid (dL G.ops L m C s z=eH (tm G.ops L (gW m s z) mo)):=by show _=_;rw [dL,Hmo.out]
  have hcn : (dL G.ops L m C s z).Nodup:=vh Hz.out.1;have hcb : ∀x ∈ dL G.ops L m C s z,0<=x/\x<(m : Int):=λx hx=>by
   rcases uk (xd x (AF.1 hx)) with h1 | h1
   ·exact Hz.out.2 x h1
   ·exact ⟨h1.1,h1.2.1⟩
  have hcl : (dL G.ops L m C s z).length<=64:=ET (nR hcn hcb) hm6;rw [Hcs.out,fH] at hcl;have Hcn:=Z5 (E6 hcn hcb);unfold cB at hGr;obtain ⟨gl,hgle⟩ : ∃gl,(tm G.ops L (gW m s z) mo).length=gl:=⟨_,rfl⟩
  have Hgl:=Z5 hgle;rw [hgle] at hGr hcl;obtain ⟨t,hte⟩ : ∃t,dL G.ops L m C s z=t:=⟨_,rfl⟩
  have Htl : Hid (t.length=gl):=by show _=_;rw [<- hte,Hcs.out,fH,hgle]
  have Hcs2 : Hid (eH (tm G.ops L (gW m s z) mo)=t):=by show _=_;rw [<- hte,Hcs.out]
  rw [hte] at Hcn;have Hte:=Z5 hte;clear hcn hcb hgle hgl hte Hcs;have HGr:=Z5 hGr;clear hGr;generalize (gW m s z).length=ol at *;go_wp2_with fail;refine HGr.out.mono ?_;rintro e w3 ⟨a3,c3,rfl,hown3,hb3⟩;have hbw3:=I8 hb2 hb3;have hown3':=aW hown3 (B':=w.heap.size) hb2.size;have HSo:=Z5 (ui w.heap.size a3 gl c3 _ w3 hown3' hbw3.size (by omega));rw [Hcs2.out] at HSo;clear hown3 hown3';go_wp2_with fail;refine HSo.out.mono ?_;rintro e w4 ⟨rfl,hown4,_,hb4⟩;have hbw4 : JA w w4:=hbw3.trans hb4;have hB4:=HB.out.aa hbw4;have ht4:=(I9 hown4).1;have HRt:=Z5 (mR (c:=c) (cy:=cy) pb P M am mn cm _ 0 sa ns cs s a3 gl c3 t HE.out (hb.trans (hbw4.mono hb.size)) hB4.box (hs.aa hbw4) ht4 (by omega));obtain ⟨rr,hrr⟩ : ∃rr,cG G.ops L m C s t=rr:=⟨_,rfl⟩
  rw [hrr] at HRt;have Hrr : Hid (cG G.ops L m C s (dL G.ops L m C s z)=rr):=by show _=_;rw [Hte.out];exact hrr
  clear hrr;go_wp2_with fail;refine HRt.out.mono ?_;rintro e w5 ⟨rfl,hb5⟩;have hbw5 : JA w w5:=I8 hbw4 hb5;have hB5:=HB.out.aa hbw5;cases rr
  ·have HF : Hid (RF=(11,[])):=by show _=_;rw [<- HRF.out,zq _ _ _ _ _ _ _ _ Hrr.out]
   go_wp2_with fail;go_ret;exact ⟨σ,hB5,FI,FI,Jc hbw5 _,by rw [HF.out];rfl,λh=>by rw [HF.out] at h;cases h⟩
  have p10:=hB5.box.cell 10 rfl;by_cases hbig : σ.T.length=65536
  ·have HF : Hid (RF=(8,[])):=by show _=_;rw [<- HRF.out,zG _ _ _ _ _ _ _ _ Hrr.out hbig]
   have hbg : ((σ.T.length : Int) == 65536)=true:=by simp;omega
   clear hbig;go_wp2_with fail;go_ret;exact ⟨σ,hB5,FI,FI,Jc hbw5 _,by rw [HF.out];rfl,λh=>by rw [HF.out] at h;cases h⟩
  have hbg : ((σ.T.length : Int) == 65536)=false:=by simp;omega
  have HF : Hid (RF=fG (iL G.ops L m C (d - 1)) s z (if ns<C.W then t.filter (λx=>decide (¬ x ∈ z)) else []) (σ.T ++ [t])):=by show _=_;rw [<- HRF.out,B2 _ _ _ _ _ _ _ _ (by rw [Hsl.out];exact hd) Hrr.out hbig,Hsl.out,Hte.out]
  have hTl:=hB5.ln;have hTlt : σ.T.length<65536:=by omega
  have hown5:=aY hown4 hb5;have f10:=hB5.box.frozen 10;have hcn:=bk w5 (.slice a3 gl c3) 22;have hbn:=aA w5 (.cells #[.slice a3 gl c3] 22);have hsz5:=hbw5.size;have hszb:=hb.size;clear hbig;go_wp2_with (at_builtin;refine aX rfl _ _ 25 22 rfl (.slice none 0 0) 24 underlying25 eh rfl w0.heap.size σ.ar σ.T.length σ.cr _ rfl ((hB5.om.own).alloc _) ⟨w5.heap.size,0,none⟩ 1 (.slice a3 gl c3) rfl hcn rfl (by omega) (by unfold maxLen;omega) (by simp;omega) ?_;intro a6 c6 w6 hown6 hgr6 hap6;have q10:=(hB5.tP hgr6).cell 10 rfl;have qf10:=(hB5.tP hgr6).frozen 10);obtain rfl:=Htl.out;have hra : a3 ≠ none->¬ σ.J pb (ah a3):=λh0 hj=>by have h1:=HB.out.lt hj;have h2:=(aU hown5 h0).1;omega
  obtain ⟨hB7,hM7⟩:=jk.push hB5 (ET hszb hsz5) (aW hown5 hszb) hra hTlt hown6 hgr6 hap6;obtain ⟨Z,hZ⟩ : ∃Z : World,Z=w6.setCell ⟨pb,10,none⟩ (.slice a6 (σ.T.length+1) c6):=⟨_,rfl⟩
  rw [<- hZ] at hB7 hM7;have hB05 : JA w0 w5:=hb.trans (hbw5.mono hszb);have hbZ : JA w0 Z:=hB05.trans (hM7.below (λx hx=>by
   rcases hx with (hx | hx) | ⟨h1,h2⟩
   ·rw [hx];exact hpb
   ·exact (hB5.om.lt x hx).1
   ·rw [h2];exact ET hszb (aU hown5 h1).1) hB05.size)
  have hMwZ : aw w Z (σ.J pb) ((⟨a6,c6,σ.R ++ [(a3,c3)],σ.T ++ [t]⟩ : ma).J pb):=aw.BX hbw5 hM7 λx hx=>by rw [hx.2];exact (aU hown5 hx.1).1
  have hsZ:=hs.dm hMwZ hsp;have hzZ:=hz.dm hMwZ hzp;have hsJ : 0<ns->¬ (⟨a6,c6,σ.R ++ [(a3,c3)],σ.T ++ [t]⟩ : ma).J pb (ah sa):=λh0=>hMwZ.not (hs.lt h0) (hsp h0);have hRl : σ.R.length=σ.T.length:=hB5.om.rl;have hszZ:=hMwZ.size;have HCh : Hid (Calls prog 243 #[.pointer (some ⟨pb,0,none⟩),.slice sa ns cs,.slice az nz cz,.slice a3 t.length c3,.func (.func 216) #[.pointer (some ⟨pb,0,none⟩)] #[]] Z
    (sS w0 pb b P M am mn cm m a n c ay ny cy C σ RF w)):=by
   refine (mZ (σ:=ma) (λV τ=>JA w0 V/\jk V w0.heap.size pb b P M am mn cm m a n c ay ny cy C τ/\Ints V sa ns s/\(0<ns->¬ τ.J pb (ah sa))/\(σ.R ++ [(a3,c3)]) <+: τ.R/\(σ.T ++ [t]) <+: τ.T) (λτ x=>τ.J pb x) (λτ=>τ.T)
    (λs z T=>iL G.ops L m C (d - 1) s z T) pb C.W sa ns cs s az nz cz z a3 t.length c3 t Z ⟨a6,c6,σ.R ++ [(a3,c3)],σ.T ++ [t]⟩ ⟨hbZ,hB7,hsZ,hsJ,FI,FI⟩ ?_ (hB7.box.cell 9 rfl) ?_ (λV τ x h hx=>h.2.1.lt hx) hzZ Hcn.out.1 (by omega) (by omega) (by omega) (by omega) ?_).mono ?_
   ·rintro V1 V2 τ ⟨e1,e2,e3,e4,e5,e6⟩ hM;refine ⟨e1.trans (hM.below (λx hx=>ET hbZ.size hx.1) e1.size),e2.dm hM λx hx hh=>hh.2 hx,e3.dm hM λhn hx=>?_,e4,e5,e6⟩;have h1:=hsZ.lt hn;omega
   ·rintro V τ ⟨e1,e2,e3,e4,e5,e6⟩;refine ⟨e3,?_⟩;have hlt : σ.T.length<τ.T.length:=by obtain ⟨X,hX⟩:=e6;rw [<- hX];simp <;> omega
    have h1:=e2.om.ints hlt;rw [zM e6 (by simp),ze,<- hRl,Ar e5 (by simp),ym] at h1;exact h1
   ·intro hlt V1 τ a1 c1 a2 c2 j zc hj hzc hnj hI hM h1 h2 h3 h4;obtain ⟨d',hd'⟩ : ∃d',d'+1=d:=⟨d - 1,by omega⟩
    have hzl : zc.length<=64/\zc.Nodup/\∀x ∈ zc,0<=x/\x<(m : Int):=by
     have hsub : ∀x ∈ (t.take j).filter (λx=>decide (¬ x ∈ z)),x ∈ t/\¬ x ∈ z:=λx hx=>by rw [Gj] at hx;exact ⟨Gl hx.1,by simpa using hx.2⟩
     have hnd : zc.Nodup:=by rw [hzc,FT];refine ⟨Hz.out.1,Ir _ (Gt (Hj _ _) Hcn.out.1),λx hx y hy e=>?_⟩;exact (hsub y hy).2 (e ▸ hx)
     have hbd : ∀x ∈ zc,0<=x/\x<(m : Int):=λx hx=>by
      rw [hzc] at hx;rcases List.mem_append.1 hx with hx | hx
      ·exact Hz.out.2 x hx
      ·exact Hcn.out.2 x (hsub x hx).1
     exact ⟨ET (nR hnd hbd) hm6,hnd,hbd⟩
    have h5:=IH.out d' hd' V1 τ a1 (ns+1) c1 (s ++ [nth t j]) a2 zc.length c2 zc (by omega) hzl.1 hI.1 hI.2.1 h1 h2 (λ_=>h3) (λh0=>h4 (by intro e;have:=h2.pl h0;rw [e] at this;cases this)) hzl.2.1 hzl.2.2;have hdd : d - 1=d':=by omega
    refine h5.mono ?_;rintro e V2 ⟨τ',g1,g2,g3,g4,g5,g6⟩;rw [hdd];exact ⟨τ',⟨hI.1.trans (g4.below (λx hx=>by
      rcases hx with hx | hx
      ·rw [hx];exact hpb
      ·exact (hI.2.1.om.lt x hx).1) hI.1.size),g1,hI.2.2.1.dm g4 hI.2.2.2.1,λhn=>g4.not (hI.2.2.1.lt hn) (hI.2.2.2.1 hn),hI.2.2.2.2.1.trans g2,hI.2.2.2.2.2.trans g3⟩,g4,g5,g6⟩
   ·rintro e V2 ⟨τ',g1,g2,g3,g4⟩;rw [<- HF.out] at g3 g4;exact ⟨τ',g1.2.1,(G0 _ _).trans g1.2.2.2.2.1,(G0 _ _).trans g1.2.2.2.2.2,hMwZ.trans g2,g3,g4⟩
  rw [<- hZ];clear IH HO HSo HGr HRt hown4 hown5 hown6 hgr6 hap6 hB7 hM7 hZ hMwZ hsZ hzZ HF;go_wp2_with fail;refine HCh.out.mono ?_;rintro e w7 ⟨τ',g1,g2,g3,g4,rfl,g6⟩;go_wp2_with fail;go_ret;exact ⟨τ',g1,g2,g3,g4,rfl,g6⟩
def DJ (G : cC) (m : Nat) (L : LL) (S : LI) : LL:=iI G (iI G L m ++ (aP false S m).map (iz m)) m
theorem Cz (G : cC) (m : Nat) (L : LL) (S : LI) : DJ G m L S=p9 G.ops m L (aP false S m):=rfl
abbrev uD (n : Int) (l : LI) (i : Nat) : Prop:=1<=nth l i/\nth l i<=n/\(i=0\/nth l (i - 1)<nth l i)
def na (l : LI) (n : Int) : Int:=if 1<=n/\n<=64/\∀i,i<l.length->uD n l i then 0 else 6
def fS (l : LI) (n : Nat) : Nat->LI
 | 0=>[]
 | k+1=>if ((n - k : Nat) : Int) ∈ l then fS l n k else fS l n k ++ [(k : Int)+1]
def ye (l : LI) (n : Nat) : LI:=fS l n n
theorem qw (l : LI) (n : Nat) : ∀k,(fS l n k).length<=k
 | 0=>EF _
 | k+1=>by have:=qw l n k;rw [fS];split <;> simp <;> omega
def Cj (l : LI) (n : Int) (w : World) (e : Ending) (w' : World) : Prop :=
 JA w w'/\((na l n ≠ 0/\e = .returned (.tuple #[.slice none 0 0,.int .i64 (na l n)])) \/
  (na l n=0/\∃a c,e = .returned (.tuple #[.slice a (ye l n.toNat).length c,.int .i64 0])/\w'.ownsRow w.heap.size 3 1 (.slice a (ye l n.toNat).length c) (ye l n.toNat).length ((ye l n.toNat).map (Value.int .i64))))
theorem tQ (a : OA) (n c : Nat) (l : LI) (N : Int) (w : World) (hi : Ints w a n l) :
  Calls prog 52 #[.slice a n c,.int .i64 N] w (Cj l N w):=by
 have Hl:=Z5 hi.len;have hpl:=hi.pl;have hmax:=hi.max;unfold maxLen at hmax;go_enter func52,ntmps52;by_cases h1 : N<1
 ·have HE : Hid (na l N=6):=by show _=_;rw [na,EG λh=>by omega]
  have d1 : decide (N<1)=true:=by simpa using h1
  clear h1;go_wp2_with fail;go_ret2;exact ⟨EI _ _,.inl ⟨by rw [HE.out];decide,by rw [HE.out];rfl⟩⟩
 have d1 : decide (N<1)=false:=by simpa using h1
 by_cases h2 : 64<N
 ·have HE : Hid (na l N=6):=by show _=_;rw [na,EG λh=>by omega]
  have d2 : decide (64<N)=true:=by simpa using h2
  clear h1 h2;go_wp2_with fail;go_ret2;exact ⟨EI _ _,.inl ⟨by rw [HE.out];decide,by rw [HE.out];rfl⟩⟩
 have d2 : decide (64<N)=false:=by simpa using h2
 obtain ⟨m,rfl⟩ : ∃m : Nat,N=m:=⟨N.toNat,by omega⟩
 have hm1 : 1<=m:=by omega
 have hm64 : m<=64:=by omega
 clear h1 h2;go_wp2_with fail;go_loop [18] (λiv=>∃k : Nat,k<=n/\iv = .int .i64 k/\Hid (∀j,j<k->uD m l j)) (λiv=>n - (intOf iv).toNat);case atStart=>exact ⟨0,EL _,rfl,λj hj=>by omega⟩
 case round =>
  obtain ⟨k,hk,rfl,hall⟩:=hrel
  by_cases hlt : k<n
  ·have ck:=hi.cell k hlt
   by_cases hg : uD m l k
   ·have Hall : Hid (∀j,j<k+1->uD m l j):=λj hj=>by
     rcases Fm j k with h | h
     ·exact hall.out j h
     ·rw [show j=k by omega];exact hg
    obtain ⟨g1,g2,g3⟩:=hg
    have b1 : decide (nth l k<1)=false:=by simp;omega
    have b2 : decide ((m : Int)<nth l k)=false:=by simp;omega
    by_cases h0 : k=0
    ·subst h0
     rw [GY] at ck
     clear g3
     go_wp2_with fail
     go_round
     case rel=>exact ⟨1,by omega,by go_num,Hall.out⟩
     case measure=>simp [intOf] <;> omega
    ·have b3 : decide ((0 : Int)<(k : Int))=true:=by simp;omega
     have ck1:=hi.cell (k - 1) (by omega)
     have e1 : ((k : Int) - 1).toNat=k - 1:=by omega
     have d4 : (0 : Int)<=(k : Int) - 1:=by omega
     have d5 : (1 : Int)<=(k : Int):=by omega
     have d6 : (k : Int) - 1<n:=by omega
     have b4 : decide (nth l k<=nth l (k - 1))=false:=by simp;omega
     clear h0 g3 e1
     go_wp2_with fail
     go_round
     case rel=>exact ⟨k+1,by omega,by go_num,Hall.out⟩
     case measure=>simp [intOf] <;> omega
   ·have HE : Hid (na l m=6):=by show _=_;rw [na,EG λh=>hg (h.2.2 k (by rw [Hl.out];exact hlt))]
    unfold uD at hg
    by_cases q1 : nth l k<1
    ·have b1 : decide (nth l k<1)=true:=by simpa using q1
     clear hg q1
     go_wp2_with fail
     go_ret2
     exact ⟨EI _ _,.inl ⟨by rw [HE.out];decide,by rw [HE.out];rfl⟩⟩
    have b1 : decide (nth l k<1)=false:=by simpa using q1
    by_cases q2 : (m : Int)<nth l k
    ·have b2 : decide ((m : Int)<nth l k)=true:=by simpa using q2
     clear hg q1 q2
     go_wp2_with fail
     go_ret2
     exact ⟨EI _ _,.inl ⟨by rw [HE.out];decide,by rw [HE.out];rfl⟩⟩
    have b2 : decide ((m : Int)<nth l k)=false:=by simpa using q2
    have h0 : k ≠ 0:=λh=>hg ⟨by omega,by omega,.inl h⟩
    have hle : nth l k<=nth l (k - 1):=by
     rcases Int.lt_or_le (nth l (k - 1)) (nth l k) with h | h
     ·exact absurd ⟨by omega,by omega,.inr h⟩ hg
     ·exact h
    have b3 : decide ((0 : Int)<(k : Int))=true:=by simp;omega
    have ck1:=hi.cell (k - 1) (by omega)
    have e1 : ((k : Int) - 1).toNat=k - 1:=by omega
    have d4 : (0 : Int)<=(k : Int) - 1:=by omega
    have d5 : (1 : Int)<=(k : Int):=by omega
    have d6 : (k : Int) - 1<n:=by omega
    have b4 : decide (nth l k<=nth l (k - 1))=true:=by simpa using hle
    clear hg q1 q2 hle e1 h0
    go_wp2_with fail
    go_ret2
    exact ⟨EI _ _,.inl ⟨by rw [HE.out];decide,by rw [HE.out];rfl⟩⟩
  ·obtain rfl : k=n:=by omega
   have HE : Hid (na l m=0):=by show _=_;rw [na,EH ⟨by omega,by omega,λi hi=>hall.out i (by rw [<- Hl.out];exact hi)⟩]
   go_wp2_with fail
   go_loopw [8,9] (λsv iv wr=>∃(t : Nat) (aq : OA) (cq : Nat),t<=m/\iv = .int .i64 ((m - t : Nat) : Int)/\sv = .slice aq (fS l m t).length cq/\wr.ownsRow w.heap.size 3 1 (.slice aq (fS l m t).length cq) (fS l m t).length ((fS l m t).map (Value.int .i64))/\JA w wr)
    (λ_ iv _=>(intOf iv).toNat)
   case atStart=>exact ⟨0,none,0,EL _,rfl,rfl,bG,EI _ _⟩
   case round =>
    obtain ⟨t,aq,cq,ht,rfl,rfl,hop,hbr⟩:=hrel
    have hlen:=qw l m t
    by_cases htm : t<m
    ·obtain ⟨x,hx⟩ : ∃x : Nat,m - t=x:=⟨_,rfl⟩
     have hx1 : 1<=x:=by omega
     have e1 : (m : Int)+1 - (x : Int)=((t : Int)+1):=by omega
     have e2 : (x : Int) - 1=((m - (t+1) : Nat) : Int):=by omega
     rw [hx]
     by_cases hm : (x : Int) ∈ l
     ·have Hst : Hid (fS l m (t+1)=fS l m t):=by show _=_;rw [fS,hx,EH hm]
      have hc:=bJ a k c l x wr (hi.aa hbr)
      rw [show decide ((x : Int) ∈ l)=true by simpa using hm] at hc
      have Hc:=Z5 hc
      clear hm hc
      generalize fS l m t=out at *
      go_wp2_with (go_at_call 58;refine Hc.out.mono ?_;rintro e w' ⟨rfl,rfl⟩)
      go_roundw
      case rel=>exact ⟨t+1,aq,cq,by omega,by rw [<- e2],by rw [Hst.out],by rw [Hst.out];exact hop,hbr⟩
      case measure=>simp [intOf] <;> omega
     ·have Hst : Hid (fS l m (t+1)=fS l m t ++ [(t : Int)+1]):=by show _=_;rw [fS,hx,EG hm]
      have hc:=bJ a k c l x wr (hi.aa hbr)
      rw [show decide ((x : Int) ∈ l)=false by simpa using hm] at hc
      have Hc:=Z5 hc
      clear hm hc
      generalize fS l m t=out at *
      have hcn:=bk wr (.int .i64 ((t : Int)+1)) 3
      have hbn:=aA wr (.cells #[.int .i64 ((t : Int)+1)] 3)
      have hsz:=hbr.size
      go_wp2_with fail
      refine Hc.out.mono ?_
      rintro e w2 ⟨rfl,hw2⟩
      rw [hw2]
      clear hw2
      go_wp2_with (at_builtin;refine aX rfl _ _ 22 3 rfl (.int .i64 0) 8 underlying22 bh rfl w.heap.size aq out.length cq _ rfl (hop.alloc _) ⟨wr.heap.size,0,none⟩ 1 (.int .i64 ((t : Int)+1)) rfl hcn rfl (by omega) (by unfold maxLen;omega) (by simp;omega) ?_;intro a5 c5 w5 hown5 hgr5 hap5)
      go_roundw
      case rel =>
       refine ⟨t+1,a5,c5,by omega,by rw [<- e2],by rw [Hst.out];simp,?_,Jb (Ft hbr (hbn.mono hsz)) (hop.alloc _) hgr5 (EF _) (ET hsz hbn.size)⟩
       rw [Hst.out];simpa using hown5
      case measure=>simp [intOf] <;> omega
    ·obtain rfl : t=m:=by omega
     rw [Ge]
     go_wp2_with fail
     go_ret2
     exact ⟨hbr,.inr ⟨HE.out,aq,cq,rfl,hop⟩⟩
section
open Go.RowKit
end
end Go.Proofs.YtjfiflldinnhmaaGreat
