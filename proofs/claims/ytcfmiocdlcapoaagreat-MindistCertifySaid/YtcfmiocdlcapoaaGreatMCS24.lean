import Derived.Test.YtcfmiocdlcapoaaGreatMCS23
import Derived.Test.YtcfmiocdlcapoaaGreatMCS21
namespace Go.Proofs.YtcfmiocdlcapoaaGreat
set_option linter.all false
set_option maxRecDepth 100000
set_option maxHeartbeats 8000000
open Go.RowKit Go.Proofs.Tryz
theorem AN (O : aS) (L : Ll) (m : Nat) (C : jg) (d : Nat) (s z : Lz) (T : Ll) (hd : s.length+d=C.W) (hr : dq O L m C s (eg O L m C s z)=true) (hT : T.length ≠ 65536) :
  gn O L m C d s z T=eS (gn O L m C (d - 1)) s z (if s.length<C.W then (eg O L m C s z).filter (λx=>decide (¬ x ∈ z)) else []) (T ++ [eg O L m C s z]):=by
 match d with
 | 0 =>
  have h1 : (if s.length<C.W then (eg O L m C s z).filter (λx=>decide (¬ x ∈ z)) else [])=[]:=I5 (by omega)
  rw [h1,gn,I6 hr,I5 hT]
  rfl
 | d+1 =>
  have h1 : (if s.length<C.W then (eg O L m C s z).filter (λx=>decide (¬ x ∈ z)) else [])=jr C s z (eg O L m C s z):=rfl
  rw [h1,gn,I6 hr,I5 hT]
  rfl
theorem td (O : aS) (L : Ll) (m : Nat) (C : jg) (d : Nat) (s z : Lz) (T : Ll) (hr : dq O L m C s (eg O L m C s z)=false) : gn O L m C d s z T=(11,[]):=by
 match d with
 | 0=>rw [gn];exact I5 (by rw [hr];simp)
 | d+1=>rw [gn];exact I5 (by rw [hr];simp)
theorem wb (O : aS) (L : Ll) (m : Nat) (C : jg) (d : Nat) (s z : Lz) (T : Ll) (hr : dq O L m C s (eg O L m C s z)=true) (hT : T.length=65536) : gn O L m C d s z T=(8,[]):=by
 match d with
 | 0=>rw [gn,I6 hr,I6 hT]
 | d+1=>rw [gn,I6 hr,I6 hT]
theorem EU {R R' : La} (h : R <+: R') {i : Nat} (hi : i<R.length) : aO R' i=aO R i:=by obtain ⟨X,rfl⟩:=h;rw [iN (show i<(R ++ X).length by simp;omega),iN hi,L9]
theorem DS {R R' : Ll} (h : R <+: R') {i : Nat} (hi : i<R.length) : an R' i=an R i:=by obtain ⟨X,rfl⟩:=h;rw [aE (show i<(R ++ X).length by simp;omega),aE hi,L9]
theorem Cz (R : La) (r : OA × Nat) : aO (R ++ [r]) R.length=r:=by rw [iN (by simp)];simp
theorem Bq (R : Ll) (r : Lz) : an (R ++ [r]) R.length=r:=by rw [aE (by simp)];simp
structure lR where
 ar : OA
 cr : Nat
 R : La
 T : Ll
def lR.J (pb : Nat) (σ : lR) (x : Nat) : Prop:=x=pb\/bS σ.ar σ.R x
structure kc (w : World) (B pb b : Nat) (P M : Int) (am : OA) (mn cm : Nat) (m : Nat) (a : OA) (n c : Nat) (ay : OA) (ny cy : Nat) (C : jg) (σ : lR) : Prop where
 box : aZ w pb (mz b P M am mn cm m a n c ay ny cy C (.slice σ.ar σ.T.length σ.cr) 0)
 om : aP w B σ.ar σ.T.length σ.cr σ.R σ.T
 np : ¬ bS σ.ar σ.R pb
 ln : σ.T.length<=65536
theorem kc.lt {w : World} {B pb b : Nat} {P M : Int} {am : OA} {mn cm m : Nat} {a : OA} {n c : Nat} {ay : OA} {ny cy : Nat} {C : jg} {σ : lR} (h : kc w B pb b P M am mn cm m a n c ay ny cy C σ) {x : Nat} (hx : σ.J pb x) : x<w.heap.size:=by
 rcases hx with rfl | hx
 ·exact h.box.1
 ·exact (h.om.lt x hx).2
theorem kc.bQ {w w' : World} {I : Nat->Prop} {B pb b : Nat} {P M : Int} {am : OA} {mn cm m : Nat} {a : OA} {n c : Nat} {ay : OA} {ny cy : Nat} {C : jg} {σ : lR} (h : kc w B pb b P M am mn cm m a n c ay ny cy C σ)
  (hM : aA w w' I I) (hI : ∀x,σ.J pb x->¬ I x) : kc w' B pb b P M am mn cm m a n c ay ny cy C σ :=
 ⟨h.box.bQ hM (hI _ (.inl rfl)),h.om.bj λx hx=>hM.block x (h.om.lt x hx).2 (hI x (.inr hx)),h.np,h.ln⟩
theorem kc.aa {w w' : World} {B pb b : Nat} {P M : Int} {am : OA} {mn cm m : Nat} {a : OA} {n c : Nat} {ay : OA} {ny cy : Nat} {C : jg} {σ : lR} (h : kc w B pb b P M am mn cm m a n c ay ny cy C σ)
  (hM : NS w w') : kc w' B pb b P M am mn cm m a n c ay ny cy C σ:=h.bQ (I:=λ_=>False) (Nn hM _) λ_ _ h=>h
def ur (w0 : World) (pb b : Nat) (P M : Int) (am : OA) (mn cm : Nat) (m : Nat) (a : OA) (n c : Nat) (ay : OA) (ny cy : Nat) (C : jg) (σ : lR) (V : Int × Ll) (w : World) (e : Ending) (w' : World) : Prop :=
 ∃σ' : lR,kc w' w0.heap.size pb b P M am mn cm m a n c ay ny cy C σ'/\σ.R <+: σ'.R/\σ.T <+: σ'.T/\aA w w' (σ.J pb) (σ'.J pb)/\e = .returned (.int .i64 V.1)/\(V.1=0->σ'.T=V.2)
theorem kc.push {V w5 : World} {B pb b : Nat} {P M : Int} {am : OA} {mn cm m : Nat} {a : OA} {n c : Nat} {ay : OA} {ny cy : Nat} {C : jg} {σ : lR} (h : kc V B pb b P M am mn cm m a n c ay ny cy C σ) (hB : B<=V.heap.size)
  {a3 : OA} {c3 : Nat} {t : Lz} (hr : V.ownsRow B 3 1 (.slice a3 t.length c3) t.length (t.map (Value.int .i64))) (hra : a3 ≠ none->¬ σ.J pb (aj a3)) (hT : σ.T.length<65536) {o : Obj}
  {a5 : OA} {c5 : Nat} (hown : w5.ownsRow B 22 1 (.slice a5 (σ.T.length+1) c5) (σ.T.length+1) (List.zipWith eY σ.R σ.T ++ [.slice a3 t.length c3])) (hg : (V.alloc o).grownBy w5 (Value.slice σ.ar σ.T.length σ.cr).ownBlock)
  (hap : ∀b,b<(V.alloc o).heap.size->cJ σ.ar b->cJ a5 b) :
  kc (w5.setCell ⟨pb,10,none⟩ (.slice a5 (σ.T.length+1) c5)) B pb b P M am mn cm m a n c ay ny cy C ⟨a5,c5,σ.R ++ [(a3,c3)],σ.T ++ [t]⟩ /\
   aA V (w5.setCell ⟨pb,10,none⟩ (.slice a5 (σ.T.length+1) c5)) (λx=>σ.J pb x\/(a3 ≠ none/\x=aj a3)) ((⟨a5,c5,σ.R ++ [(a3,c3)],σ.T ++ [t]⟩ : lR).J pb):=by
 have hal:=aw V o;have hO1 : aP (V.alloc o) B σ.ar σ.T.length σ.cr σ.R σ.T:=h.om.aa hal;have hra2 : a3 ≠ none->¬ bS σ.ar σ.R (aj a3):=λh0 hh=>hra h0 (.inr hh);have hO5:=Ny hO1 (aX hr hal) hra2 hown hg hap;have hnp : σ.ar=none\/aj σ.ar ≠ pb:=by
  by_cases e : σ.ar=none
  ·exact .inl e
  ·exact .inr λe2=>h.np (.inl ⟨e,e2.symm⟩)
 have hbox5 : aZ w5 pb (mz b P M am mn cm m a n c ay ny cy C (.slice σ.ar σ.T.length σ.cr) 0):=(h.box.aa hal).bQ (Nu (K:=λx=>σ.ar ≠ none/\x=aj σ.ar) hg λh0=>⟨h0,rfl⟩) λ⟨h0,e⟩=>by
  rcases hnp with h1 | h1
  ·exact h0 h1
  ·exact h1 e.symm
 have hne : ¬ bS a5 (σ.R ++ [(a3,c3)]) pb:=λhh=>by
  rcases NO hO1 hap hh with h1 | ⟨h1,h2⟩ | h1
  ·exact h.np h1
  ·exact hra h1 (.inl h2.symm)
  ·have h2:=h.box.1;have h3:=hal.size;omega
 refine ⟨⟨?_,?_,hne,by simp;omega⟩,?_⟩
 ·have h1:=hbox5.setCell 10 (.slice a5 (σ.T.length+1) c5);show aZ _ pb (mz b P M am mn cm m a n c ay ny cy C (.slice a5 (σ.T ++ [t]).length c5) 0);rw [Jh,Js];exact h1
 ·show aP _ B a5 (σ.T ++ [t]).length c5 _ _;rw [Jh,Js];exact hO5.bj λx hx=>Jr _ _ _ _ λe=>hne (by have e' : x=pb:=e;rw [<- e'];exact hx)
 ·have hM0 : aA V (V.alloc o) (λx=>σ.J pb x\/(a3 ≠ none/\x=aj a3)) (λx=>σ.J pb x\/(a3 ≠ none/\x=aj a3)):=Nn hal _;have hM1 : aA (V.alloc o) w5 (λx=>σ.J pb x\/(a3 ≠ none/\x=aj a3)) (λx=>σ.J pb x\/(a3 ≠ none/\x=aj a3)):=Nu hg λh0=>.inl (.inr (.inl ⟨h0,rfl⟩));have hM2:=hM0.trans hM1;have hb0 : Below 0 w5 (w5.setCell ⟨pb,10,none⟩ (.slice a5 (σ.T.length+1) c5)):=(I1 0 w5).setCell (I7 _) _;refine ⟨hb0.os.trans hM2.os,hb0.tape.trans hM2.tape,hb0.output.trans hM2.output,Ji hM2.size hb0.size,λx hx hI=>?_,λx hx=>?_⟩
  ·exact (Jr _ _ _ _ λe=>hI (.inl (.inl e))).trans (hM2.block x hx hI)
  ·rcases hx with hx | hx
   ·exact .inl (.inl (.inl hx))
   ·rcases NO hO1 hap hx with h1 | h1 | h1
    ·exact .inl (.inl (.inr h1))
    ·exact .inl (.inr h1)
    ·exact .inr (Ji hal.size h1)
theorem kc.yc {V w5 : World} {B pb b : Nat} {P M : Int} {am : OA} {mn cm m : Nat} {a : OA} {n c : Nat} {ay : OA} {ny cy : Nat} {C : jg} {σ : lR} (h : kc V B pb b P M am mn cm m a n c ay ny cy C σ)
  {o : Obj} (hg : (V.alloc o).grownBy w5 (Value.slice σ.ar σ.T.length σ.cr).ownBlock) : aZ w5 pb (mz b P M am mn cm m a n c ay ny cy C (.slice σ.ar σ.T.length σ.cr) 0) :=
 (h.box.aa (aw V o)).bQ (Nu (K:=λx=>σ.ar ≠ none/\x=aj σ.ar) hg λh0=>⟨h0,rfl⟩) λ⟨h0,e⟩=>h.np (.inl ⟨h0,e⟩)
theorem aA.A6 {w V Z : World} {I I' A : Nat->Prop} (h : NS w V) (g : aA V Z (λx=>I x\/A x) I') (hA : ∀x,A x->w.heap.size<=x) : aA w Z I I' :=
 ⟨g.os.trans h.os,g.tape.trans h.tape,g.output.trans h.output,Ji h.size g.size,λx hx hI=>(g.block x (Jv hx h.size) λhh=>by
  rcases hh with hh | hh
  ·exact hI hh
  ·have:=hA x hh;omega).trans (h.block x hx),λx hx=>by
  rcases g.grow x hx with hh | hh
  ·rcases hh with hh | hh
   ·exact .inl hh
   ·exact .inr (hA x hh)
  ·exact .inr (Ji h.size hh)⟩
theorem oQ {w0 : World} {b : Nat} {G : cW} {a : OA} {n : Nat} {L : Ll} {m : Nat} {ay : OA} {ny : Nat} {C : jg} (pb : Nat) (P M : Int) (am : OA) (mn cm c cy : Nat)
  (E : Ab w0 b G a n L m ay ny C) (hpb : w0.heap.size<=pb) :
  ∀(d : Nat) (w : World) (σ : lR) (sa : OA) (ns cs : Nat) (s : Lz) (az : OA) (nz cz : Nat) (z : Lz),ns+d=C.W->nz<=64->NS w0 w->kc w w0.heap.size pb b P M am mn cm m a n c ay ny cy C σ ->
   Ints w sa ns s->Ints w az nz z->(0<ns->¬ σ.J pb (aj sa))->(0<nz->¬ σ.J pb (aj az))->z.Nodup->(∀x ∈ z,0<=x/\x<(m : Int)) ->
   Calls prog 235 #[.pointer (some ⟨pb,0,none⟩),.slice sa ns cs,.slice az nz cz] w (ur w0 pb b P M am mn cm m a n c ay ny cy C σ (gn G.ops L m C d s z σ.T) w)
 | d,w,σ,sa,ns,cs,s,az,nz,cz,z,hd,hnz,hb,hB,hs,hz,hsp,hzp,hzn,hzb=>by
  have IH : Hid (∀d',d'+1=d->∀(w : World) (σ : lR) (sa : OA) (ns cs : Nat) (s : Lz) (az : OA) (nz cz : Nat) (z : Lz),ns+d'=C.W->nz<=64->NS w0 w->kc w w0.heap.size pb b P M am mn cm m a n c ay ny cy C σ ->
   Ints w sa ns s->Ints w az nz z->(0<ns->¬ σ.J pb (aj sa))->(0<nz->¬ σ.J pb (aj az))->z.Nodup->(∀x ∈ z,0<=x/\x<(m : Int)) ->
   Calls prog 235 #[.pointer (some ⟨pb,0,none⟩),.slice sa ns cs,.slice az nz cz] w (ur w0 pb b P M am mn cm m a n c ay ny cy C σ (gn G.ops L m C d' s z σ.T) w)):=λd' hd'=>by subst hd';exact oQ pb P M am mn cm c cy E hpb d'
  have hm6:=E.m6;have hw6:=E.w6;have HE:=Z5 E;have Hsl:=Z5 hs.len;have Hzl:=Z5 hz.len;have p4:=hB.box.cell 4 rfl;have p7:=hB.box.cell 7 rfl;have p8:=hB.box.cell 8 rfl;obtain ⟨RF,hRF⟩ : ∃RF,gn G.ops L m C d s z σ.T=RF:=⟨_,rfl⟩
  rw [hRF];have HRF:=Z5 hRF;have HB:=Z5 hB;have Hz:=Z5 (Jg hzn hzb);obtain ⟨mo,hmo⟩ : ∃mo,(if C.cos=true then m else C.M)=mo:=⟨_,rfl⟩
  have Hmo:=Z5 hmo;obtain ⟨bc,hbc⟩ : ∃bc,C.cos=bc:=⟨_,rfl⟩
  rw [hbc] at p7;have Hbc:=Z5 hbc;clear hbc;have hol:=xp m s z;have horng : ∀j,j<(iz m s z).length->0<=nth (iz m s z) j/\nth (iz m s z) j<m:=λj hj=>by
   rcases nJ (aK hj) with h1 | h1
   ·exact hzb _ h1
   ·exact ⟨h1.1,h1.2.1⟩
  have Horng:=Z5 horng;have HO : Hid (Calls prog 262 #[.pointer (some ⟨pb,0,none⟩),.slice sa ns cs,.slice az nz cz] w (dh w (iz m s z))):=sF pb m sa ns cs s az nz cz z w p4 hs hz (by omega) (by omega);clear hRF hB hzn hzb E hmo horng;go_enter func235,ntmps235;go_upto_if 16 with fail;go_cut [7] (λv wx=>v = .int .i64 mo/\w=wx);case first =>
   cases bc
   ·have Hm2 : Hid (mo=C.M):=by show _=_;rw [<- Hmo.out,Hbc.out];rfl
    go_wp2_with fail
    go_meet
    exact ⟨by rw [Hm2.out],rfl⟩
   ·have Hm2 : Hid (mo=m):=by show _=_;rw [<- Hmo.out,Hbc.out];rfl
    go_wp2_with fail
    go_meet
    exact ⟨by rw [Hm2.out],rfl⟩
  obtain ⟨rfl,rfl⟩:=hcut;go_wp2_with fail;refine HO.out.mono ?_;rintro e w2 ⟨a2,c2,rfl,hown2,hb2⟩;have hB2:=HB.out.aa hb2;have hGr:=mO pb a n c L m a2 _ c2 (iz m s z) mo (hB2.box.cell 0 rfl) (hB2.box.cell 5 rfl) (HE.out.g.aa (hb.trans (hb2.mono hb.size))) (HE.out.l7.aa (hb.trans (hb2.mono hb.size))) HE.out.rws (Ni hown2).1 Horng.out HE.out.n6 (by rw [Hzl.out] at hol;omega);have hgl:=vh (O:=G.ops) (L:=L) (Q:=iz m s z) (most:=mo);have Hcs : Hid (eg G.ops L m C s z=bA (sl G.ops L (iz m s z) mo)):=by show _=_;rw [eg,Hmo.out]
  have hcn : (eg G.ops L m C s z).Nodup:=qV Hz.out.1;have hcb : ∀x ∈ eg G.ops L m C s z,0<=x/\x<(m : Int):=λx hx=>by
   rcases nJ (vh x (wC.1 hx)) with h1 | h1
   ·exact Hz.out.2 x h1
   ·exact ⟨h1.1,h1.2.1⟩
  have hcl : (eg G.ops L m C s z).length<=64:=Ji (jf hcn hcb) hm6;rw [Hcs.out,dy] at hcl;have Hcn:=Z5 (Jg hcn hcb);unfold dh at hGr;obtain ⟨gl,hgle⟩ : ∃gl,(sl G.ops L (iz m s z) mo).length=gl:=⟨_,rfl⟩
  have Hgl:=Z5 hgle;rw [hgle] at hGr hcl;obtain ⟨t,hte⟩ : ∃t,eg G.ops L m C s z=t:=⟨_,rfl⟩
  have Htl : Hid (t.length=gl):=by show _=_;rw [<- hte,Hcs.out,dy,hgle]
  have Hcs2 : Hid (bA (sl G.ops L (iz m s z) mo)=t):=by show _=_;rw [<- hte,Hcs.out]
  rw [hte] at Hcn;have Hte:=Z5 hte;clear hcn hcb hgle hgl hte Hcs;have HGr:=Z5 hGr;clear hGr;generalize (iz m s z).length=ol at *;go_wp2_with fail;refine HGr.out.mono ?_;rintro e w3 ⟨a3,c3,rfl,hown3,hb3⟩;have hbw3:=Nh hb2 hb3;have hown3':=aU hown3 (B':=w.heap.size) hb2.size;have HSo:=Z5 (pX w.heap.size a3 gl c3 _ w3 hown3' hbw3.size (by omega));rw [Hcs2.out] at HSo;clear hown3 hown3';go_wp2_with fail;refine HSo.out.mono ?_;rintro e w4 ⟨rfl,hown4,_,hb4⟩;have hbw4 : NS w w4:=hbw3.trans hb4;have hB4:=HB.out.aa hbw4;have ht4:=(Ni hown4).1;have HRt:=Z5 (oW (c:=c) (cy:=cy) pb P M am mn cm _ 0 sa ns cs s a3 gl c3 t HE.out (hb.trans (hbw4.mono hb.size)) hB4.box (hs.aa hbw4) ht4 (by omega));obtain ⟨rr,hrr⟩ : ∃rr,dq G.ops L m C s t=rr:=⟨_,rfl⟩
  rw [hrr] at HRt;have Hrr : Hid (dq G.ops L m C s (eg G.ops L m C s z)=rr):=by show _=_;rw [Hte.out];exact hrr
  clear hrr;go_wp2_with fail;refine HRt.out.mono ?_;rintro e w5 ⟨rfl,hb5⟩;have hbw5 : NS w w5:=Nh hbw4 hb5;have hB5:=HB.out.aa hbw5;cases rr
  ·have HF : Hid (RF=(11,[])):=by show _=_;rw [<- HRF.out,td _ _ _ _ _ _ _ _ Hrr.out]
   go_wp2_with fail;go_ret;exact ⟨σ,hB5,Kl,Kl,Nn hbw5 _,by rw [HF.out];rfl,λh=>by rw [HF.out] at h;cases h⟩
  have p10:=hB5.box.cell 10 rfl;by_cases hbig : σ.T.length=65536
  ·have HF : Hid (RF=(8,[])):=by show _=_;rw [<- HRF.out,wb _ _ _ _ _ _ _ _ Hrr.out hbig]
   have hbg : ((σ.T.length : Int) == 65536)=true:=by simp;omega
   clear hbig;go_wp2_with fail;go_ret;exact ⟨σ,hB5,Kl,Kl,Nn hbw5 _,by rw [HF.out];rfl,λh=>by rw [HF.out] at h;cases h⟩
  have hbg : ((σ.T.length : Int) == 65536)=false:=by simp;omega
  have HF : Hid (RF=eS (gn G.ops L m C (d - 1)) s z (if ns<C.W then t.filter (λx=>decide (¬ x ∈ z)) else []) (σ.T ++ [t])):=by show _=_;rw [<- HRF.out,AN _ _ _ _ _ _ _ _ (by rw [Hsl.out];exact hd) Hrr.out hbig,Hsl.out,Hte.out]
  have hTl:=hB5.ln;have hTlt : σ.T.length<65536:=by omega
  have hown5:=aX hown4 hb5;have f10:=hB5.box.frozen 10;have hcn:=bk w5 (.slice a3 gl c3) 22;have hbn:=aw w5 (.cells #[.slice a3 gl c3] 22);have hsz5:=hbw5.size;have hszb:=hb.size;clear hbig;go_wp2_with (at_builtin;refine bg rfl _ _ 25 22 rfl (.slice none 0 0) 24 underlying25 di rfl w0.heap.size σ.ar σ.T.length σ.cr _ rfl ((hB5.om.own).alloc _) ⟨w5.heap.size,0,none⟩ 1 (.slice a3 gl c3) rfl hcn rfl (by omega) (by unfold maxLen;omega) (by simp;omega) ?_;intro a6 c6 w6 hown6 hgr6 hap6;have q10:=(hB5.yc hgr6).cell 10 rfl;have qf10:=(hB5.yc hgr6).frozen 10);obtain rfl:=Htl.out;have hra : a3 ≠ none->¬ σ.J pb (aj a3):=λh0 hj=>by have h1:=HB.out.lt hj;have h2:=(aM hown5 h0).1;omega
  obtain ⟨hB7,hM7⟩:=kc.push hB5 (Ji hszb hsz5) (aU hown5 hszb) hra hTlt hown6 hgr6 hap6;obtain ⟨Z,hZ⟩ : ∃Z : World,Z=w6.setCell ⟨pb,10,none⟩ (.slice a6 (σ.T.length+1) c6):=⟨_,rfl⟩
  rw [<- hZ] at hB7 hM7;have hB05 : NS w0 w5:=hb.trans (hbw5.mono hszb);have hbZ : NS w0 Z:=hB05.trans (hM7.below (λx hx=>by
   rcases hx with (hx | hx) | ⟨h1,h2⟩
   ·rw [hx];exact hpb
   ·exact (hB5.om.lt x hx).1
   ·rw [h2];exact Ji hszb (aM hown5 h1).1) hB05.size)
  have hMwZ : aA w Z (σ.J pb) ((⟨a6,c6,σ.R ++ [(a3,c3)],σ.T ++ [t]⟩ : lR).J pb):=aA.A6 hbw5 hM7 λx hx=>by rw [hx.2];exact (aM hown5 hx.1).1
  have hsZ:=hs.bQ hMwZ hsp;have hzZ:=hz.bQ hMwZ hzp;have hsJ : 0<ns->¬ (⟨a6,c6,σ.R ++ [(a3,c3)],σ.T ++ [t]⟩ : lR).J pb (aj sa):=λh0=>hMwZ.not (hs.lt h0) (hsp h0);have hRl : σ.R.length=σ.T.length:=hB5.om.rl;have hszZ:=hMwZ.size;have HCh : Hid (Calls prog 264 #[.pointer (some ⟨pb,0,none⟩),.slice sa ns cs,.slice az nz cz,.slice a3 t.length c3,.func (.func 235) #[.pointer (some ⟨pb,0,none⟩)] #[]] Z
    (ur w0 pb b P M am mn cm m a n c ay ny cy C σ RF w)):=by
   refine (pC (σ:=lR) (λV τ=>NS w0 V/\kc V w0.heap.size pb b P M am mn cm m a n c ay ny cy C τ/\Ints V sa ns s/\(0<ns->¬ τ.J pb (aj sa))/\(σ.R ++ [(a3,c3)]) <+: τ.R/\(σ.T ++ [t]) <+: τ.T) (λτ x=>τ.J pb x) (λτ=>τ.T)
    (λs z T=>gn G.ops L m C (d - 1) s z T) pb C.W sa ns cs s az nz cz z a3 t.length c3 t Z ⟨a6,c6,σ.R ++ [(a3,c3)],σ.T ++ [t]⟩ ⟨hbZ,hB7,hsZ,hsJ,Kl,Kl⟩ ?_ (hB7.box.cell 9 rfl) ?_ (λV τ x h hx=>h.2.1.lt hx) hzZ Hcn.out.1 (by omega) (by omega) (by omega) (by omega) ?_).mono ?_
   ·rintro V1 V2 τ ⟨e1,e2,e3,e4,e5,e6⟩ hM;refine ⟨e1.trans (hM.below (λx hx=>Ji hbZ.size hx.1) e1.size),e2.bQ hM λx hx hh=>hh.2 hx,e3.bQ hM λhn hx=>?_,e4,e5,e6⟩;have h1:=hsZ.lt hn;omega
   ·rintro V τ ⟨e1,e2,e3,e4,e5,e6⟩;refine ⟨e3,?_⟩;have hlt : σ.T.length<τ.T.length:=by obtain ⟨X,hX⟩:=e6;rw [<- hX];simp <;> omega
    have h1:=e2.om.ints hlt;rw [DS e6 (by simp),Bq,<- hRl,EU e5 (by simp),Cz] at h1;exact h1
   ·intro hlt V1 τ a1 c1 a2 c2 j zc hj hzc hnj hI hM h1 h2 h3 h4;obtain ⟨d',hd'⟩ : ∃d',d'+1=d:=⟨d - 1,by omega⟩
    have hzl : zc.length<=64/\zc.Nodup/\∀x ∈ zc,0<=x/\x<(m : Int):=by
     have hsub : ∀x ∈ (t.take j).filter (λx=>decide (¬ x ∈ z)),x ∈ t/\¬ x ∈ z:=λx hx=>by rw [K7] at hx;exact ⟨JY hx.1,by simpa using hx.2⟩
     have hnd : zc.Nodup:=by rw [hzc,J2];refine ⟨Hz.out.1,Ly _ (KM (KS _ _) Hcn.out.1),λx hx y hy e=>?_⟩;exact (hsub y hy).2 (e ▸ hx)
     have hbd : ∀x ∈ zc,0<=x/\x<(m : Int):=λx hx=>by
      rw [hzc] at hx;rcases List.mem_append.1 hx with hx | hx
      ·exact Hz.out.2 x hx
      ·exact Hcn.out.2 x (hsub x hx).1
     exact ⟨Ji (jf hnd hbd) hm6,hnd,hbd⟩
    have h5:=IH.out d' hd' V1 τ a1 (ns+1) c1 (s ++ [nth t j]) a2 zc.length c2 zc (by omega) hzl.1 hI.1 hI.2.1 h1 h2 (λ_=>h3) (λh0=>h4 (by intro e;have:=h2.pl h0;rw [e] at this;cases this)) hzl.2.1 hzl.2.2;have hdd : d - 1=d':=by omega
    refine h5.mono ?_;rintro e V2 ⟨τ',g1,g2,g3,g4,g5,g6⟩;rw [hdd];exact ⟨τ',⟨hI.1.trans (g4.below (λx hx=>by
      rcases hx with hx | hx
      ·rw [hx];exact hpb
      ·exact (hI.2.1.om.lt x hx).1) hI.1.size),g1,hI.2.2.1.bQ g4 hI.2.2.2.1,λhn=>g4.not (hI.2.2.1.lt hn) (hI.2.2.2.1 hn),hI.2.2.2.2.1.trans g2,hI.2.2.2.2.2.trans g3⟩,g4,g5,g6⟩
   ·rintro e V2 ⟨τ',g1,g2,g3,g4⟩;rw [<- HF.out] at g3 g4;exact ⟨τ',g1.2.1,(LR _ _).trans g1.2.2.2.2.1,(LR _ _).trans g1.2.2.2.2.2,hMwZ.trans g2,g3,g4⟩
  rw [<- hZ];clear IH HO HSo HGr HRt hown4 hown5 hown6 hgr6 hap6 hB7 hM7 hZ hMwZ hsZ hzZ HF;go_wp2_with fail;refine HCh.out.mono ?_;rintro e w7 ⟨τ',g1,g2,g3,g4,rfl,g6⟩;go_wp2_with fail;go_ret;exact ⟨τ',g1,g2,g3,g4,rfl,g6⟩
theorem tR (a : OA) (n c : Nat) (l : Lz) (v : Int) (w : World) (h : Ints w a n l) :
  Calls prog 265 #[.slice a n c,.int .i64 v] w λe w'=>e = .returned (.bool (decide (v ∈ l)))/\w'=w:=by
 have Hl:=Z5 h.len;have hpl:=h.pl;have hmax:=h.max;unfold maxLen at hmax;go_enter func265,ntmps265;go_wp2_with fail;go_loopw [5] (λiv wr=>∃k : Nat,k<=n/\iv = .int .i64 k/\Hid (kH l v k=false)/\wr=w) (λi _=>n - (intOf i).toNat);case atStart=>exact ⟨0,I7 _,rfl,by show _=_;simp [kH],rfl⟩
 case round =>
  obtain ⟨k,hk,rfl,hno,rfl⟩:=hrel
  by_cases hlt : k<n
  ·have c1:=h.cell k hlt
   have Hs:=Z5 (nX (l:=l) v (show k<l.length by rw [Hl.out];exact hlt))
   by_cases he : nth l k=v
   ·have he' : (nth l k == v)=true:=by rw [he];simp
    have Hm : Hid (decide (v ∈ l)=true):=by show _=_;rw [<- he];simpa using aK (show k<l.length by rw [Hl.out];exact hlt)
    clear he
    go_wp2_with fail
    go_ret
    exact ⟨bd Hm.out.symm,rfl⟩
   ·have he' : (nth l k == v)=false:=by simpa using he
    have Hn2 : Hid (kH l v (k+1)=false):=by show _=_;rw [Hs.out,hno.out,Jn he];rfl
    clear he
    go_wp2_with fail
    go_roundw
    case rel=>exact ⟨k+1,by omega,by go_num,Hn2.out,by simp⟩
    case measure=>simp [intOf] <;> omega
  ·obtain rfl : k=n:=by omega
   have Hm : Hid (decide (v ∈ l)=false):=by show _=_;rw [<- rp v Hl.out];exact hno.out
   go_wp2_with fail
   go_ret
   exact ⟨bd Hm.out.symm,rfl⟩
theorem xd (l : Lz) : ∀u ∈ l.map (Value.int .i64),u.oneCell'=true:=λu hu=>by obtain ⟨x,_,rfl⟩:=List.mem_map.1 hu;rfl
theorem jm (a : OA) (n c : Nat) (l : Lz) (b : OA) (m cb : Nat) (l2 : Lz) (w : World) (ha : Ints w a n l) (hb : Ints w b m l2) (hn : n<=1000000) (hm : m<=1000000) :
  Calls prog 236 #[.slice a n c,.slice b m cb] w λe w'=>∃a2 c2,e = .returned (.slice a2 (n+m) c2)/\w'.ownsRow w.heap.size 3 1 (.slice a2 (n+m) c2) (n+m) ((l ++ l2).map (Value.int .i64))/\NS w w':=by
 have hb1:=aw w (.cells #[] 3);have ha1:=ha.aa hb1;have hb2:=hb.aa hb1;have hal:=ha.len;have hbl:=hb.len;have hO:=ff w 3;go_enter func236,ntmps236;go_wp2_with (at_builtin;first
  | (refine ee rfl _ _ 22 3 rfl (.int .i64 0) 8 underlying22 ba rfl w.heap.size _ 0 0 [] rfl hO a n c (l.map (Value.int .i64)) rfl ha1.pl (by simp [hal]) (Np ha1) (xd l) (by omega) (by unfold maxLen;omega) hb1.size ?_;intro a1 c1 w1 hown1 hgr1 hap1;rw [Kk] at hown1 ⊢;rw [JL] at hown1;have hbw1 : NS w w1:=Nk hb1 hO hgr1 (IZ _) hb1.size;have hb3:=hb.aa hbw1)
  | (refine ee rfl _ _ 22 3 rfl (.int .i64 0) 8 underlying22 ba rfl w.heap.size a1 n c1 (l.map (Value.int .i64)) rfl hown1 b m cb (l2.map (Value.int .i64)) rfl hb3.pl (by simp [hbl]) (Np hb3) (xd l2) (by omega) (by unfold maxLen;omega) hbw1.size ?_;intro a2 c2 w2 hown2 hgr2 hap2))
 go_ret;exact ⟨a2,c2,rfl,by rw [JR];exact hown2,Nk hbw1 hown1 hgr2 (IZ _) hbw1.size⟩
def oy (P M : Int) (am : OA) (mn cm : Nat) (m : Nat) (a : OA) (n c : Nat) (ay : OA) (ny cy : Nat) (C : jg) : Value :=
 .agg #[.int .i64 P,.int .i64 M,.slice am mn cm,.int .i64 m,.slice a n c,.int .i64 C.M,.int .i64 C.W,.slice ay ny cy,.bool C.cos]
theorem yr (P M : Int) (am : OA) (mn cm : Nat) (m : Nat) (a : OA) (n c : Nat) (ay : OA) (ny cy : Nat) (C : jg) (sa : OA) (ns cs : Nat) (s : Lz) (az : OA) (nz cz : Nat) (z : Lz) (at' : OA) (nt ct : Nat) (t : Lz) (w : World)
  (hs : Ints w sa ns s) (hz : Ints w az nz z) (ht : Ints w at' nt t) (hnt : nt<=1000000) :
  Calls prog 238 #[oy P M am mn cm m a n c ay ny cy C,.slice sa ns cs,.slice az nz cz,.slice at' nt ct] w (dh w (jr C s z t)):=by
 have Htl:=Z5 ht.len;have Hsl:=Z5 hs.len;have hplt:=ht.pl;obtain ⟨K,hK⟩ : ∃K,jr C s z t=K:=⟨_,rfl⟩
 rw [hK];have HK:=Z5 hK;unfold oy;clear hK;go_enter func238,ntmps238;go_wp2_with fail;obtain ⟨U,hU⟩ : ∃U : World,U=w.alloc (.cells #[.int .i64 P,.int .i64 M,.slice am mn cm,.int .i64 m,.slice a n c,.int .i64 C.M,.int .i64 C.W,.slice ay ny cy,.bool C.cos] 196):=⟨_,rfl⟩
 rw [<- hU];have hbU : NS w U:=by rw [hU];exact aw _ _
 have x0 : aZ U w.heap.size [.int .i64 P,.int .i64 M,.slice am mn cm,.int .i64 m,.slice a n c,.int .i64 C.M,.int .i64 C.W,.slice ay ny cy,.bool C.cos]:=by rw [hU];exact Nj _ _ _ rfl
 have HX:=Z5 x0;have hsU : w.heap.size<U.heap.size:=x0.1;clear hU x0;go_loopw [9,10] (λqv iv wr=>∃(k : Nat) (aq : OA) (cq : Nat) (out : Lz),k<=nt/\iv = .int .i64 k/\qv = .slice aq out.length cq/\Hid (K=out ++ (if s.length<C.W then (t.drop k).filter (λx=>decide (¬ x ∈ z)) else []))/\out.length<=k /\
   wr.ownsRow U.heap.size 3 1 (.slice aq out.length cq) out.length (out.map (Value.int .i64))/\NS U wr)
  (λ_ iv _=>nt - (intOf iv).toNat)
 case atStart=>exact ⟨0,none,0,[],I7 _,rfl,rfl,(show _=_ by rw [<- HK.out,jr,Kx,JL]),I7 _,bX,I1 _ _⟩
 case round =>
  obtain ⟨k,aq,cq,out,hk,rfl,rfl,hst,hln,hop,hbr⟩:=hrel
  generalize wr=V at *
  have c6:=(HX.out.aa hbr).cell 6 rfl
  by_cases hlt : k<nt
  ·by_cases hW : ns<C.W
   ·have d1 : decide ((ns : Int)<(C.W : Int))=true:=by simp;omega
    have ck:=(ht.aa (Nh hbU hbr)).cell k hlt
    have hktl : k<t.length:=by rw [Htl.out];exact hlt
    have Hdk:=Z5 (show t.drop k=nth t k :: t.drop (k+1) by rw [ai hktl];exact Jt hktl)
    have HI:=Z5 (tR az nz cz z (nth t k) V (hz.aa (Nh hbU hbr)))
    have hlsW : s.length<C.W:=by rw [Hsl.out];exact hW
    by_cases hm1 : nth t k ∈ z
    ·have hmd : decide (nth t k ∈ z)=true:=by simpa using hm1
     rw [hmd] at HI
     have Hst : Hid (K=out ++ (if s.length<C.W then (t.drop (k+1)).filter (λx=>decide (¬ x ∈ z)) else [])):=by show _=_;rw [hst.out,Hdk.out,I6 hlsW,I6 hlsW,Kr (by simpa using hm1)]
     clear hm1 hmd hlsW
     go_wp2_with fail
     refine HI.out.mono ?_
     rintro e w6 ⟨rfl,rfl⟩
     go_wp2_with fail
     go_roundw
     case rel=>exact ⟨k+1,aq,cq,out,by omega,by go_num,rfl,Hst.out,by omega,hop,hbr⟩
     case measure=>simp [intOf] <;> omega
    ·have hmd : decide (nth t k ∈ z)=false:=by simpa using hm1
     rw [hmd] at HI
     have Hst : Hid (K=(out ++ [nth t k]) ++ (if s.length<C.W then (t.drop (k+1)).filter (λx=>decide (¬ x ∈ z)) else [])):=by show _=_;rw [hst.out,Hdk.out,I6 hlsW,I6 hlsW,Ks (by simpa using hm1),JQ];rfl
     obtain ⟨x,hx⟩ : ∃x,nth t k=x:=⟨_,rfl⟩
     rw [hx] at ck Hst HI
     have hcn:=bk V (.int .i64 x) 3
     have hbn:=aw V (.cells #[.int .i64 x] 3)
     have hszV:=hbr.size
     clear hm1 hmd hlsW hx
     go_wp2_with fail
     refine HI.out.mono ?_
     rintro e w6 ⟨rfl,rfl⟩
     go_wp2_with (at_builtin;refine bg rfl _ _ 22 3 rfl (.int .i64 0) 8 underlying22 ba rfl U.heap.size aq out.length cq _ rfl (hop.alloc _) ⟨w6.heap.size,0,none⟩ 1 (.int .i64 x) rfl hcn rfl (by omega) (by unfold maxLen;omega) (by simp;omega) ?_;intro a5 c5 w5 hown5 hgr5 hap5)
     go_roundw
     case rel =>
      have hb5 : NS U w5:=Nk (Ju hbr (hbn.mono hszV)) (hop.alloc _) hgr5 (IZ _) (Ji hszV hbn.size)
      exact ⟨k+1,a5,c5,out ++ [x],by omega,by go_num,by simp,Hst.out,by simp;omega,by simpa using hown5,hb5⟩
     case measure=>simp [intOf] <;> omega
   ·have d1 : decide ((ns : Int)<(C.W : Int))=false:=by simp;omega
    have Ho : Hid (K=out):=by show _=_;rw [hst.out,I5 (by rw [Hsl.out];exact hW),KC]
    have hop2:=aU hop hbU.size
    have hF:=Nh hbU hbr
    go_wp2_with fail
    go_ret
    exact ⟨aq,cq,by rw [Ho.out];rfl,by rw [Ho.out];exact hop2,hF⟩
  ·obtain rfl : k=nt:=by omega
   have Ho : Hid (K=out):=by show _=_;rw [hst.out,JD (by rw [Htl.out];exact IZ _)];split <;> simp
   have hop2:=aU hop hbU.size
   have hF:=Nh hbU hbr
   go_wp2_with fail
   go_ret
   exact ⟨aq,cq,by rw [Ho.out];rfl,by rw [Ho.out];exact hop2,hF⟩
theorem mM {P M : Int} (am : OA) (mn cm : Nat) {mod : Lz} (k : Nat) (a : OA) (n c : Nat) {D : Ll} {w : World} (hmod : Ints w am mn mod) (hi : ch w a n D) (hB : bp P M mod=true) (hR : cw (ah P M.toNat mod).El k D) (hk : k<=256) (hn : n<=256) :
  ∀V,NS w V->Calls prog 119 #[.agg #[.int .i64 P,.int .i64 M,.slice am mn cm],.agg #[.int .i64 k,.slice a n c]] V λe w'=>e = .returned (.int .i64 0)/\NS V w':=λV hV=>by have h:=l9 P M am mn cm mod k a n c D V (hmod.aa hV) (hi.aa hV);rw [xM,jP hB hk (by rw [hi.len];exact hn) hR] at h;exact h
theorem wU (P M : Int) (am : OA) (mn cm : Nat) (mod : Lz) (k : Nat) (a : OA) (c : Nat) (D : Ll) (w : World) (hmod : Ints w am mn mod) (hi : ch w a k D) (hB : bp P M mod=true) (hR : cw (ah P M.toNat mod).El k D) (hk : k<=64) :
  Calls prog 174 #[.agg #[.int .i64 P,.int .i64 M,.slice am mn cm],.agg #[.int .i64 k,.slice a k c]] w λe w'=>e = .returned (.int .i64 0)/\NS w w':=by
 have HC:=Z5 (mM am mn cm k a k c hmod hi hB hR (by omega) (by omega));clear hmod hi hB hR;go_enter func174,ntmps174;go_wp2_with fail;obtain ⟨W,hW⟩ : ∃W : World,W=(w.alloc (.cells #[.int .i64 P,.int .i64 M,.slice am mn cm] 24)).alloc (.cells #[.int .i64 k,.slice a k c] 82):=⟨_,rfl⟩
 rw [<- hW];have hbW : NS w W:=by rw [hW];exact dA _ _ _
 have x1 : aZ W (w.heap.size+1) [.int .i64 k,.slice a k c]:=by rw [hW];exact Nj _ _ _ (by simp)
 clear hW;refine (HC.out W hbW).mono ?_;rintro e w1 ⟨rfl,hb1⟩;have r1:=x1.aa hb1;have m0:=r1.cell 0 rfl;have m1:=r1.cell 1 rfl;have hF:=Nh hbW hb1;have hkk : ((k : Int) != k)=false:=by simp
 clear r1 x1;go_wp2_with fail;go_ret;exact ⟨rfl,hF⟩
theorem Et (P M : Int) (am : OA) (mn cm : Nat) (mod : Lz) (k : Nat) (a : OA) (n c : Nat) (A : Ll) (m : Nat) (ab : OA) (nb cb : Nat) (B : Ll) (w : World) (hmod : Ints w am mn mod) (hi : ch w a n A) (hb : ch w ab nb B) (hB : bp P M mod=true) (hA : cw (ah P M.toNat mod).El k A) (hBr : cw (ah P M.toNat mod).El m B) (hk : k<=256) (hm : m<=256) (hn : n<=256) (hnb : nb<=256) :
  Calls prog 177 #[.agg #[.int .i64 P,.int .i64 M,.slice am mn cm],.agg #[.int .i64 k,.slice a n c],.agg #[.int .i64 m,.slice ab nb cb]] w λe w'=>e = .returned (.int .i64 0)/\NS w w':=by
 have HC:=Z5 (mM am mn cm k a n c hmod hi hB hA hk hn);have HC2:=Z5 (mM am mn cm m ab nb cb hmod hb hB hBr hm hnb);clear hmod hi hB hA hBr hb;go_enter func177,ntmps177;go_wp2_with fail;obtain ⟨W,hW⟩ : ∃W : World,W=((w.alloc (.cells #[.int .i64 P,.int .i64 M,.slice am mn cm] 24)).alloc (.cells #[.int .i64 k,.slice a n c] 82)).alloc (.cells #[.int .i64 m,.slice ab nb cb] 82):=⟨_,rfl⟩
 rw [<- hW];have hbW : NS w W:=by rw [hW];exact nY _ _ _ _
 have x0 : aZ W w.heap.size [.int .i64 P,.int .i64 M,.slice am mn cm]:=by rw [hW];exact ((Nj _ _ _ rfl).alloc _).alloc _
 have x2 : aZ W (w.heap.size+1+1) [.int .i64 m,.slice ab nb cb]:=by rw [hW];exact Nj _ _ _ (by simp)
 clear hW;refine (HC.out W hbW).mono ?_;rintro e w1 ⟨rfl,hb1⟩;have hbw1:=Nh hbW hb1;have r0:=x0.aa hb1;have r2:=x2.aa hb1;have f0:=r0.cell 0 rfl;have f1:=r0.cell 1 rfl;have f2:=r0.cell 2 rfl;have m0:=r2.cell 0 rfl;have m1:=r2.cell 1 rfl;have Hc:=Z5 (HC2.out w1 hbw1);clear r0 r2 x0 x2;go_wp2_with fail;refine Hc.out.mono ?_;rintro e w2 ⟨rfl,hb2⟩;have hF:=Nh hbw1 hb2;go_wp2_with fail;go_ret;exact ⟨rfl,hF⟩
theorem qQ (P M : Int) (am : OA) (mn cm : Nat) (mod : Lz) (k : Nat) (a : OA) (n c : Nat) (D : Ll) (w : World) (hmod : Ints w am mn mod) (hi : ch w a n D) (hB : bp P M mod=true) (hR : cw (ah P M.toNat mod).El k D) (hk : k<=256) (hn : n<=256) :
  Calls prog 228 #[.agg #[.int .i64 P,.int .i64 M,.slice am mn cm],.agg #[.int .i64 k,.slice a n c]] w λe w'=>∃a1 c1 ap cp,e = .returned (.tuple #[.agg #[.int .i64 k,.slice a1 (aD (ah P M.toNat mod).ops D k).2.length c1],.slice ap (aD (ah P M.toNat mod).ops D k).2.length cp,.int .i64 0])/\NS w w':=by
 have HC:=Z5 (mM am mn cm k a n c hmod hi hB hR hk hn);have hinv:=lj (P:=P) (M:=M) (mod:=mod) (by rw [da];exact hB);obtain ⟨M',rfl,hel,_,hF,hA,_⟩:=fU hB;obtain ⟨M2,e2,hrf,hmods⟩:=eK (by rw [da];exact hB);obtain rfl : M'=M2:=by omega
 rw [Jd] at hR hinv ⊢;rw [<- hel] at hR;have hag:=(fV hA hF.cl hR k (IZ _)).1;rw [hag];have HCn : Hid (∀V,NS w V->Calls prog 120 #[.agg #[.int .i64 P,.int .i64 M',.slice am mn cm],.slice a n c,.int .i64 k] V λe w' =>
   NS V w'/\∃a1 c1 ap cp,e = .returned (.tuple #[.slice a1 (aD (ia P M' mod) D k).2.length c1,.slice ap (aD (ia P M' mod) D k).2.length cp])):=λV hV=>by refine (mA P M' am mn cm mod a n c k D V ⟨hrf,hmods V am mn (hmod.aa hV)⟩ (hi.aa hV) hR (by omega) (by omega) hinv).mono ?_;rintro e w' ⟨a4,c4,ap,cp,rfl,_,_,hb⟩;exact ⟨hb,a4,c4,ap,cp,rfl⟩
 obtain ⟨q,hq⟩ : ∃q,(aD (ia P M' mod) D k).2.length=q:=⟨_,rfl⟩
 rw [hq] at HCn ⊢;clear hB hR hinv hel hF hA e2 hrf hmods hag hq hmod hi;go_enter func228,ntmps228;go_wp2_with fail;obtain ⟨W,hW⟩ : ∃W : World,W=((w.alloc (.cells #[.int .i64 P,.int .i64 M',.slice am mn cm] 24)).alloc (.cells #[.int .i64 k,.slice a n c] 82)).alloc (.cells #[.int .i64 0,.slice none 0 0] 82):=⟨_,rfl⟩
 rw [<- hW];have hbW : NS w W:=by rw [hW];exact nY _ _ _ _
 have x0 : aZ W w.heap.size [.int .i64 P,.int .i64 M',.slice am mn cm]:=by rw [hW];exact ((Nj _ _ _ rfl).alloc _).alloc _
 have x1 : aZ W (w.heap.size+1) [.int .i64 k,.slice a n c]:=by rw [hW];exact (Nj _ _ _ (by simp)).alloc _
 have x2 : aZ W (w.heap.size+1+1) [.int .i64 0,.slice none 0 0]:=by rw [hW];exact Nj _ _ _ (by simp)
 have HX:=Z5 (Jg x0 (Jg x1 x2));clear hW x0 x1 x2;refine (HC.out W hbW).mono ?_;rintro e w1 ⟨rfl,hb1⟩;have hbw1:=Nh hbW hb1;have r0:=HX.out.1.aa hb1;have r1:=HX.out.2.1.aa hb1;have f0:=r0.cell 0 rfl;have f1:=r0.cell 1 rfl;have f2:=r0.cell 2 rfl;have m0:=r1.cell 0 rfl;have m1:=r1.cell 1 rfl;have Hc:=Z5 (HCn.out w1 hbw1);clear r0 r1;go_wp2_with fail;refine Hc.out.mono ?_;rintro e w2 ⟨hb2,a1,c1,ap,cp,rfl⟩;have hbw2:=Nh hbw1 hb2;have r1:=HX.out.2.1.aa (Nh hb1 hb2);have r2:=HX.out.2.2.aa (Nh hb1 hb2);have m0:=r1.cell 0 rfl;have z0:=r2.cell 0 rfl;have z1:=r2.cell 1 rfl;have g0:=r2.frozen 0;have g1:=r2.frozen 1;have hF : NS w ((w2.setCell ⟨w.heap.size+1+1,0,none⟩ (.int .i64 k)).setCell ⟨w.heap.size+1+1,1,none⟩ (.slice a1 q c1)):=(hbw2.setCell (p:=⟨w.heap.size+1+1,0,none⟩) (by simp;omega) _).setCell (p:=⟨w.heap.size+1+1,1,none⟩) (by simp;omega) _;clear r1 r2 Hc f0 f1 f2 m1;go_wp2_with fail;exact bodyPost_ret (v:=.tuple #[.agg #[.int .i64 k,.slice a1 q c1],.slice ap q cp,.int .i64 0]) (by simp [results,results228,go_sem,z0,z1]) rfl ⟨a1,c1,ap,cp,rfl,hF⟩
theorem vW (P M : Int) (am : OA) (mn cm : Nat) (mod : Lz) (k : Nat) (a : OA) (n c : Nat) (D : Ll) (w : World) (hmod : Ints w am mn mod) (hi : ch w a n D) (hB : bp P M mod=true) (hR : cw (ah P M.toNat mod).El k D) (hk : k<=256) (hn : n<=256) :
  Calls prog 176 #[.agg #[.int .i64 P,.int .i64 M,.slice am mn cm],.agg #[.int .i64 k,.slice a n c]] w λe w'=>e = .returned (.tuple #[.int .i64 (aD (ah P M.toNat mod).ops D k).2.length,.int .i64 0])/\NS w w':=by
 have HC:=Z5 (λV (hV : NS w V)=>qQ P M am mn cm mod k a n c D V (hmod.aa hV) (hi.aa hV) hB hR hk hn);obtain ⟨q,hq⟩ : ∃q,(aD (ah P M.toNat mod).ops D k).2.length=q:=⟨_,rfl⟩
 rw [hq] at HC ⊢;clear hmod hi hB hR hq;go_enter func176,ntmps176;go_wp2_with fail;have hbW:=dA w (.cells #[.int .i64 P,.int .i64 M,.slice am mn cm] 24) (.cells #[.int .i64 k,.slice a n c] 82);refine (HC.out _ hbW).mono ?_;rintro e w1 ⟨a1,c1,ap,cp,rfl,hb1⟩;have hF:=Nh (Nh hbW hb1) (aw w1 (.cells #[.int .i64 k,.slice a1 q c1] 82));go_wp2_with fail;go_ret2;exact ⟨rfl,hF⟩
theorem uX (P M : Int) (am : OA) (mn cm : Nat) (mod : Lz) (m : Nat) (a : OA) (n c : Nat) (L : Ll) (ay : OA) (ny cy : Nat) (C : jg) (sa : OA) (ns cs : Nat) (s : Lz) (at' : OA) (nt ct : Nat) (t : Lz) (w : World)
  (hmod : Ints w am mn mod) (hi : ch w a n L) (hE : aJ P M mod m L=0) (hc : C.cos=false) (hs : Ints w sa ns s) (ht : Ints w at' nt t) :
  Calls prog 237 #[oy P M am mn cm m a n c ay ny cy C,.slice sa ns cs,.slice at' nt ct] w λe w'=>e = .returned (.bool (dq (ah P M.toNat mod).ops L m C s t))/\NS w w':=by
 have Htl:=Z5 ht.len;have hplt:=ht.pl;have hmax:=ht.max;unfold maxLen at hmax;obtain ⟨RS,hRS⟩ : ∃RS,dq (ah P M.toNat mod).ops L m C s t=RS:=⟨_,rfl⟩
 rw [hRS];have HRS : Hid (RS=(kU m s t && (decide ((gD (ah P M.toNat mod).ops L t).length=t.length) && decide (t.length=C.M)))):=by show _=_;rw [<- hRS,dq,hc];simp only [Bool.false_eq_true,if_false]
 have Hm:=Z5 (dP hE);unfold oy;rw [hc];clear hRS hc;go_enter func237,ntmps237;go_wp2_with fail;obtain ⟨U,hU⟩ : ∃U : World,U=w.alloc (.cells #[.int .i64 P,.int .i64 M,.slice am mn cm,.int .i64 m,.slice a n c,.int .i64 C.M,.int .i64 C.W,.slice ay ny cy,.bool false] 196):=⟨_,rfl⟩
 rw [<- hU];have hbU : NS w U:=by rw [hU];exact aw _ _
 have x0 : aZ U w.heap.size [.int .i64 P,.int .i64 M,.slice am mn cm,.int .i64 m,.slice a n c,.int .i64 C.M,.int .i64 C.W,.slice ay ny cy,.bool false]:=by rw [hU];exact Nj _ _ _ rfl
 have HS : Hid (∀V,NS U V->V.cell? ⟨w.heap.size,0,none⟩=some (.int .i64 P)/\V.cell? ⟨w.heap.size,1,none⟩=some (.int .i64 M)/\V.cell? ⟨w.heap.size,2,none⟩=some (.slice am mn cm)/\V.cell? ⟨w.heap.size,3,none⟩=some (.int .i64 m)/\V.cell? ⟨w.heap.size,4,none⟩=some (.slice a n c) /\
   V.cell? ⟨w.heap.size,5,none⟩=some (.int .i64 C.M)/\V.cell? ⟨w.heap.size,8,none⟩=some (.bool false)):=λV hV=>by have x1:=x0.aa hV;exact ⟨x1.cell 0 rfl,x1.cell 1 rfl,x1.cell 2 rfl,x1.cell 3 rfl,x1.cell 4 rfl,x1.cell 5 rfl,x1.cell 8 rfl⟩
 clear hU x0;refine (rN m at' nt ct t U (ht.aa hbU)).mono ?_;rintro e w1 ⟨rfl,hd1⟩;have hb1 : NS U w1:=hd1.below;have hbw1:=Nh hbU hb1;obtain ⟨zo,hzo⟩ : ∃zo,cF m t=zo:=⟨_,rfl⟩
 rw [hzo];cases zo
 ·have HF : Hid (RS=false):=by show _=_;rw [HRS.out,kU,hzo];rfl
  clear hzo;go_wp2_with fail;go_ret;exact ⟨by rw [HF.out];rfl,hbw1⟩
 have Hok:=Z5 hzo;clear hzo;have ht1:=ht.aa hbw1;have hs1:=hs.aa hbw1;go_wp2_with fail;go_loop [7] (λiv=>∃k : Nat,k<=nt/\iv = .int .i64 k/\Hid (∀j,j<k->¬ nth t j ∈ s)) (λiv=>nt - (intOf iv).toNat);case atStart=>exact ⟨0,I7 _,rfl,λj hj=>by omega⟩
 case round =>
  obtain ⟨k,hk,rfl,hno⟩:=hrel
  generalize w1=wr at *
  by_cases hlt : k<nt
  ·have ck:=ht1.cell k hlt
   have HI:=Z5 (tR sa ns cs s (nth t k) wr hs1)
   by_cases hm1 : nth t k ∈ s
   ·have hmd : decide (nth t k ∈ s)=true:=by simpa using hm1
    rw [hmd] at HI
    have HF : Hid (RS=false):=by
     show _=_;have h1 : t.all (λx=>decide (¬ x ∈ s))=false:=by rw [Kq];exact ⟨nth t k,aK (by rw [Htl.out];exact hlt),by simpa using hm1⟩
     rw [HRS.out,kU,h1,Lo];rfl
    clear hm1 hmd
    go_wp2_with fail
    refine HI.out.mono ?_
    rintro e w6 ⟨rfl,rfl⟩
    go_wp2_with fail
    go_ret
    exact ⟨by rw [HF.out];rfl,hbw1⟩
   ·have hmd : decide (nth t k ∈ s)=false:=by simpa using hm1
    rw [hmd] at HI
    have Hno2 : Hid (∀j,j<k+1->¬ nth t j ∈ s):=λj hj=>by
     by_cases e : j=k
     ·rw [e];exact hm1
     ·exact hno.out j (by omega)
    clear hm1 hmd hno
    go_wp2_with fail
    refine HI.out.mono ?_
    rintro e w6 ⟨rfl,rfl⟩
    go_wp2_with fail
    go_round
    case rel=>exact ⟨k+1,by omega,by go_num,Hno2.out⟩
    case measure=>simp [intOf] <;> omega
  ·have hkn : k=nt:=by omega
   subst hkn
   have hset : kU m s t=true:=by rw [kU,Hok.out,Ku,JO];intro x hx;obtain ⟨j,hj,rfl⟩:=List.mem_iff_getElem.1 hx;have h1:=hno.out j (by rw [<- Htl.out];exact hj);rw [ai hj] at h1;simpa using h1
   obtain ⟨m',hm',hm1,hm2,_,_⟩:=Hm.out
   have hklen : k<=64:=by have h1:=gE Hok.out (by omega);rw [Htl.out] at h1;omega
   have HO:=Z5 (oh P M am mn cm mod m a n c L at' k ct t wr (hmod.aa hbw1) (hi.aa hbw1) ht1 hE (EV Hok.out) (by omega))
   have HR2 : Hid (RS=(decide ((gD (ah P M.toNat mod).ops L t).length=k) && decide (k=C.M))):=by show _=_;rw [HRS.out,hset,Ku,Htl.out]
   obtain ⟨r1,hr1⟩ : ∃r1,(gD (ah P M.toNat mod).ops L t).length=r1:=⟨_,rfl⟩
   rw [hr1] at HO HR2
   obtain ⟨c0,c1,c2,c3,c4,c5,c8⟩:=HS.out wr hb1
   clear hset hr1 hm' hm1 hm2
   go_wp2_with fail
   refine HO.out.mono ?_
   rintro e w2 ⟨rfl,hb2⟩
   have hb12:=Nh hb1 hb2
   have hbF:=Nh hbU hb12
   clear c0 c1 c2 c3 c4 c5 c8
   obtain ⟨c0,c1,c2,c3,c4,c5,c8⟩:=HS.out w2 hb12
   by_cases hrr : r1=k
   ·have hne : ((r1 : Int) != k)=false:=by simp [hrr]
    by_cases hM : k=C.M
    ·have HF : Hid (RS=true):=by show _=_;rw [HR2.out,Jm hrr,Jm hM];rfl
     have hd : ((k : Int) == C.M)=true:=by simp [hM]
     clear hrr hM
     go_wp2_with fail
     go_ret
     exact ⟨by rw [HF.out];rfl,hbF⟩
    ·have HF : Hid (RS=false):=by show _=_;rw [HR2.out,Jn hM,Lo]
     have hd : ((k : Int) == C.M)=false:=by simp;omega
     clear hrr hM
     go_wp2_with fail
     go_ret
     exact ⟨by rw [HF.out];rfl,hbF⟩
   ·have HF : Hid (RS=false):=by show _=_;rw [HR2.out,Jn hrr];rfl
    have hne : ((r1 : Int) != k)=true:=by simp;omega
    clear hrr
    go_wp2_with fail
    go_ret
    exact ⟨by rw [HF.out];rfl,hbF⟩
def CX (P M : Int) (am : OA) (mn cm : Nat) (mod : Lz) (m : Nat) (a : OA) (n c : Nat) (L : Ll) (ay : OA) (ny cy : Nat) (C : jg) (w0 : World) : Prop :=
 ∀(V : World) (sa : OA) (ns cs : Nat) (s : Lz) (at' : OA) (nt ct : Nat) (t : Lz),ns<=64->NS w0 V->Ints V sa ns s->Ints V at' nt t ->
  Calls prog 237 #[oy P M am mn cm m a n c ay ny cy C,.slice sa ns cs,.slice at' nt ct] V λe w'=>e = .returned (.bool (dq (ah P M.toNat mod).ops L m C s t))/\NS V w'
theorem wA {P M : Int} {am : OA} {mn cm : Nat} {mod : Lz} {m : Nat} {a : OA} {n c : Nat} {L : Ll} {ay : OA} {ny cy : Nat} {C : jg} {w0 : World}
  (hmod : Ints w0 am mn mod) (hi : ch w0 a n L) (hE : aJ P M mod m L=0) (hc : C.cos=false) : CX P M am mn cm mod m a n c L ay ny cy C w0:=λV sa ns cs s at' nt ct t _ hV hs ht =>
 uX P M am mn cm mod m a n c L ay ny cy C sa ns cs s at' nt ct t V (hmod.aa hV) (hi.aa hV) hE hc hs ht
theorem CF {D U : Ll} {i : Nat} (h1 : i<D.length) (h2 : i<U.length) : an (eD D U) i=an D i ++ an U i:=by
 have h : i<(eD D U).length:=by simp [eD];omega
 rw [aE h,aE h1,aE h2];simp [eD]
theorem Ints.drop {w : World} {b o : Nat} {n k : Nat} {l : Lz} (h : Ints w (some ⟨b,o,none⟩) n l) (hk : k<=n) : Ints w (some ⟨b,o+k,none⟩) (n - k) (l.drop k) :=
 ⟨by rw [Kg,h.len],λ_=>rfl,by have:=h.max;omega,λi hi=>by
  have h1:=h.cell (k+i) (by omega);have e : nth (l.drop k) i=nth l (k+i):=by unfold nth;simp only [Jc,K8]
  rw [e];simp only [ablk_some,aoff_some] at h1 ⊢;rw [KF];exact h1⟩
theorem qf (P M : Int) (am : OA) (mn cm : Nat) (mod : Lz) (k : Nat) (a : OA) (c : Nat) (D : Ll) (w : World) (hmod : Ints w am mn mod) (hi : ch w a k D) (hB : bp P M mod=true) (hR : cw (ah P M.toNat mod).El k D) (hk : k<=64) :
  Calls prog 175 #[.agg #[.int .i64 P,.int .i64 M,.slice am mn cm],.agg #[.int .i64 k,.slice a k c]] w λe w' =>
   ∃a1 c1 a2 c2,e = .returned (.tuple #[.agg #[.int .i64 k,.slice a1 k c1],.agg #[.int .i64 k,.slice a2 k c2],.int .i64 0])/\cH w.heap.size w' a1 k (jE (ah P M.toNat mod).ops D k)/\NS w w':=by
 have HC:=Z5 (mM am mn cm k a k c hmod hi hB hR (by omega) (by omega));have hinv:=lj (P:=P) (M:=M) (mod:=mod) (by rw [da];exact hB);have F:=fq hB;have hDl:=hi.len;have hJr:=jX hR (nO F.zero F.one k);have hJl : (eD D (dH k)).length=k:=by simp [eD,bV,hDl]
 have HJn : Hid (∀i,i<k->(eD D (dH k)).take (i+1)=(eD D (dH k)).take i ++ [an D i ++ ez k i]/\(an D i).length=k):=λi hi'=>by have h:=CF (D:=D) (U:=dH k) (i:=i) (by omega) (by rw [bV];exact hi');rw [gJ hi'] at h;rw [Ja (by rw [hJl];exact hi'),<- aE (by rw [hJl];exact hi'),h];exact ⟨rfl,(hR.row (i:=i) (by omega)).1⟩
 unfold jE;obtain ⟨J,hJ⟩ : ∃J,eD D (dH k)=J:=⟨_,rfl⟩
 rw [hJ] at hJr hJl HJn ⊢;obtain ⟨M',rfl,hel,_,hF,hA,_⟩:=fU hB;obtain ⟨M2,e2,hrf,hmods⟩:=eK (by rw [da];exact hB);obtain rfl : M'=M2:=by omega
 rw [Jd] at hJr hinv ⊢;rw [<- hel] at hJr;have hag:=(fV hA hF.cl hJr k (by omega)).1;rw [hag];have HEl : Hid (∀V ab cb,NS w V->ch V ab k J->Calls prog 183 #[.agg #[.int .i64 P,.int .i64 M',.slice am mn cm],.slice ab k cb,.int .i64 k] V λe w' =>
   NS V w'/\∃a1 c1 v,e = .returned (.tuple #[.slice a1 k c1,v])/\ch w' a1 k (aD (ia P M' mod) J k).1/\Hid (∀j,j<k->∀ra rn rc,w'.cell? ⟨aj a1,aL a1+j,none⟩=some (.slice ra rn rc)->rn<=rc)):=λV ab cb hV hM=>by refine (tS P M' am mn cm mod ab k cb k (k+k) J V ⟨hrf,hmods V am mn (hmod.aa hV)⟩ hM hJr (by omega) (by omega) (by omega) hinv).mono ?_;rintro e w' ⟨a4,c4,R4,ap,cp,rfl,hO,_,hb⟩;rw [hJl] at hO ⊢;refine ⟨hb,a4,c4,_,rfl,hO.l7,λj hj ra rn rc hc=>?_⟩;have h1:=hO.cell hj;rw [hc] at h1;have h2:=nR (hO.row j hj);simp only [Option.some.injEq,Value.slice.injEq] at h1;omega
 have HEn : Hid ((aD (ia P M' mod) J k).1.length=k):=by show _=_;rw [b9];exact hJl
 have HEw : Hid (∀i,i<k->(an (aD (ia P M' mod) J k).1 i).length=k+k):=λi hi'=>by have h:=fV hA hF.cl hJr k (by omega);rw [h.1] at h;exact (h.2.row (i:=i) (by rw [b9];omega)).1
 obtain ⟨E,hE⟩ : ∃E,(aD (ia P M' mod) J k).1=E:=⟨_,rfl⟩
 rw [hE] at HEl HEw HEn ⊢;have HJl:=Z5 hJl;clear hB hR hinv hel hF hA e2 hrf hmods hag hE hmod F hJr hJ hJl hDl;go_enter func175,ntmps175;go_wp2_with fail;obtain ⟨W,hW⟩ : ∃W : World,W=(((w.alloc (.cells #[.int .i64 P,.int .i64 M',.slice am mn cm] 24)).alloc (.cells #[.int .i64 k,.slice a k c] 82)).alloc (.cells #[.int .i64 0,.slice none 0 0] 82)).alloc (.cells #[.int .i64 0,.slice none 0 0] 82):=⟨_,rfl⟩
 rw [<- hW];have hbW : NS w W:=by rw [hW];exact ((((I1 _ _).alloc (IZ _) _).alloc (by simp) _).alloc (by simp;omega) _).alloc (by simp;omega) _
 have x0 : aZ W w.heap.size [.int .i64 P,.int .i64 M',.slice am mn cm]:=by rw [hW];exact (((Nj _ _ _ rfl).alloc _).alloc _).alloc _
 have x1 : aZ W (w.heap.size+1) [.int .i64 k,.slice a k c]:=by rw [hW];exact ((Nj _ _ _ (by simp)).alloc _).alloc _
 have x2 : aZ W (w.heap.size+1+1) [.int .i64 0,.slice none 0 0]:=by rw [hW];exact (Nj _ _ _ (by simp)).alloc _
 have x3 : aZ W (w.heap.size+1+1+1) [.int .i64 0,.slice none 0 0]:=by rw [hW];exact Nj _ _ _ (by simp)
 have HS : Hid (∀V,NS W V->(V.cell? ⟨w.heap.size,0,none⟩=some (.int .i64 P)/\V.cell? ⟨w.heap.size,1,none⟩=some (.int .i64 M')/\V.cell? ⟨w.heap.size,2,none⟩=some (.slice am mn cm))/\V.cell? ⟨w.heap.size+1,0,none⟩=some (.int .i64 k)/\V.cell? ⟨w.heap.size+1,1,none⟩=some (.slice a k c)):=λV hV=>by have r0:=x0.aa hV;have r1:=x1.aa hV;exact ⟨⟨r0.cell 0 rfl,r0.cell 1 rfl,r0.cell 2 rfl⟩,r1.cell 0 rfl,r1.cell 1 rfl⟩
 have HX:=Z5 (Jg x2 x3);have HbW:=Z5 hbW;clear hW x0 x1 x2 x3 hbW;refine (HC.out W HbW.out).mono ?_;rintro e w1 ⟨rfl,hb1⟩;obtain ⟨⟨f0,f1,f2⟩,m0,m1⟩:=HS.out w1 hb1;have hun:=xD k w1 (by omega);have Hun:=Z5 hun;have hpla:=hi.pl;clear hun HC f0 f1 f2;go_wp2_with fail;refine Hun.out.mono ?_;rintro e X ⟨au,cu,Ru,rfl,hU,hb2⟩;have hbX:=Nh hb1 hb2;have hbwX:=Nh HbW.out hbX;have HMu:=Z5 hU.l7;have hplu:=hU.l7.pl;have hiX:=hi.aa hbwX;clear hU m0 m1 Hun hb1 hb2 hi;go_wp2_with fail;go_loopw [10,11] (λov iv wr=>∃(i : Nat) (ab : OA) (cb : Nat),i<=k/\iv = .int .i64 i/\ov = .slice ab i cb/\(∃R,aP wr X.heap.size ab i cb R (J.take i))/\NS X wr) (λ_ iv _=>k - (intOf iv).toNat);case atStart=>exact ⟨0,none,0,I7 _,rfl,rfl,⟨[],by simpa using NB X X.heap.size⟩,I1 _ _⟩
 case round =>
  obtain ⟨i,ab,cb,hik,rfl,rfl,⟨R,hO⟩,hbr⟩:=hrel
  by_cases hlt : i<k
  ·obtain ⟨ra,rn,rc,hcell,hrow⟩:=hiX.cell i hlt
   obtain ⟨ua,un,uc,hcellu,hrowu⟩:=HMu.out.cell i hlt
   obtain ⟨hst,hrl⟩:=HJn.out i hlt
   have hrn : rn=k:=by rw [<- hrow.len];exact hrl
   have hun : un=k:=by rw [<- hrowu.len,gJ hlt,fF]
   obtain rfl : k=rn:=hrn.symm
   obtain rfl : k=un:=hun.symm
   rw [gJ hlt] at hrowu
   obtain ⟨Di,hDi⟩ : ∃Di,an D i=Di:=⟨_,rfl⟩
   obtain ⟨Ui,hUi⟩ : ∃Ui,ez k i=Ui:=⟨_,rfl⟩
   rw [hDi] at hrow hst hrl
   rw [hUi] at hrowu hst
   have hul : Ui.length=k:=by rw [<- hUi];exact fF k i
   have hplr:=hrow.pl
   have hplru:=hrowu.pl
   have HS2 : Hid (∀V,NS X V->V.cell? ⟨w.heap.size+1,1,none⟩=some (.slice a k c)/\V.cell? ⟨aj a,aL a+i,none⟩=some (.slice ra k rc)/\V.cell? ⟨aj au,aL au+i,none⟩=some (.slice ua k uc)/\Ints V ra k Di/\Ints V ua k Ui/\NS X V):=λV hV =>
    ⟨(HS.out V (Nh hbX hV)).2.2,aB hV hcell,aB hV hcellu,hrow.aa hV,hrowu.aa hV,hV⟩
   have Hst:=Z5 hst
   have Hdl:=Z5 hrl
   have Hul:=Z5 hul
   have HO:=Z5 (Jg hO hbr)
   have hsz:=hbr.size
   have hEa:=Z5 (aw wr (.cells #[] 3))
   have hOe:=Z5 (ff wr 3)
   have hbr0:=Z5 hbr
   clear hcell hcellu hrow hrowu hst hrl hul hDi hUi hO hrn hun
   go_wp2_with fail
   go_region_held3 (λV=>V.cell? ⟨w.heap.size+1,1,none⟩=some (.slice a k c)/\V.cell? ⟨aj a,aL a+i,none⟩=some (.slice ra k rc)/\V.cell? ⟨aj au,aL au+i,none⟩=some (.slice ua k uc)/\Ints V ra k Di/\Ints V ua k Ui/\NS X V)
    ((refine HS2.out _ ?_;first | exact hb7 | exact Nh hbr0.out hb5 | exact Nh hbr0.out hb4 | exact hbr0.out.drew | exact (Nh hbr0.out hEa.out).drew | exact Nh hbr0.out hEa.out | exact Nl (Nh hbr0.out hb5) _ | assumption | (go_split_ands;assumption)))
    (first
     | (obtain ⟨_,_,_,hIr,hIu,hB9⟩:=(by assumption : _/\_/\_/\Ints _ ra k Di/\Ints _ ua k Ui/\NS X _);refine bH (by rfl) (.tmp 34) (.tmp 39) 22 3 (by rfl) (.int .i64 0) 8 underlying22 ba (by rfl) wr.heap.size _ 0 0 [] (by rfl) (by exact hOe.out) ra k rc (Di.map (Value.int .i64)) (by rfl) hplr (by rw [Jl];exact Hdl.out) (Np hIr) (ints_oneCell _ _) (by omega) (by unfold maxLen;omega) (by exact hEa.out.size) ?_;intro a4 c4 w4 hown4 hgr4 hap4;have hb4 : NS wr w4:=(by first | exact Nk (e:=3) (xs:=[]) hEa.out hOe.out hgr4 (IZ _) hEa.out.size | exact Nk (e:=3) (xs:=[]) hEa.out.drew (by exact hOe.out) hgr4 (IZ _) hEa.out.drew.size);rw [Kk] at hown4 ⊢;rw [JL] at hown4)
     | (obtain ⟨_,_,_,hIr,hIu,hB9⟩:=(by assumption : _/\_/\_/\Ints _ ra k Di/\Ints _ ua k Ui/\NS X _);refine bH (by rfl) (.tmp 40) (.tmp 44) 22 3 (by rfl) (.int .i64 0) 8 underlying22 ba (by rfl) wr.heap.size a4 k c4 (Di.map (Value.int .i64)) (by rfl) (by exact hown4) ua k uc (Ui.map (Value.int .i64)) (by rfl) hplru (by rw [Jl];exact Hul.out) (Np hIu) (ints_oneCell _ _) (by omega) (by unfold maxLen;omega) hb4.size ?_;intro a5 c5 w5 hown5 hgr5 hap5;have hb5 : NS wr w5:=Nk hb4 hown4 hgr5 (IZ _) hb4.size;have hO5:=Z5 (HO.out.1.aa (Nh hb5 (aw w5 (.cells #[.slice a5 (k+k) c5] 22))));have hEb:=Z5 (Nl (Nh hbr0.out hb5) (.cells #[.slice a5 (k+k) c5] 22)))
     | (refine bH (by rfl) (.tmp 33) (.tmp 46) 25 22 (by rfl) (.slice none 0 0) 24 underlying25 di (by rfl) X.heap.size ab i cb _ (by rfl) (by exact hO5.out.own) _ 1 1 [.slice a5 (k+k) c5] (by rfl) (λ_=>rfl) rfl (by intro j hj;obtain rfl : j=0:=(by omega);exact bM _ _ _ rfl) (by intro y hy;simp at hy;subst hy;rfl) (by omega) (by unfold maxLen;omega) (by exact hEb.out.size) ?_;intro a6 c6 w6 hown6 hgr6 hap6;have hb7 : NS X w6:=(by first | exact Nk hEb.out hO5.out.own hgr6 (IZ _) hEb.out.size | exact Nk hEb.out.drew (by exact hO5.out.own) hgr6 (IZ _) hEb.out.drew.size)))
   all_goals (
    go_wp2_with fail
    go_roundw
    case rel =>
     have hown9 : (w5.alloc (.cells #[.slice a5 (k+k) c5] 22)).ownsRow X.heap.size 3 1 (.slice a5 (Di ++ Ui).length c5) (Di ++ Ui).length ((Di ++ Ui).map (Value.int .i64)):=by rw [Jh,Hdl.out,Hul.out,JR];exact aU (aX hown5 (aw _ _)) hsz
     have hra : a5 ≠ none->¬ bS ab R (aj a5):=λh0 hI=>by have h1:=(aM hown5 h0).1;have h2:=(HO.out.1.lt _ hI).2;omega
     have hl : (Di ++ Ui).length=k+k:=by rw [Jh,Hdl.out,Hul.out]
     have hP:=Ny hO5.out hown9 hra (by rw [hl];exact hown6) hgr6 hap6
     exact ⟨i+1,a6,c6,by omega,by go_num,rfl,⟨_,by rw [Hst.out];exact hP⟩,hb7⟩
    case measure=>simp [intOf] <;> omega)
  ·obtain rfl : i=k:=by omega
   obtain ⟨hl,hE2⟩ : (J.take i).length=i/\J.take i=J:=by have h:=hO.ll;refine ⟨h,?_⟩;exact I8 (by rw [HJl.out];exact IZ _)
   rw [hE2] at hO
   have hbwr:=Nh hbwX hbr
   have hbWr:=Nh hbX hbr
   have Hel:=Z5 (HEl.out wr ab cb hbwr hO.l7)
   obtain ⟨⟨f0,f1,f2⟩,m0,m1⟩:=HS.out wr hbWr
   clear hl hE2 hO HMu hiX hplu HEl HJn
   go_wp2_with fail
   refine Hel.out.mono ?_
   rintro e X2 ⟨hb3,ae,ce,ve,rfl,hEm,hEc⟩
   have hbX2:=Nh hbWr hb3
   have hplE:=hEm.pl
   clear f0 f1 f2 m0 m1 Hel hb3 hbr hbwr hbWr
   go_wp2_with fail
   go_loopw [12,13,14] (λtv rv jv ws=>∃(j : Nat) (at1 : OA) (ct : Nat) (ar : OA) (cr : Nat),j<=i/\jv = .int .i64 j/\tv = .slice at1 j ct/\rv = .slice ar j cr/\(∃xs,ws.ownsRow X2.heap.size 22 1 (.slice ar j cr) j xs)/\(∃R,aP ws X2.heap.size at1 j ct R ((E.map (List.drop i)).take j)/\Hid (∀b,bS at1 R b->cJ ar b))/\NS X2 ws) (λ_ _ jv _=>i - (intOf jv).toNat)
   case atStart=>exact ⟨0,none,0,none,0,I7 _,rfl,rfl,rfl,⟨[],bX⟩,⟨[],by simpa using NB X2 X2.heap.size,λb _=>.inl rfl⟩,I1 _ _⟩
   case round =>
    obtain ⟨j,at1,ct,ar,cr,hji,rfl,rfl,rfl,⟨xs,hownr⟩,⟨R,hOt,hsep⟩,hbr⟩:=hrel
    by_cases hlt : j<i
    ·obtain ⟨ra,rn,rc,hcell,hrow⟩:=hEm.cell j hlt
     have hrn : rn=i+i:=by rw [<- hrow.len];exact HEw.out j hlt
     have hni : rn - i=i:=by omega
     have hri : i<rn:=by omega
     clear hrn
     obtain ⟨Ei,hEi⟩ : ∃Ei,an E j=Ei:=⟨_,rfl⟩
     rw [hEi] at hrow
     have hplr:=hrow.pl
     have HS2 : Hid (∀V,NS X2 V->V.cell? ⟨w.heap.size+1,0,none⟩=some (.int .i64 i)/\V.cell? ⟨aj ae,aL ae+j,none⟩=some (.slice ra rn rc)/\Ints V ra rn Ei/\NS X2 V):=λV hV =>
      ⟨(HS.out V (Nh hbX2 hV)).2.1,aB hV hcell,hrow.aa hV,hV⟩
     have hlen:=Z5 hrow.len
     have hplk : Pl ra i:=λh=>hplr (by omega)
     have hcap:=hEc.out j hlt ra rn rc hcell
     have hcap2 : i<=rc:=by omega
     have hcap3 : (i : Int)<=rc:=by omega
     have hcap4 : (i : Int)<=rn:=by omega
     have hcap5 : i<=rn:=by omega
     have HO:=Z5 (Jg hOt (Jg hownr hbr))
     have hsz:=hbr.size
     have hEa:=Z5 (aw wr (.cells #[] 3))
     have hOe:=Z5 (ff wr 3)
     have hbr0:=Z5 hbr
     have hEi:=Z5 hEi
     clear hcell hrow hOt hownr
     go_wp2_with fail
     go_cut [13] (λv wx=>∃a6 c6,v = .slice a6 (j+1) c6/\(∃ys,wx.ownsRow X2.heap.size 22 1 (.slice a6 (j+1) c6) (j+1) ys)/\aP wx X2.heap.size at1 j ct R ((E.map (List.drop i)).take j)/\Hid (∀b,bS at1 R b->cJ a6 b)/\NS X2 wx)
     case first =>
      go_region_held3 (λV=>V.cell? ⟨w.heap.size+1,0,none⟩=some (.int .i64 i)/\V.cell? ⟨aj ae,aL ae+j,none⟩=some (.slice ra rn rc)/\Ints V ra rn Ei/\NS X2 V)
       ((refine HS2.out _ ?_;first | exact hb7 | exact Nh hbr0.out hb4 | exact hbr0.out.drew | exact (Nh hbr0.out hEa.out).drew | exact Nh hbr0.out hEa.out | exact Nl (Nh hbr0.out hb4) _ | assumption | (go_split_ands;assumption)))
       (first
        | (obtain ⟨_,_,hIr,hB9⟩:=(by assumption : _/\_/\Ints _ ra rn Ei/\NS X2 _);have hIk:=hIr.take (k:=i) (by omega);refine bH (by rfl) (.tmp 62) (.tmp 69) 22 3 (by rfl) (.int .i64 0) 8 underlying22 ba (by rfl) wr.heap.size _ 0 0 [] (by rfl) (by exact hOe.out) ra i rc ((Ei.take i).map (Value.int .i64)) (by rfl) hplk (by rw [Jl];exact hIk.len) (Np hIk) (ints_oneCell _ _) (by omega) (by unfold maxLen;omega) (by exact hEa.out.size) ?_;intro a4 c4 w4 hown4 hgr4 hap4;have hb4 : NS wr w4:=(by first | exact Nk (e:=3) (xs:=[]) hEa.out hOe.out hgr4 (IZ _) hEa.out.size | exact Nk (e:=3) (xs:=[]) hEa.out.drew (by exact hOe.out) hgr4 (IZ _) hEa.out.drew.size);rw [Kk] at hown4 ⊢;rw [JL] at hown4;have hk5:=Z5 (Nh hb4 (aw w4 (.cells #[.slice a4 i c4] 22)));have hO5:=Z5 (HO.out.1.aa hk5.out);have hR5:=Z5 (aX HO.out.2.1 hk5.out);have hEb:=Z5 (Nh hbr0.out hk5.out))
        | (refine bH (by rfl) (.tmp 61) (.tmp 71) 25 22 (by rfl) (.slice none 0 0) 24 underlying25 di (by rfl) X2.heap.size ar j cr _ (by rfl) (by exact hR5.out) _ 1 1 [.slice a4 i c4] (by rfl) (λ_=>rfl) rfl (by intro q hq;obtain rfl : q=0:=(by omega);exact bM _ _ _ rfl) (by intro y hy;simp at hy;subst hy;rfl) (by omega) (by unfold maxLen;omega) (by exact hEb.out.size) ?_;intro a6 c6 w6 hown6 hgr6 hap6;have hb7 : NS X2 w6:=(by first | exact Nk hEb.out hR5.out hgr6 (IZ _) hEb.out.size | exact Nk hEb.out.drew (by exact hR5.out) hgr6 (IZ _) hEb.out.drew.size)))
      all_goals (
       go_wp2_with fail
       go_meet
       have hO6 : aP w6 X2.heap.size at1 j ct R ((E.map (List.drop i)).take j):=hO5.out.bj λb hb=>hgr6.block b (hO5.out.lt b hb).2 λe=>(hsep.out b hb).own j cr e.symm
       exact ⟨a6,c6,rfl,⟨_,hown6⟩,hO6,λb hb=>hap6 b (hO5.out.lt b hb).2 (hsep.out b hb),hb7⟩)
     obtain ⟨a6,c6,rfl,⟨ys,hown6⟩,hOt,hsep6,hb6⟩:=hcut
     generalize wc=Y at *
     obtain ⟨rb,ro,hra⟩ : ∃rb ro,ra=some ⟨rb,ro,none⟩:=⟨_,_,hplr (by omega)⟩
     subst hra
     have hi0 : ¬ i=0:=by omega
     have hrc : ¬ rc=i:=by omega
     have hlo : (i : Int)<=rn:=by omega
     have Htk : Hid ((E.map (List.drop i)).take (j+1)=(E.map (List.drop i)).take j ++ [Ei.drop i]):=by show _=_;rw [Ja (by rw [Jl,HEn.out];exact hlt),Lx,<- hEi.out,aE (by rw [HEn.out];exact hlt)]
     have HO2:=Z5 (Jg hOt (Jg hown6 hb6))
     have hsz2:=hb6.size
     have hEa2:=Z5 (aw Y (.cells #[] 3))
     have hOe2:=Z5 (ff Y 3)
     have hbr2:=Z5 hb6
     have hdl : (Ei.drop i).length=i:=by rw [Kg,hlen.out];omega
     have Hdl:=Z5 hdl
     have h1:=(HS2.out Y hb6)
     clear hOt hown6 hb6 hsep hbr hbr0 hEa hOe HO hsz hcap hcap2 hcap3 hcap4 hcap5 hplk hdl
     go_wp2_with fail
     go_region_held3 (λV=>V.cell? ⟨w.heap.size+1,0,none⟩=some (.int .i64 i)/\V.cell? ⟨aj ae,aL ae+j,none⟩=some (.slice (some ⟨rb,ro,none⟩) rn rc)/\Ints V (some ⟨rb,ro,none⟩) rn Ei/\NS X2 V)
      ((refine HS2.out _ ?_;first | exact hb7 | exact Nh hbr2.out hb4 | exact hbr2.out.drew | exact (Nh hbr2.out hEa2.out).drew | exact Nh hbr2.out hEa2.out | exact Nl (Nh hbr2.out hb4) _ | assumption | (go_split_ands;assumption)))
      (first
       | (obtain ⟨_,_,hIr,hB9⟩:=(by assumption : _/\_/\Ints _ (some ⟨rb,ro,none⟩) rn Ei/\NS X2 _);have hIk:=hIr.drop (k:=i) (by omega);rw [hni] at hIk;refine bH (by rfl) (.tmp 74) (.tmp 81) 22 3 (by rfl) (.int .i64 0) 8 underlying22 ba (by rfl) Y.heap.size _ 0 0 [] (by rfl) (by exact hOe2.out) (some ⟨rb,ro+i,none⟩) i (rc - i) ((Ei.drop i).map (Value.int .i64)) (by rfl) (λ_=>rfl) (by rw [Jl];exact Hdl.out) (Np hIk) (ints_oneCell _ _) (by omega) (by unfold maxLen;omega) (by exact hEa2.out.size) ?_;intro a4 c4 w4 hown4 hgr4 hap4;have hb4 : NS Y w4:=(by first | exact Nk (e:=3) (xs:=[]) hEa2.out hOe2.out hgr4 (IZ _) hEa2.out.size | exact Nk (e:=3) (xs:=[]) hEa2.out.drew (by exact hOe2.out) hgr4 (IZ _) hEa2.out.drew.size);rw [Kk] at hown4 ⊢;rw [JL] at hown4;have hk5:=Z5 (Nh hb4 (aw w4 (.cells #[.slice a4 i c4] 22)));have hO5:=Z5 (HO2.out.1.aa hk5.out);have hR5:=Z5 (aX HO2.out.2.1 hk5.out);have hEb:=Z5 (Nh hbr2.out hk5.out))
       | (refine bH (by rfl) (.tmp 73) (.tmp 83) 25 22 (by rfl) (.slice none 0 0) 24 underlying25 di (by rfl) X2.heap.size at1 j ct _ (by rfl) (by exact hO5.out.own) _ 1 1 [.slice a4 i c4] (by rfl) (λ_=>rfl) rfl (by intro q hq;obtain rfl : q=0:=(by omega);exact bM _ _ _ rfl) (by intro y hy;simp at hy;subst hy;rfl) (by omega) (by unfold maxLen;omega) (by exact hEb.out.size) ?_;intro a7 c7 w7 hown7 hgr7 hap7;have hb7 : NS X2 w7:=(by first | exact Nk hEb.out hO5.out.own hgr7 (IZ _) hEb.out.size | exact Nk hEb.out.drew (by exact hO5.out.own) hgr7 (IZ _) hEb.out.drew.size)))
     all_goals (
      go_wp2_with fail
      go_roundw
      case rel =>
       have hown9 : (w4.alloc (.cells #[.slice a4 i c4] 22)).ownsRow X2.heap.size 3 1 (.slice a4 (Ei.drop i).length c4) (Ei.drop i).length ((Ei.drop i).map (Value.int .i64)):=by rw [Hdl.out];exact aU (aX hown4 (aw _ _)) hsz2
       have hra : a4 ≠ none->¬ bS at1 R (aj a4):=λh0 hI=>by have h1:=(aM hown4 h0).1;have h2:=(HO2.out.1.lt _ hI).2;omega
       have hP:=Ny hO5.out hown9 hra (by rw [Hdl.out];exact hown7) hgr7 hap7
       have hal : a6 ≠ none->aj a6<Y.heap.size:=λh0=>(aM HO2.out.2.1 h0).2
       refine ⟨j+1,a7,c7,a6,c6,by omega,by go_num,rfl,rfl,⟨ys,?_⟩,⟨_,by rw [Htk.out];exact hP,λb hb=>?_⟩,hb7⟩
       ·by_cases h0 : at1=none
        ·refine dU hR5.out hgr7 (.inl h0)
        ·refine dU hR5.out hgr7 (.inr λe=>?_)
         rcases hsep6.out _ (.inl ⟨h0,rfl⟩) with h3 | h3
         ·exfalso
          rcases HO2.out.2.1.2 with ⟨_,h4⟩ | ⟨g',cap,cur,hv,_⟩
          ·omega
          ·rw [h3] at hv;cases hv
         ·exact h3 e.symm
       ·by_cases h0 : a6=none
        ·exact .inl h0
        ·refine .inr λe=>?_
         rcases NO hO5.out hap7 hb with h3 | ⟨h3,h4⟩ | h3
         ·rcases hsep6.out b h3 with h5 | h5
          ·exact h0 h5
          ·exact h5 e
         ·have h5:=(aM hown4 h3).1
          have h6:=hal h0
          omega
         ·have h6:=hal h0
          have h7:=hEb.out.size
          have h8:=hk5.out.size
          omega
      case measure=>simp [intOf] <;> omega)
    ·obtain rfl : j=i:=by omega
     have hT : (E.map (List.drop j)).take j=E.map (List.drop j):=I8 (by rw [Jl,HEn.out];exact IZ _)
     rw [hT] at hOt
     have hbWs:=Nh hbX2 hbr
     have hbws:=Nh HbW.out hbWs
     obtain ⟨_,m0,_⟩:=HS.out wr hbWs
     have zz:=HX.out.1.aa hbWs
     have yy:=HX.out.2.aa hbWs
     have z0:=zz.cell 0 rfl
     have z1:=zz.cell 1 rfl
     have y0:=yy.cell 0 rfl
     have y1:=yy.cell 1 rfl
     have fz0:=zz.frozen 0
     have fz1:=zz.frozen 1
     have fy0:=yy.frozen 0
     have fy1:=yy.frozen 1
     have hs2 : w.heap.size+1+1+1<X2.heap.size:=by have h1:=Jf _ _ ((HX.out.2.aa hbX2).cell 0 rfl);exact h1
     have HO:=Z5 (Jg hOt hbws)
     clear hT hOt hownr hsep zz yy hbWs hbws hbr
     go_wp2_with fail
     go_region
     all_goals (
      go_wp2_with fail
      refine bodyPost_ret (v:=.tuple #[.agg #[.int .i64 j,.slice at1 j ct],.agg #[.int .i64 j,.slice ar j cr],.int .i64 0]) (by simp [results,results175,go_sem,z0,z1,y0,y1]) rfl ⟨at1,ct,ar,cr,rfl,?_,?_⟩
      ·exact (NG (aP.aa ((((HO.out.1.setOther (p:=⟨w.heap.size+1+1,0,none⟩) (by simp only [];omega) (.int .i64 j)).setOther (p:=⟨w.heap.size+1+1,1,none⟩) (by simp only [];omega) (.slice at1 j ct)).setOther (p:=⟨w.heap.size+1+1+1,0,none⟩) (by simp only [];omega) (.int .i64 j)).setOther (p:=⟨w.heap.size+1+1+1,1,none⟩) (by simp only [];omega) (.slice ar j cr)) (I1 _ _).drew)).mono (by omega)
      ·exact Nh ((((HO.out.2.setCell (p:=⟨w.heap.size+1+1,0,none⟩) (by simp only [];omega) (.int .i64 j)).setCell (p:=⟨w.heap.size+1+1,1,none⟩) (by simp only [];omega) (.slice at1 j ct)).setCell (p:=⟨w.heap.size+1+1+1,0,none⟩) (by simp only [];omega) (.int .i64 j)).setCell (p:=⟨w.heap.size+1+1+1,1,none⟩) (by simp only [];omega) (.slice ar j cr)) (I1 _ _).drew)
theorem vp (P M : Int) (am : OA) (mn cm : Nat) (mod : Lz) (k : Nat) (a : OA) (c : Nat) (D : Ll) (w : World) (hmod : Ints w am mn mod) (hi : ch w a k D) (hB : bp P M mod=true) (hR : cw (ah P M.toNat mod).El k D) (hk : k<=64)
  (hpv : (aD (ah P M.toNat mod).ops D k).2.length=k) :
  Calls prog 112 #[.agg #[.int .i64 P,.int .i64 M,.slice am mn cm],.agg #[.int .i64 k,.slice a k c]] w λe w' =>
   ∃a1 c1,e = .returned (.tuple #[.agg #[.int .i64 k,.slice a1 k c1],.int .i64 0])/\cH w.heap.size w' a1 k (jE (ah P M.toNat mod).ops D k)/\NS w w':=by
 have HSq:=Z5 (λV (hV : NS w V)=>wU P M am mn cm mod k a c D V (hmod.aa hV) (hi.aa hV) hB hR hk);have HT:=Z5 (λV (hV : NS w V)=>qf P M am mn cm mod k a c D V (hmod.aa hV) (hi.aa hV) hB hR hk);have HRk : Hid (∀V,NS w V->Calls prog 176 #[.agg #[.int .i64 P,.int .i64 M,.slice am mn cm],.agg #[.int .i64 k,.slice a k c]] V λe w'=>e = .returned (.tuple #[.int .i64 k,.int .i64 0])/\NS V w'):=λV hV=>by have h:=vW P M am mn cm mod k a k c D V (hmod.aa hV) (hi.aa hV) hB hR (by omega) (by omega);rw [hpv] at h;exact h
 obtain ⟨T,hTT⟩ : ∃T,jE (ah P M.toNat mod).ops D k=T:=⟨_,rfl⟩
 rw [hTT] at HT ⊢;clear hmod hi hB hR hpv hTT;go_enter func112,ntmps112;go_wp2_with fail;obtain ⟨W,hW⟩ : ∃W : World,W=((w.alloc (.cells #[.int .i64 P,.int .i64 M,.slice am mn cm] 24)).alloc (.cells #[.int .i64 k,.slice a k c] 82)).alloc (.cells #[.int .i64 0,.slice none 0 0] 82):=⟨_,rfl⟩
 rw [<- hW];have hbW : NS w W:=by rw [hW];exact nY _ _ _ _
 have x0 : aZ W w.heap.size [.int .i64 P,.int .i64 M,.slice am mn cm]:=by rw [hW];exact ((Nj _ _ _ rfl).alloc _).alloc _
 have x1 : aZ W (w.heap.size+1) [.int .i64 k,.slice a k c]:=by rw [hW];exact (Nj _ _ _ (by simp)).alloc _
 have x2 : aZ W (w.heap.size+1+1) [.int .i64 0,.slice none 0 0]:=by rw [hW];exact Nj _ _ _ (by simp)
 have HX:=Z5 (Jg x0 (Jg x1 x2));clear hW x0 x1 x2;refine (HSq.out W hbW).mono ?_;rintro e w1 ⟨rfl,hb1⟩;have hbw1:=Nh hbW hb1;have r0:=HX.out.1.aa hb1;have r1:=HX.out.2.1.aa hb1;have f0:=r0.cell 0 rfl;have f1:=r0.cell 1 rfl;have f2:=r0.cell 2 rfl;have m0:=r1.cell 0 rfl;have m1:=r1.cell 1 rfl;have Hc:=Z5 (HT.out w1 hbw1);clear r0 r1;go_wp2_with fail;refine Hc.out.mono ?_;rintro e w2 ⟨a1,c1,a2,c2,rfl,hN,hb2⟩;clear f0 f1 f2 m0 m1 Hc;obtain ⟨w3,hw3⟩ : ∃V : World,V=(w2.alloc (.cells #[.int .i64 k,.slice a1 k c1] 82)).alloc (.cells #[.int .i64 k,.slice a2 k c2] 82):=⟨_,rfl⟩
 have hb3 : NS w2 w3:=by rw [hw3];exact dA _ _ _
 have xt : aZ w3 w2.heap.size [.int .i64 k,.slice a1 k c1]:=by rw [hw3];exact (Nj _ _ _ rfl).alloc _
 have hb23:=Nh hb2 hb3;have hbw3:=Nh hbw1 hb23;have r0:=HX.out.1.aa (Nh hb1 hb23);have r1:=HX.out.2.1.aa (Nh hb1 hb23);have f0:=r0.cell 0 rfl;have f1:=r0.cell 1 rfl;have f2:=r0.cell 2 rfl;have m0:=r1.cell 0 rfl;have m1:=r1.cell 1 rfl;have Hrk:=Z5 (HRk.out w3 hbw3);rw [hw3] at f0 f1 f2 m0 m1 Hrk;have Hw3:=Z5 hw3;have HN:=Z5 (hN.aa hb3);clear r0 r1 hw3 hN;go_wp2_with fail;refine Hrk.out.mono ?_;rintro e w4 ⟨rfl,hb4⟩;rw [<- Hw3.out] at hb4;have hb24:=Nh hb23 hb4;have hbw4:=Nh hbw1 hb24;have r1:=HX.out.2.1.aa (Nh hb1 hb24);have r2:=HX.out.2.2.aa (Nh hb1 hb24);have rt:=xt.aa hb4;have m0:=r1.cell 0 rfl;have z0:=r2.cell 0 rfl;have z1:=r2.cell 1 rfl;have fz0:=r2.frozen 0;have fz1:=r2.frozen 1;have t0:=rt.cell 0 rfl;have t1:=rt.cell 1 rfl;have hsz : w.heap.size+1+1<w1.heap.size:=Jf _ _ ((HX.out.2.2.aa hb1).cell 0 rfl);have hN4:=HN.out.aa hb4;have HF:=Z5 (Jg (((hN4.setCell (p:=⟨w.heap.size+1+1,0,none⟩) (by simp only [];omega) (.int .i64 k)).setCell (p:=⟨w.heap.size+1+1,1,none⟩) (by simp only [];omega) (.slice a1 k c1)).mono (show w.heap.size<=w1.heap.size by omega))
  ((hbw4.setCell (p:=⟨w.heap.size+1+1,0,none⟩) (by simp only [];omega) (.int .i64 k)).setCell (p:=⟨w.heap.size+1+1,1,none⟩) (by simp only [];omega) (.slice a1 k c1)))
 clear r1 r2 rt f0 f1 f2 m1 Hrk hN4;go_wp2_with fail;exact bodyPost_ret (v:=.tuple #[.agg #[.int .i64 k,.slice a1 k c1],.int .i64 0]) (by simp [results,results112,go_sem,z0,z1]) rfl ⟨a1,c1,rfl,HF.out.1,HF.out.2⟩
end Go.Proofs.YtcfmiocdlcapoaaGreat
