import Derived.Test.YtcfmiocdlcapoaaGreatK24
import Derived.Test.YtcfmiocdlcapoaaGreatK21
namespace Go.Proofs.YtcfmiocdlcapoaaGreat
set_option linter.unusedVariables false
set_option linter.unusedSimpArgs false
set_option linter.unusedSectionVars false
set_option maxRecDepth 100000
set_option maxHeartbeats 8000000
open Go.RowKit
theorem It (O : aQ) (L : Ll) (m : Nat) (C : lB) (d : Nat) (s z : Lz) (T : Ll) (hd : s.length+d=C.W) (hr : eY O L m C s (fS O L m C s z)=true) (hT : T.length ≠ 65536) :
  kU O L m C d s z T=iF (kU O L m C (d - 1)) s z (if s.length<C.W then (fS O L m C s z).filter (λx=>decide (¬ x ∈ z)) else []) (T ++ [fS O L m C s z]):=by
 match d with
 | 0 =>
  have h1 : (if s.length<C.W then (fS O L m C s z).filter (λx=>decide (¬ x ∈ z)) else [])=[]:=if_neg (by omega)
  rw [h1,kU,if_pos hr,if_neg hT]
  rfl
 | d+1 =>
  have h1 : (if s.length<C.W then (fS O L m C s z).filter (λx=>decide (¬ x ∈ z)) else [])=yK C s z (fS O L m C s z):=rfl
  rw [h1,kU,if_pos hr,if_neg hT]
  rfl
theorem DE (O : aQ) (L : Ll) (m : Nat) (C : lB) (d : Nat) (s z : Lz) (T : Ll) (hr : eY O L m C s (fS O L m C s z)=false) : kU O L m C d s z T=(11,[]):=by
 match d with
 | 0=>rw [kU];exact if_neg (by rw [hr];simp)
 | d+1=>rw [kU];exact if_neg (by rw [hr];simp)
theorem Eo (O : aQ) (L : Ll) (m : Nat) (C : lB) (d : Nat) (s z : Lz) (T : Ll) (hr : eY O L m C s (fS O L m C s z)=true) (hT : T.length=65536) : kU O L m C d s z T=(8,[]):=by
 match d with
 | 0=>rw [kU,if_pos hr,if_pos hT]
 | d+1=>rw [kU,if_pos hr,if_pos hT]
theorem Fx {R R' : La} (h : R <+: R') {i : Nat} (hi : i<R.length) : aM R' i=aM R i:=by
 obtain ⟨X,rfl⟩:=h
 rw [jm (show i<(R ++ X).length by simp;omega),jm hi,List.getElem_append_left]
theorem F5 {R R' : Ll} (h : R <+: R') {i : Nat} (hi : i<R.length) : aj R' i=aj R i:=by
 obtain ⟨X,rfl⟩:=h
 rw [aE (show i<(R ++ X).length by simp;omega),aE hi,List.getElem_append_left]
theorem DO (R : La) (r : OA × Nat) : aM (R ++ [r]) R.length=r:=by rw [jm (by simp)];simp
theorem Df (R : Ll) (r : Lz) : aj (R ++ [r]) R.length=r:=by rw [aE (by simp)];simp
structure yL where
 ar : OA
 cr : Nat
 R : La
 T : Ll
def yL.J (pb : Nat) (σ : yL) (x : Nat) : Prop:=x=pb\/bL σ.ar σ.R x
structure mb (w : World) (B pb b : Nat) (P M : Int) (am : OA) (mn cm : Nat) (m : Nat) (a : OA) (n c : Nat) (ay : OA) (ny cy : Nat) (C : lB) (σ : yL) : Prop where
 box : aV w pb (ou b P M am mn cm m a n c ay ny cy C (.slice σ.ar σ.T.length σ.cr) 0)
 om : aU w B σ.ar σ.T.length σ.cr σ.R σ.T
 np : ¬ bL σ.ar σ.R pb
 ln : σ.T.length<=65536
theorem mb.lt {w : World} {B pb b : Nat} {P M : Int} {am : OA} {mn cm m : Nat} {a : OA} {n c : Nat} {ay : OA} {ny cy : Nat} {C : lB} {σ : yL} (h : mb w B pb b P M am mn cm m a n c ay ny cy C σ) {x : Nat} (hx : σ.J pb x) : x<w.heap.size:=by
 rcases hx with rfl | hx
 ·exact h.box.1
 ·exact (h.om.lt x hx).2
theorem mb.dt {w w' : World} {I : Nat->Prop} {B pb b : Nat} {P M : Int} {am : OA} {mn cm m : Nat} {a : OA} {n c : Nat} {ay : OA} {ny cy : Nat} {C : lB} {σ : yL} (h : mb w B pb b P M am mn cm m a n c ay ny cy C σ)
  (hM : aB w w' I I) (hI : ∀x,σ.J pb x->¬ I x) : mb w' B pb b P M am mn cm m a n c ay ny cy C σ :=
 ⟨h.box.dt hM (hI _ (.inl rfl)),h.om.bz λx hx=>hM.block x (h.om.lt x hx).2 (hI x (.inr hx)),h.np,h.ln⟩
theorem mb.ah {w w' : World} {B pb b : Nat} {P M : Int} {am : OA} {mn cm m : Nat} {a : OA} {n c : Nat} {ay : OA} {ny cy : Nat} {C : lB} {σ : yL} (h : mb w B pb b P M am mn cm m a n c ay ny cy C σ)
  (hM : Below w.heap.size w w') : mb w' B pb b P M am mn cm m a n c ay ny cy C σ:=h.dt (I:=λ_=>False) (aB.bq hM _) λ_ _ h=>h
def xw (w0 : World) (pb b : Nat) (P M : Int) (am : OA) (mn cm : Nat) (m : Nat) (a : OA) (n c : Nat) (ay : OA) (ny cy : Nat) (C : lB) (σ : yL) (V : Int × Ll) (w : World) (e : Ending) (w' : World) : Prop :=
 ∃σ' : yL,mb w' w0.heap.size pb b P M am mn cm m a n c ay ny cy C σ'/\σ.R <+: σ'.R/\σ.T <+: σ'.T/\aB w w' (σ.J pb) (σ'.J pb)/\e = .returned (.int .i64 V.1)/\(V.1=0->σ'.T=V.2)
theorem mb.push {V w5 : World} {B pb b : Nat} {P M : Int} {am : OA} {mn cm m : Nat} {a : OA} {n c : Nat} {ay : OA} {ny cy : Nat} {C : lB} {σ : yL} (h : mb V B pb b P M am mn cm m a n c ay ny cy C σ) (hB : B<=V.heap.size)
  {a3 : OA} {c3 : Nat} {t : Lz} (hr : V.ownsRow B 3 1 (.slice a3 t.length c3) t.length (t.map (Value.int .i64))) (hra : a3 ≠ none->¬ σ.J pb (ablk a3)) (hT : σ.T.length<65536) {o : Obj}
  {a5 : OA} {c5 : Nat} (hown : w5.ownsRow B 22 1 (.slice a5 (σ.T.length+1) c5) (σ.T.length+1) (List.zipWith e9 σ.R σ.T ++ [.slice a3 t.length c3])) (hg : (V.alloc o).grownBy w5 (Value.slice σ.ar σ.T.length σ.cr).ownBlock)
  (hap : ∀b,b<(V.alloc o).heap.size->db σ.ar b->db a5 b) :
  mb (w5.setCell ⟨pb,10,none⟩ (.slice a5 (σ.T.length+1) c5)) B pb b P M am mn cm m a n c ay ny cy C ⟨a5,c5,σ.R ++ [(a3,c3)],σ.T ++ [t]⟩ /\
   aB V (w5.setCell ⟨pb,10,none⟩ (.slice a5 (σ.T.length+1) c5)) (λx=>σ.J pb x\/(a3 ≠ none/\x=ablk a3)) ((⟨a5,c5,σ.R ++ [(a3,c3)],σ.T ++ [t]⟩ : yL).J pb):=by
 have hal:=an V o
 have hO1 : aU (V.alloc o) B σ.ar σ.T.length σ.cr σ.R σ.T:=h.om.ah hal
 have hra2 : a3 ≠ none->¬ bL σ.ar σ.R (ablk a3):=λh0 hh=>hra h0 (.inr hh)
 have hO5:=aU.push hO1 (aW hr hal) hra2 hown hg hap
 have hnp : σ.ar=none\/ablk σ.ar ≠ pb:=by
  by_cases e : σ.ar=none
  ·exact .inl e
  ·exact .inr λe2=>h.np (.inl ⟨e,e2.symm⟩)
 have hbox5 : aV w5 pb (ou b P M am mn cm m a n c ay ny cy C (.slice σ.ar σ.T.length σ.cr) 0):=(h.box.ah hal).dt (aB.grown (K:=λx=>σ.ar ≠ none/\x=ablk σ.ar) hg λh0=>⟨h0,rfl⟩) λ⟨h0,e⟩=>by
  rcases hnp with h1 | h1
  ·exact h0 h1
  ·exact h1 e.symm
 have hne : ¬ bL a5 (σ.R ++ [(a3,c3)]) pb:=λhh=>by
  rcases bL.push hO1 hap hh with h1 | ⟨h1,h2⟩ | h1
  ·exact h.np h1
  ·exact hra h1 (.inl h2.symm)
  ·have h2:=h.box.1
   have h3:=hal.size
   omega
 refine ⟨⟨?_,?_,hne,by simp;omega⟩,?_⟩
 ·have h1:=hbox5.setCell 10 (.slice a5 (σ.T.length+1) c5)
  show aV _ pb (ou b P M am mn cm m a n c ay ny cy C (.slice a5 (σ.T ++ [t]).length c5) 0)
  rw [List.length_append,List.length_singleton]
  exact h1
 ·show aU _ B a5 (σ.T ++ [t]).length c5 _ _
  rw [List.length_append,List.length_singleton]
  exact hO5.bz λx hx=>Below.heap_setCell _ _ _ _ λe=>hne (by have e' : x=pb:=e;rw [<- e'];exact hx)
 ·have hM0 : aB V (V.alloc o) (λx=>σ.J pb x\/(a3 ≠ none/\x=ablk a3)) (λx=>σ.J pb x\/(a3 ≠ none/\x=ablk a3)):=aB.bq hal _
  have hM1 : aB (V.alloc o) w5 (λx=>σ.J pb x\/(a3 ≠ none/\x=ablk a3)) (λx=>σ.J pb x\/(a3 ≠ none/\x=ablk a3)):=aB.grown hg λh0=>.inl (.inr (.inl ⟨h0,rfl⟩))
  have hM2:=hM0.trans hM1
  have hb0 : Below 0 w5 (w5.setCell ⟨pb,10,none⟩ (.slice a5 (σ.T.length+1) c5)):=(Below.refl 0 w5).setCell (Nat.zero_le _) _
  refine ⟨hb0.os.trans hM2.os,hb0.tape.trans hM2.tape,hb0.output.trans hM2.output,Nat.le_trans hM2.size hb0.size,λx hx hI=>?_,λx hx=>?_⟩
  ·exact (Below.heap_setCell _ _ _ _ λe=>hI (.inl (.inl e))).trans (hM2.block x hx hI)
  ·rcases hx with hx | hx
   ·exact .inl (.inl (.inl hx))
   ·rcases bL.push hO1 hap hx with h1 | h1 | h1
    ·exact .inl (.inl (.inr h1))
    ·exact .inl (.inr h1)
    ·exact .inr (Nat.le_trans hal.size h1)
theorem mb.zy {V w5 : World} {B pb b : Nat} {P M : Int} {am : OA} {mn cm m : Nat} {a : OA} {n c : Nat} {ay : OA} {ny cy : Nat} {C : lB} {σ : yL} (h : mb V B pb b P M am mn cm m a n c ay ny cy C σ)
  {o : Obj} (hg : (V.alloc o).grownBy w5 (Value.slice σ.ar σ.T.length σ.cr).ownBlock) : aV w5 pb (ou b P M am mn cm m a n c ay ny cy C (.slice σ.ar σ.T.length σ.cr) 0) :=
 (h.box.ah (an V o)).dt (aB.grown (K:=λx=>σ.ar ≠ none/\x=ablk σ.ar) hg λh0=>⟨h0,rfl⟩) λ⟨h0,e⟩=>h.np (.inl ⟨h0,e⟩)
theorem aB.H8 {w V Z : World} {I I' A : Nat->Prop} (h : Below w.heap.size w V) (g : aB V Z (λx=>I x\/A x) I') (hA : ∀x,A x->w.heap.size<=x) : aB w Z I I' :=
 ⟨g.os.trans h.os,g.tape.trans h.tape,g.output.trans h.output,Nat.le_trans h.size g.size,λx hx hI=>(g.block x (Nat.lt_of_lt_of_le hx h.size) λhh=>by
  rcases hh with hh | hh
  ·exact hI hh
  ·have:=hA x hh;omega).trans (h.block x hx),λx hx=>by
  rcases g.grow x hx with hh | hh
  ·rcases hh with hh | hh
   ·exact .inl hh
   ·exact .inr (hA x hh)
  ·exact .inr (Nat.le_trans h.size hh)⟩
theorem rp {w0 : World} {b : Nat} {G : de} {a : OA} {n : Nat} {L : Ll} {m : Nat} {ay : OA} {ny : Nat} {C : lB} (pb : Nat) (P M : Int) (am : OA) (mn cm c cy : Nat)
  (E : BO w0 b G a n L m ay ny C) (hpb : w0.heap.size<=pb) :
  ∀(d : Nat) (w : World) (σ : yL) (sa : OA) (ns cs : Nat) (s : Lz) (az : OA) (nz cz : Nat) (z : Lz),ns+d=C.W->nz<=64->Below w0.heap.size w0 w->mb w w0.heap.size pb b P M am mn cm m a n c ay ny cy C σ ->
   Ints w sa ns s->Ints w az nz z->(0<ns->¬ σ.J pb (ablk sa))->(0<nz->¬ σ.J pb (ablk az))->z.Nodup->(∀x ∈ z,0<=x/\x<(m : Int)) ->
   Calls Tryz.prog 235 #[.pointer (some ⟨pb,0,none⟩),.slice sa ns cs,.slice az nz cz] w (xw w0 pb b P M am mn cm m a n c ay ny cy C σ (kU G.ops L m C d s z σ.T) w)
 | d,w,σ,sa,ns,cs,s,az,nz,cz,z,hd,hnz,hb,hB,hs,hz,hsp,hzp,hzn,hzb=>by
  have IH : Hid (∀d',d'+1=d->∀(w : World) (σ : yL) (sa : OA) (ns cs : Nat) (s : Lz) (az : OA) (nz cz : Nat) (z : Lz),ns+d'=C.W->nz<=64->Below w0.heap.size w0 w->mb w w0.heap.size pb b P M am mn cm m a n c ay ny cy C σ ->
   Ints w sa ns s->Ints w az nz z->(0<ns->¬ σ.J pb (ablk sa))->(0<nz->¬ σ.J pb (ablk az))->z.Nodup->(∀x ∈ z,0<=x/\x<(m : Int)) ->
   Calls Tryz.prog 235 #[.pointer (some ⟨pb,0,none⟩),.slice sa ns cs,.slice az nz cz] w (xw w0 pb b P M am mn cm m a n c ay ny cy C σ (kU G.ops L m C d' s z σ.T) w)):=λd' hd'=>by
   subst hd'
   exact rp pb P M am mn cm c cy E hpb d'
  have hm6:=E.m6
  have hw6:=E.w6
  have HE:=Z5 E
  have Hsl:=Z5 hs.len
  have Hzl:=Z5 hz.len
  have p4:=hB.box.cell 4 rfl
  have p7:=hB.box.cell 7 rfl
  have p8:=hB.box.cell 8 rfl
  obtain ⟨RF,hRF⟩ : ∃RF,kU G.ops L m C d s z σ.T=RF:=⟨_,rfl⟩
  rw [hRF]
  have HRF:=Z5 hRF
  have HB:=Z5 hB
  have Hz:=Z5 (And.intro hzn hzb)
  obtain ⟨mo,hmo⟩ : ∃mo,(if C.cos=true then m else C.M)=mo:=⟨_,rfl⟩
  have Hmo:=Z5 hmo
  obtain ⟨bc,hbc⟩ : ∃bc,C.cos=bc:=⟨_,rfl⟩
  rw [hbc] at p7
  have Hbc:=Z5 hbc
  clear hbc
  have hol:=FE m s z
  have horng : ∀j,j<(kd m s z).length->0<=nth (kd m s z) j/\nth (kd m s z) j<m:=λj hj=>by
   rcases zo (aN hj) with h1 | h1
   ·exact hzb _ h1
   ·exact ⟨h1.1,h1.2.1⟩
  have Horng:=Z5 horng
  have HO : Hid (Calls Tryz.prog 262 #[.pointer (some ⟨pb,0,none⟩),.slice sa ns cs,.slice az nz cz] w (cC w (kd m s z))):=uT pb m sa ns cs s az nz cz z w p4 hs hz (by omega) (by omega)
  clear hRF hB hzn hzb E hmo horng
  go_enter Tryz.func235,Tryz.ntmps235
  go_upto_if 16 with fail
  go_cut [7] (λv wx=>v = .int .i64 mo/\w=wx)
  case first =>
   cases bc
   ·have Hm2 : Hid (mo=C.M):=by show _=_;rw [<- Hmo.out,Hbc.out];rfl
    go_wp2_with fail
    go_meet
    exact ⟨by rw [Hm2.out],rfl⟩
   ·have Hm2 : Hid (mo=m):=by show _=_;rw [<- Hmo.out,Hbc.out];rfl
    go_wp2_with fail
    go_meet
    exact ⟨by rw [Hm2.out],rfl⟩
  obtain ⟨rfl,rfl⟩:=hcut
  go_wp2_with fail
  refine HO.out.mono ?_
  rintro e w2 ⟨a2,c2,rfl,hown2,hb2⟩
  have hB2:=HB.out.ah hb2
  have hGr:=pM pb a n c L m a2 _ c2 (kd m s z) mo (hB2.box.cell 0 rfl) (hB2.box.cell 5 rfl) (HE.out.g.ah (hb.trans (hb2.mono hb.size))) (HE.out.kK.ah (hb.trans (hb2.mono hb.size))) HE.out.rws (Ints.own hown2).1 Horng.out HE.out.n6 (by rw [Hzl.out] at hol;omega)
  have hgl:=Cw (O:=G.ops) (L:=L) (Q:=kd m s z) (most:=mo)
  have Hcs : Hid (fS G.ops L m C s z=bP (zX G.ops L (kd m s z) mo)):=by show _=_;rw [fS,Hmo.out]
  have hcn : (fS G.ops L m C s z).Nodup:=Bi Hz.out.1
  have hcb : ∀x ∈ fS G.ops L m C s z,0<=x/\x<(m : Int):=λx hx=>by
   rcases zo (Cw x (F3.1 hx)) with h1 | h1
   ·exact Hz.out.2 x h1
   ·exact ⟨h1.1,h1.2.1⟩
  have hcl : (fS G.ops L m C s z).length<=64:=Nat.le_trans (mZ hcn hcb) hm6
  rw [Hcs.out,eG] at hcl
  have Hcn:=Z5 (And.intro hcn hcb)
  unfold cC at hGr
  obtain ⟨gl,hgle⟩ : ∃gl,(zX G.ops L (kd m s z) mo).length=gl:=⟨_,rfl⟩
  have Hgl:=Z5 hgle
  rw [hgle] at hGr hcl
  obtain ⟨t,hte⟩ : ∃t,fS G.ops L m C s z=t:=⟨_,rfl⟩
  have Htl : Hid (t.length=gl):=by show _=_;rw [<- hte,Hcs.out,eG,hgle]
  have Hcs2 : Hid (bP (zX G.ops L (kd m s z) mo)=t):=by show _=_;rw [<- hte,Hcs.out]
  rw [hte] at Hcn
  have Hte:=Z5 hte
  clear hcn hcb hgle hgl hte Hcs
  have HGr:=Z5 hGr
  clear hGr
  generalize (kd m s z).length=ol at *
  go_wp2_with fail
  refine HGr.out.mono ?_
  rintro e w3 ⟨a3,c3,rfl,hown3,hb3⟩
  have hbw3:=Below.next hb2 hb3
  have hown3':=aP hown3 (B':=w.heap.size) hb2.size
  have HSo:=Z5 (tI w.heap.size a3 gl c3 _ w3 hown3' hbw3.size (by omega))
  rw [Hcs2.out] at HSo
  clear hown3 hown3'
  go_wp2_with fail
  refine HSo.out.mono ?_
  rintro e w4 ⟨rfl,hown4,_,hb4⟩
  have hbw4 : Below w.heap.size w w4:=hbw3.trans hb4
  have hB4:=HB.out.ah hbw4
  have ht4:=(Ints.own hown4).1
  have HRt:=Z5 (rE (c:=c) (cy:=cy) pb P M am mn cm _ 0 sa ns cs s a3 gl c3 t HE.out (hb.trans (hbw4.mono hb.size)) hB4.box (hs.ah hbw4) ht4 (by omega))
  obtain ⟨rr,hrr⟩ : ∃rr,eY G.ops L m C s t=rr:=⟨_,rfl⟩
  rw [hrr] at HRt
  have Hrr : Hid (eY G.ops L m C s (fS G.ops L m C s z)=rr):=by show _=_;rw [Hte.out];exact hrr
  clear hrr
  go_wp2_with fail
  refine HRt.out.mono ?_
  rintro e w5 ⟨rfl,hb5⟩
  have hbw5 : Below w.heap.size w w5:=Below.next hbw4 hb5
  have hB5:=HB.out.ah hbw5
  cases rr
  ·have HF : Hid (RF=(11,[])):=by show _=_;rw [<- HRF.out,DE _ _ _ _ _ _ _ _ Hrr.out]
   go_wp2_with fail
   go_ret
   exact ⟨σ,hB5,List.prefix_rfl,List.prefix_rfl,aB.bq hbw5 _,by rw [HF.out];rfl,λh=>by rw [HF.out] at h;cases h⟩
  have p10:=hB5.box.cell 10 rfl
  by_cases hbig : σ.T.length=65536
  ·have HF : Hid (RF=(8,[])):=by show _=_;rw [<- HRF.out,Eo _ _ _ _ _ _ _ _ Hrr.out hbig]
   have hbg : ((σ.T.length : Int) == 65536)=true:=by simp;omega
   clear hbig
   go_wp2_with fail
   go_ret
   exact ⟨σ,hB5,List.prefix_rfl,List.prefix_rfl,aB.bq hbw5 _,by rw [HF.out];rfl,λh=>by rw [HF.out] at h;cases h⟩
  have hbg : ((σ.T.length : Int) == 65536)=false:=by simp;omega
  have HF : Hid (RF=iF (kU G.ops L m C (d - 1)) s z (if ns<C.W then t.filter (λx=>decide (¬ x ∈ z)) else []) (σ.T ++ [t])):=by
   show _=_
   rw [<- HRF.out,It _ _ _ _ _ _ _ _ (by rw [Hsl.out];exact hd) Hrr.out hbig,Hsl.out,Hte.out]
  have hTl:=hB5.ln
  have hTlt : σ.T.length<65536:=by omega
  have hown5:=aW hown4 hb5
  have f10:=hB5.box.frozen 10
  have hcn:=br w5 (.slice a3 gl c3) 22
  have hbn:=an w5 (.cells #[.slice a3 gl c3] 22)
  have hsz5:=hbw5.size
  have hszb:=hb.size
  clear hbig
  go_wp2_with (at_builtin;refine bk rfl _ _ 25 22 rfl (.slice none 0 0) 24 Tryz.underlying25 ch rfl w0.heap.size σ.ar σ.T.length σ.cr _ rfl ((hB5.om.own).alloc _) ⟨w5.heap.size,0,none⟩ 1 (.slice a3 gl c3) rfl hcn rfl (by omega) (by unfold maxLen;omega) (by simp;omega) ?_;intro a6 c6 w6 hown6 hgr6 hap6;have q10:=(hB5.zy hgr6).cell 10 rfl;have qf10:=(hB5.zy hgr6).frozen 10)
  obtain rfl:=Htl.out
  have hra : a3 ≠ none->¬ σ.J pb (ablk a3):=λh0 hj=>by
   have h1:=HB.out.lt hj
   have h2:=(aR hown5 h0).1
   omega
  obtain ⟨hB7,hM7⟩:=mb.push hB5 (Nat.le_trans hszb hsz5) (aP hown5 hszb) hra hTlt hown6 hgr6 hap6
  obtain ⟨Z,hZ⟩ : ∃Z : World,Z=w6.setCell ⟨pb,10,none⟩ (.slice a6 (σ.T.length+1) c6):=⟨_,rfl⟩
  rw [<- hZ] at hB7 hM7
  have hB05 : Below w0.heap.size w0 w5:=hb.trans (hbw5.mono hszb)
  have hbZ : Below w0.heap.size w0 Z:=hB05.trans (hM7.below (λx hx=>by
   rcases hx with (hx | hx) | ⟨h1,h2⟩
   ·rw [hx];exact hpb
   ·exact (hB5.om.lt x hx).1
   ·rw [h2];exact Nat.le_trans hszb (aR hown5 h1).1) hB05.size)
  have hMwZ : aB w Z (σ.J pb) ((⟨a6,c6,σ.R ++ [(a3,c3)],σ.T ++ [t]⟩ : yL).J pb):=aB.H8 hbw5 hM7 λx hx=>by rw [hx.2];exact (aR hown5 hx.1).1
  have hsZ:=hs.dt hMwZ hsp
  have hzZ:=hz.dt hMwZ hzp
  have hsJ : 0<ns->¬ (⟨a6,c6,σ.R ++ [(a3,c3)],σ.T ++ [t]⟩ : yL).J pb (ablk sa):=λh0=>hMwZ.not (hs.lt h0) (hsp h0)
  have hRl : σ.R.length=σ.T.length:=hB5.om.rl
  have hszZ:=hMwZ.size
  have HCh : Hid (Calls Tryz.prog 264 #[.pointer (some ⟨pb,0,none⟩),.slice sa ns cs,.slice az nz cz,.slice a3 t.length c3,.func (.func 235) #[.pointer (some ⟨pb,0,none⟩)] #[]] Z
    (xw w0 pb b P M am mn cm m a n c ay ny cy C σ RF w)):=by
   refine (rU (σ:=yL) (λV τ=>Below w0.heap.size w0 V/\mb V w0.heap.size pb b P M am mn cm m a n c ay ny cy C τ/\Ints V sa ns s/\(0<ns->¬ τ.J pb (ablk sa))/\(σ.R ++ [(a3,c3)]) <+: τ.R/\(σ.T ++ [t]) <+: τ.T) (λτ x=>τ.J pb x) (λτ=>τ.T)
    (λs z T=>kU G.ops L m C (d - 1) s z T) pb C.W sa ns cs s az nz cz z a3 t.length c3 t Z ⟨a6,c6,σ.R ++ [(a3,c3)],σ.T ++ [t]⟩ ⟨hbZ,hB7,hsZ,hsJ,List.prefix_rfl,List.prefix_rfl⟩ ?_ (hB7.box.cell 9 rfl) ?_ (λV τ x h hx=>h.2.1.lt hx) hzZ Hcn.out.1 (by omega) (by omega) (by omega) (by omega) ?_).mono ?_
   ·rintro V1 V2 τ ⟨e1,e2,e3,e4,e5,e6⟩ hM
    refine ⟨e1.trans (hM.below (λx hx=>Nat.le_trans hbZ.size hx.1) e1.size),e2.dt hM λx hx hh=>hh.2 hx,e3.dt hM λhn hx=>?_,e4,e5,e6⟩
    have h1:=hsZ.lt hn
    omega
   ·rintro V τ ⟨e1,e2,e3,e4,e5,e6⟩
    refine ⟨e3,?_⟩
    have hlt : σ.T.length<τ.T.length:=by
     obtain ⟨X,hX⟩:=e6
     rw [<- hX];simp <;> omega
    have h1:=e2.om.ints hlt
    rw [F5 e6 (by simp),Df,<- hRl,Fx e5 (by simp),DO] at h1
    exact h1
   ·intro hlt V1 τ a1 c1 a2 c2 j zc hj hzc hnj hI hM h1 h2 h3 h4
    obtain ⟨d',hd'⟩ : ∃d',d'+1=d:=⟨d - 1,by omega⟩
    have hzl : zc.length<=64/\zc.Nodup/\∀x ∈ zc,0<=x/\x<(m : Int):=by
     have hsub : ∀x ∈ (t.take j).filter (λx=>decide (¬ x ∈ z)),x ∈ t/\¬ x ∈ z:=λx hx=>by
      rw [List.mem_filter] at hx
      exact ⟨List.mem_of_mem_take hx.1,by simpa using hx.2⟩
     have hnd : zc.Nodup:=by
      rw [hzc,List.nodup_append]
      refine ⟨Hz.out.1,List.Pairwise.filter _ (List.Nodup.sublist (List.take_sublist _ _) Hcn.out.1),λx hx y hy e=>?_⟩
      exact (hsub y hy).2 (e ▸ hx)
     have hbd : ∀x ∈ zc,0<=x/\x<(m : Int):=λx hx=>by
      rw [hzc] at hx
      rcases List.mem_append.1 hx with hx | hx
      ·exact Hz.out.2 x hx
      ·exact Hcn.out.2 x (hsub x hx).1
     exact ⟨Nat.le_trans (mZ hnd hbd) hm6,hnd,hbd⟩
    have h5:=IH.out d' hd' V1 τ a1 (ns+1) c1 (s ++ [nth t j]) a2 zc.length c2 zc (by omega) hzl.1 hI.1 hI.2.1 h1 h2 (λ_=>h3) (λh0=>h4 (by
     intro e
     have:=h2.pl h0
     rw [e] at this
     cases this)) hzl.2.1 hzl.2.2
    have hdd : d - 1=d':=by omega
    refine h5.mono ?_
    rintro e V2 ⟨τ',g1,g2,g3,g4,g5,g6⟩
    rw [hdd]
    exact ⟨τ',⟨hI.1.trans (g4.below (λx hx=>by
      rcases hx with hx | hx
      ·rw [hx];exact hpb
      ·exact (hI.2.1.om.lt x hx).1) hI.1.size),g1,hI.2.2.1.dt g4 hI.2.2.2.1,λhn=>g4.not (hI.2.2.1.lt hn) (hI.2.2.2.1 hn),hI.2.2.2.2.1.trans g2,hI.2.2.2.2.2.trans g3⟩,g4,g5,g6⟩
   ·rintro e V2 ⟨τ',g1,g2,g3,g4⟩
    rw [<- HF.out] at g3 g4
    exact ⟨τ',g1.2.1,(List.prefix_append _ _).trans g1.2.2.2.2.1,(List.prefix_append _ _).trans g1.2.2.2.2.2,hMwZ.trans g2,g3,g4⟩
  rw [<- hZ]
  clear IH HO HSo HGr HRt hown4 hown5 hown6 hgr6 hap6 hB7 hM7 hZ hMwZ hsZ hzZ HF
  go_wp2_with fail
  refine HCh.out.mono ?_
  rintro e w7 ⟨τ',g1,g2,g3,g4,rfl,g6⟩
  go_wp2_with fail
  go_ret
  exact ⟨τ',g1,g2,g3,g4,rfl,g6⟩
theorem AS {w : World} {b : Nat} {G : de} (h : eD w b G) :
  Calls Tryz.prog 149 #[.pointer (some ⟨b,0,none⟩)] w λe w'=>e = .returned (.int .i64 (G.q : Nat))/\w=w':=by
 have hc:=h.cq
 go_enter Tryz.func149,Tryz.ntmps149
 go_wp2
 go_ret
 exact ⟨rfl,rfl⟩
theorem ob (L : Ll) {r : Nat} (h : r<L.length) : L.drop r=aj L r :: L.drop (r+1):=by
 rw [aE h];exact List.drop_eq_getElem_cons h
theorem aU.GU {B : Nat} {w : World} {a : OA} {n c : Nat} {R : La} {L : Ll} (h : aU w B a n c R L) : bN B w a n L :=
 ⟨h.ll,h.pl,h.max,λhn=>(aR h.own (h.ne hn)).1,λi hi=>⟨_,_,_,h.cell hi,h.ints hi,λhm=>by
  refine (aR (h.row i hi) λe=>?_).1
  have:=(h.ints hi).pl hm
  rw [e] at this;cases this⟩⟩
end Go.Proofs.YtcfmiocdlcapoaaGreat
