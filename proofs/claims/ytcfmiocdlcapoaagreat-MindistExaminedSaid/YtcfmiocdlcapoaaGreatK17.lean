/-  -/
import Derived.Test.YtcfmiocdlcapoaaGreatK4
import Derived.Test.YtcfmiocdlcapoaaGreatK12
import Derived.Test.YtcfmiocdlcapoaaGreatK7
import Derived.Test.YtcfmiocdlcapoaaGreatK9
import Derived.Test.YtcfmiocdlcapoaaGreatK16
namespace Go.Proofs.YtcfmiocdlcapoaaGreat
set_option linter.unusedVariables false
set_option linter.unusedSimpArgs false
set_option linter.unusedSectionVars false

section
namespace Fld

variable {O : FOps} {El : Int->Prop} (F : Fld O El)
include F
theorem zadd {x : Int} (hx : El x) : O.add 0 x=x:=by rw [F.add_comm _ _ F.zero hx,F.add_zero x hx]
theorem negadd {x : Int} (hx : El x) : O.add (O.neg x) x=0:=by rw [F.add_comm _ _ (F.cl.neg x hx) hx,F.add_neg x hx]
theorem nadd {x y : Int} (hx : El x) (hy : El y) : O.add (O.neg x) (O.add x y)=y:=by
 rw [<- F.add_assoc _ _ _ (F.cl.neg x hx) hx hy,F.negadd hx,F.zadd hy]
theorem cancel {x y z : Int} (hx : El x) (hy : El y) (hz : El z) (h : O.add x y=O.add x z) : y=z:=by
 rw [<- F.nadd hx hy,h,F.nadd hx hz]
theorem mzero {x : Int} (hx : El x) : O.mul x 0=0:=by
 have h0:=F.cl.mul x 0 hx F.zero
 refine F.cancel h0 h0 F.zero ?_
 rw [<- F.mul_add x 0 0 hx F.zero F.zero,F.add_zero 0 F.zero,F.add_zero _ h0]
theorem zmul {x : Int} (hx : El x) : O.mul 0 x=0:=by rw [F.mul_comm _ _ F.zero hx,F.mzero hx]
theorem mone {x : Int} (hx : El x) : O.mul x 1=x:=by rw [F.mul_comm _ _ hx F.one,F.one_mul x hx]
theorem neg_of {x y : Int} (hx : El x) (hy : El y) (h : O.add x y=0) : y=O.neg x :=
 F.cancel hx hy (F.cl.neg x hx) (by rw [h,F.add_neg x hx])
theorem nzero : O.neg 0=0:=(F.neg_of F.zero F.zero (F.add_zero 0 F.zero)).symm
theorem mul_neg {x y : Int} (hx : El x) (hy : El y) : O.mul x (O.neg y)=O.neg (O.mul x y):=by
 have hn:=F.cl.neg y hy
 refine F.neg_of (F.cl.mul x y hx hy) (F.cl.mul x _ hx hn) ?_
 rw [<- F.mul_add x y _ hx hy hn,F.add_neg y hy,F.mzero hx]
theorem neg_mul {x y : Int} (hx : El x) (hy : El y) : O.mul (O.neg x) y=O.neg (O.mul x y):=by
 rw [F.mul_comm _ _ (F.cl.neg x hx) hy,F.mul_neg hy hx,F.mul_comm _ _ hy hx]
theorem add4 {a b c d : Int} (ha : El a) (hb : El b) (hc : El c) (hd : El d) : O.add (O.add a b) (O.add c d)=O.add (O.add a c) (O.add b d):=by
 rw [F.add_assoc a b _ ha hb (F.cl.add c d hc hd),F.add_assoc a c _ ha hc (F.cl.add b d hb hd),<- F.add_assoc b c d hb hc hd,F.add_comm b c hb hc,F.add_assoc c b d hc hb hd]
theorem neg_add {x y : Int} (hx : El x) (hy : El y) : O.neg (O.add x y)=O.add (O.neg x) (O.neg y):=by
 have hnx:=F.cl.neg x hx
 have hny:=F.cl.neg y hy
 refine (F.neg_of (F.cl.add x y hx hy) (F.cl.add _ _ hnx hny) ?_).symm
 rw [F.add4 hx hy hnx hny,F.add_neg x hx,F.add_neg y hy,F.add_zero 0 F.zero]
theorem neg_neg {x : Int} (hx : El x) : O.neg (O.neg x)=x:=(F.neg_of (F.cl.neg x hx) hx (F.negadd hx)).symm
theorem mul_ne {x y : Int} (hx : El x) (hy : El y) (h0 : x ≠ 0) (h : O.mul x y=0) : y=0:=by
 have hi:=F.cl.inv x hx h0
 rw [<- F.one_mul y hy,<- F.mul_inv x hx h0,F.mul_comm x _ hx hi,F.mul_assoc _ x y hi hx hy,h,F.mzero hi]
theorem comb {A B x A' B' R : Int} (hA : El A) (hB : El B) (hx : El x) (hA' : El A') (hB' : El B') (hR : El R) :
  O.add (O.add A (O.neg (O.mul x B))) (O.neg (O.mul (O.add A' (O.neg (O.mul x B'))) R))=O.add (O.add A (O.neg (O.mul A' R))) (O.neg (O.mul x (O.add B (O.neg (O.mul B' R))))):=by
 have m:=F.cl.mul
 have n:=F.cl.neg
 have h1:=m x B hx hB
 have h2:=m A' R hA' hR
 have hxB:=m x B' hx hB'
 have h3:=m _ R hxB hR
 have hBR:=m B' R hB' hR
 have e1 : O.mul (O.add A' (O.neg (O.mul x B'))) R=O.add (O.mul A' R) (O.neg (O.mul (O.mul x B') R)):=by
  rw [F.mul_comm _ R (F.cl.add _ _ hA' (n _ hxB)) hR,F.mul_add R _ _ hR hA' (n _ hxB),F.mul_comm R A' hR hA',F.mul_comm R _ hR (n _ hxB),F.neg_mul hxB hR]
 have e2 : O.mul x (O.add B (O.neg (O.mul B' R)))=O.add (O.mul x B) (O.neg (O.mul (O.mul x B') R)):=by
  rw [F.mul_add x _ _ hx hB (n _ hBR),F.mul_neg hx hBR,F.mul_assoc x B' R hx hB' hR]
 rw [e1,e2,F.neg_add h2 (n _ h3),F.neg_add h1 (n _ h3),F.neg_neg h3,F.add4 hA (n _ h1) (n _ h2) h3,F.add4 hA (n _ h2) (n _ h1) h3]
end Fld
def Vc (El : Int->Prop) (n : Nat) (v : List Int) : Prop:=v.length=n/\∀y ∈ v,El y
theorem Vc.at {El : Int->Prop} {n : Nat} {v : List Int} (h : Vc El n v) {i : Nat} (hi : i<n) : El (nth v i):=h.2 _ (nth_mem (by rw [h.1];exact hi))
theorem Vc.sub {O : FOps} {El : Int->Prop} (F : Fld O El) {n : Nat} {v r : List Int} {x : Int} (hv : Vc El n v) (hr : Vc El n r) (hx : El x) : Vc El n (subRow O v x r) :=
 ⟨by rw [subRow_length _ _ _ _ (by rw [hr.1,hv.1])];exact hv.1,subRow_el F.cl hv.2 hr.2 hx⟩
theorem Vc.scl {O : FOps} {El : Int->Prop} (F : Fld O El) {n : Nat} {r : List Int} {x : Int} (hr : Vc El n r) (hx : El x) : Vc El n (r.map (O.mul x)) :=
 ⟨by rw [List.length_map];exact hr.1,λy hy=>by
  obtain ⟨z,hz,rfl⟩:=List.mem_map.1 hy
  exact F.cl.mul _ _ hx (hr.2 z hz)⟩
structure Lin (O : FOps) (El : Int->Prop) (n : Nat) (φ : List Int->Int) : Prop where
 el : ∀v,Vc El n v->El (φ v)
 sub : ∀v r x,Vc El n v->Vc El n r->El x->φ (subRow O v x r)=O.add (φ v) (O.neg (O.mul x (φ r)))
 scl : ∀r x,Vc El n r->El x->φ (r.map (O.mul x))=O.mul x (φ r)
variable {O : FOps} {El : Int->Prop} {n : Nat}
theorem nth_scl (O : FOps) (r : List Int) (x : Int) {i : Nat} (hi : i<r.length) : nth (r.map (O.mul x)) i=O.mul x (nth r i):=by
 rw [nth_getElem (by simpa using hi),nth_getElem hi];simp
theorem Lin.coord (F : Fld O El) {i : Nat} (hi : i<n) : Lin O El n (λv=>nth v i) :=
 ⟨λv hv=>hv.at hi,λv r x hv hr hx=>nth_subRow O v x r i (by rw [hr.1,hv.1]) (by rw [hv.1];exact hi),λr x hr hx=>nth_scl O r x (by rw [hr.1];exact hi)⟩
theorem Lin.congr (F : Fld O El) {φ ψ : List Int->Int} (h : Lin O El n φ) (e : ∀v,Vc El n v->ψ v=φ v) : Lin O El n ψ :=
 ⟨λv hv=>by rw [e v hv];exact h.el v hv,λv r x hv hr hx=>by rw [e _ (hv.sub F hr hx),e v hv,e r hr];exact h.sub v r x hv hr hx,
  λr x hr hx=>by rw [e _ (hr.scl F hx),e r hr];exact h.scl r x hr hx⟩
theorem Lin.comb (F : Fld O El) {φ ψ : List Int->Int} (h : Lin O El n φ) (g : Lin O El n ψ) {s : Int} (hs : El s) : Lin O El n (λv=>O.add (φ v) (O.neg (O.mul (ψ v) s))) :=
 ⟨λv hv=>F.cl.add _ _ (h.el v hv) (F.cl.neg _ (F.cl.mul _ _ (g.el v hv) hs)),
  λv r x hv hr hx=>by
   show O.add (φ (subRow O v x r)) (O.neg (O.mul (ψ (subRow O v x r)) s))=_
   rw [h.sub v r x hv hr hx,g.sub v r x hv hr hx]
   exact F.comb (h.el v hv) (h.el r hr) hx (g.el v hv) (g.el r hr) hs,
  λr x hr hx=>by
   show O.add (φ (r.map (O.mul x))) (O.neg (O.mul (ψ (r.map (O.mul x))) s))=_
   rw [h.scl r x hr hx,g.scl r x hr hx,F.mul_assoc x _ s hx (g.el r hr) hs,<- F.mul_neg hx (F.cl.mul _ _ (g.el r hr) hs),<- F.mul_add x _ _ hx (h.el r hr) (F.cl.neg _ (F.cl.mul _ _ (g.el r hr) hs))]⟩
def clV (O : FOps) (El : Int->Prop) (n : Nat) (c : Nat->List Int) (l : List Nat) (x : Nat) : Prop:=∀φ,Lin O El n φ->(∀y ∈ l,φ (c y)=0)->φ (c x)=0
theorem clV_clo (F : Fld O El) {c : Nat->List Int} (hc : ∀i,Vc El n (c i)) : Clo (clV O El n c) where
 mem l x hx φ _ h:=h x hx
 mono l l' h y hy φ hφ h0:=hy φ hφ λx hx=>h x hx φ hφ h0
 exch l x y h hn:=by
  intro b hb h0
  apply Classical.byContradiction
  intro hbx
  apply hn
  intro a ha ha0
  apply Classical.byContradiction
  intro hay
  have hax : a (c x) ≠ 0:=λe=>hay (h a ha λz hz=>by
   rcases List.mem_cons.1 hz with rfl | hz
   ·exact e
   ·exact ha0 z hz)
  have h1:=ha.el _ (hc x)
  have h2:=hb.el _ (hc x)
  have hbi:=F.cl.inv _ h2 hbx
  have hs:=F.cl.mul _ _ hbi h1
  have:=h _ (ha.comb F hb hs) λz hz=>by
   rcases List.mem_cons.1 hz with rfl | hz
   ·show O.add (a (c z)) (O.neg (O.mul (b (c z)) (O.mul (O.inv (b (c z))) (a (c z)))))=0
    rw [<- F.mul_assoc _ _ _ h2 hbi h1,F.mul_inv _ h2 hbx,F.one_mul _ h1,F.add_neg _ h1]
   ·show O.add (a (c z)) (O.neg (O.mul (b (c z)) _))=0
    rw [ha0 z hz,h0 z (List.mem_cons.2 (.inr hz)),F.zmul hs,F.nzero,F.add_zero 0 F.zero]
  have h3 : O.add (a (c y)) (O.neg (O.mul (b (c y)) (O.mul (O.inv (b (c x))) (a (c x)))))=0:=this
  rw [h0 y (by simp),F.zmul hs,F.nzero,F.add_zero _ (ha.el _ (hc y))] at h3
  exact hay h3
structure BS.Inv (El : Int->Prop) (n : Nat) (s : BS) : Prop where
 ok : s.Ok El n
 one : ∀i,i<s.rows.length->nth (nthR s.rows i) (nth s.place i).toNat=1
 zero : ∀j i,j<i->i<s.rows.length->nth (nthR s.rows i) (nth s.place j).toNat=0
theorem BS.Ok.row {s : BS} (h : s.Ok El n) {i : Nat} (hi : i<s.rows.length) : Vc El n (nthR s.rows i):=h.rws.row hi
theorem BS.Ok.pl {s : BS} (h : s.Ok El n) {i : Nat} (hi : i<s.rows.length) : (nth s.place i).toNat<n:=by have:=h.plc i hi;omega
theorem Vc.redStep (F : Fld O El) {u r : List Int} {p : Int} (hu : Vc El n u) (hr : Vc El n r) (hp : p.toNat<n) : Vc El n (redStep O u p r):=by
 unfold Go.Proofs.YtcfmiocdlcapoaaGreat.redStep
 split
 ·exact hu
 ·exact hu.sub F hr (hu.at hp)
theorem Vc.redTo (F : Fld O El) {s : BS} (h : s.Ok El n) {v : List Int} (hv : Vc El n v) : ∀k,k<=s.rows.length->Vc El n (redTo O s.rows s.place v k)
 | 0,_=>hv
 | k+1,hk=>(Vc.redTo F h hv k (by omega)).redStep F (h.row (by omega)) (h.pl (by omega))
theorem nth_redStep (F : Fld O El) {u r : List Int} {p : Int} (hu : Vc El n u) (hr : Vc El n r) (hp : p.toNat<n) {i : Nat} (hi : i<n) :
  nth (redStep O u p r) i=O.add (nth u i) (O.neg (O.mul (nth u p.toNat) (nth r i))):=by
 unfold redStep
 split
 ·rename_i h0
  rw [h0,F.zmul (hr.at hi),F.nzero,F.add_zero _ (hu.at hi)]
 ·exact nth_subRow O u _ r i (by rw [hr.1,hu.1]) (by rw [hu.1];exact hi)
namespace BS.Inv

variable {s : BS}
theorem place (F : Fld O El) (h : s.Inv El n) {v : List Int} (hv : Vc El n v) : ∀k,k<=s.rows.length->∀j,j<k->nth (redTo O s.rows s.place v k) (nth s.place j).toNat=0
 | 0,_,j,hj=>by omega
 | k+1,hk,j,hj=>by
  have hu:=Vc.redTo F h.ok hv k (by omega)
  have hpk:=h.ok.pl (i:=k) (by omega)
  have hpj:=h.ok.pl (i:=j) (by omega)
  rw [redTo,nth_redStep F hu (h.ok.row (by omega)) hpk hpj]
  by_cases e : j=k
  ·subst e
   rw [h.one j (by omega),F.mone (hu.at hpk),F.add_neg _ (hu.at hpk)]
  ·rw [place F h hv k (by omega) j (by omega),h.zero j k (by omega) (by omega),F.mzero (hu.at hpk),F.nzero,F.add_zero 0 F.zero]
theorem stay (h : s.Inv El n) {i : Nat} (hi : i<s.rows.length) : ∀k,k<=i->redTo O s.rows s.place (nthR s.rows i) k=nthR s.rows i
 | 0,_=>rfl
 | k+1,hk=>by rw [redTo,stay h hi k (by omega),redStep,if_pos (h.zero k i (by omega) hi)]
theorem gone (F : Fld O El) (h : s.Inv El n) {i : Nat} (hi : i<s.rows.length) : ∀k,i<k->k<=s.rows.length->∀t,t<n->nth (redTo O s.rows s.place (nthR s.rows i) k) t=0
 | 0,hk,_,_,_=>by omega
 | k+1,hk,hkl,t,ht=>by
  have hu:=Vc.redTo F h.ok (h.ok.row hi) k (by omega)
  have hr:=h.ok.row (i:=k) (by omega)
  have hpk:=h.ok.pl (i:=k) (by omega)
  rw [redTo,nth_redStep F hu hr hpk ht]
  by_cases e : k=i
  ·subst e
   rw [h.stay hi k (Nat.le_refl _),h.one k hi,F.one_mul _ (hr.at ht),F.add_neg _ (hr.at ht)]
  ·rw [gone F h hi k (by omega) (by omega) t ht,gone F h hi k (by omega) (by omega) _ hpk,F.zmul (hr.at ht),F.nzero,F.add_zero 0 F.zero]
theorem lin (F : Fld O El) (h : s.Inv El n) : ∀k,k<=s.rows.length->∀i,i<n->Lin O El n (λv=>nth (redTo O s.rows s.place v k) i)
 | 0,_,i,hi=>Lin.coord F hi
 | k+1,hk,i,hi=>by
  have hpk:=h.ok.pl (i:=k) (by omega)
  have hr:=h.ok.row (i:=k) (by omega)
  refine Lin.congr F ((lin F h k (by omega) i hi).comb F (lin F h k (by omega) _ hpk) (hr.at hi)) λv hv=>?_
  show nth (redTo O s.rows s.place v (k+1)) i=_
  rw [redTo,nth_redStep F (Vc.redTo F h.ok hv k (by omega)) hr hpk hi]
theorem form (F : Fld O El) (h : s.Inv El n) {φ : List Int->Int} (hφ : Lin O El n φ) (h0 : ∀i,i<s.rows.length->φ (nthR s.rows i)=0) {v : List Int} (hv : Vc El n v) : ∀k,k<=s.rows.length->φ (redTo O s.rows s.place v k)=φ v
 | 0,_=>rfl
 | k+1,hk=>by
  have hu:=Vc.redTo F h.ok hv k (by omega)
  have hr:=h.ok.row (i:=k) (by omega)
  have hpk:=h.ok.pl (i:=k) (by omega)
  rw [redTo,redStep]
  split
  ·exact form F h hφ h0 hv k (by omega)
  ·rw [hφ.sub _ _ _ hu hr (hu.at hpk),h0 k (by omega),F.mzero (hu.at hpk),F.nzero,form F h hφ h0 hv k (by omega),F.add_zero _ (hφ.el v hv)]
end BS.Inv
theorem Lin.zero (F : Fld O El) {φ : List Int->Int} (h : Lin O El n φ) {v : List Int} (hv : Vc El n v) (h0 : ∀i,i<n->nth v i=0) : φ v=0:=by
 have e : v=v.map (O.mul 0):=nth_ext (by simp) λi hi=>by
  rw [nth_scl O v 0 hi,F.zmul (hv.at (by rw [<- hv.1];exact hi)),h0 i (by rw [<- hv.1];exact hi)]
 rw [e,h.scl v 0 hv F.zero,F.zmul (h.el v hv)]
theorem takes_false (F : Fld O El) {s : BS} (h : s.Inv El n) {v : List Int} (hv : Vc El n v) :
  s.takes O v=false ↔ ∀φ,Lin O El n φ->(∀i,i<s.rows.length->φ (nthR s.rows i)=0)->φ v=0:=by
 have hu : Vc El n (s.red O v):=Vc.redTo F h.ok hv _ (Nat.le_refl _)
 constructor
 ·intro ht φ hφ h0
  rw [<- h.form F hφ h0 hv _ (Nat.le_refl _)]
  refine hφ.zero F hu λi hi=>fnz_zero (s.red O v) i ?_
  have h1 : ¬ fnz (s.red O v)<(s.red O v).length:=by simpa [BS.takes] using ht
  have h2:=fnz_le (s.red O v)
  have:=hu.1
  omega
 ·intro h0
  apply Classical.byContradiction
  intro ht
  have h1 : fnz (s.red O v)<(s.red O v).length:=by simpa [BS.takes] using ht
  have:=hu.1
  exact fnz_ne _ h1 (h0 _ (h.lin F _ (Nat.le_refl _) _ (by omega)) λi hi=>h.gone F hi _ hi (Nat.le_refl _) _ (by omega))
theorem nthR_push (L : List (List Int)) (r : List Int) (i : Nat) : nthR (L ++ [r]) i=if i<L.length then nthR L i else if i=L.length then r else nthR [] 0:=by
 unfold nthR
 simp only [List.getD_eq_getElem?_getD]
 split
 ·rename_i h;rw [List.getElem?_append_left h]
 ·rename_i h
  split
  ·rename_i e;subst e;simp
  ·rename_i e;rw [List.getElem?_eq_none (by simp;omega)];simp
theorem nth_push (l : List Int) (r : Int) (i : Nat) : nth (l ++ [r]) i=if i<l.length then nth l i else if i=l.length then r else 0:=by
 unfold nth
 simp only [List.getD_eq_getElem?_getD]
 split
 ·rename_i h;rw [List.getElem?_append_left h]
 ·rename_i h
  split
  ·rename_i e;subst e;simp
  ·rename_i e;rw [List.getElem?_eq_none (by simp;omega)];simp
theorem BS.Inv.next (F : Fld O El) {s : BS} (h : s.Inv El n) {v : List Int} (hv : Vc El n v) : (s.next O v).Inv El n:=by
 refine ⟨h.ok.next F.cl hv,?_,?_⟩
 ·unfold BS.next
  split
  ·rename_i ht
   have hu : Vc El n (s.red O v):=Vc.redTo F h.ok hv _ (Nat.le_refl _)
   have hf : fnz (s.red O v)<(s.red O v).length:=by simpa [BS.takes] using ht
   have hne:=fnz_ne _ hf
   have hl:=hu.1
   have hel:=hu.at (i:=fnz (s.red O v)) (by omega)
   intro i hi
   simp only [List.length_append,List.length_singleton] at hi
   simp only [nthR_push,nth_push,h.ok.len]
   by_cases e : i<s.rows.length
   ·rw [if_pos e,if_pos e];exact h.one i e
   ·rw [if_neg e,if_neg e,if_pos (by omega),if_pos (by omega),Int.toNat_natCast,nth_scl O _ _ hf,F.mul_comm _ _ (F.cl.inv _ hel hne) hel,F.mul_inv _ hel hne]
  ·exact h.one
 ·unfold BS.next
  split
  ·rename_i ht
   have hu : Vc El n (s.red O v):=Vc.redTo F h.ok hv _ (Nat.le_refl _)
   have hf : fnz (s.red O v)<(s.red O v).length:=by simpa [BS.takes] using ht
   have hne:=fnz_ne _ hf
   have hl:=hu.1
   have hel:=hu.at (i:=fnz (s.red O v)) (by omega)
   intro j i hji hi
   simp only [List.length_append,List.length_singleton] at hi
   simp only [nthR_push,nth_push,h.ok.len]
   rw [if_pos (show j<s.rows.length by omega)]
   by_cases e : i<s.rows.length
   ·rw [if_pos e];exact h.zero j i hji e
   ·have hpj:=h.ok.pl (i:=j) (by omega)
    rw [if_neg e,if_pos (by omega),nth_scl O _ _ (by omega),BS.red,h.place F hv _ (Nat.le_refl _) j (by omega)]
    exact F.mzero (F.cl.inv _ hel hne)
  ·exact h.zero
def Same (O : FOps) (El : Int->Prop) (n : Nat) (c : Nat->List Int) (l : List Nat) (s : BS) : Prop :=
 ∀φ,Lin O El n φ->((∀y ∈ l,φ (c y)=0) ↔ ∀i,i<s.rows.length->φ (nthR s.rows i)=0)
theorem Same.next (F : Fld O El) {c : Nat->List Int} (hc : ∀i,Vc El n (c i)) {l : List Nat} {s : BS} (h : s.Inv El n) (hs : Same O El n c l s) (x : Nat) : Same O El n c (x :: l) (s.next O (c x)):=by
 intro φ hφ
 have key : (∀i,i<s.rows.length->φ (nthR s.rows i)=0)->((φ (c x)=0) ↔ ∀i,i<(s.next O (c x)).rows.length->φ (nthR (s.next O (c x)).rows i)=0):=by
  intro h0
  have hu : Vc El n (s.red O (c x)):=Vc.redTo F h.ok (hc x) _ (Nat.le_refl _)
  have hform:=h.form F hφ h0 (hc x) _ (Nat.le_refl _)
  unfold BS.next
  split
  ·rename_i ht
   have hf : fnz (s.red O (c x))<(s.red O (c x)).length:=by simpa [BS.takes] using ht
   have hne:=fnz_ne _ hf
   have hl:=hu.1
   have hel:=hu.at (i:=fnz (s.red O (c x))) (by omega)
   have hi:=F.cl.inv _ hel hne
   have hscl:=hφ.scl _ _ hu hi
   have hine : O.inv (nth (s.red O (c x)) (fnz (s.red O (c x)))) ≠ 0:=by
    intro e
    have:=F.mul_inv _ hel hne
    rw [e,F.mzero hel] at this
    exact absurd this (by decide)
   constructor
   ·intro hx i hi2
    simp only [List.length_append,List.length_singleton] at hi2
    simp only [nthR_push]
    by_cases e : i<s.rows.length
    ·rw [if_pos e];exact h0 i e
    ·rw [if_neg e,if_pos (by omega),hscl]
     show O.mul _ (φ (redTo O s.rows s.place (c x) s.rows.length))=0
     rw [hform,hx,F.mzero hi]
   ·intro hall
    have:=hall s.rows.length (by simp)
    simp only [nthR_push] at this
    rw [if_neg (Nat.lt_irrefl _),if_pos trivial,hscl] at this
    rw [<- hform]
    exact F.mul_ne hi (hφ.el _ hu) hine this
  ·rename_i ht
   exact ⟨λ_=>h0,λ_=>(takes_false F h (hc x)).1 (by simpa using ht) φ hφ h0⟩
 constructor
 ·intro hall
  have h1 : ∀i,i<s.rows.length->φ (nthR s.rows i)=0:=(hs φ hφ).1 λy hy=>hall y (List.mem_cons.2 (.inr hy))
  exact (key h1).1 (hall x (by simp))
 ·intro hall
  have h1 : ∀i,i<s.rows.length->φ (nthR s.rows i)=0:=by
   intro i hi
   have hlen : s.rows.length<=(s.next O (c x)).rows.length:=by unfold BS.next;split <;> simp
   have:=hall i (by omega)
   unfold BS.next at this
   split at this
   ·simp only [nthR_push] at this
    rw [if_pos hi] at this;exact this
   ·exact this
  intro y hy
  rcases List.mem_cons.1 hy with rfl | hy
  ·exact (key h1).2 hall
  ·exact (hs φ hφ).2 h1 y hy
def grL (Q : List Int) : Nat->List Nat
 | 0=>[]
 | k+1=>(nth Q k).toNat :: grL Q k
theorem mem_grL (Q : List Int) (x : Nat) : ∀k,x ∈ grL Q k ↔ ∃j,j<k/\(nth Q j).toNat=x
 | 0=>by simp [grL]
 | k+1=>by
  rw [grL,List.mem_cons,mem_grL Q x k]
  constructor
  ·rintro (h | ⟨j,hj,h⟩)
   ·exact ⟨k,by omega,h.symm⟩
   ·exact ⟨j,by omega,h⟩
  ·rintro ⟨j,hj,h⟩
   by_cases e : j=k
   ·subst e;exact .inl h.symm
   ·exact .inr ⟨j,by omega,h⟩
theorem colS_vc {m : Nat} {L : List (List Int)} (h : Rws El m L) (h0 : El 0) (i : Nat) : Vc El L.length (colS L i):=by
 refine ⟨colS_length _ _,λy hy=>?_⟩
 unfold colS at hy
 obtain ⟨r,hr,rfl⟩:=List.mem_map.1 hy
 by_cases hi : i<m
 ·exact (h r hr).2 _ (nth_mem (by rw [(h r hr).1];exact hi))
 ·have : nth r i=0:=by
   unfold nth
   rw [List.getD_eq_getElem?_getD,List.getElem?_eq_none (by rw [(h r hr).1];omega)];rfl
  rw [this];exact h0
theorem gr_inv (F : Fld O El) {m : Nat} {L : List (List Int)} (hL : Rws El m L) (Q : List Int) : ∀k,(grTo O L Q k).1.Inv El L.length/\Same O El L.length (colS L) (grL Q k) (grTo O L Q k).1 /\
  Rk (clV O El L.length (colS L)) (grL Q k) (grTo O L Q k).2.length
 | 0=>⟨⟨⟨λr hr=>by simp [grTo] at hr,rfl,λi hi=>by simp [grTo] at hi⟩,λi hi=>by simp [grTo] at hi,λj i _ hi=>by simp [grTo] at hi⟩,λφ _=>⟨λ_ i hi=>by simp [grTo] at hi,λ_ y hy=>by simp [grL] at hy⟩,.nil⟩
 | k+1=>by
  obtain ⟨h1,h2,h3⟩:=gr_inv F hL Q k
  have hc:=colS_vc hL F.zero
  refine ⟨h1.next F (hc _),h2.next F hc h1 _,?_⟩
  have htk:=takes_false F h1 (hc (nth Q k).toNat)
  have hcl : clV O El L.length (colS L) (grL Q k) (nth Q k).toNat ↔ (grTo O L Q k).1.takes O (colS L (nth Q k).toNat)=false:=by
   rw [htk]
   exact ⟨λh φ hφ h0=>h φ hφ ((h2 φ hφ).2 h0),λh φ hφ h0=>h φ hφ ((h2 φ hφ).1 h0)⟩
  rw [grL,grTo]
  by_cases ht : (grTo O L Q k).1.takes O (colS L (nth Q k).toNat)=true
  ·rw [if_pos ht]
   simp only [List.length_append,List.length_singleton]
   exact .ind _ (λh=>by rw [hcl.1 h] at ht;simp at ht) h3
  ·rw [if_neg ht]
   exact .dep _ (hcl.2 (by simpa using ht)) h3
theorem grS_rk (F : Fld O El) {m : Nat} {L : List (List Int)} (hL : Rws El m L) (Q : List Int) : Rk (clV O El L.length (colS L)) (grL Q Q.length) (grS O L Q).length:=(gr_inv F hL Q Q.length).2.2
theorem col_clo (F : Fld O El) {m : Nat} {L : List (List Int)} (hL : Rws El m L) : Clo (clV O El L.length (colS L)):=clV_clo F (colS_vc hL F.zero)
end

section
section
variable {O : FOps} {El : Int->Prop} {m n : Nat}
theorem Lin.smul (F : Fld O El) {φ : List Int->Int} (h : Lin O El n φ) {s : Int} (hs : El s) : Lin O El n (λv=>O.mul s (φ v)) :=
 ⟨λv hv=>F.cl.mul _ _ hs (h.el v hv),
  λv r x hv hr hx=>by
   show O.mul s (φ (subRow O v x r))=O.add (O.mul s (φ v)) (O.neg (O.mul x (O.mul s (φ r))))
   have h1:=h.el v hv
   have h2:=h.el r hr
   rw [h.sub v r x hv hr hx,F.mul_add s _ _ hs h1 (F.cl.neg _ (F.cl.mul _ _ hx h2)),F.mul_neg hs (F.cl.mul _ _ hx h2),<- F.mul_assoc s x _ hs hx h2,F.mul_comm s x hs hx,F.mul_assoc x s _ hx hs h2],
  λr x hr hx=>by
   show O.mul s (φ (r.map (O.mul x)))=O.mul x (O.mul s (φ r))
   have h2:=h.el r hr
   rw [h.scl r x hr hx,<- F.mul_assoc s x _ hs hx h2,F.mul_comm s x hs hx,F.mul_assoc x s _ hx hs h2]⟩
theorem nth_mapRange (g : Nat->Int) (k i : Nat) (hi : i<k) : nth ((List.range k).map g) i=g i:=by
 rw [nth_getElem (by simpa using hi)];simp
theorem Lin.vec {k : Nat} {e : List Int->Int} (he : Lin O El k e) (g : Nat->List Int->Int) (hg : ∀i,i<k->Lin O El n (g i)) : Lin O El n (λv=>e ((List.range k).map λi=>g i v)):=by
 have hv' : ∀v,Vc El n v->Vc El k ((List.range k).map λi=>g i v):=λv hv=>⟨by simp,λy hy=>by
  obtain ⟨i,hi,rfl⟩:=List.mem_map.1 hy
  exact (hg i (List.mem_range.1 hi)).el v hv⟩
 refine ⟨λv hv=>he.el _ (hv' v hv),λv r x hv hr hx=>?_,λr x hr hx=>?_⟩
 ·show e _=_
  rw [<- he.sub _ _ x (hv' v hv) (hv' r hr) hx]
  congr 1
  refine nth_ext (by rw [subRow_length _ _ _ _ (by simp)];simp) λi hi=>?_
  have hi' : i<k:=by simpa using hi
  rw [nth_subRow O _ x _ i (by simp) (by simpa using hi'),nth_mapRange _ _ _ hi',nth_mapRange _ _ _ hi',nth_mapRange _ _ _ hi']
  exact (hg i hi').sub v r x hv hr hx
 ·show e _=_
  rw [<- he.scl _ x (hv' r hr) hx]
  congr 1
  refine nth_ext (by simp) λi hi=>?_
  have hi' : i<k:=by simpa using hi
  rw [nth_scl O _ x (by simpa using hi'),nth_mapRange _ _ _ hi',nth_mapRange _ _ _ hi']
  exact (hg i hi').scl r x hr hx
def RS (O : FOps) (El : Int->Prop) (m : Nat) (L : List (List Int)) (f : Nat->Int) : Prop:=∃e,Lin O El L.length e/\∀x,x<m->f x=e (colS L x)
theorem RS.row (F : Fld O El) {L : List (List Int)} {i : Nat} (hi : i<L.length) : RS O El m L (λx=>nth (nthR L i) x) :=
 ⟨λv=>nth v i,Lin.coord F hi,λx _=>(nth_colS L x i hi).symm⟩
theorem RS.comb (F : Fld O El) {L : List (List Int)} {f g : Nat->Int} (hf : RS O El m L f) (hg : RS O El m L g) {s : Int} (hs : El s) : RS O El m L (λx=>O.add (f x) (O.neg (O.mul (g x) s))):=by
 obtain ⟨a,ha,ha2⟩:=hf
 obtain ⟨b,hb,hb2⟩:=hg
 exact ⟨_,ha.comb F hb hs,λx hx=>by show O.add (f x) _=_;rw [ha2 x hx,hb2 x hx]⟩
theorem RS.smul (F : Fld O El) {L : List (List Int)} {f : Nat->Int} (hf : RS O El m L f) {s : Int} (hs : El s) : RS O El m L (λx=>O.mul s (f x)):=by
 obtain ⟨a,ha,ha2⟩:=hf
 exact ⟨_,ha.smul F hs,λx hx=>by show O.mul s (f x)=_;rw [ha2 x hx]⟩
theorem RS.congr {L : List (List Int)} {f g : Nat->Int} (hf : RS O El m L f) (h : ∀x,x<m->g x=f x) : RS O El m L g:=by
 obtain ⟨a,ha,ha2⟩:=hf
 exact ⟨a,ha,λx hx=>by rw [h x hx,ha2 x hx]⟩
def RSub (O : FOps) (El : Int->Prop) (m : Nat) (A B : List (List Int)) : Prop:=∀i,i<A.length->RS O El m B (λx=>nth (nthR A i) x)
theorem RSub.refl (F : Fld O El) (L : List (List Int)) : RSub O El m L L:=λ_ hi=>.row F hi
theorem RSub.rs {A B : List (List Int)} (h : RSub O El m A B) {f : Nat->Int} (hf : RS O El m A f) : RS O El m B f:=by
 obtain ⟨e,he,he2⟩:=hf
 obtain ⟨g,hg⟩ : ∃g : Nat->List Int->Int,∀i,i<A.length->Lin O El B.length (g i)/\∀x,x<m->nth (nthR A i) x=g i (colS B x):=by
  have h2 : ∀i,∃g : List Int->Int,i<A.length->Lin O El B.length g/\∀x,x<m->nth (nthR A i) x=g (colS B x):=λi=>by
   by_cases hi : i<A.length
   ·obtain ⟨g,h1,h2⟩:=h i hi
    exact ⟨g,λ_=>⟨h1,h2⟩⟩
   ·exact ⟨λ_=>0,λh=>absurd h hi⟩
  exact ⟨λi=>Classical.choose (h2 i),λi hi=>Classical.choose_spec (h2 i) hi⟩
 refine ⟨_,he.vec g λi hi=>(hg i hi).1,λx hx=>?_⟩
 rw [he2 x hx]
 congr 1
 refine nth_ext (by simp [colS_length]) λi hi=>?_
 rw [colS_length] at hi
 rw [nth_mapRange _ _ _ hi,nth_colS A x i hi]
 exact (hg i hi).2 x hx
theorem RSub.trans {A B C : List (List Int)} (h : RSub O El m A B) (h2 : RSub O El m B C) : RSub O El m A C:=λi hi=>h2.rs (h i hi)
theorem RSub.cl {A B : List (List Int)} (h : RSub O El m A B) {l : List Nat} {x : Nat} (hl : ∀y ∈ l,y<m) (hx : x<m) (hc : clV O El B.length (colS B) l x) : clV O El A.length (colS A) l x:=by
 intro φ hφ h0
 obtain ⟨e,he,he2⟩:=h.rs (f:=λx=>φ (colS A x)) ⟨φ,hφ,λ_ _=>rfl⟩
 have e1 : φ (colS A x)=e (colS B x):=he2 x hx
 rw [e1]
 refine hc e he λy hy=>?_
 rw [<- he2 y (hl y hy)]
 exact h0 y hy
structure Piv (L : List (List Int)) (P : List Int) (c : Nat) : Prop where
 le : P.length<=L.length
 lt : ∀j,j<P.length->0<=nth P j/\nth P j<c
 one : ∀j i,j<P.length->i<L.length->nth (nthR L i) (nth P j).toNat=if i=j then 1 else 0
 zero : ∀i x,P.length<=i->i<L.length->x<c->nth (nthR L i) x=0
def sw (t k i : Nat) : Nat:=if i=t then k else if i=k then t else i
theorem sw_lt {t k n i : Nat} (ht : t<n) (hk : k<n) (hi : i<n) : sw t k i<n:=by unfold sw;split;exact hk;split;exact ht;exact hi
theorem nthR_sw {L : List (List Int)} {t k : Nat} (ht : t<L.length) (hk : k<L.length) (i : Nat) : nthR (if k=t then L else swapRow L t k) i=nthR L (sw t k i):=by
 unfold sw swapRow
 split
 ·rename_i e
  subst e
  split
  ·rename_i e;rw [e]
  ·rfl
 ·rename_i hne
  rw [nthR_set _ _ _ _ (by simpa using hk),nthR_set _ _ _ _ ht]
  by_cases h1 : i=t
  ·rw [if_neg (by omega),if_pos h1,if_pos h1]
  ·rw [if_neg h1,if_neg h1]
   by_cases h2 : i=k
   ·rw [if_pos h2,if_pos h2]
   ·rw [if_neg h2,if_neg h2]
theorem nth_norm (F : Fld O El) {L : List (List Int)} (hL : Rws El m L) {t c : Nat} (ht : t<L.length) {i x : Nat} (hx : x<m) :
  nth (nthR (normRow O L t c) i) x=if i=t then O.mul (O.inv (nth (nthR L t) c)) (nth (nthR L t) x) else nth (nthR L i) x:=by
 have hr:=hL.row ht
 have he : El (nth (nthR L t) x):=hr.2 _ (nth_mem (by rw [hr.1];exact hx))
 unfold normRow
 split
 ·rename_i h1
  split
  ·rename_i e;rw [e,h1,F.one_mul _ he]
  ·rfl
 ·rw [nthR_set _ _ _ _ ht]
  split
  ·exact nth_scl O _ _ (by rw [hr.1];exact hx)
  ·rfl
theorem nthR_clear (O : FOps) (t c : Nat) (L : List (List Int)) : ∀i,i<=L.length->∀j,nthR (clearTo O t c L i) j=if j<i/\j ≠ t then clearRow O (nthR L t) c (nthR L j) else nthR L j
 | 0,_,j=>by rw [if_neg (by omega)];rfl
 | i+1,hi,j=>by
  have ih:=nthR_clear O t c L i (by omega)
  unfold clearTo
  split
  ·rename_i e
   rw [ih j]
   by_cases h : j<i/\j ≠ t
   ·rw [if_pos h,if_pos ⟨by omega,h.2⟩]
   ·rw [if_neg h,if_neg (by omega)]
  ·rename_i e
   have e1 : nthR (clearTo O t c L i) t=nthR L t:=by rw [ih t,if_neg (by omega)]
   have e2 : nthR (clearTo O t c L i) i=nthR L i:=by rw [ih i,if_neg (by omega)]
   rw [nthR_set _ _ _ _ (by rw [clearTo_length];omega),e1,e2]
   by_cases h : j=i
   ·subst h
    rw [if_pos rfl,if_pos ⟨by omega,e⟩]
   ·rw [if_neg h,ih j]
    by_cases h2 : j<i/\j ≠ t
    ·rw [if_pos h2,if_pos ⟨by omega,h2.2⟩]
    ·rw [if_neg h2,if_neg (by omega)]
theorem nth_clearRow (F : Fld O El) {pv r : List Int} {c x : Nat} (hp : Vc El m pv) (hr : Vc El m r) (hc : c<m) (hx : x<m) :
  nth (clearRow O pv c r) x=O.add (nth r x) (O.neg (O.mul (nth pv x) (nth r c))):=by
 have h1:=hp.at hx
 have h2:=hr.at hx
 have h3:=hr.at hc
 unfold clearRow
 split
 ·rename_i h0
  rw [h0,F.mzero h1,F.nzero,F.add_zero _ h2]
 ·rw [nth_addRow O r _ pv x (by rw [hp.1,hr.1]) (by rw [hr.1];exact hx)]
  split
  ·rename_i h0
   rw [h0,F.zmul h3,F.nzero,F.add_zero _ h2]
  ·rw [F.neg_mul h3 h1,F.mul_comm _ _ h3 h1]
section
variable {L : List (List Int)} {t k c : Nat}
theorem nth_pivotS (F : Fld O El) (hL : Rws El m L) (ht : t<L.length) (hk : k<L.length) (hc : c<m) (h0 : nth (nthR L k) c ≠ 0) {i x : Nat} (hi : i<L.length) (hx : x<m) :
  nth (nthR (pivotS O L t k c) i) x=if i=t then O.mul (O.inv (nth (nthR L k) c)) (nth (nthR L k) x) else
   O.add (nth (nthR L (sw t k i)) x) (O.neg (O.mul (O.mul (O.inv (nth (nthR L k) c)) (nth (nthR L k) x)) (nth (nthR L (sw t k i)) c))):=by
 rw [pivotS_eq]
 obtain ⟨L1,hL1⟩ : ∃L1,(if k=t then L else swapRow L t k)=L1:=⟨_,rfl⟩
 have hn1 : ∀i,nthR L1 i=nthR L (sw t k i):=λi=>by rw [<- hL1];exact nthR_sw ht hk i
 have hl1 : L1.length=L.length:=by rw [<- hL1];split <;> simp [swapRow_length]
 have hR1 : Rws El m L1:=by
  rw [<- hL1]
  split
  ·exact hL
  ·exact hL.swap ht hk
 have hswt : sw t k t=k:=by simp [sw]
 have h01 : nth (nthR L1 t) c ≠ 0:=by rw [hn1,hswt];exact h0
 rw [hL1]
 have hR2 : Rws El m (normRow O L1 t c):=hR1.norm F.cl (by omega) hc h01
 have hN : ∀ {i x : Nat},x<m->nth (nthR (normRow O L1 t c) i) x=if i=t then O.mul (O.inv (nth (nthR L1 t) c)) (nth (nthR L1 t) x) else nth (nthR L1 i) x:=λhx=>nth_norm F hR1 (by omega) hx
 rw [nthR_clear O t c _ L.length (by rw [normRow_length];omega)]
 by_cases e : i=t
 ·rw [if_neg (by omega),if_pos e,hN hx,if_pos e,hn1,hswt]
 ·rw [if_pos ⟨hi,e⟩,if_neg e,nth_clearRow F (hR2.row (by rw [normRow_length];omega)) (hR2.row (by rw [normRow_length];omega)) hc hx,hN hx,hN hx,hN hc,if_neg e,if_neg e,if_pos rfl,hn1,hn1,hswt]
variable (F : Fld O El) (hL : Rws El m L) (ht : t<L.length) (hk : k<L.length) (hc : c<m) (h0 : nth (nthR L k) c ≠ 0)
include F hL ht hk hc h0
theorem pivotS_sub : RSub O El m (pivotS O L t k c) L:=by
 intro i hi
 rw [pivotS_length] at hi
 have hp : El (nth (nthR L k) c):=Vc.at (hL.row hk) hc
 have hpi:=F.cl.inv _ hp h0
 by_cases e : i=t
 ·exact ((RS.row F hk).smul F hpi).congr λx hx=>by rw [nth_pivotS F hL ht hk hc h0 hi hx,if_pos e]
 ·have hs:=sw_lt ht hk hi
  exact ((RS.row F hs).comb F ((RS.row F hk).smul F hpi) (s:=nth (nthR L (sw t k i)) c) (Vc.at (hL.row hs) hc)).congr λx hx=>by rw [nth_pivotS F hL ht hk hc h0 hi hx,if_neg e]
theorem pivotS_sup : RSub O El m L (pivotS O L t k c):=by
 intro i hi
 have hp : El (nth (nthR L k) c):=Vc.at (hL.row hk) hc
 have hpi:=F.cl.inv _ hp h0
 have htB : t<(pivotS O L t k c).length:=by rw [pivotS_length];exact ht
 by_cases e : i=k
 ·refine ((RS.row F htB).smul F hp).congr λx hx=>?_
  have hx1 : El (nth (nthR L k) x):=Vc.at (hL.row hk) hx
  rw [nth_pivotS F hL ht hk hc h0 ht hx,if_pos rfl,<- F.mul_assoc _ _ _ hp hpi hx1,F.mul_inv _ hp h0,F.one_mul _ hx1,e]
 ·have hj : ∃j,j<L.length/\j ≠ t/\sw t k j=i:=by
   by_cases e2 : i=t
   ·exact ⟨k,hk,by omega,by unfold sw;rw [if_neg (by omega),if_pos rfl,e2]⟩
   ·exact ⟨i,hi,e2,by unfold sw;rw [if_neg e2,if_neg e]⟩
  obtain ⟨j,hj,hjt,hsw⟩:=hj
  have hs : El (nth (nthR L i) c):=Vc.at (hL.row hi) hc
  refine ((RS.row F (i:=j) (by rw [pivotS_length];exact hj)).comb F (RS.row F htB) (s:=O.neg (nth (nthR L i) c)) (F.cl.neg _ hs)).congr λx hx=>?_
  have hx1 : El (nth (nthR L k) x):=Vc.at (hL.row hk) hx
  have hx2 : El (nth (nthR L i) x):=Vc.at (hL.row hi) hx
  have hy:=F.cl.mul _ _ hpi hx1
  have hq:=F.cl.mul _ _ hy hs
  rw [nth_pivotS F hL ht hk hc h0 ht hx,if_pos rfl,nth_pivotS F hL ht hk hc h0 hj hx,if_neg hjt,hsw,F.mul_neg hy hs,F.neg_neg hq,F.add_assoc _ _ _ hx2 (F.cl.neg _ hq) hq,F.negadd hq,F.add_zero _ hx2]
end
theorem Piv.next (F : Fld O El) {L : List (List Int)} {P : List Int} {c k : Nat} (h : Piv L P c) (hL : Rws El m L) (hc : c<m) (ht : P.length<L.length) (hk : k<L.length) (htk : P.length<=k) (h0 : nth (nthR L k) c ≠ 0) :
  Piv (pivotS O L P.length k c) (P ++ [(c : Int)]) (c+1):=by
 have hp : El (nth (nthR L k) c):=Vc.at (hL.row hk) hc
 have hpi:=F.cl.inv _ hp h0
 have hsw : ∀i,P.length<=i->i<L.length->P.length<=sw P.length k i/\sw P.length k i<L.length:=λi h1 h2=>by
  unfold sw;split;omega;split <;> omega
 have hswl : ∀i,i<P.length->sw P.length k i=i:=λi h1=>by unfold sw;rw [if_neg (by omega),if_neg (by omega)]
 refine ⟨by rw [pivotS_length,List.length_append];simp;omega,λj hj=>?_,λj i hj hi=>?_,λi x h1 h2 hx=>?_⟩
 ·rw [nth_push]
  rw [List.length_append,List.length_singleton] at hj
  by_cases e : j<P.length
  ·rw [if_pos e];have:=h.lt j e;omega
  ·rw [if_neg e,if_pos (by omega)];omega
 ·rw [List.length_append,List.length_singleton] at hj
  rw [pivotS_length] at hi
  rw [nth_push]
  by_cases e : j<P.length
  ·rw [if_pos e]
   have hb:=h.lt j e
   have hx : (nth P j).toNat<m:=by omega
   have hk0:=h.one j k e hk
   rw [if_neg (by omega)] at hk0
   rw [nth_pivotS F hL ht hk hc h0 hi hx,hk0,F.mzero hpi]
   by_cases e2 : i=P.length
   ·rw [if_pos e2,if_neg (by omega)]
   ·rw [if_neg e2]
    have hsl : sw P.length k i<L.length:=by unfold sw;split;omega;split <;> omega
    rw [F.zmul (Vc.at (hL.row hsl) hc),F.nzero,F.add_zero _ (Vc.at (hL.row hsl) hx),h.one j _ e hsl]
    by_cases e3 : i<P.length
    ·rw [hswl i e3]
    ·have:=(hsw i (by omega) hi).1
     rw [if_neg (by omega),if_neg (by omega)]
  ·have ej : j=P.length:=by omega
   rw [if_neg e,if_pos ej,Int.toNat_natCast,nth_pivotS F hL ht hk hc h0 hi hc,ej]
   by_cases e2 : i=P.length
   ·rw [if_pos e2,if_pos e2,F.mul_comm _ _ hpi hp,F.mul_inv _ hp h0]
   ·rw [if_neg e2,if_neg e2]
    have hsl : sw P.length k i<L.length:=by unfold sw;split;omega;split <;> omega
    have hq : El (nth (nthR L (sw P.length k i)) c):=Vc.at (hL.row hsl) hc
    rw [F.mul_comm _ _ hpi hp,F.mul_inv _ hp h0,F.one_mul _ hq,F.add_neg _ hq]
 ·rw [List.length_append,List.length_singleton] at h1
  rw [pivotS_length] at h2
  have hxm : x<m:=by omega
  have hs:=hsw i (by omega) h2
  have hq : El (nth (nthR L (sw P.length k i)) c):=Vc.at (hL.row hs.2) hc
  rw [nth_pivotS F hL ht hk hc h0 h2 hxm,if_neg (by omega)]
  by_cases e : x=c
  ·subst e
   rw [F.mul_comm _ _ hpi hp,F.mul_inv _ hp h0,F.one_mul _ hq,F.add_neg _ hq]
  ·rw [h.zero _ x hs.1 hs.2 (by omega),h.zero k x htk hk (by omega),F.mzero hpi,F.zmul hq,F.nzero,F.add_zero 0 F.zero]
theorem elim_rws (F : Fld O El) {L : List (List Int)} (hL : Rws El m L) (k : Nat) (hk : k<=m) : Rws El m (elimTo O L k).1 :=
 (elimTo_agr (O':=O) ⟨λ_ _ _ _=>rfl,λ_ _ _ _=>rfl,λ_ _=>rfl,λ_ _ _=>rfl⟩ F.cl hL k hk).2
theorem elim_inv (F : Fld O El) {L : List (List Int)} (hL : Rws El m L) : ∀k,k<=m->Piv (elimTo O L k).1 (elimTo O L k).2 k/\RSub O El m (elimTo O L k).1 L/\RSub O El m L (elimTo O L k).1
 | 0,_=>⟨⟨Nat.zero_le _,λj hj=>by simp [elimTo] at hj,λj i hj=>by simp [elimTo] at hj,λi x _ _ hx=>by omega⟩,.refl F L,.refl F L⟩
 | k+1,hk=>by
  obtain ⟨h1,h2,h3⟩:=elim_inv F hL k (by omega)
  have hR:=elim_rws F hL k (by omega)
  have hb:=findRow_bd (L:=(elimTo O L k).1) (c:=k) (k:=(elimTo O L k).2.length) h1.le
  by_cases hlt : (elimTo O L k).2.length<(elimTo O L k).1.length
  ·rw [elimTo_next (Lk:=(elimTo O L k).1) (P:=(elimTo O L k).2) rfl hlt]
   split
   ·rename_i hf
    refine ⟨⟨h1.le,λj hj=>⟨(h1.lt j hj).1,Int.lt_trans (h1.lt j hj).2 (by omega)⟩,h1.one,λi x hi1 hi2 hx=>?_⟩,h2,h3⟩
    by_cases e : x=k
    ·subst e
     exact findTo_zero _ x ((elimTo O L x).1.length - (elimTo O L x).2.length) _ i hi1 (by show i<findRow _ x _;rw [hf];exact hi2)
    ·exact h1.zero i x hi1 hi2 (by omega)
   ·rename_i hf
    have hfl : findRow (elimTo O L k).1 k (elimTo O L k).2.length<(elimTo O L k).1.length:=by omega
    have hne : nth (nthR (elimTo O L k).1 (findRow (elimTo O L k).1 k (elimTo O L k).2.length)) k ≠ 0:=findTo_stop _ k _ _ (by show findRow _ k _<_;omega)
    exact ⟨h1.next F hR (by omega) hlt hfl hb.1 hne,(pivotS_sub F hR hlt hfl (by omega) hne).trans h2,h3.trans (pivotS_sup F hR hlt hfl (by omega) hne)⟩
  ·have hfull : (elimTo O L k).2.length=L.length:=by have:=elimTo_length O L k;have:=h1.le;omega
   rw [elimTo_full hfull 1]
   have hl:=elimTo_length O L k
   exact ⟨⟨h1.le,λj hj=>by have:=h1.lt j hj;omega,h1.one,λi x hi1 hi2 hx=>by omega⟩,h2,h3⟩
theorem Piv.ind (F : Fld O El) {L : List (List Int)} {P : List Int} {c : Nat} (h : Piv L P c) : ∀k,k<=P.length->Rk (clV O El L.length (colS L)) (grL P k) k
 | 0,_=>.nil
 | k+1,hk=>by
  rw [grL]
  refine .ind _ (λhc=>?_) (h.ind F k (by omega))
  have hkl:=h.le
  have h1:=hc (λv=>nth v k) (Lin.coord F (by omega)) λy hy=>by
   obtain ⟨j,hj,rfl⟩:=(mem_grL P y k).1 hy
   show nth (colS L _) k=0
   rw [nth_colS L _ k (by omega),h.one j k (by omega) (by omega),if_neg (by omega)]
  have h2 : nth (colS L (nth P k).toNat) k=0:=h1
  rw [nth_colS L _ k (by omega),h.one k k (by omega) (by omega),if_pos rfl] at h2
  exact absurd h2 (by decide)
def lessTo (O : FOps) (L : List (List Int)) (P : List Int) (v : List Int) : Nat->List Int
 | 0=>v
 | k+1=>subRow O (lessTo O L P v k) (nth (lessTo O L P v k) k) (colS L (nth P k).toNat)
theorem Piv.less (F : Fld O El) {L : List (List Int)} {P : List Int} {c : Nat} (h : Piv L P c) (hL : Rws El m L) {v : List Int} (hv : Vc El L.length v) {φ : List Int->Int} (hφ : Lin O El L.length φ)
  (h0 : ∀j,j<P.length->φ (colS L (nth P j).toNat)=0) : ∀k,k<=P.length->Vc El L.length (lessTo O L P v k)/\φ (lessTo O L P v k)=φ v/\∀i,i<L.length->nth (lessTo O L P v k) i=if i<k then 0 else nth v i
 | 0,_=>⟨hv,rfl,λi _=>by rw [if_neg (by omega)];rfl⟩
 | k+1,hk=>by
  obtain ⟨h1,h2,h3⟩:=h.less F hL hv hφ h0 k (by omega)
  have hle:=h.le
  have hcol:=colS_vc hL F.zero (nth P k).toNat
  have hx:=h1.at (i:=k) (by omega)
  refine ⟨h1.sub F hcol hx,?_,λi hi=>?_⟩
  ·rw [lessTo,hφ.sub _ _ _ h1 hcol hx,h0 k (by omega),F.mzero hx,F.nzero,F.add_zero _ (hφ.el _ h1),h2]
  ·rw [lessTo,nth_subRow O _ _ _ i (by rw [hcol.1,h1.1]) (by rw [h1.1];exact hi),nth_colS L _ i hi,h.one k i (by omega) hi]
   by_cases e : i=k
   ·subst e
    rw [if_pos rfl,F.mone hx,F.add_neg _ hx,if_pos (by omega)]
   ·rw [if_neg e,F.mzero hx,F.nzero,F.add_zero _ (h1.at hi),h3 i hi]
    by_cases e2 : i<k
    ·rw [if_pos e2,if_pos (by omega)]
    ·rw [if_neg e2,if_neg (by omega)]
theorem Piv.all (F : Fld O El) {L : List (List Int)} {P : List Int} (h : Piv L P m) (hL : Rws El m L) {x : Nat} (hx : x<m) : clV O El L.length (colS L) (grL P P.length) x:=by
 intro φ hφ h0
 obtain ⟨h1,h2,h3⟩:=h.less F hL (colS_vc hL F.zero x) hφ (λj hj=>h0 _ ((mem_grL P _ _).2 ⟨j,hj,rfl⟩)) _ (Nat.le_refl _)
 rw [<- h2]
 refine hφ.zero F h1 λi hi=>?_
 rw [h3 i hi]
 split
 ·rfl
 ·rw [nth_colS L x i hi]
  exact h.zero i x (by omega) hi hx
theorem Rk.map {cl cl' : List Nat->Nat->Prop} (D : Nat->Prop) (f : Nat->Nat) (hc : ∀l x,(∀y ∈ l,D y)->D x->(cl l x ↔ cl' (l.map f) (f x))) {l : List Nat} {r : Nat} (h : Rk cl l r) : (∀y ∈ l,D y)->Rk cl' (l.map f) r:=by
 induction h with
 | nil=>intro _;exact .nil
 | dep x hx _ ih =>
  intro hD
  exact .dep _ ((hc _ _ (λy hy=>hD y (List.mem_cons.2 (.inr hy))) (hD x (by simp))).1 hx) (ih λy hy=>hD y (List.mem_cons.2 (.inr hy)))
 | ind x hx _ ih =>
  intro hD
  exact .ind _ (λh=>hx ((hc _ _ (λy hy=>hD y (List.mem_cons.2 (.inr hy))) (hD x (by simp))).2 h)) (ih λy hy=>hD y (List.mem_cons.2 (.inr hy)))
theorem piv_rk (F : Fld O El) {L : List (List Int)} (hL : Rws El m L) : Rk (clV O El L.length (colS L)) (List.range m) (elimTo O L m).2.length:=by
 obtain ⟨h1,h2,h3⟩:=elim_inv F hL m (Nat.le_refl _)
 have hR:=elim_rws F hL m (Nat.le_refl _)
 have hC:=col_clo F hR
 have k1:=(h1.ind F _ (Nat.le_refl _)).absorb hC (List.range m) λx hx=>h1.all F hR (List.mem_range.1 hx)
 have k2:=Rk.map (cl':=clV O El L.length (colS L)) (λy=>y<m) id (λl x hl hx=>by rw [List.map_id];exact ⟨h3.cl hl hx,h2.cl hl hx⟩) k1 λy hy=>by
  rcases List.mem_append.1 hy with hy | hy
  ·exact List.mem_range.1 hy
  ·obtain ⟨j,hj,rfl⟩:=(mem_grL _ _ _).1 hy
   have:=h1.lt j hj
   omega
 obtain ⟨r,hr⟩:=Rk.ex (clV O El L.length (colS L)) (List.range m)
 have e:=Rk.same (col_clo F hL) k2 hr λx=>by
  rw [List.map_id,List.mem_append]
  constructor
  ·rintro (h | h)
   ·exact h
   ·obtain ⟨j,hj,rfl⟩:=(mem_grL _ _ _).1 h
    have:=h1.lt j hj
    exact List.mem_range.2 (by omega)
  ·exact .inl
 rw [e];exact hr
def pickL (Q : List Int) (r : List Int) : List Int:=Q.map λq=>nth r q.toNat
theorem nth_pickL (Q r : List Int) {i : Nat} (hi : i<Q.length) : nth (pickL Q r) i=nth r (nth Q i).toNat:=by
 rw [nth_getElem (show i<(pickL Q r).length by simpa [pickL] using hi),nth_getElem hi];simp [pickL]
theorem pick_rws {L : List (List Int)} (hL : Rws El n L) {Q : List Int} (hQ : ∀j,j<Q.length->0<=nth Q j/\nth Q j<n) : Rws El Q.length (L.map (pickL Q)):=by
 intro r hr
 obtain ⟨r0,h0,rfl⟩:=List.mem_map.1 hr
 refine ⟨by simp [pickL],λx hx=>?_⟩
 obtain ⟨q,hq,rfl⟩:=List.mem_map.1 hx
 obtain ⟨j,hj,rfl⟩:=List.mem_iff_getElem.1 hq
 have:=hQ j hj
 rw [nth_getElem hj] at this
 exact (hL r0 h0).2 _ (nth_mem (by rw [(hL r0 h0).1];omega))
theorem pick_rk (F : Fld O El) {L : List (List Int)} (hL : Rws El n L) {Q : List Int} (hQ : ∀j,j<Q.length->0<=nth Q j/\nth Q j<n) :
  Rk (clV O El L.length (colS L)) ((List.range Q.length).map λj=>(nth Q j).toNat) (elimTo O (L.map (pickL Q)) Q.length).2.length:=by
 have hR:=pick_rws hL hQ
 have hcol : ∀j,j<Q.length->colS (L.map (pickL Q)) j=colS L (nth Q j).toNat:=λj hj=>by
  unfold colS
  rw [List.map_map]
  exact List.map_congr_left λr _=>nth_pickL Q r hj
 refine Rk.map (λj=>j<Q.length) _ (λl x hl hx=>?_) (piv_rk F hR) λy hy=>List.mem_range.1 hy
 unfold clV
 rw [List.length_map]
 constructor
 ·intro h φ hφ h0
  rw [<- hcol x hx]
  refine h φ hφ λy hy=>?_
  rw [hcol y (hl y hy)]
  exact h0 _ (List.mem_map.2 ⟨y,hy,rfl⟩)
 ·intro h φ hφ h0
  rw [hcol x hx]
  refine h φ hφ λy hy=>?_
  obtain ⟨j,hj,rfl⟩:=List.mem_map.1 hy
  rw [<- hcol j (hl j hj)]
  exact h0 j hj
end
end

section
section
variable {O : FOps} {El : Int->Prop} {m n : Nat}
def dotN (O : FOps) (a b : Nat->Int) : Nat->Int
 | 0=>0
 | t+1=>O.add (dotN O a b t) (O.mul (a t) (b t))
theorem dotN_el (F : Fld O El) {a b : Nat->Int} : ∀t,(∀p,p<t->El (a p))->(∀p,p<t->El (b p))->El (dotN O a b t)
 | 0,_,_=>F.zero
 | t+1,ha,hb=>F.cl.add _ _ (dotN_el F t (λp hp=>ha p (by omega)) λp hp=>hb p (by omega)) (F.cl.mul _ _ (ha t (by omega)) (hb t (by omega)))
theorem dotN_congr {a b a' b' : Nat->Int} : ∀t,(∀p,p<t->a p=a' p/\b p=b' p)->dotN O a b t=dotN O a' b' t
 | 0,_=>rfl
 | t+1,h=>by rw [dotN,dotN,dotN_congr t λp hp=>h p (by omega),(h t (by omega)).1,(h t (by omega)).2]
theorem dotN_one (F : Fld O El) {a b : Nat->Int} {x : Nat} (hx : El (O.mul (a x) (b x))) : ∀t,(∀p,p<t->p ≠ x->O.mul (a p) (b p)=0)->dotN O a b t=if x<t then O.mul (a x) (b x) else 0
 | 0,_=>rfl
 | t+1,h=>by
  rw [dotN,dotN_one F hx t λp hp=>h p (by omega)]
  by_cases e : t=x
  ·subst e
   rw [if_neg (by omega),if_pos (by omega),F.zadd hx]
  ·rw [h t (by omega) e]
   by_cases e2 : x<t
   ·rw [if_pos e2,if_pos (by omega),F.add_zero _ hx]
   ·rw [if_neg e2,if_neg (by omega),F.add_zero 0 F.zero]
variable {G K : List (List Int)}
end
end

section
section
variable {O : FOps} {El : Int->Prop} {m n : Nat}
structure Lead (L : List (List Int)) (P : List Int) : Prop where
 lead : ∀i x,i<P.length->x<(nth P i).toNat->nth (nthR L i) x=0
 asc : ∀i j,i<j->j<P.length->nth P i<nth P j
theorem elim_lead (F : Fld O El) {L : List (List Int)} (hL : Rws El m L) : ∀k,k<=m->Lead (elimTo O L k).1 (elimTo O L k).2
 | 0,_=>⟨λi x hi=>by simp [elimTo] at hi,λi j _ hj=>by simp [elimTo] at hj⟩
 | k+1,hk=>by
  have ih:=elim_lead F hL k (by omega)
  obtain ⟨h1,_,_⟩:=elim_inv F hL k (by omega)
  have hR:=elim_rws F hL k (by omega)
  have hb:=findRow_bd (L:=(elimTo O L k).1) (c:=k) (k:=(elimTo O L k).2.length) h1.le
  by_cases hlt : (elimTo O L k).2.length<(elimTo O L k).1.length
  ·rw [elimTo_next (Lk:=(elimTo O L k).1) (P:=(elimTo O L k).2) rfl hlt]
   split
   ·exact ih
   ·rename_i hf
    have hfl : findRow (elimTo O L k).1 k (elimTo O L k).2.length<(elimTo O L k).1.length:=by omega
    have hne : nth (nthR (elimTo O L k).1 (findRow (elimTo O L k).1 k (elimTo O L k).2.length)) k ≠ 0:=findTo_stop _ k _ _ (by show findRow _ k _<_;omega)
    generalize findRow (elimTo O L k).1 k (elimTo O L k).2.length=r at *
    generalize (elimTo O L k).1=A at *
    generalize (elimTo O L k).2=P at *
    have hp : El (nth (nthR A r) k):=Vc.at (hR.row hfl) (by omega)
    have hpi:=F.cl.inv _ hp hne
    refine ⟨λi x hi hx=>?_,λi j hij hj=>?_⟩
    ·rw [List.length_append,List.length_singleton] at hi
     have hx' : x<m:=by
      rw [nth_push] at hx
      by_cases e : i<P.length
      ·rw [if_pos e] at hx;have:=h1.lt i e;omega
      ·rw [if_neg e,if_pos (by omega)] at hx;omega
     rw [nth_pivotS F hR hlt hfl (by omega) hne (i:=i) (by omega) hx']
     rw [nth_push] at hx
     by_cases e : i<P.length
     ·rw [if_pos e] at hx
      have h2:=h1.lt i e
      rw [if_neg (by omega),show sw P.length r i=i by unfold sw;rw [if_neg (by omega),if_neg (by omega)],h1.zero r x hb.1 hfl (by omega),F.mzero hpi,F.zmul (Vc.at (hR.row (by omega)) (by omega)),F.nzero,F.add_zero _ (Vc.at (hR.row (by omega)) hx')]
      exact ih.lead i x e hx
     ·rw [if_neg e,if_pos (by omega)] at hx
      rw [if_pos (by omega),h1.zero r x hb.1 hfl (by omega),F.mzero hpi]
    ·rw [List.length_append,List.length_singleton] at hj
     rw [nth_push,nth_push,if_pos (by omega)]
     by_cases e : j<P.length
     ·rw [if_pos e];exact ih.asc i j hij e
     ·rw [if_neg e,if_pos (by omega)]
      have:=h1.lt i (by omega)
      omega
  ·have hfull : (elimTo O L k).2.length=L.length:=by have:=elimTo_length O L k;have:=h1.le;omega
   rw [elimTo_full hfull 1]
   exact ih
theorem inv_one (F : Fld O El) : O.inv 1=1:=by
 have h:=F.mul_inv 1 F.one (by decide)
 rwa [F.one_mul _ (F.cl.inv 1 F.one (by decide))] at h
theorem clearTo_id (O : FOps) {R : List (List Int)} {t c : Nat} (h : ∀i,i<R.length->i ≠ t->nth (nthR R i) c=0) : ∀i,i<=R.length->clearTo O t c R i=R
 | 0,_=>rfl
 | i+1,hi=>by
  unfold clearTo
  rw [clearTo_id O h i (by omega)]
  split
  ·rfl
  ·rename_i e
   unfold clearRow
   rw [if_pos (h i (by omega) e),set_nthR]
theorem elim_fix (F : Fld O El) {R : List (List Int)} {P : List Int} (hP : Piv R P m) (hl : Lead R P) (hlen : R.length=P.length) : ∀k,k<=m ->
  ∃t,t<=P.length/\elimTo O R k=(R,P.take t)/\(∀j,j<t->nth P j<k)/\(∀j,t<=j->j<P.length->(k : Int)<=nth P j)
 | 0,_=>⟨0,Nat.zero_le _,by simp [elimTo],λj hj=>by omega,λj _ hj=>(hP.lt j hj).1⟩
 | k+1,hk=>by
  obtain ⟨t,ht,he,h1,h2⟩:=elim_fix F hP hl hlen k (by omega)
  have htl : (P.take t).length=t:=by rw [List.length_take];omega
  by_cases htt : t=P.length
  ·refine ⟨t,ht,?_,λj hj=>by have:=h1 j hj;omega,λj h3 h4=>by omega⟩
   have hfull : (elimTo O R k).2.length=R.length:=by rw [he];show (P.take t).length=_;omega
   rw [elimTo_full hfull 1,he]
  ·have htR : t<R.length:=by omega
   rw [elimTo_next (Lk:=R) (P:=P.take t) he.symm (by rw [htl];exact htR),htl]
   by_cases hpk : nth P t=k
   ·have h11:=hP.one t t (by omega) htR
    rw [hpk,if_pos rfl,Int.toNat_natCast] at h11
    have hf : findRow R k t=t:=by rw [findRow_step htR,if_neg (by rw [h11];decide)]
    rw [hf,if_neg (by omega)]
    have hpv : pivotS O R t t k=R:=by
     rw [pivotS_eq,if_pos rfl]
     have hn : normRow O R t k=R:=by unfold normRow;rw [h11,if_pos (inv_one F)]
     rw [hn]
     refine clearTo_id O (λi hi hit=>?_) _ (Nat.le_refl _)
     have:=hP.one t i (by omega) hi
     rw [hpk,if_neg hit,Int.toNat_natCast] at this
     exact this
    rw [hpv]
    refine ⟨t+1,by omega,?_,λj hj=>?_,λj h3 h4=>?_⟩
    ·rw [List.take_succ_eq_append_getElem (by omega),<- nth_getElem,hpk]
    ·by_cases e : j=t
     ·subst e;omega
     ·have:=h1 j (by omega);omega
    ·have:=hl.asc t j (by omega) h4
     omega
   ·have hgt : (k : Int)<nth P t:=by have:=h2 t (Nat.le_refl _) (by omega);omega
    have hz : ∀i,t<=i->i<R.length->nth (nthR R i) k=0:=λi h3 h4=>by
     refine hl.lead i k (by omega) ?_
     by_cases e : i=t
     ·subst e;omega
     ·have:=hl.asc t i (by omega) (by omega);omega
    have hf : ∀d i,d=R.length - i->t<=i->i<=R.length->findRow R k i=R.length:=by
     intro d
     induction d with
     | zero=>intro i h3 _ h5;rw [findRow_end (by omega)];omega
     | succ d ih =>
      intro i h3 h4 h5
      rw [findRow_step (by omega),if_pos (hz i h4 (by omega))]
      exact ih (i+1) (by omega) (by omega) (by omega)
    rw [hf _ t rfl (Nat.le_refl _) (by omega),if_pos rfl]
    refine ⟨t,ht,rfl,λj hj=>by have:=h1 j hj;omega,λj h3 h4=>?_⟩
    by_cases e : j=t
    ·subst e;omega
    ·have:=hl.asc t j (by omega) h4;omega
theorem elim_fixed (F : Fld O El) {R : List (List Int)} {P : List Int} (hP : Piv R P m) (hl : Lead R P) (hlen : R.length=P.length) : elimTo O R m=(R,P):=by
 obtain ⟨t,ht,he,h1,h2⟩:=elim_fix F hP hl hlen m (Nat.le_refl _)
 have : t=P.length:=by
  apply Classical.byContradiction
  intro h
  have h3:=h2 t (Nat.le_refl _) (by omega)
  have h4:=hP.lt t (by omega)
  omega
 rw [he,this,List.take_length]
def canO (O : FOps) (m : Nat) (L : List (List Int)) : List (List Int):=(elimTo O L m).1.take (elimTo O L m).2.length
theorem nthR_takeK {L : List (List Int)} {t i : Nat} (h : i<t) : nthR (L.take t) i=nthR L i:=by
 unfold nthR
 simp only [List.getD_eq_getElem?_getD,List.getElem?_take]
 rw [if_pos h]
theorem canO_len (F : Fld O El) {L : List (List Int)} (hL : Rws El m L) : (canO O m L).length=(elimTo O L m).2.length:=by
 have h1:=(elim_inv F hL m (Nat.le_refl _)).1.le
 unfold canO
 rw [List.length_take];omega
theorem canO_rws (F : Fld O El) {L : List (List Int)} (hL : Rws El m L) : Rws El m (canO O m L):=λr hr=>elim_rws F hL m (Nat.le_refl _) r (List.mem_of_mem_take hr)
theorem canO_piv (F : Fld O El) {L : List (List Int)} (hL : Rws El m L) : Piv (canO O m L) (elimTo O L m).2 m/\Lead (canO O m L) (elimTo O L m).2:=by
 have h1:=(elim_inv F hL m (Nat.le_refl _)).1
 have h2:=elim_lead F hL m (Nat.le_refl _)
 have hl:=canO_len F hL
 refine ⟨⟨by omega,h1.lt,λj i hj hi=>?_,λi x hi1 hi2 _=>by omega⟩,⟨λi x hi hx=>?_,h2.asc⟩⟩
 ·unfold canO
  rw [nthR_takeK (by omega)]
  exact h1.one j i hj (by have:=h1.le;omega)
 ·unfold canO
  rw [nthR_takeK hi]
  exact h2.lead i x hi hx
theorem RS.nul (F : Fld O El) {L : List (List Int)} {f : Nat->Int} (h : ∀x,x<m->f x=0) : RS O El m L f:=by
 refine ⟨λ_=>0,⟨λ_ _=>F.zero,λv r x hv hr hx=>?_,λr x hr hx=>(F.mzero hx).symm⟩,λx hx=>h x hx⟩
 show (0 : Int)=O.add 0 (O.neg (O.mul x 0))
 rw [F.mzero hx,F.nzero,F.add_zero 0 F.zero]
theorem canO_rsub (F : Fld O El) {L : List (List Int)} (hL : Rws El m L) : RSub O El m (canO O m L) L/\RSub O El m L (canO O m L):=by
 obtain ⟨h1,h2,h3⟩:=elim_inv F hL m (Nat.le_refl _)
 have hl:=canO_len F hL
 refine ⟨λi hi=>?_,h3.trans λi hi=>?_⟩
 ·have e : nthR (canO O m L) i=nthR (elimTo O L m).1 i:=by unfold canO;exact nthR_takeK (by omega)
  rw [e];exact h2 i (by have:=h1.le;omega)
 ·by_cases e : i<(elimTo O L m).2.length
  ·have e2 : nthR (elimTo O L m).1 i=nthR (canO O m L) i:=by unfold canO;exact (nthR_takeK e).symm
   rw [e2];exact RS.row F (by omega)
  ·exact RS.nul F λx hx=>h1.zero i x (by omega) hi hx
theorem canO_rk (F : Fld O El) {L : List (List Int)} (hL : Rws El m L) : Rk (clV O El (canO O m L).length (colS (canO O m L))) (List.range m) (canO O m L).length:=by
 have h:=piv_rk F (canO_rws F hL)
 obtain ⟨h1,h2⟩:=canO_piv F hL
 rw [elim_fixed F h1 h2 (canO_len F hL)] at h
 rw [canO_len F hL]
 rw [canO_len F hL] at h
 exact h
variable {R : List (List Int)} {P : List Int}
end
end

section
open Go.RowKit
end

section
open Go.RowKit
theorem fieldRB_rf {P M : Int} {mod : List Int} (h : fieldRB P M mod=true) : ∃m : Nat,M=m/\RF P m/\(∀(w : World) am mn,Ints w am mn mod->Mods w P m am mn mod):=by
 unfold fieldRB shapeB at h
 simp only [Bool.and_eq_true,bne_iff_ne,ne_eq] at h
 obtain ⟨⟨⟨h1,h2⟩,h3⟩,h4⟩:=h
 obtain ⟨m,rfl,hrf⟩:=RF.of h1
 refine ⟨m,rfl,hrf,λw am mn hi=>⟨hi,λhm=>?_,?_⟩⟩
 ·rw [if_neg (by omega)] at h3
  simp only [Bool.and_eq_true,decide_eq_true_eq] at h3
  have:=hi.len
  omega
 ·by_cases hm : (m : Int)=1
  ·rw [if_pos hm] at h3
   have : mod=[]:=List.eq_nil_of_length_eq_zero (by simpa using h3)
   subst this
   exact Dig.of_mem (by have:=hrf.p2;omega) (by simp)
  ·rw [if_neg hm] at h3
   simp only [Bool.and_eq_true] at h3
   refine Dig.of_mem (by have:=hrf.p2;omega) λx hx=>?_
   have:=List.all_eq_true.1 h3.2 x hx
   simpa using this
end

section
open Go.RowKit
end

section
open Go.RowKit
end

section
open Go.RowKit
end

end Go.Proofs.YtcfmiocdlcapoaaGreat
