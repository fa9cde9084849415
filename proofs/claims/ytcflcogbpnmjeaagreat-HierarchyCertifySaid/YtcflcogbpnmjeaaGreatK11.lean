/-  -/
import Derived.Test.YtcflcogbpnmjeaaGreatK3
import Derived.Test.YtcflcogbpnmjeaaGreatK9
import Derived.Test.YtcflcogbpnmjeaaGreatK6
import Derived.Test.YtcflcogbpnmjeaaGreatK8
import Derived.Laws.Bits64
import Derived.Laws.Bits64b
import Derived.Sort.OwnSortedInts
namespace Go.Proofs.YtcflcogbpnmjeaaGreat
set_option linter.unusedVariables false
set_option linter.unusedSimpArgs false
set_option linter.unusedSectionVars false

section
namespace Fld

variable {O : FOps} {El : Int→Prop} (F : Fld O El)
include F
theorem zadd {x : Int} (hx : El x) : O.add 0 x=x:=by rw [F.add_comm _ _ F.zero hx,F.add_zero x hx]
theorem negadd {x : Int} (hx : El x) : O.add (O.neg x) x=0:=by rw [F.add_comm _ _ (F.cl.neg x hx) hx,F.add_neg x hx]
theorem nadd {x y : Int} (hx : El x) (hy : El y) : O.add (O.neg x) (O.add x y)=y:=by
 rw [← F.add_assoc _ _ _ (F.cl.neg x hx) hx hy,F.negadd hx,F.zadd hy]
theorem cancel {x y z : Int} (hx : El x) (hy : El y) (hz : El z) (h : O.add x y=O.add x z) : y=z:=by
 rw [← F.nadd hx hy,h,F.nadd hx hz]
theorem mzero {x : Int} (hx : El x) : O.mul x 0=0:=by
 have h0:=F.cl.mul x 0 hx F.zero
 refine F.cancel h0 h0 F.zero ?_
 rw [← F.mul_add x 0 0 hx F.zero F.zero,F.add_zero 0 F.zero,F.add_zero _ h0]
theorem zmul {x : Int} (hx : El x) : O.mul 0 x=0:=by rw [F.mul_comm _ _ F.zero hx,F.mzero hx]
theorem mone {x : Int} (hx : El x) : O.mul x 1=x:=by rw [F.mul_comm _ _ hx F.one,F.one_mul x hx]
theorem neg_of {x y : Int} (hx : El x) (hy : El y) (h : O.add x y=0) : y=O.neg x :=
 F.cancel hx hy (F.cl.neg x hx) (by rw [h,F.add_neg x hx])
theorem nzero : O.neg 0=0:=(F.neg_of F.zero F.zero (F.add_zero 0 F.zero)).symm
theorem mul_neg {x y : Int} (hx : El x) (hy : El y) : O.mul x (O.neg y)=O.neg (O.mul x y):=by
 have hn:=F.cl.neg y hy
 refine F.neg_of (F.cl.mul x y hx hy) (F.cl.mul x _ hx hn) ?_
 rw [← F.mul_add x y _ hx hy hn,F.add_neg y hy,F.mzero hx]
theorem neg_mul {x y : Int} (hx : El x) (hy : El y) : O.mul (O.neg x) y=O.neg (O.mul x y):=by
 rw [F.mul_comm _ _ (F.cl.neg x hx) hy,F.mul_neg hy hx,F.mul_comm _ _ hy hx]
theorem add4 {a b c d : Int} (ha : El a) (hb : El b) (hc : El c) (hd : El d) : O.add (O.add a b) (O.add c d)=O.add (O.add a c) (O.add b d):=by
 rw [F.add_assoc a b _ ha hb (F.cl.add c d hc hd),F.add_assoc a c _ ha hc (F.cl.add b d hb hd),← F.add_assoc b c d hb hc hd,F.add_comm b c hb hc,F.add_assoc c b d hc hb hd]
theorem neg_add {x y : Int} (hx : El x) (hy : El y) : O.neg (O.add x y)=O.add (O.neg x) (O.neg y):=by
 have hnx:=F.cl.neg x hx
 have hny:=F.cl.neg y hy
 refine (F.neg_of (F.cl.add x y hx hy) (F.cl.add _ _ hnx hny) ?_).symm
 rw [F.add4 hx hy hnx hny,F.add_neg x hx,F.add_neg y hy,F.add_zero 0 F.zero]
theorem neg_neg {x : Int} (hx : El x) : O.neg (O.neg x)=x:=(F.neg_of (F.cl.neg x hx) hx (F.negadd hx)).symm
theorem mul_ne {x y : Int} (hx : El x) (hy : El y) (h0 : x ≠ 0) (h : O.mul x y=0) : y=0:=by
 have hi:=F.cl.inv x hx h0
 rw [← F.one_mul y hy,← F.mul_inv x hx h0,F.mul_comm x _ hx hi,F.mul_assoc _ x y hi hx hy,h,F.mzero hi]
theorem comb {A B x A' B' R : Int} (hA : El A) (hB : El B) (hx : El x) (hA' : El A') (hB' : El B') (hR : El R) :
  O.add (O.add A (O.neg (O.mul x B))) (O.neg (O.mul (O.add A' (O.neg (O.mul x B'))) R))=O.add (O.add A (O.neg (O.mul A' R))) (O.neg (O.mul x (O.add B (O.neg (O.mul B' R))))):=by
 have m:=F.cl.mul
 have n:=F.cl.neg
 have h1:=m x B hx hB
 have h2:=m A' R hA' hR
 have hxB:=m x B' hx hB'
 have h3:=m _ R hxB hR
 have hBR:=m B' R hB' hR
 have e1 : O.mul (O.add A' (O.neg (O.mul x B'))) R=O.add (O.mul A' R) (O.neg (O.mul (O.mul x B') R)):=by
  rw [F.mul_comm _ R (F.cl.add _ _ hA' (n _ hxB)) hR,F.mul_add R _ _ hR hA' (n _ hxB),F.mul_comm R A' hR hA',F.mul_comm R _ hR (n _ hxB),F.neg_mul hxB hR]
 have e2 : O.mul x (O.add B (O.neg (O.mul B' R)))=O.add (O.mul x B) (O.neg (O.mul (O.mul x B') R)):=by
  rw [F.mul_add x _ _ hx hB (n _ hBR),F.mul_neg hx hBR,F.mul_assoc x B' R hx hB' hR]
 rw [e1,e2,F.neg_add h2 (n _ h3),F.neg_add h1 (n _ h3),F.neg_neg h3,F.add4 hA (n _ h1) (n _ h2) h3,F.add4 hA (n _ h2) (n _ h1) h3]
end Fld
def Vc (El : Int→Prop) (n : Nat) (v : List Int) : Prop:=v.length=n∧∀ y ∈ v,El y
theorem Vc.at {El : Int→Prop} {n : Nat} {v : List Int} (h : Vc El n v) {i : Nat} (hi : i<n) : El (nth v i):=h.2 _ (nth_mem (by rw [h.1];exact hi))
theorem Vc.sub {O : FOps} {El : Int→Prop} (F : Fld O El) {n : Nat} {v r : List Int} {x : Int} (hv : Vc El n v) (hr : Vc El n r) (hx : El x) : Vc El n (subRow O v x r) :=
 ⟨by rw [subRow_length _ _ _ _ (by rw [hr.1,hv.1])];exact hv.1,subRow_el F.cl hv.2 hr.2 hx⟩
theorem Vc.scl {O : FOps} {El : Int→Prop} (F : Fld O El) {n : Nat} {r : List Int} {x : Int} (hr : Vc El n r) (hx : El x) : Vc El n (r.map (O.mul x)) :=
 ⟨by rw [List.length_map];exact hr.1,fun y hy=>by
  obtain ⟨z,hz,rfl⟩:=List.mem_map.1 hy
  exact F.cl.mul _ _ hx (hr.2 z hz)⟩
structure Lin (O : FOps) (El : Int→Prop) (n : Nat) (φ : List Int→Int) : Prop where
 el : ∀ v,Vc El n v→El (φ v)
 sub : ∀ v r x,Vc El n v→Vc El n r→El x→φ (subRow O v x r)=O.add (φ v) (O.neg (O.mul x (φ r)))
 scl : ∀ r x,Vc El n r→El x→φ (r.map (O.mul x))=O.mul x (φ r)
variable {O : FOps} {El : Int→Prop} {n : Nat}
theorem nth_scl (O : FOps) (r : List Int) (x : Int) {i : Nat} (hi : i<r.length) : nth (r.map (O.mul x)) i=O.mul x (nth r i):=by
 rw [nth_getElem (by simpa using hi),nth_getElem hi];simp
theorem Lin.coord (F : Fld O El) {i : Nat} (hi : i<n) : Lin O El n (fun v=>nth v i) :=
 ⟨fun v hv=>hv.at hi,fun v r x hv hr hx=>nth_subRow O v x r i (by rw [hr.1,hv.1]) (by rw [hv.1];exact hi),fun r x hr hx=>nth_scl O r x (by rw [hr.1];exact hi)⟩
theorem Lin.congr (F : Fld O El) {φ ψ : List Int→Int} (h : Lin O El n φ) (e : ∀ v,Vc El n v→ψ v=φ v) : Lin O El n ψ :=
 ⟨fun v hv=>by rw [e v hv];exact h.el v hv,fun v r x hv hr hx=>by rw [e _ (hv.sub F hr hx),e v hv,e r hr];exact h.sub v r x hv hr hx,
  fun r x hr hx=>by rw [e _ (hr.scl F hx),e r hr];exact h.scl r x hr hx⟩
theorem Lin.comb (F : Fld O El) {φ ψ : List Int→Int} (h : Lin O El n φ) (g : Lin O El n ψ) {s : Int} (hs : El s) : Lin O El n (fun v=>O.add (φ v) (O.neg (O.mul (ψ v) s))) :=
 ⟨fun v hv=>F.cl.add _ _ (h.el v hv) (F.cl.neg _ (F.cl.mul _ _ (g.el v hv) hs)),
  fun v r x hv hr hx=>by
   show O.add (φ (subRow O v x r)) (O.neg (O.mul (ψ (subRow O v x r)) s))=_
   rw [h.sub v r x hv hr hx,g.sub v r x hv hr hx]
   exact F.comb (h.el v hv) (h.el r hr) hx (g.el v hv) (g.el r hr) hs,
  fun r x hr hx=>by
   show O.add (φ (r.map (O.mul x))) (O.neg (O.mul (ψ (r.map (O.mul x))) s))=_
   rw [h.scl r x hr hx,g.scl r x hr hx,F.mul_assoc x _ s hx (g.el r hr) hs,← F.mul_neg hx (F.cl.mul _ _ (g.el r hr) hs),← F.mul_add x _ _ hx (h.el r hr) (F.cl.neg _ (F.cl.mul _ _ (g.el r hr) hs))]⟩
def clV (O : FOps) (El : Int→Prop) (n : Nat) (c : Nat→List Int) (l : List Nat) (x : Nat) : Prop:=∀ φ,Lin O El n φ→(∀ y ∈ l,φ (c y)=0)→φ (c x)=0
structure BS.Inv (El : Int→Prop) (n : Nat) (s : BS) : Prop where
 ok : s.Ok El n
 one : ∀ i,i<s.rows.length→nth (nthR s.rows i) (nth s.place i).toNat=1
 zero : ∀ j i,j<i→i<s.rows.length→nth (nthR s.rows i) (nth s.place j).toNat=0
theorem BS.Ok.row {s : BS} (h : s.Ok El n) {i : Nat} (hi : i<s.rows.length) : Vc El n (nthR s.rows i):=h.rws.row hi
theorem BS.Ok.pl {s : BS} (h : s.Ok El n) {i : Nat} (hi : i<s.rows.length) : (nth s.place i).toNat<n:=by have:=h.plc i hi;omega
theorem Vc.redStep (F : Fld O El) {u r : List Int} {p : Int} (hu : Vc El n u) (hr : Vc El n r) (hp : p.toNat<n) : Vc El n (redStep O u p r):=by
 unfold Go.Proofs.YtcflcogbpnmjeaaGreat.redStep
 split
 ·exact hu
 ·exact hu.sub F hr (hu.at hp)
theorem Vc.redTo (F : Fld O El) {s : BS} (h : s.Ok El n) {v : List Int} (hv : Vc El n v) : ∀ k,k≤s.rows.length→Vc El n (redTo O s.rows s.place v k)
 | 0,_=>hv
 | k+1,hk=>(Vc.redTo F h hv k (by omega)).redStep F (h.row (by omega)) (h.pl (by omega))
theorem nth_redStep (F : Fld O El) {u r : List Int} {p : Int} (hu : Vc El n u) (hr : Vc El n r) (hp : p.toNat<n) {i : Nat} (hi : i<n) :
  nth (redStep O u p r) i=O.add (nth u i) (O.neg (O.mul (nth u p.toNat) (nth r i))):=by
 unfold redStep
 split
 ·rename_i h0
  rw [h0,F.zmul (hr.at hi),F.nzero,F.add_zero _ (hu.at hi)]
 ·exact nth_subRow O u _ r i (by rw [hr.1,hu.1]) (by rw [hu.1];exact hi)
namespace BS.Inv

variable {s : BS}
theorem place (F : Fld O El) (h : s.Inv El n) {v : List Int} (hv : Vc El n v) : ∀ k,k≤s.rows.length→∀ j,j<k→nth (redTo O s.rows s.place v k) (nth s.place j).toNat=0
 | 0,_,j,hj=>by omega
 | k+1,hk,j,hj=>by
  have hu:=Vc.redTo F h.ok hv k (by omega)
  have hpk:=h.ok.pl (i:=k) (by omega)
  have hpj:=h.ok.pl (i:=j) (by omega)
  rw [redTo,nth_redStep F hu (h.ok.row (by omega)) hpk hpj]
  by_cases e : j=k
  ·subst e
   rw [h.one j (by omega),F.mone (hu.at hpk),F.add_neg _ (hu.at hpk)]
  ·rw [place F h hv k (by omega) j (by omega),h.zero j k (by omega) (by omega),F.mzero (hu.at hpk),F.nzero,F.add_zero 0 F.zero]
theorem stay (h : s.Inv El n) {i : Nat} (hi : i<s.rows.length) : ∀ k,k≤i→redTo O s.rows s.place (nthR s.rows i) k=nthR s.rows i
 | 0,_=>rfl
 | k+1,hk=>by rw [redTo,stay h hi k (by omega),redStep,if_pos (h.zero k i (by omega) hi)]
theorem gone (F : Fld O El) (h : s.Inv El n) {i : Nat} (hi : i<s.rows.length) : ∀ k,i<k→k≤s.rows.length→∀ t,t<n→nth (redTo O s.rows s.place (nthR s.rows i) k) t=0
 | 0,hk,_,_,_=>by omega
 | k+1,hk,hkl,t,ht=>by
  have hu:=Vc.redTo F h.ok (h.ok.row hi) k (by omega)
  have hr:=h.ok.row (i:=k) (by omega)
  have hpk:=h.ok.pl (i:=k) (by omega)
  rw [redTo,nth_redStep F hu hr hpk ht]
  by_cases e : k=i
  ·subst e
   rw [h.stay hi k (Nat.le_refl _),h.one k hi,F.one_mul _ (hr.at ht),F.add_neg _ (hr.at ht)]
  ·rw [gone F h hi k (by omega) (by omega) t ht,gone F h hi k (by omega) (by omega) _ hpk,F.zmul (hr.at ht),F.nzero,F.add_zero 0 F.zero]
theorem lin (F : Fld O El) (h : s.Inv El n) : ∀ k,k≤s.rows.length→∀ i,i<n→Lin O El n (fun v=>nth (redTo O s.rows s.place v k) i)
 | 0,_,i,hi=>Lin.coord F hi
 | k+1,hk,i,hi=>by
  have hpk:=h.ok.pl (i:=k) (by omega)
  have hr:=h.ok.row (i:=k) (by omega)
  refine Lin.congr F ((lin F h k (by omega) i hi).comb F (lin F h k (by omega) _ hpk) (hr.at hi)) fun v hv=>?_
  show nth (redTo O s.rows s.place v (k+1)) i=_
  rw [redTo,nth_redStep F (Vc.redTo F h.ok hv k (by omega)) hr hpk hi]
theorem form (F : Fld O El) (h : s.Inv El n) {φ : List Int→Int} (hφ : Lin O El n φ) (h0 : ∀ i,i<s.rows.length→φ (nthR s.rows i)=0) {v : List Int} (hv : Vc El n v) : ∀ k,k≤s.rows.length→φ (redTo O s.rows s.place v k)=φ v
 | 0,_=>rfl
 | k+1,hk=>by
  have hu:=Vc.redTo F h.ok hv k (by omega)
  have hr:=h.ok.row (i:=k) (by omega)
  have hpk:=h.ok.pl (i:=k) (by omega)
  rw [redTo,redStep]
  split
  ·exact form F h hφ h0 hv k (by omega)
  ·rw [hφ.sub _ _ _ hu hr (hu.at hpk),h0 k (by omega),F.mzero (hu.at hpk),F.nzero,form F h hφ h0 hv k (by omega),F.add_zero _ (hφ.el v hv)]
end BS.Inv
theorem Lin.zero (F : Fld O El) {φ : List Int→Int} (h : Lin O El n φ) {v : List Int} (hv : Vc El n v) (h0 : ∀ i,i<n→nth v i=0) : φ v=0:=by
 have e : v=v.map (O.mul 0):=nth_ext (by simp) fun i hi=>by
  rw [nth_scl O v 0 hi,F.zmul (hv.at (by rw [← hv.1];exact hi)),h0 i (by rw [← hv.1];exact hi)]
 rw [e,h.scl v 0 hv F.zero,F.zmul (h.el v hv)]
theorem takes_false (F : Fld O El) {s : BS} (h : s.Inv El n) {v : List Int} (hv : Vc El n v) :
  s.takes O v=false ↔ ∀ φ,Lin O El n φ→(∀ i,i<s.rows.length→φ (nthR s.rows i)=0)→φ v=0:=by
 have hu : Vc El n (s.red O v):=Vc.redTo F h.ok hv _ (Nat.le_refl _)
 constructor
 ·intro ht φ hφ h0
  rw [← h.form F hφ h0 hv _ (Nat.le_refl _)]
  refine hφ.zero F hu fun i hi=>fnz_zero (s.red O v) i ?_
  have h1 : ¬ fnz (s.red O v)<(s.red O v).length:=by simpa [BS.takes] using ht
  have h2:=fnz_le (s.red O v)
  have:=hu.1
  omega
 ·intro h0
  apply Classical.byContradiction
  intro ht
  have h1 : fnz (s.red O v)<(s.red O v).length:=by simpa [BS.takes] using ht
  have:=hu.1
  exact fnz_ne _ h1 (h0 _ (h.lin F _ (Nat.le_refl _) _ (by omega)) fun i hi=>h.gone F hi _ hi (Nat.le_refl _) _ (by omega))
theorem nthR_push (L : List (List Int)) (r : List Int) (i : Nat) : nthR (L ++ [r]) i=if i<L.length then nthR L i else if i=L.length then r else nthR [] 0:=by
 unfold nthR
 simp only [List.getD_eq_getElem?_getD]
 split
 ·rename_i h;rw [List.getElem?_append_left h]
 ·rename_i h
  split
  ·rename_i e;subst e;simp
  ·rename_i e;rw [List.getElem?_eq_none (by simp;omega)];simp
theorem nth_push (l : List Int) (r : Int) (i : Nat) : nth (l ++ [r]) i=if i<l.length then nth l i else if i=l.length then r else 0:=by
 unfold nth
 simp only [List.getD_eq_getElem?_getD]
 split
 ·rename_i h;rw [List.getElem?_append_left h]
 ·rename_i h
  split
  ·rename_i e;subst e;simp
  ·rename_i e;rw [List.getElem?_eq_none (by simp;omega)];simp
theorem BS.Inv.next (F : Fld O El) {s : BS} (h : s.Inv El n) {v : List Int} (hv : Vc El n v) : (s.next O v).Inv El n:=by
 refine ⟨h.ok.next F.cl hv,?_,?_⟩
 ·unfold BS.next
  split
  ·rename_i ht
   have hu : Vc El n (s.red O v):=Vc.redTo F h.ok hv _ (Nat.le_refl _)
   have hf : fnz (s.red O v)<(s.red O v).length:=by simpa [BS.takes] using ht
   have hne:=fnz_ne _ hf
   have hl:=hu.1
   have hel:=hu.at (i:=fnz (s.red O v)) (by omega)
   intro i hi
   simp only [List.length_append,List.length_singleton] at hi
   simp only [nthR_push,nth_push,h.ok.len]
   by_cases e : i<s.rows.length
   ·rw [if_pos e,if_pos e];exact h.one i e
   ·rw [if_neg e,if_neg e,if_pos (by omega),if_pos (by omega),Int.toNat_natCast,nth_scl O _ _ hf,F.mul_comm _ _ (F.cl.inv _ hel hne) hel,F.mul_inv _ hel hne]
  ·exact h.one
 ·unfold BS.next
  split
  ·rename_i ht
   have hu : Vc El n (s.red O v):=Vc.redTo F h.ok hv _ (Nat.le_refl _)
   have hf : fnz (s.red O v)<(s.red O v).length:=by simpa [BS.takes] using ht
   have hne:=fnz_ne _ hf
   have hl:=hu.1
   have hel:=hu.at (i:=fnz (s.red O v)) (by omega)
   intro j i hji hi
   simp only [List.length_append,List.length_singleton] at hi
   simp only [nthR_push,nth_push,h.ok.len]
   rw [if_pos (show j<s.rows.length by omega)]
   by_cases e : i<s.rows.length
   ·rw [if_pos e];exact h.zero j i hji e
   ·have hpj:=h.ok.pl (i:=j) (by omega)
    rw [if_neg e,if_pos (by omega),nth_scl O _ _ (by omega),BS.red,h.place F hv _ (Nat.le_refl _) j (by omega)]
    exact F.mzero (F.cl.inv _ hel hne)
  ·exact h.zero
def Same (O : FOps) (El : Int→Prop) (n : Nat) (c : Nat→List Int) (l : List Nat) (s : BS) : Prop :=
 ∀ φ,Lin O El n φ→((∀ y ∈ l,φ (c y)=0) ↔ ∀ i,i<s.rows.length→φ (nthR s.rows i)=0)
theorem Same.next (F : Fld O El) {c : Nat→List Int} (hc : ∀ i,Vc El n (c i)) {l : List Nat} {s : BS} (h : s.Inv El n) (hs : Same O El n c l s) (x : Nat) : Same O El n c (x :: l) (s.next O (c x)):=by
 intro φ hφ
 have key : (∀ i,i<s.rows.length→φ (nthR s.rows i)=0)→((φ (c x)=0) ↔ ∀ i,i<(s.next O (c x)).rows.length→φ (nthR (s.next O (c x)).rows i)=0):=by
  intro h0
  have hu : Vc El n (s.red O (c x)):=Vc.redTo F h.ok (hc x) _ (Nat.le_refl _)
  have hform:=h.form F hφ h0 (hc x) _ (Nat.le_refl _)
  unfold BS.next
  split
  ·rename_i ht
   have hf : fnz (s.red O (c x))<(s.red O (c x)).length:=by simpa [BS.takes] using ht
   have hne:=fnz_ne _ hf
   have hl:=hu.1
   have hel:=hu.at (i:=fnz (s.red O (c x))) (by omega)
   have hi:=F.cl.inv _ hel hne
   have hscl:=hφ.scl _ _ hu hi
   have hine : O.inv (nth (s.red O (c x)) (fnz (s.red O (c x)))) ≠ 0:=by
    intro e
    have:=F.mul_inv _ hel hne
    rw [e,F.mzero hel] at this
    exact absurd this (by decide)
   constructor
   ·intro hx i hi2
    simp only [List.length_append,List.length_singleton] at hi2
    simp only [nthR_push]
    by_cases e : i<s.rows.length
    ·rw [if_pos e];exact h0 i e
    ·rw [if_neg e,if_pos (by omega),hscl]
     show O.mul _ (φ (redTo O s.rows s.place (c x) s.rows.length))=0
     rw [hform,hx,F.mzero hi]
   ·intro hall
    have:=hall s.rows.length (by simp)
    simp only [nthR_push] at this
    rw [if_neg (Nat.lt_irrefl _),if_pos trivial,hscl] at this
    rw [← hform]
    exact F.mul_ne hi (hφ.el _ hu) hine this
  ·rename_i ht
   exact ⟨fun _=>h0,fun _=>(takes_false F h (hc x)).1 (by simpa using ht) φ hφ h0⟩
 constructor
 ·intro hall
  have h1 : ∀ i,i<s.rows.length→φ (nthR s.rows i)=0:=(hs φ hφ).1 fun y hy=>hall y (List.mem_cons.2 (.inr hy))
  exact (key h1).1 (hall x (by simp))
 ·intro hall
  have h1 : ∀ i,i<s.rows.length→φ (nthR s.rows i)=0:=by
   intro i hi
   have hlen : s.rows.length≤(s.next O (c x)).rows.length:=by unfold BS.next;split <;> simp
   have:=hall i (by omega)
   unfold BS.next at this
   split at this
   ·simp only [nthR_push] at this
    rw [if_pos hi] at this;exact this
   ·exact this
  intro y hy
  rcases List.mem_cons.1 hy with rfl | hy
  ·exact (key h1).2 hall
  ·exact (hs φ hφ).2 h1 y hy
def grL (Q : List Int) : Nat→List Nat
 | 0=>[]
 | k+1=>(nth Q k).toNat :: grL Q k
theorem mem_grL (Q : List Int) (x : Nat) : ∀ k,x ∈ grL Q k ↔ ∃ j,j<k∧(nth Q j).toNat=x
 | 0=>by simp [grL]
 | k+1=>by
  rw [grL,List.mem_cons,mem_grL Q x k]
  constructor
  ·rintro (h | ⟨j,hj,h⟩)
   ·exact ⟨k,by omega,h.symm⟩
   ·exact ⟨j,by omega,h⟩
  ·rintro ⟨j,hj,h⟩
   by_cases e : j=k
   ·subst e;exact .inl h.symm
   ·exact .inr ⟨j,by omega,h⟩
theorem colS_vc {m : Nat} {L : List (List Int)} (h : Rws El m L) (h0 : El 0) (i : Nat) : Vc El L.length (colS L i):=by
 refine ⟨colS_length _ _,fun y hy=>?_⟩
 unfold colS at hy
 obtain ⟨r,hr,rfl⟩:=List.mem_map.1 hy
 by_cases hi : i<m
 ·exact (h r hr).2 _ (nth_mem (by rw [(h r hr).1];exact hi))
 ·have : nth r i=0:=by
   unfold nth
   rw [List.getD_eq_getElem?_getD,List.getElem?_eq_none (by rw [(h r hr).1];omega)];rfl
  rw [this];exact h0
theorem gr_inv (F : Fld O El) {m : Nat} {L : List (List Int)} (hL : Rws El m L) (Q : List Int) : ∀ k,(grTo O L Q k).1.Inv El L.length∧Same O El L.length (colS L) (grL Q k) (grTo O L Q k).1 ∧
  Rk (clV O El L.length (colS L)) (grL Q k) (grTo O L Q k).2.length
 | 0=>⟨⟨⟨fun r hr=>by simp [grTo] at hr,rfl,fun i hi=>by simp [grTo] at hi⟩,fun i hi=>by simp [grTo] at hi,fun j i _ hi=>by simp [grTo] at hi⟩,fun φ _=>⟨fun _ i hi=>by simp [grTo] at hi,fun _ y hy=>by simp [grL] at hy⟩,.nil⟩
 | k+1=>by
  obtain ⟨h1,h2,h3⟩:=gr_inv F hL Q k
  have hc:=colS_vc hL F.zero
  refine ⟨h1.next F (hc _),h2.next F hc h1 _,?_⟩
  have htk:=takes_false F h1 (hc (nth Q k).toNat)
  have hcl : clV O El L.length (colS L) (grL Q k) (nth Q k).toNat ↔ (grTo O L Q k).1.takes O (colS L (nth Q k).toNat)=false:=by
   rw [htk]
   exact ⟨fun h φ hφ h0=>h φ hφ ((h2 φ hφ).2 h0),fun h φ hφ h0=>h φ hφ ((h2 φ hφ).1 h0)⟩
  rw [grL,grTo]
  by_cases ht : (grTo O L Q k).1.takes O (colS L (nth Q k).toNat)=true
  ·rw [if_pos ht]
   simp only [List.length_append,List.length_singleton]
   exact .ind _ (fun h=>by rw [hcl.1 h] at ht;simp at ht) h3
  ·rw [if_neg ht]
   exact .dep _ (hcl.2 (by simpa using ht)) h3
theorem grS_rk (F : Fld O El) {m : Nat} {L : List (List Int)} (hL : Rws El m L) (Q : List Int) : Rk (clV O El L.length (colS L)) (grL Q Q.length) (grS O L Q).length:=(gr_inv F hL Q Q.length).2.2
end

section
section
variable {O : FOps} {El : Int→Prop} {m n : Nat}
theorem Lin.smul (F : Fld O El) {φ : List Int→Int} (h : Lin O El n φ) {s : Int} (hs : El s) : Lin O El n (fun v=>O.mul s (φ v)) :=
 ⟨fun v hv=>F.cl.mul _ _ hs (h.el v hv),
  fun v r x hv hr hx=>by
   show O.mul s (φ (subRow O v x r))=O.add (O.mul s (φ v)) (O.neg (O.mul x (O.mul s (φ r))))
   have h1:=h.el v hv
   have h2:=h.el r hr
   rw [h.sub v r x hv hr hx,F.mul_add s _ _ hs h1 (F.cl.neg _ (F.cl.mul _ _ hx h2)),F.mul_neg hs (F.cl.mul _ _ hx h2),← F.mul_assoc s x _ hs hx h2,F.mul_comm s x hs hx,F.mul_assoc x s _ hx hs h2],
  fun r x hr hx=>by
   show O.mul s (φ (r.map (O.mul x)))=O.mul x (O.mul s (φ r))
   have h2:=h.el r hr
   rw [h.scl r x hr hx,← F.mul_assoc s x _ hs hx h2,F.mul_comm s x hs hx,F.mul_assoc x s _ hx hs h2]⟩
theorem nth_mapRange (g : Nat→Int) (k i : Nat) (hi : i<k) : nth ((List.range k).map g) i=g i:=by
 rw [nth_getElem (by simpa using hi)];simp
theorem Lin.vec {k : Nat} {e : List Int→Int} (he : Lin O El k e) (g : Nat→List Int→Int) (hg : ∀ i,i<k→Lin O El n (g i)) : Lin O El n (fun v=>e ((List.range k).map fun i=>g i v)):=by
 have hv' : ∀ v,Vc El n v→Vc El k ((List.range k).map fun i=>g i v):=fun v hv=>⟨by simp,fun y hy=>by
  obtain ⟨i,hi,rfl⟩:=List.mem_map.1 hy
  exact (hg i (List.mem_range.1 hi)).el v hv⟩
 refine ⟨fun v hv=>he.el _ (hv' v hv),fun v r x hv hr hx=>?_,fun r x hr hx=>?_⟩
 ·show e _=_
  rw [← he.sub _ _ x (hv' v hv) (hv' r hr) hx]
  congr 1
  refine nth_ext (by rw [subRow_length _ _ _ _ (by simp)];simp) fun i hi=>?_
  have hi' : i<k:=by simpa using hi
  rw [nth_subRow O _ x _ i (by simp) (by simpa using hi'),nth_mapRange _ _ _ hi',nth_mapRange _ _ _ hi',nth_mapRange _ _ _ hi']
  exact (hg i hi').sub v r x hv hr hx
 ·show e _=_
  rw [← he.scl _ x (hv' r hr) hx]
  congr 1
  refine nth_ext (by simp) fun i hi=>?_
  have hi' : i<k:=by simpa using hi
  rw [nth_scl O _ x (by simpa using hi'),nth_mapRange _ _ _ hi',nth_mapRange _ _ _ hi']
  exact (hg i hi').scl r x hr hx
def RS (O : FOps) (El : Int→Prop) (m : Nat) (L : List (List Int)) (f : Nat→Int) : Prop:=∃ e,Lin O El L.length e∧∀ x,x<m→f x=e (colS L x)
theorem RS.row (F : Fld O El) {L : List (List Int)} {i : Nat} (hi : i<L.length) : RS O El m L (fun x=>nth (nthR L i) x) :=
 ⟨fun v=>nth v i,Lin.coord F hi,fun x _=>(nth_colS L x i hi).symm⟩
theorem RS.comb (F : Fld O El) {L : List (List Int)} {f g : Nat→Int} (hf : RS O El m L f) (hg : RS O El m L g) {s : Int} (hs : El s) : RS O El m L (fun x=>O.add (f x) (O.neg (O.mul (g x) s))):=by
 obtain ⟨a,ha,ha2⟩:=hf
 obtain ⟨b,hb,hb2⟩:=hg
 exact ⟨_,ha.comb F hb hs,fun x hx=>by show O.add (f x) _=_;rw [ha2 x hx,hb2 x hx]⟩
theorem RS.smul (F : Fld O El) {L : List (List Int)} {f : Nat→Int} (hf : RS O El m L f) {s : Int} (hs : El s) : RS O El m L (fun x=>O.mul s (f x)):=by
 obtain ⟨a,ha,ha2⟩:=hf
 exact ⟨_,ha.smul F hs,fun x hx=>by show O.mul s (f x)=_;rw [ha2 x hx]⟩
theorem RS.congr {L : List (List Int)} {f g : Nat→Int} (hf : RS O El m L f) (h : ∀ x,x<m→g x=f x) : RS O El m L g:=by
 obtain ⟨a,ha,ha2⟩:=hf
 exact ⟨a,ha,fun x hx=>by rw [h x hx,ha2 x hx]⟩
def RSub (O : FOps) (El : Int→Prop) (m : Nat) (A B : List (List Int)) : Prop:=∀ i,i<A.length→RS O El m B (fun x=>nth (nthR A i) x)
theorem RSub.refl (F : Fld O El) (L : List (List Int)) : RSub O El m L L:=fun _ hi=>.row F hi
theorem RSub.rs {A B : List (List Int)} (h : RSub O El m A B) {f : Nat→Int} (hf : RS O El m A f) : RS O El m B f:=by
 obtain ⟨e,he,he2⟩:=hf
 obtain ⟨g,hg⟩ : ∃ g : Nat→List Int→Int,∀ i,i<A.length→Lin O El B.length (g i)∧∀ x,x<m→nth (nthR A i) x=g i (colS B x):=by
  have h2 : ∀ i,∃ g : List Int→Int,i<A.length→Lin O El B.length g∧∀ x,x<m→nth (nthR A i) x=g (colS B x):=fun i=>by
   by_cases hi : i<A.length
   ·obtain ⟨g,h1,h2⟩:=h i hi
    exact ⟨g,fun _=>⟨h1,h2⟩⟩
   ·exact ⟨fun _=>0,fun h=>absurd h hi⟩
  exact ⟨fun i=>Classical.choose (h2 i),fun i hi=>Classical.choose_spec (h2 i) hi⟩
 refine ⟨_,he.vec g fun i hi=>(hg i hi).1,fun x hx=>?_⟩
 rw [he2 x hx]
 congr 1
 refine nth_ext (by simp [colS_length]) fun i hi=>?_
 rw [colS_length] at hi
 rw [nth_mapRange _ _ _ hi,nth_colS A x i hi]
 exact (hg i hi).2 x hx
theorem RSub.trans {A B C : List (List Int)} (h : RSub O El m A B) (h2 : RSub O El m B C) : RSub O El m A C:=fun i hi=>h2.rs (h i hi)
theorem RSub.cl {A B : List (List Int)} (h : RSub O El m A B) {l : List Nat} {x : Nat} (hl : ∀ y ∈ l,y<m) (hx : x<m) (hc : clV O El B.length (colS B) l x) : clV O El A.length (colS A) l x:=by
 intro φ hφ h0
 obtain ⟨e,he,he2⟩:=h.rs (f:=fun x=>φ (colS A x)) ⟨φ,hφ,fun _ _=>rfl⟩
 have e1 : φ (colS A x)=e (colS B x):=he2 x hx
 rw [e1]
 refine hc e he fun y hy=>?_
 rw [← he2 y (hl y hy)]
 exact h0 y hy
structure Piv (L : List (List Int)) (P : List Int) (c : Nat) : Prop where
 le : P.length≤L.length
 lt : ∀ j,j<P.length→0≤nth P j∧nth P j<c
 one : ∀ j i,j<P.length→i<L.length→nth (nthR L i) (nth P j).toNat=if i=j then 1 else 0
 zero : ∀ i x,P.length≤i→i<L.length→x<c→nth (nthR L i) x=0
def sw (t k i : Nat) : Nat:=if i=t then k else if i=k then t else i
theorem sw_lt {t k n i : Nat} (ht : t<n) (hk : k<n) (hi : i<n) : sw t k i<n:=by unfold sw;split;exact hk;split;exact ht;exact hi
theorem nthR_sw {L : List (List Int)} {t k : Nat} (ht : t<L.length) (hk : k<L.length) (i : Nat) : nthR (if k=t then L else swapRow L t k) i=nthR L (sw t k i):=by
 unfold sw swapRow
 split
 ·rename_i e
  subst e
  split
  ·rename_i e;rw [e]
  ·rfl
 ·rename_i hne
  rw [nthR_set _ _ _ _ (by simpa using hk),nthR_set _ _ _ _ ht]
  by_cases h1 : i=t
  ·rw [if_neg (by omega),if_pos h1,if_pos h1]
  ·rw [if_neg h1,if_neg h1]
   by_cases h2 : i=k
   ·rw [if_pos h2,if_pos h2]
   ·rw [if_neg h2,if_neg h2]
theorem nth_norm (F : Fld O El) {L : List (List Int)} (hL : Rws El m L) {t c : Nat} (ht : t<L.length) {i x : Nat} (hx : x<m) :
  nth (nthR (normRow O L t c) i) x=if i=t then O.mul (O.inv (nth (nthR L t) c)) (nth (nthR L t) x) else nth (nthR L i) x:=by
 have hr:=hL.row ht
 have he : El (nth (nthR L t) x):=hr.2 _ (nth_mem (by rw [hr.1];exact hx))
 unfold normRow
 split
 ·rename_i h1
  split
  ·rename_i e;rw [e,h1,F.one_mul _ he]
  ·rfl
 ·rw [nthR_set _ _ _ _ ht]
  split
  ·exact nth_scl O _ _ (by rw [hr.1];exact hx)
  ·rfl
theorem nthR_clear (O : FOps) (t c : Nat) (L : List (List Int)) : ∀ i,i≤L.length→∀ j,nthR (clearTo O t c L i) j=if j<i∧j ≠ t then clearRow O (nthR L t) c (nthR L j) else nthR L j
 | 0,_,j=>by rw [if_neg (by omega)];rfl
 | i+1,hi,j=>by
  have ih:=nthR_clear O t c L i (by omega)
  unfold clearTo
  split
  ·rename_i e
   rw [ih j]
   by_cases h : j<i∧j ≠ t
   ·rw [if_pos h,if_pos ⟨by omega,h.2⟩]
   ·rw [if_neg h,if_neg (by omega)]
  ·rename_i e
   have e1 : nthR (clearTo O t c L i) t=nthR L t:=by rw [ih t,if_neg (by omega)]
   have e2 : nthR (clearTo O t c L i) i=nthR L i:=by rw [ih i,if_neg (by omega)]
   rw [nthR_set _ _ _ _ (by rw [clearTo_length];omega),e1,e2]
   by_cases h : j=i
   ·subst h
    rw [if_pos rfl,if_pos ⟨by omega,e⟩]
   ·rw [if_neg h,ih j]
    by_cases h2 : j<i∧j ≠ t
    ·rw [if_pos h2,if_pos ⟨by omega,h2.2⟩]
    ·rw [if_neg h2,if_neg (by omega)]
theorem nth_clearRow (F : Fld O El) {pv r : List Int} {c x : Nat} (hp : Vc El m pv) (hr : Vc El m r) (hc : c<m) (hx : x<m) :
  nth (clearRow O pv c r) x=O.add (nth r x) (O.neg (O.mul (nth pv x) (nth r c))):=by
 have h1:=hp.at hx
 have h2:=hr.at hx
 have h3:=hr.at hc
 unfold clearRow
 split
 ·rename_i h0
  rw [h0,F.mzero h1,F.nzero,F.add_zero _ h2]
 ·rw [nth_addRow O r _ pv x (by rw [hp.1,hr.1]) (by rw [hr.1];exact hx)]
  split
  ·rename_i h0
   rw [h0,F.zmul h3,F.nzero,F.add_zero _ h2]
  ·rw [F.neg_mul h3 h1,F.mul_comm _ _ h3 h1]
section
variable {L : List (List Int)} {t k c : Nat}
theorem nth_pivotS (F : Fld O El) (hL : Rws El m L) (ht : t<L.length) (hk : k<L.length) (hc : c<m) (h0 : nth (nthR L k) c ≠ 0) {i x : Nat} (hi : i<L.length) (hx : x<m) :
  nth (nthR (pivotS O L t k c) i) x=if i=t then O.mul (O.inv (nth (nthR L k) c)) (nth (nthR L k) x) else
   O.add (nth (nthR L (sw t k i)) x) (O.neg (O.mul (O.mul (O.inv (nth (nthR L k) c)) (nth (nthR L k) x)) (nth (nthR L (sw t k i)) c))):=by
 rw [pivotS_eq]
 obtain ⟨L1,hL1⟩ : ∃ L1,(if k=t then L else swapRow L t k)=L1:=⟨_,rfl⟩
 have hn1 : ∀ i,nthR L1 i=nthR L (sw t k i):=fun i=>by rw [← hL1];exact nthR_sw ht hk i
 have hl1 : L1.length=L.length:=by rw [← hL1];split <;> simp [swapRow_length]
 have hR1 : Rws El m L1:=by
  rw [← hL1]
  split
  ·exact hL
  ·exact hL.swap ht hk
 have hswt : sw t k t=k:=by simp [sw]
 have h01 : nth (nthR L1 t) c ≠ 0:=by rw [hn1,hswt];exact h0
 rw [hL1]
 have hR2 : Rws El m (normRow O L1 t c):=hR1.norm F.cl (by omega) hc h01
 have hN : ∀ {i x : Nat},x<m→nth (nthR (normRow O L1 t c) i) x=if i=t then O.mul (O.inv (nth (nthR L1 t) c)) (nth (nthR L1 t) x) else nth (nthR L1 i) x:=fun hx=>nth_norm F hR1 (by omega) hx
 rw [nthR_clear O t c _ L.length (by rw [normRow_length];omega)]
 by_cases e : i=t
 ·rw [if_neg (by omega),if_pos e,hN hx,if_pos e,hn1,hswt]
 ·rw [if_pos ⟨hi,e⟩,if_neg e,nth_clearRow F (hR2.row (by rw [normRow_length];omega)) (hR2.row (by rw [normRow_length];omega)) hc hx,hN hx,hN hx,hN hc,if_neg e,if_neg e,if_pos rfl,hn1,hn1,hswt]
variable (F : Fld O El) (hL : Rws El m L) (ht : t<L.length) (hk : k<L.length) (hc : c<m) (h0 : nth (nthR L k) c ≠ 0)
include F hL ht hk hc h0
theorem pivotS_sub : RSub O El m (pivotS O L t k c) L:=by
 intro i hi
 rw [pivotS_length] at hi
 have hp : El (nth (nthR L k) c):=Vc.at (hL.row hk) hc
 have hpi:=F.cl.inv _ hp h0
 by_cases e : i=t
 ·exact ((RS.row F hk).smul F hpi).congr fun x hx=>by rw [nth_pivotS F hL ht hk hc h0 hi hx,if_pos e]
 ·have hs:=sw_lt ht hk hi
  exact ((RS.row F hs).comb F ((RS.row F hk).smul F hpi) (s:=nth (nthR L (sw t k i)) c) (Vc.at (hL.row hs) hc)).congr fun x hx=>by rw [nth_pivotS F hL ht hk hc h0 hi hx,if_neg e]
theorem pivotS_sup : RSub O El m L (pivotS O L t k c):=by
 intro i hi
 have hp : El (nth (nthR L k) c):=Vc.at (hL.row hk) hc
 have hpi:=F.cl.inv _ hp h0
 have htB : t<(pivotS O L t k c).length:=by rw [pivotS_length];exact ht
 by_cases e : i=k
 ·refine ((RS.row F htB).smul F hp).congr fun x hx=>?_
  have hx1 : El (nth (nthR L k) x):=Vc.at (hL.row hk) hx
  rw [nth_pivotS F hL ht hk hc h0 ht hx,if_pos rfl,← F.mul_assoc _ _ _ hp hpi hx1,F.mul_inv _ hp h0,F.one_mul _ hx1,e]
 ·have hj : ∃ j,j<L.length∧j ≠ t∧sw t k j=i:=by
   by_cases e2 : i=t
   ·exact ⟨k,hk,by omega,by unfold sw;rw [if_neg (by omega),if_pos rfl,e2]⟩
   ·exact ⟨i,hi,e2,by unfold sw;rw [if_neg e2,if_neg e]⟩
  obtain ⟨j,hj,hjt,hsw⟩:=hj
  have hs : El (nth (nthR L i) c):=Vc.at (hL.row hi) hc
  refine ((RS.row F (i:=j) (by rw [pivotS_length];exact hj)).comb F (RS.row F htB) (s:=O.neg (nth (nthR L i) c)) (F.cl.neg _ hs)).congr fun x hx=>?_
  have hx1 : El (nth (nthR L k) x):=Vc.at (hL.row hk) hx
  have hx2 : El (nth (nthR L i) x):=Vc.at (hL.row hi) hx
  have hy:=F.cl.mul _ _ hpi hx1
  have hq:=F.cl.mul _ _ hy hs
  rw [nth_pivotS F hL ht hk hc h0 ht hx,if_pos rfl,nth_pivotS F hL ht hk hc h0 hj hx,if_neg hjt,hsw,F.mul_neg hy hs,F.neg_neg hq,F.add_assoc _ _ _ hx2 (F.cl.neg _ hq) hq,F.negadd hq,F.add_zero _ hx2]
end
theorem Piv.next (F : Fld O El) {L : List (List Int)} {P : List Int} {c k : Nat} (h : Piv L P c) (hL : Rws El m L) (hc : c<m) (ht : P.length<L.length) (hk : k<L.length) (htk : P.length≤k) (h0 : nth (nthR L k) c ≠ 0) :
  Piv (pivotS O L P.length k c) (P ++ [(c : Int)]) (c+1):=by
 have hp : El (nth (nthR L k) c):=Vc.at (hL.row hk) hc
 have hpi:=F.cl.inv _ hp h0
 have hsw : ∀ i,P.length≤i→i<L.length→P.length≤sw P.length k i∧sw P.length k i<L.length:=fun i h1 h2=>by
  unfold sw;split;omega;split <;> omega
 have hswl : ∀ i,i<P.length→sw P.length k i=i:=fun i h1=>by unfold sw;rw [if_neg (by omega),if_neg (by omega)]
 refine ⟨by rw [pivotS_length,List.length_append];simp;omega,fun j hj=>?_,fun j i hj hi=>?_,fun i x h1 h2 hx=>?_⟩
 ·rw [nth_push]
  rw [List.length_append,List.length_singleton] at hj
  by_cases e : j<P.length
  ·rw [if_pos e];have:=h.lt j e;omega
  ·rw [if_neg e,if_pos (by omega)];omega
 ·rw [List.length_append,List.length_singleton] at hj
  rw [pivotS_length] at hi
  rw [nth_push]
  by_cases e : j<P.length
  ·rw [if_pos e]
   have hb:=h.lt j e
   have hx : (nth P j).toNat<m:=by omega
   have hk0:=h.one j k e hk
   rw [if_neg (by omega)] at hk0
   rw [nth_pivotS F hL ht hk hc h0 hi hx,hk0,F.mzero hpi]
   by_cases e2 : i=P.length
   ·rw [if_pos e2,if_neg (by omega)]
   ·rw [if_neg e2]
    have hsl : sw P.length k i<L.length:=by unfold sw;split;omega;split <;> omega
    rw [F.zmul (Vc.at (hL.row hsl) hc),F.nzero,F.add_zero _ (Vc.at (hL.row hsl) hx),h.one j _ e hsl]
    by_cases e3 : i<P.length
    ·rw [hswl i e3]
    ·have:=(hsw i (by omega) hi).1
     rw [if_neg (by omega),if_neg (by omega)]
  ·have ej : j=P.length:=by omega
   rw [if_neg e,if_pos ej,Int.toNat_natCast,nth_pivotS F hL ht hk hc h0 hi hc,ej]
   by_cases e2 : i=P.length
   ·rw [if_pos e2,if_pos e2,F.mul_comm _ _ hpi hp,F.mul_inv _ hp h0]
   ·rw [if_neg e2,if_neg e2]
    have hsl : sw P.length k i<L.length:=by unfold sw;split;omega;split <;> omega
    have hq : El (nth (nthR L (sw P.length k i)) c):=Vc.at (hL.row hsl) hc
    rw [F.mul_comm _ _ hpi hp,F.mul_inv _ hp h0,F.one_mul _ hq,F.add_neg _ hq]
 ·rw [List.length_append,List.length_singleton] at h1
  rw [pivotS_length] at h2
  have hxm : x<m:=by omega
  have hs:=hsw i (by omega) h2
  have hq : El (nth (nthR L (sw P.length k i)) c):=Vc.at (hL.row hs.2) hc
  rw [nth_pivotS F hL ht hk hc h0 h2 hxm,if_neg (by omega)]
  by_cases e : x=c
  ·subst e
   rw [F.mul_comm _ _ hpi hp,F.mul_inv _ hp h0,F.one_mul _ hq,F.add_neg _ hq]
  ·rw [h.zero _ x hs.1 hs.2 (by omega),h.zero k x htk hk (by omega),F.mzero hpi,F.zmul hq,F.nzero,F.add_zero 0 F.zero]
theorem elim_rws (F : Fld O El) {L : List (List Int)} (hL : Rws El m L) (k : Nat) (hk : k≤m) : Rws El m (elimTo O L k).1 :=
 (elimTo_agr (O':=O) ⟨fun _ _ _ _=>rfl,fun _ _ _ _=>rfl,fun _ _=>rfl,fun _ _ _=>rfl⟩ F.cl hL k hk).2
theorem elim_inv (F : Fld O El) {L : List (List Int)} (hL : Rws El m L) : ∀ k,k≤m→Piv (elimTo O L k).1 (elimTo O L k).2 k∧RSub O El m (elimTo O L k).1 L∧RSub O El m L (elimTo O L k).1
 | 0,_=>⟨⟨Nat.zero_le _,fun j hj=>by simp [elimTo] at hj,fun j i hj=>by simp [elimTo] at hj,fun i x _ _ hx=>by omega⟩,.refl F L,.refl F L⟩
 | k+1,hk=>by
  obtain ⟨h1,h2,h3⟩:=elim_inv F hL k (by omega)
  have hR:=elim_rws F hL k (by omega)
  have hb:=findRow_bd (L:=(elimTo O L k).1) (c:=k) (k:=(elimTo O L k).2.length) h1.le
  by_cases hlt : (elimTo O L k).2.length<(elimTo O L k).1.length
  ·rw [elimTo_next (Lk:=(elimTo O L k).1) (P:=(elimTo O L k).2) rfl hlt]
   split
   ·rename_i hf
    refine ⟨⟨h1.le,fun j hj=>⟨(h1.lt j hj).1,Int.lt_trans (h1.lt j hj).2 (by omega)⟩,h1.one,fun i x hi1 hi2 hx=>?_⟩,h2,h3⟩
    by_cases e : x=k
    ·subst e
     exact findTo_zero _ x ((elimTo O L x).1.length - (elimTo O L x).2.length) _ i hi1 (by show i<findRow _ x _;rw [hf];exact hi2)
    ·exact h1.zero i x hi1 hi2 (by omega)
   ·rename_i hf
    have hfl : findRow (elimTo O L k).1 k (elimTo O L k).2.length<(elimTo O L k).1.length:=by omega
    have hne : nth (nthR (elimTo O L k).1 (findRow (elimTo O L k).1 k (elimTo O L k).2.length)) k ≠ 0:=findTo_stop _ k _ _ (by show findRow _ k _<_;omega)
    exact ⟨h1.next F hR (by omega) hlt hfl hb.1 hne,(pivotS_sub F hR hlt hfl (by omega) hne).trans h2,h3.trans (pivotS_sup F hR hlt hfl (by omega) hne)⟩
  ·have hfull : (elimTo O L k).2.length=L.length:=by have:=elimTo_length O L k;have:=h1.le;omega
   rw [elimTo_full hfull 1]
   have hl:=elimTo_length O L k
   exact ⟨⟨h1.le,fun j hj=>by have:=h1.lt j hj;omega,h1.one,fun i x hi1 hi2 hx=>by omega⟩,h2,h3⟩
theorem Piv.ind (F : Fld O El) {L : List (List Int)} {P : List Int} {c : Nat} (h : Piv L P c) : ∀ k,k≤P.length→Rk (clV O El L.length (colS L)) (grL P k) k
 | 0,_=>.nil
 | k+1,hk=>by
  rw [grL]
  refine .ind _ (fun hc=>?_) (h.ind F k (by omega))
  have hkl:=h.le
  have h1:=hc (fun v=>nth v k) (Lin.coord F (by omega)) fun y hy=>by
   obtain ⟨j,hj,rfl⟩:=(mem_grL P y k).1 hy
   show nth (colS L _) k=0
   rw [nth_colS L _ k (by omega),h.one j k (by omega) (by omega),if_neg (by omega)]
  have h2 : nth (colS L (nth P k).toNat) k=0:=h1
  rw [nth_colS L _ k (by omega),h.one k k (by omega) (by omega),if_pos rfl] at h2
  exact absurd h2 (by decide)
def lessTo (O : FOps) (L : List (List Int)) (P : List Int) (v : List Int) : Nat→List Int
 | 0=>v
 | k+1=>subRow O (lessTo O L P v k) (nth (lessTo O L P v k) k) (colS L (nth P k).toNat)
theorem Piv.less (F : Fld O El) {L : List (List Int)} {P : List Int} {c : Nat} (h : Piv L P c) (hL : Rws El m L) {v : List Int} (hv : Vc El L.length v) {φ : List Int→Int} (hφ : Lin O El L.length φ)
  (h0 : ∀ j,j<P.length→φ (colS L (nth P j).toNat)=0) : ∀ k,k≤P.length→Vc El L.length (lessTo O L P v k)∧φ (lessTo O L P v k)=φ v∧∀ i,i<L.length→nth (lessTo O L P v k) i=if i<k then 0 else nth v i
 | 0,_=>⟨hv,rfl,fun i _=>by rw [if_neg (by omega)];rfl⟩
 | k+1,hk=>by
  obtain ⟨h1,h2,h3⟩:=h.less F hL hv hφ h0 k (by omega)
  have hle:=h.le
  have hcol:=colS_vc hL F.zero (nth P k).toNat
  have hx:=h1.at (i:=k) (by omega)
  refine ⟨h1.sub F hcol hx,?_,fun i hi=>?_⟩
  ·rw [lessTo,hφ.sub _ _ _ h1 hcol hx,h0 k (by omega),F.mzero hx,F.nzero,F.add_zero _ (hφ.el _ h1),h2]
  ·rw [lessTo,nth_subRow O _ _ _ i (by rw [hcol.1,h1.1]) (by rw [h1.1];exact hi),nth_colS L _ i hi,h.one k i (by omega) hi]
   by_cases e : i=k
   ·subst e
    rw [if_pos rfl,F.mone hx,F.add_neg _ hx,if_pos (by omega)]
   ·rw [if_neg e,F.mzero hx,F.nzero,F.add_zero _ (h1.at hi),h3 i hi]
    by_cases e2 : i<k
    ·rw [if_pos e2,if_pos (by omega)]
    ·rw [if_neg e2,if_neg (by omega)]
theorem Piv.all (F : Fld O El) {L : List (List Int)} {P : List Int} (h : Piv L P m) (hL : Rws El m L) {x : Nat} (hx : x<m) : clV O El L.length (colS L) (grL P P.length) x:=by
 intro φ hφ h0
 obtain ⟨h1,h2,h3⟩:=h.less F hL (colS_vc hL F.zero x) hφ (fun j hj=>h0 _ ((mem_grL P _ _).2 ⟨j,hj,rfl⟩)) _ (Nat.le_refl _)
 rw [← h2]
 refine hφ.zero F h1 fun i hi=>?_
 rw [h3 i hi]
 split
 ·rfl
 ·rw [nth_colS L x i hi]
  exact h.zero i x (by omega) hi hx
theorem Rk.map {cl cl' : List Nat→Nat→Prop} (D : Nat→Prop) (f : Nat→Nat) (hc : ∀ l x,(∀ y ∈ l,D y)→D x→(cl l x ↔ cl' (l.map f) (f x))) {l : List Nat} {r : Nat} (h : Rk cl l r) : (∀ y ∈ l,D y)→Rk cl' (l.map f) r:=by
 induction h with
 | nil=>intro _;exact .nil
 | dep x hx _ ih =>
  intro hD
  exact .dep _ ((hc _ _ (fun y hy=>hD y (List.mem_cons.2 (.inr hy))) (hD x (by simp))).1 hx) (ih fun y hy=>hD y (List.mem_cons.2 (.inr hy)))
 | ind x hx _ ih =>
  intro hD
  exact .ind _ (fun h=>hx ((hc _ _ (fun y hy=>hD y (List.mem_cons.2 (.inr hy))) (hD x (by simp))).2 h)) (ih fun y hy=>hD y (List.mem_cons.2 (.inr hy)))
def pickL (Q : List Int) (r : List Int) : List Int:=Q.map fun q=>nth r q.toNat
theorem nth_pickL (Q r : List Int) {i : Nat} (hi : i<Q.length) : nth (pickL Q r) i=nth r (nth Q i).toNat:=by
 rw [nth_getElem (show i<(pickL Q r).length by simpa [pickL] using hi),nth_getElem hi];simp [pickL]
theorem pick_rws {L : List (List Int)} (hL : Rws El n L) {Q : List Int} (hQ : ∀ j,j<Q.length→0≤nth Q j∧nth Q j<n) : Rws El Q.length (L.map (pickL Q)):=by
 intro r hr
 obtain ⟨r0,h0,rfl⟩:=List.mem_map.1 hr
 refine ⟨by simp [pickL],fun x hx=>?_⟩
 obtain ⟨q,hq,rfl⟩:=List.mem_map.1 hx
 obtain ⟨j,hj,rfl⟩:=List.mem_iff_getElem.1 hq
 have:=hQ j hj
 rw [nth_getElem hj] at this
 exact (hL r0 h0).2 _ (nth_mem (by rw [(hL r0 h0).1];omega))
end
end

section
section
variable {O : FOps} {El : Int→Prop} {m n : Nat}
def dotN (O : FOps) (a b : Nat→Int) : Nat→Int
 | 0=>0
 | t+1=>O.add (dotN O a b t) (O.mul (a t) (b t))
theorem dotN_el (F : Fld O El) {a b : Nat→Int} : ∀ t,(∀ p,p<t→El (a p))→(∀ p,p<t→El (b p))→El (dotN O a b t)
 | 0,_,_=>F.zero
 | t+1,ha,hb=>F.cl.add _ _ (dotN_el F t (fun p hp=>ha p (by omega)) fun p hp=>hb p (by omega)) (F.cl.mul _ _ (ha t (by omega)) (hb t (by omega)))
theorem dotN_comm (F : Fld O El) {a b : Nat→Int} : ∀ t,(∀ p,p<t→El (a p))→(∀ p,p<t→El (b p))→dotN O a b t=dotN O b a t
 | 0,_,_=>rfl
 | t+1,ha,hb=>by
  rw [dotN,dotN,dotN_comm F t (fun p hp=>ha p (by omega)) fun p hp=>hb p (by omega),F.mul_comm _ _ (ha t (by omega)) (hb t (by omega))]
theorem dotN_congr {a b a' b' : Nat→Int} : ∀ t,(∀ p,p<t→a p=a' p∧b p=b' p)→dotN O a b t=dotN O a' b' t
 | 0,_=>rfl
 | t+1,h=>by rw [dotN,dotN,dotN_congr t fun p hp=>h p (by omega),(h t (by omega)).1,(h t (by omega)).2]
theorem dotN_zero (F : Fld O El) {a b : Nat→Int} : ∀ t,(∀ p,p<t→O.mul (a p) (b p)=0)→dotN O a b t=0
 | 0,_=>rfl
 | t+1,h=>by rw [dotN,dotN_zero F t fun p hp=>h p (by omega),h t (by omega),F.add_zero 0 F.zero]
theorem dotN_one (F : Fld O El) {a b : Nat→Int} {x : Nat} (hx : El (O.mul (a x) (b x))) : ∀ t,(∀ p,p<t→p ≠ x→O.mul (a p) (b p)=0)→dotN O a b t=if x<t then O.mul (a x) (b x) else 0
 | 0,_=>rfl
 | t+1,h=>by
  rw [dotN,dotN_one F hx t fun p hp=>h p (by omega)]
  by_cases e : t=x
  ·subst e
   rw [if_neg (by omega),if_pos (by omega),F.zadd hx]
  ·rw [h t (by omega) e]
   by_cases e2 : x<t
   ·rw [if_pos e2,if_pos (by omega),F.add_zero _ hx]
   ·rw [if_neg e2,if_neg (by omega),F.add_zero 0 F.zero]
theorem dotN_two (F : Fld O El) {a b : Nat→Int} {x y : Nat} (hxy : x ≠ y) (hx : El (O.mul (a x) (b x))) (hy : El (O.mul (a y) (b y))) : ∀ t,(∀ p,p<t→p ≠ x→p ≠ y→O.mul (a p) (b p)=0) →
  dotN O a b t=O.add (if x<t then O.mul (a x) (b x) else 0) (if y<t then O.mul (a y) (b y) else 0)
 | 0,_=>by rw [if_neg (by omega),if_neg (by omega)];exact (F.add_zero 0 F.zero).symm
 | t+1,h=>by
  rw [dotN,dotN_two F hxy hx hy t fun p hp=>h p (by omega)]
  by_cases e : t=x
  ·subst e
   rw [if_neg (Nat.lt_irrefl t),if_pos (Nat.lt_succ_self t)]
   by_cases e2 : y<t
   ·rw [if_pos e2,if_pos (show y<t+1 by omega),F.zadd hy,F.add_comm _ _ hy hx]
   ·rw [if_neg e2,if_neg (show ¬ y<t+1 by omega),F.zadd F.zero,F.zadd hx,F.add_zero _ hx]
  ·by_cases e1 : t=y
   ·subst e1
    by_cases e2 : x<t
    ·rw [if_pos e2,if_neg (by omega),if_pos (by omega),if_pos (by omega),F.add_zero _ hx]
    ·rw [if_neg e2,if_neg (by omega),if_neg (by omega),if_pos (by omega),F.add_zero 0 F.zero]
   ·rw [h t (by omega) e e1]
    by_cases e2 : x<t
    ·by_cases e3 : y<t
     ·rw [if_pos e2,if_pos e3,if_pos (by omega),if_pos (by omega),F.add_zero _ (F.cl.add _ _ hx hy)]
     ·rw [if_pos e2,if_neg e3,if_pos (by omega),if_neg (by omega),F.add_zero _ (F.cl.add _ _ hx F.zero)]
    ·by_cases e3 : y<t
     ·rw [if_neg e2,if_pos e3,if_neg (by omega),if_pos (by omega),F.add_zero _ (F.cl.add _ _ F.zero hy)]
     ·rw [if_neg e2,if_neg e3,if_neg (by omega),if_neg (by omega),F.add_zero _ (F.cl.add _ _ F.zero F.zero)]
def colN (O : FOps) (r : Nat→Int) (K : List (List Int)) : Nat→List Int
 | 0=>List.replicate K.length 0
 | t+1=>subRow O (colN O r K t) (O.neg (r t)) (colS K t)
theorem colN_vc (F : Fld O El) {r : Nat→Int} {K : List (List Int)} (hK : Rws El m K) : ∀ t,(∀ p,p<t→El (r p))→Vc El K.length (colN O r K t)
 | 0,_=>⟨by simp [colN],fun y hy=>by
  have:=List.eq_of_mem_replicate hy
  rw [this];exact F.zero⟩
 | t+1,hr=>(colN_vc F hK t fun p hp=>hr p (by omega)).sub F (colS_vc hK F.zero t) (F.cl.neg _ (hr t (by omega)))
theorem colN_at (F : Fld O El) {r : Nat→Int} {K : List (List Int)} (hK : Rws El m K) {j : Nat} (hj : j<K.length) : ∀ t,t≤m→(∀ p,p<t→El (r p))→nth (colN O r K t) j=dotN O r (fun p=>nth (nthR K j) p) t
 | 0,_,_=>by simp [colN,dotN,nth,List.getD_eq_getElem?_getD,List.getElem?_replicate,hj]
 | t+1,ht,hr=>by
  have hv:=colN_vc F hK t fun p hp=>hr p (by omega)
  have hc:=colS_vc hK F.zero t
  have hrt:=hr t (by omega)
  have hx : El (nth (nthR K j) t):=Vc.at (hK.row hj) (by omega)
  rw [colN,nth_subRow O _ _ _ j (by rw [hc.1,hv.1]) (by rw [hv.1];exact hj),colN_at F hK hj t (by omega) fun p hp=>hr p (by omega),nth_colS K t j hj,F.neg_mul hrt hx,F.neg_neg (F.cl.mul _ _ hrt hx)]
  rfl
theorem colN_form (F : Fld O El) {r : Nat→Int} {K : List (List Int)} (hK : Rws El m K) {φ : List Int→Int} (hφ : Lin O El K.length φ) : ∀ t,(∀ p,p<t→El (r p))→φ (colN O r K t)=dotN O r (fun p=>φ (colS K p)) t
 | 0,_=>hφ.zero F (colN_vc F hK 0 fun p hp=>by omega) fun i hi=>by simp [colN,nth,List.getD_eq_getElem?_getD,List.getElem?_replicate,hi]
 | t+1,hr=>by
  have hv:=colN_vc F hK t fun p hp=>hr p (by omega)
  have hc:=colS_vc hK F.zero t
  have hrt:=hr t (by omega)
  have hx:=hφ.el _ hc
  rw [colN,hφ.sub _ _ _ hv hc (F.cl.neg _ hrt),colN_form F hK hφ t fun p hp=>hr p (by omega),F.neg_mul hrt hx,F.neg_neg (F.cl.mul _ _ hrt hx)]
  rfl
theorem form_dot (F : Fld O El) {r : Nat→Int} {K : List (List Int)} (hK : Rws El m K) {φ : List Int→Int} (hφ : Lin O El K.length φ) (hr : ∀ p,p<m→El (r p)) (h : ∀ j,j<K.length→dotN O r (fun p=>nth (nthR K j) p) m=0) :
  dotN O r (fun p=>φ (colS K p)) m=0:=by
 rw [← colN_form F hK hφ m hr]
 exact hφ.zero F (colN_vc F hK m hr) fun i hi=>by rw [colN_at F hK hi m (Nat.le_refl _) hr];exact h i hi
def Orth (O : FOps) (m : Nat) (G K : List (List Int)) : Prop:=∀ i j,i<G.length→j<K.length→dotN O (fun p=>nth (nthR G i) p) (fun p=>nth (nthR K j) p) m=0
variable {G K : List (List Int)}
theorem Orth.symm (F : Fld O El) (hG : Rws El m G) (hK : Rws El m K) (h : Orth O m G K) : Orth O m K G:=fun i j hi hj=>by
 rw [dotN_comm F m (fun p hp=>Vc.at (hK.row hi) hp) fun p hp=>Vc.at (hG.row hj) hp]
 exact h j i hj hi
theorem Orth.forms (F : Fld O El) (hG : Rws El m G) (hK : Rws El m K) (h : Orth O m G K) {φ ψ : List Int→Int} (hφ : Lin O El K.length φ) (hψ : Lin O El G.length ψ) :
  dotN O (fun p=>φ (colS K p)) (fun p=>ψ (colS G p)) m=0:=by
 have hcφ : ∀ p,p<m→El (φ (colS K p)):=fun p _=>hφ.el _ (colS_vc hK F.zero p)
 refine form_dot F hG hψ hcφ fun i hi=>?_
 rw [dotN_comm F m hcφ fun p hp=>Vc.at (hG.row hi) hp]
 exact form_dot F hK hφ (fun p hp=>Vc.at (hG.row hi) hp) fun j hj=>h i j hi hj
theorem Orth.cl (F : Fld O El) (hG : Rws El m G) (hK : Rws El m K) (h : Orth O m G K) {A B : List Nat} {x : Nat} (hx : x<m) (hAB : ∀ p,p<m→p ≠ x→p ∈ A∨p ∈ B) (hn : ¬ clV O El G.length (colS G) A x) :
  clV O El K.length (colS K) B x:=by
 intro φ hφ h0
 apply Classical.byContradiction
 intro hne
 apply hn
 intro ψ hψ hA
 have hd:=h.forms F hG hK hφ hψ
 have e1:=hφ.el _ (colS_vc hK F.zero x)
 have e2:=hψ.el _ (colS_vc hG F.zero x)
 rw [dotN_one F (x:=x) (F.cl.mul _ _ e1 e2) m fun p hp hpx=>?_,if_pos hx] at hd
 ·exact F.mul_ne e1 e2 hne hd
 ·rcases hAB p hp hpx with h1 | h1
  ·show O.mul (φ (colS K p)) (ψ (colS G p))=0
   rw [hA p h1,F.mzero (hφ.el _ (colS_vc hK F.zero p))]
  ·show O.mul (φ (colS K p)) (ψ (colS G p))=0
   rw [h0 p h1,F.zmul (hψ.el _ (colS_vc hG F.zero p))]
end
end

section
open Go.RowKit
def bitsTo (x : Nat) : Nat→List Int
 | 0=>[]
 | k+1=>if x.testBit k=true then bitsTo x k ++ [(k : Int)] else bitsTo x k
theorem bitsTo_len (x : Nat) : ∀ k,(bitsTo x k).length≤k
 | 0=>Nat.le_refl _
 | k+1=>by have:=bitsTo_len x k;unfold bitsTo;split <;> simp <;> omega
theorem testBit_div (x i : Nat) : x.testBit i=decide (x / 2 ^ i % 2=1):=by
 rw [Nat.testBit,Nat.shiftRight_eq_div_pow,Nat.one_and_eq_mod_two]
 rcases Nat.mod_two_eq_zero_or_one (x / 2 ^ i) with h | h <;> simp [h]
theorem nth_bits_lt (x : Nat) : ∀ k j,j<(bitsTo x k).length→0≤nth (bitsTo x k) j∧nth (bitsTo x k) j<k
 | 0,j,h=>by simp [bitsTo] at h
 | k+1,j,h=>by
  unfold bitsTo at h ⊢
  split
  ·rename_i ht
   rw [if_pos ht] at h
   simp only [List.length_append,List.length_singleton] at h
   by_cases hj : j<(bitsTo x k).length
   ·have:=nth_bits_lt x k j hj
    have e : nth (bitsTo x k ++ [(k : Int)]) j=nth (bitsTo x k) j:=by simp only [nth,List.getD_eq_getElem?_getD];rw [List.getElem?_append_left hj]
    rw [e];omega
   ·obtain rfl : j=(bitsTo x k).length:=by omega
    have e : nth (bitsTo x k ++ [(k : Int)]) (bitsTo x k).length=k:=by simp [nth]
    rw [e];omega
  ·rename_i ht
   rw [if_neg ht] at h
   have:=nth_bits_lt x k j h
   omega
theorem okTo_append {N : Int} {l : List Int} {z : Int} {k : Nat} (hk : k≤l.length) : okTo N (l ++ [z]) k=okTo N l k:=by
 unfold okTo
 have key : ∀ i,i ∈ List.range k→okAt N (l ++ [z]) i=okAt N l i:=fun i hi=>by
  have:=List.mem_range.1 hi
  have e : ∀ j,j<l.length→nth (l ++ [z]) j=nth l j:=fun j hj=>by simp only [nth,List.getD_eq_getElem?_getD];rw [List.getElem?_append_left hj]
  unfold okAt
  rw [e i (by omega),e (i - 1) (by omega)]
 rw [Bool.eq_iff_iff,List.all_eq_true,List.all_eq_true]
 exact ⟨fun h i hi=>by rw [← key i hi];exact h i hi,fun h i hi=>by rw [key i hi];exact h i hi⟩
theorem okAt_mono {N N' : Int} (hN : N≤N') {l : List Int} {k : Nat} (h : okAt N l k=true) : okAt N' l k=true:=by
 unfold okAt at *
 simp only [Bool.and_eq_true,Bool.or_eq_true,decide_eq_true_eq,beq_iff_eq] at *
 exact ⟨⟨h.1.1,by omega⟩,h.2⟩
theorem okSet_mono {N N' : Int} (hN : N≤N') {l : List Int} (h : okSet N l=true) : okSet N' l=true:=by
 unfold okSet okTo at *
 rw [List.all_eq_true] at *
 exact fun i hi=>okAt_mono hN (h i hi)
theorem okSet_bits (x : Nat) : ∀ k : Nat,okSet k (bitsTo x k)=true
 | 0=>rfl
 | k+1=>by
  have ih:=okSet_mono (N':=((k+1 : Nat) : Int)) (by omega) (okSet_bits x k)
  unfold bitsTo
  split
  ·unfold okSet
   rw [List.length_append,List.length_singleton]
   refine okTo_succ (by rw [okTo_append (Nat.le_refl _)];exact ih) ?_
   have e : nth (bitsTo x k ++ [(k : Int)]) (bitsTo x k).length=k:=by simp [nth]
   unfold okAt
   rw [e]
   by_cases h0 : (bitsTo x k).length=0
   ·simp [h0];omega
   ·have h1:=(nth_bits_lt x k ((bitsTo x k).length - 1) (by omega)).2
    have e2 : nth (bitsTo x k ++ [(k : Int)]) ((bitsTo x k).length - 1)=nth (bitsTo x k) ((bitsTo x k).length - 1):=by simp only [nth,List.getD_eq_getElem?_getD];rw [List.getElem?_append_left (by omega)]
    rw [e2]
    simp [h1];omega
  ·exact ih
end

section
open Go.RowKit
def cplU (x : Nat) : Nat:=18446744073709551615 ^^^ x
theorem cplU_test (x i : Nat) (hi : i<64) : (cplU x).testBit i = !x.testBit i:=by
 have h : (18446744073709551615 : Nat).testBit i=true:=by
  have:=Nat.testBit_two_pow_sub_one 64 i
  rw [show (2 : Nat) ^ 64 - 1=18446744073709551615 by decide] at this
  rw [this];simp [hi]
 rw [cplU,Nat.testBit_xor,h];simp
def dimS (O : FOps) (L : List (List Int)) (N x : Nat) : Int:=(grS O L (bitsTo x N)).length+(grS O L (bitsTo (cplU x) N)).length - L.length
end

section
open Go.RowKit
def maskTo (Q : List Int) : Nat→Nat
 | 0=>0
 | k+1=>maskTo Q k ||| 2 ^ (nth Q k).toNat
def maskS (Q : List Int) : Nat:=maskTo Q Q.length
theorem maskTo_lt {Q : List Int} : ∀ k,(∀ j,j<k→0≤nth Q j∧nth Q j<64)→maskTo Q k<18446744073709551616
 | 0,_=>by show (0 : Nat)<18446744073709551616;omega
 | k+1,h=>by
  have ih:=maskTo_lt k fun j hj=>h j (by omega)
  have hk:=h k (by omega)
  have : 2 ^ (nth Q k).toNat<2 ^ 64:=Nat.pow_lt_pow_right (by omega) (by omega)
  exact Nat.or_lt_two_pow (n:=64) ih this
def DimPost (P M : Int) (mod : List Int) (N : Int) (L : List (List Int)) (Q : List Int) (w : World) (e : Ending) (w' : World) : Prop :=
 Below w.heap.size w w'∧(
  (codeE P M mod N L ≠ 0∧e = .returned (.tuple #[.int .i64 0,.int .i64 (codeE P M mod N L)])) ∨
  (codeE P M mod N L=0∧okSet N Q=false∧e = .returned (.tuple #[.int .i64 0,.int .i64 5])) ∨
  (codeE P M mod N L=0∧okSet N Q=true∧e = .returned (.tuple #[.int .i64 (dimS (tblOf P M.toNat mod).ops L N.toNat (maskS Q)),.int .i64 0])))
end

section
def sortL (l : List Int) : List Int:=l.mergeSort fun x y=>decide (x≤y)
theorem sortL_perm (l : List Int) : (sortL l).Perm l:=List.mergeSort_perm l _
theorem sortL_len (l : List Int) : (sortL l).length=l.length:=(sortL_perm l).length_eq
theorem sortL_pair (l : List Int) : (sortL l).Pairwise fun x y=>x≤y:=by
 have h:=List.pairwise_mergeSort (le:=fun x y : Int=>decide (x≤y)) (fun a b c h1 h2=>by simp at *;omega) (fun a b=>by simp;omega) l
 exact h.imp fun h=>by simpa using h
theorem pair_unique : ∀ {l l' : List Int},l.Pairwise (fun x y=>x≤y)→l'.Pairwise (fun x y=>x≤y)→l.Perm l'→l=l'
 | [],l',_,_,h=>by rw [List.nil_perm] at h;exact h.symm
 | x :: l,[],_,_,h=>by rw [List.perm_nil] at h;exact h
 | x :: l,y :: l',h1,h2,h=>by
  rw [List.pairwise_cons] at h1 h2
  have hx : x ∈ y :: l':=h.subset (List.mem_cons_self ..)
  have hy : y ∈ x :: l:=h.symm.subset (List.mem_cons_self ..)
  have e : x=y:=by
   rcases List.mem_cons.1 hx with e | hx
   ·exact e
   ·rcases List.mem_cons.1 hy with e | hy
    ·exact e.symm
    ·have:=h1.1 y hy
     have:=h2.1 x hx
     omega
  subst e
  rw [pair_unique h1.2 h2.2 (List.Perm.cons_inv h)]
theorem sortL_unique {l l' : List Int} (h : l'.Pairwise fun x y=>x≤y) (hp : l'.Perm l) : l'=sortL l:=pair_unique h (sortL_pair l) (hp.trans (sortL_perm l).symm)
theorem nth_inj_nodup {l : List Int} (h : ∀ i j,i<j→j<l.length→nth l i ≠ nth l j) : l.Nodup:=by
 unfold List.Nodup
 rw [List.pairwise_iff_getElem]
 intro i j hi hj hij
 have:=h i j hij hj
 rwa [nth_getElem hi,nth_getElem hj] at this
end

section
open Go.RowKit Go.Shelf Go.Sort
set_option maxHeartbeats 1000000 in
theorem insSort0_any (a : Option Addr) (c : Nat) (w : World) : Calls Tryz.prog 227 #[.slice a 0 c,.int .i64 0,.int .i64 0] w fun e w'=>e = .returned (.tuple #[])∧w'=w:=by
 go_enter Tryz.func227,Tryz.ntmps227
 go_wp2_with fail
 refine wp_loop_rounds 1 ?_
 rw [rounds_succ]
 go_wp2_with fail
 go_end0
 exact ⟨rfl,rfl⟩
set_option maxHeartbeats 2000000 in
set_option maxRecDepth 100000 in
theorem pdq0_any (a : Option Addr) (c : Nat) (w : World) : Calls Tryz.prog 203 #[.slice a 0 c,.int .i64 0,.int .i64 0,.int .i64 0] w fun e w'=>e = .returned (.tuple #[])∧w'=w:=by
 go_enter Tryz.func203,Tryz.ntmps203
 go_wp2_with fail
 refine wp_loop_rounds 1 ?_
 rw [rounds_succ]
 go_wp2_with fail
 refine (insSort0_any a c w).mono ?_
 rintro e w' ⟨rfl,rfl⟩
 go_wp2_with fail
 (try simp only [Exit.inBlock,Exit.then]);refine bodyPost_ret (results_none rfl _ _ _) rfl ?_
 exact ⟨rfl,rfl⟩
theorem bitsLen0_any (w : World) : Calls Tryz.prog 204 #[.int .u64 0] w fun e w'=>e = .returned (.int .i64 0)∧w'=w :=
 calls_of_every_depth fun D=>AnyS.bits_LenIn { layS with } D 0 w (by omega) (by omega)
set_option maxHeartbeats 2000000 in
theorem sort0_any (a : Option Addr) (c : Nat) (w : World) : Calls Tryz.prog 164 #[.slice a 0 c] w fun e w'=>e = .returned (.tuple #[])∧w'=w:=by
 go_enter Tryz.func164,Tryz.ntmps164
 go_wp2_with fail
 refine (bitsLen0_any w).mono ?_
 rintro e w' ⟨rfl,rfl⟩
 go_wp2_with fail
 refine (pdq0_any a c w').mono ?_
 rintro e w' ⟨rfl,rfl⟩
 go_wp2_with fail
 go_end0
 exact ⟨rfl,rfl⟩
theorem sort_any (B : Nat) (a : Option Addr) (n c : Nat) (l : List Int) (w : World) (hown : w.ownsRow B 3 1 (.slice a n c) n (l.map (Value.int .i64))) (hB : B≤w.heap.size) (hn : n≤1000000) :
  Calls Tryz.prog 164 #[.slice a n c] w fun e w'=>e = .returned (.tuple #[])∧w'.ownsRow B 3 1 (.slice a n c) n ((sortL l).map (Value.int .i64))∧w.grownBy w' (Value.slice a n c).ownBlock∧Below B w w':=by
 have hl : l.length=n:=by simpa using own_len hown
 have hown':=hown
 rcases hown.2 with ⟨hv,hz⟩ | ⟨g,cap,cur,hv,hbase,hb,h1,h2,h3,h4⟩
 ·cases hv
  have hl0 : l=[]:=List.eq_nil_of_length_eq_zero hl
  subst hl0
  refine (sort0_any none 0 w).mono ?_
  rintro e w' ⟨rfl,rfl⟩
  exact ⟨rfl,by simpa [sortL] using hown',⟨rfl,rfl,rfl,Nat.le_refl _,fun k _ _=>rfl⟩,Below.refl _ _⟩
 ·cases hv
  subst hl
  have hH:=holds_of_blockI (ss:=l) hb (by simpa using h4)
  have hgl : g<w.heap.size:=(Array.getElem?_eq_some_iff.1 hb).1
  refine (Any.slices_Sort_int layS g 0 c l w hH hgl (by omega)).mono ?_
  rintro e w' ⟨rfl,nn,os,rfl⟩
  have hgr:=grownBy_sortedI (w:=w) (g:=g) (n:=nn) (os:=os) (l.mergeSort fun x y=>decide (x≤y)).toArray
  exact ⟨rfl,ownsRow_sortedI (by simp) hbase hb h1 h2 h3,hgr,(Below.refl B w).grown hgr hB (fun j hj=>by cases hj;exact hbase)⟩
set_option maxHeartbeats 2000000 in
set_option maxRecDepth 100000 in
theorem sorted_any (Bs : Nat) (a : Option Addr) (len cap : Nat) (zs : List Int) (hlen : len≤1000000) (w : World) (hBs : Bs<w.heap.size) (hc : w.cell? ⟨Bs,0,none⟩=some (.slice a len cap)) (hI : Ints w a len zs) :
  Calls Tryz.prog 201 #[.func (.func 226) #[] #[.pointer (some ⟨Bs,0,none⟩)]] w fun e W' =>
   ∃ a2 c2,e = .returned (.slice a2 len c2)∧W'.ownsRow w.heap.size 3 1 (.slice a2 len c2) len ((sortL zs).map (Value.int .i64))∧Below w.heap.size w W':=by
 go_enter Tryz.func201,Tryz.ntmps201
 go_wp2_with fail
 refine (collect_any Bs a len cap zs hlen w hBs hc hI).mono ?_
 rintro e w1 ⟨v,rfl,hown,hb⟩
 obtain ⟨a2,c2,rfl,_⟩:=Pl.own hown
 have HS:=Lib.hid (sort_any w.heap.size a2 len c2 zs w1 hown hb.size hlen)
 clear hown
 go_wp2_with fail
 refine HS.out.mono ?_
 rintro e w2 ⟨rfl,hown2,_,hb2⟩
 go_wp2_with fail
 go_ret
 exact ⟨a2,c2,rfl,hown2,hb.trans hb2⟩
end

section
open Go.RowKit
end

section
open Go.RowKit
end

section
open Go.RowKit
end

section
open Go.RowKit
end

end Go.Proofs.YtcflcogbpnmjeaaGreat
