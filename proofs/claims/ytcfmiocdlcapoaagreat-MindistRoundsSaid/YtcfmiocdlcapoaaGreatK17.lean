import Derived.Test.YtcfmiocdlcapoaaGreatK4
import Derived.Test.YtcfmiocdlcapoaaGreatK12
import Derived.Test.YtcfmiocdlcapoaaGreatK7
import Derived.Test.YtcfmiocdlcapoaaGreatK9
import Derived.Test.YtcfmiocdlcapoaaGreatK16
namespace Go.Proofs.YtcfmiocdlcapoaaGreat
set_option linter.unusedVariables false
set_option linter.unusedSimpArgs false
set_option linter.unusedSectionVars false
set_option maxRecDepth 100000
open Go.RowKit
section
namespace cK
variable {O : aQ} {El : Int->Prop} (F : cK O El)
include F
theorem Aj {x : Int} (hx : El x) : O.add 0 x=x:=by rw [F.add_comm _ _ F.zero hx,F.add_zero x hx]
theorem xK {x : Int} (hx : El x) : O.add (O.neg x) x=0:=by rw [F.add_comm _ _ (F.cl.neg x hx) hx,F.add_neg x hx]
theorem J2 {x y : Int} (hx : El x) (hy : El y) : O.add (O.neg x) (O.add x y)=y:=by
 rw [<- F.add_assoc _ _ _ (F.cl.neg x hx) hx hy,F.xK hx,F.Aj hy]
theorem cancel {x y z : Int} (hx : El x) (hy : El y) (hz : El z) (h : O.add x y=O.add x z) : y=z:=by
 rw [<- F.J2 hx hy,h,F.J2 hx hz]
theorem dA {x : Int} (hx : El x) : O.mul x 0=0:=by
 have h0:=F.cl.mul x 0 hx F.zero
 refine F.cancel h0 h0 F.zero ?_
 rw [<- F.mul_add x 0 0 hx F.zero F.zero,F.add_zero 0 F.zero,F.add_zero _ h0]
theorem mO {x : Int} (hx : El x) : O.mul 0 x=0:=by rw [F.mul_comm _ _ F.zero hx,F.dA hx]
theorem je {x : Int} (hx : El x) : O.mul x 1=x:=by rw [F.mul_comm _ _ hx F.one,F.one_mul x hx]
theorem oz {x y : Int} (hx : El x) (hy : El y) (h : O.add x y=0) : y=O.neg x :=
 F.cancel hx hy (F.cl.neg x hx) (by rw [h,F.add_neg x hx])
theorem gF : O.neg 0=0:=(F.oz F.zero F.zero (F.add_zero 0 F.zero)).symm
theorem mul_neg {x y : Int} (hx : El x) (hy : El y) : O.mul x (O.neg y)=O.neg (O.mul x y):=by
 have hn:=F.cl.neg y hy
 refine F.oz (F.cl.mul x y hx hy) (F.cl.mul x _ hx hn) ?_
 rw [<- F.mul_add x y _ hx hy hn,F.add_neg y hy,F.dA hx]
theorem neg_mul {x y : Int} (hx : El x) (hy : El y) : O.mul (O.neg x) y=O.neg (O.mul x y):=by
 rw [F.mul_comm _ _ (F.cl.neg x hx) hy,F.mul_neg hy hx,F.mul_comm _ _ hy hx]
theorem ET {a b c d : Int} (ha : El a) (hb : El b) (hc : El c) (hd : El d) : O.add (O.add a b) (O.add c d)=O.add (O.add a c) (O.add b d):=by
 rw [F.add_assoc a b _ ha hb (F.cl.add c d hc hd),F.add_assoc a c _ ha hc (F.cl.add b d hb hd),<- F.add_assoc b c d hb hc hd,F.add_comm b c hb hc,F.add_assoc c b d hc hb hd]
theorem neg_add {x y : Int} (hx : El x) (hy : El y) : O.neg (O.add x y)=O.add (O.neg x) (O.neg y):=by
 have hnx:=F.cl.neg x hx
 have hny:=F.cl.neg y hy
 refine (F.oz (F.cl.add x y hx hy) (F.cl.add _ _ hnx hny) ?_).symm
 rw [F.ET hx hy hnx hny,F.add_neg x hx,F.add_neg y hy,F.add_zero 0 F.zero]
theorem neg_neg {x : Int} (hx : El x) : O.neg (O.neg x)=x:=(F.oz (F.cl.neg x hx) hx (F.xK hx)).symm
theorem tQ {x y : Int} (hx : El x) (hy : El y) (h0 : x ≠ 0) (h : O.mul x y=0) : y=0:=by
 have hi:=F.cl.inv x hx h0
 rw [<- F.one_mul y hy,<- F.mul_inv x hx h0,F.mul_comm x _ hx hi,F.mul_assoc _ x y hi hx hy,h,F.dA hi]
theorem comb {A B x A' B' R : Int} (hA : El A) (hB : El B) (hx : El x) (hA' : El A') (hB' : El B') (hR : El R) :
  O.add (O.add A (O.neg (O.mul x B))) (O.neg (O.mul (O.add A' (O.neg (O.mul x B'))) R))=O.add (O.add A (O.neg (O.mul A' R))) (O.neg (O.mul x (O.add B (O.neg (O.mul B' R))))):=by
 have m:=F.cl.mul
 have n:=F.cl.neg
 have h1:=m x B hx hB
 have h2:=m A' R hA' hR
 have hxB:=m x B' hx hB'
 have h3:=m _ R hxB hR
 have hBR:=m B' R hB' hR
 have e1 : O.mul (O.add A' (O.neg (O.mul x B'))) R=O.add (O.mul A' R) (O.neg (O.mul (O.mul x B') R)):=by
  rw [F.mul_comm _ R (F.cl.add _ _ hA' (n _ hxB)) hR,F.mul_add R _ _ hR hA' (n _ hxB),F.mul_comm R A' hR hA',F.mul_comm R _ hR (n _ hxB),F.neg_mul hxB hR]
 have e2 : O.mul x (O.add B (O.neg (O.mul B' R)))=O.add (O.mul x B) (O.neg (O.mul (O.mul x B') R)):=by
  rw [F.mul_add x _ _ hx hB (n _ hBR),F.mul_neg hx hBR,F.mul_assoc x B' R hx hB' hR]
 rw [e1,e2,F.neg_add h2 (n _ h3),F.neg_add h1 (n _ h3),F.neg_neg h3,F.ET hA (n _ h1) (n _ h2) h3,F.ET hA (n _ h2) (n _ h1) h3]
end cK
def Vc (El : Int->Prop) (n : Nat) (v : Lz) : Prop:=v.length=n/\∀y ∈ v,El y
theorem Vc.at {El : Int->Prop} {n : Nat} {v : Lz} (h : Vc El n v) {i : Nat} (hi : i<n) : El (nth v i):=h.2 _ (aN (by rw [h.1];exact hi))
theorem Vc.sub {O : aQ} {El : Int->Prop} (F : cK O El) {n : Nat} {v r : Lz} {x : Int} (hv : Vc El n v) (hr : Vc El n r) (hx : El x) : Vc El n (dP O v x r) :=
 ⟨by rw [fc _ _ _ _ (by rw [hr.1,hv.1])];exact hv.1,vn F.cl hv.2 hr.2 hx⟩
theorem Vc.Cr {O : aQ} {El : Int->Prop} (F : cK O El) {n : Nat} {r : Lz} {x : Int} (hr : Vc El n r) (hx : El x) : Vc El n (r.map (O.mul x)) :=
 ⟨by rw [List.length_map];exact hr.1,λy hy=>by
  obtain ⟨z,hz,rfl⟩:=List.mem_map.1 hy
  exact F.cl.mul _ _ hx (hr.2 z hz)⟩
structure kc (O : aQ) (El : Int->Prop) (n : Nat) (φ : Lz->Int) : Prop where
 el : ∀v,Vc El n v->El (φ v)
 sub : ∀v r x,Vc El n v->Vc El n r->El x->φ (dP O v x r)=O.add (φ v) (O.neg (O.mul x (φ r)))
 Cr : ∀r x,Vc El n r->El x->φ (r.map (O.mul x))=O.mul x (φ r)
variable {O : aQ} {El : Int->Prop} {n : Nat}
theorem iK (O : aQ) (r : Lz) (x : Int) {i : Nat} (hi : i<r.length) : nth (r.map (O.mul x)) i=O.mul x (nth r i):=by
 rw [ai (by simpa using hi),ai hi];simp
theorem kc.zD (F : cK O El) {i : Nat} (hi : i<n) : kc O El n (λv=>nth v i) :=
 ⟨λv hv=>hv.at hi,λv r x hv hr hx=>e8 O v x r i (by rw [hr.1,hv.1]) (by rw [hv.1];exact hi),λr x hr hx=>iK O r x (by rw [hr.1];exact hi)⟩
theorem kc.congr (F : cK O El) {φ ψ : Lz->Int} (h : kc O El n φ) (e : ∀v,Vc El n v->ψ v=φ v) : kc O El n ψ :=
 ⟨λv hv=>by rw [e v hv];exact h.el v hv,λv r x hv hr hx=>by rw [e _ (hv.sub F hr hx),e v hv,e r hr];exact h.sub v r x hv hr hx,
  λr x hr hx=>by rw [e _ (hr.Cr F hx),e r hr];exact h.Cr r x hr hx⟩
theorem kc.comb (F : cK O El) {φ ψ : Lz->Int} (h : kc O El n φ) (g : kc O El n ψ) {s : Int} (hs : El s) : kc O El n (λv=>O.add (φ v) (O.neg (O.mul (ψ v) s))) :=
 ⟨λv hv=>F.cl.add _ _ (h.el v hv) (F.cl.neg _ (F.cl.mul _ _ (g.el v hv) hs)),
  λv r x hv hr hx=>by
   show O.add (φ (dP O v x r)) (O.neg (O.mul (ψ (dP O v x r)) s))=_
   rw [h.sub v r x hv hr hx,g.sub v r x hv hr hx]
   exact F.comb (h.el v hv) (h.el r hr) hx (g.el v hv) (g.el r hr) hs,
  λr x hr hx=>by
   show O.add (φ (r.map (O.mul x))) (O.neg (O.mul (ψ (r.map (O.mul x))) s))=_
   rw [h.Cr r x hr hx,g.Cr r x hr hx,F.mul_assoc x _ s hx (g.el r hr) hs,<- F.mul_neg hx (F.cl.mul _ _ (g.el r hr) hs),<- F.mul_add x _ _ hx (h.el r hr) (F.cl.neg _ (F.cl.mul _ _ (g.el r hr) hs))]⟩
def nR (O : aQ) (El : Int->Prop) (n : Nat) (c : Nat->Lz) (l : LN) (x : Nat) : Prop:=∀φ,kc O El n φ->(∀y ∈ l,φ (c y)=0)->φ (c x)=0
theorem Is (F : cK O El) {c : Nat->Lz} (hc : ∀i,Vc El n (c i)) : C6 (nR O El n c) where
 mem l x hx φ _ h:=h x hx
 mono l l' h y hy φ hφ h0:=hy φ hφ λx hx=>h x hx φ hφ h0
 exch l x y h hn:=by
  intro b hb h0
  apply Classical.byContradiction
  intro hbx
  apply hn
  intro a ha ha0
  apply Classical.byContradiction
  intro hay
  have hax : a (c x) ≠ 0:=λe=>hay (h a ha λz hz=>by
   rcases List.mem_cons.1 hz with rfl | hz
   ·exact e
   ·exact ha0 z hz)
  have h1:=ha.el _ (hc x)
  have h2:=hb.el _ (hc x)
  have hbi:=F.cl.inv _ h2 hbx
  have hs:=F.cl.mul _ _ hbi h1
  have:=h _ (ha.comb F hb hs) λz hz=>by
   rcases List.mem_cons.1 hz with rfl | hz
   ·show O.add (a (c z)) (O.neg (O.mul (b (c z)) (O.mul (O.inv (b (c z))) (a (c z)))))=0
    rw [<- F.mul_assoc _ _ _ h2 hbi h1,F.mul_inv _ h2 hbx,F.one_mul _ h1,F.add_neg _ h1]
   ·show O.add (a (c z)) (O.neg (O.mul (b (c z)) _))=0
    rw [ha0 z hz,h0 z (List.mem_cons.2 (.inr hz)),F.mO hs,F.gF,F.add_zero 0 F.zero]
  have h3 : O.add (a (c y)) (O.neg (O.mul (b (c y)) (O.mul (O.inv (b (c x))) (a (c x)))))=0:=this
  rw [h0 y (by simp),F.mO hs,F.gF,F.add_zero _ (ha.el _ (hc y))] at h3
  exact hay h3
structure BS.Inv (El : Int->Prop) (n : Nat) (s : BS) : Prop where
 ok : s.Ok El n
 one : ∀i,i<s.rows.length->nth (aj s.rows i) (nth s.place i).toNat=1
 zero : ∀j i,j<i->i<s.rows.length->nth (aj s.rows i) (nth s.place j).toNat=0
theorem BS.Ok.row {s : BS} (h : s.Ok El n) {i : Nat} (hi : i<s.rows.length) : Vc El n (aj s.rows i):=h.rws.row hi
theorem BS.Ok.pl {s : BS} (h : s.Ok El n) {i : Nat} (hi : i<s.rows.length) : (nth s.place i).toNat<n:=by have:=h.plc i hi;omega
theorem Vc.dU (F : cK O El) {u r : Lz} {p : Int} (hu : Vc El n u) (hr : Vc El n r) (hp : p.toNat<n) : Vc El n (dU O u p r):=by
 unfold Go.Proofs.YtcfmiocdlcapoaaGreat.dU
 split
 ·exact hu
 ·exact hu.sub F hr (hu.at hp)
theorem Vc.redTo (F : cK O El) {s : BS} (h : s.Ok El n) {v : Lz} (hv : Vc El n v) : ∀k,k<=s.rows.length->Vc El n (redTo O s.rows s.place v k)
 | 0,_=>hv
 | k+1,hk=>(Vc.redTo F h hv k (by omega)).dU F (h.row (by omega)) (h.pl (by omega))
theorem iR (F : cK O El) {u r : Lz} {p : Int} (hu : Vc El n u) (hr : Vc El n r) (hp : p.toNat<n) {i : Nat} (hi : i<n) :
  nth (dU O u p r) i=O.add (nth u i) (O.neg (O.mul (nth u p.toNat) (nth r i))):=by
 unfold dU
 split
 ·rename_i h0
  rw [h0,F.mO (hr.at hi),F.gF,F.add_zero _ (hu.at hi)]
 ·exact e8 O u _ r i (by rw [hr.1,hu.1]) (by rw [hu.1];exact hi)
namespace BS.Inv
variable {s : BS}
theorem place (F : cK O El) (h : s.Inv El n) {v : Lz} (hv : Vc El n v) : ∀k,k<=s.rows.length->∀j,j<k->nth (redTo O s.rows s.place v k) (nth s.place j).toNat=0
 | 0,_,j,hj=>by omega
 | k+1,hk,j,hj=>by
  have hu:=Vc.redTo F h.ok hv k (by omega)
  have hpk:=h.ok.pl (i:=k) (by omega)
  have hpj:=h.ok.pl (i:=j) (by omega)
  rw [redTo,iR F hu (h.ok.row (by omega)) hpk hpj]
  by_cases e : j=k
  ·subst e
   rw [h.one j (by omega),F.je (hu.at hpk),F.add_neg _ (hu.at hpk)]
  ·rw [place F h hv k (by omega) j (by omega),h.zero j k (by omega) (by omega),F.dA (hu.at hpk),F.gF,F.add_zero 0 F.zero]
theorem stay (h : s.Inv El n) {i : Nat} (hi : i<s.rows.length) : ∀k,k<=i->redTo O s.rows s.place (aj s.rows i) k=aj s.rows i
 | 0,_=>rfl
 | k+1,hk=>by rw [redTo,stay h hi k (by omega),dU,if_pos (h.zero k i (by omega) hi)]
theorem gone (F : cK O El) (h : s.Inv El n) {i : Nat} (hi : i<s.rows.length) : ∀k,i<k->k<=s.rows.length->∀t,t<n->nth (redTo O s.rows s.place (aj s.rows i) k) t=0
 | 0,hk,_,_,_=>by omega
 | k+1,hk,hkl,t,ht=>by
  have hu:=Vc.redTo F h.ok (h.ok.row hi) k (by omega)
  have hr:=h.ok.row (i:=k) (by omega)
  have hpk:=h.ok.pl (i:=k) (by omega)
  rw [redTo,iR F hu hr hpk ht]
  by_cases e : k=i
  ·subst e
   rw [h.stay hi k (Nat.le_refl _),h.one k hi,F.one_mul _ (hr.at ht),F.add_neg _ (hr.at ht)]
  ·rw [gone F h hi k (by omega) (by omega) t ht,gone F h hi k (by omega) (by omega) _ hpk,F.mO (hr.at ht),F.gF,F.add_zero 0 F.zero]
theorem Kc (F : cK O El) (h : s.Inv El n) : ∀k,k<=s.rows.length->∀i,i<n->kc O El n (λv=>nth (redTo O s.rows s.place v k) i)
 | 0,_,i,hi=>kc.zD F hi
 | k+1,hk,i,hi=>by
  have hpk:=h.ok.pl (i:=k) (by omega)
  have hr:=h.ok.row (i:=k) (by omega)
  refine kc.congr F ((Kc F h k (by omega) i hi).comb F (Kc F h k (by omega) _ hpk) (hr.at hi)) λv hv=>?_
  show nth (redTo O s.rows s.place v (k+1)) i=_
  rw [redTo,iR F (Vc.redTo F h.ok hv k (by omega)) hr hpk hi]
theorem form (F : cK O El) (h : s.Inv El n) {φ : Lz->Int} (hφ : kc O El n φ) (h0 : ∀i,i<s.rows.length->φ (aj s.rows i)=0) {v : Lz} (hv : Vc El n v) : ∀k,k<=s.rows.length->φ (redTo O s.rows s.place v k)=φ v
 | 0,_=>rfl
 | k+1,hk=>by
  have hu:=Vc.redTo F h.ok hv k (by omega)
  have hr:=h.ok.row (i:=k) (by omega)
  have hpk:=h.ok.pl (i:=k) (by omega)
  rw [redTo,dU]
  split
  ·exact form F h hφ h0 hv k (by omega)
  ·rw [hφ.sub _ _ _ hu hr (hu.at hpk),h0 k (by omega),F.dA (hu.at hpk),F.gF,form F h hφ h0 hv k (by omega),F.add_zero _ (hφ.el v hv)]
end BS.Inv
theorem kc.zero (F : cK O El) {φ : Lz->Int} (h : kc O El n φ) {v : Lz} (hv : Vc El n v) (h0 : ∀i,i<n->nth v i=0) : φ v=0:=by
 have e : v=v.map (O.mul 0):=et (by simp) λi hi=>by
  rw [iK O v 0 hi,F.mO (hv.at (by rw [<- hv.1];exact hi)),h0 i (by rw [<- hv.1];exact hi)]
 rw [e,h.Cr v 0 hv F.zero,F.mO (h.el v hv)]
theorem kD (F : cK O El) {s : BS} (h : s.Inv El n) {v : Lz} (hv : Vc El n v) :
  s.dQ O v=false ↔ ∀φ,kc O El n φ->(∀i,i<s.rows.length->φ (aj s.rows i)=0)->φ v=0:=by
 have hu : Vc El n (s.red O v):=Vc.redTo F h.ok hv _ (Nat.le_refl _)
 constructor
 ·intro ht φ hφ h0
  rw [<- h.form F hφ h0 hv _ (Nat.le_refl _)]
  refine hφ.zero F hu λi hi=>iO (s.red O v) i ?_
  have h1 : ¬ fnz (s.red O v)<(s.red O v).length:=by simpa [BS.dQ] using ht
  have h2:=FD (s.red O v)
  have:=hu.1
  omega
 ·intro h0
  apply Classical.byContradiction
  intro ht
  have h1 : fnz (s.red O v)<(s.red O v).length:=by simpa [BS.dQ] using ht
  have:=hu.1
  exact jf _ h1 (h0 _ (h.Kc F _ (Nat.le_refl _) _ (by omega)) λi hi=>h.gone F hi _ hi (Nat.le_refl _) _ (by omega))
theorem lr (L : Ll) (r : Lz) (i : Nat) : aj (L ++ [r]) i=if i<L.length then aj L i else if i=L.length then r else aj [] 0:=by
 unfold aj
 simp only [List.getD_eq_getElem?_getD]
 split
 ·rename_i h;rw [List.getElem?_append_left h]
 ·rename_i h
  split
  ·rename_i e;subst e;simp
  ·rename_i e;rw [List.getElem?_eq_none (by simp;omega)];simp
theorem iV (l : Lz) (r : Int) (i : Nat) : nth (l ++ [r]) i=if i<l.length then nth l i else if i=l.length then r else 0:=by
 unfold nth
 simp only [List.getD_eq_getElem?_getD]
 split
 ·rename_i h;rw [List.getElem?_append_left h]
 ·rename_i h
  split
  ·rename_i e;subst e;simp
  ·rename_i e;rw [List.getElem?_eq_none (by simp;omega)];simp
theorem BS.Inv.next (F : cK O El) {s : BS} (h : s.Inv El n) {v : Lz} (hv : Vc El n v) : (s.next O v).Inv El n:=by
 refine ⟨h.ok.next F.cl hv,?_,?_⟩
 ·unfold BS.next
  split
  ·rename_i ht
   have hu : Vc El n (s.red O v):=Vc.redTo F h.ok hv _ (Nat.le_refl _)
   have hf : fnz (s.red O v)<(s.red O v).length:=by simpa [BS.dQ] using ht
   have hne:=jf _ hf
   have hl:=hu.1
   have hel:=hu.at (i:=fnz (s.red O v)) (by omega)
   intro i hi
   simp only [List.length_append,List.length_singleton] at hi
   simp only [lr,iV,h.ok.len]
   by_cases e : i<s.rows.length
   ·rw [if_pos e,if_pos e];exact h.one i e
   ·rw [if_neg e,if_neg e,if_pos (by omega),if_pos (by omega),Int.toNat_natCast,iK O _ _ hf,F.mul_comm _ _ (F.cl.inv _ hel hne) hel,F.mul_inv _ hel hne]
  ·exact h.one
 ·unfold BS.next
  split
  ·rename_i ht
   have hu : Vc El n (s.red O v):=Vc.redTo F h.ok hv _ (Nat.le_refl _)
   have hf : fnz (s.red O v)<(s.red O v).length:=by simpa [BS.dQ] using ht
   have hne:=jf _ hf
   have hl:=hu.1
   have hel:=hu.at (i:=fnz (s.red O v)) (by omega)
   intro j i hji hi
   simp only [List.length_append,List.length_singleton] at hi
   simp only [lr,iV,h.ok.len]
   rw [if_pos (show j<s.rows.length by omega)]
   by_cases e : i<s.rows.length
   ·rw [if_pos e];exact h.zero j i hji e
   ·have hpj:=h.ok.pl (i:=j) (by omega)
    rw [if_neg e,if_pos (by omega),iK O _ _ (by omega),BS.red,h.place F hv _ (Nat.le_refl _) j (by omega)]
    exact F.dA (F.cl.inv _ hel hne)
  ·exact h.zero
def Ib (O : aQ) (El : Int->Prop) (n : Nat) (c : Nat->Lz) (l : LN) (s : BS) : Prop :=
 ∀φ,kc O El n φ->((∀y ∈ l,φ (c y)=0) ↔ ∀i,i<s.rows.length->φ (aj s.rows i)=0)
theorem Ib.next (F : cK O El) {c : Nat->Lz} (hc : ∀i,Vc El n (c i)) {l : LN} {s : BS} (h : s.Inv El n) (hs : Ib O El n c l s) (x : Nat) : Ib O El n c (x :: l) (s.next O (c x)):=by
 intro φ hφ
 have key : (∀i,i<s.rows.length->φ (aj s.rows i)=0)->((φ (c x)=0) ↔ ∀i,i<(s.next O (c x)).rows.length->φ (aj (s.next O (c x)).rows i)=0):=by
  intro h0
  have hu : Vc El n (s.red O (c x)):=Vc.redTo F h.ok (hc x) _ (Nat.le_refl _)
  have hform:=h.form F hφ h0 (hc x) _ (Nat.le_refl _)
  unfold BS.next
  split
  ·rename_i ht
   have hf : fnz (s.red O (c x))<(s.red O (c x)).length:=by simpa [BS.dQ] using ht
   have hne:=jf _ hf
   have hl:=hu.1
   have hel:=hu.at (i:=fnz (s.red O (c x))) (by omega)
   have hi:=F.cl.inv _ hel hne
   have hscl:=hφ.Cr _ _ hu hi
   have hine : O.inv (nth (s.red O (c x)) (fnz (s.red O (c x)))) ≠ 0:=by
    intro e
    have:=F.mul_inv _ hel hne
    rw [e,F.dA hel] at this
    exact absurd this (by decide)
   constructor
   ·intro hx i hi2
    simp only [List.length_append,List.length_singleton] at hi2
    simp only [lr]
    by_cases e : i<s.rows.length
    ·rw [if_pos e];exact h0 i e
    ·rw [if_neg e,if_pos (by omega),hscl]
     show O.mul _ (φ (redTo O s.rows s.place (c x) s.rows.length))=0
     rw [hform,hx,F.dA hi]
   ·intro hall
    have:=hall s.rows.length (by simp)
    simp only [lr] at this
    rw [if_neg (Nat.lt_irrefl _),if_pos trivial,hscl] at this
    rw [<- hform]
    exact F.tQ hi (hφ.el _ hu) hine this
  ·rename_i ht
   exact ⟨λ_=>h0,λ_=>(kD F h (hc x)).1 (by simpa using ht) φ hφ h0⟩
 constructor
 ·intro hall
  have h1 : ∀i,i<s.rows.length->φ (aj s.rows i)=0:=(hs φ hφ).1 λy hy=>hall y (List.mem_cons.2 (.inr hy))
  exact (key h1).1 (hall x (by simp))
 ·intro hall
  have h1 : ∀i,i<s.rows.length->φ (aj s.rows i)=0:=by
   intro i hi
   have hlen : s.rows.length<=(s.next O (c x)).rows.length:=by unfold BS.next;split <;> simp
   have:=hall i (by omega)
   unfold BS.next at this
   split at this
   ·simp only [lr] at this
    rw [if_pos hi] at this;exact this
   ·exact this
  intro y hy
  rcases List.mem_cons.1 hy with rfl | hy
  ·exact (key h1).2 hall
  ·exact (hs φ hφ).2 h1 y hy
def grL (Q : Lz) : Nat->LN
 | 0=>[]
 | k+1=>(nth Q k).toNat :: grL Q k
theorem gV (Q : Lz) (x : Nat) : ∀k,x ∈ grL Q k ↔ ∃j,j<k/\(nth Q j).toNat=x
 | 0=>by simp [grL]
 | k+1=>by
  rw [grL,List.mem_cons,gV Q x k]
  constructor
  ·rintro (h | ⟨j,hj,h⟩)
   ·exact ⟨k,by omega,h.symm⟩
   ·exact ⟨j,by omega,h⟩
  ·rintro ⟨j,hj,h⟩
   by_cases e : j=k
   ·subst e;exact .inl h.symm
   ·exact .inr ⟨j,by omega,h⟩
theorem dN {m : Nat} {L : Ll} (h : bH El m L) (h0 : El 0) (i : Nat) : Vc El L.length (bf L i):=by
 refine ⟨dc _ _,λy hy=>?_⟩
 unfold bf at hy
 obtain ⟨r,hr,rfl⟩:=List.mem_map.1 hy
 by_cases hi : i<m
 ·exact (h r hr).2 _ (aN (by rw [(h r hr).1];exact hi))
 ·have : nth r i=0:=by
   unfold nth
   rw [List.getD_eq_getElem?_getD,List.getElem?_eq_none (by rw [(h r hr).1];omega)];rfl
  rw [this];exact h0
theorem xu (F : cK O El) {m : Nat} {L : Ll} (hL : bH El m L) (Q : Lz) : ∀k,(cI O L Q k).1.Inv El L.length/\Ib O El L.length (bf L) (grL Q k) (cI O L Q k).1 /\
  Rk (nR O El L.length (bf L)) (grL Q k) (cI O L Q k).2.length
 | 0=>⟨⟨⟨λr hr=>by simp [cI] at hr,rfl,λi hi=>by simp [cI] at hi⟩,λi hi=>by simp [cI] at hi,λj i _ hi=>by simp [cI] at hi⟩,λφ _=>⟨λ_ i hi=>by simp [cI] at hi,λ_ y hy=>by simp [grL] at hy⟩,.nil⟩
 | k+1=>by
  obtain ⟨h1,h2,h3⟩:=xu F hL Q k
  have hc:=dN hL F.zero
  refine ⟨h1.next F (hc _),h2.next F hc h1 _,?_⟩
  have htk:=kD F h1 (hc (nth Q k).toNat)
  have hcl : nR O El L.length (bf L) (grL Q k) (nth Q k).toNat ↔ (cI O L Q k).1.dQ O (bf L (nth Q k).toNat)=false:=by
   rw [htk]
   exact ⟨λh φ hφ h0=>h φ hφ ((h2 φ hφ).2 h0),λh φ hφ h0=>h φ hφ ((h2 φ hφ).1 h0)⟩
  rw [grL,cI]
  by_cases ht : (cI O L Q k).1.dQ O (bf L (nth Q k).toNat)=true
  ·rw [if_pos ht]
   simp only [List.length_append,List.length_singleton]
   exact .ind _ (λh=>by rw [hcl.1 h] at ht;simp at ht) h3
  ·rw [if_neg ht]
   exact .dep _ (hcl.2 (by simpa using ht)) h3
theorem EF (F : cK O El) {m : Nat} {L : Ll} (hL : bH El m L) (Q : Lz) : Rk (nR O El L.length (bf L)) (grL Q Q.length) (i7 O L Q).length:=(xu F hL Q Q.length).2.2
theorem iI (F : cK O El) {m : Nat} {L : Ll} (hL : bH El m L) : C6 (nR O El L.length (bf L)):=Is F (dN hL F.zero)
end
section
variable {O : aQ} {El : Int->Prop} {m n : Nat}
theorem kc.smul (F : cK O El) {φ : Lz->Int} (h : kc O El n φ) {s : Int} (hs : El s) : kc O El n (λv=>O.mul s (φ v)) :=
 ⟨λv hv=>F.cl.mul _ _ hs (h.el v hv),
  λv r x hv hr hx=>by
   show O.mul s (φ (dP O v x r))=O.add (O.mul s (φ v)) (O.neg (O.mul x (O.mul s (φ r))))
   have h1:=h.el v hv
   have h2:=h.el r hr
   rw [h.sub v r x hv hr hx,F.mul_add s _ _ hs h1 (F.cl.neg _ (F.cl.mul _ _ hx h2)),F.mul_neg hs (F.cl.mul _ _ hx h2),<- F.mul_assoc s x _ hs hx h2,F.mul_comm s x hs hx,F.mul_assoc x s _ hx hs h2],
  λr x hr hx=>by
   show O.mul s (φ (r.map (O.mul x)))=O.mul x (O.mul s (φ r))
   have h2:=h.el r hr
   rw [h.Cr r x hr hx,<- F.mul_assoc s x _ hs hx h2,F.mul_comm s x hs hx,F.mul_assoc x s _ hx hs h2]⟩
theorem eR (g : Nat->Int) (k i : Nat) (hi : i<k) : nth ((List.range k).map g) i=g i:=by
 rw [ai (by simpa using hi)];simp
theorem kc.vec {k : Nat} {e : Lz->Int} (he : kc O El k e) (g : Nat->Lz->Int) (hg : ∀i,i<k->kc O El n (g i)) : kc O El n (λv=>e ((List.range k).map λi=>g i v)):=by
 have hv' : ∀v,Vc El n v->Vc El k ((List.range k).map λi=>g i v):=λv hv=>⟨by simp,λy hy=>by
  obtain ⟨i,hi,rfl⟩:=List.mem_map.1 hy
  exact (hg i (List.mem_range.1 hi)).el v hv⟩
 refine ⟨λv hv=>he.el _ (hv' v hv),λv r x hv hr hx=>?_,λr x hr hx=>?_⟩
 ·show e _=_
  rw [<- he.sub _ _ x (hv' v hv) (hv' r hr) hx]
  congr 1
  refine et (by rw [fc _ _ _ _ (by simp)];simp) λi hi=>?_
  have hi' : i<k:=by simpa using hi
  rw [e8 O _ x _ i (by simp) (by simpa using hi'),eR _ _ _ hi',eR _ _ _ hi',eR _ _ _ hi']
  exact (hg i hi').sub v r x hv hr hx
 ·show e _=_
  rw [<- he.Cr _ x (hv' r hr) hx]
  congr 1
  refine et (by simp) λi hi=>?_
  have hi' : i<k:=by simpa using hi
  rw [iK O _ x (by simpa using hi'),eR _ _ _ hi',eR _ _ _ hi']
  exact (hg i hi').Cr r x hr hx
def RS (O : aQ) (El : Int->Prop) (m : Nat) (L : Ll) (f : Nat->Int) : Prop:=∃e,kc O El L.length e/\∀x,x<m->f x=e (bf L x)
theorem RS.row (F : cK O El) {L : Ll} {i : Nat} (hi : i<L.length) : RS O El m L (λx=>nth (aj L i) x) :=
 ⟨λv=>nth v i,kc.zD F hi,λx _=>(cZ L x i hi).symm⟩
theorem RS.comb (F : cK O El) {L : Ll} {f g : Nat->Int} (hf : RS O El m L f) (hg : RS O El m L g) {s : Int} (hs : El s) : RS O El m L (λx=>O.add (f x) (O.neg (O.mul (g x) s))):=by
 obtain ⟨a,ha,ha2⟩:=hf
 obtain ⟨b,hb,hb2⟩:=hg
 exact ⟨_,ha.comb F hb hs,λx hx=>by show O.add (f x) _=_;rw [ha2 x hx,hb2 x hx]⟩
theorem RS.smul (F : cK O El) {L : Ll} {f : Nat->Int} (hf : RS O El m L f) {s : Int} (hs : El s) : RS O El m L (λx=>O.mul s (f x)):=by
 obtain ⟨a,ha,ha2⟩:=hf
 exact ⟨_,ha.smul F hs,λx hx=>by show O.mul s (f x)=_;rw [ha2 x hx]⟩
theorem RS.congr {L : Ll} {f g : Nat->Int} (hf : RS O El m L f) (h : ∀x,x<m->g x=f x) : RS O El m L g:=by
 obtain ⟨a,ha,ha2⟩:=hf
 exact ⟨a,ha,λx hx=>by rw [h x hx,ha2 x hx]⟩
def iD (O : aQ) (El : Int->Prop) (m : Nat) (A B : Ll) : Prop:=∀i,i<A.length->RS O El m B (λx=>nth (aj A i) x)
theorem iD.refl (F : cK O El) (L : Ll) : iD O El m L L:=λ_ hi=>.row F hi
theorem iD.rs {A B : Ll} (h : iD O El m A B) {f : Nat->Int} (hf : RS O El m A f) : RS O El m B f:=by
 obtain ⟨e,he,he2⟩:=hf
 obtain ⟨g,hg⟩ : ∃g : Nat->Lz->Int,∀i,i<A.length->kc O El B.length (g i)/\∀x,x<m->nth (aj A i) x=g i (bf B x):=by
  have h2 : ∀i,∃g : Lz->Int,i<A.length->kc O El B.length g/\∀x,x<m->nth (aj A i) x=g (bf B x):=λi=>by
   by_cases hi : i<A.length
   ·obtain ⟨g,h1,h2⟩:=h i hi
    exact ⟨g,λ_=>⟨h1,h2⟩⟩
   ·exact ⟨λ_=>0,λh=>absurd h hi⟩
  exact ⟨λi=>Classical.choose (h2 i),λi hi=>Classical.choose_spec (h2 i) hi⟩
 refine ⟨_,he.vec g λi hi=>(hg i hi).1,λx hx=>?_⟩
 rw [he2 x hx]
 congr 1
 refine et (by simp [dc]) λi hi=>?_
 rw [dc] at hi
 rw [eR _ _ _ hi,cZ A x i hi]
 exact (hg i hi).2 x hx
theorem iD.trans {A B C : Ll} (h : iD O El m A B) (h2 : iD O El m B C) : iD O El m A C:=λi hi=>h2.rs (h i hi)
theorem iD.cl {A B : Ll} (h : iD O El m A B) {l : LN} {x : Nat} (hl : ∀y ∈ l,y<m) (hx : x<m) (hc : nR O El B.length (bf B) l x) : nR O El A.length (bf A) l x:=by
 intro φ hφ h0
 obtain ⟨e,he,he2⟩:=h.rs (f:=λx=>φ (bf A x)) ⟨φ,hφ,λ_ _=>rfl⟩
 have e1 : φ (bf A x)=e (bf B x):=he2 x hx
 rw [e1]
 refine hc e he λy hy=>?_
 rw [<- he2 y (hl y hy)]
 exact h0 y hy
structure nw (L : Ll) (P : Lz) (c : Nat) : Prop where
 le : P.length<=L.length
 lt : ∀j,j<P.length->0<=nth P j/\nth P j<c
 one : ∀j i,j<P.length->i<L.length->nth (aj L i) (nth P j).toNat=if i=j then 1 else 0
 zero : ∀i x,P.length<=i->i<L.length->x<c->nth (aj L i) x=0
def sw (t k i : Nat) : Nat:=if i=t then k else if i=k then t else i
theorem JP {t k n i : Nat} (ht : t<n) (hk : k<n) (hi : i<n) : sw t k i<n:=by unfold sw;split;exact hk;split;exact ht;exact hi
theorem GS {L : Ll} {t k : Nat} (ht : t<L.length) (hk : k<L.length) (i : Nat) : aj (if k=t then L else bm L t k) i=aj L (sw t k i):=by
 unfold sw bm
 split
 ·rename_i e
  subst e
  split
  ·rename_i e;rw [e]
  ·rfl
 ·rename_i hne
  rw [fP _ _ _ _ (by simpa using hk),fP _ _ _ _ ht]
  by_cases h1 : i=t
  ·rw [if_neg (by omega),if_pos h1,if_pos h1]
  ·rw [if_neg h1,if_neg h1]
   by_cases h2 : i=k
   ·rw [if_pos h2,if_pos h2]
   ·rw [if_neg h2,if_neg h2]
theorem Er (F : cK O El) {L : Ll} (hL : bH El m L) {t c : Nat} (ht : t<L.length) {i x : Nat} (hx : x<m) :
  nth (aj (bp O L t c) i) x=if i=t then O.mul (O.inv (nth (aj L t) c)) (nth (aj L t) x) else nth (aj L i) x:=by
 have hr:=hL.row ht
 have he : El (nth (aj L t) x):=hr.2 _ (aN (by rw [hr.1];exact hx))
 unfold bp
 split
 ·rename_i h1
  split
  ·rename_i e;rw [e,h1,F.one_mul _ he]
  ·rfl
 ·rw [fP _ _ _ _ ht]
  split
  ·exact iK O _ _ (by rw [hr.1];exact hx)
  ·rfl
theorem tw (O : aQ) (t c : Nat) (L : Ll) : ∀i,i<=L.length->∀j,aj (clearTo O t c L i) j=if j<i/\j ≠ t then bW O (aj L t) c (aj L j) else aj L j
 | 0,_,j=>by rw [if_neg (by omega)];rfl
 | i+1,hi,j=>by
  have ih:=tw O t c L i (by omega)
  unfold clearTo
  split
  ·rename_i e
   rw [ih j]
   by_cases h : j<i/\j ≠ t
   ·rw [if_pos h,if_pos ⟨by omega,h.2⟩]
   ·rw [if_neg h,if_neg (by omega)]
  ·rename_i e
   have e1 : aj (clearTo O t c L i) t=aj L t:=by rw [ih t,if_neg (by omega)]
   have e2 : aj (clearTo O t c L i) i=aj L i:=by rw [ih i,if_neg (by omega)]
   rw [fP _ _ _ _ (by rw [df];omega),e1,e2]
   by_cases h : j=i
   ·subst h
    rw [if_pos rfl,if_pos ⟨by omega,e⟩]
   ·rw [if_neg h,ih j]
    by_cases h2 : j<i/\j ≠ t
    ·rw [if_pos h2,if_pos ⟨by omega,h2.2⟩]
    ·rw [if_neg h2,if_neg (by omega)]
theorem xD (F : cK O El) {pv r : Lz} {c x : Nat} (hp : Vc El m pv) (hr : Vc El m r) (hc : c<m) (hx : x<m) :
  nth (bW O pv c r) x=O.add (nth r x) (O.neg (O.mul (nth pv x) (nth r c))):=by
 have h1:=hp.at hx
 have h2:=hr.at hx
 have h3:=hr.at hc
 unfold bW
 split
 ·rename_i h0
  rw [h0,F.dA h1,F.gF,F.add_zero _ h2]
 ·rw [gL O r _ pv x (by rw [hp.1,hr.1]) (by rw [hr.1];exact hx)]
  split
  ·rename_i h0
   rw [h0,F.mO h3,F.gF,F.add_zero _ h2]
  ·rw [F.neg_mul h3 h1,F.mul_comm _ _ h3 h1]
section
variable {L : Ll} {t k c : Nat}
theorem fF (F : cK O El) (hL : bH El m L) (ht : t<L.length) (hk : k<L.length) (hc : c<m) (h0 : nth (aj L k) c ≠ 0) {i x : Nat} (hi : i<L.length) (hx : x<m) :
  nth (aj (eB O L t k c) i) x=if i=t then O.mul (O.inv (nth (aj L k) c)) (nth (aj L k) x) else
   O.add (nth (aj L (sw t k i)) x) (O.neg (O.mul (O.mul (O.inv (nth (aj L k) c)) (nth (aj L k) x)) (nth (aj L (sw t k i)) c))):=by
 rw [gQ]
 obtain ⟨L1,hL1⟩ : ∃L1,(if k=t then L else bm L t k)=L1:=⟨_,rfl⟩
 have hn1 : ∀i,aj L1 i=aj L (sw t k i):=λi=>by rw [<- hL1];exact GS ht hk i
 have hl1 : L1.length=L.length:=by rw [<- hL1];split <;> simp [dK]
 have hR1 : bH El m L1:=by
  rw [<- hL1]
  split
  ·exact hL
  ·exact hL.swap ht hk
 have hswt : sw t k t=k:=by simp [sw]
 have h01 : nth (aj L1 t) c ≠ 0:=by rw [hn1,hswt];exact h0
 rw [hL1]
 have hR2 : bH El m (bp O L1 t c):=hR1.norm F.cl (by omega) hc h01
 have hN : ∀ {i x : Nat},x<m->nth (aj (bp O L1 t c) i) x=if i=t then O.mul (O.inv (nth (aj L1 t) c)) (nth (aj L1 t) x) else nth (aj L1 i) x:=λhx=>Er F hR1 (by omega) hx
 rw [tw O t c _ L.length (by rw [dg];omega)]
 by_cases e : i=t
 ·rw [if_neg (by omega),if_pos e,hN hx,if_pos e,hn1,hswt]
 ·rw [if_pos ⟨hi,e⟩,if_neg e,xD F (hR2.row (by rw [dg];omega)) (hR2.row (by rw [dg];omega)) hc hx,hN hx,hN hx,hN hc,if_neg e,if_neg e,if_pos rfl,hn1,hn1,hswt]
variable (F : cK O El) (hL : bH El m L) (ht : t<L.length) (hk : k<L.length) (hc : c<m) (h0 : nth (aj L k) c ≠ 0)
include F hL ht hk hc h0
theorem A6 : iD O El m (eB O L t k c) L:=by
 intro i hi
 rw [eT] at hi
 have hp : El (nth (aj L k) c):=Vc.at (hL.row hk) hc
 have hpi:=F.cl.inv _ hp h0
 by_cases e : i=t
 ·exact ((RS.row F hk).smul F hpi).congr λx hx=>by rw [fF F hL ht hk hc h0 hi hx,if_pos e]
 ·have hs:=JP ht hk hi
  exact ((RS.row F hs).comb F ((RS.row F hk).smul F hpi) (s:=nth (aj L (sw t k i)) c) (Vc.at (hL.row hs) hc)).congr λx hx=>by rw [fF F hL ht hk hc h0 hi hx,if_neg e]
theorem AM : iD O El m L (eB O L t k c):=by
 intro i hi
 have hp : El (nth (aj L k) c):=Vc.at (hL.row hk) hc
 have hpi:=F.cl.inv _ hp h0
 have htB : t<(eB O L t k c).length:=by rw [eT];exact ht
 by_cases e : i=k
 ·refine ((RS.row F htB).smul F hp).congr λx hx=>?_
  have hx1 : El (nth (aj L k) x):=Vc.at (hL.row hk) hx
  rw [fF F hL ht hk hc h0 ht hx,if_pos rfl,<- F.mul_assoc _ _ _ hp hpi hx1,F.mul_inv _ hp h0,F.one_mul _ hx1,e]
 ·have hj : ∃j,j<L.length/\j ≠ t/\sw t k j=i:=by
   by_cases e2 : i=t
   ·exact ⟨k,hk,by omega,by unfold sw;rw [if_neg (by omega),if_pos rfl,e2]⟩
   ·exact ⟨i,hi,e2,by unfold sw;rw [if_neg e2,if_neg e]⟩
  obtain ⟨j,hj,hjt,hsw⟩:=hj
  have hs : El (nth (aj L i) c):=Vc.at (hL.row hi) hc
  refine ((RS.row F (i:=j) (by rw [eT];exact hj)).comb F (RS.row F htB) (s:=O.neg (nth (aj L i) c)) (F.cl.neg _ hs)).congr λx hx=>?_
  have hx1 : El (nth (aj L k) x):=Vc.at (hL.row hk) hx
  have hx2 : El (nth (aj L i) x):=Vc.at (hL.row hi) hx
  have hy:=F.cl.mul _ _ hpi hx1
  have hq:=F.cl.mul _ _ hy hs
  rw [fF F hL ht hk hc h0 ht hx,if_pos rfl,fF F hL ht hk hc h0 hj hx,if_neg hjt,hsw,F.mul_neg hy hs,F.neg_neg hq,F.add_assoc _ _ _ hx2 (F.cl.neg _ hq) hq,F.xK hq,F.add_zero _ hx2]
end
theorem nw.next (F : cK O El) {L : Ll} {P : Lz} {c k : Nat} (h : nw L P c) (hL : bH El m L) (hc : c<m) (ht : P.length<L.length) (hk : k<L.length) (htk : P.length<=k) (h0 : nth (aj L k) c ≠ 0) :
  nw (eB O L P.length k c) (P ++ [(c : Int)]) (c+1):=by
 have hp : El (nth (aj L k) c):=Vc.at (hL.row hk) hc
 have hpi:=F.cl.inv _ hp h0
 have hsw : ∀i,P.length<=i->i<L.length->P.length<=sw P.length k i/\sw P.length k i<L.length:=λi h1 h2=>by
  unfold sw;split;omega;split <;> omega
 have hswl : ∀i,i<P.length->sw P.length k i=i:=λi h1=>by unfold sw;rw [if_neg (by omega),if_neg (by omega)]
 refine ⟨by rw [eT,List.length_append];simp;omega,λj hj=>?_,λj i hj hi=>?_,λi x h1 h2 hx=>?_⟩
 ·rw [iV]
  rw [List.length_append,List.length_singleton] at hj
  by_cases e : j<P.length
  ·rw [if_pos e];have:=h.lt j e;omega
  ·rw [if_neg e,if_pos (by omega)];omega
 ·rw [List.length_append,List.length_singleton] at hj
  rw [eT] at hi
  rw [iV]
  by_cases e : j<P.length
  ·rw [if_pos e]
   have hb:=h.lt j e
   have hx : (nth P j).toNat<m:=by omega
   have hk0:=h.one j k e hk
   rw [if_neg (by omega)] at hk0
   rw [fF F hL ht hk hc h0 hi hx,hk0,F.dA hpi]
   by_cases e2 : i=P.length
   ·rw [if_pos e2,if_neg (by omega)]
   ·rw [if_neg e2]
    have hsl : sw P.length k i<L.length:=by unfold sw;split;omega;split <;> omega
    rw [F.mO (Vc.at (hL.row hsl) hc),F.gF,F.add_zero _ (Vc.at (hL.row hsl) hx),h.one j _ e hsl]
    by_cases e3 : i<P.length
    ·rw [hswl i e3]
    ·have:=(hsw i (by omega) hi).1
     rw [if_neg (by omega),if_neg (by omega)]
  ·have ej : j=P.length:=by omega
   rw [if_neg e,if_pos ej,Int.toNat_natCast,fF F hL ht hk hc h0 hi hc,ej]
   by_cases e2 : i=P.length
   ·rw [if_pos e2,if_pos e2,F.mul_comm _ _ hpi hp,F.mul_inv _ hp h0]
   ·rw [if_neg e2,if_neg e2]
    have hsl : sw P.length k i<L.length:=by unfold sw;split;omega;split <;> omega
    have hq : El (nth (aj L (sw P.length k i)) c):=Vc.at (hL.row hsl) hc
    rw [F.mul_comm _ _ hpi hp,F.mul_inv _ hp h0,F.one_mul _ hq,F.add_neg _ hq]
 ·rw [List.length_append,List.length_singleton] at h1
  rw [eT] at h2
  have hxm : x<m:=by omega
  have hs:=hsw i (by omega) h2
  have hq : El (nth (aj L (sw P.length k i)) c):=Vc.at (hL.row hs.2) hc
  rw [fF F hL ht hk hc h0 h2 hxm,if_neg (by omega)]
  by_cases e : x=c
  ·subst e
   rw [F.mul_comm _ _ hpi hp,F.mul_inv _ hp h0,F.one_mul _ hq,F.add_neg _ hq]
  ·rw [h.zero _ x hs.1 hs.2 (by omega),h.zero k x htk hk (by omega),F.dA hpi,F.mO hq,F.gF,F.add_zero 0 F.zero]
theorem lu (F : cK O El) {L : Ll} (hL : bH El m L) (k : Nat) (hk : k<=m) : bH El m (aA O L k).1 :=
 (gg (O':=O) ⟨λ_ _ _ _=>rfl,λ_ _ _ _=>rfl,λ_ _=>rfl,λ_ _ _=>rfl⟩ F.cl hL k hk).2
theorem jQ (F : cK O El) {L : Ll} (hL : bH El m L) : ∀k,k<=m->nw (aA O L k).1 (aA O L k).2 k/\iD O El m (aA O L k).1 L/\iD O El m L (aA O L k).1
 | 0,_=>⟨⟨Nat.zero_le _,λj hj=>by simp [aA] at hj,λj i hj=>by simp [aA] at hj,λi x _ _ hx=>by omega⟩,.refl F L,.refl F L⟩
 | k+1,hk=>by
  obtain ⟨h1,h2,h3⟩:=jQ F hL k (by omega)
  have hR:=lu F hL k (by omega)
  have hb:=oO (L:=(aA O L k).1) (c:=k) (k:=(aA O L k).2.length) h1.le
  by_cases hlt : (aA O L k).2.length<(aA O L k).1.length
  ·rw [dp (Lk:=(aA O L k).1) (P:=(aA O L k).2) rfl hlt]
   split
   ·rename_i hf
    refine ⟨⟨h1.le,λj hj=>⟨(h1.lt j hj).1,Int.lt_trans (h1.lt j hj).2 (by omega)⟩,h1.one,λi x hi1 hi2 hx=>?_⟩,h2,h3⟩
    by_cases e : x=k
    ·subst e
     exact ru _ x ((aA O L x).1.length - (aA O L x).2.length) _ i hi1 (by show i<bu _ x _;rw [hf];exact hi2)
    ·exact h1.zero i x hi1 hi2 (by omega)
   ·rename_i hf
    have hfl : bu (aA O L k).1 k (aA O L k).2.length<(aA O L k).1.length:=by omega
    have hne : nth (aj (aA O L k).1 (bu (aA O L k).1 k (aA O L k).2.length)) k ≠ 0:=kB _ k _ _ (by show bu _ k _<_;omega)
    exact ⟨h1.next F hR (by omega) hlt hfl hb.1 hne,(A6 F hR hlt hfl (by omega) hne).trans h2,h3.trans (AM F hR hlt hfl (by omega) hne)⟩
  ·have hfull : (aA O L k).2.length=L.length:=by have:=bM O L k;have:=h1.le;omega
   rw [fC hfull 1]
   have hl:=bM O L k
   exact ⟨⟨h1.le,λj hj=>by have:=h1.lt j hj;omega,h1.one,λi x hi1 hi2 hx=>by omega⟩,h2,h3⟩
theorem nw.ind (F : cK O El) {L : Ll} {P : Lz} {c : Nat} (h : nw L P c) : ∀k,k<=P.length->Rk (nR O El L.length (bf L)) (grL P k) k
 | 0,_=>.nil
 | k+1,hk=>by
  rw [grL]
  refine .ind _ (λhc=>?_) (h.ind F k (by omega))
  have hkl:=h.le
  have h1:=hc (λv=>nth v k) (kc.zD F (by omega)) λy hy=>by
   obtain ⟨j,hj,rfl⟩:=(gV P y k).1 hy
   show nth (bf L _) k=0
   rw [cZ L _ k (by omega),h.one j k (by omega) (by omega),if_neg (by omega)]
  have h2 : nth (bf L (nth P k).toNat) k=0:=h1
  rw [cZ L _ k (by omega),h.one k k (by omega) (by omega),if_pos rfl] at h2
  exact absurd h2 (by decide)
def jc (O : aQ) (L : Ll) (P : Lz) (v : Lz) : Nat->Lz
 | 0=>v
 | k+1=>dP O (jc O L P v k) (nth (jc O L P v k) k) (bf L (nth P k).toNat)
theorem nw.less (F : cK O El) {L : Ll} {P : Lz} {c : Nat} (h : nw L P c) (hL : bH El m L) {v : Lz} (hv : Vc El L.length v) {φ : Lz->Int} (hφ : kc O El L.length φ)
  (h0 : ∀j,j<P.length->φ (bf L (nth P j).toNat)=0) : ∀k,k<=P.length->Vc El L.length (jc O L P v k)/\φ (jc O L P v k)=φ v/\∀i,i<L.length->nth (jc O L P v k) i=if i<k then 0 else nth v i
 | 0,_=>⟨hv,rfl,λi _=>by rw [if_neg (by omega)];rfl⟩
 | k+1,hk=>by
  obtain ⟨h1,h2,h3⟩:=h.less F hL hv hφ h0 k (by omega)
  have hle:=h.le
  have hcol:=dN hL F.zero (nth P k).toNat
  have hx:=h1.at (i:=k) (by omega)
  refine ⟨h1.sub F hcol hx,?_,λi hi=>?_⟩
  ·rw [jc,hφ.sub _ _ _ h1 hcol hx,h0 k (by omega),F.dA hx,F.gF,F.add_zero _ (hφ.el _ h1),h2]
  ·rw [jc,e8 O _ _ _ i (by rw [hcol.1,h1.1]) (by rw [h1.1];exact hi),cZ L _ i hi,h.one k i (by omega) hi]
   by_cases e : i=k
   ·subst e
    rw [if_pos rfl,F.je hx,F.add_neg _ hx,if_pos (by omega)]
   ·rw [if_neg e,F.dA hx,F.gF,F.add_zero _ (h1.at hi),h3 i hi]
    by_cases e2 : i<k
    ·rw [if_pos e2,if_pos (by omega)]
    ·rw [if_neg e2,if_neg (by omega)]
theorem nw.all (F : cK O El) {L : Ll} {P : Lz} (h : nw L P m) (hL : bH El m L) {x : Nat} (hx : x<m) : nR O El L.length (bf L) (grL P P.length) x:=by
 intro φ hφ h0
 obtain ⟨h1,h2,h3⟩:=h.less F hL (dN hL F.zero x) hφ (λj hj=>h0 _ ((gV P _ _).2 ⟨j,hj,rfl⟩)) _ (Nat.le_refl _)
 rw [<- h2]
 refine hφ.zero F h1 λi hi=>?_
 rw [h3 i hi]
 split
 ·rfl
 ·rw [cZ L x i hi]
  exact h.zero i x (by omega) hi hx
theorem Rk.map {cl cl' : LN->Nat->Prop} (D : Nat->Prop) (f : Nat->Nat) (hc : ∀l x,(∀y ∈ l,D y)->D x->(cl l x ↔ cl' (l.map f) (f x))) {l : LN} {r : Nat} (h : Rk cl l r) : (∀y ∈ l,D y)->Rk cl' (l.map f) r:=by
 induction h with
 | nil=>intro _;exact .nil
 | dep x hx _ ih =>
  intro hD
  exact .dep _ ((hc _ _ (λy hy=>hD y (List.mem_cons.2 (.inr hy))) (hD x (by simp))).1 hx) (ih λy hy=>hD y (List.mem_cons.2 (.inr hy)))
 | ind x hx _ ih =>
  intro hD
  exact .ind _ (λh=>hx ((hc _ _ (λy hy=>hD y (List.mem_cons.2 (.inr hy))) (hD x (by simp))).2 h)) (ih λy hy=>hD y (List.mem_cons.2 (.inr hy)))
theorem Eu (F : cK O El) {L : Ll} (hL : bH El m L) : Rk (nR O El L.length (bf L)) (List.range m) (aA O L m).2.length:=by
 obtain ⟨h1,h2,h3⟩:=jQ F hL m (Nat.le_refl _)
 have hR:=lu F hL m (Nat.le_refl _)
 have hC:=iI F hR
 have k1:=(h1.ind F _ (Nat.le_refl _)).BV hC (List.range m) λx hx=>h1.all F hR (List.mem_range.1 hx)
 have k2:=Rk.map (cl':=nR O El L.length (bf L)) (λy=>y<m) id (λl x hl hx=>by rw [List.map_id];exact ⟨h3.cl hl hx,h2.cl hl hx⟩) k1 λy hy=>by
  rcases List.mem_append.1 hy with hy | hy
  ·exact List.mem_range.1 hy
  ·obtain ⟨j,hj,rfl⟩:=(gV _ _ _).1 hy
   have:=h1.lt j hj
   omega
 obtain ⟨r,hr⟩:=Rk.ex (nR O El L.length (bf L)) (List.range m)
 have e:=Rk.same (iI F hL) k2 hr λx=>by
  rw [List.map_id,List.mem_append]
  constructor
  ·rintro (h | h)
   ·exact h
   ·obtain ⟨j,hj,rfl⟩:=(gV _ _ _).1 h
    have:=h1.lt j hj
    exact List.mem_range.2 (by omega)
  ·exact .inl
 rw [e];exact hr
def aG (Q : Lz) (r : Lz) : Lz:=Q.map λq=>nth r q.toNat
theorem dx (Q r : Lz) {i : Nat} (hi : i<Q.length) : nth (aG Q r) i=nth r (nth Q i).toNat:=by
 rw [ai (show i<(aG Q r).length by simpa [aG] using hi),ai hi];simp [aG]
theorem fo {L : Ll} (hL : bH El n L) {Q : Lz} (hQ : ∀j,j<Q.length->0<=nth Q j/\nth Q j<n) : bH El Q.length (L.map (aG Q)):=by
 intro r hr
 obtain ⟨r0,h0,rfl⟩:=List.mem_map.1 hr
 refine ⟨by simp [aG],λx hx=>?_⟩
 obtain ⟨q,hq,rfl⟩:=List.mem_map.1 hx
 obtain ⟨j,hj,rfl⟩:=List.mem_iff_getElem.1 hq
 have:=hQ j hj
 rw [ai hj] at this
 exact (hL r0 h0).2 _ (aN (by rw [(hL r0 h0).1];omega))
theorem GR (F : cK O El) {L : Ll} (hL : bH El n L) {Q : Lz} (hQ : ∀j,j<Q.length->0<=nth Q j/\nth Q j<n) :
  Rk (nR O El L.length (bf L)) ((List.range Q.length).map λj=>(nth Q j).toNat) (aA O (L.map (aG Q)) Q.length).2.length:=by
 have hR:=fo hL hQ
 have hcol : ∀j,j<Q.length->bf (L.map (aG Q)) j=bf L (nth Q j).toNat:=λj hj=>by
  unfold bf
  rw [List.map_map]
  exact List.map_congr_left λr _=>dx Q r hj
 refine Rk.map (λj=>j<Q.length) _ (λl x hl hx=>?_) (Eu F hR) λy hy=>List.mem_range.1 hy
 unfold nR
 rw [List.length_map]
 constructor
 ·intro h φ hφ h0
  rw [<- hcol x hx]
  refine h φ hφ λy hy=>?_
  rw [hcol y (hl y hy)]
  exact h0 _ (List.mem_map.2 ⟨y,hy,rfl⟩)
 ·intro h φ hφ h0
  rw [hcol x hx]
  refine h φ hφ λy hy=>?_
  obtain ⟨j,hj,rfl⟩:=List.mem_map.1 hy
  rw [<- hcol j (hl j hj)]
  exact h0 j hj
end
section
variable {O : aQ} {El : Int->Prop} {m n : Nat}
def dE (O : aQ) (a b : Nat->Int) : Nat->Int
 | 0=>0
 | t+1=>O.add (dE O a b t) (O.mul (a t) (b t))
theorem nL (F : cK O El) {a b : Nat->Int} : ∀t,(∀p,p<t->El (a p))->(∀p,p<t->El (b p))->El (dE O a b t)
 | 0,_,_=>F.zero
 | t+1,ha,hb=>F.cl.add _ _ (nL F t (λp hp=>ha p (by omega)) λp hp=>hb p (by omega)) (F.cl.mul _ _ (ha t (by omega)) (hb t (by omega)))
theorem di {a b a' b' : Nat->Int} : ∀t,(∀p,p<t->a p=a' p/\b p=b' p)->dE O a b t=dE O a' b' t
 | 0,_=>rfl
 | t+1,h=>by rw [dE,dE,di t λp hp=>h p (by omega),(h t (by omega)).1,(h t (by omega)).2]
theorem jO (F : cK O El) {a b : Nat->Int} {x : Nat} (hx : El (O.mul (a x) (b x))) : ∀t,(∀p,p<t->p ≠ x->O.mul (a p) (b p)=0)->dE O a b t=if x<t then O.mul (a x) (b x) else 0
 | 0,_=>rfl
 | t+1,h=>by
  rw [dE,jO F hx t λp hp=>h p (by omega)]
  by_cases e : t=x
  ·subst e
   rw [if_neg (by omega),if_pos (by omega),F.Aj hx]
  ·rw [h t (by omega) e]
   by_cases e2 : x<t
   ·rw [if_pos e2,if_pos (by omega),F.add_zero _ hx]
   ·rw [if_neg e2,if_neg (by omega),F.add_zero 0 F.zero]
variable {G K : Ll}
end
section
variable {O : aQ} {El : Int->Prop} {m n : Nat}
structure se (L : Ll) (P : Lz) : Prop where
 lead : ∀i x,i<P.length->x<(nth P i).toNat->nth (aj L i) x=0
 asc : ∀i j,i<j->j<P.length->nth P i<nth P j
theorem qB (F : cK O El) {L : Ll} (hL : bH El m L) : ∀k,k<=m->se (aA O L k).1 (aA O L k).2
 | 0,_=>⟨λi x hi=>by simp [aA] at hi,λi j _ hj=>by simp [aA] at hj⟩
 | k+1,hk=>by
  have ih:=qB F hL k (by omega)
  obtain ⟨h1,_,_⟩:=jQ F hL k (by omega)
  have hR:=lu F hL k (by omega)
  have hb:=oO (L:=(aA O L k).1) (c:=k) (k:=(aA O L k).2.length) h1.le
  by_cases hlt : (aA O L k).2.length<(aA O L k).1.length
  ·rw [dp (Lk:=(aA O L k).1) (P:=(aA O L k).2) rfl hlt]
   split
   ·exact ih
   ·rename_i hf
    have hfl : bu (aA O L k).1 k (aA O L k).2.length<(aA O L k).1.length:=by omega
    have hne : nth (aj (aA O L k).1 (bu (aA O L k).1 k (aA O L k).2.length)) k ≠ 0:=kB _ k _ _ (by show bu _ k _<_;omega)
    generalize bu (aA O L k).1 k (aA O L k).2.length=r at *
    generalize (aA O L k).1=A at *
    generalize (aA O L k).2=P at *
    have hp : El (nth (aj A r) k):=Vc.at (hR.row hfl) (by omega)
    have hpi:=F.cl.inv _ hp hne
    refine ⟨λi x hi hx=>?_,λi j hij hj=>?_⟩
    ·rw [List.length_append,List.length_singleton] at hi
     have hx' : x<m:=by
      rw [iV] at hx
      by_cases e : i<P.length
      ·rw [if_pos e] at hx;have:=h1.lt i e;omega
      ·rw [if_neg e,if_pos (by omega)] at hx;omega
     rw [fF F hR hlt hfl (by omega) hne (i:=i) (by omega) hx']
     rw [iV] at hx
     by_cases e : i<P.length
     ·rw [if_pos e] at hx
      have h2:=h1.lt i e
      rw [if_neg (by omega),show sw P.length r i=i by unfold sw;rw [if_neg (by omega),if_neg (by omega)],h1.zero r x hb.1 hfl (by omega),F.dA hpi,F.mO (Vc.at (hR.row (by omega)) (by omega)),F.gF,F.add_zero _ (Vc.at (hR.row (by omega)) hx')]
      exact ih.lead i x e hx
     ·rw [if_neg e,if_pos (by omega)] at hx
      rw [if_pos (by omega),h1.zero r x hb.1 hfl (by omega),F.dA hpi]
    ·rw [List.length_append,List.length_singleton] at hj
     rw [iV,iV,if_pos (by omega)]
     by_cases e : j<P.length
     ·rw [if_pos e];exact ih.asc i j hij e
     ·rw [if_neg e,if_pos (by omega)]
      have:=h1.lt i (by omega)
      omega
  ·have hfull : (aA O L k).2.length=L.length:=by have:=bM O L k;have:=h1.le;omega
   rw [fC hfull 1]
   exact ih
theorem inv_one (F : cK O El) : O.inv 1=1:=by
 have h:=F.mul_inv 1 F.one (by decide)
 rwa [F.one_mul _ (F.cl.inv 1 F.one (by decide))] at h
theorem tT (O : aQ) {R : Ll} {t c : Nat} (h : ∀i,i<R.length->i ≠ t->nth (aj R i) c=0) : ∀i,i<=R.length->clearTo O t c R i=R
 | 0,_=>rfl
 | i+1,hi=>by
  unfold clearTo
  rw [tT O h i (by omega)]
  split
  ·rfl
  ·rename_i e
   unfold bW
   rw [if_pos (h i (by omega) e),gU]
theorem Ar (F : cK O El) {R : Ll} {P : Lz} (hP : nw R P m) (hl : se R P) (hlen : R.length=P.length) : ∀k,k<=m ->
  ∃t,t<=P.length/\aA O R k=(R,P.take t)/\(∀j,j<t->nth P j<k)/\(∀j,t<=j->j<P.length->(k : Int)<=nth P j)
 | 0,_=>⟨0,Nat.zero_le _,by simp [aA],λj hj=>by omega,λj _ hj=>(hP.lt j hj).1⟩
 | k+1,hk=>by
  obtain ⟨t,ht,he,h1,h2⟩:=Ar F hP hl hlen k (by omega)
  have htl : (P.take t).length=t:=by rw [List.length_take];omega
  by_cases htt : t=P.length
  ·refine ⟨t,ht,?_,λj hj=>by have:=h1 j hj;omega,λj h3 h4=>by omega⟩
   have hfull : (aA O R k).2.length=R.length:=by rw [he];show (P.take t).length=_;omega
   rw [fC hfull 1,he]
  ·have htR : t<R.length:=by omega
   rw [dp (Lk:=R) (P:=P.take t) he.symm (by rw [htl];exact htR),htl]
   by_cases hpk : nth P t=k
   ·have h11:=hP.one t t (by omega) htR
    rw [hpk,if_pos rfl,Int.toNat_natCast] at h11
    have hf : bu R k t=t:=by rw [gr htR,if_neg (by rw [h11];decide)]
    rw [hf,if_neg (by omega)]
    have hpv : eB O R t t k=R:=by
     rw [gQ,if_pos rfl]
     have hn : bp O R t k=R:=by unfold bp;rw [h11,if_pos (inv_one F)]
     rw [hn]
     refine tT O (λi hi hit=>?_) _ (Nat.le_refl _)
     have:=hP.one t i (by omega) hi
     rw [hpk,if_neg hit,Int.toNat_natCast] at this
     exact this
    rw [hpv]
    refine ⟨t+1,by omega,?_,λj hj=>?_,λj h3 h4=>?_⟩
    ·rw [List.take_succ_eq_append_getElem (by omega),<- ai,hpk]
    ·by_cases e : j=t
     ·subst e;omega
     ·have:=h1 j (by omega);omega
    ·have:=hl.asc t j (by omega) h4
     omega
   ·have hgt : (k : Int)<nth P t:=by have:=h2 t (Nat.le_refl _) (by omega);omega
    have hz : ∀i,t<=i->i<R.length->nth (aj R i) k=0:=λi h3 h4=>by
     refine hl.lead i k (by omega) ?_
     by_cases e : i=t
     ·subst e;omega
     ·have:=hl.asc t i (by omega) (by omega);omega
    have hf : ∀d i,d=R.length - i->t<=i->i<=R.length->bu R k i=R.length:=by
     intro d
     induction d with
     | zero=>intro i h3 _ h5;rw [i9 (by omega)];omega
     | succ d ih =>
      intro i h3 h4 h5
      rw [gr (by omega),if_pos (hz i h4 (by omega))]
      exact ih (i+1) (by omega) (by omega) (by omega)
    rw [hf _ t rfl (Nat.le_refl _) (by omega),if_pos rfl]
    refine ⟨t,ht,rfl,λj hj=>by have:=h1 j hj;omega,λj h3 h4=>?_⟩
    by_cases e : j=t
    ·subst e;omega
    ·have:=hl.asc t j (by omega) h4;omega
theorem tJ (F : cK O El) {R : Ll} {P : Lz} (hP : nw R P m) (hl : se R P) (hlen : R.length=P.length) : aA O R m=(R,P):=by
 obtain ⟨t,ht,he,h1,h2⟩:=Ar F hP hl hlen m (Nat.le_refl _)
 have : t=P.length:=by
  apply Classical.byContradiction
  intro h
  have h3:=h2 t (Nat.le_refl _) (by omega)
  have h4:=hP.lt t (by omega)
  omega
 rw [he,this,List.take_length]
def dD (O : aQ) (m : Nat) (L : Ll) : Ll:=(aA O L m).1.take (aA O L m).2.length
theorem lT {L : Ll} {t i : Nat} (h : i<t) : aj (L.take t) i=aj L i:=by
 unfold aj
 simp only [List.getD_eq_getElem?_getD,List.getElem?_take]
 rw [if_pos h]
theorem cU (F : cK O El) {L : Ll} (hL : bH El m L) : (dD O m L).length=(aA O L m).2.length:=by
 have h1:=(jQ F hL m (Nat.le_refl _)).1.le
 unfold dD
 rw [List.length_take];omega
theorem fh (F : cK O El) {L : Ll} (hL : bH El m L) : bH El m (dD O m L):=λr hr=>lu F hL m (Nat.le_refl _) r (List.mem_of_mem_take hr)
theorem du (F : cK O El) {L : Ll} (hL : bH El m L) : nw (dD O m L) (aA O L m).2 m/\se (dD O m L) (aA O L m).2:=by
 have h1:=(jQ F hL m (Nat.le_refl _)).1
 have h2:=qB F hL m (Nat.le_refl _)
 have hl:=cU F hL
 refine ⟨⟨by omega,h1.lt,λj i hj hi=>?_,λi x hi1 hi2 _=>by omega⟩,⟨λi x hi hx=>?_,h2.asc⟩⟩
 ·unfold dD
  rw [lT (by omega)]
  exact h1.one j i hj (by have:=h1.le;omega)
 ·unfold dD
  rw [lT hi]
  exact h2.lead i x hi hx
theorem RS.GG (F : cK O El) {L : Ll} {f : Nat->Int} (h : ∀x,x<m->f x=0) : RS O El m L f:=by
 refine ⟨λ_=>0,⟨λ_ _=>F.zero,λv r x hv hr hx=>?_,λr x hr hx=>(F.dA hx).symm⟩,λx hx=>h x hx⟩
 show (0 : Int)=O.add 0 (O.neg (O.mul x 0))
 rw [F.dA hx,F.gF,F.add_zero 0 F.zero]
theorem eF (F : cK O El) {L : Ll} (hL : bH El m L) : iD O El m (dD O m L) L/\iD O El m L (dD O m L):=by
 obtain ⟨h1,h2,h3⟩:=jQ F hL m (Nat.le_refl _)
 have hl:=cU F hL
 refine ⟨λi hi=>?_,h3.trans λi hi=>?_⟩
 ·have e : aj (dD O m L) i=aj (aA O L m).1 i:=by unfold dD;exact lT (by omega)
  rw [e];exact h2 i (by have:=h1.le;omega)
 ·by_cases e : i<(aA O L m).2.length
  ·have e2 : aj (aA O L m).1 i=aj (dD O m L) i:=by unfold dD;exact (lT e).symm
   rw [e2];exact RS.row F (by omega)
  ·exact RS.GG F λx hx=>h1.zero i x (by omega) hi hx
theorem Ca (F : cK O El) {L : Ll} (hL : bH El m L) : Rk (nR O El (dD O m L).length (bf (dD O m L))) (List.range m) (dD O m L).length:=by
 have h:=Eu F (fh F hL)
 obtain ⟨h1,h2⟩:=du F hL
 rw [tJ F h1 h2 (cU F hL)] at h
 rw [cU F hL]
 rw [cU F hL] at h
 exact h
variable {R : Ll} {P : Lz}
end
section
open Go.RowKit
end
theorem eW {P M : Int} {mod : Lz} (h : aZ P M mod=true) : ∃m : Nat,M=m/\RF P m/\(∀(w : World) am mn,Ints w am mn mod->p9 w P m am mn mod):=by
 unfold aZ b8 at h
 simp only [Bool.and_eq_true,bne_iff_ne,ne_eq] at h
 obtain ⟨⟨⟨h1,h2⟩,h3⟩,h4⟩:=h
 obtain ⟨m,rfl,hrf⟩:=RF.of h1
 refine ⟨m,rfl,hrf,λw am mn hi=>⟨hi,λhm=>?_,?_⟩⟩
 ·rw [if_neg (by omega)] at h3
  simp only [Bool.and_eq_true,decide_eq_true_eq] at h3
  have:=hi.len
  omega
 ·by_cases hm : (m : Int)=1
  ·rw [if_pos hm] at h3
   have : mod=[]:=List.eq_nil_of_length_eq_zero (by simpa using h3)
   subst this
   exact cR.jZ (by have:=hrf.p2;omega) (by simp)
  ·rw [if_neg hm] at h3
   simp only [Bool.and_eq_true] at h3
   refine cR.jZ (by have:=hrf.p2;omega) λx hx=>?_
   have:=List.all_eq_true.1 h3.2 x hx
   simpa using this
section
open Go.RowKit
end
section
open Go.RowKit
end
section
open Go.RowKit
end
end Go.Proofs.YtcfmiocdlcapoaaGreat
