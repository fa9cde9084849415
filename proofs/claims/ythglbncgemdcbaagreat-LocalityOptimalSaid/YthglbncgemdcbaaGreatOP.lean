/- For any field and numbers, a Tamo-Barg code has its dimension, each coset determines its positions, and no word of a nonzero message is lighter than the bound (LocalityOptimal answers true). Conditions: those of the row, no more. -/
import Derived.Test.YthglbncgemdcbaaGreatOPJ
import Derived.Test.YthglbncgemdcbaaGreatOP2
namespace Go.Proofs.YthglbncgemdcbaaGreat
set_option linter.all false
set_option maxRecDepth 100000
open Go.RowKit
section
open Go.ChangeShapes Go.WideShapes Go.ChangeAt Go.RowKit
theorem lOpt_lifted (os : Os) (started : os.Started) (H : Type) (enc : TypeId × Value->H) :
  ReturnsInHanded {} Tryz.checked os 11 .any (Rows.localityOptimalSpec.pre6 enc Tryz.prog Tryz.f11 Rows.localityOptimalRow.domain false) (Rows.localityOptimalSpec.post enc Tryz.prog Tryz.f11 false true false false):=by
 refine returnsInHanded_of_change (C:=Tryz.checked) Tryz.own started (by kernel_rfl) Tryz.func11
  (Px (enc:=enc) (C:=Tryz.checked) false ⟨#[],#[.agg #[.int .i64 0,.int .i64 0,.slice none 0 0],.agg #[.int .i64 0,.int .i64 0,.int .i64 0],.slice none 0 0],[]⟩ 8 (by kernel_rfl) (by kernel_rfl) (by kernel_rfl) (by kernel_rfl)) ?_
 intro W base args ds gs before hval0 hW hcnd _;have hval : ∀(j : Nat) t v,Tryz.f11.params[j]? = some t->args[j]? = some v->Value.okWide Tryz.prog W .any base t v:=hval0;have hW':=hW;obtain ⟨p,q,hA0,hV,rfl,hfz,hnd⟩:=hW;have hA : DataW.TrodAll enc Tryz.prog W 0 (λ_=>true) true Tryz.f11.params.toList args.toList ds p:=hA0;rw [Tryz.params11] at hA hval;obtain ⟨v0,vs0,d0,ds0,p0,q0,hargs,rfl,rfl,h0,r0⟩:=trodAll_cons hA;obtain ⟨v1,vs1,d1,ds1,p1,q1,rfl,rfl,rfl,h1,r1⟩:=trodAll_cons r0;obtain ⟨v2,vs2,d2,ds2,p2,q2,rfl,rfl,rfl,h2,r2⟩:=trodAll_cons r1;obtain ⟨rfl,rfl,rfl⟩:=trodAll_nil r2;obtain rfl : args = #[v0,v1,v2]:=by cases args;simp_all
 obtain ⟨rfl,rfl⟩:=trodVars_none hV;have k0:=h0;have k1:=h1;have k2:=h2;have lt0 : ∀x ∈ p0,x.block<W.heap.size:=by obtain ⟨m,hm⟩:=k0;exact Pu m _ _ _ hm
 have lt1 : ∀x ∈ p1,x.block<W.heap.size:=by obtain ⟨m,hm⟩:=k1;exact Pu m _ _ _ hm
 have lt2 : ∀x ∈ p2,x.block<W.heap.size:=by obtain ⟨m,hm⟩:=k2;exact Pu m _ _ _ hm
 obtain ⟨P,M,am,mn,cm,mod,rfl,hI0⟩:=Of (hval 0 _ v0 rfl rfl) h0;obtain ⟨z1x,z1y,z1z,rfl⟩:=I5 (hval 1 _ v1 rfl rfl) h1;obtain ⟨a2x,n2x,c2x,Q2,rfl,hQ2⟩:=Ot (hval 2 _ v2 rfl rfl) h2;clear hA0 hval0;refine (q8 P M am mn cm mod z1x z1y z1z a2x n2x c2x Q2 W hI0 hQ2).mono λe W' ⟨he,bel⟩=>?_;subst he;exact ⟨_,rfl,_,_,_,[],_,[],hW',trodAll_mk1 (shut_bool Tryz.underlying4 _),(trodAll_cons_mk (P4 Tryz.laid (by kernel_rfl) (Oh (by kernel_rfl)) k0 bel lt0) (trodAll_cons_mk (P4 Tryz.laid (by kernel_rfl) (Oh (by kernel_rfl)) k1 bel lt1) (trodAll_cons_mk (P4 Tryz.laid (by kernel_rfl) (Oh (by kernel_rfl)) k2 bel lt2) trodAll_mk0))),rfl,bel.frame _,λh=>by cases h⟩
theorem lOpt_over : Rows.localityOptimalRow.holds Tryz.pinned (OpenSpec.ofChange Rows.localityOptimalSpec) :=
 O5 11 Tryz.f11 rfl rfl rfl rfl rfl rfl rfl ⟨rfl,rfl,rfl,rfl,rfl⟩ rfl rfl rfl rfl rfl (by kernel_rfl) Tryz.func11 fp
  (Oh (by kernel_rfl)) (by unfold Func.isWrapper;first | (rw [Nd (by decide +kernel)];kernel_rfl) | (rw [Nf (by decide +kernel)];exact ⟨rfl,rfl⟩))
  (λos started H enc _=>lOpt_lifted os started H enc)
theorem lOpt_holds : Rows.LocalityOptimalSaid:=lOpt_over
#print axioms lOpt_holds
end
end Go.Proofs.YthglbncgemdcbaaGreat
