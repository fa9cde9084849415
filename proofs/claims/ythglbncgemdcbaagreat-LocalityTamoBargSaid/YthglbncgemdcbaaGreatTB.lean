/- For any field and numbers, TamoBarg gives the code or the error that the reference gives (LocalityTamoBarg answers true). Conditions: those of the row, no more. -/
import Derived.Test.YthglbncgemdcbaaGreatTBJ
import Derived.Test.YthglbncgemdcbaaGreatTB2
namespace Go.Proofs.YthglbncgemdcbaaGreat
set_option linter.all false
set_option maxRecDepth 100000
open Go.RowKit
section
open Go.ChangeShapes Go.WideShapes Go.ChangeAt Go.RowKit
theorem lTbg_lifted (os : Os) (started : os.Started) (H : Type) (enc : TypeId × Value->H) :
  ReturnsInHanded {} Tryz.checked os 5 .any (Rows.localityTamoBargSpec.pre6 enc Tryz.prog Tryz.f5 Rows.localityTamoBargRow.domain false) (Rows.localityTamoBargSpec.post enc Tryz.prog Tryz.f5 false true false false):=by
 refine returnsInHanded_of_change (C:=Tryz.checked) Tryz.own started (by kernel_rfl) Tryz.func5
  (Px (enc:=enc) (C:=Tryz.checked) false ⟨#[],#[.agg #[.int .i64 0,.int .i64 0,.slice none 0 0],.agg #[.int .i64 0,.int .i64 0,.int .i64 0]],[]⟩ 8 (by kernel_rfl) (by kernel_rfl) (by kernel_rfl) (by kernel_rfl)) ?_
 intro W base args ds gs before hval0 hW hcnd _;have hval : ∀(j : Nat) t v,Tryz.f5.params[j]? = some t->args[j]? = some v->Value.okWide Tryz.prog W .any base t v:=hval0;have hW':=hW;obtain ⟨p,q,hA0,hV,rfl,hfz,hnd⟩:=hW;have hA : DataW.TrodAll enc Tryz.prog W 0 (λ_=>true) true Tryz.f5.params.toList args.toList ds p:=hA0;rw [Tryz.params5] at hA hval;obtain ⟨v0,vs0,d0,ds0,p0,q0,hargs,rfl,rfl,h0,r0⟩:=trodAll_cons hA;obtain ⟨v1,vs1,d1,ds1,p1,q1,rfl,rfl,rfl,h1,r1⟩:=trodAll_cons r0;obtain ⟨rfl,rfl,rfl⟩:=trodAll_nil r1;obtain rfl : args = #[v0,v1]:=by cases args;simp_all
 obtain ⟨rfl,rfl⟩:=trodVars_none hV;have k0:=h0;have k1:=h1;have lt0 : ∀x ∈ p0,x.block<W.heap.size:=by obtain ⟨m,hm⟩:=k0;exact Pu m _ _ _ hm
 have lt1 : ∀x ∈ p1,x.block<W.heap.size:=by obtain ⟨m,hm⟩:=k1;exact Pu m _ _ _ hm
 obtain ⟨P,M,am,mn,cm,mod,rfl,hI0⟩:=q8 (hval 0 _ v0 rfl rfl) h0;obtain ⟨z1x,z1y,z1z,rfl⟩:=I5 (hval 1 _ v1 rfl rfl) h1;clear hA0 hval0;refine (e9 P M am mn cm mod z1x z1y z1z W hI0).mono λe W' ⟨he,bel⟩=>?_;subst he;exact ⟨_,rfl,_,_,_,[],_,[],hW',trodAll_mk1 (shut_bool Tryz.underlying4 _),(trodAll_cons_mk (P4 Tryz.laid (by kernel_rfl) (Oh (by kernel_rfl)) k0 bel lt0) (trodAll_cons_mk (P4 Tryz.laid (by kernel_rfl) (Oh (by kernel_rfl)) k1 bel lt1) trodAll_mk0)),rfl,bel.frame _,λh=>by cases h⟩
theorem lTbg_over : Rows.localityTamoBargRow.holds Tryz.pinned (OpenSpec.ofChange Rows.localityTamoBargSpec) :=
 O5 5 Tryz.f5 rfl rfl rfl rfl rfl rfl rfl ⟨rfl,rfl,rfl,rfl,rfl⟩ rfl rfl rfl rfl rfl (by kernel_rfl) Tryz.func5 e8
  (Oh (by kernel_rfl)) (by unfold Func.isWrapper;first | (rw [Nd (by decide +kernel)];kernel_rfl) | (rw [Nf (by decide +kernel)];exact ⟨rfl,rfl⟩))
  (λos started H enc _=>lTbg_lifted os started H enc)
theorem lTbg_holds : Rows.LocalityTamoBargSaid:=lTbg_over
#print axioms lTbg_holds
end
end Go.Proofs.YthglbncgemdcbaaGreat
