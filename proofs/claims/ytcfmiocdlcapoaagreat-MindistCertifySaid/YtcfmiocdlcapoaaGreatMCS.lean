import Derived.Test.YtcfmiocdlcapoaaGreatMCSJ
import Derived.Test.YtcfmiocdlcapoaaGreatMCS35
namespace Go.Proofs.YtcfmiocdlcapoaaGreat
set_option linter.all false
set_option maxRecDepth 100000
open Go.RowKit
section
open Go.ChangeShapes Go.WideShapes Go.ChangeAt Go.RowKit
theorem mCertify_lifted (os : Os) (started : os.Started) (H : Type) (enc : TypeId × Value->H) :
  ReturnsInHanded {} Tryz.checked os 4 .any (Rows.mindistCertifySpec.pre6 enc Tryz.prog Tryz.f4 Rows.mindistCertifyRow.domain false) (Rows.mindistCertifySpec.post enc Tryz.prog Tryz.f4 false true false false):=by
 refine returnsInHanded_of_change (C:=Tryz.checked) Tryz.own started (by kernel_rfl) Tryz.func4
  (ChangeSpec.witness6 (enc:=enc) (C:=Tryz.checked) false ⟨#[],#[.agg #[.int .i64 0,.int .i64 0,.slice none 0 0,.int .i64 0,.slice none 0 0]],[]⟩ 8 (by kernel_rfl) (by kernel_rfl) (by kernel_rfl) (by kernel_rfl)) ?_
 intro W base args ds gs before hval0 hW hcnd _;have hval : ∀(j : Nat) t v,Tryz.f4.params[j]? = some t->args[j]? = some v->Value.okWide Tryz.prog W .any base t v:=hval0;have hW':=hW;obtain ⟨p,q,hA0,hV,rfl,hfz,hnd⟩:=hW;have hA : DataW.TrodAll enc Tryz.prog W 0 (λ_=>true) true Tryz.f4.params.toList args.toList ds p:=hA0;rw [Tryz.params4] at hA hval;obtain ⟨v0,vs0,d0,ds0,p0,q0,hargs,rfl,rfl,h0,r0⟩:=trodAll_cons hA;obtain ⟨rfl,rfl,rfl⟩:=trodAll_nil r0;obtain rfl : args = #[v0]:=by cases args;simp_all
 obtain ⟨rfl,rfl⟩:=trodVars_none hV;have k0:=h0;have lt0 : ∀x ∈ p0,x.block<W.heap.size:=by obtain ⟨m,hm⟩:=k0;exact DataW.trod_lt m _ _ _ hm
 obtain ⟨P,M,am,mn,cm,mod,N,a,n,c,L,rfl,hI0,hM0⟩:=Ey (hval 0 _ v0 rfl rfl) h0;clear hA0 hval0;refine (pH P M am mn cm mod N a n c L W hI0 hM0).mono λe W' ⟨he,bel⟩=>?_;subst he;exact ⟨_,rfl,_,_,_,[],_,[],hW',trodAll_mk1 (shut_bool Tryz.underlying4 _),(trodAll_cons_mk (Below.trod Tryz.laid (by kernel_rfl) (LY (by kernel_rfl)) k0 bel lt0) trodAll_mk0),rfl,bel.frame _,λh=>by cases h⟩
theorem mCertify_over : Rows.mindistCertifyRow.holds Tryz.pinned (OpenSpec.ofChange Rows.mindistCertifySpec) :=
 OpenClaim.holds_of_wide 4 Tryz.f4 rfl rfl rfl rfl rfl rfl rfl ⟨rfl,rfl,rfl,rfl,rfl⟩ rfl rfl rfl rfl rfl (by kernel_rfl) Tryz.func4 po
  (LY (by kernel_rfl)) (by unfold Func.isWrapper;first | (rw [I6 (by decide +kernel)];kernel_rfl) | (rw [I5 (by decide +kernel)];exact ⟨rfl,rfl⟩))
  (λos started H enc _=>mCertify_lifted os started H enc)
theorem mCertify_holds : Rows.MindistCertifySaid:=mCertify_over
end
end Go.Proofs.YtcfmiocdlcapoaaGreat
