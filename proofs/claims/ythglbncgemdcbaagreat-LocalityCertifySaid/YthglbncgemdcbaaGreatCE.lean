/- For any description of a code: the certificate of its locality is the one that the reference builds, and Check accepts it (LocalityCertify answers true). Conditions: those of the row, no more. -/
import Derived.Test.YthglbncgemdcbaaGreatCEJ
import Derived.Test.YthglbncgemdcbaaGreatCE26
namespace Go.Proofs.YthglbncgemdcbaaGreat
set_option linter.all false
set_option maxRecDepth 100000
open Go.RowKit
section
open Go.ChangeShapes Go.WideShapes Go.ChangeAt Go.RowKit
theorem lCert_lifted (os : Os) (started : os.Started) (H : Type) (enc : TypeId × Value->H) :
  ReturnsInHanded {} Tryz.checked os 6 .any (Rows.localityCertifySpec.pre6 enc Tryz.prog Tryz.f6 Rows.localityCertifyRow.domain false) (Rows.localityCertifySpec.post enc Tryz.prog Tryz.f6 false true false false):=by
 refine returnsInHanded_of_change (C:=Tryz.checked) Tryz.own started (by kernel_rfl) Tryz.func6
  (ChangeSpec.witness6 (enc:=enc) (C:=Tryz.checked) false ⟨#[],#[.agg #[.int .i64 0,.int .i64 0,.slice none 0 0,.int .i64 0,.slice none 0 0]],[]⟩ 8 (by kernel_rfl) (by kernel_rfl) (by kernel_rfl) (by kernel_rfl)) ?_
 intro W base args A gs before Z F hcnd _;have Y : ∀(j : Nat) t v,Tryz.f6.params[j]? = some t->args[j]? = some v->Value.okWide Tryz.prog W .any base t v:=Z;have Q:=F;obtain ⟨p,q,X,D,rfl,B,hnd⟩:=F;have K : DataW.TrodAll enc Tryz.prog W 0 (λ_=>true) true Tryz.f6.params.toList args.toList A p:=X;rw [Tryz.params6] at K Y;obtain ⟨v0,z,d0,ds0,E,q0,S,rfl,rfl,h0,r⟩:=trodAll_cons K;obtain ⟨rfl,rfl,rfl⟩:=trodAll_nil r;obtain rfl : args = #[v0]:=by cases args;simp_all
 obtain ⟨rfl,rfl⟩:=trodVars_none D;have G:=h0;have O : ∀x ∈ E,x.block<W.heap.size:=by obtain ⟨m,hm⟩:=G;exact DataW.trod_lt m _ _ _ hm
 obtain ⟨P,M,am,mn,cm,mod,N,a,n,c,L,rfl,V,U⟩:=EA (Y 0 _ v0 rfl rfl) h0;clear X Z;refine (qA P M am mn cm mod N a n c L W V U).mono λe W' ⟨he,bel⟩=>?_;subst he;exact ⟨_,rfl,_,_,_,[],_,[],Q,trodAll_mk1 (shut_bool Tryz.underlying4 _),(trodAll_cons_mk (Below.trod Tryz.laid (by kernel_rfl) (OR (by kernel_rfl)) G bel O) trodAll_mk0),rfl,bel.frame _,λh=>by cases h⟩
theorem lCert_over : Rows.localityCertifyRow.holds Tryz.pinned (OpenSpec.ofChange Rows.localityCertifySpec) :=
 OpenClaim.holds_of_wide 6 Tryz.f6 rfl rfl rfl rfl rfl rfl rfl ⟨rfl,rfl,rfl,rfl,rfl⟩ rfl rfl rfl rfl rfl (by kernel_rfl) Tryz.func6 wW
  (OR (by kernel_rfl)) (by unfold Func.isWrapper;first | (rw [KX (by decide +kernel)];kernel_rfl) | (rw [KY (by decide +kernel)];exact ⟨rfl,rfl⟩))
  (λos started H enc _=>lCert_lifted os started H enc)
theorem lCert_holds : Rows.LocalityCertifySaid:=lCert_over
end
end Go.Proofs.YthglbncgemdcbaaGreat
