/- For any description of a code: its least distance keeps the Singleton-like bound of its locality (LocalityBounds answers true). Conditions: those of the row, no more. -/
import Derived.Test.YthglbncgemdcbaaGreatBOJ
import Derived.Test.YthglbncgemdcbaaGreatBO27
namespace Go.Proofs.YthglbncgemdcbaaGreat
set_option linter.all false
set_option maxRecDepth 100000
open Go.RowKit
section
open Go.ChangeShapes Go.WideShapes Go.ChangeAt Go.RowKit
theorem lBnd_lifted (os : Os) (started : os.Started) (H : Type) (enc : TypeId × Value->H) :
  ReturnsInHanded {} Tryz.checked os 12 .any (Rows.localityBoundsSpec.pre6 enc Tryz.prog Tryz.f12 Rows.localityBoundsRow.domain false) (Rows.localityBoundsSpec.post enc Tryz.prog Tryz.f12 false true false false):=by
 refine returnsInHanded_of_change (C:=Tryz.checked) Tryz.own started (by kernel_rfl) Tryz.func12
  (ChangeSpec.witness6 (enc:=enc) (C:=Tryz.checked) false ⟨#[],#[.agg #[.int .i64 0,.int .i64 0,.slice none 0 0,.int .i64 0,.slice none 0 0]],[]⟩ 8 (by kernel_rfl) (by kernel_rfl) (by kernel_rfl) (by kernel_rfl)) ?_
 intro W base args E gs before Z G hcnd _;have Y : ∀(j : Nat) t v,Tryz.f12.params[j]? = some t->args[j]? = some v->Value.okWide Tryz.prog W .any base t v:=Z;have S:=G;obtain ⟨p,q,X,hV,rfl,r,hnd⟩:=G;have K : DataW.TrodAll enc Tryz.prog W 0 (λ_=>true) true Tryz.f12.params.toList args.toList E p:=X;rw [Tryz.params12] at K Y;obtain ⟨v0,D,d0,A,p0,q0,O,rfl,rfl,h0,z⟩:=trodAll_cons K;obtain ⟨rfl,rfl,rfl⟩:=trodAll_nil z;obtain rfl : args = #[v0]:=by cases args;simp_all
 obtain ⟨rfl,rfl⟩:=trodVars_none hV;have I:=h0;have Q : ∀x ∈ p0,x.block<W.heap.size:=by obtain ⟨m,hm⟩:=I;exact DataW.trod_lt m _ _ _ hm
 obtain ⟨P,M,am,F,B,mod,N,a,n,c,L,rfl,V,U⟩:=IT (Y 0 _ v0 rfl rfl) h0;clear X Z;refine (rW P M am F B mod N a n c L W V U).mono λe W' ⟨he,bel⟩=>?_;subst he;exact ⟨_,rfl,_,_,_,[],_,[],S,trodAll_mk1 (shut_bool Tryz.underlying4 _),(trodAll_cons_mk (Below.trod Tryz.laid (by kernel_rfl) (Rj (by kernel_rfl)) I bel Q) trodAll_mk0),rfl,bel.frame _,λh=>by cases h⟩
theorem lBnd_over : Rows.localityBoundsRow.holds Tryz.pinned (OpenSpec.ofChange Rows.localityBoundsSpec) :=
 OpenClaim.holds_of_wide 12 Tryz.f12 rfl rfl rfl rfl rfl rfl rfl ⟨rfl,rfl,rfl,rfl,rfl⟩ rfl rfl rfl rfl rfl (by kernel_rfl) Tryz.func12 yQ
  (Rj (by kernel_rfl)) (by unfold Func.isWrapper;first | (rw [M7 (by decide +kernel)];kernel_rfl) | (rw [M8 (by decide +kernel)];exact ⟨rfl,rfl⟩))
  (λos started H enc _=>lBnd_lifted os started H enc)
theorem lBnd_holds : Rows.LocalityBoundsSaid:=lBnd_over
end
end Go.Proofs.YthglbncgemdcbaaGreat
