import Derived.Test.YthglbncgemdcbaaGreatCKJ
import Derived.Test.YthglbncgemdcbaaGreatCK24
namespace Go.Proofs.YthglbncgemdcbaaGreat
set_option linter.all false
set_option maxRecDepth 100000
open Go.RowKit
section
open Go.ChangeShapes Go.WideShapes Go.ChangeAt Go.RowKit
theorem lChk_lifted (os : Os) (started : os.Started) (H : Type) (enc : TypeId × Value->H) :
  ReturnsInHanded {} Tryz.checked os 7 .any (Rows.localityChecksSpec.pre6 enc Tryz.prog Tryz.f7 Rows.localityChecksRow.domain false) (Rows.localityChecksSpec.post enc Tryz.prog Tryz.f7 false true false false):=by
 refine returnsInHanded_of_change (C:=Tryz.checked) Tryz.own started (by kernel_rfl) Tryz.func7
  (ChangeSpec.witness6 (enc:=enc) (C:=Tryz.checked) false ⟨#[],#[.agg #[.int .i64 0,.int .i64 0,.slice none 0 0,.int .i64 0,.slice none 0 0],.agg #[.slice none 0 0,.slice none 0 0]],[]⟩ 8 (by kernel_rfl) (by kernel_rfl) (by kernel_rfl) (by kernel_rfl)) ?_
 intro W base args ds gs before Y hW hcnd _;have Z : ∀(j : Nat) t v,Tryz.f7.params[j]? = some t->args[j]? = some v->Value.okWide Tryz.prog W .any base t v:=Y;have G:=hW;obtain ⟨p,q,X,hV,rfl,hfz,hnd⟩:=hW;have hA : DataW.TrodAll enc Tryz.prog W 0 (λ_=>true) true Tryz.f7.params.toList args.toList ds p:=X;rw [Tryz.params7] at hA Z;obtain ⟨v0,vs0,d0,ds0,p0,q0,Q,rfl,rfl,h0,r0⟩:=trodAll_cons hA;obtain ⟨v1,vs1,d1,ds1,p1,q1,rfl,rfl,rfl,h1,r1⟩:=trodAll_cons r0;obtain ⟨rfl,rfl,rfl⟩:=trodAll_nil r1;obtain rfl : args = #[v0,v1]:=by cases args;simp_all
 obtain ⟨rfl,rfl⟩:=trodVars_none hV;have k0:=h0;have r:=h1;have O : ∀x ∈ p0,x.block<W.heap.size:=by obtain ⟨m,hm⟩:=k0;exact DataW.trod_lt m _ _ _ hm
 have F : ∀x ∈ p1,x.block<W.heap.size:=by obtain ⟨m,hm⟩:=r;exact DataW.trod_lt m _ _ _ hm
 obtain ⟨P,M,am,mn,cm,mod,N,a,n,c,L,rfl,S,E⟩:=E2 (Z 0 _ v0 rfl rfl) h0;obtain ⟨A,K,V,S1,I,z,B,T1,rfl,U,D⟩:=Co (Z 1 _ v1 rfl rfl) h1;clear X Y;refine (qk P M am mn cm mod N a n c L A K V S1 I z B T1 W S E U D).mono λe W' ⟨he,bel⟩=>?_;subst he;exact ⟨_,rfl,_,_,_,[],_,[],G,trodAll_mk1 (shut_bool Tryz.underlying4 _),(trodAll_cons_mk (Below.trod Tryz.laid (by kernel_rfl) (MD (by kernel_rfl)) k0 bel O) (trodAll_cons_mk (Below.trod Tryz.laid (by kernel_rfl) (MD (by kernel_rfl)) r bel F) trodAll_mk0)),rfl,bel.frame _,λh=>by cases h⟩
theorem lChk_over : Rows.localityChecksRow.holds Tryz.pinned (OpenSpec.ofChange Rows.localityChecksSpec) :=
 OpenClaim.holds_of_wide 7 Tryz.f7 rfl rfl rfl rfl rfl rfl rfl ⟨rfl,rfl,rfl,rfl,rfl⟩ rfl rfl rfl rfl rfl (by kernel_rfl) Tryz.func7 xR
  (MD (by kernel_rfl)) (by unfold Func.isWrapper;first | (rw [JT (by decide +kernel)];kernel_rfl) | (rw [JR (by decide +kernel)];exact ⟨rfl,rfl⟩))
  (λos started H enc _=>lChk_lifted os started H enc)
theorem lChk_holds : Rows.LocalityChecksSaid:=lChk_over
end
end Go.Proofs.YthglbncgemdcbaaGreat
