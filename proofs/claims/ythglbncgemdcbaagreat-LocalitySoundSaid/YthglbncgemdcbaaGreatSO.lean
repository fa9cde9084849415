/- For any description of a code and certificate that Check accepts, the returned numbers are the least that determine the positions (LocalitySound answers true). Conditions: those of the row, no more. -/
import Derived.Test.YthglbncgemdcbaaGreatSOJ
import Derived.Test.YthglbncgemdcbaaGreatSO2
namespace Go.Proofs.YthglbncgemdcbaaGreat
set_option linter.all false
set_option maxRecDepth 100000
open Go.RowKit
section
open Go.ChangeShapes Go.WideShapes Go.ChangeAt Go.RowKit
theorem lSnd_lifted (os : Os) (started : os.Started) (H : Type) (enc : TypeId × Value->H) :
  ReturnsInHanded {} Tryz.checked os 10 .any (Rows.localitySoundSpec.pre6 enc Tryz.prog Tryz.f10 Rows.localitySoundRow.domain false) (Rows.localitySoundSpec.post enc Tryz.prog Tryz.f10 false true false false):=by
 refine returnsInHanded_of_change (C:=Tryz.checked) Tryz.own started (by kernel_rfl) Tryz.func10
  (Px (enc:=enc) (C:=Tryz.checked) false ⟨#[],#[.agg #[.int .i64 0,.int .i64 0,.slice none 0 0,.int .i64 0,.slice none 0 0],.agg #[.slice none 0 0,.slice none 0 0],.int .u32 0],[]⟩ 8 (by kernel_rfl) (by kernel_rfl) (by kernel_rfl) (by kernel_rfl)) ?_
 intro W base args ds gs before hval0 hW hcnd _;have hval : ∀(j : Nat) t v,Tryz.f10.params[j]? = some t->args[j]? = some v->Value.okWide Tryz.prog W .any base t v:=hval0;have hW':=hW;obtain ⟨p,q,hA0,hV,rfl,hfz,hnd⟩:=hW;have hA : DataW.TrodAll enc Tryz.prog W 0 (λ_=>true) true Tryz.f10.params.toList args.toList ds p:=hA0;rw [Tryz.params10] at hA hval;obtain ⟨v0,vs0,d0,ds0,p0,q0,hargs,rfl,rfl,h0,r0⟩:=trodAll_cons hA;obtain ⟨v1,vs1,d1,ds1,p1,q1,rfl,rfl,rfl,h1,r1⟩:=trodAll_cons r0;obtain ⟨v2,vs2,d2,ds2,p2,q2,rfl,rfl,rfl,h2,r2⟩:=trodAll_cons r1;obtain ⟨rfl,rfl,rfl⟩:=trodAll_nil r2;obtain rfl : args = #[v0,v1,v2]:=by cases args;simp_all
 obtain ⟨rfl,rfl⟩:=trodVars_none hV;have k0:=h0;have k1:=h1;have lt0 : ∀x ∈ p0,x.block<W.heap.size:=by obtain ⟨m,hm⟩:=k0;exact Pu m _ _ _ hm
 have lt1 : ∀x ∈ p1,x.block<W.heap.size:=by obtain ⟨m,hm⟩:=k1;exact Pu m _ _ _ hm
 obtain ⟨P,M,am,mn,cm,mod,N,a,n,c,L,rfl,hI0,hM0⟩:=pd (hval 0 _ v0 rfl rfl) h0;obtain ⟨a1x,n1x,c1x,S1,a1y,n1y,c1y,T1,rfl,hS1,hT1⟩:=H7 (hval 1 _ v1 rfl rfl) h1;obtain ⟨z2,rfl,rfl,rfl,w2⟩:=open_int Tryz.underlying63 (hval 2 _ v2 rfl rfl) h2;have wb2 : 0<=z2/\z2<=4294967295:=by have h:=w2;simp [Lit.wf,IntKind.min,IntKind.max,IntKind.signed,IntKind.bits] at h;omega
 clear hA0 hval0;refine (ee P M am mn cm mod N a n c L a1x n1x c1x S1 a1y n1y c1y T1 z2 W hI0 hM0 hS1 hT1 wb2).mono λe W' ⟨he,bel⟩=>?_;subst he;exact ⟨_,rfl,_,_,_,[],_,[],hW',trodAll_mk1 (shut_bool Tryz.underlying4 _),(trodAll_cons_mk (P4 Tryz.laid (by kernel_rfl) (Oh (by kernel_rfl)) k0 bel lt0) (trodAll_cons_mk (P4 Tryz.laid (by kernel_rfl) (Oh (by kernel_rfl)) k1 bel lt1) (trodAll_cons_mk (shut_int Tryz.underlying63 w2) trodAll_mk0))),rfl,bel.frame _,λh=>by cases h⟩
theorem lSnd_over : Rows.localitySoundRow.holds Tryz.pinned (OpenSpec.ofChange Rows.localitySoundSpec) :=
 O5 10 Tryz.f10 rfl rfl rfl rfl rfl rfl rfl ⟨rfl,rfl,rfl,rfl,rfl⟩ rfl rfl rfl rfl rfl (by kernel_rfl) Tryz.func10 fp
  (Oh (by kernel_rfl)) (by unfold Func.isWrapper;first | (rw [Nd (by decide +kernel)];kernel_rfl) | (rw [Nf (by decide +kernel)];exact ⟨rfl,rfl⟩))
  (λos started H enc _=>lSnd_lifted os started H enc)
theorem lSnd_holds : Rows.LocalitySoundSaid:=lSnd_over
#print axioms lSnd_holds
end
end Go.Proofs.YthglbncgemdcbaaGreat
