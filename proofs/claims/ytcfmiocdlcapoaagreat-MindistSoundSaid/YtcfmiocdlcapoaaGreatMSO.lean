/-  -/
import Derived.Test.YtcfmiocdlcapoaaGreatMSOJ
import Derived.Test.YtcfmiocdlcapoaaGreatMSO5
import Derived.Test.YtcfmiocdlcapoaaGreatMSO3
namespace Go.Proofs.YtcfmiocdlcapoaaGreat
set_option linter.unusedVariables false
set_option linter.unusedSimpArgs false
set_option linter.unusedSectionVars false

section
set_option maxRecDepth 100000

open Go.ChangeShapes Go.WideShapes Go.ChangeAt Go.RowKit
theorem mSound_lifted (os : Os) (started : os.Started) (H : Type) (enc : TypeId × Value->H) :
  ReturnsInHanded {} Tryz.checked os 7 .any (Rows.mindistSoundSpec.pre6 enc Tryz.prog Tryz.f7 Rows.mindistSoundRow.domain false) (Rows.mindistSoundSpec.post enc Tryz.prog Tryz.f7 false true false false):=by
 refine returnsInHanded_of_change (C:=Tryz.checked) Tryz.own started (by kernel_rfl) Tryz.func7
  (ChangeSpec.witness6 (enc:=enc) (C:=Tryz.checked) false ⟨#[],#[.agg #[.int .i64 0,.int .i64 0,.slice none 0 0,.int .i64 0,.slice none 0 0],.agg #[.slice none 0 0,.slice none 0 0],.slice none 0 0],[]⟩ 8 (by kernel_rfl) (by kernel_rfl) (by kernel_rfl) (by kernel_rfl)) ?_
 intro W base args ds gs before hval0 hW hcnd _
 have hval : ∀(j : Nat) t v,Tryz.f7.params[j]? = some t->args[j]? = some v->Value.okWide Tryz.prog W .any base t v:=hval0
 have hW':=hW
 obtain ⟨p,q,hA0,hV,rfl,hfz,hnd⟩:=hW
 have hA : DataW.TrodAll enc Tryz.prog W 0 (λ_=>true) true Tryz.f7.params.toList args.toList ds p:=hA0
 rw [Tryz.params7] at hA hval
 obtain ⟨v0,vs0,d0,ds0,p0,q0,hargs,rfl,rfl,h0,r0⟩:=trodAll_cons hA
 obtain ⟨v1,vs1,d1,ds1,p1,q1,rfl,rfl,rfl,h1,r1⟩:=trodAll_cons r0
 obtain ⟨v2,vs2,d2,ds2,p2,q2,rfl,rfl,rfl,h2,r2⟩:=trodAll_cons r1
 obtain ⟨rfl,rfl,rfl⟩:=trodAll_nil r2
 obtain rfl : args = #[v0,v1,v2]:=by cases args;simp_all
 obtain ⟨rfl,rfl⟩:=trodVars_none hV
 have k0:=h0
 have k1:=h1
 have k2:=h2
 have lt0 : ∀x ∈ p0,x.block<W.heap.size:=by obtain ⟨m,hm⟩:=k0;exact DataW.trod_lt m _ _ _ hm
 have lt1 : ∀x ∈ p1,x.block<W.heap.size:=by obtain ⟨m,hm⟩:=k1;exact DataW.trod_lt m _ _ _ hm
 have lt2 : ∀x ∈ p2,x.block<W.heap.size:=by obtain ⟨m,hm⟩:=k2;exact DataW.trod_lt m _ _ _ hm
 obtain ⟨P,M,am,mn,cm,mod,N,a,n,c,L,rfl,hI0,hM0⟩:=arg_code (hval 0 _ v0 rfl rfl) h0
 obtain ⟨a1x,n1x,c1x,S1,a1y,n1y,c1y,T1,rfl,hS1,hT1,hc1⟩:=arg_dcert (hval 1 _ v1 rfl rfl) h1
 obtain ⟨a2x,n2x,c2x,Q2,rfl,hQ2⟩:=arg_ints (hval 2 _ v2 rfl rfl) h2
 clear hA0 hval0
 refine (mLawSound_any P M am mn cm mod N a n c L a1x n1x c1x S1 a1y n1y c1y T1 a2x n2x c2x Q2 W hI0 hM0 hS1 hT1 hc1 hQ2).mono λe W' ⟨he,bel⟩=>?_
 subst he
 exact ⟨_,rfl,_,_,_,[],_,[],hW',trodAll_mk1 (shut_bool Tryz.underlying4 _),(trodAll_cons_mk (Below.trod Tryz.laid (by kernel_rfl) (of_decide_eq_true (by kernel_rfl)) k0 bel lt0) (trodAll_cons_mk (Below.trod Tryz.laid (by kernel_rfl) (of_decide_eq_true (by kernel_rfl)) k1 bel lt1) (trodAll_cons_mk (Below.trod Tryz.laid (by kernel_rfl) (of_decide_eq_true (by kernel_rfl)) k2 bel lt2) trodAll_mk0))),rfl,bel.frame _,λh=>by cases h⟩
theorem mSound_over : Rows.mindistSoundRow.holds Tryz.pinned (OpenSpec.ofChange Rows.mindistSoundSpec) :=
 OpenClaim.holds_of_wide 7 Tryz.f7 rfl rfl rfl rfl rfl rfl rfl ⟨rfl,rfl,rfl,rfl,rfl⟩ rfl rfl rfl rfl rfl (by kernel_rfl) Tryz.func7 mSound_joined
  (of_decide_eq_true (by kernel_rfl)) (by unfold Func.isWrapper;first | (rw [if_pos (by decide +kernel)];kernel_rfl) | (rw [if_neg (by decide +kernel)];exact ⟨rfl,rfl⟩))
  (λos started H enc _=>mSound_lifted os started H enc)
theorem mSound_holds : Rows.MindistSoundSaid:=mSound_over
#print axioms mSound_holds
end

end Go.Proofs.YtcfmiocdlcapoaaGreat
