import Derived.Test.YthglbncgemdcbaaGreatNU1
namespace Go.Proofs.YthglbncgemdcbaaGreat
set_option linter.all false
set_option maxRecDepth 100000
set_option maxHeartbeats 4000000
open Go.RowKit Go.Proofs.Tryz
theorem zV (n k r : Int) (w : World) : Calls prog 23 #[.int .i64 n,.int .i64 k,.int .i64 r] w λe w'=>e = .returned (.tuple #[.int .i64 (qI n k r),.int .i64 (qL n k r)])/\w'=w:=by
 have HB : Hid ((n<1\/64<n\/k<1\/n<k\/r<1\/n<r)->qL n k r=6/\qI n k r=0):=FF;have HO : Hid (¬ (n<1\/64<n\/k<1\/n<k\/r<1\/n<r)->qL n k r=0/\qI n k r=n - k - (k+r - 1).tdiv r+2):=IJ;obtain ⟨E,hE⟩ : ∃E,qL n k r=E:=⟨_,rfl⟩
 obtain ⟨V,hV⟩ : ∃V,qI n k r=V:=⟨_,rfl⟩
 rw [hE,hV] at HB HO ⊢;clear hE hV;go_enter func23,ntmps23;by_cases h1 : n<1
 ·have d1 : decide (n<1)=true:=NB h1;have HP:=Z5 (HB.out (.inl h1));clear h1;go_wp2_with fail;go_ret2;exact ⟨by rw [HP.out.1,HP.out.2] <;> rfl,rfl⟩
 have d1 : decide (n<1)=false:=NA h1;by_cases h2 : 64<n
 ·have d2 : decide (64<n)=true:=NB h2;have HP:=Z5 (HB.out (.inr (.inl h2)));clear h1 h2;go_wp2_with fail;go_ret2;exact ⟨by rw [HP.out.1,HP.out.2] <;> rfl,rfl⟩
 have d2 : decide (64<n)=false:=NA h2;by_cases h3 : k<1
 ·have d3 : decide (k<1)=true:=NB h3;have HP:=Z5 (HB.out (.inr (.inr (.inl h3))));clear h1 h2 h3;go_wp2_with fail;go_ret2;exact ⟨by rw [HP.out.1,HP.out.2] <;> rfl,rfl⟩
 have d3 : decide (k<1)=false:=NA h3;by_cases h4 : n<k
 ·have d4 : decide (n<k)=true:=NB h4;have HP:=Z5 (HB.out (.inr (.inr (.inr (.inl h4)))));clear h1 h2 h3 h4;go_wp2_with fail;go_ret2;exact ⟨by rw [HP.out.1,HP.out.2] <;> rfl,rfl⟩
 have d4 : decide (n<k)=false:=NA h4;by_cases h5 : r<1
 ·have d5 : decide (r<1)=true:=NB h5;have HP:=Z5 (HB.out (.inr (.inr (.inr (.inr (.inl h5))))));clear h1 h2 h3 h4 h5;go_wp2_with fail;go_ret2;exact ⟨by rw [HP.out.1,HP.out.2] <;> rfl,rfl⟩
 have d5 : decide (r<1)=false:=NA h5;by_cases h6 : n<r
 ·have d6 : decide (n<r)=true:=NB h6;have HP:=Z5 (HB.out (.inr (.inr (.inr (.inr (.inr h6))))));clear h1 h2 h3 h4 h5 h6;go_wp2_with fail;go_ret2;exact ⟨by rw [HP.out.1,HP.out.2] <;> rfl,rfl⟩
 have d6 : decide (n<r)=false:=NA h6;have HP:=Z5 (HO.out (by omega));have hq0 : 0<=(k+r - 1).tdiv r:=RK (by omega) (by omega);have hq1 : (k+r - 1).tdiv r<=k+r - 1:=RC _ (by omega);obtain ⟨q,hq⟩ : ∃q,(k+r - 1).tdiv r=q:=⟨_,rfl⟩
 rw [hq] at hq0 hq1 HP;have k1 : IntKind.i64.wrap (n - k)=n - k:=Ns _ (by omega);have k2 : IntKind.i64.wrap (k+r)=k+r:=Ns _ (by omega);have k3 : IntKind.i64.wrap (k+r - 1)=k+r - 1:=Ns _ (by omega);have k4 : IntKind.i64.wrap q=q:=Ns _ (by omega);have k5 : IntKind.i64.wrap (n - k - q)=n - k - q:=Ns _ (by omega);have k6 : IntKind.i64.wrap (n - k - q+2)=n - k - q+2:=Ns _ (by omega);have hr0 : r ≠ 0:=by omega
 have hr1 : (r == 0)=false:=by simpa using hr0
 go_wp2_with fail;go_ret2;exact ⟨by rw [HP.out.1,HP.out.2] <;> rfl,rfl⟩
theorem uN (P M : Int) (am : OA) (mn cm : Nat) (mod : Lz) (N : Int) (a : OA) (n c : Nat) (L : ZZ) (l0 l1 l2 : Int) (w : World) (hmod : Ints w am mn mod) (hi : br w a n L) :
  Calls prog 4 #[.agg #[.int .i64 P,.int .i64 M,.slice am mn cm,.int .i64 N,.slice a n c],.agg #[.int .i64 l0,.int .i64 l1,.int .i64 l2]] w λe w'=>e = .returned (.bool true)/\SW w w':=by
 have HSm : Hid (∀V,SW w V->Calls prog 14 #[.agg #[.int .i64 P,.int .i64 M,.slice am mn cm,.int .i64 N,.slice a n c]] V (dO V)):=λV hV=>gM P M am mn cm mod N a n c L V (hmod.ah hV) (hi.ah hV);have H1 : Hid (∀V,SW w V->Calls prog 20 #[.agg #[.int .i64 P,.int .i64 M,.slice am mn cm,.int .i64 N,.slice a n c]] V λe w'=>e = .returned (.tuple #[.int .i64 (sV P M mod N L),.int .i64 (eE P M mod N L)])/\SW V w'):=λV hV=>lr P M am mn cm mod N a n c L V (hmod.ah hV) (hi.ah hV);have H2 : Hid (∀V,SW w V->Calls prog 21 #[.agg #[.int .i64 P,.int .i64 M,.slice am mn cm,.int .i64 N,.slice a n c]] V λe w'=>e = .returned (.tuple #[.int .i64 (sV P M mod N L),.int .i64 (eE P M mod N L)])/\SW V w'):=λV hV=>uL P M am mn cm mod N a n c L V (hmod.ah hV) (hi.ah hV);have H3 : Hid (∀V,Calls prog 22 #[.int .i64 l0,.int .i64 l1,.int .i64 l2] V λe w'=>e = .returned (.tuple #[.int .i64 (qI l0 l1 l2),.int .i64 (qL l0 l1 l2)])/\w'=V):=λV=>uq l0 l1 l2 V;have H4 : Hid (∀V,Calls prog 23 #[.int .i64 l0,.int .i64 l1,.int .i64 l2] V λe w'=>e = .returned (.tuple #[.int .i64 (qI l0 l1 l2),.int .i64 (qL l0 l1 l2)])/\w'=V):=λV=>zV l0 l1 l2 V;generalize sV P M mod N L=x at *;generalize eE P M mod N L=er at *;generalize qI l0 l1 l2=y at *;generalize qL l0 l1 l2=er2 at *;clear hmod hi;go_enter func4,ntmps4;go_wp2_with fail;obtain ⟨W,hW⟩ : ∃W : World,W=(w.alloc (.cells #[.int .i64 P,.int .i64 M,.slice am mn cm,.int .i64 N,.slice a n c] 27)).alloc (.cells #[.int .i64 l0,.int .i64 l1,.int .i64 l2] 37):=⟨_,rfl⟩
 rw [<- hW];have hbW : SW w W:=by rw [hW];exact bN _ _ _
 have x0 : aN W w.heap.size [.int .i64 P,.int .i64 M,.slice am mn cm,.int .i64 N,.slice a n c]:=by rw [hW];exact (R9 _ _ _ rfl).alloc _
 have y0 : aN W (w.heap.size+1) [.int .i64 l0,.int .i64 l1,.int .i64 l2]:=by rw [hW];exact R9 _ _ _ (by simp)
 have HS : Hid (∀V,SW W V->V.cell? ⟨w.heap.size,0,none⟩=some (.int .i64 P)/\V.cell? ⟨w.heap.size,1,none⟩=some (.int .i64 M)/\V.cell? ⟨w.heap.size,2,none⟩=some (.slice am mn cm)/\V.cell? ⟨w.heap.size,3,none⟩=some (.int .i64 N)/\V.cell? ⟨w.heap.size,4,none⟩=some (.slice a n c)/\V.cell? ⟨w.heap.size+1,0,none⟩=some (.int .i64 l0)/\V.cell? ⟨w.heap.size+1,1,none⟩=some (.int .i64 l1)/\V.cell? ⟨w.heap.size+1,2,none⟩=some (.int .i64 l2)):=λV hV=>by have x1:=x0.ah hV;have y1:=y0.ah hV;exact ⟨x1.cell 0 rfl,x1.cell 1 rfl,x1.cell 2 rfl,x1.cell 3 rfl,x1.cell 4 rfl,y1.cell 0 rfl,y1.cell 1 rfl,y1.cell 2 rfl⟩
 have HbW:=Z5 hbW;clear hW x0 y0 hbW;refine (bU W).mono ?_;rintro e w1 ⟨rfl,hb1⟩;obtain ⟨c0,c1,c2,c3,c4,d0,d1,d2⟩:=HS.out w1 hb1;go_wp2_with fail;refine (HSm.out w1 (RZ HbW.out hb1)).mono ?_;rintro e w2 ⟨z,rfl,hb2⟩;have hB2:=RZ hb1 hb2;clear c0 c1 c2 c3 c4 d0 d1 d2;cases z
 ·go_wp2_with fail;refine (bU w2).mono ?_;rintro e w3 ⟨rfl,hb3⟩;have hF:=RZ HbW.out (RZ hB2 hb3);go_wp2_with fail;go_ret;exact ⟨rfl,hF⟩
 obtain ⟨c0,c1,c2,c3,c4,d0,d1,d2⟩:=HS.out w2 hB2;go_wp2_with fail;refine (H1.out w2 (RZ HbW.out hB2)).mono ?_;rintro e w3 ⟨rfl,hb3⟩;have hB3:=RZ hB2 hb3;clear c0 c1 c2 c3 c4 d0 d1 d2;obtain ⟨c0,c1,c2,c3,c4,d0,d1,d2⟩:=HS.out w3 hB3;go_wp2_with fail;refine (H2.out w3 (RZ HbW.out hB3)).mono ?_;rintro e w4 ⟨rfl,hb4⟩;have hB4:=RZ hB3 hb4;clear c0 c1 c2 c3 c4 d0 d1 d2;obtain ⟨c0,c1,c2,c3,c4,d0,d1,d2⟩:=HS.out w4 hB4;have hF:=RZ HbW.out hB4;go_wp2_with fail;refine (H3.out w4).mono ?_;rintro e w4 ⟨rfl,rfl⟩;go_wp2_with fail;refine (H4.out w4).mono ?_;rintro e w4 ⟨rfl,rfl⟩;go_wp2_with fail;go_ret;exact ⟨by simp,hF⟩
section
open Go.ChangeShapes Go.WideShapes Go.ChangeAt Go.RowKit
section
variable {H : Type} {enc : TypeId × Value->H} {W : World} {held : Bool} {fuel : Nat} {cs : List Value} {x : DataW H × List MemPlace}
end
section
variable {H : Type} {enc : TypeId × Value->H} {W : World} {held : Bool} {b0 : Nat} {v : Value} {d : DataW H} {p : List MemPlace}
theorem I5 (hv : Value.okWide prog W .any b0 37 v) (h : DataW.Trod enc prog W 0 (λ_=>true) held 37 v d p) :
  ∃(z1 z2 z3 : Int),v = .agg #[.int .i64 z1,.int .i64 z2,.int .i64 z3]:=by
 obtain ⟨cs,rfl,hsz⟩:=zJ underlying37 hv;rw [show prog.cellsOf 37 = 3 by kernel_rfl] at hsz;obtain ⟨l⟩:=cs;match l,hsz with
 | [v0,v1,v2],_ =>
 obtain ⟨fuel,hf⟩:=h;obtain ⟨xs,n0,_,_,_,hlen,hfs⟩:=DataW.trod_array underlying37 hf;obtain ⟨y0,y1,y2,rfl⟩ : ∃y0 y1 y2,xs=[y0,y1,y2]:=by
  match xs,hlen with
  | [y0,y1,y2],_=>exact ⟨y0,y1,y2,rfl⟩
 have k3 : prog.cellsOf 3 = 1:=by kernel_rfl
 have g0 : DataW.trod enc prog W 0 (λ_=>true) held n0 3 [v0]=some y0:=by simpa [Value.cells,k3] using hfs 0 (by omega)
 have g1 : DataW.trod enc prog W 0 (λ_=>true) held n0 3 [v1]=some y1:=by simpa [Value.cells,k3] using hfs 1 (by omega)
 have g2 : DataW.trod enc prog W 0 (λ_=>true) held n0 3 [v2]=some y2:=by simpa [Value.cells,k3] using hfs 2 (by omega)
 obtain ⟨z1,e1,_,_⟩:=PS underlying3 g0;obtain ⟨z2,e2,_,_⟩:=PS underlying3 g1;obtain ⟨z3,e3,_,_⟩:=PS underlying3 g2;simp at e1 e2 e3;subst e1 e2 e3;exact ⟨z1,z2,z3,rfl⟩
end
end
end Go.Proofs.YthglbncgemdcbaaGreat
