import Derived.Test.YthglbncgemdcbaaGreatTB1
namespace Go.Proofs.YthglbncgemdcbaaGreat
set_option linter.all false
set_option maxRecDepth 100000
set_option maxHeartbeats 8000000
open Go.RowKit Go.Proofs.Tryz
theorem cX (P M : Int) (am : OA) (mn cm : Nat) (mod : Lz) (am' : OA) (mn' cm' : Nat) (w : World) (h : Ints w am mn mod) (h' : Ints w am' mn' mod) :
  Calls prog 73 #[.agg #[.int .i64 P,.int .i64 M,.slice am mn cm],.agg #[.int .i64 P,.int .i64 M,.slice am' mn' cm']] w λe w'=>e = .returned (.bool true)/\SW w w':=by
 obtain rfl : mn=mn':=by have:=h.len;have:=h'.len;omega
 have hpl:=h.pl;have hpl':=h'.pl;have hmax:=h.max;unfold maxLen at hmax;go_enter func73,ntmps73;go_wp2_with fail;obtain ⟨W,hW⟩ : ∃W : World,W=(w.alloc (.cells #[.int .i64 P,.int .i64 M,.slice am mn cm] 24)).alloc (.cells #[.int .i64 P,.int .i64 M,.slice am' mn cm'] 24):=⟨_,rfl⟩
 rw [<- hW];have hbW : SW w W:=by rw [hW];exact bN _ _ _
 have x0 : aN W w.heap.size [.int .i64 P,.int .i64 M,.slice am mn cm]:=by rw [hW];exact (R9 _ _ _ rfl).alloc _
 have y0 : aN W (w.heap.size+1) [.int .i64 P,.int .i64 M,.slice am' mn cm']:=by rw [hW];exact R9 _ _ _ (by simp)
 have hS : ∀V,SW W V->V.cell? ⟨w.heap.size,0,none⟩=some (.int .i64 P)/\V.cell? ⟨w.heap.size,1,none⟩=some (.int .i64 M)/\V.cell? ⟨w.heap.size,2,none⟩=some (.slice am mn cm) /\
   V.cell? ⟨w.heap.size+1,0,none⟩=some (.int .i64 P)/\V.cell? ⟨w.heap.size+1,1,none⟩=some (.int .i64 M)/\V.cell? ⟨w.heap.size+1,2,none⟩=some (.slice am' mn cm')/\SW W V:=λV hV=>by have x1:=x0.ah hV;have y1:=y0.ah hV;exact ⟨x1.cell 0 rfl,x1.cell 1 rfl,x1.cell 2 rfl,y1.cell 0 rfl,y1.cell 1 rfl,y1.cell 2 rfl,hV⟩
 have HS:=Z5 hS;have hh:=h.ah hbW;have hh':=h'.ah hbW;clear hW x0 y0 hS;obtain ⟨c0,c1,c2,d0,d1,d2,_⟩:=HS.out W (Nc _ _);have hPP : (P != P)=false:=by simp
 have hMM : (M != M)=false:=by simp
 have hnn : ((mn : Int) != mn)=false:=by simp
 go_wp2_with fail;clear hPP hMM hnn c0 c1 c2 d0 d1 d2;go_loopw [5] (λiv wr=>∃k : Nat,k<=mn/\iv = .int .i64 k/\bf W wr) (λiv _=>mn - (intOf iv).toNat);case atStart=>exact ⟨0,Ni _,rfl,Sf _⟩
 case round =>
  obtain ⟨k,hk,rfl,hd⟩:=hrel
  obtain ⟨c0,c1,c2,d0,d1,d2,_⟩:=HS.out wr hd.below
  by_cases hlt : k<mn
  ·have cc:=(hh.drawn hd).cell k hlt
   have dd:=(hh'.drawn hd).cell k hlt
   have hne : (nth mod k != nth mod k)=false:=by simp
   go_wp2_with fail
   go_quiet (fail)
   go_wp2_with fail
   go_roundw
   case rel=>exact ⟨k+1,by omega,by go_num,hd.drewN _⟩
   case measure=>simp [intOf] <;> omega
  ·obtain rfl : k=mn:=by omega
   have hF:=RZ hbW hd.below
   go_wp2_with fail
   go_ret
   exact ⟨rfl,hF⟩
theorem ee (P M : Int) (am : OA) (mn cm : Nat) (mod : Lz) (am' : OA) (mn' cm' : Nat) (N : Int) (a : OA) (n c : Nat) (L : ZZ) (a' : OA) (n' c' : Nat) (w : World) (h : Ints w am mn mod) (h' : Ints w am' mn' mod) (hL : br w a n L) (hL' : br w a' n' L) :
  Calls prog 27 #[.agg #[.int .i64 P,.int .i64 M,.slice am mn cm,.int .i64 N,.slice a n c],.agg #[.int .i64 P,.int .i64 M,.slice am' mn' cm',.int .i64 N,.slice a' n' c']] w λe w'=>e = .returned (.bool true)/\SW w w':=by
 go_enter func27,ntmps27;go_wp2_with fail;obtain ⟨W,hW⟩ : ∃W : World,W=(w.alloc (.cells #[.int .i64 P,.int .i64 M,.slice am mn cm,.int .i64 N,.slice a n c] 27)).alloc (.cells #[.int .i64 P,.int .i64 M,.slice am' mn' cm',.int .i64 N,.slice a' n' c'] 27):=⟨_,rfl⟩
 rw [<- hW];have hbW : SW w W:=by rw [hW];exact bN _ _ _
 have x0 : aN W w.heap.size [.int .i64 P,.int .i64 M,.slice am mn cm,.int .i64 N,.slice a n c]:=by rw [hW];exact (R9 _ _ _ rfl).alloc _
 have y0 : aN W (w.heap.size+1) [.int .i64 P,.int .i64 M,.slice am' mn' cm',.int .i64 N,.slice a' n' c']:=by rw [hW];exact R9 _ _ _ (by simp)
 have hS : ∀V,SW W V->V.cell? ⟨w.heap.size,0,none⟩=some (.int .i64 P)/\V.cell? ⟨w.heap.size,1,none⟩=some (.int .i64 M)/\V.cell? ⟨w.heap.size,2,none⟩=some (.slice am mn cm)/\V.cell? ⟨w.heap.size,3,none⟩=some (.int .i64 N)/\V.cell? ⟨w.heap.size,4,none⟩=some (.slice a n c) /\
   V.cell? ⟨w.heap.size+1,0,none⟩=some (.int .i64 P)/\V.cell? ⟨w.heap.size+1,1,none⟩=some (.int .i64 M)/\V.cell? ⟨w.heap.size+1,2,none⟩=some (.slice am' mn' cm')/\V.cell? ⟨w.heap.size+1,3,none⟩=some (.int .i64 N)/\V.cell? ⟨w.heap.size+1,4,none⟩=some (.slice a' n' c'):=λV hV=>by have x1:=x0.ah hV;have y1:=y0.ah hV;exact ⟨x1.cell 0 rfl,x1.cell 1 rfl,x1.cell 2 rfl,x1.cell 3 rfl,x1.cell 4 rfl,y1.cell 0 rfl,y1.cell 1 rfl,y1.cell 2 rfl,y1.cell 3 rfl,y1.cell 4 rfl⟩
 have HS:=Z5 hS;have hNN : (N == N)=true:=by simp
 clear hW x0 y0 hS;obtain ⟨c0,c1,c2,c3,c4,d0,d1,d2,d3,d4⟩:=HS.out W (Nc _ _);go_wp2_with fail;refine (cX P M am mn cm mod am' mn' cm' W (h.ah hbW) (h'.ah hbW)).mono ?_;rintro e w1 ⟨rfl,hb1⟩;clear c0 c1 c2 c3 c4 d0 d1 d2 d3 d4;obtain ⟨c0,c1,c2,c3,c4,d0,d1,d2,d3,d4⟩:=HS.out w1 hb1;have hbw1:=RZ hbW hb1;have hr:=kb a n c L a' n' c' L (hL.ah hbw1) (hL'.ah hbw1);rw [NB (rfl : L=L)] at hr;have Hr:=Z5 hr;clear hr;go_wp2_with fail;refine Hr.out.mono ?_;rintro e w2 ⟨rfl,hd⟩;have hF:=RZ hbw1 hd.below;go_wp2_with fail;go_ret;exact ⟨rfl,hF⟩
def Hi (er P M N : Int) (mod : Lz) (S : ZZ) (w : World) (e : Ending) (w' : World) : Prop :=
 SW w w'/\∃a1 n1 c1 a2 n2 c2,e = .returned (.tuple #[.agg #[.int .i64 P,.int .i64 M,.slice a1 n1 c1,.int .i64 N,.slice a2 n2 c2],.int .i64 er])/\Ints w' a1 n1 mod/\br w' a2 n2 S
theorem Ha {P M : Int} {mod : Lz} {l0 l1 l2 : Int} {w : World} {e : Ending} {w' : World} (h : zG P M mod l0 l1 l2 w e w') : Hi (Fh P M mod l0 l1 l2) (if Fh P M mod l0 l1 l2=0 then P else 0) (if Fh P M mod l0 l1 l2=0 then M else 0) (if Fh P M mod l0 l1 l2=0 then (((l1.toNat+1) * l0.toNat : Nat) : Int) else 0) (if Fh P M mod l0 l1 l2=0 then mod else []) (if Fh P M mod l0 l1 l2=0 then J6 P M mod l0.toNat l1.toNat l2.toNat else []) w e w':=by
 obtain ⟨b,⟨h0,rfl⟩ | ⟨h0,a1,c1,a2,c2,rfl,h1,h2⟩⟩:=h
 ·rw [Nf h0,Nf h0,Nf h0,Nf h0,Nf h0];exact ⟨b,none,0,0,none,0,0,rfl,Sd _ _,br.Js _⟩
 ·rw [Nd h0,Nd h0,Nd h0,Nd h0,Nd h0];exact ⟨b,a1,_,c1,a2,_,c2,by rw [h0],h1.ints,h2.jt⟩
theorem e9 (P M : Int) (am : OA) (mn cm : Nat) (mod : Lz) (l0 l1 l2 : Int) (w : World) (hmod : Ints w am mn mod) :
  Calls prog 5 #[.agg #[.int .i64 P,.int .i64 M,.slice am mn cm],.agg #[.int .i64 l0,.int .i64 l1,.int .i64 l2]] w λe w'=>e = .returned (.bool true)/\SW w w':=by
 have HOr : Hid (∀V,Calls prog 24 #[.agg #[.int .i64 P,.int .i64 M,.slice am mn cm]] V λe w'=>e = .returned (.int .i64 (aJ P M))/\SW V w'):=λV=>gK P M am mn cm V;have H1 : Hid (∀V,SW w V->Calls prog 25 #[.agg #[.int .i64 P,.int .i64 M,.slice am mn cm],.int .i64 l0,.int .i64 l1,.int .i64 l2] V (Hi (Fh P M mod l0 l1 l2) (if Fh P M mod l0 l1 l2=0 then P else 0) (if Fh P M mod l0 l1 l2=0 then M else 0) (if Fh P M mod l0 l1 l2=0 then (((l1.toNat+1) * l0.toNat : Nat) : Int) else 0) (if Fh P M mod l0 l1 l2=0 then mod else []) (if Fh P M mod l0 l1 l2=0 then J6 P M mod l0.toNat l1.toNat l2.toNat else []) V)):=λV hV=>(rk P M am mn cm mod l0 l1 l2 V (hmod.ah hV)).mono λe w' h=>Ha h;have H2 : Hid (∀V,SW w V->Calls prog 26 #[.agg #[.int .i64 P,.int .i64 M,.slice am mn cm],.int .i64 l0,.int .i64 l1,.int .i64 l2] V (Hi (Fh P M mod l0 l1 l2) (if Fh P M mod l0 l1 l2=0 then P else 0) (if Fh P M mod l0 l1 l2=0 then M else 0) (if Fh P M mod l0 l1 l2=0 then (((l1.toNat+1) * l0.toNat : Nat) : Int) else 0) (if Fh P M mod l0 l1 l2=0 then mod else []) (if Fh P M mod l0 l1 l2=0 then J6 P M mod l0.toNat l1.toNat l2.toNat else []) V)):=λV hV=>(xl P M am mn cm mod l0 l1 l2 V (hmod.ah hV)).mono λe w' h=>Ha h;unfold Hi at H1 H2;generalize (if Fh P M mod l0 l1 l2=0 then P else 0)=P1 at *;generalize (if Fh P M mod l0 l1 l2=0 then M else 0)=M1 at *;generalize (if Fh P M mod l0 l1 l2=0 then (((l1.toNat+1) * l0.toNat : Nat) : Int) else 0)=N1 at *;generalize (if Fh P M mod l0 l1 l2=0 then mod else [])=D1 at *;generalize (if Fh P M mod l0 l1 l2=0 then J6 P M mod l0.toNat l1.toNat l2.toNat else [])=S1 at *;generalize Fh P M mod l0 l1 l2=er at *;generalize aJ P M=q at *;clear hmod;go_enter func5,ntmps5;go_wp2_with fail;obtain ⟨W,hW⟩ : ∃W : World,W=((w.alloc (.cells #[.int .i64 P,.int .i64 M,.slice am mn cm] 24)).alloc (.cells #[.int .i64 l0,.int .i64 l1,.int .i64 l2] 37)):=⟨_,rfl⟩
 rw [<- hW];have hbW : SW w W:=by rw [hW];exact bN _ _ _
 have x0 : aN W w.heap.size [.int .i64 P,.int .i64 M,.slice am mn cm]:=by rw [hW];exact (R9 _ _ _ (by simp)).alloc _
 have y0 : aN W (w.heap.size+1) [.int .i64 l0,.int .i64 l1,.int .i64 l2]:=by rw [hW];exact R9 _ _ _ (by simp)
 have HS : Hid (∀V,SW W V->V.cell? ⟨w.heap.size,0,none⟩=some (.int .i64 P)/\V.cell? ⟨w.heap.size,1,none⟩=some (.int .i64 M)/\V.cell? ⟨w.heap.size,2,none⟩=some (.slice am mn cm)/\V.cell? ⟨w.heap.size+1,0,none⟩=some (.int .i64 l0)/\V.cell? ⟨w.heap.size+1,1,none⟩=some (.int .i64 l1)/\V.cell? ⟨w.heap.size+1,2,none⟩=some (.int .i64 l2)):=λV hV=>by have x1:=x0.ah hV;have y1:=y0.ah hV;exact ⟨x1.cell 0 rfl,x1.cell 1 rfl,x1.cell 2 rfl,y1.cell 0 rfl,y1.cell 1 rfl,y1.cell 2 rfl⟩
 have HbW:=Z5 hbW;clear hW hbW x0 y0;refine (bU W).mono ?_;rintro e w1 ⟨rfl,hB1⟩;obtain ⟨c0,c1,c2,c3,c4,c5⟩:=HS.out w1 hB1;go_wp2_with fail;refine (HOr.out w1).mono ?_;rintro e w2 ⟨rfl,hbx⟩;have hB2:=RZ hB1 hbx;clear c0 c1 c2 c3 c4 c5;by_cases h64 : 64<q
 ·have d1 : decide (64<q)=true:=by simpa using h64
  clear h64;go_wp2_with fail;refine (bU w2).mono ?_;rintro e w9 ⟨rfl,hb9⟩;have hF:=RZ HbW.out (RZ hB2 hb9);go_wp2_with fail;go_ret;exact ⟨rfl,hF⟩
 have d1 : decide (64<q)=false:=by simpa using h64
 clear h64;obtain ⟨c0,c1,c2,c3,c4,c5⟩:=HS.out w2 hB2;go_wp2_with fail;refine (H1.out w2 (RZ HbW.out hB2)).mono ?_;rintro e w3 ⟨hb3,a1,n1,k1,a2,n2,k2,rfl,h1,h2⟩;have hB3:=RZ hB2 hb3;have n3:=an w3 (.cells #[.int .i64 P1,.int .i64 M1,.slice a1 n1 k1,.int .i64 N1,.slice a2 n2 k2] 27);have hB4:=RZ hB3 n3;have x3:=R9 w3 [.int .i64 P1,.int .i64 M1,.slice a1 n1 k1,.int .i64 N1,.slice a2 n2 k2] 27 rfl;clear c0 c1 c2 c3 c4 c5 d1;obtain ⟨c0,c1,c2,c3,c4,c5⟩:=HS.out _ hB4;go_wp2_with fail;refine (H2.out _ (RZ HbW.out hB4)).mono ?_;rintro e w4 ⟨hb4,a3,n3',k3,a4,n4,k4,rfl,h3,h4⟩;have n4':=an w4 (.cells #[.int .i64 P1,.int .i64 M1,.slice a3 n3' k3,.int .i64 N1,.slice a4 n4 k4] 27);have hb5:=RZ hb4 n4';have hB5:=RZ hB4 hb5;have x4:=R9 w4 [.int .i64 P1,.int .i64 M1,.slice a3 n3' k3,.int .i64 N1,.slice a4 n4 k4] 27 rfl;have x3':=x3.ah hb5;have HSa:=Z5 (ee P1 M1 a1 n1 k1 D1 a3 n3' k3 N1 a2 n2 k2 S1 a4 n4 k4 _ ((h1.ah n3).ah hb5) (h3.ah n4') ((h2.ah n3).ah hb5) (h4.ah n4'));have hF:=RZ HbW.out hB5;have s0:=x3'.cell 0 rfl;have s1:=x3'.cell 1 rfl;have s2:=x3'.cell 2 rfl;have s3:=x3'.cell 3 rfl;have s4:=x3'.cell 4 rfl;have t0:=x4.cell 0 rfl;have t1:=x4.cell 1 rfl;have t2:=x4.cell 2 rfl;have t3:=x4.cell 3 rfl;have t4:=x4.cell 4 rfl;have e1 : (er == er)=true:=by simp
 clear c0 c1 c2 c3 c4 c5 n3 hB3 hB4 hb4 n4' hb5 x3 x4 x3' h1 h2 h3 h4 hB5;go_wp2_with fail;refine HSa.out.mono ?_;rintro e w5 ⟨rfl,hb6⟩;have hF2:=RZ hF hb6;go_wp2_with fail;go_ret;exact ⟨rfl,hF2⟩
section
open Go.ChangeShapes Go.WideShapes Go.ChangeAt Go.RowKit
section
variable {H : Type} {enc : TypeId × Value->H} {W : World} {held : Bool} {fuel : Nat} {cs : List Value} {x : DataW H × List MemPlace}
end
section
variable {H : Type} {enc : TypeId × Value->H} {W : World} {held : Bool} {b0 : Nat} {v : Value} {d : DataW H} {p : List MemPlace}
theorem I5 (hv : Value.okWide prog W .any b0 37 v) (h : DataW.Trod enc prog W 0 (λ_=>true) held 37 v d p) :
  ∃(z1 z2 z3 : Int),v = .agg #[.int .i64 z1,.int .i64 z2,.int .i64 z3]:=by
 obtain ⟨cs,rfl,hsz⟩:=zJ underlying37 hv;rw [show prog.cellsOf 37 = 3 by kernel_rfl] at hsz;obtain ⟨l⟩:=cs;match l,hsz with
 | [v0,v1,v2],_ =>
 obtain ⟨fuel,hf⟩:=h;obtain ⟨xs,n0,_,_,_,hlen,hfs⟩:=DataW.trod_array underlying37 hf;obtain ⟨y0,y1,y2,rfl⟩ : ∃y0 y1 y2,xs=[y0,y1,y2]:=by
  match xs,hlen with
  | [y0,y1,y2],_=>exact ⟨y0,y1,y2,rfl⟩
 have k3 : prog.cellsOf 3 = 1:=by kernel_rfl
 have g0 : DataW.trod enc prog W 0 (λ_=>true) held n0 3 [v0]=some y0:=by simpa [Value.cells,k3] using hfs 0 (by omega)
 have g1 : DataW.trod enc prog W 0 (λ_=>true) held n0 3 [v1]=some y1:=by simpa [Value.cells,k3] using hfs 1 (by omega)
 have g2 : DataW.trod enc prog W 0 (λ_=>true) held n0 3 [v2]=some y2:=by simpa [Value.cells,k3] using hfs 2 (by omega)
 obtain ⟨z1,e1,_,_⟩:=PS underlying3 g0;obtain ⟨z2,e2,_,_⟩:=PS underlying3 g1;obtain ⟨z3,e3,_,_⟩:=PS underlying3 g2;simp at e1 e2 e3;subst e1 e2 e3;exact ⟨z1,z2,z3,rfl⟩
theorem q8 (hv : Value.okWide prog W .any b0 24 v) (h : DataW.Trod enc prog W 0 (λ_=>true) held 24 v d p) :
  ∃(P M : Int) (am : OA) (mn cm : Nat) (mod : Lz),v = .agg #[.int .i64 P,.int .i64 M,.slice am mn cm]/\Ints W am mn mod:=by
 obtain ⟨cs,rfl,hsz⟩:=okWide_struct underlying24 hv;rw [show prog.cellsOf 24 = 3 by kernel_rfl] at hsz;obtain ⟨l⟩:=cs;match l,hsz with
 | [v0,v1,v2],_ =>
 obtain ⟨fuel,hf⟩:=h;obtain ⟨xs,n0,_,_,_,hlen,hfs⟩:=Qa underlying24 hf;obtain ⟨y0,y1,y2,rfl⟩ : ∃y0 y1 y2,xs=[y0,y1,y2]:=by
  match xs,hlen with
  | [y0,y1,y2],_=>exact ⟨y0,y1,y2,rfl⟩
 have k3 : prog.cellsOf 3 = 1:=by kernel_rfl
 have k22 : prog.cellsOf 22 = 1:=by kernel_rfl
 have g0 : DataW.trod enc prog W 0 (λ_=>true) held n0 3 [v0]=some y0:=by simpa [Value.cells,k3] using hfs 0 _ rfl
 have g1 : DataW.trod enc prog W 0 (λ_=>true) held n0 3 [v1]=some y1:=by simpa [Value.cells,k3] using hfs 1 _ rfl
 have g2 : DataW.trod enc prog W 0 (λ_=>true) held n0 22 [v2]=some y2:=by simpa [Value.cells,k22] using hfs 2 _ rfl
 obtain ⟨x1,e1,_,_⟩:=PS underlying3 g0;obtain ⟨x2,e2,_,_⟩:=PS underlying3 g1;obtain ⟨a,n,c,l,e3,h3⟩:=oX g2;simp at e1 e2 e3;subst e1 e2 e3;exact ⟨x1,x2,a,n,c,l,rfl,h3⟩
end
end
end Go.Proofs.YthglbncgemdcbaaGreat
