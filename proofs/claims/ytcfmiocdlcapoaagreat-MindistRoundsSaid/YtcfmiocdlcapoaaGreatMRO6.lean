import Derived.Test.YtcfmiocdlcapoaaGreatK25
import Derived.Test.YtcfmiocdlcapoaaGreatMRO5
import Derived.Test.YtcfmiocdlcapoaaGreatK21
import Derived.Test.YtcfmiocdlcapoaaGreatK28
import Derived.Test.YtcfmiocdlcapoaaGreatK19
namespace Go.Proofs.YtcfmiocdlcapoaaGreat
set_option linter.unusedVariables false
set_option linter.unusedSimpArgs false
set_option linter.unusedSectionVars false
set_option maxRecDepth 100000
set_option maxHeartbeats 8000000
open Go.RowKit
theorem pC {P M : Int} (am : OA) (mn cm : Nat) {mod : Lz} (k : Nat) (a : OA) (n c : Nat) {D : Ll} {w : World} (hmod : Ints w am mn mod) (hi : bZ w a n D) (hB : bA P M mod=true) (hR : bH (aa P M.toNat mod).El k D) (hk : k<=256) (hn : n<=256) :
  ∀V,Below w.heap.size w V->Calls Tryz.prog 119 #[.agg #[.int .i64 P,.int .i64 M,.slice am mn cm],.agg #[.int .i64 k,.slice a n c]] V λe w'=>e = .returned (.int .i64 0)/\Below V.heap.size V w':=λV hV=>by
 have h:=iM P M am mn cm mod k a n c D V (hmod.ah hV) (hi.ah hV)
 rw [o8,ld hB hk (by rw [hi.len];exact hn) hR] at h
 exact h
theorem z7 (P M : Int) (am : OA) (mn cm : Nat) (mod : Lz) (k : Nat) (a : OA) (c : Nat) (D : Ll) (w : World) (hmod : Ints w am mn mod) (hi : bZ w a k D) (hB : bA P M mod=true) (hR : bH (aa P M.toNat mod).El k D) (hk : k<=64) :
  Calls Tryz.prog 174 #[.agg #[.int .i64 P,.int .i64 M,.slice am mn cm],.agg #[.int .i64 k,.slice a k c]] w λe w'=>e = .returned (.int .i64 0)/\Below w.heap.size w w':=by
 have HC:=Z5 (pC am mn cm k a k c hmod hi hB hR (by omega) (by omega))
 clear hmod hi hB hR
 go_enter Tryz.func174,Tryz.ntmps174
 go_wp2_with fail
 obtain ⟨W,hW⟩ : ∃W : World,W=(w.alloc (.cells #[.int .i64 P,.int .i64 M,.slice am mn cm] 24)).alloc (.cells #[.int .i64 k,.slice a k c] 82):=⟨_,rfl⟩
 rw [<- hW]
 have hbW : Below w.heap.size w W:=by rw [hW];exact dH _ _ _
 have x1 : aV W (w.heap.size+1) [.int .i64 k,.slice a k c]:=by rw [hW];exact aV.new _ _ _ (by simp)
 clear hW
 refine (HC.out W hbW).mono ?_
 rintro e w1 ⟨rfl,hb1⟩
 have r1:=x1.ah hb1
 have m0:=r1.cell 0 rfl
 have m1:=r1.cell 1 rfl
 have hF:=Below.next hbW hb1
 have hkk : ((k : Int) != k)=false:=by simp
 clear r1 x1
 go_wp2_with fail
 go_ret
 exact ⟨rfl,hF⟩
theorem Ew (P M : Int) (am : OA) (mn cm : Nat) (mod : Lz) (k : Nat) (a : OA) (n c : Nat) (A : Ll) (m : Nat) (ab : OA) (nb cb : Nat) (B : Ll) (w : World) (hmod : Ints w am mn mod) (hi : bZ w a n A) (hb : bZ w ab nb B) (hB : bA P M mod=true) (hA : bH (aa P M.toNat mod).El k A) (hBr : bH (aa P M.toNat mod).El m B) (hk : k<=256) (hm : m<=256) (hn : n<=256) (hnb : nb<=256) :
  Calls Tryz.prog 177 #[.agg #[.int .i64 P,.int .i64 M,.slice am mn cm],.agg #[.int .i64 k,.slice a n c],.agg #[.int .i64 m,.slice ab nb cb]] w λe w'=>e = .returned (.int .i64 0)/\Below w.heap.size w w':=by
 have HC:=Z5 (pC am mn cm k a n c hmod hi hB hA hk hn)
 have HC2:=Z5 (pC am mn cm m ab nb cb hmod hb hB hBr hm hnb)
 clear hmod hi hB hA hBr hb
 go_enter Tryz.func177,Tryz.ntmps177
 go_wp2_with fail
 obtain ⟨W,hW⟩ : ∃W : World,W=((w.alloc (.cells #[.int .i64 P,.int .i64 M,.slice am mn cm] 24)).alloc (.cells #[.int .i64 k,.slice a n c] 82)).alloc (.cells #[.int .i64 m,.slice ab nb cb] 82):=⟨_,rfl⟩
 rw [<- hW]
 have hbW : Below w.heap.size w W:=by rw [hW];exact kO _ _ _ _
 have x0 : aV W w.heap.size [.int .i64 P,.int .i64 M,.slice am mn cm]:=by rw [hW];exact ((aV.new _ _ _ rfl).alloc _).alloc _
 have x2 : aV W (w.heap.size+1+1) [.int .i64 m,.slice ab nb cb]:=by rw [hW];exact aV.new _ _ _ (by simp)
 clear hW
 refine (HC.out W hbW).mono ?_
 rintro e w1 ⟨rfl,hb1⟩
 have hbw1:=Below.next hbW hb1
 have r0:=x0.ah hb1
 have r2:=x2.ah hb1
 have f0:=r0.cell 0 rfl
 have f1:=r0.cell 1 rfl
 have f2:=r0.cell 2 rfl
 have m0:=r2.cell 0 rfl
 have m1:=r2.cell 1 rfl
 have Hc:=Z5 (HC2.out w1 hbw1)
 clear r0 r2 x0 x2
 go_wp2_with fail
 refine Hc.out.mono ?_
 rintro e w2 ⟨rfl,hb2⟩
 have hF:=Below.next hbw1 hb2
 go_wp2_with fail
 go_ret
 exact ⟨rfl,hF⟩
theorem tk (P M : Int) (am : OA) (mn cm : Nat) (mod : Lz) (k : Nat) (a : OA) (n c : Nat) (D : Ll) (w : World) (hmod : Ints w am mn mod) (hi : bZ w a n D) (hB : bA P M mod=true) (hR : bH (aa P M.toNat mod).El k D) (hk : k<=256) (hn : n<=256) :
  Calls Tryz.prog 228 #[.agg #[.int .i64 P,.int .i64 M,.slice am mn cm],.agg #[.int .i64 k,.slice a n c]] w λe w'=>∃a1 c1 ap cp,e = .returned (.tuple #[.agg #[.int .i64 k,.slice a1 (aA (aa P M.toNat mod).ops D k).2.length c1],.slice ap (aA (aa P M.toNat mod).ops D k).2.length cp,.int .i64 0])/\Below w.heap.size w w':=by
 have HC:=Z5 (pC am mn cm k a n c hmod hi hB hR hk hn)
 have hinv:=iW (P:=P) (M:=M) (mod:=mod) (by rw [cP];exact hB)
 obtain ⟨M',rfl,hel,_,hF,hA,_⟩:=fU hB
 obtain ⟨M2,e2,hrf,hmods⟩:=eW (by rw [cP];exact hB)
 obtain rfl : M'=M2:=by omega
 rw [Int.toNat_natCast] at hR hinv ⊢
 rw [<- hel] at hR
 have hag:=(gg hA hF.cl hR k (Nat.le_refl _)).1
 rw [hag]
 have HCn : Hid (∀V,Below w.heap.size w V->Calls Tryz.prog 120 #[.agg #[.int .i64 P,.int .i64 M',.slice am mn cm],.slice a n c,.int .i64 k] V λe w' =>
   Below V.heap.size V w'/\∃a1 c1 ap cp,e = .returned (.tuple #[.slice a1 (aA (fw P M' mod) D k).2.length c1,.slice ap (aA (fw P M' mod) D k).2.length cp])):=λV hV=>by
  refine (jU P M' am mn cm mod a n c k D V ⟨hrf,hmods V am mn (hmod.ah hV)⟩ (hi.ah hV) hR (by omega) (by omega) hinv).mono ?_
  rintro e w' ⟨a4,c4,ap,cp,rfl,_,_,hb⟩
  exact ⟨hb,a4,c4,ap,cp,rfl⟩
 obtain ⟨q,hq⟩ : ∃q,(aA (fw P M' mod) D k).2.length=q:=⟨_,rfl⟩
 rw [hq] at HCn ⊢
 clear hB hR hinv hel hF hA e2 hrf hmods hag hq hmod hi
 go_enter Tryz.func228,Tryz.ntmps228
 go_wp2_with fail
 obtain ⟨W,hW⟩ : ∃W : World,W=((w.alloc (.cells #[.int .i64 P,.int .i64 M',.slice am mn cm] 24)).alloc (.cells #[.int .i64 k,.slice a n c] 82)).alloc (.cells #[.int .i64 0,.slice none 0 0] 82):=⟨_,rfl⟩
 rw [<- hW]
 have hbW : Below w.heap.size w W:=by rw [hW];exact kO _ _ _ _
 have x0 : aV W w.heap.size [.int .i64 P,.int .i64 M',.slice am mn cm]:=by rw [hW];exact ((aV.new _ _ _ rfl).alloc _).alloc _
 have x1 : aV W (w.heap.size+1) [.int .i64 k,.slice a n c]:=by rw [hW];exact (aV.new _ _ _ (by simp)).alloc _
 have x2 : aV W (w.heap.size+1+1) [.int .i64 0,.slice none 0 0]:=by rw [hW];exact aV.new _ _ _ (by simp)
 have HX:=Z5 (And.intro x0 (And.intro x1 x2))
 clear hW x0 x1 x2
 refine (HC.out W hbW).mono ?_
 rintro e w1 ⟨rfl,hb1⟩
 have hbw1:=Below.next hbW hb1
 have r0:=HX.out.1.ah hb1
 have r1:=HX.out.2.1.ah hb1
 have f0:=r0.cell 0 rfl
 have f1:=r0.cell 1 rfl
 have f2:=r0.cell 2 rfl
 have m0:=r1.cell 0 rfl
 have m1:=r1.cell 1 rfl
 have Hc:=Z5 (HCn.out w1 hbw1)
 clear r0 r1
 go_wp2_with fail
 refine Hc.out.mono ?_
 rintro e w2 ⟨hb2,a1,c1,ap,cp,rfl⟩
 have hbw2:=Below.next hbw1 hb2
 have r1:=HX.out.2.1.ah (Below.next hb1 hb2)
 have r2:=HX.out.2.2.ah (Below.next hb1 hb2)
 have m0:=r1.cell 0 rfl
 have z0:=r2.cell 0 rfl
 have z1:=r2.cell 1 rfl
 have g0:=r2.frozen 0
 have g1:=r2.frozen 1
 have hF : Below w.heap.size w ((w2.setCell ⟨w.heap.size+1+1,0,none⟩ (.int .i64 k)).setCell ⟨w.heap.size+1+1,1,none⟩ (.slice a1 q c1)):=(hbw2.setCell (p:=⟨w.heap.size+1+1,0,none⟩) (by simp;omega) _).setCell (p:=⟨w.heap.size+1+1,1,none⟩) (by simp;omega) _
 clear r1 r2 Hc f0 f1 f2 m1
 go_wp2_with fail
 exact bodyPost_ret (v:=.tuple #[.agg #[.int .i64 k,.slice a1 q c1],.slice ap q cp,.int .i64 0]) (by simp [results,Tryz.results228,go_sem,z0,z1]) rfl ⟨a1,c1,ap,cp,rfl,hF⟩
theorem zH (P M : Int) (am : OA) (mn cm : Nat) (mod : Lz) (k : Nat) (a : OA) (n c : Nat) (D : Ll) (w : World) (hmod : Ints w am mn mod) (hi : bZ w a n D) (hB : bA P M mod=true) (hR : bH (aa P M.toNat mod).El k D) (hk : k<=256) (hn : n<=256) :
  Calls Tryz.prog 176 #[.agg #[.int .i64 P,.int .i64 M,.slice am mn cm],.agg #[.int .i64 k,.slice a n c]] w λe w'=>e = .returned (.tuple #[.int .i64 (aA (aa P M.toNat mod).ops D k).2.length,.int .i64 0])/\Below w.heap.size w w':=by
 have HC:=Z5 (λV (hV : Below w.heap.size w V)=>tk P M am mn cm mod k a n c D V (hmod.ah hV) (hi.ah hV) hB hR hk hn)
 obtain ⟨q,hq⟩ : ∃q,(aA (aa P M.toNat mod).ops D k).2.length=q:=⟨_,rfl⟩
 rw [hq] at HC ⊢
 clear hmod hi hB hR hq
 go_enter Tryz.func176,Tryz.ntmps176
 go_wp2_with fail
 have hbW:=dH w (.cells #[.int .i64 P,.int .i64 M,.slice am mn cm] 24) (.cells #[.int .i64 k,.slice a n c] 82)
 refine (HC.out _ hbW).mono ?_
 rintro e w1 ⟨a1,c1,ap,cp,rfl,hb1⟩
 have hF:=Below.next (Below.next hbW hb1) (an w1 (.cells #[.int .i64 k,.slice a1 q c1] 82))
 go_wp2_with fail
 go_ret2
 exact ⟨rfl,hF⟩
theorem DU {D U : Ll} {i : Nat} (h1 : i<D.length) (h2 : i<U.length) : aj (fE D U) i=aj D i ++ aj U i:=by
 have h : i<(fE D U).length:=by simp [fE];omega
 rw [aE h,aE h1,aE h2]
 simp [fE]
theorem Ints.drop {w : World} {b o : Nat} {n k : Nat} {l : Lz} (h : Ints w (some ⟨b,o,none⟩) n l) (hk : k<=n) : Ints w (some ⟨b,o+k,none⟩) (n - k) (l.drop k) :=
 ⟨by rw [List.length_drop,h.len],λ_=>rfl,by have:=h.max;omega,λi hi=>by
  have h1:=h.cell (k+i) (by omega)
  have e : nth (l.drop k) i=nth l (k+i):=by unfold nth;simp only [List.getD_eq_getElem?_getD,List.getElem?_drop]
  rw [e]
  simp only [ablk_some,aoff_some] at h1 ⊢
  rw [Nat.add_assoc];exact h1⟩
theorem tG (P M : Int) (am : OA) (mn cm : Nat) (mod : Lz) (k : Nat) (a : OA) (c : Nat) (D : Ll) (w : World) (hmod : Ints w am mn mod) (hi : bZ w a k D) (hB : bA P M mod=true) (hR : bH (aa P M.toNat mod).El k D) (hk : k<=64) :
  Calls Tryz.prog 175 #[.agg #[.int .i64 P,.int .i64 M,.slice am mn cm],.agg #[.int .i64 k,.slice a k c]] w λe w' =>
   ∃a1 c1 a2 c2,e = .returned (.tuple #[.agg #[.int .i64 k,.slice a1 k c1],.agg #[.int .i64 k,.slice a2 k c2],.int .i64 0])/\bN w.heap.size w' a1 k (kS (aa P M.toNat mod).ops D k)/\Below w.heap.size w w':=by
 have HC:=Z5 (pC am mn cm k a k c hmod hi hB hR (by omega) (by omega))
 have hinv:=iW (P:=P) (M:=M) (mod:=mod) (by rw [cP];exact hB)
 have F:=eX hB
 have hDl:=hi.len
 have hJr:=lK hR (o4 F.zero F.one k)
 have hJl : (fE D (dX k)).length=k:=by simp [fE,cA,hDl]
 have HJn : Hid (∀i,i<k->(fE D (dX k)).take (i+1)=(fE D (dX k)).take i ++ [aj D i ++ ez k i]/\(aj D i).length=k):=λi hi'=>by
  have h:=DU (D:=D) (U:=dX k) (i:=i) (by omega) (by rw [cA];exact hi')
  rw [iw hi'] at h
  rw [List.take_succ_eq_append_getElem (by rw [hJl];exact hi'),<- aE (by rw [hJl];exact hi'),h]
  exact ⟨rfl,(hR.row (i:=i) (by omega)).1⟩
 unfold kS
 obtain ⟨J,hJ⟩ : ∃J,fE D (dX k)=J:=⟨_,rfl⟩
 rw [hJ] at hJr hJl HJn ⊢
 obtain ⟨M',rfl,hel,_,hF,hA,_⟩:=fU hB
 obtain ⟨M2,e2,hrf,hmods⟩:=eW (by rw [cP];exact hB)
 obtain rfl : M'=M2:=by omega
 rw [Int.toNat_natCast] at hJr hinv ⊢
 rw [<- hel] at hJr
 have hag:=(gg hA hF.cl hJr k (by omega)).1
 rw [hag]
 have HEl : Hid (∀V ab cb,Below w.heap.size w V->bZ V ab k J->Calls Tryz.prog 183 #[.agg #[.int .i64 P,.int .i64 M',.slice am mn cm],.slice ab k cb,.int .i64 k] V λe w' =>
   Below V.heap.size V w'/\∃a1 c1 v,e = .returned (.tuple #[.slice a1 k c1,v])/\bZ w' a1 k (aA (fw P M' mod) J k).1/\Hid (∀j,j<k->∀ra rn rc,w'.cell? ⟨ablk a1,aJ a1+j,none⟩=some (.slice ra rn rc)->rn<=rc)):=λV ab cb hV hM=>by
  refine (nB P M' am mn cm mod ab k cb k (k+k) J V ⟨hrf,hmods V am mn (hmod.ah hV)⟩ hM hJr (by omega) (by omega) (by omega) hinv).mono ?_
  rintro e w' ⟨a4,c4,R4,ap,cp,rfl,hO,_,hb⟩
  rw [hJl] at hO ⊢
  refine ⟨hb,a4,c4,_,rfl,hO.kK,λj hj ra rn rc hc=>?_⟩
  have h1:=hO.cell hj
  rw [hc] at h1
  have h2:=pR (hO.row j hj)
  simp only [Option.some.injEq,Value.slice.injEq] at h1
  omega
 have HEn : Hid ((aA (fw P M' mod) J k).1.length=k):=by show _=_;rw [bM];exact hJl
 have HEw : Hid (∀i,i<k->(aj (aA (fw P M' mod) J k).1 i).length=k+k):=λi hi'=>by
  have h:=gg hA hF.cl hJr k (by omega)
  rw [h.1] at h
  exact (h.2.row (i:=i) (by rw [bM];omega)).1
 obtain ⟨E,hE⟩ : ∃E,(aA (fw P M' mod) J k).1=E:=⟨_,rfl⟩
 rw [hE] at HEl HEw HEn ⊢
 have HJl:=Z5 hJl
 clear hB hR hinv hel hF hA e2 hrf hmods hag hE hmod F hJr hJ hJl hDl
 go_enter Tryz.func175,Tryz.ntmps175
 go_wp2_with fail
 obtain ⟨W,hW⟩ : ∃W : World,W=(((w.alloc (.cells #[.int .i64 P,.int .i64 M',.slice am mn cm] 24)).alloc (.cells #[.int .i64 k,.slice a k c] 82)).alloc (.cells #[.int .i64 0,.slice none 0 0] 82)).alloc (.cells #[.int .i64 0,.slice none 0 0] 82):=⟨_,rfl⟩
 rw [<- hW]
 have hbW : Below w.heap.size w W:=by rw [hW];exact ((((Below.refl _ _).alloc (Nat.le_refl _) _).alloc (by simp) _).alloc (by simp;omega) _).alloc (by simp;omega) _
 have x0 : aV W w.heap.size [.int .i64 P,.int .i64 M',.slice am mn cm]:=by rw [hW];exact (((aV.new _ _ _ rfl).alloc _).alloc _).alloc _
 have x1 : aV W (w.heap.size+1) [.int .i64 k,.slice a k c]:=by rw [hW];exact ((aV.new _ _ _ (by simp)).alloc _).alloc _
 have x2 : aV W (w.heap.size+1+1) [.int .i64 0,.slice none 0 0]:=by rw [hW];exact (aV.new _ _ _ (by simp)).alloc _
 have x3 : aV W (w.heap.size+1+1+1) [.int .i64 0,.slice none 0 0]:=by rw [hW];exact aV.new _ _ _ (by simp)
 have HS : Hid (∀V,Below W.heap.size W V->(V.cell? ⟨w.heap.size,0,none⟩=some (.int .i64 P)/\V.cell? ⟨w.heap.size,1,none⟩=some (.int .i64 M')/\V.cell? ⟨w.heap.size,2,none⟩=some (.slice am mn cm))/\V.cell? ⟨w.heap.size+1,0,none⟩=some (.int .i64 k)/\V.cell? ⟨w.heap.size+1,1,none⟩=some (.slice a k c)):=λV hV=>by
  have r0:=x0.ah hV
  have r1:=x1.ah hV
  exact ⟨⟨r0.cell 0 rfl,r0.cell 1 rfl,r0.cell 2 rfl⟩,r1.cell 0 rfl,r1.cell 1 rfl⟩
 have HX:=Z5 (And.intro x2 x3)
 have HbW:=Z5 hbW
 clear hW x0 x1 x2 x3 hbW
 refine (HC.out W HbW.out).mono ?_
 rintro e w1 ⟨rfl,hb1⟩
 obtain ⟨⟨f0,f1,f2⟩,m0,m1⟩:=HS.out w1 hb1
 have hun:=zI k w1 (by omega)
 have Hun:=Z5 hun
 have hpla:=hi.pl
 clear hun HC f0 f1 f2
 go_wp2_with fail
 refine Hun.out.mono ?_
 rintro e X ⟨au,cu,Ru,rfl,hU,hb2⟩
 have hbX:=Below.next hb1 hb2
 have hbwX:=Below.next HbW.out hbX
 have HMu:=Z5 hU.kK
 have hplu:=hU.kK.pl
 have hiX:=hi.ah hbwX
 clear hU m0 m1 Hun hb1 hb2 hi
 go_wp2_with fail
 go_loopw [10,11] (λov iv wr=>∃(i : Nat) (ab : OA) (cb : Nat),i<=k/\iv = .int .i64 i/\ov = .slice ab i cb/\(∃R,aU wr X.heap.size ab i cb R (J.take i))/\Below X.heap.size X wr) (λ_ iv _=>k - (intOf iv).toNat)
 case atStart=>exact ⟨0,none,0,Nat.zero_le _,rfl,rfl,⟨[],by simpa using aU.empty X X.heap.size⟩,Below.refl _ _⟩
 case round =>
  obtain ⟨i,ab,cb,hik,rfl,rfl,⟨R,hO⟩,hbr⟩:=hrel
  by_cases hlt : i<k
  ·obtain ⟨ra,rn,rc,hcell,hrow⟩:=hiX.cell i hlt
   obtain ⟨ua,un,uc,hcellu,hrowu⟩:=HMu.out.cell i hlt
   obtain ⟨hst,hrl⟩:=HJn.out i hlt
   have hrn : rn=k:=by rw [<- hrow.len];exact hrl
   have hun : un=k:=by rw [<- hrowu.len,iw hlt,gq]
   obtain rfl : k=rn:=hrn.symm
   obtain rfl : k=un:=hun.symm
   rw [iw hlt] at hrowu
   obtain ⟨Di,hDi⟩ : ∃Di,aj D i=Di:=⟨_,rfl⟩
   obtain ⟨Ui,hUi⟩ : ∃Ui,ez k i=Ui:=⟨_,rfl⟩
   rw [hDi] at hrow hst hrl
   rw [hUi] at hrowu hst
   have hul : Ui.length=k:=by rw [<- hUi];exact gq k i
   have hplr:=hrow.pl
   have hplru:=hrowu.pl
   have HS2 : Hid (∀V,Below X.heap.size X V->V.cell? ⟨w.heap.size+1,1,none⟩=some (.slice a k c)/\V.cell? ⟨ablk a,aJ a+i,none⟩=some (.slice ra k rc)/\V.cell? ⟨ablk au,aJ au+i,none⟩=some (.slice ua k uc)/\Ints V ra k Di/\Ints V ua k Ui/\Below X.heap.size X V):=λV hV =>
    ⟨(HS.out V (Below.next hbX hV)).2.2,aw hV hcell,aw hV hcellu,hrow.ah hV,hrowu.ah hV,hV⟩
   have Hst:=Z5 hst
   have Hdl:=Z5 hrl
   have Hul:=Z5 hul
   have HO:=Z5 (And.intro hO hbr)
   have hsz:=hbr.size
   have hEa:=Z5 (an wr (.cells #[] 3))
   have hOe:=Z5 (fK wr 3)
   have hbr0:=Z5 hbr
   clear hcell hcellu hrow hrowu hst hrl hul hDi hUi hO hrn hun
   go_wp2_with fail
   go_region_held3 (λV=>V.cell? ⟨w.heap.size+1,1,none⟩=some (.slice a k c)/\V.cell? ⟨ablk a,aJ a+i,none⟩=some (.slice ra k rc)/\V.cell? ⟨ablk au,aJ au+i,none⟩=some (.slice ua k uc)/\Ints V ra k Di/\Ints V ua k Ui/\Below X.heap.size X V)
    ((refine HS2.out _ ?_;first | exact hb7 | exact Below.next hbr0.out hb5 | exact Below.next hbr0.out hb4 | exact hbr0.out.drew | exact (Below.next hbr0.out hEa.out).drew | exact Below.next hbr0.out hEa.out | exact Below.bQ (Below.next hbr0.out hb5) _ | assumption | (go_split_ands;assumption)))
    (first
     | (obtain ⟨_,_,_,hIr,hIu,hB9⟩:=(by assumption : _/\_/\_/\Ints _ ra k Di/\Ints _ ua k Ui/\Below X.heap.size X _);refine bg (by rfl) (.tmp 34) (.tmp 39) 22 3 (by rfl) (.int .i64 0) 8 Tryz.underlying22 aX (by rfl) wr.heap.size _ 0 0 [] (by rfl) (by exact hOe.out) ra k rc (Di.map (Value.int .i64)) (by rfl) hplr (by rw [List.length_map];exact Hdl.out) (Ints.news hIr) (ints_oneCell _ _) (by omega) (by unfold maxLen;omega) (by exact hEa.out.size) ?_;intro a4 c4 w4 hown4 hgr4 hap4;have hb4 : Below wr.heap.size wr w4:=(by first | exact Below.app (e:=3) (xs:=[]) hEa.out hOe.out hgr4 (Nat.le_refl _) hEa.out.size | exact Below.app (e:=3) (xs:=[]) hEa.out.drew (by exact hOe.out) hgr4 (Nat.le_refl _) hEa.out.drew.size);rw [Nat.zero_add] at hown4 ⊢;rw [List.nil_append] at hown4)
     | (obtain ⟨_,_,_,hIr,hIu,hB9⟩:=(by assumption : _/\_/\_/\Ints _ ra k Di/\Ints _ ua k Ui/\Below X.heap.size X _);refine bg (by rfl) (.tmp 40) (.tmp 44) 22 3 (by rfl) (.int .i64 0) 8 Tryz.underlying22 aX (by rfl) wr.heap.size a4 k c4 (Di.map (Value.int .i64)) (by rfl) (by exact hown4) ua k uc (Ui.map (Value.int .i64)) (by rfl) hplru (by rw [List.length_map];exact Hul.out) (Ints.news hIu) (ints_oneCell _ _) (by omega) (by unfold maxLen;omega) hb4.size ?_;intro a5 c5 w5 hown5 hgr5 hap5;have hb5 : Below wr.heap.size wr w5:=Below.app hb4 hown4 hgr5 (Nat.le_refl _) hb4.size;have hO5:=Z5 (HO.out.1.ah (Below.next hb5 (an w5 (.cells #[.slice a5 (k+k) c5] 22))));have hEb:=Z5 (Below.bQ (Below.next hbr0.out hb5) (.cells #[.slice a5 (k+k) c5] 22)))
     | (refine bg (by rfl) (.tmp 33) (.tmp 46) 25 22 (by rfl) (.slice none 0 0) 24 Tryz.underlying25 ch (by rfl) X.heap.size ab i cb _ (by rfl) (by exact hO5.out.own) _ 1 1 [.slice a5 (k+k) c5] (by rfl) (λ_=>rfl) rfl (by intro j hj;obtain rfl : j=0:=(by omega);exact bs _ _ _ rfl) (by intro y hy;simp at hy;subst hy;rfl) (by omega) (by unfold maxLen;omega) (by exact hEb.out.size) ?_;intro a6 c6 w6 hown6 hgr6 hap6;have hb7 : Below X.heap.size X w6:=(by first | exact Below.app hEb.out hO5.out.own hgr6 (Nat.le_refl _) hEb.out.size | exact Below.app hEb.out.drew (by exact hO5.out.own) hgr6 (Nat.le_refl _) hEb.out.drew.size)))
   all_goals (
    go_wp2_with fail
    go_roundw
    case rel =>
     have hown9 : (w5.alloc (.cells #[.slice a5 (k+k) c5] 22)).ownsRow X.heap.size 3 1 (.slice a5 (Di ++ Ui).length c5) (Di ++ Ui).length ((Di ++ Ui).map (Value.int .i64)):=by
      rw [List.length_append,Hdl.out,Hul.out,List.map_append]
      exact aP (aW hown5 (an _ _)) hsz
     have hra : a5 ≠ none->¬ bL ab R (ablk a5):=λh0 hI=>by
      have h1:=(aR hown5 h0).1
      have h2:=(HO.out.1.lt _ hI).2
      omega
     have hl : (Di ++ Ui).length=k+k:=by rw [List.length_append,Hdl.out,Hul.out]
     have hP:=aU.push hO5.out hown9 hra (by rw [hl];exact hown6) hgr6 hap6
     exact ⟨i+1,a6,c6,by omega,by go_num,rfl,⟨_,by rw [Hst.out];exact hP⟩,hb7⟩
    case measure=>simp [intOf] <;> omega)
  ·obtain rfl : i=k:=by omega
   obtain ⟨hl,hE2⟩ : (J.take i).length=i/\J.take i=J:=by
    have h:=hO.ll
    refine ⟨h,?_⟩
    exact List.take_of_length_le (by rw [HJl.out];exact Nat.le_refl _)
   rw [hE2] at hO
   have hbwr:=Below.next hbwX hbr
   have hbWr:=Below.next hbX hbr
   have Hel:=Z5 (HEl.out wr ab cb hbwr hO.kK)
   obtain ⟨⟨f0,f1,f2⟩,m0,m1⟩:=HS.out wr hbWr
   clear hl hE2 hO HMu hiX hplu HEl HJn
   go_wp2_with fail
   refine Hel.out.mono ?_
   rintro e X2 ⟨hb3,ae,ce,ve,rfl,hEm,hEc⟩
   have hbX2:=Below.next hbWr hb3
   have hplE:=hEm.pl
   clear f0 f1 f2 m0 m1 Hel hb3 hbr hbwr hbWr
   go_wp2_with fail
   go_loopw [12,13,14] (λtv rv jv ws=>∃(j : Nat) (at1 : OA) (ct : Nat) (ar : OA) (cr : Nat),j<=i/\jv = .int .i64 j/\tv = .slice at1 j ct/\rv = .slice ar j cr/\(∃xs,ws.ownsRow X2.heap.size 22 1 (.slice ar j cr) j xs)/\(∃R,aU ws X2.heap.size at1 j ct R ((E.map (List.drop i)).take j)/\Hid (∀b,bL at1 R b->db ar b))/\Below X2.heap.size X2 ws) (λ_ _ jv _=>i - (intOf jv).toNat)
   case atStart=>exact ⟨0,none,0,none,0,Nat.zero_le _,rfl,rfl,rfl,⟨[],bY⟩,⟨[],by simpa using aU.empty X2 X2.heap.size,λb _=>.inl rfl⟩,Below.refl _ _⟩
   case round =>
    obtain ⟨j,at1,ct,ar,cr,hji,rfl,rfl,rfl,⟨xs,hownr⟩,⟨R,hOt,hsep⟩,hbr⟩:=hrel
    by_cases hlt : j<i
    ·obtain ⟨ra,rn,rc,hcell,hrow⟩:=hEm.cell j hlt
     have hrn : rn=i+i:=by rw [<- hrow.len];exact HEw.out j hlt
     have hni : rn - i=i:=by omega
     have hri : i<rn:=by omega
     clear hrn
     obtain ⟨Ei,hEi⟩ : ∃Ei,aj E j=Ei:=⟨_,rfl⟩
     rw [hEi] at hrow
     have hplr:=hrow.pl
     have HS2 : Hid (∀V,Below X2.heap.size X2 V->V.cell? ⟨w.heap.size+1,0,none⟩=some (.int .i64 i)/\V.cell? ⟨ablk ae,aJ ae+j,none⟩=some (.slice ra rn rc)/\Ints V ra rn Ei/\Below X2.heap.size X2 V):=λV hV =>
      ⟨(HS.out V (Below.next hbX2 hV)).2.1,aw hV hcell,hrow.ah hV,hV⟩
     have hlen:=Z5 hrow.len
     have hplk : Pl ra i:=λh=>hplr (by omega)
     have hcap:=hEc.out j hlt ra rn rc hcell
     have hcap2 : i<=rc:=by omega
     have hcap3 : (i : Int)<=rc:=by omega
     have hcap4 : (i : Int)<=rn:=by omega
     have hcap5 : i<=rn:=by omega
     have HO:=Z5 (And.intro hOt (And.intro hownr hbr))
     have hsz:=hbr.size
     have hEa:=Z5 (an wr (.cells #[] 3))
     have hOe:=Z5 (fK wr 3)
     have hbr0:=Z5 hbr
     have hEi:=Z5 hEi
     clear hcell hrow hOt hownr
     go_wp2_with fail
     go_cut [13] (λv wx=>∃a6 c6,v = .slice a6 (j+1) c6/\(∃ys,wx.ownsRow X2.heap.size 22 1 (.slice a6 (j+1) c6) (j+1) ys)/\aU wx X2.heap.size at1 j ct R ((E.map (List.drop i)).take j)/\Hid (∀b,bL at1 R b->db a6 b)/\Below X2.heap.size X2 wx)
     case first =>
      go_region_held3 (λV=>V.cell? ⟨w.heap.size+1,0,none⟩=some (.int .i64 i)/\V.cell? ⟨ablk ae,aJ ae+j,none⟩=some (.slice ra rn rc)/\Ints V ra rn Ei/\Below X2.heap.size X2 V)
       ((refine HS2.out _ ?_;first | exact hb7 | exact Below.next hbr0.out hb4 | exact hbr0.out.drew | exact (Below.next hbr0.out hEa.out).drew | exact Below.next hbr0.out hEa.out | exact Below.bQ (Below.next hbr0.out hb4) _ | assumption | (go_split_ands;assumption)))
       (first
        | (obtain ⟨_,_,hIr,hB9⟩:=(by assumption : _/\_/\Ints _ ra rn Ei/\Below X2.heap.size X2 _);have hIk:=hIr.take (k:=i) (by omega);refine bg (by rfl) (.tmp 62) (.tmp 69) 22 3 (by rfl) (.int .i64 0) 8 Tryz.underlying22 aX (by rfl) wr.heap.size _ 0 0 [] (by rfl) (by exact hOe.out) ra i rc ((Ei.take i).map (Value.int .i64)) (by rfl) hplk (by rw [List.length_map];exact hIk.len) (Ints.news hIk) (ints_oneCell _ _) (by omega) (by unfold maxLen;omega) (by exact hEa.out.size) ?_;intro a4 c4 w4 hown4 hgr4 hap4;have hb4 : Below wr.heap.size wr w4:=(by first | exact Below.app (e:=3) (xs:=[]) hEa.out hOe.out hgr4 (Nat.le_refl _) hEa.out.size | exact Below.app (e:=3) (xs:=[]) hEa.out.drew (by exact hOe.out) hgr4 (Nat.le_refl _) hEa.out.drew.size);rw [Nat.zero_add] at hown4 ⊢;rw [List.nil_append] at hown4;have hk5:=Z5 (Below.next hb4 (an w4 (.cells #[.slice a4 i c4] 22)));have hO5:=Z5 (HO.out.1.ah hk5.out);have hR5:=Z5 (aW HO.out.2.1 hk5.out);have hEb:=Z5 (Below.next hbr0.out hk5.out))
        | (refine bg (by rfl) (.tmp 61) (.tmp 71) 25 22 (by rfl) (.slice none 0 0) 24 Tryz.underlying25 ch (by rfl) X2.heap.size ar j cr _ (by rfl) (by exact hR5.out) _ 1 1 [.slice a4 i c4] (by rfl) (λ_=>rfl) rfl (by intro q hq;obtain rfl : q=0:=(by omega);exact bs _ _ _ rfl) (by intro y hy;simp at hy;subst hy;rfl) (by omega) (by unfold maxLen;omega) (by exact hEb.out.size) ?_;intro a6 c6 w6 hown6 hgr6 hap6;have hb7 : Below X2.heap.size X2 w6:=(by first | exact Below.app hEb.out hR5.out hgr6 (Nat.le_refl _) hEb.out.size | exact Below.app hEb.out.drew (by exact hR5.out) hgr6 (Nat.le_refl _) hEb.out.drew.size)))
      all_goals (
       go_wp2_with fail
       go_meet
       have hO6 : aU w6 X2.heap.size at1 j ct R ((E.map (List.drop i)).take j):=hO5.out.bz λb hb=>hgr6.block b (hO5.out.lt b hb).2 λe=>(hsep.out b hb).own j cr e.symm
       exact ⟨a6,c6,rfl,⟨_,hown6⟩,hO6,λb hb=>hap6 b (hO5.out.lt b hb).2 (hsep.out b hb),hb7⟩)
     obtain ⟨a6,c6,rfl,⟨ys,hown6⟩,hOt,hsep6,hb6⟩:=hcut
     generalize wc=Y at *
     obtain ⟨rb,ro,hra⟩ : ∃rb ro,ra=some ⟨rb,ro,none⟩:=⟨_,_,hplr (by omega)⟩
     subst hra
     have hi0 : ¬ i=0:=by omega
     have hrc : ¬ rc=i:=by omega
     have hlo : (i : Int)<=rn:=by omega
     have Htk : Hid ((E.map (List.drop i)).take (j+1)=(E.map (List.drop i)).take j ++ [Ei.drop i]):=by
      show _=_
      rw [List.take_succ_eq_append_getElem (by rw [List.length_map,HEn.out];exact hlt),List.getElem_map,<- hEi.out,aE (by rw [HEn.out];exact hlt)]
     have HO2:=Z5 (And.intro hOt (And.intro hown6 hb6))
     have hsz2:=hb6.size
     have hEa2:=Z5 (an Y (.cells #[] 3))
     have hOe2:=Z5 (fK Y 3)
     have hbr2:=Z5 hb6
     have hdl : (Ei.drop i).length=i:=by rw [List.length_drop,hlen.out];omega
     have Hdl:=Z5 hdl
     have h1:=(HS2.out Y hb6)
     clear hOt hown6 hb6 hsep hbr hbr0 hEa hOe HO hsz hcap hcap2 hcap3 hcap4 hcap5 hplk hdl
     go_wp2_with fail
     go_region_held3 (λV=>V.cell? ⟨w.heap.size+1,0,none⟩=some (.int .i64 i)/\V.cell? ⟨ablk ae,aJ ae+j,none⟩=some (.slice (some ⟨rb,ro,none⟩) rn rc)/\Ints V (some ⟨rb,ro,none⟩) rn Ei/\Below X2.heap.size X2 V)
      ((refine HS2.out _ ?_;first | exact hb7 | exact Below.next hbr2.out hb4 | exact hbr2.out.drew | exact (Below.next hbr2.out hEa2.out).drew | exact Below.next hbr2.out hEa2.out | exact Below.bQ (Below.next hbr2.out hb4) _ | assumption | (go_split_ands;assumption)))
      (first
       | (obtain ⟨_,_,hIr,hB9⟩:=(by assumption : _/\_/\Ints _ (some ⟨rb,ro,none⟩) rn Ei/\Below X2.heap.size X2 _);have hIk:=hIr.drop (k:=i) (by omega);rw [hni] at hIk;refine bg (by rfl) (.tmp 74) (.tmp 81) 22 3 (by rfl) (.int .i64 0) 8 Tryz.underlying22 aX (by rfl) Y.heap.size _ 0 0 [] (by rfl) (by exact hOe2.out) (some ⟨rb,ro+i,none⟩) i (rc - i) ((Ei.drop i).map (Value.int .i64)) (by rfl) (λ_=>rfl) (by rw [List.length_map];exact Hdl.out) (Ints.news hIk) (ints_oneCell _ _) (by omega) (by unfold maxLen;omega) (by exact hEa2.out.size) ?_;intro a4 c4 w4 hown4 hgr4 hap4;have hb4 : Below Y.heap.size Y w4:=(by first | exact Below.app (e:=3) (xs:=[]) hEa2.out hOe2.out hgr4 (Nat.le_refl _) hEa2.out.size | exact Below.app (e:=3) (xs:=[]) hEa2.out.drew (by exact hOe2.out) hgr4 (Nat.le_refl _) hEa2.out.drew.size);rw [Nat.zero_add] at hown4 ⊢;rw [List.nil_append] at hown4;have hk5:=Z5 (Below.next hb4 (an w4 (.cells #[.slice a4 i c4] 22)));have hO5:=Z5 (HO2.out.1.ah hk5.out);have hR5:=Z5 (aW HO2.out.2.1 hk5.out);have hEb:=Z5 (Below.next hbr2.out hk5.out))
       | (refine bg (by rfl) (.tmp 73) (.tmp 83) 25 22 (by rfl) (.slice none 0 0) 24 Tryz.underlying25 ch (by rfl) X2.heap.size at1 j ct _ (by rfl) (by exact hO5.out.own) _ 1 1 [.slice a4 i c4] (by rfl) (λ_=>rfl) rfl (by intro q hq;obtain rfl : q=0:=(by omega);exact bs _ _ _ rfl) (by intro y hy;simp at hy;subst hy;rfl) (by omega) (by unfold maxLen;omega) (by exact hEb.out.size) ?_;intro a7 c7 w7 hown7 hgr7 hap7;have hb7 : Below X2.heap.size X2 w7:=(by first | exact Below.app hEb.out hO5.out.own hgr7 (Nat.le_refl _) hEb.out.size | exact Below.app hEb.out.drew (by exact hO5.out.own) hgr7 (Nat.le_refl _) hEb.out.drew.size)))
     all_goals (
      go_wp2_with fail
      go_roundw
      case rel =>
       have hown9 : (w4.alloc (.cells #[.slice a4 i c4] 22)).ownsRow X2.heap.size 3 1 (.slice a4 (Ei.drop i).length c4) (Ei.drop i).length ((Ei.drop i).map (Value.int .i64)):=by
        rw [Hdl.out]
        exact aP (aW hown4 (an _ _)) hsz2
       have hra : a4 ≠ none->¬ bL at1 R (ablk a4):=λh0 hI=>by
        have h1:=(aR hown4 h0).1
        have h2:=(HO2.out.1.lt _ hI).2
        omega
       have hP:=aU.push hO5.out hown9 hra (by rw [Hdl.out];exact hown7) hgr7 hap7
       have hal : a6 ≠ none->ablk a6<Y.heap.size:=λh0=>(aR HO2.out.2.1 h0).2
       refine ⟨j+1,a7,c7,a6,c6,by omega,by go_num,rfl,rfl,⟨ys,?_⟩,⟨_,by rw [Htk.out];exact hP,λb hb=>?_⟩,hb7⟩
       ·by_cases h0 : at1=none
        ·refine eK hR5.out hgr7 (.inl h0)
        ·refine eK hR5.out hgr7 (.inr λe=>?_)
         rcases hsep6.out _ (.inl ⟨h0,rfl⟩) with h3 | h3
         ·exfalso
          rcases HO2.out.2.1.2 with ⟨_,h4⟩ | ⟨g',cap,cur,hv,_⟩
          ·omega
          ·rw [h3] at hv;cases hv
         ·exact h3 e.symm
       ·by_cases h0 : a6=none
        ·exact .inl h0
        ·refine .inr λe=>?_
         rcases bL.push hO5.out hap7 hb with h3 | ⟨h3,h4⟩ | h3
         ·rcases hsep6.out b h3 with h5 | h5
          ·exact h0 h5
          ·exact h5 e
         ·have h5:=(aR hown4 h3).1
          have h6:=hal h0
          omega
         ·have h6:=hal h0
          have h7:=hEb.out.size
          have h8:=hk5.out.size
          omega
      case measure=>simp [intOf] <;> omega)
    ·obtain rfl : j=i:=by omega
     have hT : (E.map (List.drop j)).take j=E.map (List.drop j):=List.take_of_length_le (by rw [List.length_map,HEn.out];exact Nat.le_refl _)
     rw [hT] at hOt
     have hbWs:=Below.next hbX2 hbr
     have hbws:=Below.next HbW.out hbWs
     obtain ⟨_,m0,_⟩:=HS.out wr hbWs
     have zz:=HX.out.1.ah hbWs
     have yy:=HX.out.2.ah hbWs
     have z0:=zz.cell 0 rfl
     have z1:=zz.cell 1 rfl
     have y0:=yy.cell 0 rfl
     have y1:=yy.cell 1 rfl
     have fz0:=zz.frozen 0
     have fz1:=zz.frozen 1
     have fy0:=yy.frozen 0
     have fy1:=yy.frozen 1
     have hs2 : w.heap.size+1+1+1<X2.heap.size:=by have h1:=World.block_lt_of_cell? _ _ ((HX.out.2.ah hbX2).cell 0 rfl);exact h1
     have HO:=Z5 (And.intro hOt hbws)
     clear hT hOt hownr hsep zz yy hbWs hbws hbr
     go_wp2_with fail
     go_region
     all_goals (
      go_wp2_with fail
      refine bodyPost_ret (v:=.tuple #[.agg #[.int .i64 j,.slice at1 j ct],.agg #[.int .i64 j,.slice ar j cr],.int .i64 0]) (by simp [results,Tryz.results175,go_sem,z0,z1,y0,y1]) rfl ⟨at1,ct,ar,cr,rfl,?_,?_⟩
      ·exact (bN.own (aU.ah ((((HO.out.1.setOther (p:=⟨w.heap.size+1+1,0,none⟩) (by simp only [];omega) (.int .i64 j)).setOther (p:=⟨w.heap.size+1+1,1,none⟩) (by simp only [];omega) (.slice at1 j ct)).setOther (p:=⟨w.heap.size+1+1+1,0,none⟩) (by simp only [];omega) (.int .i64 j)).setOther (p:=⟨w.heap.size+1+1+1,1,none⟩) (by simp only [];omega) (.slice ar j cr)) (Below.refl _ _).drew)).mono (by omega)
      ·exact Below.next ((((HO.out.2.setCell (p:=⟨w.heap.size+1+1,0,none⟩) (by simp only [];omega) (.int .i64 j)).setCell (p:=⟨w.heap.size+1+1,1,none⟩) (by simp only [];omega) (.slice at1 j ct)).setCell (p:=⟨w.heap.size+1+1+1,0,none⟩) (by simp only [];omega) (.int .i64 j)).setCell (p:=⟨w.heap.size+1+1+1,1,none⟩) (by simp only [];omega) (.slice ar j cr)) (Below.refl _ _).drew)
theorem Jv {m : Nat} {Q : Lz} (h : bF m Q=true) : qp m Q:=λj hj=>⟨(gh h hj).1,(gh h hj).2.1⟩
theorem Iy {P M : Int} {mod : Lz} {N : Int} {L : Ll} {Q : Lz} (h : dR P M mod N L Q=0) : aL P M mod N L=0/\bF N Q=true:=by
 unfold dR at h
 by_cases h1 : aL P M mod N L=0
 ·refine ⟨h1,?_⟩
  rw [if_pos h1,nO] at h
  by_cases h2 : bF N Q=true
  ·exact h2
  ·rw [if_neg h2] at h;omega
 ·rw [if_neg h1] at h;exact absurd h h1
theorem Ee (P M : Int) (am : OA) (mn cm : Nat) (mod : Lz) (m : Nat) (a : OA) (n c : Nat) (L : Ll) (ao : OA) (no co : Nat) (Q : Lz) (w : World) (hmod : Ints w am mn mod) (hi : bZ w a n L) (hq : Ints w ao no Q)
  (hE : aL P M mod m L=0) (hQ : qp m Q) (hno : no<=1000000) :
  Calls Tryz.prog 111 #[.agg #[.int .i64 P,.int .i64 M,.slice am mn cm,.int .i64 m,.slice a n c],.slice ao no co] w λe w'=>e = .returned (.bool (rh (aa P M.toNat mod).ops L Q))/\Below w.heap.size w w':=by
 have HO : Hid (∀V,Below w.heap.size w V->Calls Tryz.prog 172 #[.agg #[.int .i64 P,.int .i64 M,.slice am mn cm],.slice a n c,.slice ao no co] V λe w'=>e = .returned (.int .i64 (i7 (aa P M.toNat mod).ops L Q).length)/\Below V.heap.size V w') :=
  λV hV=>vp P M am mn cm mod m a n c L ao no co Q V (hmod.ah hV) (hi.ah hV) (hq.ah hV) hE hQ hno
 have HB : Hid (rh (aa P M.toNat mod).ops L Q=(decide (no=n) && decide ((i7 (aa P M.toNat mod).ops L Q).length=no))):=by show _=_;unfold rh;rw [hq.len,hi.len]
 obtain ⟨r,hr⟩ : ∃r,(i7 (aa P M.toNat mod).ops L Q).length=r:=⟨_,rfl⟩
 obtain ⟨z,hz⟩ : ∃z,rh (aa P M.toNat mod).ops L Q=z:=⟨_,rfl⟩
 rw [hr] at HO HB
 rw [hz] at HB ⊢
 clear hr hz hmod hi hq hE hQ
 go_enter Tryz.func111,Tryz.ntmps111
 go_upto_region 1 with fail
 obtain ⟨W,hW⟩ : ∃W : World,W=w.alloc (.cells #[.int .i64 P,.int .i64 M,.slice am mn cm,.int .i64 m,.slice a n c] 27):=⟨_,rfl⟩
 rw [<- hW]
 have hbW : Below w.heap.size w W:=by rw [hW];exact an _ _
 have x0 : aV W w.heap.size [.int .i64 P,.int .i64 M,.slice am mn cm,.int .i64 m,.slice a n c]:=by rw [hW];exact aV.new _ _ _ rfl
 have hS : ∀V,Below W.heap.size W V->V.cell? ⟨w.heap.size,0,none⟩=some (.int .i64 P)/\V.cell? ⟨w.heap.size,1,none⟩=some (.int .i64 M)/\V.cell? ⟨w.heap.size,2,none⟩=some (.slice am mn cm)/\V.cell? ⟨w.heap.size,4,none⟩=some (.slice a n c)/\Below W.heap.size W V:=λV hV=>by
  have x1:=x0.ah hV
  exact ⟨x1.cell 0 rfl,x1.cell 1 rfl,x1.cell 2 rfl,x1.cell 4 rfl,hV⟩
 have HS:=Z5 hS
 have HbW:=Z5 hbW
 clear hW x0 hS hbW
 by_cases hl : no=n
 ·subst hl
  have Hz : Hid (z=decide (r=no)):=by show _=_;rw [HB.out];simp
  have hrr : ((r : Int) == no)=decide (r=no):=by
   by_cases h : r=no
   ·simp [h]
   ·simp only [h,decide_false];simp;omega
  go_region_held3 (λV=>V.cell? ⟨w.heap.size,0,none⟩=some (.int .i64 P)/\V.cell? ⟨w.heap.size,1,none⟩=some (.int .i64 M)/\V.cell? ⟨w.heap.size,2,none⟩=some (.slice am mn cm)/\V.cell? ⟨w.heap.size,4,none⟩=some (.slice a no c)/\Below W.heap.size W V)
   ((refine HS.out _ ?_;first | exact (Below.refl _ _).drew | (go_split_ands;exact Below.next (by assumption) (by assumption))))
   (first
    | (go_at_call 172;((with_reducible refine (HO.out _ (Below.next HbW.out (by go_split_ands;assumption))).mono ?_);rintro e w6 ⟨rfl,hb6⟩)))
  all_goals (
   go_wp2_with fail
   go_ret
   exact ⟨aY (by rw [Hz.out]),Below.next HbW.out (by go_split_ands;assumption)⟩)
 ·have hl1 : ((no : Int) == (n : Int))=false:=by simp;omega
  have Hz : Hid (z=false):=by show _=_;rw [HB.out,decide_eq_false hl];rfl
  obtain ⟨c0,c1,c2,c4,_⟩:=HS.out W (Below.refl _ _)
  clear hl
  go_quiet (fail)
  go_wp2
  go_ret
  exact ⟨aY Hz.out.symm,below_drewN HbW.out _⟩
def jq (rk : Lz->Nat) (Q : Lz) (most : Nat) : Nat->Lz
 | 0=>[]
 | k+1=>if (jq rk Q most k).length<most/\rk (jq rk Q most k ++ [nth Q k])=(jq rk Q most k).length+1 then jq rk Q most k ++ [nth Q k] else jq rk Q most k
theorem vl {rk : Lz->Nat} {Q : Lz} {most : Nat} : ∀ {j k : Nat},k<=j->most<=(jq rk Q most k).length->jq rk Q most j=jq rk Q most k
 | 0, k, h, _ => by
     obtain rfl : k = 0 := by omega
     rfl
 | j+1,k,h,h2=>by
  by_cases e : k=j+1
  ·subst e;rfl
  ·have ih:=vl (j:=j) (k:=k) (by omega) h2
   rw [jq,if_neg (by rw [ih];omega),ih]
section
variable {O : aQ} {El : Int->Prop} {m : Nat} {L : Ll}
theorem Gh (F : cK O El) (hL : bH El m L) (Q : Lz) (k : Nat) :
  (cI O L Q k).1.dQ O (bf L (nth Q k).toNat)=true ↔ sK O L ((cI O L Q k).2 ++ [nth Q k])=(cI O L Q k).2.length+1:=by
 obtain ⟨h1,h2,h3⟩:=xx F hL Q k
 obtain ⟨g1,g2,_⟩:=xu F hL Q k
 have hC:=iI F hL
 have hc:=dN hL F.zero
 have htk:=kD F g1 (hc (nth Q k).toNat)
 have hcl : nR O El L.length (bf L) (grL Q k) (nth Q k).toNat ↔ (cI O L Q k).1.dQ O (bf L (nth Q k).toNat)=false:=by
  rw [htk]
  exact ⟨λh φ hφ h0=>h φ hφ ((g2 φ hφ).2 h0),λh φ hφ h0=>h φ hφ ((g2 φ hφ).1 h0)⟩
 have hr:=lU F hL ((cI O L Q k).2 ++ [nth Q k])
 rw [wD] at hr
 have hcl2 : nR O El L.length (bf L) (gA (cI O L Q k).2) (nth Q k).toNat ↔ (cI O L Q k).1.dQ O (bf L (nth Q k).toNat)=false:=by
  rw [<- hcl]
  exact ⟨λh=>hC.sub h2 h,λh=>hC.mono _ _ h3 _ h⟩
 constructor
 ·intro ht
  refine hr.uniq (.ind _ (λh=>?_) h1)
  have:=hcl2.1 h
  rw [ht] at this;exact absurd this (by decide)
 ·intro he
  apply Classical.byContradiction
  intro ht
  have:=hr.uniq (.dep _ (hcl2.2 (by simpa using ht)) h1)
  omega
theorem IJ (F : cK O El) (hL : bH El m L) (Q : Lz) {most : Nat} (hmost : ∀k,k<=Q.length->(cI O L Q k).2.length<=most) : ∀k,k<=Q.length->jq (sK O L) Q most k=(cI O L Q k).2
 | 0,_=>rfl
 | k+1,h=>by
  have ih:=IJ F hL Q hmost k (by omega)
  have ht:=Gh F hL Q k
  have hm:=hmost (k+1) h
  rw [jq,ih]
  rw [cI] at hm ⊢
  by_cases hk : (cI O L Q k).1.dQ O (bf L (nth Q k).toNat)=true
  ·simp only [if_pos hk] at hm ⊢
   rw [List.length_append,List.length_singleton] at hm
   rw [if_pos ⟨by omega,ht.1 hk⟩]
  ·simp only [if_neg hk]
   rw [if_neg λh=>hk (ht.2 h.2)]
end
theorem zg (rk : Lz->Nat) (Q : Lz) (most : Nat) : ∀k,(jq rk Q most k).length<=k
 | 0=>Nat.le_refl _
 | k+1=>by
  have ih:=zg rk Q most k
  rw [jq]
  split
  ·rw [List.length_append];simp;omega
  ·omega
theorem uu (rk : Lz->Nat) (Q : Lz) (most : Nat) : ∀k,k<=Q.length->∀x ∈ jq rk Q most k,x ∈ Q
 | 0,_,x,hx=>by simp [jq] at hx
 | k+1,hk,x,hx=>by
  rw [jq] at hx
  split at hx
  ·rcases List.mem_append.1 hx with h | h
   ·exact uu rk Q most k (by omega) x h
   ·rw [List.mem_singleton.1 h];exact aN (by omega)
  ·exact uu rk Q most k (by omega) x hx
theorem Ck {m : Nat} {Q : Lz} (h : qp m Q) {x : Int} (hx : x ∈ Q) : 0<=x/\x<m:=by
 obtain ⟨j,hj,rfl⟩:=List.mem_iff_getElem.1 hx
 rw [<- ai hj];exact h j hj
theorem E2 {m : Nat} {Q : Lz} (h : ∀x ∈ Q,0<=x/\x<(m : Int)) : qp m Q:=λj hj=>h _ (aN hj)
theorem Ad (P M : Int) (am : OA) (mn cm : Nat) (mod : Lz) (m : Nat) (a : OA) (n c : Nat) (L : Ll) (ao : OA) (no co : Nat) (Q : Lz) (most : Nat) (w : World) (hmod : Ints w am mn mod) (hi : bZ w a n L) (hq : Ints w ao no Q)
  (hE : aL P M mod m L=0) (hQ : qp m Q) (hno : no<=1000) :
  Calls Tryz.prog 104 #[.agg #[.int .i64 P,.int .i64 M,.slice am mn cm],.slice a n c,.slice ao no co,.int .i64 most] w λe w' =>
   ∃a1 c1,e = .returned (.slice a1 (jq (sK (aa P M.toNat mod).ops L) Q most no).length c1)/\w'.ownsRow w.heap.size 3 1 (.slice a1 (jq (sK (aa P M.toNat mod).ops L) Q most no).length c1) (jq (sK (aa P M.toNat mod).ops L) Q most no).length ((bP (jq (sK (aa P M.toNat mod).ops L) Q most no)).map (Value.int .i64))/\Below w.heap.size w w':=by
 have Hql:=Z5 hq.len
 have hplo:=hq.pl
 obtain ⟨rk,hrk⟩ : ∃rk,sK (aa P M.toNat mod).ops L=rk:=⟨_,rfl⟩
 have HO : Hid (∀V a5 c5 l,Below w.heap.size w V->V.ownsRow w.heap.size 3 1 (.slice a5 l.length c5) l.length (l.map (Value.int .i64))->l.length<=2000->qp m l ->
   Calls Tryz.prog 172 #[.agg #[.int .i64 P,.int .i64 M,.slice am mn cm],.slice a n c,.slice a5 l.length c5] V λe w'=>e = .returned (.int .i64 (rk l))/\Below V.heap.size V w'):=λV a5 c5 l hV ho hl hil=>by
  have h:=vp P M am mn cm mod m a n c L a5 l.length c5 l V (hmod.ah hV) (hi.ah hV) (Ints.own ho).1 hE hil (by omega)
  rw [<- hrk];exact h
 rw [hrk]
 obtain ⟨G,hG⟩ : ∃G,jq rk Q most=G:=⟨_,rfl⟩
 have Hgm : Hid (∀k,k<=no->qp m (G k)/\(G k).length<=k):=λk hk=>by
  rw [<- hG]
  exact ⟨E2 λx hx=>Ck hQ (uu rk Q most k (by rw [Hql.out];exact hk) x hx),zg rk Q most k⟩
 have HG1 : Hid (∀k,(G k).length<most->rk (G k ++ [nth Q k])=(G k).length+1->G (k+1)=G k ++ [nth Q k]):=λk h1 h2=>by rw [<- hG] at h1 h2 ⊢;rw [jq,if_pos ⟨h1,h2⟩]
 have HG2 : Hid (∀k,rk (G k ++ [nth Q k]) ≠ (G k).length+1->G (k+1)=G k):=λk h2=>by rw [<- hG] at h2 ⊢;rw [jq,if_neg λh=>h2 h.2]
 have HG3 : Hid (∀k,k<=no->most<=(G k).length->G no=G k):=λk h1 h2=>by rw [<- hG] at h2 ⊢;exact vl h1 h2
 have HG0 : Hid (G 0=[]):=by rw [<- hG];rfl
 have HQ:=Z5 hQ
 rw [hG]
 clear hG hrk hmod hi hE hQ
 go_enter Tryz.func104,Tryz.ntmps104
 go_wp2_with fail
 obtain ⟨W,hW⟩ : ∃W : World,W=w.alloc (.cells #[.int .i64 P,.int .i64 M,.slice am mn cm] 24):=⟨_,rfl⟩
 rw [<- hW]
 have hbW : Below w.heap.size w W:=by rw [hW];exact an _ _
 have x0 : aV W w.heap.size [.int .i64 P,.int .i64 M,.slice am mn cm]:=by rw [hW];exact aV.new _ _ _ rfl
 have hqW:=hq.ah hbW
 have HS : Hid (∀V,Below W.heap.size W V->V.cell? ⟨w.heap.size,0,none⟩=some (.int .i64 P)/\V.cell? ⟨w.heap.size,1,none⟩=some (.int .i64 M)/\V.cell? ⟨w.heap.size,2,none⟩=some (.slice am mn cm)):=λV hV=>by
  have x1:=x0.ah hV
  exact ⟨x1.cell 0 rfl,x1.cell 1 rfl,x1.cell 2 rfl⟩
 have HbW:=Z5 hbW
 clear hW x0 hbW hq
 go_loopw [9,10] (λov iv wr=>∃(k g : Nat) (a1 : OA) (c1 : Nat),k<=no/\Hid ((G k).length=g)/\iv = .int .i64 k/\ov = .slice a1 g c1/\wr.ownsRow W.heap.size 3 1 (.slice a1 g c1) g ((G k).map (Value.int .i64))/\Below W.heap.size W wr) (λ_ iv _=>no - (intOf iv).toNat)
 case atStart=>exact ⟨0,0,none,0,Nat.zero_le _,by show _=_;rw [HG0.out];rfl,rfl,rfl,by rw [HG0.out];exact ⟨rfl,.inl ⟨rfl,rfl⟩⟩,Below.refl _ _⟩
 case round =>
  obtain ⟨k,g,a1,c1,hk,Hgl,rfl,rfl,hown,hbr⟩:=hrel
  by_cases hcond : k<no/\g<most
  ·obtain ⟨hlt,hgm⟩:=hcond
   have hgk : g<=1000:=by have h:=(Hgm.out k hk).2;rw [Hgl.out] at h;omega
   have hcx:=(hqW.ah hbr).cell k hlt
   obtain ⟨z,hz⟩ : ∃z,nth Q k=z:=⟨_,rfl⟩
   have hzm : 0<=z/\z<m:=by rw [<- hz];exact HQ.out k (by rw [Hql.out];exact hlt)
   have hg1:=HG1.out k
   have hg2:=HG2.out k
   rw [hz] at hcx hg1 hg2
   rw [Hgl.out] at hg1 hg2
   have hin:=(Hgm.out k hk).1
   have hinz : qp m (G k ++ [z]):=E2 λx hx=>by
    rcases List.mem_append.1 hx with h | h
    ·exact Ck hin h
    ·rw [List.mem_singleton.1 h];exact hzm
   have hpl1:=(Ints.own hown).1.pl
   have hbwr:=Below.next HbW.out hbr
   have HOf : Hid (∀V a5 c5,Below wr.heap.size wr V->V.ownsRow wr.heap.size 3 1 (.slice a5 (g+1) c5) (g+1) ((G k).map (Value.int .i64) ++ [.int .i64 z]) ->
     Calls Tryz.prog 172 #[.agg #[.int .i64 P,.int .i64 M,.slice am mn cm],.slice a n c,.slice a5 (g+1) c5] V λe w'=>e = .returned (.int .i64 (rk (G k ++ [z])))/\Below V.heap.size V w'):=λV a5 c5 hV ho=>by
    have hl : (G k ++ [z]).length=g+1:=by rw [List.length_append,Hgl.out];rfl
    have h1:=HO.out V a5 c5 (G k ++ [z]) (Below.next hbwr hV) (by rw [hl];exact aP (by simpa using ho) (by have:=hbwr.size;omega)) (by omega) hinz
    rw [hl] at h1
    exact h1
   have HS2 : Hid (∀V,Below wr.heap.size wr V->V.cell? ⟨w.heap.size,0,none⟩=some (.int .i64 P)/\V.cell? ⟨w.heap.size,1,none⟩=some (.int .i64 M)/\V.cell? ⟨w.heap.size,2,none⟩=some (.slice am mn cm)):=λV hV=>HS.out V (Below.next hbr hV)
   have HS4 : Hid (∀V,Below wr.heap.size wr V->V.cell? ⟨ablk ao,aJ ao+k,none⟩=some (.int .i64 z)/\Ints V a1 g (G k)/\Below wr.heap.size wr V):=λV hV=>by
    refine ⟨?_,(Ints.own (aW hown hV)).1,hV⟩
    have h:=((hqW.ah hbr).ah hV).cell k hlt
    rwa [hz] at h
   have Hbr:=Z5 hbr
   have Hown:=Z5 hown
   have hGl:=Hgl.out
   have Hg1:=Z5 hg1
   have Hg2:=Z5 hg2
   obtain ⟨Gk,hGk⟩ : ∃Gk,G k=Gk:=⟨_,rfl⟩
   rw [hGk] at HOf HS4 Hown hGl Hg1 Hg2 hinz hin Hgl
   obtain ⟨r,hr⟩ : ∃r,rk (Gk ++ [z])=r:=⟨_,rfl⟩
   rw [hr] at HOf Hg1 Hg2
   have HGk:=Z5 hGk
   clear hr hz hcx hown hbr hg1 hg2 hin hinz hGk hbwr hzm
   go_wp2_with fail
   go_cut [11] (λv wx=>∃a5 c5,v = .slice a5 (g+1) c5/\wx.ownsRow wr.heap.size 3 1 (.slice a5 (g+1) c5) (g+1) (Gk.map (Value.int .i64) ++ [.int .i64 z])/\Below wr.heap.size wr wx)
   case first =>
    have hO:=fK wr 3
    have hO2 : ((wr.alloc (.cells #[.int .i64 z] 3)).alloc (.cells #[] 3)).ownsRow wr.heap.size 3 1 (.slice (some ⟨wr.heap.size+1,0,none⟩) 0 0) 0 []:=by
     have h:=aP (fK (wr.alloc (.cells #[.int .i64 z] 3)) 3) (B':=wr.heap.size) (by simp)
     rwa [World.size_alloc] at h
    go_region_held3 (λV=>V.cell? ⟨ablk ao,aJ ao+k,none⟩=some (.int .i64 z)/\Ints V a1 g Gk/\Below wr.heap.size wr V)
     ((refine HS4.out _ ?_;first | exact (Below.refl _ _).drew | exact hb5 | exact Below.next hb5 hb6 | exact hb4 | exact Below.bQ hb4 _ | exact ((Below.refl _ _).alloc (Nat.le_refl _) _).drew | (go_split_ands;exact Below.bQ (by assumption) _)))
     (first
      | (obtain ⟨_,hI9,hB9⟩:=(by assumption : _/\Ints _ a1 g Gk/\Below wr.heap.size wr _);refine bg (by rfl) (.tmp 24) (.tmp 25) 22 3 (by rfl) (.int .i64 0) 8 Tryz.underlying22 aX (by rfl) wr.heap.size _ 0 0 [] (by rfl) (by first | exact hO | exact hO.alloc _ | exact hO2) a1 g c1 (Gk.map (Value.int .i64)) (by rfl) hpl1 (by simp [hGl]) (Ints.news hI9) (ints_oneCell _ _) (by omega) (by unfold maxLen;omega) (Below.size hB9) ?_;intro a4 c4 w4 hown4 hgr4 hap4;have hb4 : Below wr.heap.size wr w4:=Below.app (B:=wr.heap.size) (e:=3) (xs:=[]) hB9 (by first | exact hO | exact hO.alloc _ | exact hO2) hgr4 (Nat.le_refl _) (Below.size hB9);rw [Nat.zero_add] at hown4 ⊢;rw [List.nil_append] at hown4;(first | (have hc4:=bK (ad:=⟨wr.heap.size+1,0,none⟩) (v:=.int .i64 z) hgr4 (bs _ _ _ (by simp)) (.inr (by simp))) | (have hc4:=bK (ad:=⟨wr.heap.size,0,none⟩) (v:=.int .i64 z) hgr4 (aS (bs _ _ _ rfl) _) (.inr (by simp))) | skip))
      | (refine bg (by rfl) (.tmp 26) (.tmp 31) 22 3 (by rfl) (.int .i64 0) 8 Tryz.underlying22 aX (by rfl) wr.heap.size a4 g c4 (Gk.map (Value.int .i64)) (by rfl) (by first | exact hown4 | exact hown4.alloc _) _ 1 1 [.int .i64 z] (by rfl) (λ_=>rfl) rfl (by intro j hj;obtain rfl : j=0:=(by omega);first | exact bs _ _ _ rfl | exact hc4) (by intro y hy;simp at hy;subst hy;rfl) (by omega) (by unfold maxLen;omega) (by first | exact hb4.size | exact (Below.bQ hb4 _).size) ?_;intro a5 c5 w5 hown5 hgr5 hap5;have hb5 : Below wr.heap.size wr w5:=(by first | exact Below.app (Below.bQ hb4 _) (hown4.alloc _) hgr5 (Nat.le_refl _) (Below.bQ hb4 _).size | exact Below.app hb4 hown4 hgr5 (Nat.le_refl _) hb4.size)))
    all_goals (go_wp2_with fail;go_meet;exact ⟨a5,c5,rfl,hown5,hb5⟩)
   obtain ⟨a5,c5,rfl,hown5,hb5⟩:=hcut
   generalize wc=V at *
   obtain ⟨q0,q1,q2⟩:=HS2.out V hb5
   have HOf2:=Z5 (HOf.out V a5 c5 hb5 hown5)
   have H5:=Z5 (And.intro hown5 hb5)
   clear hown5 hb5 HOf
   go_wp2_with fail
   refine HOf2.out.mono ?_
   rintro e w6 ⟨rfl,hb6⟩
   clear q0 q1 q2 HOf2
   have hbw6:=Below.next Hbr.out (Below.next H5.out.2 hb6)
   by_cases hr : r=g+1
   ·have hrr : ((r : Int) == (g : Int)+1)=true:=by rw [hr];simp
    have HGn : Hid (G (k+1)=Gk ++ [z]):=Hg1.out hgm hr
    clear hr
    go_wp2_with fail
    go_roundw
    case rel=>exact ⟨k+1,g+1,a5,c5,by omega,by show _=_;rw [HGn.out,List.length_append,hGl];rfl,by go_num,rfl,by rw [HGn.out];exact aP (aW (by simpa using H5.out.1) hb6) (Hbr.out.size),hbw6⟩
    case measure=>simp [intOf] <;> omega
   ·have hrr : ((r : Int) == (g : Int)+1)=false:=by simp;omega
    have HGn : Hid (G (k+1)=Gk):=Hg2.out hr
    clear hr
    go_wp2_with fail
    go_roundw
    case rel=>exact ⟨k+1,g,a1,c1,by omega,by show _=_;rw [HGn.out];exact hGl,by go_num,rfl,by rw [HGn.out];exact aW Hown.out (Below.next H5.out.2 hb6),hbw6⟩
    case measure=>simp [intOf] <;> omega
  ·have HGe : Hid (G no=G k):=by
    show _=_
    by_cases hlt : k<no
    ·exact HG3.out k hk (by rw [Hgl.out];omega)
    ·obtain rfl : k=no:=by omega
     rfl
   have hgk : g<=1000:=by have h:=(Hgm.out k hk).2;rw [Hgl.out] at h;omega
   have hbwr:=Below.next HbW.out hbr
   have Hso:=Z5 (qd a1 g c1 (G k) wr (Ints.own hown).1 (by omega))
   have hsz:=hbwr.size
   have Hbr:=Z5 hbwr
   clear hown hbr hbwr
   by_cases hlt : k<no
   ·have hgm : ¬ g<most:=λh=>hcond ⟨hlt,h⟩
    clear hcond
    go_wp2_with fail
    refine Hso.out.mono ?_
    rintro e w7 ⟨a7,c7,rfl,hown7,hb7⟩
    have hF:=Below.next Hbr.out hb7
    have hown8:=aP hown7 hsz
    clear hown7
    have HF:=Z5 (And.intro hown8 hF)
    clear hown8 hF
    go_wp2_with fail
    go_ret
    rw [HGe.out,Hgl.out]
    exact ⟨a7,c7,rfl,HF.out.1,HF.out.2⟩
   ·obtain rfl : k=no:=by omega
    clear hcond
    go_wp2_with fail
    refine Hso.out.mono ?_
    rintro e w7 ⟨a7,c7,rfl,hown7,hb7⟩
    have hF:=Below.next Hbr.out hb7
    have hown8:=aP hown7 hsz
    clear hown7
    have HF:=Z5 (And.intro hown8 hF)
    clear hown8 hF
    go_wp2_with fail
    go_ret
    rw [Hgl.out]
    exact ⟨a7,c7,rfl,HF.out.1,HF.out.2⟩
theorem xi (P M : Int) (am : OA) (mn cm : Nat) (mod : Lz) (k : Nat) (a : OA) (c : Nat) (D : Ll) (w : World) (hmod : Ints w am mn mod) (hi : bZ w a k D) (hB : bA P M mod=true) (hR : bH (aa P M.toNat mod).El k D) (hk : k<=64)
  (hpv : (aA (aa P M.toNat mod).ops D k).2.length=k) :
  Calls Tryz.prog 112 #[.agg #[.int .i64 P,.int .i64 M,.slice am mn cm],.agg #[.int .i64 k,.slice a k c]] w λe w' =>
   ∃a1 c1,e = .returned (.tuple #[.agg #[.int .i64 k,.slice a1 k c1],.int .i64 0])/\bN w.heap.size w' a1 k (kS (aa P M.toNat mod).ops D k)/\Below w.heap.size w w':=by
 have HSq:=Z5 (λV (hV : Below w.heap.size w V)=>z7 P M am mn cm mod k a c D V (hmod.ah hV) (hi.ah hV) hB hR hk)
 have HT:=Z5 (λV (hV : Below w.heap.size w V)=>tG P M am mn cm mod k a c D V (hmod.ah hV) (hi.ah hV) hB hR hk)
 have HRk : Hid (∀V,Below w.heap.size w V->Calls Tryz.prog 176 #[.agg #[.int .i64 P,.int .i64 M,.slice am mn cm],.agg #[.int .i64 k,.slice a k c]] V λe w'=>e = .returned (.tuple #[.int .i64 k,.int .i64 0])/\Below V.heap.size V w'):=λV hV=>by
  have h:=zH P M am mn cm mod k a k c D V (hmod.ah hV) (hi.ah hV) hB hR (by omega) (by omega)
  rw [hpv] at h
  exact h
 obtain ⟨T,hTT⟩ : ∃T,kS (aa P M.toNat mod).ops D k=T:=⟨_,rfl⟩
 rw [hTT] at HT ⊢
 clear hmod hi hB hR hpv hTT
 go_enter Tryz.func112,Tryz.ntmps112
 go_wp2_with fail
 obtain ⟨W,hW⟩ : ∃W : World,W=((w.alloc (.cells #[.int .i64 P,.int .i64 M,.slice am mn cm] 24)).alloc (.cells #[.int .i64 k,.slice a k c] 82)).alloc (.cells #[.int .i64 0,.slice none 0 0] 82):=⟨_,rfl⟩
 rw [<- hW]
 have hbW : Below w.heap.size w W:=by rw [hW];exact kO _ _ _ _
 have x0 : aV W w.heap.size [.int .i64 P,.int .i64 M,.slice am mn cm]:=by rw [hW];exact ((aV.new _ _ _ rfl).alloc _).alloc _
 have x1 : aV W (w.heap.size+1) [.int .i64 k,.slice a k c]:=by rw [hW];exact (aV.new _ _ _ (by simp)).alloc _
 have x2 : aV W (w.heap.size+1+1) [.int .i64 0,.slice none 0 0]:=by rw [hW];exact aV.new _ _ _ (by simp)
 have HX:=Z5 (And.intro x0 (And.intro x1 x2))
 clear hW x0 x1 x2
 refine (HSq.out W hbW).mono ?_
 rintro e w1 ⟨rfl,hb1⟩
 have hbw1:=Below.next hbW hb1
 have r0:=HX.out.1.ah hb1
 have r1:=HX.out.2.1.ah hb1
 have f0:=r0.cell 0 rfl
 have f1:=r0.cell 1 rfl
 have f2:=r0.cell 2 rfl
 have m0:=r1.cell 0 rfl
 have m1:=r1.cell 1 rfl
 have Hc:=Z5 (HT.out w1 hbw1)
 clear r0 r1
 go_wp2_with fail
 refine Hc.out.mono ?_
 rintro e w2 ⟨a1,c1,a2,c2,rfl,hN,hb2⟩
 clear f0 f1 f2 m0 m1 Hc
 obtain ⟨w3,hw3⟩ : ∃V : World,V=(w2.alloc (.cells #[.int .i64 k,.slice a1 k c1] 82)).alloc (.cells #[.int .i64 k,.slice a2 k c2] 82):=⟨_,rfl⟩
 have hb3 : Below w2.heap.size w2 w3:=by rw [hw3];exact dH _ _ _
 have xt : aV w3 w2.heap.size [.int .i64 k,.slice a1 k c1]:=by rw [hw3];exact (aV.new _ _ _ rfl).alloc _
 have hb23:=Below.next hb2 hb3
 have hbw3:=Below.next hbw1 hb23
 have r0:=HX.out.1.ah (Below.next hb1 hb23)
 have r1:=HX.out.2.1.ah (Below.next hb1 hb23)
 have f0:=r0.cell 0 rfl
 have f1:=r0.cell 1 rfl
 have f2:=r0.cell 2 rfl
 have m0:=r1.cell 0 rfl
 have m1:=r1.cell 1 rfl
 have Hrk:=Z5 (HRk.out w3 hbw3)
 rw [hw3] at f0 f1 f2 m0 m1 Hrk
 have Hw3:=Z5 hw3
 have HN:=Z5 (hN.ah hb3)
 clear r0 r1 hw3 hN
 go_wp2_with fail
 refine Hrk.out.mono ?_
 rintro e w4 ⟨rfl,hb4⟩
 rw [<- Hw3.out] at hb4
 have hb24:=Below.next hb23 hb4
 have hbw4:=Below.next hbw1 hb24
 have r1:=HX.out.2.1.ah (Below.next hb1 hb24)
 have r2:=HX.out.2.2.ah (Below.next hb1 hb24)
 have rt:=xt.ah hb4
 have m0:=r1.cell 0 rfl
 have z0:=r2.cell 0 rfl
 have z1:=r2.cell 1 rfl
 have fz0:=r2.frozen 0
 have fz1:=r2.frozen 1
 have t0:=rt.cell 0 rfl
 have t1:=rt.cell 1 rfl
 have hsz : w.heap.size+1+1<w1.heap.size:=World.block_lt_of_cell? _ _ ((HX.out.2.2.ah hb1).cell 0 rfl)
 have hN4:=HN.out.ah hb4
 have HF:=Z5 (And.intro (((hN4.setCell (p:=⟨w.heap.size+1+1,0,none⟩) (by simp only [];omega) (.int .i64 k)).setCell (p:=⟨w.heap.size+1+1,1,none⟩) (by simp only [];omega) (.slice a1 k c1)).mono (show w.heap.size<=w1.heap.size by omega))
  ((hbw4.setCell (p:=⟨w.heap.size+1+1,0,none⟩) (by simp only [];omega) (.int .i64 k)).setCell (p:=⟨w.heap.size+1+1,1,none⟩) (by simp only [];omega) (.slice a1 k c1)))
 clear r1 r2 rt f0 f1 f2 m1 Hrk hN4
 go_wp2_with fail
 exact bodyPost_ret (v:=.tuple #[.agg #[.int .i64 k,.slice a1 k c1],.int .i64 0]) (by simp [results,Tryz.results112,go_sem,z0,z1]) rfl ⟨a1,c1,rfl,HF.out.1,HF.out.2⟩
end Go.Proofs.YtcfmiocdlcapoaaGreat
