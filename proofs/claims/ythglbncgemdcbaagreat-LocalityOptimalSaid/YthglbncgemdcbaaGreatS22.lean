import Derived.Test.YthglbncgemdcbaaGreatS16
namespace Go.Proofs.YthglbncgemdcbaaGreat
set_option linter.all false
set_option maxRecDepth 100000
set_option maxHeartbeats 4000000
open Go.RowKit Go.Proofs.Tryz
def tZ (P M : Int) (mod : Lz) (w : World) (e : Ending) (w' : World) : Prop :=
 ∃a1 c1,e = .returned (.agg #[.int .i64 P,.int .i64 M,.slice a1 mod.length c1])/\cR w.heap.size w' a1 mod.length mod/\SW w w'
theorem zN (P M : Int) (am : OA) (mn cm : Nat) (mod : Lz) (w : World) (hmod : Ints w am mn mod) (hmn : mn<=1000000) :
  Calls prog 125 #[.agg #[.int .i64 P,.int .i64 M,.slice am mn cm]] w (tZ P M mod w):=by
 obtain rfl : mod.length=mn:=hmod.len;go_enter func125,ntmps125;go_wp2_with fail;obtain ⟨W,hW⟩ : ∃W : World,W=(w.alloc (.cells #[.int .i64 P,.int .i64 M,.slice am mod.length cm] 24)).alloc (.cells #[.int .i64 0,.int .i64 0,.slice none 0 0] 24):=⟨_,rfl⟩
 rw [<- hW];have hbW : SW w W:=by rw [hW];exact bN _ _ _
 have hsW : W.heap.size=w.heap.size+2:=by rw [hW];simp
 have x0 : aN W w.heap.size [.int .i64 P,.int .i64 M,.slice am mod.length cm]:=by rw [hW];exact (R9 _ _ _ rfl).alloc _
 have y0 : aN W (w.heap.size+1) [.int .i64 0,.int .i64 0,.slice none 0 0]:=by rw [hW];exact R9 _ _ _ (by simp)
 have hmodW:=hmod.ah hbW;have hS : ∀V,SW W V->V.cell? ⟨w.heap.size,0,none⟩=some (.int .i64 P)/\V.cell? ⟨w.heap.size,1,none⟩=some (.int .i64 M)/\V.cell? ⟨w.heap.size,2,none⟩=some (.slice am mod.length cm)/\Ints V am mod.length mod /\
   aN V (w.heap.size+1) [.int .i64 0,.int .i64 0,.slice none 0 0]/\SW W V:=λV hV=>by have x1:=x0.ah hV;exact ⟨x1.cell 0 rfl,x1.cell 1 rfl,x1.cell 2 rfl,hmodW.ah hV,y0.ah hV,hV⟩
 have HS:=Z5 hS;have HbW:=Z5 hbW;have HsW:=Z5 hsW;clear hW x0 y0 hS;have HP : Hid (∀(w4 : World) (a4 : OA) (c4 : Nat),cR W.heap.size w4 a4 mod.length mod->SW W w4 ->
   tZ P M mod w (.returned (.agg #[.int .i64 P,.int .i64 M,.slice a4 mod.length c4])) (((w4.setCell ⟨w.heap.size+1,0,none⟩ (.int .i64 P)).setCell ⟨w.heap.size+1,1,none⟩ (.int .i64 M)).setCell ⟨w.heap.size+1,2,none⟩ (.slice a4 mod.length c4))):=λw4 a4 c4 h1 h2=>by
  have hb:=RZ hbW h2;have hs:=HsW.out;refine ⟨a4,c4,rfl,?_,?_⟩
  ·exact (((h1.setCell (p:=⟨w.heap.size+1,0,none⟩) (by simp;omega) _).setCell (p:=⟨w.heap.size+1,1,none⟩) (by simp;omega) _).setCell (p:=⟨w.heap.size+1,2,none⟩) (by simp;omega) _).mono (by omega)
  ·exact ((hb.setCell (p:=⟨w.heap.size+1,0,none⟩) (by simp) _).setCell (p:=⟨w.heap.size+1,1,none⟩) (by simp) _).setCell (p:=⟨w.heap.size+1,2,none⟩) (by simp) _
 have hplm:=hmod.pl;have hbA : SW W (W.alloc (.cells #[] 3)).drew:=(an W _).drew;have HbA:=Z5 hbA;obtain ⟨c0,c1,c2,_⟩:=HS.out W (Nc _ _);obtain ⟨d0,d1,d2,_⟩:=HS.out _ (an W (.cells #[] 3));clear hbA hsW hbW hmod;go_region_law (
  (refine dE (by rfl) (.tmp 7) (.tmp 9) 22 3 (by rfl) (.int .i64 0) 8 underlying22 aU (by rfl) W.heap.size _ 0 0 [] (by rfl) (show (W.alloc (.cells #[] 3)).drew.ownsRow W.heap.size 3 1 (.slice (some ⟨W.heap.size,0,none⟩) 0 0) 0 [] from fA W 3) am mod.length cm (mod.map (Value.int .i64)) (by rfl) hplm (by simp) (Si (hmodW.ah HbA.out)) (ints_oneCell _ _) (by omega) (by unfold maxLen;omega) (by simp) ?_;intro a3 c3 w3 hown3 hgr3 hap3;obtain ⟨_,_,_,_,zz,hb3⟩:=HS.out w3 (Sa (B:=W.heap.size) HbA.out (show (W.alloc (.cells #[] 3)).drew.ownsRow W.heap.size 3 1 (.slice (some ⟨W.heap.size,0,none⟩) 0 0) 0 [] from fA W 3) hgr3 (Na _) (by simp));have z0:=zz.cell 0 rfl;have z1:=zz.cell 1 rfl;have z2:=zz.cell 2 rfl;have f0:=zz.frozen 0;have f1:=zz.frozen 1;have f2:=zz.frozen 2))
 all_goals (
  have hN3 : cR W.heap.size w3 a3 mod.length mod:=SP (by simpa using hown3)
  have HP4:=Z5 (HP.out w3 a3 c3 hN3 hb3)
  clear hN3 hb3 hown3 hgr3 hap3 HP HS
  go_wp2_with fail
  exact bodyPost_ret (v:=.agg #[.int .i64 P,.int .i64 M,.slice a3 mod.length c3]) (by simp [results,results125,go_sem,z0,z1,z2]) rfl HP4.out)
def pW (P M : Int) (mod : Lz) (m : Nat) (L : ZZ) (w : World) (e : Ending) (w' : World) : Prop :=
 ∃a1 c1 a2 c2,e = .returned (.agg #[.int .i64 P,.int .i64 M,.slice a1 mod.length c1,.int .i64 m,.slice a2 (dc (af P M.toNat mod) L m).length c2])/\cR w.heap.size w' a1 mod.length mod /\
  dq w.heap.size w' a2 (dc (af P M.toNat mod) L m).length (dc (af P M.toNat mod) L m)/\SW w w'
theorem pj (P M : Int) (am : OA) (mn cm : Nat) (mod : Lz) (m : Nat) (a : OA) (n c : Nat) (L : ZZ) (w : World) (hmod : Ints w am mn mod) (hi : br w a n L)
  (hB : bA P M mod=true) (hR : bp (af P M.toNat mod).El m L) (hm : m<=1000000) (hn : n<=1000000) (hmn : mn<=1000000) :
  Calls prog 72 #[.agg #[.int .i64 P,.int .i64 M,.slice am mn cm],.slice a n c,.int .i64 m] w (pW P M mod m L w):=by
 have hcan:=Fj hB hR;have hinv:=iQ (P:=P) (M:=M) (mod:=mod) (by rw [bP];exact hB);obtain ⟨k,rfl,hel,_,hF,hA,_⟩:=dB hB;obtain ⟨k',e2,hrf,hmods⟩:=dm (by rw [bP];exact hB);obtain rfl : k=k':=by omega
 rw [Nb] at hcan hR hinv;rw [<- hel] at hR;have HC : Hid (∀V,SW w V->Calls prog 124 #[.agg #[.int .i64 P,.int .i64 k,.slice am mn cm],.slice a n c,.int .i64 m] V λe w' =>
   ∃a2 c2 v2,e = .returned (.tuple #[.slice a2 (dc (af P k mod) L m).length c2,v2])/\dq V.heap.size w' a2 (dc (af P k mod) L m).length (dc (af P k mod) L m)/\SW V w'):=λV hV=>by refine (n7 P k am mn cm mod a n c m L V ⟨hrf,hmods V am mn (hmod.ah hV)⟩ (hi.ah hV) hR hm hn hinv).mono ?_;rintro e w' ⟨a4,c4,ap,cp,rfl,hM4,_,hb4⟩;have hk:=hM4.jt.len;rw [hcan] at hM4 hk;rw [<- hk] at hM4;exact ⟨a4,c4,_,by rw [hk],hM4,hb4⟩
 have HFd : Hid (∀V,SW w V->Calls prog 125 #[.agg #[.int .i64 P,.int .i64 k,.slice am mn cm]] V (tZ P k mod V)):=λV hV=>zN P k am mn cm mod V (hmod.ah hV) hmn;unfold pW;rw [Nb];obtain ⟨D,hD⟩ : ∃D,dc (af P k mod) L m=D:=⟨_,rfl⟩
 rw [hD] at HC ⊢;clear hcan hinv hel hF hA hrf hmods e2 hR hB hD;obtain ⟨q,hq⟩ : ∃q,D.length=q:=⟨_,rfl⟩
 rw [hq] at HC ⊢;clear hq;go_enter func72,ntmps72;go_wp2_with fail;obtain ⟨W,hW⟩ : ∃W : World,W=(w.alloc (.cells #[.int .i64 P,.int .i64 k,.slice am mn cm] 24)).alloc (.cells #[.int .i64 0,.int .i64 0,.slice none 0 0,.int .i64 0,.slice none 0 0] 27):=⟨_,rfl⟩
 rw [<- hW];have hbW : SW w W:=by rw [hW];exact bN _ _ _
 have hsW : W.heap.size=w.heap.size+2:=by rw [hW];simp
 have x0 : aN W w.heap.size [.int .i64 P,.int .i64 k,.slice am mn cm]:=by rw [hW];exact (R9 _ _ _ rfl).alloc _
 have z0 : aN W (w.heap.size+1) [.int .i64 0,.int .i64 0,.slice none 0 0,.int .i64 0,.slice none 0 0]:=by rw [hW];exact R9 _ _ _ (by simp)
 have hS : ∀V,SW W V->V.cell? ⟨w.heap.size,0,none⟩=some (.int .i64 P)/\V.cell? ⟨w.heap.size,1,none⟩=some (.int .i64 k)/\V.cell? ⟨w.heap.size,2,none⟩=some (.slice am mn cm) /\
   aN V (w.heap.size+1) [.int .i64 0,.int .i64 0,.slice none 0 0,.int .i64 0,.slice none 0 0]:=λV hV=>by have x1:=x0.ah hV;exact ⟨x1.cell 0 rfl,x1.cell 1 rfl,x1.cell 2 rfl,z0.ah hV⟩
 have HS:=Z5 hS;have HbW:=Z5 hbW;have HsW:=Z5 hsW;clear hW x0 z0 hS;obtain ⟨c0,c1,c2,_⟩:=HS.out W (Nc _ _);go_wp2_with fail;refine (HC.out W hbW).mono ?_;rintro e w1 ⟨a2,c2',v2,rfl,hM1,hb1⟩;clear c0 c1 c2;obtain ⟨c0,c1,c2,_⟩:=HS.out w1 hb1;have HF2:=Z5 (HFd.out w1 (RZ hbW hb1));clear HC HFd hbW hsW;go_wp2_with fail;refine HF2.out.mono ?_;rintro e w2 ⟨a3,c3,rfl,hN3,hb2⟩;obtain ⟨_,_,_,zz6⟩:=HS.out w2 (RZ hb1 hb2);have z0:=zz6.cell 0 rfl;have z1:=zz6.cell 1 rfl;have z2:=zz6.cell 2 rfl;have z3:=zz6.cell 3 rfl;have z4:=zz6.cell 4 rfl;have f0:=zz6.frozen 0;have f1:=zz6.frozen 1;have f2:=zz6.frozen 2;have f3:=zz6.frozen 3;have f4:=zz6.frozen 4;have hs:=HsW.out;have hs2:=hb1.size;have hM2:=hM1.ah hb2;have hbF:=RZ HbW.out (RZ hb1 hb2);have hFin : ∃a1 c1 a2' c2'', (Ending.returned (.agg #[.int .i64 P, .int .i64 k, .slice a3 mod.length c3, .int .i64 m, .slice a2 q c2'])) = .returned (.agg #[.int .i64 P, .int .i64 k, .slice a1 mod.length c1, .int .i64 m, .slice a2' q c2'']) /\
   cR w.heap.size (((((w2.setCell ⟨w.heap.size+1,0,none⟩ (.int .i64 P)).setCell ⟨w.heap.size+1,1,none⟩ (.int .i64 k)).setCell ⟨w.heap.size+1,2,none⟩ (.slice a3 mod.length c3)).setCell ⟨w.heap.size+1,3,none⟩ (.int .i64 m)).setCell ⟨w.heap.size+1,4,none⟩ (.slice a2 q c2')) a1 mod.length mod /\
   dq w.heap.size (((((w2.setCell ⟨w.heap.size+1,0,none⟩ (.int .i64 P)).setCell ⟨w.heap.size+1,1,none⟩ (.int .i64 k)).setCell ⟨w.heap.size+1,2,none⟩ (.slice a3 mod.length c3)).setCell ⟨w.heap.size+1,3,none⟩ (.int .i64 m)).setCell ⟨w.heap.size+1,4,none⟩ (.slice a2 q c2')) a2' q D /\
   SW w (((((w2.setCell ⟨w.heap.size+1,0,none⟩ (.int .i64 P)).setCell ⟨w.heap.size+1,1,none⟩ (.int .i64 k)).setCell ⟨w.heap.size+1,2,none⟩ (.slice a3 mod.length c3)).setCell ⟨w.heap.size+1,3,none⟩ (.int .i64 m)).setCell ⟨w.heap.size+1,4,none⟩ (.slice a2 q c2')):=by
  refine ⟨a3,c3,a2,c2',rfl,?_,?_,(((((hbF.setCell (p:=⟨w.heap.size+1,0,none⟩) (by simp) _).setCell (p:=⟨w.heap.size+1,1,none⟩) (by simp) _).setCell (p:=⟨w.heap.size+1,2,none⟩) (by simp) _).setCell (p:=⟨w.heap.size+1,3,none⟩) (by simp) _).setCell (p:=⟨w.heap.size+1,4,none⟩) (by simp) _)⟩
  ·exact (((((hN3.setCell (p:=⟨w.heap.size+1,0,none⟩) (by simp;omega) _).setCell (p:=⟨w.heap.size+1,1,none⟩) (by simp;omega) _).setCell (p:=⟨w.heap.size+1,2,none⟩) (by simp;omega) _).setCell (p:=⟨w.heap.size+1,3,none⟩) (by simp;omega) _).setCell (p:=⟨w.heap.size+1,4,none⟩) (by simp;omega) _).mono (by omega)
  ·exact (((((hM2.setCell (p:=⟨w.heap.size+1,0,none⟩) (by simp;omega) _).setCell (p:=⟨w.heap.size+1,1,none⟩) (by simp;omega) _).setCell (p:=⟨w.heap.size+1,2,none⟩) (by simp;omega) _).setCell (p:=⟨w.heap.size+1,3,none⟩) (by simp;omega) _).setCell (p:=⟨w.heap.size+1,4,none⟩) (by simp;omega) _).mono (by omega)
 have HFin:=Z5 hFin;clear hFin hM1 hM2 hN3 zz6 HS HF2;go_wp2_with fail;exact bodyPost_ret (v:=.agg #[.int .i64 P,.int .i64 k,.slice a3 mod.length c3,.int .i64 m,.slice a2 q c2']) (by simp [results,results72,go_sem,z0,z1,z2,z3,z4]) rfl HFin.out
end Go.Proofs.YthglbncgemdcbaaGreat
