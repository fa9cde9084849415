import Derived.Test.YthglbncgemdcbaaGreatS27
import Derived.Test.YthglbncgemdcbaaGreatS28
import Derived.Test.YthglbncgemdcbaaGreatS29
namespace Go.Proofs.YthglbncgemdcbaaGreat
set_option linter.all false
set_option maxRecDepth 100000
set_option maxHeartbeats 8000000
open Go.RowKit Go.Proofs.Tryz
theorem rz {P M : Int} {mod : Lz} {m : Nat} {L : ZZ} (hE : aF P M mod m L=0) (i : Nat) :
  eJ P M mod m [bs m (i : Int)]=0/\aF P M mod m (dc (af P M.toNat mod) [bs m (i : Int)] m)=0 /\
  bZ (af P M.toNat mod).ops m (L ++ dc (af P M.toNat mod) [bs m (i : Int)] m)=bZ (af P M.toNat mod).ops m (L ++ [bs m (i : Int)]) /\
  aF P M mod m (bZ (af P M.toNat mod).ops m (L ++ [bs m (i : Int)]))=0:=by
 obtain ⟨N',e,hm1,hm64,F,hR⟩:=aM hE;obtain rfl : m=N':=by omega
 have hU : bp (af P M.toNat mod).El m [bs m (i : Int)]:=λr hr=>by rw [List.mem_singleton.1 hr];exact fN F m i
 have hB:=(aG hE).1;have hl:=lX hE;exact ⟨kA hB (by omega) (by simp) hU,yR hB hU hm1 hm64 (by simp),Lb F hR hU,yR hB (ql hR hU) hm1 hm64 (by simp;omega)⟩
theorem vK (P M : Int) (am : OA) (mn cm : Nat) (mod : Lz) (m : Nat) (a : OA) (n c : Nat) (L : ZZ) (i : Nat) (w : World) (hmod : Ints w am mn mod) (hi : br w a n L) (hE : aF P M mod m L=0) (him : i<m) :
  Calls prog 74 #[.agg #[.int .i64 P,.int .i64 M,.slice am mn cm,.int .i64 m,.slice a n c],.int .i64 i] w λe w' =>
   ∃a1 c1 a2 c2,e = .returned (.tuple #[.agg #[.int .i64 P,.int .i64 M,.slice a1 mod.length c1,.int .i64 m,.slice a2 (bW P M mod m L i).length c2],.int .i64 0])/\Ints w' a1 mod.length mod/\br w' a2 (bW P M mod m L i).length (bW P M mod m L i)/\SW w w':=by
 obtain ⟨f1,f2,f3,f4⟩:=rz hE i;have hm64:=(aG hE).2.2.1;have hm1:=(aG hE).2.1;have hmn : mn<=8:=by have:=ke (aG hE).1;rw [<- hmod.len];exact this
 have hml : mod.length<=8:=ke (aG hE).1;have HNew : Hid (∀V a1 c1,SW w V->br V a1 1 [bs m (i : Int)]->Calls prog 68 #[.agg #[.int .i64 P,.int .i64 M,.slice am mn cm],.agg #[.int .i64 m,.slice a1 1 c1]] V λe w'=>∃a1 c1 a2 c2,e = .returned (.tuple #[.agg #[.int .i64 P,.int .i64 M,.slice a1 mod.length c1,.int .i64 m,.slice a2 (dc (af P M.toNat mod) [bs m (i : Int)] m).length c2],.int .i64 0]) /\
   Ints w' a1 mod.length mod/\br w' a2 (dc (af P M.toNat mod) [bs m (i : Int)] m).length (dc (af P M.toNat mod) [bs m (i : Int)] m)/\SW V w'):=λV a1 c1 hV h1=>by refine (uC P M am mn cm mod m a1 1 c1 _ V (hmod.ah hV) h1 f1 (by omega) (by omega) (by omega)).mono ?_;rintro e w' ⟨a2,c2,a3,c3,rfl,h2,h3,h4⟩;exact ⟨a2,c2,a3,c3,rfl,h2.ints,h3.jt,h4⟩
 have HSum : Hid (∀V a2 c2 a3 c3,SW w V->Ints V a2 mod.length mod->br V a3 (dc (af P M.toNat mod) [bs m (i : Int)] m).length (dc (af P M.toNat mod) [bs m (i : Int)] m) ->
   Calls prog 126 #[.agg #[.int .i64 P,.int .i64 M,.slice am mn cm,.int .i64 m,.slice a n c],.agg #[.int .i64 P,.int .i64 M,.slice a2 mod.length c2,.int .i64 m,.slice a3 (dc (af P M.toNat mod) [bs m (i : Int)] m).length c3]] V λe w' =>
   ∃a1 c1 a2 c2,e = .returned (.tuple #[.agg #[.int .i64 P,.int .i64 M,.slice a1 mod.length c1,.int .i64 m,.slice a2 (bZ (af P M.toNat mod).ops m (L ++ [bs m (i : Int)])).length c2],.int .i64 0]) /\
   Ints w' a1 mod.length mod/\br w' a2 (bZ (af P M.toNat mod).ops m (L ++ [bs m (i : Int)])).length (bZ (af P M.toNat mod).ops m (L ++ [bs m (i : Int)]))/\SW V w'):=λV a2 c2 a3 c3 hV h1 h2=>by have h:=CY P M am mn cm mod m a n c L a2 mod.length c2 a3 _ c3 _ V (hmod.ah hV) (hi.ah hV) h1 h2 hE f2 (by omega);rw [f3] at h;refine h.mono ?_;rintro e w' ⟨a4,c4,a5,c5,rfl,h2,h3,h4⟩;exact ⟨a4,c4,a5,c5,rfl,h2.ints,h3.jt,h4⟩
 have HDu : Hid (∀V a2 c2 a3 c3,Ints V a2 mod.length mod->br V a3 (bZ (af P M.toNat mod).ops m (L ++ [bs m (i : Int)])).length (bZ (af P M.toNat mod).ops m (L ++ [bs m (i : Int)])) ->
   Calls prog 80 #[.agg #[.int .i64 P,.int .i64 M,.slice a2 mod.length c2,.int .i64 m,.slice a3 (bZ (af P M.toNat mod).ops m (L ++ [bs m (i : Int)])).length c3]] V λe w' =>
   ∃a1 c1 a2 c2,e = .returned (.tuple #[.agg #[.int .i64 P,.int .i64 M,.slice a1 mod.length c1,.int .i64 m,.slice a2 (bW P M mod m L i).length c2],.int .i64 0]) /\
   cR V.heap.size w' a1 mod.length mod/\dq V.heap.size w' a2 (bW P M mod m L i).length (bW P M mod m L i)/\SW V w'):=λV a2 c2 a3 c3 h1 h2 =>
  vC P M a2 mod.length c2 mod m a3 _ c3 _ V h1 h2 f4 (by omega)
 have hux : (List.replicate m (0 : Int)).set i 1=bs m i:=by rw [bs,Nb]
 have Hux:=Z5 hux;obtain ⟨u,hu⟩ : ∃u,bs m (i : Int)=u:=⟨_,rfl⟩
 have Hul : Hid (u.length=m):=by show _=_;rw [<- hu,<- hux];simp
 rw [hu] at HNew Hux;clear f1 f2 f3 f4 hmod hi hE hux;rw [hu] at HSum HDu;generalize dc (af P M.toNat mod) [u] m=U1 at *;generalize bZ (af P M.toNat mod).ops m (L ++ [u])=U2 at *;generalize bW P M mod m L i=U3 at *;obtain ⟨nm,hnm⟩ : ∃nm,mod.length=nm:=⟨_,rfl⟩
 obtain ⟨q1,hq1⟩ : ∃q,U1.length=q:=⟨_,rfl⟩
 obtain ⟨q2,hq2⟩ : ∃q,U2.length=q:=⟨_,rfl⟩
 obtain ⟨q3,hq3⟩ : ∃q,U3.length=q:=⟨_,rfl⟩
 rw [hnm,hq1] at HNew HSum;rw [hq2] at HSum;rw [hnm,hq2,hq3] at HDu;rw [hnm,hq3];clear hu hnm hq1 hq2 hq3 hml;go_enter func74,ntmps74;go_upto_region 1 with fail;obtain ⟨W,hW⟩ : ∃W : World,W=(w.alloc (.cells #[.int .i64 P,.int .i64 M,.slice am mn cm,.int .i64 m,.slice a n c] 27)).alloc (.cells #[.int .i64 0,.int .i64 0,.slice none 0 0,.int .i64 0,.slice none 0 0] 27):=⟨_,rfl⟩
 rw [<- hW];have hbW : SW w W:=by rw [hW];exact bN _ _ _
 have hsW : W.heap.size=w.heap.size+2:=by rw [hW];simp
 have x0 : aN W w.heap.size [.int .i64 P,.int .i64 M,.slice am mn cm,.int .i64 m,.slice a n c]:=by rw [hW];exact (R9 _ _ _ rfl).alloc _
 have z0 : aN W (w.heap.size+1) [.int .i64 0,.int .i64 0,.slice none 0 0,.int .i64 0,.slice none 0 0]:=by rw [hW];exact R9 _ _ _ (by simp)
 clear hW;have HX : Hid (∀V,SW W V->V.cell? ⟨w.heap.size,0,none⟩=some (.int .i64 P)/\V.cell? ⟨w.heap.size,1,none⟩=some (.int .i64 M)/\V.cell? ⟨w.heap.size,2,none⟩=some (.slice am mn cm)/\V.cell? ⟨w.heap.size,3,none⟩=some (.int .i64 m)/\V.cell? ⟨w.heap.size,4,none⟩=some (.slice a n c)):=λV hV=>by have x1:=x0.ah hV;exact ⟨x1.cell 0 rfl,x1.cell 1 rfl,x1.cell 2 rfl,x1.cell 3 rfl,x1.cell 4 rfl⟩
 have HZ:=Z5 z0;have HbW:=Z5 hbW;have HsW:=Z5 hsW;clear x0 z0 hbW hsW;obtain ⟨c0,c1,c2,c3,c4⟩:=HX.out W (Nc _ _);have hm64' : m<=64:=by omega
 go_upto_region 2 with (at_make;refine bS rfl _ _ 22 3 rfl (.int .i64 0) 8 underlying22 aU rfl m rfl rfl (by omega) (by unfold maxLen;omega) ?_;intro a5 w5 hown hbel hge hlt5)
 clear c0 c1 c2 c3 c4;rw [<- OF] at hown;obtain ⟨hints,hmine⟩:=R6 hown;have hpl5:=hints.pl;have cz:=hints.cell i him;have fz:=(hmine (by omega)).2 i him;have hB:=(hmine (by omega)).1;have him1 : (i : Int)<m:=by omega
 have hset:=bK hown i him (.int .i64 1);rw [<- NF,Hux.out] at hset;have hb5 : SW W (w5.setCell ⟨ablk a5,aK a5+i,none⟩ (.int .i64 1)):=hbel.setCell hB _;have HI5:=Z5 (R6 hset).1;clear hown hints hmine hset hge hlt5;go_upto_region 3 with fail;obtain ⟨X,hX⟩ : ∃X,w5.setCell ⟨ablk a5,aK a5+i,none⟩ (.int .i64 1)=X:=⟨_,rfl⟩
 rw [hX] at hb5 HI5 ⊢;clear cz fz hB hX hbel;obtain ⟨c0,c1,c2,c3,c4⟩:=HX.out X hb5;obtain ⟨Y,hY⟩ : ∃Y : World,Y=X.alloc (.cells #[.slice a5 m m] 22):=⟨_,rfl⟩
 have hbY : SW X Y:=by rw [hY];exact an _ _
 have hM1 : br Y (some ⟨X.heap.size,0,none⟩) 1 [u]:=by
  refine ⟨rfl,λ_=>rfl,by unfold maxLen;omega,λk hk=>?_⟩;obtain rfl : k=0:=by omega
  refine ⟨a5,m,m,?_,HI5.out.ah hbY⟩;rw [hY];exact aI _ _ _ rfl 0
 have hF5:=RZ HbW.out (RZ hb5 hbY);have HC:=Z5 (HNew.out Y (some ⟨X.heap.size,0,none⟩) 1 hF5 hM1);have HY:=Z5 (Np hY hbY);clear hY hbY hM1;go_wp2_with fail;rw [<- HY.out.1];refine HC.out.mono ?_;rintro e w6 ⟨a6,c6,a7,c7,rfl,hI6,hM6,hb6⟩;have hb16:=RZ (RZ hb5 HY.out.2) hb6;have hn6:=an w6 (.cells #[.int .i64 P,.int .i64 M,.slice a6 nm c6,.int .i64 m,.slice a7 q1 c7] 27);have HB6 : Hid (∀V,Below (w6.alloc (.cells #[.int .i64 P,.int .i64 M,.slice a6 nm c6,.int .i64 m,.slice a7 q1 c7] 27)).heap.size (w6.alloc (.cells #[.int .i64 P,.int .i64 M,.slice a6 nm c6,.int .i64 m,.slice a7 q1 c7] 27)) V->V.cell? ⟨w6.heap.size,0,none⟩=some (.int .i64 P)/\V.cell? ⟨w6.heap.size,1,none⟩=some (.int .i64 M)/\V.cell? ⟨w6.heap.size,2,none⟩=some (.slice a6 nm c6)/\V.cell? ⟨w6.heap.size,3,none⟩=some (.int .i64 m)/\V.cell? ⟨w6.heap.size,4,none⟩=some (.slice a7 q1 c7)):=λV hV=>by have y:=(R9 w6 [.int .i64 P,.int .i64 M,.slice a6 nm c6,.int .i64 m,.slice a7 q1 c7] 27 rfl).ah hV;exact ⟨y.cell 0 rfl,y.cell 1 rfl,y.cell 2 rfl,y.cell 3 rfl,y.cell 4 rfl⟩
 have hF6:=RZ HbW.out (RZ hb16 hn6);have HC2:=Z5 (HSum.out _ a6 c6 a7 c7 hF6 (hI6.ah hn6) (hM6.ah hn6));clear c0 c1 c2 c3 c4 HC hI6 hM6;go_upto_region 6 with fail;obtain ⟨V6,hV6⟩ : ∃V6,w6.alloc (.cells #[.int .i64 P,.int .i64 M,.slice a6 nm c6,.int .i64 m,.slice a7 q1 c7] 27)=V6:=⟨_,rfl⟩
 rw [hV6] at HB6 HC2 hn6 hF6 ⊢;have hb17:=RZ hb16 hn6;obtain ⟨c0,c1,c2,c3,c4⟩:=HX.out V6 hb17;obtain ⟨d0,d1,d2,d3,d4⟩:=HB6.out V6 (Nc _ _);clear hV6;go_wp2_with fail;refine HC2.out.mono ?_;rintro e w8 ⟨a8,c8,a9,c9,rfl,hI8,hM8,hb8⟩;have hn8:=an w8 (.cells #[.int .i64 P,.int .i64 M,.slice a8 nm c8,.int .i64 m,.slice a9 q2 c9] 27);have HC3:=Z5 (HDu.out _ a8 c8 a9 c9 (hI8.ah hn8) (hM8.ah hn8));have y8 : aN (w8.alloc (.cells #[.int .i64 P,.int .i64 M,.slice a8 nm c8,.int .i64 m,.slice a9 q2 c9] 27)) w8.heap.size [.int .i64 P,.int .i64 M,.slice a8 nm c8,.int .i64 m,.slice a9 q2 c9]:=R9 _ _ _ rfl;clear c0 c1 c2 c3 c4 d0 d1 d2 d3 d4 HC2 hI8 hM8;go_upto_region 9 with fail;obtain ⟨V8,hV8⟩ : ∃V8,w8.alloc (.cells #[.int .i64 P,.int .i64 M,.slice a8 nm c8,.int .i64 m,.slice a9 q2 c9] 27)=V8:=⟨_,rfl⟩
 rw [hV8] at HC3 hn8 y8 ⊢;have hb18:=RZ hb17 (RZ hb8 hn8);have d0:=y8.cell 0 rfl;have d1:=y8.cell 1 rfl;have d2:=y8.cell 2 rfl;have d3:=y8.cell 3 rfl;have d4:=y8.cell 4 rfl;clear hV8 y8;go_wp2_with fail;refine HC3.out.mono ?_;rintro e w9 ⟨aa,ca,ab,cb,rfl,hI9,hM9,hb9⟩;have zz:=HZ.out.ah (RZ hb18 hb9);have z0:=zz.cell 0 rfl;have z1:=zz.cell 1 rfl;have z2:=zz.cell 2 rfl;have z3:=zz.cell 3 rfl;have z4:=zz.cell 4 rfl;have f0:=zz.frozen 0;have f1:=zz.frozen 1;have f2:=zz.frozen 2;have f3:=zz.frozen 3;have f4:=zz.frozen 4;have hs:=HsW.out;have hs1:=hb18.size;have hbF:=RZ HbW.out (RZ hb18 hb9);have HFin:=Z5 (Np (((((hI9.setCell (p:=⟨w.heap.size+1,0,none⟩) (by simp;omega) (.int .i64 P)).setCell (p:=⟨w.heap.size+1,1,none⟩) (by simp;omega) (.int .i64 M)).setCell (p:=⟨w.heap.size+1,2,none⟩) (by simp;omega) (.slice aa nm ca)).setCell (p:=⟨w.heap.size+1,3,none⟩) (by simp;omega) (.int .i64 m)).setCell (p:=⟨w.heap.size+1,4,none⟩) (by simp;omega) (.slice ab q3 cb)).ints
  (Np (((((hM9.setCell (p:=⟨w.heap.size+1,0,none⟩) (by simp;omega) (.int .i64 P)).setCell (p:=⟨w.heap.size+1,1,none⟩) (by simp;omega) (.int .i64 M)).setCell (p:=⟨w.heap.size+1,2,none⟩) (by simp;omega) (.slice aa nm ca)).setCell (p:=⟨w.heap.size+1,3,none⟩) (by simp;omega) (.int .i64 m)).setCell (p:=⟨w.heap.size+1,4,none⟩) (by simp;omega) (.slice ab q3 cb)).jt
   (((((hbF.setCell (p:=⟨w.heap.size+1,0,none⟩) (by simp) (.int .i64 P)).setCell (p:=⟨w.heap.size+1,1,none⟩) (by simp) (.int .i64 M)).setCell (p:=⟨w.heap.size+1,2,none⟩) (by simp) (.slice aa nm ca)).setCell (p:=⟨w.heap.size+1,3,none⟩) (by simp) (.int .i64 m)).setCell (p:=⟨w.heap.size+1,4,none⟩) (by simp) (.slice ab q3 cb))))
 clear d0 d1 d2 d3 d4 zz hI9 hM9;go_wp2_with fail;exact bodyPost_ret (v:=.tuple #[.agg #[.int .i64 P,.int .i64 M,.slice aa nm ca,.int .i64 m,.slice ab q3 cb],.int .i64 0]) (by simp [results,results74,go_sem,z0,z1,z2,z3,z4]) rfl ⟨aa,ca,ab,cb,rfl,HFin.out.1,HFin.out.2.1,HFin.out.2.2⟩
def tf (P M : Int) (mod : Lz) (m : Nat) (L : ZZ) (k : Nat) : Int × ZZ:=jV P M mod m (bW P M mod m L k) (ai (cF P M mod m L) k) ((fB (ai (cF P M mod m L) k) : Int) - 1)
def lcTo (P M : Int) (mod : Lz) (m : Nat) (L : ZZ) : Nat->Int
 | 0=>0
 | k+1=>if lcTo P M mod m L k=0 then (tf P M mod m L k).1 else lcTo P M mod m L k
theorem qo {P M : Int} {mod : Lz} {m : Nat} {L : ZZ} {k : Nat} {e : Int} (h : lcTo P M mod m L k=e) (he : e ≠ 0) : ∀d,lcTo P M mod m L (k+d)=e
 | 0=>h
 | d+1=>by have ih:=qo h he d;show (if lcTo P M mod m L (k+d)=0 then _ else lcTo P M mod m L (k+d))=e;rw [ih,Nf he]
def mU (P M : Int) (mod : Lz) (N : Int) (L : ZZ) : Int:=if eE P M mod N L=0 then lcTo P M mod N.toNat L N.toNat else eE P M mod N L
def jT (P M : Int) (mod : Lz) (m : Nat) (L : ZZ) (k : Nat) : List ZZ:=(List.range k).map λ(r : Nat)=>if (tf P M mod m L r).1=0 then (tf P M mod m L r).2 else []
def nU (P M : Int) (mod : Lz) (N : Int) (L : ZZ) (w : World) (e : Ending) (w' : World) : Prop :=
 SW w w'/\((mU P M mod N L ≠ 0/\e = .returned (.tuple #[.agg #[.slice none 0 0,.slice none 0 0],.int .i64 (mU P M mod N L)])) \/
  (mU P M mod N L=0/\∃as' cs at' ct,e = .returned (.tuple #[.agg #[.slice as' N.toNat cs,.slice at' N.toNat ct],.int .i64 0])/\br w' as' N.toNat (cF P M mod N.toNat L)/\gJ w' at' N.toNat (jT P M mod N.toNat L N.toNat)))
theorem mP {P M : Int} {mod : Lz} {N : Int} {L : ZZ} (h : eE P M mod N L=0) : aF P M mod N L=0/\wZ P M mod N.toNat L=0/\¬ [] ∈ cF P M mod N.toNat L:=by
 unfold eE at h;split at h
 ·rename_i h1;split at h
  ·rename_i h2;split at h
   ·cases h
   ·rename_i h3;exact ⟨h1,h2,h3⟩
  ·rename_i h2;exact absurd h h2
 ·rename_i h1;exact absurd h h1
theorem o8 {P M : Int} {mod : Lz} {m : Nat} {L : ZZ} : (cF P M mod m L).length=m:=by rw [cF,Nq,N7]
theorem su {P M : Int} {mod : Lz} {m : Nat} {L : ZZ} (hE : aF P M mod m L=0) (h : ¬ [] ∈ cF P M mod m L) {k : Nat} (hk : k<m) : ai (cF P M mod m L) k ≠ []/\(ai (cF P M mod m L) k).length=m/\ai (cF P M mod m L) k ∈ oR P M mod m L/\nth (ai (cF P M mod m L) k) k=1:=by
 have hm : ai (cF P M mod m L) k ∈ cF P M mod m L:=dN (by rw [o8];exact hk);have hne : ai (cF P M mod m L) k ≠ []:=λe=>h (by rw [<- e];exact hm);rw [lz hk] at hne ⊢;rcases qB hE (k : Int) with ⟨h3,_⟩ | ⟨h3,h4,_⟩
 ·exact absurd h3 hne
 ·rw [Nb] at h4;exact ⟨hne,se hE hne,h3,h4⟩
theorem AT {x : Lz} : fB x<=x.length:=by rw [<- rM (x:=x) (m:=x.length) rfl];unfold oZ;exact Nr (by rw [Nq];exact Pk _ _) (by rw [N7];exact Na _)
theorem oC {X w7 : World} {t : TypeId} (hb : Below (X.alloc (.cells #[.slice none 0 0] t)).heap.size (X.alloc (.cells #[.slice none 0 0] t)) w7) : aN w7 X.heap.size [.slice none 0 0] :=
 (R9 X [.slice none 0 0] t rfl).ah hb
theorem qp {X w7 : World} {t : TypeId} (hb : Below (X.alloc (.cells #[.slice none 0 0] t)).drew.heap.size (X.alloc (.cells #[.slice none 0 0] t)).drew w7) : aN w7 X.heap.size [.slice none 0 0] :=
 (R9 X [.slice none 0 0] t rfl).ah (RZ (Nc _ _).drew hb)
theorem qO (P M : Int) (am : OA) (mn cm : Nat) (mod : Lz) (N : Int) (a : OA) (n c : Nat) (L : ZZ) (w : World) (hmod : Ints w am mn mod) (hi : br w a n L) :
  Calls prog 28 #[.agg #[.int .i64 P,.int .i64 M,.slice am mn cm,.int .i64 N,.slice a n c]] w (nU P M mod N L w):=by
 have HA : Hid (∀V,SW w V->Calls prog 60 #[.agg #[.int .i64 P,.int .i64 M,.slice am mn cm,.int .i64 N,.slice a n c]] V (oF (eE P M mod N L) (cF P M mod N.toNat L) V)):=λV hV=>yT P M am mn cm mod N a n c L V (hmod.ah hV) (hi.ah hV);have HErr : Hid (∀V er,mU P M mod N L=er->er ≠ 0->SW w V->nU P M mod N L w (.returned (.tuple #[.agg #[.slice none 0 0,.slice none 0 0],.int .i64 er])) V):=λV er h1 h2 h3=>⟨h3,.inl ⟨by rw [h1];exact h2,by rw [h1]⟩⟩
 have HE1 : Hid (eE P M mod N L ≠ 0->mU P M mod N L=eE P M mod N L):=λh=>by rw [mU,Nf h]
 have HG : Hid (eE P M mod N L=0->∃m : Nat,N=m/\m<=64/\(cF P M mod N.toNat L).length=m/\mod.length<=8 /\
   (∀k,k<m->(ai (cF P M mod N.toNat L) k).length=m/\fB (ai (cF P M mod N.toNat L) k)<=m) /\
   (∀V (k : Nat),k<m->SW w V->Calls prog 74 #[.agg #[.int .i64 P,.int .i64 M,.slice am mn cm,.int .i64 m,.slice a n c],.int .i64 k] V λe w' =>
    ∃a1 c1 a2 c2,e = .returned (.tuple #[.agg #[.int .i64 P,.int .i64 M,.slice a1 mod.length c1,.int .i64 m,.slice a2 (bW P M mod N.toNat L k).length c2],.int .i64 0])/\Ints w' a1 mod.length mod/\br w' a2 (bW P M mod N.toNat L k).length (bW P M mod N.toNat L k)/\SW V w') /\
   (∀V a1 c1 a2 c2 (k : Nat) ra rc,Ints V a1 mod.length mod->br V a2 (bW P M mod N.toNat L k).length (bW P M mod N.toNat L k)->Ints V ra m (ai (cF P M mod N.toNat L) k)->Calls prog 75 #[.agg #[.int .i64 P,.int .i64 M,.slice a1 mod.length c1,.int .i64 m,.slice a2 (bW P M mod N.toNat L k).length c2],.slice ra m rc,.int .i64 ((fB (ai (cF P M mod N.toNat L) k) : Int) - 1)] V
    (vr (if (tf P M mod N.toNat L k).1=0 then (tf P M mod N.toNat L k).2 else []) (tf P M mod N.toNat L k).1 V)) /\
   (∀k,lcTo P M mod N.toNat L k=0->lcTo P M mod N.toNat L (k+1)=(tf P M mod N.toNat L k).1) /\
   (∀k er,k<=m->lcTo P M mod N.toNat L k=er->er ≠ 0->mU P M mod N L=er)/\(lcTo P M mod N.toNat L m=0->mU P M mod N L=0) /\
   (∀as' cs at' ct V,mU P M mod N L=0->br V as' m (cF P M mod N.toNat L)->gJ V at' m (jT P M mod N.toNat L m)->SW w V->nU P M mod N L w (.returned (.tuple #[.agg #[.slice as' m cs,.slice at' m ct],.int .i64 0])) V)):=λh=>by
  obtain ⟨hE,_,hne⟩:=mP h;obtain ⟨m,rfl,_,hm64,_⟩:=aM hE;rw [Nb] at hne ⊢;refine ⟨m,rfl,hm64,o8,ke (aG hE).1,λk hk=>?_,λV k hk hV=>?_,λV a1 c1 a2 c2 k ra rc h1 h2 h3=>?_,λk hk=>?_,λk er hk h1 h2=>?_,λh1=>?_,λas' cs at' ct V h0 h1 h2 h3=>?_⟩
  ·have h1:=(su hE hne hk).2.1;exact ⟨h1,by have:=AT (x:=ai (cF P M mod m L) k);omega⟩
  ·exact vK P M am mn cm mod m a n c L k V (hmod.ah hV) (hi.ah hV) hE hk
  ·exact (th P M a1 _ c1 mod m a2 _ c2 _ ra m rc _ _ V h1 h2 h3).mono λe w' h=>h.Lv
  ·rw [lcTo,Nd hk]
  ·rw [mU,Nd h,Nb];have h3:=qo h1 h2 (m - k);rw [show k+(m - k)=m by omega] at h3;exact h3
  ·rw [mU,Nd h,Nb];exact h1
  ·refine ⟨h3,.inr ⟨h0,as',cs,at',ct,?_,?_,?_⟩⟩
   ·rw [Nb]
   ·rw [Nb];exact h1
   ·rw [Nb];exact h2
 have HTs : Hid (∀k,jT P M mod N.toNat L (k+1)=jT P M mod N.toNat L k ++ [if (tf P M mod N.toNat L k).1=0 then (tf P M mod N.toNat L k).2 else []]):=λk=>by unfold jT;rw [Ou];simp
 have HT0 : Hid (jT P M mod N.toNat L 0=[]/\lcTo P M mod N.toNat L 0=0):=⟨rfl,rfl⟩
 generalize nU P M mod N L w=Post at *;generalize mU P M mod N L=ce at *;generalize eE P M mod N L=ae at *;generalize lcTo P M mod N.toNat L=CT at *;generalize jT P M mod N.toNat L=TT at *;generalize tf P M mod N.toNat L=bl at *;generalize bW P M mod N.toNat L=vc at *;generalize cF P M mod N.toNat L=A at *;have HI:=Z5 (Np hmod hi);clear hmod hi;go_enter func28,ntmps28;go_upto_region 1 with fail;obtain ⟨W,hW⟩ : ∃W : World,W=(w.alloc (.cells #[.int .i64 P,.int .i64 M,.slice am mn cm,.int .i64 N,.slice a n c] 27)).alloc (.cells #[.slice none 0 0,.slice none 0 0] 48):=⟨_,rfl⟩
 rw [<- hW];have hbW : SW w W:=by rw [hW];exact bN _ _ _
 have hsW : W.heap.size=w.heap.size+2:=by rw [hW];simp
 have x0 : aN W w.heap.size [.int .i64 P,.int .i64 M,.slice am mn cm,.int .i64 N,.slice a n c]:=by rw [hW];exact (R9 _ _ _ rfl).alloc _
 have z0 : aN W (w.heap.size+1) [.slice none 0 0,.slice none 0 0]:=by rw [hW];exact R9 _ _ _ (by simp)
 clear hW;have HX : Hid (∀V,SW W V->V.cell? ⟨w.heap.size,0,none⟩=some (.int .i64 P)/\V.cell? ⟨w.heap.size,1,none⟩=some (.int .i64 M)/\V.cell? ⟨w.heap.size,2,none⟩=some (.slice am mn cm)/\V.cell? ⟨w.heap.size,3,none⟩=some (.int .i64 N)/\V.cell? ⟨w.heap.size,4,none⟩=some (.slice a n c)):=λV hV=>by have x1:=x0.ah hV;exact ⟨x1.cell 0 rfl,x1.cell 1 rfl,x1.cell 2 rfl,x1.cell 3 rfl,x1.cell 4 rfl⟩
 have HZ : Hid (∀V,SW W V->V.cell? ⟨w.heap.size+1,0,none⟩=some (.slice none 0 0)/\V.cell? ⟨w.heap.size+1,1,none⟩=some (.slice none 0 0)/\V.frozen? ⟨w.heap.size+1,0,none⟩=false/\V.frozen? ⟨w.heap.size+1,1,none⟩=false/\w.heap.size+1<V.heap.size /\
   ∀x y,SW w ((V.setCell ⟨w.heap.size+1,0,none⟩ x).setCell ⟨w.heap.size+1,1,none⟩ y)):=λV hV=>by have z1:=z0.ah hV;exact ⟨z1.cell 0 rfl,z1.cell 1 rfl,z1.frozen 0,z1.frozen 1,z1.1,λx y=>((RZ hbW hV).setCell (p:=⟨w.heap.size+1,0,none⟩) (by simp) _).setCell (p:=⟨w.heap.size+1,1,none⟩) (by simp) _⟩
 have HbW:=Z5 hbW;have HsW:=Z5 hsW;clear x0 z0 hbW hsW;obtain ⟨c0,c1,c2,c3,c4⟩:=HX.out W (Nc _ _);go_wp2_with fail;refine (HA.out W HbW.out).mono ?_;rintro e w1 ⟨hb1,⟨h1,rfl⟩ | ⟨h1,aA,cA,rfl,hM,hlo⟩⟩
 ·obtain ⟨z3,z4,f3,f4,_,hbz⟩:=HZ.out w1 hb1;have d1 : (ae != 0)=true:=by simpa using h1
  have HF:=Z5 (HErr.out _ ae (HE1.out h1) h1 (hbz (.slice none 0 0) (.slice none 0 0)));clear c0 c1 c2 c3 c4 h1 HG hbz;go_wp2_with fail;exact bodyPost_ret (v:=.tuple #[.agg #[.slice none 0 0,.slice none 0 0],.int .i64 ae]) (by simp [results,results28,go_sem,z3,z4]) rfl HF.out
 have hF1:=RZ HbW.out hb1;obtain ⟨m,rfl,hm64,hAl,hm8,hrow,hze,hbu,hcs,hcn,hc0,hpo⟩:=HG.out h1;have HR:=Z5 hrow;have HZe:=Z5 hze;have HBu:=Z5 hbu;have HCs:=Z5 (Np hcs (Np hcn (Np hc0 hpo)));rw [hAl] at hM hlo;rw [hAl];have HLo:=Z5 hlo;have HM:=Z5 hM;have hplA:=hM.pl;have d1 : (ae != 0)=false:=by simp [h1]
 obtain ⟨nm,hnm⟩ : ∃nm,mod.length=nm:=⟨_,rfl⟩
 rw [hnm] at HZe HBu;clear c0 c1 c2 c3 c4 h1 HG hrow hze hbu hcs hcn hc0 hpo hM hAl HE1 HA hm8 hnm hlo;go_upto_region 5 with fail;obtain ⟨X,hX⟩ : ∃X,w1.alloc (.cells #[.slice aA m cA,.slice none 0 0] 48)=X:=⟨_,rfl⟩
 rw [hX];have hbX : SW w1 X:=by rw [<- hX];exact an _ _
 have hC0 : mE w1.heap.size X w1.heap.size (.slice aA m cA) none 0 []:=mE.start (Na _) (by rw [<- hX];exact R9 _ _ _ rfl);clear hX;have hs1:=hb1.size;have hsw:=HsW.out;go_wp2_with fail;go_loopw [25] (λiv wr=>∃(k : Nat) (at' : OA) (ct : Nat) (tt : List TX),k<=m/\iv = .int .i64 k/\mE w1.heap.size wr w1.heap.size (.slice aA m cA) at' ct tt/\Hid (tt.length=k)/\Hid (tt.map TX.T=TT k)/\Hid (CT k=0)/\SW w1 wr) (λiv _=>m - (intOf iv).toNat);case atStart=>exact ⟨0,none,0,[],Ni _,rfl,hC0,rfl,HT0.out.1.symm,HT0.out.2,hbX⟩
 case round =>
  clear hC0 hbX
  obtain ⟨k,at',ct,tt,hk,rfl,hI,Htl,Htt,Hct,hbr⟩:=hrel
  by_cases hlt : k<m
  ·obtain ⟨ra,rn,rc,hcell,hrw⟩:=(HM.out.ah hbr).cell k hlt
   obtain ⟨hrl,hwt⟩:=HR.out k hlt
   have hrn : rn=m:=by rw [<- hrw.len];exact hrl
   subst hrn
   have hF2:=RZ hF1 hbr
   have HZk:=Z5 (HZe.out wr k hlt hF2)
   have HRw:=Z5 hrw
   have HI2:=Z5 (Np hI hbr)
   have hCt1:=HCs.out.1 k Hct.out
   have HTk:=Z5 (HTs.out k)
   obtain ⟨wt,hwte⟩ : ∃wt,fB (ai A k)=wt:=⟨_,rfl⟩
   have HBk : Hid (∀V a1 c1 a2 c2,Ints V a1 nm mod->br V a2 (vc k).length (vc k)->Ints V ra rn (ai A k)->Calls prog 75 #[.agg #[.int .i64 P,.int .i64 M,.slice a1 nm c1,.int .i64 rn,.slice a2 (vc k).length c2],.slice ra rn rc,.int .i64 ((wt : Int) - 1)] V (vr (if (bl k).1=0 then (bl k).2 else []) (bl k).1 V)):=λV a1 c1 a2 c2 h1 h2 h3=>by rw [<- hwte];exact HBu.out V a1 c1 a2 c2 k ra rc h1 h2 h3
   have HWt : Hid (∀V,Ints V ra rn (ai A k)->Calls prog 76 #[.slice ra rn rc] V λe w'=>e = .returned (.int .i64 (wt : Nat))/\SW V w'):=λV hV=>by rw [<- hwte];exact rN ra rn rc _ V hV (by omega)
   rw [hwte] at hwt
   have w1' : IntKind.i64.wrap ((wt : Int) - 1)=(wt : Int) - 1:=Ns _ (by omega)
   obtain ⟨vk,hvk⟩ : ∃vk,vc k=vk:=⟨_,rfl⟩
   obtain ⟨qv,hqv⟩ : ∃q,vk.length=q:=⟨_,rfl⟩
   rw [hvk,hqv] at HZk HBk
   obtain ⟨bk,hbk⟩ : ∃bk,bl k=bk:=⟨_,rfl⟩
   rw [hbk] at HBk HTk hCt1
   obtain ⟨er,T0⟩:=bk
   have HCt1 : Hid (CT (k+1)=er):=hCt1
   obtain ⟨T,hT⟩ : ∃T,(if ((er,T0) : Int × ZZ).1=0 then ((er,T0) : Int × ZZ).2 else [])=T:=⟨_,rfl⟩
   rw [hT] at HBk HTk
   have hpr:=hrw.pl
   obtain ⟨c0,c1,c2,c3,c4⟩:=HX.out wr (RZ hb1 hbr)
   clear hrl hwte hvk hqv hbk hT hCt1 hrw hI
   go_wp2_with fail
   refine HZk.out.mono ?_
   rintro e w3 ⟨a3,k3,a4,k4,rfl,hI3,hM3,hb3⟩
   have hn3:=an w3 (.cells #[.int .i64 P,.int .i64 M,.slice a3 nm k3,.int .i64 rn,.slice a4 qv k4] 27)
   have y3 : aN (w3.alloc (.cells #[.int .i64 P,.int .i64 M,.slice a3 nm k3,.int .i64 rn,.slice a4 qv k4] 27)) w3.heap.size [.int .i64 P,.int .i64 M,.slice a3 nm k3,.int .i64 rn,.slice a4 qv k4]:=R9 _ _ _ rfl
   have hI3':=hI3.ah hn3
   have hM3':=hM3.ah hn3
   clear c0 c1 c2 c3 c4 hI3 hM3
   go_upto_region 9 with fail
   obtain ⟨V3,hV3⟩ : ∃V3,w3.alloc (.cells #[.int .i64 P,.int .i64 M,.slice a3 nm k3,.int .i64 rn,.slice a4 qv k4] 27)=V3:=⟨_,rfl⟩
   rw [hV3] at hn3 y3 hI3' hM3' ⊢
   have hbV3:=RZ hb3 hn3
   have hrV3:=HRw.out.ah hbV3
   have hbw3:=RZ hbr hbV3
   obtain ⟨g3,hg3⟩ : ∃g,w3.heap.size=g:=⟨_,rfl⟩
   rw [hg3] at y3 ⊢
   have HS5 : Hid (∀V,SW V3 V->V.cell? ⟨g3,0,none⟩=some (.int .i64 P)/\V.cell? ⟨g3,1,none⟩=some (.int .i64 M)/\V.cell? ⟨g3,2,none⟩=some (.slice a3 nm k3)/\V.cell? ⟨g3,3,none⟩=some (.int .i64 rn)/\V.cell? ⟨g3,4,none⟩=some (.slice a4 qv k4)/\SW V3 V):=λV hV=>by have y:=y3.ah hV;exact ⟨y.cell 0 rfl,y.cell 1 rfl,y.cell 2 rfl,y.cell 3 rfl,y.cell 4 rfl,hV⟩
   have HW3:=Z5 (λV (hV : SW V3 V)=>HWt.out V (hrV3.ah hV))
   have HB3:=Z5 (λV (hV : SW V3 V)=>HBk.out V a3 k3 a4 k4 (hI3'.ah hV) (hM3'.ah hV) (hrV3.ah hV))
   have HV3:=Z5 (Np hbV3 hbw3)
   clear hV3 hg3 hI3' hM3' hrV3 HBk HWt HZk hn3 hb3 y3
   obtain ⟨c0,c1,c2,c3,c4,_⟩:=HS5.out V3 (Nc _ _)
   unfold vr at HB3
   go_upto_region 11 with fail
   go_cut [10,11] (λv10 v11 wx=>v10 = .int .i64 er/\∃g ar nr cr,v11 = .pointer (some ⟨g,0,none⟩)/\Hid (aN wx g [.slice ar nr cr])/\Hid (V3.heap.size<=g)/\Hid (dq V3.heap.size wx ar nr T)/\Hid (nr<=cr)/\SW V3 wx)
   case first =>
    go_region_held3 (λV=>V.cell? ⟨g3,0,none⟩=some (.int .i64 P)/\V.cell? ⟨g3,1,none⟩=some (.int .i64 M)/\V.cell? ⟨g3,2,none⟩=some (.slice a3 nm k3)/\V.cell? ⟨g3,3,none⟩=some (.int .i64 rn)/\V.cell? ⟨g3,4,none⟩=some (.slice a4 qv k4)/\SW V3 V)
     ((refine HS5.out _ ?_;first | exact (Nc _ _).drew | assumption | (go_split_ands;first | assumption | exact RZ (by assumption) (an _ _) | exact (RZ (by assumption) (an _ _)).drew | exact RZ (by assumption) (by assumption) | exact P2 (by assumption) (by first | exact hB5.size | exact hB4.size | simp) _)))
     (first
      | (go_at_call 76;((with_reducible refine (HW3.out _ (by go_split_ands;assumption)).mono ?_);rintro e w4 ⟨rfl,hb4⟩;have hB4 : SW V3 w4:=(by go_split_ands;exact RZ (by assumption) hb4);(first | (have HB4:=Z5 (qp hb4)) | (have HB4:=Z5 (oC hb4)) | skip)))
      | (go_at_call 75;((with_reducible refine (HB3.out _ (by go_split_ands;assumption)).mono ?_);rintro e w5 ⟨ar,nr,cr,rfl,hM5,hc5,hb5⟩;have hB5 : SW V3 w5:=(by go_split_ands;exact RZ (by assumption) hb5);have HM5:=Z5 hM5;have HC5:=Z5 hc5;clear hM5 hc5;(first | (have HB5:=Z5 (qp hb5)) | (have HB5:=Z5 (oC hb5)) | (have HB5:=Z5 (HB4.out.ah hb5)) | skip);(first | (have z0:=HB5.out.cell 0 rfl;have f0:=HB5.out.frozen 0) | skip))))
    all_goals (
     go_wp2_with fail
     go_meet
     first
      | exact ⟨rfl,_,ar,nr,cr,rfl,R9 w5 [.slice ar nr cr] _ rfl,hB5.size,(HM5.out.ah (an _ _)).mono (by first | exact hB4.size | exact (RZ hB4 (an _ _)).size),HC5.out,by go_split_ands;assumption⟩
      | exact ⟨rfl,_,ar,nr,cr,rfl,HB5.out.setCell 0 (.slice ar nr cr),(by first | exact hB4.size | exact Na _),(HM5.out.setCell (by first | exact HB4.out.1 | simp) _).mono (by first | exact hB4.size | exact (RZ hB4 (an _ _)).size),HC5.out,by go_split_ands;assumption⟩)
   obtain ⟨rfl,g,ar,nr,cr,rfl,HBx,Hg3,HMT,HCr,hbV⟩:=hcut
   generalize wc=V5 at *
   have hbr5:=RZ HV3.out.2 hbV
   clear c0 c1 c2 c3 c4
   by_cases her : er=0
   rotate_left
   ·obtain ⟨z3,z4,f3,f4,_,hbz⟩:=HZ.out V5 (RZ hb1 hbr5)
    have d2 : (er != 0)=true:=by simpa using her
    have HF:=Z5 (HErr.out _ er (HCs.out.2.1 (k+1) er (by omega) HCt1.out her) her (hbz (.slice none 0 0) (.slice none 0 0)))
    clear her hbz
    go_wp2_with fail
    exact bodyPost_ret (v:=.tuple #[.agg #[.slice none 0 0,.slice none 0 0],.int .i64 er]) (by simp [results,results28,go_sem,z3,z4]) rfl HF.out
   ·subst her
    have hI5:=HI2.out.1.ah (RZ HV3.out.1 hbV)
    have hMA : jz (TA w1.heap.size w1.heap.size at') V5 ar nr T:=HMT.out.Jr λb hb=>NR (HI2.out.1.lt b hb) HV3.out.1.size
    have htlk : tt.length=k:=Htl.out
    have hTl : T.length=nr:=HMT.out.len
    have b1:=hI5.box.cell 1 rfl
    have g1:=hI5.box.frozen 1
    have t0:=HBx.out.cell 0 rfl
    have hto:=(hI5.ah (an V5 (.cells #[.slice ar nr cr] 103))).tow
    have hcn2:=ba V5 (.slice ar nr cr) 103
    have b1':=bu b1 (.cells #[.slice ar nr cr] 103)
    rw [htlk] at b1 b1' hto
    have hs9 : w1.heap.size<=(V5.alloc (.cells #[.slice ar nr cr] 103)).heap.size:=by have:=hbr5.size;simp;omega
    have hlt5 : w1.heap.size<V5.heap.size:=hI5.box.1
    have HI5:=Z5 (Np hI5 (Np hMA (Np hTl hbr5)))
    have Hlt5:=Z5 hlt5
    have Hatb:=Z5 hI5.at1
    clear hI5 hMA hTl hbr5 hlt5
    go_wp2_with (at_builtin;refine sW rfl _ _ 46 103 rfl (.agg #[.slice none 0 0]) 24 underlying46 EF rfl w1.heap.size at' k ct _ rfl hto ⟨V5.heap.size,0,none⟩ 1 (.slice ar nr cr) rfl hcn2 rfl (by omega) (by unfold maxLen;omega) hs9 ?_;intro a6 c6 w6 hown6 hgr6 hap6;have b6:=bT (ad:=⟨w1.heap.size,1,none⟩) hgr6 b1' Hatb.out;have g6 : w6.frozen? ⟨w1.heap.size,1,none⟩=false:=qU hgr6 (by simp;have:=Hlt5.out;omega) (dX Hlt5.out g1 _) Hatb.out)
    go_roundw
    case rel =>
     obtain ⟨hI5,hMA,hTl,hbr5⟩:=HI5.out
     have hown6' : w6.ownsRow w1.heap.size 103 1 (.slice a6 (tt.length+1) c6) (tt.length+1) (tt.map J0 ++ [J0 ⟨ar,cr,T⟩]):=by rw [htlk,show J0 ⟨ar,cr,T⟩ = .slice ar nr cr by show Value.slice _ _ _=_;rw [hTl]];exact hown6
     obtain ⟨hI7,hbp⟩:=hI5.Lw (x:=⟨ar,cr,T⟩) (by show jz _ _ ar T.length T;rw [hTl];exact hMA) (by show T.length<=cr;rw [hTl];exact HCr.out) hown6' (by rw [htlk];exact hgr6) hap6
     have hbr7:=hbp _ hbr5
     rw [htlk] at hI7 hbr7
     exact ⟨k+1,a6,c6,tt ++ [⟨ar,cr,T⟩],by omega,by go_num,hI7,by show _=_;rw [Nl,htlk];rfl,by show _=_;rw [NM,Htt.out,HTk.out];rfl,HCt1.out,hbr7⟩
    case measure=>simp [intOf] <;> omega
  ·obtain rfl : k=m:=by omega
   obtain ⟨z3,z4,f3,f4,_,hbz⟩:=HZ.out wr (RZ hb1 hbr)
   have b0:=hI.box.cell 0 rfl
   have b1:=hI.box.cell 1 rfl
   rw [Htl.out] at b1
   have hI2:=(hI.set (p:=⟨w.heap.size+1,0,none⟩) (by show w.heap.size+1<w1.heap.size;omega) (.slice aA k cA)).set (p:=⟨w.heap.size+1,1,none⟩) (by show w.heap.size+1<w1.heap.size;omega) (.slice at' k ct)
   have q2:=hI2.trees
   rw [Htl.out,Htt.out] at q2
   have hMk : br ((wr.setCell ⟨w.heap.size+1,0,none⟩ (.slice aA k cA)).setCell ⟨w.heap.size+1,1,none⟩ (.slice at' k ct)) aA k A:=by
    have hne : ∀j,0<k->(⟨w.heap.size+1,j,none⟩ : Addr).block ≠ ablk aA:=λj h0 e=>by have h3:=HLo.out h0;rw [<- e] at h3;have h4 : W.heap.size<=w.heap.size+1:=h3;omega
    have hz4 : (wr.setCell ⟨w.heap.size+1,0,none⟩ (.slice aA k cA)).cell? ⟨w.heap.size+1,1,none⟩=some (.slice none 0 0):=by rw [NC _ _ _ _ (by simp)];exact z4
    exact (((HM.out.ah hbr).mN z3 (hne 0) _).mN hz4 (hne 1) _)
   have HF:=Z5 (HCs.out.2.2.2 aA cA at' ct _ (HCs.out.2.2.1 Hct.out) hMk q2 (hbz (.slice aA k cA) (.slice at' k ct)))
   clear hI hI2 q2 hbz hMk
   go_wp2_with fail
   exact bodyPost_ret (v:=.tuple #[.agg #[.slice aA k cA,.slice at' k ct],.int .i64 0]) (by simp [results,results28,go_sem,z3,z4]) rfl HF.out
theorem BA (P M : Int) (am : OA) (mn cm : Nat) (mod : Lz) (N : Int) (a : OA) (n c : Nat) (L : ZZ) (w : World) (hmod : Ints w am mn mod) (hi : br w a n L) (hE : aF P M mod N L ≠ 0) :
  Calls prog 80 #[.agg #[.int .i64 P,.int .i64 M,.slice am mn cm,.int .i64 N,.slice a n c]] w λe w'=>e = .returned (.tuple #[.agg #[.int .i64 0,.int .i64 0,.slice none 0 0,.int .i64 0,.slice none 0 0],.int .i64 (aF P M mod N L)])/\SW w w':=by
 have HC : Hid (∀V,SW w V->Calls prog 88 #[.agg #[.int .i64 P,.int .i64 M,.slice am mn cm,.int .i64 N,.slice a n c]] V λe w'=>e = .returned (.int .i64 (aF P M mod N L))/\SW V w'):=λV hV=>dr P M am mn cm mod N a n c L V (hmod.ah hV) (hi.ah hV);generalize aF P M mod N L=ce at *;have d0 : (ce != 0)=true:=by simpa using hE
 clear hmod hi hE;go_enter func80,ntmps80;go_wp2_with fail;obtain ⟨W,hW⟩ : ∃W : World,W=(w.alloc (.cells #[.int .i64 P,.int .i64 M,.slice am mn cm,.int .i64 N,.slice a n c] 27)).alloc (.cells #[.int .i64 0,.int .i64 0,.slice none 0 0,.int .i64 0,.slice none 0 0] 27):=⟨_,rfl⟩
 rw [<- hW];have hbW : SW w W:=by rw [hW];exact bN _ _ _
 have z0 : aN W (w.heap.size+1) [.int .i64 0,.int .i64 0,.slice none 0 0,.int .i64 0,.slice none 0 0]:=by rw [hW];exact R9 _ _ _ (by simp)
 have HZ:=Z5 z0;clear hW z0;refine (HC.out W hbW).mono ?_;rintro e w1 ⟨rfl,hb1⟩;have zz:=HZ.out.ah hb1;have z0:=zz.cell 0 rfl;have z1:=zz.cell 1 rfl;have z2:=zz.cell 2 rfl;have z3:=zz.cell 3 rfl;have z4:=zz.cell 4 rfl;have f0:=zz.frozen 0;have f1:=zz.frozen 1;have f2:=zz.frozen 2;have f3:=zz.frozen 3;have f4:=zz.frozen 4;have hF:=RZ hbW hb1;have HF:=Z5 (((((hF.setCell (p:=⟨w.heap.size+1,0,none⟩) (by simp) (.int .i64 0)).setCell (p:=⟨w.heap.size+1,1,none⟩) (by simp) (.int .i64 0)).setCell (p:=⟨w.heap.size+1,2,none⟩) (by simp) (.slice none 0 0)).setCell (p:=⟨w.heap.size+1,3,none⟩) (by simp) (.int .i64 0)).setCell (p:=⟨w.heap.size+1,4,none⟩) (by simp) (.slice none 0 0));clear zz hF;go_wp2_with fail;exact bodyPost_ret (v:=.tuple #[.agg #[.int .i64 0,.int .i64 0,.slice none 0 0,.int .i64 0,.slice none 0 0],.int .i64 ce]) (by simp [results,results80,go_sem,z0,z1,z2,z3,z4]) rfl ⟨rfl,HF.out⟩
def s9 (P M : Int) (mod : Lz) (m : Nat) (L : ZZ) (k : Nat) (x : Lz) (T : ZZ) : Bool :=
 decide (gn P M mod m (aS (af P M.toNat mod) L m) x=0) && mI P M mod m (aS (af P M.toNat mod) L m) x && decide (nth x k=1) && decide (jU P M mod m (bW P M mod m L k) x ((fB x : Int) - 1) T=0)
def lkTo (P M : Int) (mod : Lz) (m : Nat) (L WW : ZZ) (TT : List ZZ) : Nat->Bool
 | 0=>true
 | k+1=>lkTo P M mod m L WW TT k && s9 P M mod m L k (ai WW k) (nK TT k)
theorem zu {P M : Int} {mod : Lz} {m : Nat} {L WW : ZZ} {TT : List ZZ} {k : Nat} (h : s9 P M mod m L k (ai WW k) (nK TT k)=false) : ∀d,lkTo P M mod m L WW TT (k+1+d)=false
 | 0=>by rw [Qv,lkTo,h,Qy]
 | d+1=>by rw [show k+1+(d+1)=(k+1+d)+1 by omega,lkTo,zu h d,Q5]
def oT (P M : Int) (mod : Lz) (N : Int) (L WW : ZZ) (TT : List ZZ) : Int :=
 if aF P M mod N L=0 then (if (WW.length : Int)=N/\(TT.length : Int)=N/\lkTo P M mod N.toNat L WW TT N.toNat=true then 0 else 13) else aF P M mod N L
def pP (WW : ZZ) (k : Nat) : Lz:=(WW.take k).map λx=>(fB x : Int) - 1
def lC (er : Int) (V : Lz) (n : Nat) (w : World) (e : Ending) (w' : World) : Prop :=
 SW w w'/\((er ≠ 0/\e = .returned (.tuple #[.slice none 0 0,.int .i64 er]))\/(er=0/\∃a c,e = .returned (.tuple #[.slice a n c,.int .i64 0])/\Ints w' a n V))
theorem o6 (P M : Int) (am : OA) (mn cm : Nat) (mod : Lz) (N : Int) (a : OA) (n c : Nat) (L : ZZ) (aw : OA) (nw cw : Nat) (WW : ZZ) (at' : OA) (nt ct : Nat) (TT : List ZZ) (w : World)
  (hmod : Ints w am mn mod) (hi : br w a n L) (hw : br w aw nw WW) (ht : gJ w at' nt TT) :
  Calls prog 31 #[.agg #[.int .i64 P,.int .i64 M,.slice am mn cm,.int .i64 N,.slice a n c],.agg #[.slice aw nw cw,.slice at' nt ct]] w (lC (oT P M mod N L WW TT) (pP WW N.toNat) N.toNat w):=by
 have HErr : Hid (∀V er,oT P M mod N L WW TT=er->er ≠ 0->SW w V->lC (oT P M mod N L WW TT) (pP WW N.toNat) N.toNat w (.returned (.tuple #[.slice none 0 0,.int .i64 er])) V):=λV er h1 h2 h3=>⟨h3,.inl ⟨by rw [h1];exact h2,by rw [h1]⟩⟩
 have hmw:=hw.max;have hmt:=ht.max;have hplw:=hw.pl;have hplt:=ht.pl;unfold maxLen at hmw hmt;by_cases hE : aF P M mod N L=0;rotate_left
 ·have HD : Hid (∀V,SW w V->Calls prog 80 #[.agg #[.int .i64 P,.int .i64 M,.slice am mn cm,.int .i64 N,.slice a n c]] V λe w'=>e = .returned (.tuple #[.agg #[.int .i64 0,.int .i64 0,.slice none 0 0,.int .i64 0,.slice none 0 0],.int .i64 (aF P M mod N L)])/\SW V w'):=λV hV =>
   BA P M am mn cm mod N a n c L V (hmod.ah hV) (hi.ah hV) hE
  have HR : Hid (oT P M mod N L WW TT=aF P M mod N L):=by show _=_;rw [oT,Nf hE]
  generalize lC (oT P M mod N L WW TT) (pP WW N.toNat) N.toNat w=Post at *;generalize aF P M mod N L=ce at *;have d0 : (ce != 0)=true:=by simpa using hE
  have H0:=Z5 hE;clear hmod hi hw ht hE;go_enter func31,ntmps31;go_upto_region 1 with fail;obtain ⟨W,hW⟩ : ∃W : World,W=(w.alloc (.cells #[.int .i64 P,.int .i64 M,.slice am mn cm,.int .i64 N,.slice a n c] 27)).alloc (.cells #[.slice aw nw cw,.slice at' nt ct] 48):=⟨_,rfl⟩
  rw [<- hW];have hbW : SW w W:=by rw [hW];exact bN _ _ _
  have x0 : aN W w.heap.size [.int .i64 P,.int .i64 M,.slice am mn cm,.int .i64 N,.slice a n c]:=by rw [hW];exact (R9 _ _ _ rfl).alloc _
  have c0:=x0.cell 0 rfl;have c1:=x0.cell 1 rfl;have c2:=x0.cell 2 rfl;have c3:=x0.cell 3 rfl;have c4:=x0.cell 4 rfl;have HbW:=Z5 hbW;clear hW x0 hbW;go_wp2_with fail;refine (HD.out W HbW.out).mono ?_;rintro e w1 ⟨rfl,hb1⟩;have hF:=RZ (RZ HbW.out hb1) (an w1 (.cells #[.int .i64 0,.int .i64 0,.slice none 0 0,.int .i64 0,.slice none 0 0] 27));clear c0 c1 c2 c3 c4;go_wp2_with fail;exact HErr.out _ _ HR.out H0.out hF
 obtain ⟨m,rfl,hm1,hm64,_⟩:=aM hE;have hml : mod.length<=8:=ke (aG hE).1;have hmn : mn<=8:=by rw [<- hmod.len];exact hml
 have HD : Hid (∀V,SW w V->Calls prog 80 #[.agg #[.int .i64 P,.int .i64 M,.slice am mn cm,.int .i64 m,.slice a n c]] V (nI P M mod m L V)):=λV hV=>vC P M am mn cm mod m a n c L V (hmod.ah hV) (hi.ah hV) hE (by omega);have HHas : Hid (∀V a1 c1 a2 c2 ra rn rc x,Ints V a1 mod.length mod->br V a2 (aS (af P M.toNat mod) L m).length (aS (af P M.toNat mod) L m)->Ints V ra rn x->Calls prog 81 #[.agg #[.int .i64 P,.int .i64 M,.slice a1 mod.length c1,.int .i64 m,.slice a2 (aS (af P M.toNat mod) L m).length c2],.slice ra rn rc] V
   λe w'=>e = .returned (.tuple #[.bool (mI P M mod m (aS (af P M.toNat mod) L m) x),.int .i64 (gn P M mod m (aS (af P M.toNat mod) L m) x)])/\SW V w'):=λV a1 c1 a2 c2 ra rn rc x h1 h2 h3 =>
  zR P M a1 _ c1 mod m a2 _ c2 _ ra rn rc x V h1 h2 h3
 have HWl : Hid (∀x,gn P M mod m (aS (af P M.toNat mod) L m) x=0->x.length=m):=λx h=>by have h1:=(qh h).2.1;simpa using h1
 have HZe : Hid (∀ V (k : Nat), k < m → SW w V → Calls prog 74 #[.agg #[.int .i64 P, .int .i64 M, .slice am mn cm, .int .i64 m, .slice a n c], .int .i64 k] V fun e w' =>
       ∃a1 c1 a2 c2,e = .returned (.tuple #[.agg #[.int .i64 P,.int .i64 M,.slice a1 mod.length c1,.int .i64 m,.slice a2 (bW P M mod m L k).length c2],.int .i64 0])/\Ints w' a1 mod.length mod/\br w' a2 (bW P M mod m L k).length (bW P M mod m L k)/\SW V w'):=λV k hk hV =>
  vK P M am mn cm mod m a n c L k V (hmod.ah hV) (hi.ah hV) hE hk
 have HCk : Hid (∀ V a1 c1 a2 c2 (k : Nat) ra rc x W ab nb cb T, Ints V a1 mod.length mod → br V a2 (bW P M mod m L k).length (bW P M mod m L k) → Ints V ra m x → br V ab nb T → Calls prog 82 #[.agg #[.int .i64 P, .int .i64 M, .slice a1 mod.length c1, .int .i64 m, .slice a2 (bW P M mod m L k).length c2], .slice ra m rc, .int .i64 W, .agg #[.slice ab nb cb]] V
       λe w'=>e = .returned (.int .i64 (jU P M mod m (bW P M mod m L k) x W T))/\SW V w'):=λV a1 c1 a2 c2 k ra rc x W ab nb cb T h1 h2 h3 h4 =>
  ub P M a1 _ c1 mod m a2 _ c2 _ ra m rc x W ab nb cb T V h1 h2 h3 h4
 have HEl : Hid (oT P M mod m L WW TT=if (nw : Int)=m/\(nt : Int)=m/\lkTo P M mod m L WW TT m=true then 0 else 13):=by show _=_;rw [oT,Nd hE,hw.len,ht.len,Nb]
 have HTn : Hid (∀k,k<m->s9 P M mod m L k (ai WW k) (nK TT k)=false->oT P M mod m L WW TT=13):=λk hk h=>by rw [HEl.out,Nf];rintro ⟨_,_,h3⟩;have h4:=zu (TT:=TT) h (m - (k+1));rw [show k+1+(m - (k+1))=m by omega,h3] at h4;cases h4
 have HTs : Hid (∀k,lkTo P M mod m L WW TT k=true->s9 P M mod m L k (ai WW k) (nK TT k)=true->lkTo P M mod m L WW TT (k+1)=true):=λk h1 h2=>by rw [lkTo,h1,h2];rfl
 have HOk : Hid (∀k x T,s9 P M mod m L k x T=(decide (gn P M mod m (aS (af P M.toNat mod) L m) x=0) && mI P M mod m (aS (af P M.toNat mod) L m) x && decide (nth x k=1) && decide (jU P M mod m (bW P M mod m L k) x ((fB x : Int) - 1) T=0))):=λk x T=>rfl;have HVk : Hid (∀k,k<nw->pP WW (k+1)=pP WW k ++ [(fB (ai WW k) : Int) - 1]):=λk hk=>by
  have hkA : k<WW.length:=by rw [hw.len];exact hk
  unfold pP;rw [Nj hkA,NM,aC hkA];rfl
 have HV0 : Hid (pP WW 0=[]/\lkTo P M mod m L WW TT 0=true):=⟨rfl,rfl⟩
 have HVl : Hid (∀k,k<=nw->(pP WW k).length=k):=λk hk=>by unfold pP;rw [Nq,NG,hw.len];omega
 rw [Nb] at HErr ⊢;have HFin : Hid (∀a1 c1 V,oT P M mod m L WW TT=0->Ints V a1 m (pP WW m)->SW w V->lC (oT P M mod m L WW TT) (pP WW m) m w (.returned (.tuple #[.slice a1 m c1,.int .i64 0])) V):=λa1 c1 V h0 h1 h2=>⟨h2,.inr ⟨h0,a1,c1,rfl,h1⟩⟩
 unfold nI at HD;generalize hPo : lC (oT P M mod m L WW TT) (pP WW m) m w=Post at *;generalize oT P M mod m L WW TT=le at *;generalize lkTo P M mod m L WW TT=LT at *;generalize s9 P M mod m L=ok at *;generalize aS (af P M.toNat mod) L m=D at *;generalize hVc : bW P M mod m L=vc at *;generalize pP WW=LV at *;obtain ⟨nm,hnm⟩ : ∃nm,mod.length=nm:=⟨_,rfl⟩
 obtain ⟨nd,hnd⟩ : ∃nd,D.length=nd:=⟨_,rfl⟩
 rw [hnm] at HD HHas HZe HCk;rw [hnd] at HD HHas;have HI:=Z5 (Np hw ht);clear hmod hi hw ht hE hm1 hml hmn hPo hVc hnm hnd;go_enter func31,ntmps31;go_upto_region 1 with fail;obtain ⟨W,hW⟩ : ∃W : World,W=(w.alloc (.cells #[.int .i64 P,.int .i64 M,.slice am mn cm,.int .i64 m,.slice a n c] 27)).alloc (.cells #[.slice aw nw cw,.slice at' nt ct] 48):=⟨_,rfl⟩
 rw [<- hW];have hbW : SW w W:=by rw [hW];exact bN _ _ _
 have x0 : aN W w.heap.size [.int .i64 P,.int .i64 M,.slice am mn cm,.int .i64 m,.slice a n c]:=by rw [hW];exact (R9 _ _ _ rfl).alloc _
 have y0 : aN W (w.heap.size+1) [.slice aw nw cw,.slice at' nt ct]:=by rw [hW];exact R9 _ _ _ (by simp)
 clear hW;have HX : Hid (∀V,SW W V->V.cell? ⟨w.heap.size,0,none⟩=some (.int .i64 P)/\V.cell? ⟨w.heap.size,1,none⟩=some (.int .i64 M)/\V.cell? ⟨w.heap.size,2,none⟩=some (.slice am mn cm)/\V.cell? ⟨w.heap.size,3,none⟩=some (.int .i64 m)/\V.cell? ⟨w.heap.size,4,none⟩=some (.slice a n c)/\V.cell? ⟨w.heap.size+1,0,none⟩=some (.slice aw nw cw)/\V.cell? ⟨w.heap.size+1,1,none⟩=some (.slice at' nt ct)):=λV hV=>by have x1:=x0.ah hV;have y1:=y0.ah hV;exact ⟨x1.cell 0 rfl,x1.cell 1 rfl,x1.cell 2 rfl,x1.cell 3 rfl,x1.cell 4 rfl,y1.cell 0 rfl,y1.cell 1 rfl⟩
 have HbW:=Z5 hbW;clear x0 y0 hbW;obtain ⟨c0,c1,c2,c3,c4,d0,d1⟩:=HX.out W (Nc _ _);go_wp2_with fail;refine (HD.out W HbW.out).mono ?_;rintro e w1 ⟨a1,k1,a2,k2,rfl,hI1,hM1,hb1⟩;have hn1:=an w1 (.cells #[.int .i64 P,.int .i64 M,.slice a1 nm k1,.int .i64 m,.slice a2 nd k2] 27);have y1 : aN (w1.alloc (.cells #[.int .i64 P,.int .i64 M,.slice a1 nm k1,.int .i64 m,.slice a2 nd k2] 27)) w1.heap.size [.int .i64 P,.int .i64 M,.slice a1 nm k1,.int .i64 m,.slice a2 nd k2]:=R9 _ _ _ rfl;have hI1':=hI1.ints.ah hn1;have hM1':=hM1.jt.ah hn1;clear c0 c1 c2 c3 c4 d0 d1 hI1 hM1;go_upto_region 2 with fail;obtain ⟨U,hU⟩ : ∃U,w1.alloc (.cells #[.int .i64 P,.int .i64 M,.slice a1 nm k1,.int .i64 m,.slice a2 nd k2] 27)=U:=⟨_,rfl⟩
 rw [hU] at hn1 y1 hI1' hM1' ⊢;obtain ⟨g1,hg1⟩ : ∃g,w1.heap.size=g:=⟨_,rfl⟩
 rw [hg1] at y1 ⊢;have hbU:=RZ hb1 hn1;have hF1:=RZ HbW.out hbU;have HDc : Hid (∀V,SW U V->V.cell? ⟨g1,0,none⟩=some (.int .i64 P)/\V.cell? ⟨g1,1,none⟩=some (.int .i64 M)/\V.cell? ⟨g1,2,none⟩=some (.slice a1 nm k1)/\V.cell? ⟨g1,3,none⟩=some (.int .i64 m)/\V.cell? ⟨g1,4,none⟩=some (.slice a2 nd k2)):=λV hV=>by have y:=y1.ah hV;exact ⟨y.cell 0 rfl,y.cell 1 rfl,y.cell 2 rfl,y.cell 3 rfl,y.cell 4 rfl⟩
 have HH:=Z5 (λV ra rn rc x (hV : SW U V) h=>HHas.out V a1 k1 a2 k2 ra rn rc x (hI1'.ah hV) (hM1'.ah hV) h);clear hU hg1 y1 hI1' hM1' HHas HD hn1 hb1;obtain ⟨c0,c1,c2,c3,c4,d0,d1⟩:=HX.out U hbU;by_cases h1 : (nw : Int)=m;rotate_left
 ·have e1 : ((nw : Int) != m)=true:=by simpa using h1
  have HF:=Z5 (HErr.out U 13 (by rw [HEl.out,Nf (λh=>h1 h.1)]) (by decide) hF1);clear h1;go_wp2_with fail;exact HF.out
 obtain rfl : nw=m:=by omega
 by_cases h2 : (nt : Int)=nw;rotate_left
 ·have e1 : ((nw : Int) != nw)=false:=by simp
  have e2 : ((nt : Int) != nw)=true:=by simpa using h2
  have HF:=Z5 (HErr.out U 13 (by rw [HEl.out,Nf (λh=>h2 h.2.1)]) (by decide) hF1);clear h1 h2;go_wp2_with fail;exact HF.out
 obtain rfl : nt=nw:=by omega
 have e1 : ((nt : Int) != nt)=false:=by simp
 have HF1:=Z5 (Np hF1 hbU);clear h1 h2;go_wp2_with fail;clear c0 c1 c2 c3 c4 d0 d1 e1;go_loopw [8,39] (λsv iv wr=>∃(k : Nat) (a8 : OA) (c8 : Nat),k<=nt/\iv = .int .i64 k/\sv = .slice a8 k c8/\Hid (wr.ownsRow U.heap.size 3 1 (.slice a8 k c8) k ((LV k).map (Value.int .i64)))/\SW U wr/\Hid (LT k=true)) (λ_ iv _=>nt - (intOf iv).toNat);case atStart=>exact ⟨0,none,0,Ni _,rfl,rfl,by show World.ownsRow _ _ _ _ _ _ _;rw [HV0.out.1];exact bV,Nc _ _,HV0.out.2⟩
 case round =>
  obtain ⟨k,a8,c8,hk,rfl,rfl,Hown,hbr,Hlt⟩:=hrel
  by_cases hlt : k<nt
  ·have hbwr:=RZ HF1.out.1 hbr
   obtain ⟨ra,rn,rc,hcell,hrw⟩:=(HI.out.1.ah hbwr).cell k hlt
   have HRw:=Z5 hrw
   have HTk:=Z5 (HTn.out k hlt)
   have HSk:=Z5 (HTs.out k Hlt.out)
   have HVk1:=Z5 (HVk.out k hlt)
   have HTr:=Z5 ((HI.out.2.ah hbwr).cell k hlt)
   have hok:=HOk.out k (ai WW k) (nK TT k)
   have HLk:=Z5 (HWl.out (ai WW k))
   have HHk:=Z5 (HH.out wr ra rn rc _ hbr hrw)
   have hpr:=hrw.pl
   obtain ⟨x,hx⟩ : ∃x,ai WW k=x:=⟨_,rfl⟩
   rw [hx] at HRw HTk HSk HVk1 hok HLk HHk
   obtain ⟨T,hT⟩ : ∃T,nK TT k=T:=⟨_,rfl⟩
   rw [hT] at HTk HSk hok HTr
   have HOkk:=Z5 hok
   obtain ⟨wE,hwE⟩ : ∃e,gn P M mod nt D x=e:=⟨_,rfl⟩
   obtain ⟨hV,hhV⟩ : ∃e,mI P M mod nt D x=e:=⟨_,rfl⟩
   rw [hwE,hhV] at HHk HOkk
   rw [hwE] at HLk
   obtain ⟨q0,q1,q2,q3,q4⟩:=HDc.out wr hbr
   have Hbr:=Z5 hbr
   clear hx hT hwE hhV hok hrw hbr hbwr
   go_wp2_with fail
   refine HHk.out.mono ?_
   rintro e w3 ⟨rfl,hb3⟩
   have hbr3:=RZ Hbr.out hb3
   have hF3:=RZ HF1.out.1 hbr3
   clear q0 q1 q2 q3 q4
   by_cases h0 : wE=0
   rotate_left
   ·have e0 : (wE != 0)=true:=by simpa using h0
    have HF:=Z5 (HErr.out w3 13 (HTk.out (by rw [HOkk.out,NA h0];rfl)) (by decide) hF3)
    clear h0
    go_wp2_with fail
    exact HF.out
   subst h0
   have hxl:=HLk.out rfl
   have hrn : rn=nt:=by rw [<- HRw.out.len];exact hxl
   subst hrn
   cases hV
   ·have HF:=Z5 (HErr.out w3 13 (HTk.out (by rw [HOkk.out];simp)) (by decide) hF3)
    clear hxl
    go_wp2_with fail
    exact HF.out
   have hrw3:=HRw.out.ah hb3
   have ck:=hrw3.cell k hlt
   have Hxl:=Z5 hxl
   have HRw3:=Z5 hrw3
   obtain ⟨y,hy⟩ : ∃y,nth x k=y:=⟨_,rfl⟩
   rw [hy] at ck HOkk
   have hk1 : (k : Int)<rn:=by omega
   clear hy hxl hrw3
   by_cases hy1 : y=1
   rotate_left
   ·have e0 : (y != 1)=true:=by simpa using hy1
    have HF:=Z5 (HErr.out w3 13 (HTk.out (by rw [HOkk.out,NA hy1];simp)) (by decide) hF3)
    clear hy1
    go_wp2_with fail
    exact HF.out
   subst hy1
   have HZk:=Z5 (HZe.out w3 k hlt hF3)
   obtain ⟨vk,hvk⟩ : ∃vk,vc k=vk:=⟨_,rfl⟩
   obtain ⟨qv,hqv⟩ : ∃q,vk.length=q:=⟨_,rfl⟩
   have hck2:=λV a1 c1 a2 c2=>HCk.out V a1 c1 a2 c2 k ra rc x
   rw [hvk,hqv] at HZk hck2
   rw [hvk] at HOkk
   have HCk2:=Z5 hck2
   obtain ⟨c0,c1,c2,c3,c4,_,d1⟩:=HX.out w3 (RZ HF1.out.2 hbr3)
   clear hvk hqv hck2
   go_wp2_with fail
   refine HZk.out.mono ?_
   rintro e w4 ⟨a3,k3,a4,k4,rfl,hI3,hM3,hb4⟩
   have hn4:=an w4 (.cells #[.int .i64 P,.int .i64 M,.slice a3 nm k3,.int .i64 rn,.slice a4 qv k4] 27)
   have y4 : aN (w4.alloc (.cells #[.int .i64 P,.int .i64 M,.slice a3 nm k3,.int .i64 rn,.slice a4 qv k4] 27)) w4.heap.size [.int .i64 P,.int .i64 M,.slice a3 nm k3,.int .i64 rn,.slice a4 qv k4]:=R9 _ _ _ rfl
   have hI3':=hI3.ah hn4
   have hM3':=hM3.ah hn4
   clear c0 c1 c2 c3 c4 d1 hI3 hM3 ck
   go_upto_region 14 with fail
   obtain ⟨V3,hV3⟩ : ∃V3,w4.alloc (.cells #[.int .i64 P,.int .i64 M,.slice a3 nm k3,.int .i64 rn,.slice a4 qv k4] 27)=V3:=⟨_,rfl⟩
   rw [hV3] at hn4 y4 hI3' hM3' ⊢
   have hb34:=RZ hb4 hn4
   have hrV3:=HRw3.out.ah hb34
   have hbr4:=RZ hbr3 hb34
   obtain ⟨g3,hg3⟩ : ∃g,w4.heap.size=g:=⟨_,rfl⟩
   rw [hg3] at y4 ⊢
   obtain ⟨ab,nb,cb,hcT,hmT,_⟩:=HTr.out
   have hcT3:=aB (RZ hb3 hb34) hcT
   have hmT3:=hmT.ah (RZ hb3 hb34)
   have hxm : fB x<=rn:=by have h:=AT (x:=x);rw [Hxl.out] at h;exact h
   obtain ⟨wt,hwt⟩ : ∃wt,fB x=wt:=⟨_,rfl⟩
   rw [hwt] at hxm HOkk HVk1
   have w1' : IntKind.i64.wrap ((wt : Int) - 1)=(wt : Int) - 1:=Ns _ (by omega)
   have HW3 : Hid (∀V,SW V3 V->Calls prog 76 #[.slice ra rn rc] V λe w'=>e = .returned (.int .i64 (wt : Nat))/\SW V w'):=λV hV=>by rw [<- hwt];exact rN ra rn rc _ V (hrV3.ah hV) (by omega)
   have HC3:=Z5 (λV (hV : SW V3 V)=>HCk2.out V a3 k3 a4 k4 ((wt : Int) - 1) ab nb cb T (hI3'.ah hV) (hM3'.ah hV) (hrV3.ah hV) (hmT3.ah hV))
   obtain ⟨ce,hce⟩ : ∃ce,jU P M mod rn vk x ((wt : Int) - 1) T=ce:=⟨_,rfl⟩
   rw [hce] at HC3 HOkk
   have HS5 : Hid (∀V,SW V3 V->V.cell? ⟨g3,0,none⟩=some (.int .i64 P)/\V.cell? ⟨g3,1,none⟩=some (.int .i64 M)/\V.cell? ⟨g3,2,none⟩=some (.slice a3 nm k3)/\V.cell? ⟨g3,3,none⟩=some (.int .i64 rn)/\V.cell? ⟨g3,4,none⟩=some (.slice a4 qv k4)/\V.cell? ⟨w.heap.size+1,1,none⟩=some (.slice at' rn ct)/\V.cell? ⟨ablk at',aK at'+k,none⟩=some (.slice ab nb cb)/\SW V3 V):=λV hV=>by have y:=y4.ah hV;obtain ⟨_,_,_,_,_,_,d1⟩:=HX.out V (RZ (RZ HF1.out.2 hbr4) hV);exact ⟨y.cell 0 rfl,y.cell 1 rfl,y.cell 2 rfl,y.cell 3 rfl,y.cell 4 rfl,d1,aB hV hcT3,hV⟩
   have HV3:=Z5 (Np hb34 hbr4)
   have hsz4:=hbr4.size
   clear hV3 hg3 hI3' hM3' hrV3 hn4 hb4 y4 hcT hmT hcT3 hmT3 hwt hce hb34 hbr4
   obtain ⟨c0,c1,c2,c3,c4,d1,d2,_⟩:=HS5.out V3 (Nc _ _)
   have e0 : ((0 : Int) != 0)=false:=rfl
   go_cut [84] (λv wx=>v = .bool (ce != 0)/\SW V3 wx)
   case first =>
    go_region_held3 (λV=>V.cell? ⟨g3,0,none⟩=some (.int .i64 P)/\V.cell? ⟨g3,1,none⟩=some (.int .i64 M)/\V.cell? ⟨g3,2,none⟩=some (.slice a3 nm k3)/\V.cell? ⟨g3,3,none⟩=some (.int .i64 rn)/\V.cell? ⟨g3,4,none⟩=some (.slice a4 qv k4)/\V.cell? ⟨w.heap.size+1,1,none⟩=some (.slice at' rn ct)/\V.cell? ⟨ablk at',aK at'+k,none⟩=some (.slice ab nb cb)/\SW V3 V)
     ((refine HS5.out _ ?_;first | exact (Nc _ _).drew | assumption | (go_split_ands;first | assumption | exact RZ (by assumption) (by assumption))))
     (first
      | (go_at_call 76;((with_reducible refine (HW3.out _ (by go_split_ands;assumption)).mono ?_);rintro e w5 ⟨rfl,hb5⟩;have hB5 : SW V3 w5:=(by go_split_ands;exact RZ (by assumption) hb5)))
      | (go_at_call 82;((with_reducible refine (HC3.out _ (by go_split_ands;assumption)).mono ?_);rintro e w6 ⟨rfl,hb6⟩;have hB6 : SW V3 w6:=(by go_split_ands;exact RZ (by assumption) hb6))))
    all_goals (
     go_wp2_with fail
     go_meet
     exact ⟨rfl,by go_split_ands;assumption⟩)
   obtain ⟨rfl,hbV⟩:=hcut
   generalize wc=V5 at *
   have hbr5:=RZ HV3.out.2 hbV
   have hF5:=RZ HF1.out.1 hbr5
   clear c0 c1 c2 c3 c4 d1 d2
   by_cases hc0 : ce=0
   rotate_left
   ·have e2 : (ce != 0)=true:=by simpa using hc0
    have HF:=Z5 (HErr.out V5 13 (HTk.out (by rw [HOkk.out,NA hc0];simp)) (by decide) hF5)
    clear hc0
    go_wp2_with fail
    exact HF.out
   subst hc0
   have e2 : ((0 : Int) != 0)=false:=rfl
   have HLT1:=Z5 (HSk.out (by rw [HOkk.out];rfl))
   have HW5:=Z5 (HW3.out V5 hbV)
   go_wp2_with fail
   refine HW5.out.mono ?_
   rintro e w7 ⟨rfl,hb7⟩
   have hbr7:=RZ hbr5 hb7
   have hcn:=ba w7 (.int .i64 ((wt : Int) - 1)) 3
   have hown7:=bd Hown.out (RZ (RZ (RZ hb3 HV3.out.1) (RZ hbV hb7)) (an w7 (.cells #[.int .i64 ((wt : Int) - 1)] 3)))
   have hs7:=hbr7.size
   go_wp2_with (at_builtin;refine aO rfl _ _ 22 3 rfl (.int .i64 0) 8 underlying22 aU rfl U.heap.size a8 k c8 _ rfl hown7 ⟨w7.heap.size,0,none⟩ 1 (.int .i64 ((wt : Int) - 1)) rfl hcn rfl (by omega) (by unfold maxLen;omega) (by simp;omega) ?_;intro a9 c9 w9 hown9 hgr9 hap9)
   go_roundw
   case rel=>exact ⟨k+1,a9,c9,by omega,by go_num,rfl,by show World.ownsRow _ _ _ _ _ _ _;rw [HVk1.out,NM];exact hown9,Sa (RZ hbr7 (an w7 (.cells #[.int .i64 ((wt : Int) - 1)] 3))) hown7 hgr9 (Na _) (by simp;omega),HLT1.out⟩
   case measure=>simp [intOf] <;> omega
  ·obtain rfl : k=nt:=by omega
   have HF:=Z5 (HFin.out a8 c8 wr (by rw [HEl.out,Nd (by first | exact ⟨rfl,rfl,Hlt.out⟩ | exact ⟨trivial,trivial,Hlt.out⟩)]) (R6 Hown.out).1 (RZ HF1.out.1 hbr))
   go_wp2_with fail
   exact HF.out
theorem DZ {w : World} {b : Nat} {G : dn} (q : Nat) (x : Int) (hp : w.cell? ⟨q,0,none⟩=some (.pointer (some ⟨b,0,none⟩))) (h : ew w b G) :
  Calls prog 54 #[.int .i64 x,.pointer (some ⟨q,0,none⟩)] w λe w'=>e = .returned (.bool (!(decide (0<=x) && decide (x<G.q))))/\w=w':=by
 go_enter func54,ntmps54;go_wp2_with fail;refine (Mn x h).mono ?_;rintro e w' ⟨rfl,rfl⟩;obtain ⟨z,hz⟩ : ∃z,(decide (0<=x) && decide (x<G.q))=z:=⟨_,rfl⟩
 have Hz:=Z5 hz;rw [hz];clear hz;cases z
 ·go_wp2_with fail;go_ret;exact ⟨aZ (by rw [Hz.out];rfl),rfl⟩
 ·go_wp2_with fail;go_ret;exact ⟨aZ (by rw [Hz.out];rfl),rfl⟩
theorem zy (p : Int->Bool) (q : Nat) (a : OA) (n c : Nat) (l : Lz) (w : World) (hi : Ints w a n l) (hf : ∀k,k<n->Calls prog 54 #[.int .i64 (nth l k),.pointer (some ⟨q,0,none⟩)] w λe w'=>e = .returned (.bool (p (nth l k)))/\w=w') :
  Calls prog 111 #[.slice a n c,.func (.func 54) #[] #[.pointer (some ⟨q,0,none⟩)]] w λe w'=>∃z : Int,e = .returned (.int .i64 z)/\(0<=z ↔ l.any p=true)/\w=w':=by
 have hpl:=hi.pl;have hmax:=hi.max;have HF:=Z5 hf;have Hl:=Z5 hi.len;unfold maxLen at hmax;clear hf;go_enter func111,ntmps111;go_wp2_with fail;go_loop [8] (λiv=>∃k : Nat,k<=n/\iv = .int .i64 k/\Hid (∀j,j<k->p (nth l j)=false)) (λiv=>n - (intOf iv).toNat);case atStart=>exact ⟨0,Ni _,rfl,λj hj=>by omega⟩
 case round =>
  obtain ⟨k,hk,rfl,hno⟩:=hrel
  by_cases hlt : k<n
  ·have ck:=hi.cell k hlt
   have hfk:=HF.out k hlt
   obtain ⟨z,hz⟩ : ∃z,p (nth l k)=z:=⟨_,rfl⟩
   rw [hz] at hfk
   have Hk:=Z5 hfk
   cases z
   ·have Hn : Hid (∀j,j<k+1->p (nth l j)=false):=λj hj=>by
     by_cases e : j=k
     ·subst e;exact hz
     ·exact hno.out j (by omega)
    clear hz hfk hno
    go_wp2_with fail
    refine Hk.out.mono ?_
    rintro e w' ⟨rfl,rfl⟩
    go_wp2_with fail
    go_round
    case rel=>exact ⟨k+1,by omega,by go_num,Hn.out⟩
    case measure=>simp [intOf] <;> omega
   ·have Hy : Hid (l.any p=true):=by show _=_;rw [P0];exact ⟨nth l k,aH (by rw [Hl.out];exact hlt),hz⟩
    clear hz hfk hno
    go_wp2_with fail
    refine Hk.out.mono ?_
    rintro e w' ⟨rfl,rfl⟩
    go_wp2_with fail
    go_ret
    exact ⟨k,rfl,⟨λ_=>by first | exact Hy.out | exact List.any_eq_true.1 Hy.out,λ_=>PD _⟩,rfl⟩
  ·obtain rfl : k=n:=by omega
   have Hy : Hid (l.any p=false):=by show _=_;rw [Qe];intro x hx;obtain ⟨j,hj,rfl⟩:=List.mem_iff_getElem.1 hx;have:=hno.out j (by rw [<- Hl.out];exact hj);rw [aj hj] at this;rw [this];decide
   go_wp2_with fail
   go_ret
   exact ⟨-1,rfl,⟨λh=>absurd h (by omega),λh=>by have h2 : l.any p=true:=(by first | exact h | exact List.any_eq_true.2 h);rw [Hy.out] at h2;exact absurd h2 (by decide)⟩,rfl⟩
theorem uK (p : Int->Bool) (q : Nat) (a : OA) (n c : Nat) (l : Lz) (w : World) (hi : Ints w a n l) (hf : ∀k,k<n->Calls prog 54 #[.int .i64 (nth l k),.pointer (some ⟨q,0,none⟩)] w λe w'=>e = .returned (.bool (p (nth l k)))/\w=w') :
  Calls prog 53 #[.slice a n c,.func (.func 54) #[] #[.pointer (some ⟨q,0,none⟩)]] w λe w'=>e = .returned (.bool (l.any p))/\w=w':=by
 have Hc:=Z5 (zy p q a n c l w hi hf);clear hf;go_enter func53,ntmps53;go_wp2_with fail;refine Hc.out.mono ?_;rintro e w' ⟨z,rfl,hz,rfl⟩;by_cases h0 : 0<=z
 ·have Hz : Hid (l.any p=true):=hz.1 h0;have h0' : decide (0<=z)=true:=by simpa using h0
  clear hz h0;go_wp2_with fail;go_ret;exact ⟨aZ Hz.out.symm,rfl⟩
 ·have Hz : Hid (l.any p=false):=by
   show _=_;cases h : l.any p
   ·rfl
   ·exact absurd (hz.2 h) h0
  have h0' : decide (0<=z)=false:=by simpa using h0
  clear hz h0;go_wp2_with fail;go_ret;exact ⟨aZ Hz.out.symm,rfl⟩
def xQ (P M : Int) (mod : Lz) (N : Int) (L : ZZ) (i : Int) (y : Lz) : Int :=
 if kP P M mod N L i=0 then (if (y.length : Int) ≠ N then 4 else if dY (af P M.toNat mod).q y=false then 2 else pY P M mod N.toNat L i) else kP P M mod N L i
def Gv (P M : Int) (mod : Lz) (N : Int) (L : ZZ) (i : Int) (y : Lz) : Int :=
 if xQ P M mod N L i y=0 then repTo (af P M.toNat mod).ops (iw P M mod N.toNat L i) y (iX P M mod N.toNat L i) (iX P M mod N.toNat L i).length else 0
theorem yy {P M : Int} {mod : Lz} {N : Int} {L : ZZ} {i : Int} (h : kP P M mod N L i=0) : aF P M mod N L=0/\0<=i/\i<N:=by
 unfold kP at h;split at h
 ·rename_i hE;split at h
  ·cases h
  ·exact ⟨hE,by omega,by omega⟩
 ·rename_i hE;exact absurd h hE
theorem sM (P M : Int) (am : OA) (mn cm : Nat) (mod : Lz) (N : Int) (a : OA) (n c : Nat) (L : ZZ) (i : Int) (ay : OA) (ny cy : Nat) (y : Lz) (w : World) (hmod : Ints w am mn mod) (hi : br w a n L) (hy : Ints w ay ny y) :
  Calls prog 17 #[.agg #[.int .i64 P,.int .i64 M,.slice am mn cm,.int .i64 N,.slice a n c],.int .i64 i,.slice ay ny cy] w λe w'=>e = .returned (.tuple #[.int .i64 (Gv P M mod N L i y),.int .i64 (xQ P M mod N L i y)])/\SW w w':=by
 have HP : Hid (∀V,SW w V->Calls prog 47 #[.agg #[.int .i64 P,.int .i64 M,.slice am mn cm,.int .i64 N,.slice a n c],.int .i64 i] V λe w'=>e = .returned (.int .i64 (kP P M mod N L i))/\SW V w'):=λV hV=>o0 P M am mn cm mod N a n c L i V (hmod.ah hV) (hi.ah hV);have HH : Hid (kP P M mod N L i=0->∀V,SW w V->Calls prog 48 #[.agg #[.int .i64 P,.int .i64 M,.slice am mn cm,.int .i64 N,.slice a n c],.int .i64 i] V (oJ (pY P M mod N.toNat L i) (iX P M mod N.toNat L i) (qM P M mod N.toNat L i) V)):=λh V hV=>by
  obtain ⟨hE,h0,h1⟩:=yy h;obtain ⟨m,rfl,_⟩:=aM hE;obtain ⟨j,rfl⟩ : ∃j : Nat,i=j:=⟨i.toNat,by omega⟩
  rw [Nb];exact uE P M am mn cm mod m j a n c L V (hmod.ah hV) (hi.ah hV) hE (by omega)
 have HNw : Hid (kP P M mod N L i=0->∀V,SW w V->Calls prog 52 #[.agg #[.int .i64 P,.int .i64 M,.slice am mn cm]] V λe w'=>∃b,e = .returned (.tuple #[.pointer (some ⟨b,0,none⟩),.int .i64 0])/\ew w' b (af P M.toNat mod)/\SW V w'):=λh V hV=>by
  obtain ⟨hE,_,_⟩:=yy h;refine (ef P M am mn cm mod V (hmod.ah hV)).mono ?_;rintro e w' (⟨h1,_⟩ | ⟨_,b,h2,h3,_,h4⟩)
  ·rw [(aG hE).1] at h1;cases h1
  ·exact ⟨b,h2,h3.gf,h4⟩
 have HS : Hid (∀k,k<(iX P M mod N.toNat L i).length->0<=nth (iX P M mod N.toNat L i) k/\nth (iX P M mod N.toNat L i) k<N.toNat):=λk hk=>by have h:=aH hk;rw [iX] at h;exact AQ h
 have HC : Hid (∀k,k<(iX P M mod N.toNat L i).length->nth (qM P M mod N.toNat L i) k=(af P M.toNat mod).neg (nth (iw P M mod N.toNat L i) (nth (iX P M mod N.toNat L i) k).toNat)):=λk hk=>by rw [qM];rw [aj (by simpa using hk),NZ,aj hk]
 have HE : Hid (xQ P M mod N L i y=if kP P M mod N L i=0 then (if (ny : Int) ≠ N then 4 else if dY (af P M.toNat mod).q y=false then 2 else pY P M mod N.toNat L i) else kP P M mod N L i):=by show _=_;rw [xQ,hy.len]
 have HV : Hid (Gv P M mod N L i y=if xQ P M mod N L i y=0 then repTo (af P M.toNat mod).ops (iw P M mod N.toNat L i) y (iX P M mod N.toNat L i) (iX P M mod N.toNat L i).length else 0):=rfl;have HY : Hid (y.length=ny):=hy.len;have HEl : Hid (dY (af P M.toNat mod).q y=true->(af P M.toNat mod).Ec y):=λh=>pK h;have HI : Hid (Ints w ay ny y):=hy;generalize Gv P M mod N L i y=v at *;generalize xQ P M mod N L i y=er at *;generalize kP P M mod N L i=pe at *;generalize pY P M mod N.toNat L i=he at *;generalize qM P M mod N.toNat L i=C at *;generalize iX P M mod N.toNat L i=S at *;generalize iw P M mod N.toNat L i=d at *;generalize af P M.toNat mod=G at *;clear hmod hi hy;go_enter func17,ntmps17;go_upto_region 1 with fail;obtain ⟨W,hW⟩ : ∃W : World,W=w.alloc (.cells #[.int .i64 P,.int .i64 M,.slice am mn cm,.int .i64 N,.slice a n c] 27):=⟨_,rfl⟩
 rw [<- hW];have hbW : SW w W:=by rw [hW];exact an _ _
 have x0 : aN W w.heap.size [.int .i64 P,.int .i64 M,.slice am mn cm,.int .i64 N,.slice a n c]:=by rw [hW];exact R9 _ _ _ rfl
 have HX:=Z5 x0;have HbW:=Z5 hbW;have c0:=x0.cell 0 rfl;have c1:=x0.cell 1 rfl;have c2:=x0.cell 2 rfl;have c3:=x0.cell 3 rfl;have c4:=x0.cell 4 rfl;clear hW x0 hbW;go_wp2_with fail;refine (HP.out W HbW.out).mono ?_;rintro e w1 ⟨rfl,hb1⟩;have hF1:=RZ HbW.out hb1;clear c0 c1 c2 c3 c4;by_cases h0 : pe=0;rotate_left
 ·have d0 : (pe != 0)=true:=by simpa using h0
  have HR : Hid (er=pe):=by show _=_;rw [HE.out,Nf h0]
  have HR2 : Hid (v=0):=by show _=_;rw [HV.out,Nf (by rw [HR.out];exact h0)]
  clear h0 HH HNw;go_wp2_with fail;go_ret2;exact ⟨by rw [HR.out,HR2.out] <;> rfl,hF1⟩
 have d0 : (pe != 0)=false:=by simp [h0]
 have HR0 : Hid (er=if (ny : Int) ≠ N then 4 else if dY G.q y=false then 2 else he):=by show _=_;rw [HE.out,Nd h0]
 have HH1:=Z5 (HH.out h0);have HN1:=Z5 (HNw.out h0);have y1:=HX.out.ah hb1;have c0:=y1.cell 0 rfl;have c1:=y1.cell 1 rfl;have c2:=y1.cell 2 rfl;clear y1 h0 HH HNw HE HP;go_wp2_with fail;refine (HN1.out w1 hF1).mono ?_;rintro e w2 ⟨b,rfl,hG2,hb2⟩;have hF2:=RZ hF1 hb2;clear c0 c1 c2;have hb3:=an w2 (.cells #[.pointer (some ⟨b,0,none⟩)] 79);have hc3:=ba w2 (.pointer (some ⟨b,0,none⟩)) 79;have hF3:=RZ hF2 hb3;obtain ⟨U,hU⟩ : ∃U : World,U=w2.alloc (.cells #[.pointer (some ⟨b,0,none⟩)] 79):=⟨_,rfl⟩
 have hG3:=hG2.ah hb3;rw [<- hU] at hb3 hc3 hF3 hG3;have x3:=(HX.out.ah hb1).ah (RZ hb2 hb3);have c3:=x3.cell 3 rfl;have HCo:=Z5 (uK (λx=>!(decide (0<=x) && decide (x<G.q))) w2.heap.size ay ny cy y U (HI.out.ah hF3) λk hk=>DZ w2.heap.size (nth y k) hc3 hG3);rw [zl] at HCo;have hmf : ∀(fn : Fn) (first cap : Array Value) (w : World),(Instr.makeFunc fn first cap).run prog w = .ok (.func fn first cap) w:=λ_ _ _ _=>rfl;have HU:=Z5 hU;have HG3:=Z5 hG3;have Hc3:=Z5 hc3;have Hx3:=Z5 x3;clear x3 hG2 hG3;go_upto_region 7 with fail;rw [<- hU];clear hU;by_cases h1 : (ny : Int) ≠ N
 ·have HR : Hid (er=4):=by show _=_;rw [HR0.out,Nd h1]
  have HR2 : Hid (v=0):=by show _=_;rw [HV.out,Nf (by rw [HR.out];decide)]
  have d1 : ((ny : Int) != N)=true:=by simpa using h1
  clear h1;go_wp2_with fail;go_ret2;exact ⟨by rw [HR.out,HR2.out] <;> rfl,hF3⟩
 have HR1 : Hid (er=if dY G.q y=false then 2 else he):=by show _=_;rw [HR0.out,Nf h1]
 obtain rfl : (ny : Int)=N:=Classical.not_not.1 h1;have d1 : ((ny : Int) != ny)=false:=by simp
 clear h1;obtain ⟨z,hz⟩ : ∃z,dY G.q y=z:=⟨_,rfl⟩
 rw [hz] at HCo HR1 HEl;clear hz;cases z
 ·have HR : Hid (er=2):=by show _=_;rw [HR1.out];rfl
  have HR2 : Hid (v=0):=by show _=_;rw [HV.out,Nf (by rw [HR.out];decide)]
  go_wp2_with fail;refine HCo.out.mono ?_;rintro e w' ⟨rfl,rfl⟩;go_wp2_with fail;go_ret2;exact ⟨by rw [HR.out,HR2.out] <;> rfl,hF3⟩
 have HR : Hid (er=he):=by show _=_;rw [HR1.out];rfl
 have HYe : Hid (G.Ec y):=HEl.out rfl;have c0:=Hx3.out.cell 0 rfl;have c1:=Hx3.out.cell 1 rfl;have c2:=Hx3.out.cell 2 rfl;have c4:=Hx3.out.cell 4 rfl;go_wp2_with fail;refine HCo.out.mono ?_;rintro e w' ⟨rfl,rfl⟩;go_wp2_with fail;refine (HH1.out _ hF3).mono ?_;rintro e w4 ⟨hb4,⟨h1,rfl⟩ | ⟨h1,a2,k2,a3,k3,rfl,hI2,hI3⟩⟩
 ·have hF4:=RZ hF3 hb4;have H1:=Z5 h1;have HR2 : Hid (v=0):=by show _=_;rw [HV.out,Nf (by rw [HR.out];exact H1.out)]
  have d2 : (he != 0)=true:=by simpa using h1
  clear c0 c1 c2 c3 c4 h1;go_wp2_with fail;go_ret2;exact ⟨by rw [HR.out,HR2.out] <;> rfl,hF4⟩
 have hF4:=RZ hF3 hb4;have HR2 : Hid (v=repTo G.ops d y S S.length):=by show _=_;rw [HV.out,Nd (by rw [HR.out];exact h1)]
 have HR3 : Hid (er=0):=by show _=_;rw [HR.out];exact h1
 have hG4:=HG3.out.ah hb4;have hc4:=aB hb4 Hc3.out;have HI2:=Z5 hI2;have HI3:=Z5 hI3;have HI4:=Z5 (HI.out.ah hF4);have HG4:=Z5 hG4;have hmax2:=hI2.max;unfold maxLen at hmax2;have hp2:=hI2.pl;have hp3:=hI3.pl;have hpy:=(HI.out.ah hF4).pl;obtain ⟨q,hq⟩ : ∃q,S.length=q:=⟨_,rfl⟩
 rw [hq] at HI2 HI3 hmax2 hp2 hp3 HS HC HR2 ⊢;clear c0 c1 c2 c3 c4 hI2 hI3 hG4 hq h1;go_wp2_with fail;go_loopw [13,54] (λvv iv wr=>∃k : Nat,k<=q/\iv = .int .i64 k/\vv = .int .i64 (repTo G.ops d y S k)/\bf w4 wr) (λ_ iv _=>q - (intOf iv).toNat);case atStart=>exact ⟨0,Ni _,rfl,rfl,Sf _⟩
 case round =>
  obtain ⟨k,hk,rfl,rfl,hdr⟩:=hrel
  generalize wr=V at *
  by_cases hlt : k<q
  ·have hbV:=hdr.below
   have cS:=(HI2.out.ah hbV).cell k hlt
   have cC:=(HI3.out.ah hbV).cell k hlt
   obtain ⟨hs0,hs1⟩:=HS.out k hlt
   obtain ⟨j,hj⟩ : ∃j : Nat,nth S k=j:=⟨(nth S k).toNat,by omega⟩
   have hjn : j<ny:=by omega
   have Hk : Hid (repTo G.ops d y S (k+1)=G.add (repTo G.ops d y S k) (G.mul (nth C k) (nth y j))):=by show _=_;rw [HC.out k hlt,repTo,hj,Nb];rfl
   rw [hj] at cS
   have cY:=(HI4.out.ah hbV).cell j hjn
   have cP:=aB hbV hc4
   have hGV : ew V b G:=HG4.out.ah hbV
   have elC : G.El (nth C k):=by rw [HC.out k hlt];exact dn.zF hGV _
   have elY : G.El (nth y j):=HYe.out _ (aH (by rw [HY.out];exact hjn))
   have elV : G.El (repTo G.ops d y S k):=by
    cases k with
    | zero=>exact ⟨Q7 _,by have:=hGV.q2;show (0 : Int)<_;omega⟩
    | succ k=>exact dn.Jd hGV _ _
   generalize repTo G.ops d y S k=rv at *
   generalize nth C k=cv at *
   generalize nth y j=yv at *
   have elm : ∀x y,G.El (G.mul x y):=λx y=>SE hGV x y
   have HG : Hid (ew V.drew b G/\∀n,ew (V.drewN n) b G):=⟨hGV.ah (Nc _ _).drew,λn=>hGV.drewN n⟩
   have Hdr:=Z5 hdr
   clear hs0 hs1 hj hGV hbV
   go_wp2_with fail
   go_region_law ((first
    | (go_simp;go_at_call 57;((with_reducible refine (qF cv yv HG.out.1 elC elY).mono ?_);rintro e w5 ⟨m5,rfl,rfl⟩))
    | (go_simp;go_at_call 57;((with_reducible refine (qF cv yv (HG.out.2 _) elC elY).mono ?_);rintro e w5 ⟨m5,rfl,rfl⟩))
    | (go_simp;go_at_call 56;((with_reducible refine (LJ rv (G.mul cv yv) (HG.out.2 _) elV (elm _ _)).mono ?_);rintro e w6 ⟨m6,rfl,rfl⟩))))
   all_goals (
    go_wp2_with fail
    go_roundw
    case rel=>exact ⟨k+1,by omega,by go_num,by rw [Hk.out],Hdr.out.trans ⟨_,rfl⟩⟩
    case measure=>simp [intOf] <;> omega)
  ·obtain rfl : k=q:=by omega
   have hF:=RZ hF4 hdr.below
   go_wp2_with fail
   go_ret2
   exact ⟨by rw [HR2.out,HR3.out] <;> rfl,hF⟩
def dw : ZZ:=[[1,0,1,0],[0,1,1,1]]
def pA : ZZ:=[[1,1,1,0],[0,1,0,1],[1,1,1,0],[0,1,0,1]]
theorem Lh : kL 2 1 [] 4 dw 0=0:=by decide +kernel
theorem KU : kL 2 1 [] 4 dw 1=0:=by decide +kernel
theorem Km : iX 2 1 [] 4 dw 0=[1,2]:=by decide +kernel
theorem J9 : iX 2 1 [] 4 dw 1=[3]:=by decide +kernel
theorem KX : qM 2 1 [] 4 dw 0=[1,1]:=by decide +kernel
theorem Kg : qM 2 1 [] 4 dw 1=[1]:=by decide +kernel
theorem FA : eE 2 1 [] 4 dw=0:=by decide +kernel
theorem tb : cF 2 1 [] 4 dw=pA:=by decide +kernel
theorem Kb : sV 2 1 [] 4 dw=2:=by decide +kernel
theorem J8 : xQ 2 1 [] 4 dw 0 [0,1,0,1]=0:=by decide +kernel
theorem Ld : Gv 2 1 [] 4 dw 0 [0,1,0,1]=1:=by decide +kernel
theorem K5 : qL 6 3 2=0:=by decide +kernel
theorem Kc : qI 6 3 2=3:=by decide +kernel
theorem KY : Fh 7 1 [] 2 2 3=0:=by decide +kernel
theorem EO : bA 7 1 []=true:=by decide +kernel
theorem Fp : (af 7 (1 : Int).toNat []).q=7:=by decide +kernel
theorem Ks : (J6 7 1 [] 2 2 3).length=3:=by have F:=dM EO;obtain ⟨g,hG⟩:=uD EO;exact (L8 F hG (r:=2) (c:=2) (k:=3) (by decide) (by rw [Fp];decide) (by rw [Fp];decide) (by decide) (by decide)).2.2.1
def yw : List ZZ:=[[[1],[3],[]],[[0],[2]],[[1],[3],[]],[[0],[1]]]
theorem Ke : bW 2 1 [] 4 dw 0=[[0,1,0,1]]:=by decide +kernel
theorem KP : bW 2 1 [] 4 dw 1=[[1,0,1,1]]:=by decide +kernel
theorem K6 : bW 2 1 [] 4 dw 2=[[0,1,0,1]]:=by decide +kernel
theorem K4 : bW 2 1 [] 4 dw 3=[[1,1,1,0]]:=by decide +kernel
theorem FD : dU 2 1 [] 4 [[0,1,0,1]] [1,1,1,0] 2=0:=by decide +kernel
theorem Kd : dU 2 1 [] 4 [[1,0,1,1]] [0,1,0,1] 1=0:=by decide +kernel
theorem KL : dU 2 1 [] 4 [[1,1,1,0]] [0,1,0,1] 1=0:=by decide +kernel
theorem EY : tf 2 1 [] 4 dw 0=(0,[[1],[3],[]]):=by unfold tf;rw [show bW 2 1 [] 4 dw ((0 : Nat) : Int)=_ from Ke,tb];show jV 2 1 [] 4 [[0,1,0,1]] [1,1,1,0] 2=_;rw [jV,Nd FD,ES];decide +kernel
theorem Ft : tf 2 1 [] 4 dw 1=(0,[[0],[2]]):=by unfold tf;rw [show bW 2 1 [] 4 dw ((1 : Nat) : Int)=_ from KP,tb];show jV 2 1 [] 4 [[1,0,1,1]] [0,1,0,1] 1=_;rw [jV,Nd Kd,ES];decide +kernel
theorem Fo : tf 2 1 [] 4 dw 2=(0,[[1],[3],[]]):=by unfold tf;rw [show bW 2 1 [] 4 dw ((2 : Nat) : Int)=_ from K6,tb];show jV 2 1 [] 4 [[0,1,0,1]] [1,1,1,0] 2=_;rw [jV,Nd FD,ES];decide +kernel
theorem Fa : tf 2 1 [] 4 dw 3=(0,[[0],[1]]):=by unfold tf;rw [show bW 2 1 [] 4 dw ((3 : Nat) : Int)=_ from K4,tb];show jV 2 1 [] 4 [[1,1,1,0]] [0,1,0,1] 1=_;rw [jV,Nd KL,ES];decide +kernel
theorem Lo : mU 2 1 [] 4 dw=0:=by unfold mU;rw [Nd FA];show lcTo 2 1 [] 4 dw 4=0;simp [lcTo,EY,Ft,Fo,Fa]
theorem Lp : jT 2 1 [] 4 dw 4=yw:=by unfold jT;show [_,_,_,_]=_;simp only [EY,Ft,Fo,Fa];rfl
theorem Kn : oT 2 1 [] 4 dw pA yw=0:=by decide +kernel
theorem KS : pP pA 4=[2,1,2,1]:=by decide +kernel
section
open Go.RowKit
end
section
open Go.RowKit
end
section
open Go.RowKit
end
end Go.Proofs.YthglbncgemdcbaaGreat
