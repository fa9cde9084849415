import Derived.Test.YthglbncgemdcbaaGreatHE28
import Derived.Test.YthglbncgemdcbaaGreatHE29
namespace Go.Proofs.YthglbncgemdcbaaGreat
set_option linter.all false
set_option maxRecDepth 100000
set_option maxHeartbeats 8000000
open Go.RowKit Go.Proofs.Tryz
def dy (P M : Int) (mod : LI) (m : Nat) (L : Ll) : Ll:=(List.range m).map λi=>dX P M mod m L (i : Nat)
def iS (P M : Int) (mod : LI) (N : Int) (L : Ll) : Int :=
 if aG P M mod N L=0 then (if qE P M mod N.toNat L=0 then (if [] ∈ dy P M mod N.toNat L then 11 else 0) else qE P M mod N.toNat L) else aG P M mod N L
def uj (er : Int) (A : Ll) (w : World) (e : Ending) (w' : World) : Prop :=
 Mv w w'/\((er ≠ 0/\e = .returned (.tuple #[.slice none 0 0,.int .i64 er])) \/
  (er=0/\∃a c,e = .returned (.tuple #[.slice a A.length c,.int .i64 0])/\bC w' a A.length A/\(0<A.length->w.heap.size<=ablk a)))
theorem mK {P M : Int} {mod : LI} {m : Nat} {L : Ll} {k : Nat} (hk : k<m) : ai (dy P M mod m L) k=dX P M mod m L (k : Nat):=by rw [dy,aD (by simpa using hk)];simp
theorem my {P M : Int} {mod : LI} {m : Nat} {L : Ll} {i : Int} (hE : aG P M mod m L=0) (h : dX P M mod m L i ≠ []) : (dX P M mod m L i).length=m:=by
 rcases mA hE i with ⟨h1,_⟩ | ⟨h1,_,_⟩
 ·exact absurd h1 h
 ·exact ((lL hE).1 h1).1.1
theorem sF (P M : Int) (am : OA) (mn cm : Nat) (mod : LI) (N : Int) (a : OA) (n c : Nat) (L : Ll) (w : World) (hmod : Ints w am mn mod) (hi : bC w a n L) :
  Calls prog 60 #[.agg #[.int .i64 P,.int .i64 M,.slice am mn cm,.int .i64 N,.slice a n c]] w (uj (iS P M mod N L) (dy P M mod N.toNat L) w):=by
 have HK : Hid (∀V,Mv w V->Calls prog 88 #[.agg #[.int .i64 P,.int .i64 M,.slice am mn cm,.int .i64 N,.slice a n c]] V λe w'=>e = .returned (.int .i64 (aG P M mod N L))/\Mv V w'):=λV hV=>b8 P M am mn cm mod N a n c L V (hmod.af hV) (hi.af hV);have HD : Hid (aG P M mod N L=0->∀V,Mv w V->Calls prog 101 #[.agg #[.int .i64 P,.int .i64 M,.slice am mn cm,.int .i64 N,.slice a n c]] V (kC P M mod N.toNat L V)):=λhE V hV=>by obtain ⟨m,rfl,_⟩:=bf hE;rw [GW];exact pO P M am mn cm mod m a n c L V (hmod.af hV) (hi.af hV) hE
 have HN : Hid (aG P M mod N L=0->∃m : Nat,N=m/\m<=64):=λhE=>by obtain ⟨m,e,_,hm64,_⟩:=bf hE;exact ⟨m,e,hm64⟩
 have HH : Hid (aG P M mod N L=0->∀(k : Nat) (V : World) (aW : OA) (nW cW : Nat),k<N.toNat->bC V aW nW (mS P M mod N.toNat L)->Calls prog 102 #[.slice aW nW cW,.int .i64 k] V λe w'=>Mv V w'/\∃ar nr cr,e = .returned (.slice ar nr cr)/\jU w' ar nr (ai (dy P M mod N.toNat L) k)):=λhE k V aW nW cW hk hW=>by
  obtain ⟨m,rfl,_,hm64,_⟩:=bf hE;rw [GW] at hk hW ⊢;rw [mK hk];have h:=mF aW nW cW (mS P M mod m L) m k V hW (λr hr=>((lL hE).1 hr).1.1) hk hm64;have e : dX P M mod m L (k : Nat)=bstL m (k : Nat) (mS P M mod m L) nW:=by rw [dX,hW.len]
  rw [e];exact h
 have HA : Hid (aG P M mod N L=0->∀k,k<N.toNat->ai (dy P M mod N.toNat L) k ≠ []->(ai (dy P M mod N.toNat L) k).length=N.toNat):=λhE k hk h=>by obtain ⟨m,rfl,_⟩:=bf hE;rw [GW] at hk h ⊢;rw [mK hk] at h ⊢;exact my hE h
 have HAl : Hid ((dy P M mod N.toNat L).length=N.toNat):=by show _=_;rw [dy,H8,Jh]
 have HE : Hid (iS P M mod N L=if aG P M mod N L=0 then (if qE P M mod N.toNat L=0 then (if [] ∈ dy P M mod N.toNat L then 11 else 0) else qE P M mod N.toNat L) else aG P M mod N L):=rfl;unfold kC at HD;generalize iS P M mod N L=er at *;generalize dy P M mod N.toNat L=A at *;generalize aG P M mod N L=ce at *;generalize qE P M mod N.toNat L=de at *;generalize mS P M mod N.toNat L=Dw at *;clear hmod hi;go_enter func60,ntmps60;go_upto_region 1 with fail;obtain ⟨W,hW⟩ : ∃W : World,W=w.alloc (.cells #[.int .i64 P,.int .i64 M,.slice am mn cm,.int .i64 N,.slice a n c] 27):=⟨_,rfl⟩
 rw [<- hW];have hbW : Mv w W:=by rw [hW];exact an _ _
 have x0 : aO W w.heap.size [.int .i64 P,.int .i64 M,.slice am mn cm,.int .i64 N,.slice a n c]:=by rw [hW];exact LZ _ _ _ rfl
 have HX:=Z5 x0;have HbW:=Z5 hbW;have c0:=x0.cell 0 rfl;have c1:=x0.cell 1 rfl;have c2:=x0.cell 2 rfl;have c3:=x0.cell 3 rfl;have c4:=x0.cell 4 rfl;clear hW x0 hbW;go_wp2_with fail;refine (HK.out W HbW.out).mono ?_;rintro e w1 ⟨rfl,hb1⟩;have hF1:=LY HbW.out hb1;clear c0 c1 c2 c3 c4;by_cases h0 : ce=0;rotate_left
 ·have d0 : (ce != 0)=true:=by simpa using h0
  have HR : Hid (er=ce):=by show _=_;rw [HE.out,GU h0]
  have H0:=Z5 h0;clear h0 HD HH HA HN;go_wp2_with fail;go_ret2;exact ⟨hF1,.inl ⟨by rw [HR.out];exact H0.out,by rw [HR.out] <;> rfl⟩⟩
 have d0 : (ce != 0)=false:=by simp [h0]
 have HR0 : Hid (er=if de=0 then (if [] ∈ A then 11 else 0) else de):=by show _=_;rw [HE.out,GV h0]
 have HD1:=Z5 (HD.out h0);have HH1:=Z5 (HH.out h0);have HA1:=Z5 (HA.out h0);obtain ⟨m,rfl,hm64⟩:=HN.out h0;rw [GW] at HH1 HA1 HAl;have y1:=HX.out.af hb1;have c0:=y1.cell 0 rfl;have c1:=y1.cell 1 rfl;have c2:=y1.cell 2 rfl;have c3:=y1.cell 3 rfl;have c4:=y1.cell 4 rfl;clear y1 h0 HD HH HA HN HE HK;go_wp2_with fail;refine (HD1.out w1 hF1).mono ?_;rintro e w2 ⟨hb2,⟨h1,rfl⟩ | ⟨h1,aW,nW,cW,rfl,hM⟩⟩
 ·have hF2:=LY hF1 hb2;have d1 : (de != 0)=true:=by simpa using h1
  have HR : Hid (er=de):=by show _=_;rw [HR0.out,GU h1]
  have H1:=Z5 h1;clear c0 c1 c2 c3 c4 h1;go_wp2_with fail;go_ret2;exact ⟨hF2,.inl ⟨by rw [HR.out];exact H1.out,by rw [HR.out] <;> rfl⟩⟩
 have hF2:=LY hF1 hb2;have HR : Hid (er=if [] ∈ A then 11 else 0):=by show _=_;rw [HR0.out,GV h1]
 have HM:=Z5 hM;have x2:=(HX.out.af hb1).af hb2;clear c0 c1 c2 c3 c4 h1 hM;have c3:=x2.cell 3 rfl;have heq:=λ(w : World) (a : OA) (l c : Nat)=>Go.run_eql_slice_nil (P:=prog) w 22 3 a l c underlying22;clear x2;go_wp2_with fail;go_loopw [7,25] (λsv iv wr=>∃(k : Nat) (a1 : OA) (c1 : Nat),k<=m/\iv = .int .i64 k/\sv = .slice a1 k c1/\(∃R,aP wr w2.heap.size a1 k c1 R (A.take k))/\Mv w2 wr/\Hid (∀j,j<k->ai A j ≠ [])) (λ_ iv _=>m - (intOf iv).toNat);case atStart=>exact ⟨0,none,0,G0 _,rfl,rfl,⟨[],by simpa using Mr w2 w2.heap.size⟩,GS _ _,λj hj=>by omega⟩
 case round =>
  obtain ⟨k,a1,c1,hk,rfl,rfl,⟨R,hO⟩,hbr,hne⟩:=hrel
  generalize wr=V at *
  by_cases hlt : k<m
  ·have Hh:=Z5 (HH1.out k V aW nW cW hlt (HM.out.af hbr))
   have hkA : k<A.length:=by rw [HAl.out];exact hlt
   have Hmem : Hid (ai A k ∈ A):=by show _ ∈ _;rw [aD hkA];exact Iw hkA
   have HxL:=Z5 (HA1.out k hlt)
   have Htk : Hid (A.take (k+1)=A.take k ++ [ai A k]):=by show _=_;rw [Hj hkA,aD hkA]
   have Hne1 : Hid (ai A k ≠ []->∀j,j<k+1->ai A j ≠ []):=λh j hj=>by
    by_cases e : j=k
    ·subst e;exact h
    ·exact hne.out j (by omega)
   obtain ⟨x,hx⟩ : ∃x,ai A k=x:=⟨_,rfl⟩
   rw [hx] at Hh Hmem HxL Htk Hne1
   have hsz:=hbr.size
   have hF3:=LY hF2 hbr
   clear hx hkA hne
   go_wp2_with fail
   refine Hh.out.mono ?_
   rintro e w3 ⟨hb3,ar,nr,cr,rfl,hxq⟩
   have hF4:=LY hF3 hb3
   by_cases h0 : x=[]
   ·have hin : ar.isNone=true:=by rw [hxq.2];exact Ig h0
    have HR2 : Hid (er=11):=by show _=_;rw [HR.out,GV (by rw [<- h0];exact Hmem.out)]
    clear h0 hxq hO
    go_wp2_with fail
    go_ret2
    exact ⟨hF4,.inl ⟨by rw [HR2.out];decide,by rw [HR2.out] <;> rfl⟩⟩
   have hin : ar.isNone=false:=by rw [hxq.2];exact Ic h0
   have hnx : nr=m:=by rw [<- hxq.1.len];exact HxL.out h0
   have hxq1 : Ints w3 ar m x:=by rw [<- hnx];exact hxq.1
   have Hcl:=Z5 (ch ar m cr x (w:=w3) hxq1 (by omega))
   have Hn2:=Z5 (Hne1.out h0)
   have hO3:=hO.af hb3
   clear h0 hxq hxq1 hO
   go_wp2_with fail
   refine Hcl.out.mono ?_
   rintro e w4 ⟨a3,c3',rfl,hown3,hb4⟩
   have hbn:=an w4 (.cells #[.slice a3 x.length c3'] 22)
   have hO4:=hO3.af (LY hb4 hbn)
   have hb34:=LY hb3 hb4
   have hs4 : w2.heap.size<=(w4.alloc (.cells #[.slice a3 x.length c3'] 22)).heap.size:=by have h1:=hb34.size;simp;omega
   have Hown3:=Z5 hown3
   clear hown3 Hcl Hh
   go_wp2_with (at_builtin;refine aU rfl _ _ 25 22 rfl (.slice none 0 0) 24 underlying25 ew rfl w2.heap.size a1 k c1 _ rfl hO4.own ⟨w4.heap.size,0,none⟩ 1 (.slice a3 x.length c3') rfl (bm w4 _ _) rfl (by omega) (by unfold maxLen;omega) hs4 ?_;intro a5 c5 w5 hown5 hgr5 hap5)
   go_roundw
   case rel =>
    have hown4 : (w4.alloc (.cells #[.slice a3 x.length c3'] 22)).ownsRow w2.heap.size 3 1 (.slice a3 x.length c3') x.length (x.map (Value.int .i64)) :=
     bd (bj Hown3.out (an _ _)) (H7 hsz hb3.size)
    have hra : a3 ≠ none->¬ bI a1 R (ablk a3):=λh0 hI=>by have h1:=(aS Hown3.out h0).1;have h2:=(hO3.lt _ hI).2;omega
    have hP:=Mi hO4 hown4 hra hown5 hgr5 hap5
    have hb5 : Mv w2 w5:=L3 (LY hbr (LY hb34 hbn)) hO4.own hgr5 (GQ _) hs4
    exact ⟨k+1,a5,c5,by omega,by go_num,rfl,⟨_,by rw [Htk.out];exact hP⟩,hb5,Hn2.out⟩
   case measure=>simp [intOf] <;> omega
  ·obtain rfl : k=m:=by omega
   rw [H6 (by rw [HAl.out];exact GQ _)] at hO
   have HR2 : Hid (er=0):=by show _=_;rw [HR.out,GU];intro h;obtain ⟨j,hj,hj2⟩:=kr h;exact hne.out j (by rw [<- HAl.out];exact hj) hj2
   have hF:=LY hF2 hbr
   have HO:=Z5 hO.jX
   have HO2 : Hid (0<k->w.heap.size<=ablk a1):=λh0=>H7 hF2.size (dP hO.own h0).1
   clear hO
   go_wp2_with fail
   go_ret2
   exact ⟨hF,.inr ⟨HR2.out,a1,c1,by rw [HAl.out] <;> rfl,by rw [HAl.out];exact HO.out,by rw [HAl.out];exact HO2.out⟩⟩
def Ff (A : Ll) (m : Nat) : Nat->Int
 | 0=>0
 | k+1=>max (Ff A m k) ((bH (ai A k) m k).length : Int)
def DI (P M : Int) (mod : LI) (N : Int) (L : Ll) : Int:=if iS P M mod N L=0 then Ff (dy P M mod N.toNat L) N.toNat N.toNat else 0
theorem ql (P M : Int) (am : OA) (mn cm : Nat) (mod : LI) (N : Int) (a : OA) (n c : Nat) (L : Ll) (w : World) (hmod : Ints w am mn mod) (hi : bC w a n L) :
  Calls prog 20 #[.agg #[.int .i64 P,.int .i64 M,.slice am mn cm,.int .i64 N,.slice a n c]] w λe w'=>e = .returned (.tuple #[.int .i64 (DI P M mod N L),.int .i64 (iS P M mod N L)])/\Mv w w':=by
 have HK : Hid (∀V,Mv w V->Calls prog 60 #[.agg #[.int .i64 P,.int .i64 M,.slice am mn cm,.int .i64 N,.slice a n c]] V (uj (iS P M mod N L) (dy P M mod N.toNat L) V)):=λV hV=>sF P M am mn cm mod N a n c L V (hmod.af hV) (hi.af hV);have HV : Hid (DI P M mod N L=if iS P M mod N L=0 then Ff (dy P M mod N.toNat L) N.toNat N.toNat else 0):=rfl;have HL : Hid (iS P M mod N L=0->∃m : Nat,N=m/\m<=64/\(dy P M mod N.toNat L).length=m/\∀k,k<m->(ai (dy P M mod N.toNat L) k).length=m):=λh=>by
  have hE : aG P M mod N L=0:=by
   unfold iS at h;split at h
   ·assumption
   ·rename_i hE;exact absurd h hE
  obtain ⟨m,rfl,_,hm64,_⟩:=bf hE;rw [iS,GV hE,GW] at h;rw [GW];have hl : (dy P M mod m L).length=m:=by rw [dy,H8,Jh]
  refine ⟨m,rfl,hm64,hl,λk hk=>?_⟩;have hmem : ai (dy P M mod m L) k ∈ dy P M mod m L:=by rw [aD (by rw [hl];exact hk)];exact Iw _
  split at h
  ·split at h
   ·cases h
   ·rename_i h2;rw [mK hk] at hmem ⊢;exact my hE λe=>h2 (by rw [<- e];exact hmem)
  ·rename_i h1;exact absurd h h1
 generalize DI P M mod N L=v at *;generalize iS P M mod N L=er at *;generalize dy P M mod N.toNat L=A at *;clear hmod hi;go_enter func20,ntmps20;go_upto_region 1 with fail;obtain ⟨W,hW⟩ : ∃W : World,W=w.alloc (.cells #[.int .i64 P,.int .i64 M,.slice am mn cm,.int .i64 N,.slice a n c] 27):=⟨_,rfl⟩
 rw [<- hW];have hbW : Mv w W:=by rw [hW];exact an _ _
 have x0 : aO W w.heap.size [.int .i64 P,.int .i64 M,.slice am mn cm,.int .i64 N,.slice a n c]:=by rw [hW];exact LZ _ _ _ rfl
 have HbW:=Z5 hbW;have c0:=x0.cell 0 rfl;have c1:=x0.cell 1 rfl;have c2:=x0.cell 2 rfl;have c3:=x0.cell 3 rfl;have c4:=x0.cell 4 rfl;clear hW x0 hbW;go_wp2_with fail;refine (HK.out W HbW.out).mono ?_;rintro e w1 ⟨hb1,⟨h1,rfl⟩ | ⟨h1,aA,cA,rfl,hM,_⟩⟩
 ·have hF1:=LY HbW.out hb1;have d1 : (er != 0)=true:=by simpa using h1
  have HR : Hid (v=0):=by show _=_;rw [HV.out,GU h1]
  clear c0 c1 c2 c3 c4 h1 HL;go_wp2_with fail;go_ret2;exact ⟨by rw [HR.out] <;> rfl,hF1⟩
 have hF1:=LY HbW.out hb1;have HR : Hid (v=Ff A N.toNat N.toNat):=by show _=_;rw [HV.out,GV h1]
 have H1 : Hid (er=0):=h1;obtain ⟨m,rfl,hm64,hAl,hAk⟩:=HL.out h1;rw [GW] at HR;rw [hAl] at hM;have HM:=Z5 hM;have HAk:=Z5 hAk;have hplA:=hM.pl;rw [hAl];clear c0 c1 c2 c3 c4 h1 hM hAk HL HV HK hAl;go_wp2_with fail;go_loopw [6,19] (λsv iv wr=>∃k : Nat,k<=m/\iv = .int .i64 k/\sv = .int .i64 (Ff A m k)/\Mv w1 wr) (λ_ iv _=>m - (intOf iv).toNat);case atStart=>exact ⟨0,G0 _,rfl,rfl,GS _ _⟩
 case round =>
  obtain ⟨k,hk,rfl,rfl,hbr⟩:=hrel
  generalize wr=V at *
  by_cases hlt : k<m
  ·obtain ⟨ra,rn,rc,hcell,hrow⟩:=(HM.out.af hbr).cell k hlt
   have hrn : rn=m:=by rw [<- hrow.len];exact HAk.out k hlt
   subst hrn
   have HS:=Z5 (gj ra rn rc (ai A k) k V hrow (by omega))
   have Hm : Hid (Ff A rn (k+1)=max (Ff A rn k) ((bH (ai A k) rn k).length : Int)):=rfl
   generalize bH (ai A k) rn k=S at *
   generalize Ff A rn k=y at *
   clear hrow
   go_wp2_with fail
   refine HS.out.mono ?_
   rintro e w4 ⟨a4,k4,rfl,hown4,hb4⟩
   have hb5:=LY hbr hb4
   clear hown4
   go_wp2_with fail
   go_roundw
   case rel=>exact ⟨k+1,by omega,by go_num,by rw [Hm.out] <;> exact congrArg _ (by split <;> omega),hb5⟩
   case measure=>simp [intOf] <;> omega
  ·obtain rfl : k=m:=by omega
   have hF:=LY hF1 hbr
   go_wp2_with fail
   go_ret2
   exact ⟨by rw [HR.out,H1.out] <;> rfl,hF⟩
theorem xW {P M : Int} {mod : LI} {m : Nat} {L : Ll} (hE : aG P M mod m L=0) (i : Nat) :
  dk P M mod m [ez m (i : Int)]=0/\aG P M mod m (bL (ah P M.toNat mod) [ez m (i : Int)] m)=0 /\
  bz (ah P M.toNat mod).ops m (L ++ bL (ah P M.toNat mod) [ez m (i : Int)] m)=bz (ah P M.toNat mod).ops m (L ++ [ez m (i : Int)]) /\
  aG P M mod m (bz (ah P M.toNat mod).ops m (L ++ [ez m (i : Int)]))=0:=by
 obtain ⟨N',e,hm1,hm64,F,hR⟩:=bf hE;obtain rfl : m=N':=by omega
 have hU : bG (ah P M.toNat mod).El m [ez m (i : Int)]:=λr hr=>by rw [List.mem_singleton.1 hr];exact C3 F m i
 have hB:=(aQ hE).1;have hl:=ko hE;exact ⟨j8 hB (by omega) (by simp) hU,sO hB hU hm1 hm64 (by simp),ER F hR hU,sO hB (kH hR hU) hm1 hm64 (by simp;omega)⟩
theorem qb (P M : Int) (am : OA) (mn cm : Nat) (mod : LI) (m : Nat) (a : OA) (n c : Nat) (L : Ll) (i : Nat) (w : World) (hmod : Ints w am mn mod) (hi : bC w a n L) (hE : aG P M mod m L=0) (him : i<m) :
  Calls prog 74 #[.agg #[.int .i64 P,.int .i64 M,.slice am mn cm,.int .i64 m,.slice a n c],.int .i64 i] w λe w' =>
   ∃a1 c1 a2 c2,e = .returned (.tuple #[.agg #[.int .i64 P,.int .i64 M,.slice a1 mod.length c1,.int .i64 m,.slice a2 (fb P M mod m L i).length c2],.int .i64 0])/\Ints w' a1 mod.length mod/\bC w' a2 (fb P M mod m L i).length (fb P M mod m L i)/\Mv w w':=by
 obtain ⟨f1,f2,f3,f4⟩:=xW hE i;have hm64:=(aQ hE).2.2.1;have hm1:=(aQ hE).2.1;have hmn : mn<=8:=by have:=kQ (aQ hE).1;rw [<- hmod.len];exact this
 have hml : mod.length<=8:=kQ (aQ hE).1;have HNew : Hid (∀V a1 c1,Mv w V->bC V a1 1 [ez m (i : Int)]->Calls prog 68 #[.agg #[.int .i64 P,.int .i64 M,.slice am mn cm],.agg #[.int .i64 m,.slice a1 1 c1]] V λe w'=>∃a1 c1 a2 c2,e = .returned (.tuple #[.agg #[.int .i64 P,.int .i64 M,.slice a1 mod.length c1,.int .i64 m,.slice a2 (bL (ah P M.toNat mod) [ez m (i : Int)] m).length c2],.int .i64 0]) /\
   Ints w' a1 mod.length mod/\bC w' a2 (bL (ah P M.toNat mod) [ez m (i : Int)] m).length (bL (ah P M.toNat mod) [ez m (i : Int)] m)/\Mv V w'):=λV a1 c1 hV h1=>by refine (nP P M am mn cm mod m a1 1 c1 _ V (hmod.af hV) h1 f1 (by omega) (by omega) (by omega)).mono ?_;rintro e w' ⟨a2,c2,a3,c3,rfl,h2,h3,h4⟩;exact ⟨a2,c2,a3,c3,rfl,h2.ints,h3.jX,h4⟩
 have HSum : Hid (∀V a2 c2 a3 c3,Mv w V->Ints V a2 mod.length mod->bC V a3 (bL (ah P M.toNat mod) [ez m (i : Int)] m).length (bL (ah P M.toNat mod) [ez m (i : Int)] m) ->
   Calls prog 126 #[.agg #[.int .i64 P,.int .i64 M,.slice am mn cm,.int .i64 m,.slice a n c],.agg #[.int .i64 P,.int .i64 M,.slice a2 mod.length c2,.int .i64 m,.slice a3 (bL (ah P M.toNat mod) [ez m (i : Int)] m).length c3]] V λe w' =>
   ∃a1 c1 a2 c2,e = .returned (.tuple #[.agg #[.int .i64 P,.int .i64 M,.slice a1 mod.length c1,.int .i64 m,.slice a2 (bz (ah P M.toNat mod).ops m (L ++ [ez m (i : Int)])).length c2],.int .i64 0]) /\
   Ints w' a1 mod.length mod/\bC w' a2 (bz (ah P M.toNat mod).ops m (L ++ [ez m (i : Int)])).length (bz (ah P M.toNat mod).ops m (L ++ [ez m (i : Int)]))/\Mv V w'):=λV a2 c2 a3 c3 hV h1 h2=>by have h:=u2 P M am mn cm mod m a n c L a2 mod.length c2 a3 _ c3 _ V (hmod.af hV) (hi.af hV) h1 h2 hE f2 (by omega);rw [f3] at h;refine h.mono ?_;rintro e w' ⟨a4,c4,a5,c5,rfl,h2,h3,h4⟩;exact ⟨a4,c4,a5,c5,rfl,h2.ints,h3.jX,h4⟩
 have HDu : Hid (∀V a2 c2 a3 c3,Ints V a2 mod.length mod->bC V a3 (bz (ah P M.toNat mod).ops m (L ++ [ez m (i : Int)])).length (bz (ah P M.toNat mod).ops m (L ++ [ez m (i : Int)])) ->
   Calls prog 80 #[.agg #[.int .i64 P,.int .i64 M,.slice a2 mod.length c2,.int .i64 m,.slice a3 (bz (ah P M.toNat mod).ops m (L ++ [ez m (i : Int)])).length c3]] V λe w' =>
   ∃a1 c1 a2 c2,e = .returned (.tuple #[.agg #[.int .i64 P,.int .i64 M,.slice a1 mod.length c1,.int .i64 m,.slice a2 (fb P M mod m L i).length c2],.int .i64 0]) /\
   bA V.heap.size w' a1 mod.length mod/\bQ V.heap.size w' a2 (fb P M mod m L i).length (fb P M mod m L i)/\Mv V w'):=λV a2 c2 a3 c3 h1 h2 =>
  qe P M a2 mod.length c2 mod m a3 _ c3 _ V h1 h2 f4 (by omega)
 have hux : (List.replicate m (0 : Int)).set i 1=ez m i:=by rw [ez,GW]
 have Hux:=Z5 hux;obtain ⟨u,hu⟩ : ∃u,ez m (i : Int)=u:=⟨_,rfl⟩
 have Hul : Hid (u.length=m):=by show _=_;rw [<- hu,<- hux];simp
 rw [hu] at HNew Hux;clear f1 f2 f3 f4 hmod hi hE hux;rw [hu] at HSum HDu;generalize bL (ah P M.toNat mod) [u] m=U1 at *;generalize bz (ah P M.toNat mod).ops m (L ++ [u])=U2 at *;generalize fb P M mod m L i=U3 at *;obtain ⟨nm,hnm⟩ : ∃nm,mod.length=nm:=⟨_,rfl⟩
 obtain ⟨q1,hq1⟩ : ∃q,U1.length=q:=⟨_,rfl⟩
 obtain ⟨q2,hq2⟩ : ∃q,U2.length=q:=⟨_,rfl⟩
 obtain ⟨q3,hq3⟩ : ∃q,U3.length=q:=⟨_,rfl⟩
 rw [hnm,hq1] at HNew HSum;rw [hq2] at HSum;rw [hnm,hq2,hq3] at HDu;rw [hnm,hq3];clear hu hnm hq1 hq2 hq3 hml;go_enter func74,ntmps74;go_upto_region 1 with fail;obtain ⟨W,hW⟩ : ∃W : World,W=(w.alloc (.cells #[.int .i64 P,.int .i64 M,.slice am mn cm,.int .i64 m,.slice a n c] 27)).alloc (.cells #[.int .i64 0,.int .i64 0,.slice none 0 0,.int .i64 0,.slice none 0 0] 27):=⟨_,rfl⟩
 rw [<- hW];have hbW : Mv w W:=by rw [hW];exact du _ _ _
 have hsW : W.heap.size=w.heap.size+2:=by rw [hW];simp
 have x0 : aO W w.heap.size [.int .i64 P,.int .i64 M,.slice am mn cm,.int .i64 m,.slice a n c]:=by rw [hW];exact (LZ _ _ _ rfl).alloc _
 have z0 : aO W (w.heap.size+1) [.int .i64 0,.int .i64 0,.slice none 0 0,.int .i64 0,.slice none 0 0]:=by rw [hW];exact LZ _ _ _ (by simp)
 clear hW;have HX : Hid (∀V,Mv W V->V.cell? ⟨w.heap.size,0,none⟩=some (.int .i64 P)/\V.cell? ⟨w.heap.size,1,none⟩=some (.int .i64 M)/\V.cell? ⟨w.heap.size,2,none⟩=some (.slice am mn cm)/\V.cell? ⟨w.heap.size,3,none⟩=some (.int .i64 m)/\V.cell? ⟨w.heap.size,4,none⟩=some (.slice a n c)):=λV hV=>by have x1:=x0.af hV;exact ⟨x1.cell 0 rfl,x1.cell 1 rfl,x1.cell 2 rfl,x1.cell 3 rfl,x1.cell 4 rfl⟩
 have HZ:=Z5 z0;have HbW:=Z5 hbW;have HsW:=Z5 hsW;clear x0 z0 hbW hsW;obtain ⟨c0,c1,c2,c3,c4⟩:=HX.out W (GS _ _);have hm64' : m<=64:=by omega
 go_upto_region 2 with (at_make;refine bP rfl _ _ 22 3 rfl (.int .i64 0) 8 underlying22 bg rfl m rfl rfl (by omega) (by unfold maxLen;omega) ?_;intro a5 w5 hown hbel hge hlt5)
 clear c0 c1 c2 c3 c4;rw [<- Jn] at hown;obtain ⟨hints,hmine⟩:=L0 hown;have hpl5:=hints.pl;have cz:=hints.cell i him;have fz:=(hmine (by omega)).2 i him;have hB:=(hmine (by omega)).1;have him1 : (i : Int)<m:=by omega
 have hset:=bt hown i him (.int .i64 1);rw [<- Im,Hux.out] at hset;have hb5 : Mv W (w5.setCell ⟨ablk a5,aL a5+i,none⟩ (.int .i64 1)):=hbel.setCell hB _;have HI5:=Z5 (L0 hset).1;clear hown hints hmine hset hge hlt5;go_upto_region 3 with fail;obtain ⟨X,hX⟩ : ∃X,w5.setCell ⟨ablk a5,aL a5+i,none⟩ (.int .i64 1)=X:=⟨_,rfl⟩
 rw [hX] at hb5 HI5 ⊢;clear cz fz hB hX hbel;obtain ⟨c0,c1,c2,c3,c4⟩:=HX.out X hb5;obtain ⟨Y,hY⟩ : ∃Y : World,Y=X.alloc (.cells #[.slice a5 m m] 22):=⟨_,rfl⟩
 have hbY : Mv X Y:=by rw [hY];exact an _ _
 have hM1 : bC Y (some ⟨X.heap.size,0,none⟩) 1 [u]:=by
  refine ⟨rfl,λ_=>rfl,by unfold maxLen;omega,λk hk=>?_⟩;obtain rfl : k=0:=by omega
  refine ⟨a5,m,m,?_,HI5.out.af hbY⟩;rw [hY];exact aE _ _ _ rfl 0
 have hF5:=LY HbW.out (LY hb5 hbY);have HC:=Z5 (HNew.out Y (some ⟨X.heap.size,0,none⟩) 1 hF5 hM1);have HY:=Z5 (Hi hY hbY);clear hY hbY hM1;go_wp2_with fail;rw [<- HY.out.1];refine HC.out.mono ?_;rintro e w6 ⟨a6,c6,a7,c7,rfl,hI6,hM6,hb6⟩;have hb16:=LY (LY hb5 HY.out.2) hb6;have hn6:=an w6 (.cells #[.int .i64 P,.int .i64 M,.slice a6 nm c6,.int .i64 m,.slice a7 q1 c7] 27);have HB6 : Hid (∀V,Below (w6.alloc (.cells #[.int .i64 P,.int .i64 M,.slice a6 nm c6,.int .i64 m,.slice a7 q1 c7] 27)).heap.size (w6.alloc (.cells #[.int .i64 P,.int .i64 M,.slice a6 nm c6,.int .i64 m,.slice a7 q1 c7] 27)) V->V.cell? ⟨w6.heap.size,0,none⟩=some (.int .i64 P)/\V.cell? ⟨w6.heap.size,1,none⟩=some (.int .i64 M)/\V.cell? ⟨w6.heap.size,2,none⟩=some (.slice a6 nm c6)/\V.cell? ⟨w6.heap.size,3,none⟩=some (.int .i64 m)/\V.cell? ⟨w6.heap.size,4,none⟩=some (.slice a7 q1 c7)):=λV hV=>by have y:=(LZ w6 [.int .i64 P,.int .i64 M,.slice a6 nm c6,.int .i64 m,.slice a7 q1 c7] 27 rfl).af hV;exact ⟨y.cell 0 rfl,y.cell 1 rfl,y.cell 2 rfl,y.cell 3 rfl,y.cell 4 rfl⟩
 have hF6:=LY HbW.out (LY hb16 hn6);have HC2:=Z5 (HSum.out _ a6 c6 a7 c7 hF6 (hI6.af hn6) (hM6.af hn6));clear c0 c1 c2 c3 c4 HC hI6 hM6;go_upto_region 6 with fail;obtain ⟨V6,hV6⟩ : ∃V6,w6.alloc (.cells #[.int .i64 P,.int .i64 M,.slice a6 nm c6,.int .i64 m,.slice a7 q1 c7] 27)=V6:=⟨_,rfl⟩
 rw [hV6] at HB6 HC2 hn6 hF6 ⊢;have hb17:=LY hb16 hn6;obtain ⟨c0,c1,c2,c3,c4⟩:=HX.out V6 hb17;obtain ⟨d0,d1,d2,d3,d4⟩:=HB6.out V6 (GS _ _);clear hV6;go_wp2_with fail;refine HC2.out.mono ?_;rintro e w8 ⟨a8,c8,a9,c9,rfl,hI8,hM8,hb8⟩;have hn8:=an w8 (.cells #[.int .i64 P,.int .i64 M,.slice a8 nm c8,.int .i64 m,.slice a9 q2 c9] 27);have HC3:=Z5 (HDu.out _ a8 c8 a9 c9 (hI8.af hn8) (hM8.af hn8));have y8 : aO (w8.alloc (.cells #[.int .i64 P,.int .i64 M,.slice a8 nm c8,.int .i64 m,.slice a9 q2 c9] 27)) w8.heap.size [.int .i64 P,.int .i64 M,.slice a8 nm c8,.int .i64 m,.slice a9 q2 c9]:=LZ _ _ _ rfl;clear c0 c1 c2 c3 c4 d0 d1 d2 d3 d4 HC2 hI8 hM8;go_upto_region 9 with fail;obtain ⟨V8,hV8⟩ : ∃V8,w8.alloc (.cells #[.int .i64 P,.int .i64 M,.slice a8 nm c8,.int .i64 m,.slice a9 q2 c9] 27)=V8:=⟨_,rfl⟩
 rw [hV8] at HC3 hn8 y8 ⊢;have hb18:=LY hb17 (LY hb8 hn8);have d0:=y8.cell 0 rfl;have d1:=y8.cell 1 rfl;have d2:=y8.cell 2 rfl;have d3:=y8.cell 3 rfl;have d4:=y8.cell 4 rfl;clear hV8 y8;go_wp2_with fail;refine HC3.out.mono ?_;rintro e w9 ⟨aa,ca,ab,cb,rfl,hI9,hM9,hb9⟩;have zz:=HZ.out.af (LY hb18 hb9);have z0:=zz.cell 0 rfl;have z1:=zz.cell 1 rfl;have z2:=zz.cell 2 rfl;have z3:=zz.cell 3 rfl;have z4:=zz.cell 4 rfl;have f0:=zz.frozen 0;have f1:=zz.frozen 1;have f2:=zz.frozen 2;have f3:=zz.frozen 3;have f4:=zz.frozen 4;have hs:=HsW.out;have hs1:=hb18.size;have hbF:=LY HbW.out (LY hb18 hb9);have HFin:=Z5 (Hi (((((hI9.setCell (p:=⟨w.heap.size+1,0,none⟩) (by simp;omega) (.int .i64 P)).setCell (p:=⟨w.heap.size+1,1,none⟩) (by simp;omega) (.int .i64 M)).setCell (p:=⟨w.heap.size+1,2,none⟩) (by simp;omega) (.slice aa nm ca)).setCell (p:=⟨w.heap.size+1,3,none⟩) (by simp;omega) (.int .i64 m)).setCell (p:=⟨w.heap.size+1,4,none⟩) (by simp;omega) (.slice ab q3 cb)).ints
  (Hi (((((hM9.setCell (p:=⟨w.heap.size+1,0,none⟩) (by simp;omega) (.int .i64 P)).setCell (p:=⟨w.heap.size+1,1,none⟩) (by simp;omega) (.int .i64 M)).setCell (p:=⟨w.heap.size+1,2,none⟩) (by simp;omega) (.slice aa nm ca)).setCell (p:=⟨w.heap.size+1,3,none⟩) (by simp;omega) (.int .i64 m)).setCell (p:=⟨w.heap.size+1,4,none⟩) (by simp;omega) (.slice ab q3 cb)).jX
   (((((hbF.setCell (p:=⟨w.heap.size+1,0,none⟩) (by simp) (.int .i64 P)).setCell (p:=⟨w.heap.size+1,1,none⟩) (by simp) (.int .i64 M)).setCell (p:=⟨w.heap.size+1,2,none⟩) (by simp) (.slice aa nm ca)).setCell (p:=⟨w.heap.size+1,3,none⟩) (by simp) (.int .i64 m)).setCell (p:=⟨w.heap.size+1,4,none⟩) (by simp) (.slice ab q3 cb))))
 clear d0 d1 d2 d3 d4 zz hI9 hM9;go_wp2_with fail;exact bodyPost_ret (v:=.tuple #[.agg #[.int .i64 P,.int .i64 M,.slice aa nm ca,.int .i64 m,.slice ab q3 cb],.int .i64 0]) (by simp [results,results74,go_sem,z0,z1,z2,z3,z4]) rfl ⟨aa,ca,ab,cb,rfl,HFin.out.1,HFin.out.2.1,HFin.out.2.2⟩
theorem ot {P M : Int} {mod : LI} (h : ba P M mod=true) : ∃g,EW (ah P M.toNat mod).ops (ah P M.toNat mod).El (ah P M.toNat mod).q g:=by
 have F:=dM h;obtain ⟨m,y,rfl,hr,h256,hs,hq,G⟩:=jD h;rw [GW] at F ⊢;have hel : ∀x,(ah P m mod).El x ↔ eo P m x:=λx=>by simp only [bX.El,ah,eo];rw [hq]
 have hpw : ∀k,eG (ah P m mod).ops y k=pw P m mod y k:=λk=>by
  induction k with
  | zero=>rfl
  | succ k ih =>
   show (ah P m mod).ops.mul (eG (ah P m mod).ops y k) y=cI P m mod (pw P m mod y k) y
   rw [ih]
   exact G.oP (nS hr y k) G.yel
 refine ⟨y,(hel y).2 G.yel,λx=>Iff.rfl,G.q2,λx hx h0=>?_,λi j hi hj e=>?_,?_,λk=>?_⟩
 ·obtain ⟨k,hk,e,_⟩:=G.log ((hel x).1 hx) h0;exact ⟨k,hk,by rw [hpw];exact e⟩
 ·rw [hpw,hpw,<- G.val i hi,<- G.val j hj] at e;exact G.inj hi hj e
 ·rw [hpw];exact G.last
 ·rw [hpw];exact G.E6 k
section
variable {O : aM} {El : Int->Prop} {q : Nat} {g : Int}
def xh (O : aM) (q r c : Nat) : LI:=eW O (rtTo O (r+1) (q - 1)) ((r+1) * c) (q - 1)
def Fy (O : aM) (q r c k : Nat) : Ll:=gz O (xh O q r c) (fF r) k
theorem Cu {r c k j : Nat} (hr : 1<=r) (hk : k<=c * r) (hj : j<k) : fF r j<=(k - 1)+(k - 1) / r/\(k - 1)+(k - 1) / r<(r+1) * c:=by
 refine ⟨?_,?_⟩
 ·unfold fF;have:=K9 (c:=r) (show j<=k - 1 by omega);omega
 ·have h1 : (k - 1) / r<c:=Nat.div_lt_of_lt_mul (by rw [IU];omega);have h2:=Jq (k - 1) r;have h3:=Jm (k - 1) (show r > 0 by omega);have h4 : r * ((k - 1) / r)+r<=r * c:=by rw [<- JU];exact I4 r h1
  rw [J6];omega
theorem F1 (F : bZ O El) (h : EW O El q g) {r c k : Nat} (hr : 1<=r) (hd : (r+1) ∣ q - 1) (hc : (r+1) * c<=q - 1) (hk1 : 1<=k) (hk : k<=c * r) :
  (xh O q r c).length=(r+1) * c/\(∀x ∈ xh O q r c,El x)/\(bz O ((r+1) * c) (Fy O q r c k)).length=k /\
  (∀w,Vc El ((r+1) * c) w->RS O El ((r+1) * c) (bz O ((r+1) * c) (Fy O q r c k)) (λi=>nth w i)->oB w ≠ 0->(r+1) * c<=oB w+((k - 1)+(k - 1) / r)) /\
  ∀j,j<c->∀l : LN,(∀p ∈ l,(r+1) * j<=p/\p<(r+1) * j+(r+1))->l.Nodup->r<=l.length->∀p,(r+1) * j<=p->p<(r+1) * j+(r+1) ->
   oY O El (bz O ((r+1) * c) (Fy O q r c k)).length (bF (bz O ((r+1) * c) (Fy O q r c k))) l p:=by
 obtain ⟨hI,hl⟩:=CB F h (s:=r+1) (c:=c) (by omega) hd hc;have hl' : (xh O q r c).length=(r+1) * c:=hl;have hX : ∀x ∈ xh O q r c,El x:=λx hx=>(hI.el x hx).1;have hE : ∀i j,i<j->j<k->fF r i<fF r j:=λi j hij _=>Ep hij;have hD : ∀j,j<k->fF r j<=(k - 1)+(k - 1) / r:=λj hj=>(Cu hr hk hj).1;have hDX : (k - 1)+(k - 1) / r<(xh O q r c).length:=by rw [hl'];exact (Cu hr hk (show 0<k by omega)).2
 unfold Fy;rw [<- hl'];refine ⟨rfl,hX,Dt F hI.nd hX hE hD hDX,λw hw hrs h0=>yB F hI.nd hX hE hD hw hrs h0,λj hj l hl2 hln hlr p hp1 hp2=>?_⟩;have hlt : (r+1) * j+(r+1)<=(xh O q r c).length:=by rw [hl',<- JU];exact I4 (r+1) hj
 obtain ⟨c',hc',hblk⟩:=hI.blk;have hcc : c'=c:=by
  have h1 : (r+1) * c'=(r+1) * c:=by rw [<- hc'];exact hl'
  exact Nat.eq_of_mul_eq_mul_left (by omega) h1
 subst hcc;have hpt : ∀p,(r+1) * j<=p->p<(r+1) * j+(r+1)->eG O (nth (xh O q r c') p) (r+1)=eG O (nth (xh O q r c') ((r+1) * j)) (r+1):=λp h1 h2=>by have h3:=hblk j (p - (r+1) * j) hj (by omega);rw [show (r+1) * j+(p - (r+1) * j)=p by omega] at h3;exact h3
 exact BO F hI.nd hX (r:=r) (λj _=>Ev hr j) (c:=eG O (nth (xh O q r c') ((r+1) * j)) (r+1)) (ed F (hX _ (aH (by omega))) _)
  (λp hp=>⟨by have:=(hl2 p hp).2;omega,hpt p (hl2 p hp).1 (hl2 p hp).2⟩) hln hlr (by omega) (hpt p hp1 hp2)
end
def FL (G : bX) (x : Int) (n : Nat) : Int:=nth G.ex ((nth G.lg x.toNat * ((n : Int) % ((G.q : Int) - 1))) % ((G.q : Int) - 1)).toNat
theorem EP {P M : Int} {mod : LI} (h : ba P M mod=true) {x : Int} (hx : (ah P M.toNat mod).El x) (h0 : x ≠ 0) (n : Nat) : FL (ah P M.toNat mod) x n=eG (ah P M.toNat mod).ops x n:=by
 have F:=dM h;obtain ⟨m,y,rfl,hr,h256,hs,hq,G⟩:=jD h;rw [GW] at F hx ⊢;have hel : ∀x,(ah P m mod).El x ↔ eo P m x:=λx=>by simp only [bX.El,ah,eo];rw [hq]
 have hpw : ∀k,eG (ah P m mod).ops y k=pw P m mod y k:=λk=>by
  induction k with
  | zero=>rfl
  | succ k ih =>
   show (ah P m mod).ops.mul (eG (ah P m mod).ops y k) y=cI P m mod (pw P m mod y k) y
   rw [ih]
   exact G.oP (nS hr y k) G.yel
 obtain ⟨a,ha,rfl,_⟩:=G.log ((hel x).1 hx) h0;have h5:=G.q2;have e0 : nth (ah P m mod).lg (pw P m mod y a).toNat=a:=G.EU ha;have e1 : ((a : Int) * ((n : Int) % ((aI P m).toNat - 1))) % (((aI P m).toNat : Int) - 1)=(((a * (n % ((aI P m).toNat - 1))) % ((aI P m).toNat - 1) : Nat) : Int):=by
  have e2 : ((aI P m).toNat : Int) - 1=(((aI P m).toNat - 1 : Nat) : Int):=by omega
  rw [e2,Jj,KS,Jj]
 have e3 : (ah P m mod).q=(aI P m).toNat:=rfl;unfold FL;rw [e0,e3,e1,GW];show nth (fg P m mod (aI P m).toNat) _=_;rw [G.val _ (Jm _ (by omega)),G.red,<- hpw,<- hpw,<- mx F ((hel y).2 G.yel),hpw,hpw,<- G.red (a * (n % _)),<- G.red (a * n)];congr 1;rw [Nat.mul_mod,Nat.mod_mod,<- Nat.mul_mod]
section
variable {O : aM} {El : Int->Prop} {q : Nat} {g : Int}
theorem Aj (U : LI) (N : Nat) {k : Nat} (h : N<=(eW O U N k).length) : ∀j,eW O U N (k+j)=eW O U N k
 | 0=>rfl
 | j+1=>by show eW O U N ((k+j)+1)=_;rw [eW,Aj U N h j,GU (by omega)]
def gO (r x : Nat) : Nat:=x - x / (r+1)
theorem AS {r x : Nat} (h : x % (r+1)=r) : gO r (x+1)=gO r x:=by
 unfold gO;have h1:=Jq x (r+1);have h2 : (x+1) / (r+1)=x / (r+1)+1:=by
  have e : x+1=0+(x / (r+1)+1) * (r+1):=by rw [J6,IU];omega
  rw [e,JO _ _ (by omega)];simp
 rw [h2];omega
theorem Bx {r x : Nat} (hr : 1<=r) (h : x % (r+1) ≠ r) : gO r (x+1)=gO r x+1/\x=fF r (gO r x):=by
 have h1:=Jq x (r+1);have h3:=Jm x (show r+1 > 0 by omega);have hle : x / (r+1)<=x:=Kk _ _;have h2 : (x+1) / (r+1)=x / (r+1):=by
  have e : x+1=(x % (r+1)+1)+(x / (r+1)) * (r+1):=by rw [IU];omega
  rw [e,JO _ _ (by omega),LF (by omega)];simp
 have hc : gO r x=x % (r+1)+x / (r+1) * r:=by
  unfold gO;have e : (r+1) * (x / (r+1))=x / (r+1) * r+x / (r+1):=by rw [J6,IU]
  omega
 refine ⟨by unfold gO;rw [h2];omega,?_⟩;have hd : gO r x / r=x / (r+1):=by rw [hc,JO _ _ (by omega),LF (by omega)];simp
 unfold fF;rw [hd];unfold gO;omega
theorem Em {r x : Nat} (hr : 1<=r) {k : Nat} (h : gO r x<k) : x<2 * k:=by unfold gO at h;have : x / (r+1)<=x / 2:=Nat.div_le_div_left (by omega) (by omega);omega
theorem BU (r : Nat) : gO r 0=0:=by simp [gO]
theorem AW (X : LI) (E : Nat->Nat) (k : Nat) : gz O X E (k+1)=gz O X E k ++ [X.map λx=>eG O x (E k)]:=by unfold gz;rw [I7,II];rfl
end
def Ai (P M : Int) (mod : LI) (c r k : Int) : Int :=
 if ba P M mod=false then 1 else if c<1\/64<c\/r<1\/64<r\/k<1\/64<k then 6 else
 if (((ah P M.toNat mod).q : Int) - 1) % (r+1) ≠ 0\/(((ah P M.toNat mod).q : Int) - 1) / (r+1)<c then 10 else
 if 64<c * (r+1) then 4 else if c * r<k then 9 else 0
def iG (q : Nat) (l : LI) : List Bool:=(List.range q).map λ(y : Nat)=>decide ((y : Int) ∈ l)
theorem BA (q : Nat) (l : LI) : (iG q l).length=q:=by simp [iG]
theorem yy {q y : Nat} (l : LI) (h : y<q) : ox (iG q l) y=decide ((y : Int) ∈ l):=by rw [mH (by rw [BA];exact h)];simp [iG]
theorem A5 {q y : Nat} (l : LI) : (iG q l).set y true=iG q (l ++ [(y : Int)]):=by
 refine Ja (by simp [iG]) λi h1 h2=>?_;rw [LC];simp only [iG,IF,JJ,IS,IB];split
 ·rename_i h;subst h;simp
 ·rename_i h;have : ¬ (i : Int)=y:=by omega
  simp [this]
theorem AO (q : Nat) : iG q []=List.replicate q false:=by refine Ja (by simp [iG]) λi h1 h2=>?_;simp [iG]
section
variable {O : aM} {El : Int->Prop} {q : Nat} {g : Int}
def zG (O : aM) (n x : Nat) : LI:=rtTo O n (x - 1)
def zR (O : aM) (U : LI) (N x : Nat) : LI:=eW O U N (x - 1)
theorem Eb (n : Nat) : zG O n 1=[]:=rfl
theorem vx {n x : Nat} (h1 : 1<=x) (h : eG O (x : Int) n=1) : zG O n (x+1)=zG O n x ++ [(x : Int)]:=by
 obtain ⟨j,rfl⟩ : ∃j,x=j+1:=⟨x - 1,by omega⟩
 have e : ((j+1 : Nat) : Int)=(j : Int)+1:=by omega
 rw [e] at h ⊢;show rtTo O n (j+1)=rtTo O n j ++ _;rw [rtTo,GV h]
theorem wK {n x : Nat} (h1 : 1<=x) (h : eG O (x : Int) n ≠ 1) : zG O n (x+1)=zG O n x:=by
 obtain ⟨j,rfl⟩ : ∃j,x=j+1:=⟨x - 1,by omega⟩
 have e : ((j+1 : Nat) : Int)=(j : Int)+1:=by omega
 rw [e] at h;show rtTo O n (j+1)=rtTo O n j;rw [rtTo,GU h]
theorem ug (n : Nat) : ∀x,(zG O n x).length<=x
 | 0=>by simp [zG,rtTo]
 | 1=>by simp [zG,rtTo]
 | x+2=>by
  by_cases h : eG O ((x+1 : Nat) : Int) n=1
  ·rw [vx (by omega) h,H5];have:=ug n (x+1);simp;omega
  ·rw [wK (by omega) h];have:=ug n (x+1);omega
theorem EF (U : LI) (N : Nat) : zR O U N 1=[]:=rfl
theorem Cj {U : LI} {N x : Nat} (h1 : 1<=x) (h : (zR O U N x).length<N) (h2 : ¬ (x : Int) ∈ zR O U N x) : zR O U N (x+1)=zR O U N x ++ cJ (U.map (O.mul (x : Int))):=by
 obtain ⟨j,rfl⟩ : ∃j,x=j+1:=⟨x - 1,by omega⟩
 have e : ((j+1 : Nat) : Int)=(j : Int)+1:=by omega
 rw [e] at h2 ⊢;show eW O U N (j+1)=eW O U N j ++ _;rw [eW,GV ⟨h,h2⟩]
theorem CE {U : LI} {N x : Nat} (h1 : 1<=x) (h2 : (x : Int) ∈ zR O U N x) : zR O U N (x+1)=zR O U N x:=by
 obtain ⟨j,rfl⟩ : ∃j,x=j+1:=⟨x - 1,by omega⟩
 have e : ((j+1 : Nat) : Int)=(j : Int)+1:=by omega
 rw [e] at h2;show eW O U N (j+1)=eW O U N j;rw [eW,GU λh=>h.2 h2]
theorem CR {U : LI} {N x : Nat} (hx : x<=q) (h : N<=(zR O U N x).length) : zR O U N x=zR O U N q:=by have h1:=Aj (O:=O) U N (k:=x - 1) h (q - 1 - (x - 1));show eW O U N (x - 1)=eW O U N (q - 1);rw [<- h1];congr 1;omega
end
section
variable {P M : Int} {mod : LI} {c r k : Int}
theorem Gg (h : ba P M mod=false) : Ai P M mod c r k=1:=by unfold Ai;rw [GV h]
theorem Gf (h : ba P M mod=true) (h1 : c<1\/64<c\/r<1\/64<r\/k<1\/64<k) : Ai P M mod c r k=6:=by unfold Ai;rw [GU (by rw [h];simp),GV h1]
theorem Fm (h : ba P M mod=true) {Q c r k : Nat} (hQ : (ah P M.toNat mod).q=Q+1) (h1 : 1<=c/\c<=64) (h2 : 1<=r/\r<=64) (h3 : 1<=k/\k<=64) :
  Ai P M mod c r k=if Q % (r+1) ≠ 0\/Q / (r+1)<c then 10 else if 64<c * (r+1) then 4 else if c * r<k then 9 else 0:=by
 unfold Ai;rw [GU (by rw [h];simp),GU (by omega),hQ];have e1 : (((Q+1 : Nat) : Int) - 1) % ((r : Int)+1)=((Q % (r+1) : Nat) : Int):=by rw [show ((Q+1 : Nat) : Int) - 1=(Q : Int) by omega,Jj];rfl
 have e2 : (((Q+1 : Nat) : Int) - 1) / ((r : Int)+1)=((Q / (r+1) : Nat) : Int):=by rw [show ((Q+1 : Nat) : Int) - 1=(Q : Int) by omega,Int.natCast_ediv];rfl
 rw [e1,e2];have e3 : (c : Int) * ((r : Int)+1)=((c * (r+1) : Nat) : Int):=by simp
 have e4 : (c : Int) * (r : Int)=((c * r : Nat) : Int):=by simp
 rw [e3,e4];have c1 : ((Q % (r+1) : Nat) : Int) ≠ 0\/((Q / (r+1) : Nat) : Int)<(c : Int) ↔ Q % (r+1) ≠ 0\/Q / (r+1)<c:=by omega
 have c2 : (64 : Int)<((c * (r+1) : Nat) : Int) ↔ 64<c * (r+1):=by omega
 have c3 : ((c * r : Nat) : Int)<(k : Int) ↔ c * r<k:=by omega
 simp only [c1,c2,c3]
end
def DA (P M : Int) (mod : LI) (c r k : Nat) : Ll:=bz (ah P M.toNat mod).ops ((r+1) * c) (Fy (ah P M.toNat mod).ops (ah P M.toNat mod).q r c k)
theorem Ej {P M : Int} {mod : LI} (hB : ba P M mod=true) {Q c r k : Nat} (hQ : (ah P M.toNat mod).q=Q+1) (hr : 1<=r) (hd : Q % (r+1)=0) (hc : c<=Q / (r+1)) :
  let G:=ah P M.toNat mod
  (zG G.ops (r+1) (Q+1)).length=r+1/\(∀x ∈ zG G.ops (r+1) (Q+1),G.El x)/\(zR G.ops (zG G.ops (r+1) (Q+1)) ((r+1) * c) (Q+1))=xh G.ops G.q r c /\
  (xh G.ops G.q r c).length=(r+1) * c/\(∀x ∈ xh G.ops G.q r c,G.El x/\x ≠ 0)/\(r+1) * c<=Q:=by
 intro G;have F:=dM hB;obtain ⟨g,hG⟩:=ot hB;have hq1 : G.q - 1=Q:=by show (ah P M.toNat mod).q - 1=Q;omega
 have hdv : (r+1) ∣ G.q - 1:=by rw [hq1];exact KQ hd
 have hcq : (r+1) * c<=Q:=by have h1:=I4 (r+1) hc;have h2:=Nat.mul_div_le Q (r+1);omega
 obtain ⟨hI,hl⟩:=CB F hG (s:=r+1) (c:=c) (by omega) hdv (by rw [show (ah P M.toNat mod).q - 1=Q from hq1];exact hcq);refine ⟨?_,?_,?_,hl,λx hx=>hI.el x hx,hcq⟩
 ·have:=Ad F hG (n:=r+1) (by omega) hdv;rw [show (ah P M.toNat mod).q - 1=Q from hq1] at this;exact this
 ·intro x hx;have hx' : x ∈ rtTo G.ops (r+1) Q:=hx;obtain ⟨h1,h2,_⟩:=gx.1 hx';show 0<=x/\x<_;rw [show (((ah P M.toNat mod).q : Nat) : Int)=(Q : Int)+1 by rw [hQ];simp];omega
 ·unfold xh zR zG;rw [show (ah P M.toNat mod).q - 1=Q from hq1];simp
theorem Aw {w : World} {b : Nat} {P : Int} {M q : Nat} {ex lg : LI} (xn n : Nat) (h : vR w b P M q ex lg) (hx0 : xn ≠ 0) (hx1 : xn<q) (hn : n<=1000000) :
  Calls prog 65 #[.pointer (some ⟨b,0,none⟩),.int .i64 xn,.int .i64 n] w λe w'=>∃k,e = .returned (.tuple #[.int .i64 (if n=0 then 1 else nth ex ((nth lg xn * ((n : Int) % ((q : Int) - 1))) % ((q : Int) - 1)).toNat),.int .i64 0])/\w'=w.drewN k:=by
 obtain ⟨ae,ce,hce,hie⟩:=h.ce;obtain ⟨al,cl,hcl,hil⟩:=h.cl;have hcq:=h.cq;have hx' : ((xn : Int) == 0)=false:=by rw [beq_eq_false_iff_ne];omega
 have lx:=h.lb xn (by omega);have cx:=hil.cell xn (by omega);have hpe:=hie.pl;have hpl:=hil.pl;have hq2:=h.q2;have hq256:=h.q256;have HIn:=Z5 (dW xn h (by omega) (by omega));obtain ⟨k,rfl⟩ : ∃k,q=k+1:=⟨q - 1,by omega⟩
 rw [J0] at hce hie hpe;have hk1 : 1<=k:=by omega
 have e1 : ((k+1 : Nat) : Int) - 1=(k : Int):=by omega
 rw [e1] at lx ⊢;by_cases hn0 : n=0
 ·subst hn0;rw [GV rfl];clear e1 lx;go_enter func65,ntmps65;go_wp2_with fail;refine HIn.out.mono ?_;rintro e w' ⟨rfl,rfl⟩;go_wp2_with fail;go_ret2;exact ⟨0,rfl,rfl⟩
 rw [GU hn0];have d0 : ((n : Int) == 0)=false:=by simpa using hn0
 obtain ⟨l,hl⟩ : ∃l : Nat,nth lg xn=l:=⟨(nth lg xn).toNat,by omega⟩
 obtain ⟨y,hy⟩ : ∃y : Nat,n % k=y:=⟨_,rfl⟩
 have hyk : y<k:=by rw [<- hy];exact Jm _ (by omega)
 obtain ⟨z,hz⟩ : ∃z : Nat,(l * y) % k=z:=⟨_,rfl⟩
 have hzk : z<k:=by rw [<- hz];exact Jm _ (by omega)
 rw [hl] at cx lx ⊢;have hlb : l<k:=by omega
 have hly : l * y<=255 * 255:=JR (by omega) (by omega);have hV : ((l : Int) * ((n : Int) % (k : Int)) % (k : Int)).toNat=z:=by
  have e2 : (l : Int) * ((n : Int) % (k : Int)) % (k : Int)=((l * (n % k) % k : Nat) : Int):=by rw [Jj,KS,Jj]
  rw [e2,GW,hy,hz]
 rw [hV];have ck:=hie.cell z hzk;have e1' : (k : Int)+1 - 1=(k : Int):=by omega
 have w1' : IntKind.i64.wrap (((k+1 : Nat) : Int) - 1)=(k : Int):=by rw [e1];exact Ha _ (by omega)
 have w1'' : IntKind.i64.wrap ((k : Int) + 1 - 1) = (k : Int) := by rw [e1']; exact Ha _ (by omega)
 have r1 : ((n : Nat) : Int).tmod (k : Nat)=((y : Nat) : Int):=by rw [IV (by omega),<- hy];simp
 have w2' : IntKind.i64.wrap ((y : Int)+(k : Int))=(y : Int)+(k : Int):=Ha _ (by omega);have r2 : ((y : Int)+(k : Int)).tmod (k : Nat)=((y : Nat) : Int):=by rw [IV (by omega),Int.add_emod_right];exact Ky (by omega) (by omega)
 obtain ⟨p,hp⟩ : ∃p : Nat,l * y=p:=⟨_,rfl⟩
 have hpi : (l : Int) * (y : Int)=(p : Int):=by rw [<- hp];simp
 have hp2 : p<=255 * 255:=by omega
 have w3 : IntKind.i64.wrap ((l : Int) * (y : Int))=(p : Int):=by rw [hpi];exact Ha _ (by omega)
 rw [hp] at hz;have r3 : ((p : Nat) : Int).tmod (k : Nat)=((z : Nat) : Int):=by rw [IV (by omega),<- hz];simp
 have hkk : (k : Int) ≠ 0:=by omega
 have hkb : ((k : Int) == 0)=false:=by simpa using hkk
 have hzi : (z : Int)<k:=by omega
 have hxi : (xn : Int)<((k+1 : Nat) : Int):=by omega
 have hxi2 : (xn : Int)<(k : Int)+1:=by omega
 clear hp hpi hz hV hy hl hly e1 e1' hn0;go_enter func65,ntmps65;go_wp2_with fail;refine HIn.out.mono ?_;rintro e w' ⟨rfl,rfl⟩;go_wp2_with fail;go_quiet (fail);go_wp2;go_ret2;exact ⟨_,rfl,rfl⟩
theorem GF {w : World} {b : Nat} {P M : Int} {mod : LI} (hB : ba P M mod=true) {x : Int} (n : Nat) (h : dz w b (ah P M.toNat mod)) (hx : (ah P M.toNat mod).El x) (h0 : x ≠ 0) (hn : n<=1000000) :
  Calls prog 65 #[.pointer (some ⟨b,0,none⟩),.int .i64 x,.int .i64 n] w λe w'=>∃k,e = .returned (.tuple #[.int .i64 (eG (ah P M.toNat mod).ops x n),.int .i64 0])/\w'=w.drewN k:=by
 have ht:=EP hB hx h0 n;have hx':=hx;unfold bX.El at hx';obtain ⟨xn,rfl⟩ : ∃xn : Nat,x=xn:=⟨x.toNat,by omega⟩
 have h1:=Aw xn n h (by omega) (by omega) hn;have e : (if n=0 then 1 else nth (ah P M.toNat mod).ex ((nth (ah P M.toNat mod).lg xn * ((n : Int) % (((ah P M.toNat mod).q : Int) - 1))) % (((ah P M.toNat mod).q : Int) - 1)).toNat)=eG (ah P M.toNat mod).ops xn n:=by
  by_cases hn0 : n=0
  ·subst hn0;rw [GV rfl];rfl
  ·rw [GU hn0,<- ht];unfold FL;rw [GW]
 rw [e] at h1;exact h1
def uZ (P M : Int) (mod : LI) (m : Nat) (L : Ll) (k : Nat) : Int × Ll:=kF P M mod m (fb P M mod m L k) (ai (dy P M mod m L) k) ((oB (ai (dy P M mod m L) k) : Int) - 1)
def lcTo (P M : Int) (mod : LI) (m : Nat) (L : Ll) : Nat->Int
 | 0=>0
 | k+1=>if lcTo P M mod m L k=0 then (uZ P M mod m L k).1 else lcTo P M mod m L k
theorem sy {P M : Int} {mod : LI} {m : Nat} {L : Ll} {k : Nat} {e : Int} (h : lcTo P M mod m L k=e) (he : e ≠ 0) : ∀d,lcTo P M mod m L (k+d)=e
 | 0=>h
 | d+1=>by have ih:=sy h he d;show (if lcTo P M mod m L (k+d)=0 then _ else lcTo P M mod m L (k+d))=e;rw [ih,GU he]
def zw (P M : Int) (mod : LI) (N : Int) (L : Ll) : Int:=if iS P M mod N L=0 then lcTo P M mod N.toNat L N.toNat else iS P M mod N L
def rF (P M : Int) (mod : LI) (m : Nat) (L : Ll) (k : Nat) : List Ll:=(List.range k).map λ(r : Nat)=>if (uZ P M mod m L r).1=0 then (uZ P M mod m L r).2 else []
def uw (P M : Int) (mod : LI) (N : Int) (L : Ll) (w : World) (e : Ending) (w' : World) : Prop :=
 Mv w w'/\((zw P M mod N L ≠ 0/\e = .returned (.tuple #[.agg #[.slice none 0 0,.slice none 0 0],.int .i64 (zw P M mod N L)])) \/
  (zw P M mod N L=0/\∃as' cs at' ct,e = .returned (.tuple #[.agg #[.slice as' N.toNat cs,.slice at' N.toNat ct],.int .i64 0])/\bC w' as' N.toNat (dy P M mod N.toNat L)/\jl w' at' N.toNat (rF P M mod N.toNat L N.toNat)))
theorem BQ {P M : Int} {mod : LI} {N : Int} {L : Ll} (h : iS P M mod N L=0) : aG P M mod N L=0/\qE P M mod N.toNat L=0/\¬ [] ∈ dy P M mod N.toNat L:=by
 unfold iS at h;split at h
 ·rename_i h1;split at h
  ·rename_i h2;split at h
   ·cases h
   ·rename_i h3;exact ⟨h1,h2,h3⟩
  ·rename_i h2;exact absurd h h2
 ·rename_i h1;exact absurd h h1
theorem vW {P M : Int} {mod : LI} {m : Nat} {L : Ll} : (dy P M mod m L).length=m:=by rw [dy,H8,Jh]
theorem CF {P M : Int} {mod : LI} {m : Nat} {L : Ll} (hE : aG P M mod m L=0) (h : ¬ [] ∈ dy P M mod m L) {k : Nat} (hk : k<m) : ai (dy P M mod m L) k ≠ []/\(ai (dy P M mod m L) k).length=m/\ai (dy P M mod m L) k ∈ mS P M mod m L/\nth (ai (dy P M mod m L) k) k=1:=by
 have hm : ai (dy P M mod m L) k ∈ dy P M mod m L:=gv (by rw [vW];exact hk);have hne : ai (dy P M mod m L) k ≠ []:=λe=>h (by rw [<- e];exact hm);rw [mK hk] at hne ⊢;rcases mA hE (k : Int) with ⟨h3,_⟩ | ⟨h3,h4,_⟩
 ·exact absurd h3 hne
 ·rw [GW] at h4;exact ⟨hne,my hE hne,h3,h4⟩
theorem Cd {x : LI} : oB x<=x.length:=by rw [<- vB (x:=x) (m:=x.length) rfl];unfold pL;exact H7 (by rw [H8];exact KY _ _) (by rw [Jh];exact GQ _)
theorem qw {X w7 : World} {t : TypeId} (hb : Below (X.alloc (.cells #[.slice none 0 0] t)).heap.size (X.alloc (.cells #[.slice none 0 0] t)) w7) : aO w7 X.heap.size [.slice none 0 0] :=
 (LZ X [.slice none 0 0] t rfl).af hb
theorem sd {X w7 : World} {t : TypeId} (hb : Below (X.alloc (.cells #[.slice none 0 0] t)).drew.heap.size (X.alloc (.cells #[.slice none 0 0] t)).drew w7) : aO w7 X.heap.size [.slice none 0 0] :=
 (LZ X [.slice none 0 0] t rfl).af (LY (GS _ _).drew hb)
theorem rD (P M : Int) (am : OA) (mn cm : Nat) (mod : LI) (N : Int) (a : OA) (n c : Nat) (L : Ll) (w : World) (hmod : Ints w am mn mod) (hi : bC w a n L) :
  Calls prog 28 #[.agg #[.int .i64 P,.int .i64 M,.slice am mn cm,.int .i64 N,.slice a n c]] w (uw P M mod N L w):=by
 have HA : Hid (∀V,Mv w V->Calls prog 60 #[.agg #[.int .i64 P,.int .i64 M,.slice am mn cm,.int .i64 N,.slice a n c]] V (uj (iS P M mod N L) (dy P M mod N.toNat L) V)):=λV hV=>sF P M am mn cm mod N a n c L V (hmod.af hV) (hi.af hV);have HErr : Hid (∀V er,zw P M mod N L=er->er ≠ 0->Mv w V->uw P M mod N L w (.returned (.tuple #[.agg #[.slice none 0 0,.slice none 0 0],.int .i64 er])) V):=λV er h1 h2 h3=>⟨h3,.inl ⟨by rw [h1];exact h2,by rw [h1]⟩⟩
 have HE1 : Hid (iS P M mod N L ≠ 0->zw P M mod N L=iS P M mod N L):=λh=>by rw [zw,GU h]
 have HG : Hid (iS P M mod N L=0->∃m : Nat,N=m/\m<=64/\(dy P M mod N.toNat L).length=m/\mod.length<=8 /\
   (∀k,k<m->(ai (dy P M mod N.toNat L) k).length=m/\oB (ai (dy P M mod N.toNat L) k)<=m) /\
   (∀V (k : Nat),k<m->Mv w V->Calls prog 74 #[.agg #[.int .i64 P,.int .i64 M,.slice am mn cm,.int .i64 m,.slice a n c],.int .i64 k] V λe w' =>
    ∃a1 c1 a2 c2,e = .returned (.tuple #[.agg #[.int .i64 P,.int .i64 M,.slice a1 mod.length c1,.int .i64 m,.slice a2 (fb P M mod N.toNat L k).length c2],.int .i64 0])/\Ints w' a1 mod.length mod/\bC w' a2 (fb P M mod N.toNat L k).length (fb P M mod N.toNat L k)/\Mv V w') /\
   (∀V a1 c1 a2 c2 (k : Nat) ra rc,Ints V a1 mod.length mod->bC V a2 (fb P M mod N.toNat L k).length (fb P M mod N.toNat L k)->Ints V ra m (ai (dy P M mod N.toNat L) k)->Calls prog 75 #[.agg #[.int .i64 P,.int .i64 M,.slice a1 mod.length c1,.int .i64 m,.slice a2 (fb P M mod N.toNat L k).length c2],.slice ra m rc,.int .i64 ((oB (ai (dy P M mod N.toNat L) k) : Int) - 1)] V
    (zL (if (uZ P M mod N.toNat L k).1=0 then (uZ P M mod N.toNat L k).2 else []) (uZ P M mod N.toNat L k).1 V)) /\
   (∀k,lcTo P M mod N.toNat L k=0->lcTo P M mod N.toNat L (k+1)=(uZ P M mod N.toNat L k).1) /\
   (∀k er,k<=m->lcTo P M mod N.toNat L k=er->er ≠ 0->zw P M mod N L=er)/\(lcTo P M mod N.toNat L m=0->zw P M mod N L=0) /\
   (∀as' cs at' ct V,zw P M mod N L=0->bC V as' m (dy P M mod N.toNat L)->jl V at' m (rF P M mod N.toNat L m)->Mv w V->uw P M mod N L w (.returned (.tuple #[.agg #[.slice as' m cs,.slice at' m ct],.int .i64 0])) V)):=λh=>by
  obtain ⟨hE,_,hne⟩:=BQ h;obtain ⟨m,rfl,_,hm64,_⟩:=bf hE;rw [GW] at hne ⊢;refine ⟨m,rfl,hm64,vW,kQ (aQ hE).1,λk hk=>?_,λV k hk hV=>?_,λV a1 c1 a2 c2 k ra rc h1 h2 h3=>?_,λk hk=>?_,λk er hk h1 h2=>?_,λh1=>?_,λas' cs at' ct V h0 h1 h2 h3=>?_⟩
  ·have h1:=(CF hE hne hk).2.1;exact ⟨h1,by have:=Cd (x:=ai (dy P M mod m L) k);omega⟩
  ·exact qb P M am mn cm mod m a n c L k V (hmod.af hV) (hi.af hV) hE hk
  ·exact (mZ P M a1 _ c1 mod m a2 _ c2 _ ra m rc _ _ V h1 h2 h3).mono λe w' h=>h.Gl
  ·rw [lcTo,GV hk]
  ·rw [zw,GV h,GW];have h3:=sy h1 h2 (m - k);rw [show k+(m - k)=m by omega] at h3;exact h3
  ·rw [zw,GV h,GW];exact h1
  ·refine ⟨h3,.inr ⟨h0,as',cs,at',ct,?_,?_,?_⟩⟩
   ·rw [GW]
   ·rw [GW];exact h1
   ·rw [GW];exact h2
 have HTs : Hid (∀k,rF P M mod N.toNat L (k+1)=rF P M mod N.toNat L k ++ [if (uZ P M mod N.toNat L k).1=0 then (uZ P M mod N.toNat L k).2 else []]):=λk=>by unfold rF;rw [I7];simp
 have HT0 : Hid (rF P M mod N.toNat L 0=[]/\lcTo P M mod N.toNat L 0=0):=⟨rfl,rfl⟩
 generalize uw P M mod N L w=Post at *;generalize zw P M mod N L=ce at *;generalize iS P M mod N L=ae at *;generalize lcTo P M mod N.toNat L=CT at *;generalize rF P M mod N.toNat L=TT at *;generalize uZ P M mod N.toNat L=bl at *;generalize fb P M mod N.toNat L=vc at *;generalize dy P M mod N.toNat L=A at *;have HI:=Z5 (Hi hmod hi);clear hmod hi;go_enter func28,ntmps28;go_upto_region 1 with fail;obtain ⟨W,hW⟩ : ∃W : World,W=(w.alloc (.cells #[.int .i64 P,.int .i64 M,.slice am mn cm,.int .i64 N,.slice a n c] 27)).alloc (.cells #[.slice none 0 0,.slice none 0 0] 48):=⟨_,rfl⟩
 rw [<- hW];have hbW : Mv w W:=by rw [hW];exact du _ _ _
 have hsW : W.heap.size=w.heap.size+2:=by rw [hW];simp
 have x0 : aO W w.heap.size [.int .i64 P,.int .i64 M,.slice am mn cm,.int .i64 N,.slice a n c]:=by rw [hW];exact (LZ _ _ _ rfl).alloc _
 have z0 : aO W (w.heap.size+1) [.slice none 0 0,.slice none 0 0]:=by rw [hW];exact LZ _ _ _ (by simp)
 clear hW;have HX : Hid (∀V,Mv W V->V.cell? ⟨w.heap.size,0,none⟩=some (.int .i64 P)/\V.cell? ⟨w.heap.size,1,none⟩=some (.int .i64 M)/\V.cell? ⟨w.heap.size,2,none⟩=some (.slice am mn cm)/\V.cell? ⟨w.heap.size,3,none⟩=some (.int .i64 N)/\V.cell? ⟨w.heap.size,4,none⟩=some (.slice a n c)):=λV hV=>by have x1:=x0.af hV;exact ⟨x1.cell 0 rfl,x1.cell 1 rfl,x1.cell 2 rfl,x1.cell 3 rfl,x1.cell 4 rfl⟩
 have HZ : Hid (∀V,Mv W V->V.cell? ⟨w.heap.size+1,0,none⟩=some (.slice none 0 0)/\V.cell? ⟨w.heap.size+1,1,none⟩=some (.slice none 0 0)/\V.frozen? ⟨w.heap.size+1,0,none⟩=false/\V.frozen? ⟨w.heap.size+1,1,none⟩=false/\w.heap.size+1<V.heap.size /\
   ∀x y,Mv w ((V.setCell ⟨w.heap.size+1,0,none⟩ x).setCell ⟨w.heap.size+1,1,none⟩ y)):=λV hV=>by have z1:=z0.af hV;exact ⟨z1.cell 0 rfl,z1.cell 1 rfl,z1.frozen 0,z1.frozen 1,z1.1,λx y=>((LY hbW hV).setCell (p:=⟨w.heap.size+1,0,none⟩) (by simp) _).setCell (p:=⟨w.heap.size+1,1,none⟩) (by simp) _⟩
 have HbW:=Z5 hbW;have HsW:=Z5 hsW;clear x0 z0 hbW hsW;obtain ⟨c0,c1,c2,c3,c4⟩:=HX.out W (GS _ _);go_wp2_with fail;refine (HA.out W HbW.out).mono ?_;rintro e w1 ⟨hb1,⟨h1,rfl⟩ | ⟨h1,aA,cA,rfl,hM,hlo⟩⟩
 ·obtain ⟨z3,z4,f3,f4,_,hbz⟩:=HZ.out w1 hb1;have d1 : (ae != 0)=true:=by simpa using h1
  have HF:=Z5 (HErr.out _ ae (HE1.out h1) h1 (hbz (.slice none 0 0) (.slice none 0 0)));clear c0 c1 c2 c3 c4 h1 HG hbz;go_wp2_with fail;exact bodyPost_ret (v:=.tuple #[.agg #[.slice none 0 0,.slice none 0 0],.int .i64 ae]) (by simp [results,results28,go_sem,z3,z4]) rfl HF.out
 have hF1:=LY HbW.out hb1;obtain ⟨m,rfl,hm64,hAl,hm8,hrow,hze,hbu,hcs,hcn,hc0,hpo⟩:=HG.out h1;have HR:=Z5 hrow;have HZe:=Z5 hze;have HBu:=Z5 hbu;have HCs:=Z5 (Hi hcs (Hi hcn (Hi hc0 hpo)));rw [hAl] at hM hlo;rw [hAl];have HLo:=Z5 hlo;have HM:=Z5 hM;have hplA:=hM.pl;have d1 : (ae != 0)=false:=by simp [h1]
 obtain ⟨nm,hnm⟩ : ∃nm,mod.length=nm:=⟨_,rfl⟩
 rw [hnm] at HZe HBu;clear c0 c1 c2 c3 c4 h1 HG hrow hze hbu hcs hcn hc0 hpo hM hAl HE1 HA hm8 hnm hlo;go_upto_region 5 with fail;obtain ⟨X,hX⟩ : ∃X,w1.alloc (.cells #[.slice aA m cA,.slice none 0 0] 48)=X:=⟨_,rfl⟩
 rw [hX];have hbX : Mv w1 X:=by rw [<- hX];exact an _ _
 have hC0 : jW w1.heap.size X w1.heap.size (.slice aA m cA) none 0 []:=jW.start (GQ _) (by rw [<- hX];exact LZ _ _ _ rfl);clear hX;have hs1:=hb1.size;have hsw:=HsW.out;go_wp2_with fail;go_loopw [25] (λiv wr=>∃(k : Nat) (at' : OA) (ct : Nat) (tt : List TX),k<=m/\iv = .int .i64 k/\jW w1.heap.size wr w1.heap.size (.slice aA m cA) at' ct tt/\Hid (tt.length=k)/\Hid (tt.map TX.T=TT k)/\Hid (CT k=0)/\Mv w1 wr) (λiv _=>m - (intOf iv).toNat);case atStart=>exact ⟨0,none,0,[],G0 _,rfl,hC0,rfl,HT0.out.1.symm,HT0.out.2,hbX⟩
 case round =>
  clear hC0 hbX
  obtain ⟨k,at',ct,tt,hk,rfl,hI,Htl,Htt,Hct,hbr⟩:=hrel
  by_cases hlt : k<m
  ·obtain ⟨ra,rn,rc,hcell,hrw⟩:=(HM.out.af hbr).cell k hlt
   obtain ⟨hrl,hwt⟩:=HR.out k hlt
   have hrn : rn=m:=by rw [<- hrw.len];exact hrl
   subst hrn
   have hF2:=LY hF1 hbr
   have HZk:=Z5 (HZe.out wr k hlt hF2)
   have HRw:=Z5 hrw
   have HI2:=Z5 (Hi hI hbr)
   have hCt1:=HCs.out.1 k Hct.out
   have HTk:=Z5 (HTs.out k)
   obtain ⟨wt,hwte⟩ : ∃wt,oB (ai A k)=wt:=⟨_,rfl⟩
   have HBk : Hid (∀V a1 c1 a2 c2,Ints V a1 nm mod->bC V a2 (vc k).length (vc k)->Ints V ra rn (ai A k)->Calls prog 75 #[.agg #[.int .i64 P,.int .i64 M,.slice a1 nm c1,.int .i64 rn,.slice a2 (vc k).length c2],.slice ra rn rc,.int .i64 ((wt : Int) - 1)] V (zL (if (bl k).1=0 then (bl k).2 else []) (bl k).1 V)):=λV a1 c1 a2 c2 h1 h2 h3=>by rw [<- hwte];exact HBu.out V a1 c1 a2 c2 k ra rc h1 h2 h3
   have HWt : Hid (∀V,Ints V ra rn (ai A k)->Calls prog 76 #[.slice ra rn rc] V λe w'=>e = .returned (.int .i64 (wt : Nat))/\Mv V w'):=λV hV=>by rw [<- hwte];exact lY ra rn rc _ V hV (by omega)
   rw [hwte] at hwt
   have w1' : IntKind.i64.wrap ((wt : Int) - 1)=(wt : Int) - 1:=Ha _ (by omega)
   obtain ⟨vk,hvk⟩ : ∃vk,vc k=vk:=⟨_,rfl⟩
   obtain ⟨qv,hqv⟩ : ∃q,vk.length=q:=⟨_,rfl⟩
   rw [hvk,hqv] at HZk HBk
   obtain ⟨bk,hbk⟩ : ∃bk,bl k=bk:=⟨_,rfl⟩
   rw [hbk] at HBk HTk hCt1
   obtain ⟨er,T0⟩:=bk
   have HCt1 : Hid (CT (k+1)=er):=hCt1
   obtain ⟨T,hT⟩ : ∃T,(if ((er,T0) : Int × Ll).1=0 then ((er,T0) : Int × Ll).2 else [])=T:=⟨_,rfl⟩
   rw [hT] at HBk HTk
   have hpr:=hrw.pl
   obtain ⟨c0,c1,c2,c3,c4⟩:=HX.out wr (LY hb1 hbr)
   clear hrl hwte hvk hqv hbk hT hCt1 hrw hI
   go_wp2_with fail
   refine HZk.out.mono ?_
   rintro e w3 ⟨a3,k3,a4,k4,rfl,hI3,hM3,hb3⟩
   have hn3:=an w3 (.cells #[.int .i64 P,.int .i64 M,.slice a3 nm k3,.int .i64 rn,.slice a4 qv k4] 27)
   have y3 : aO (w3.alloc (.cells #[.int .i64 P,.int .i64 M,.slice a3 nm k3,.int .i64 rn,.slice a4 qv k4] 27)) w3.heap.size [.int .i64 P,.int .i64 M,.slice a3 nm k3,.int .i64 rn,.slice a4 qv k4]:=LZ _ _ _ rfl
   have hI3':=hI3.af hn3
   have hM3':=hM3.af hn3
   clear c0 c1 c2 c3 c4 hI3 hM3
   go_upto_region 9 with fail
   obtain ⟨V3,hV3⟩ : ∃V3,w3.alloc (.cells #[.int .i64 P,.int .i64 M,.slice a3 nm k3,.int .i64 rn,.slice a4 qv k4] 27)=V3:=⟨_,rfl⟩
   rw [hV3] at hn3 y3 hI3' hM3' ⊢
   have hbV3:=LY hb3 hn3
   have hrV3:=HRw.out.af hbV3
   have hbw3:=LY hbr hbV3
   obtain ⟨g3,hg3⟩ : ∃g,w3.heap.size=g:=⟨_,rfl⟩
   rw [hg3] at y3 ⊢
   have HS5 : Hid (∀V,Mv V3 V->V.cell? ⟨g3,0,none⟩=some (.int .i64 P)/\V.cell? ⟨g3,1,none⟩=some (.int .i64 M)/\V.cell? ⟨g3,2,none⟩=some (.slice a3 nm k3)/\V.cell? ⟨g3,3,none⟩=some (.int .i64 rn)/\V.cell? ⟨g3,4,none⟩=some (.slice a4 qv k4)/\Mv V3 V):=λV hV=>by have y:=y3.af hV;exact ⟨y.cell 0 rfl,y.cell 1 rfl,y.cell 2 rfl,y.cell 3 rfl,y.cell 4 rfl,hV⟩
   have HW3:=Z5 (λV (hV : Mv V3 V)=>HWt.out V (hrV3.af hV))
   have HB3:=Z5 (λV (hV : Mv V3 V)=>HBk.out V a3 k3 a4 k4 (hI3'.af hV) (hM3'.af hV) (hrV3.af hV))
   have HV3:=Z5 (Hi hbV3 hbw3)
   clear hV3 hg3 hI3' hM3' hrV3 HBk HWt HZk hn3 hb3 y3
   obtain ⟨c0,c1,c2,c3,c4,_⟩:=HS5.out V3 (GS _ _)
   unfold zL at HB3
   go_upto_region 11 with fail
   go_cut [10,11] (λv10 v11 wx=>v10 = .int .i64 er/\∃g ar nr cr,v11 = .pointer (some ⟨g,0,none⟩)/\Hid (aO wx g [.slice ar nr cr])/\Hid (V3.heap.size<=g)/\Hid (bQ V3.heap.size wx ar nr T)/\Hid (nr<=cr)/\Mv V3 wx)
   case first =>
    go_region_held3 (λV=>V.cell? ⟨g3,0,none⟩=some (.int .i64 P)/\V.cell? ⟨g3,1,none⟩=some (.int .i64 M)/\V.cell? ⟨g3,2,none⟩=some (.slice a3 nm k3)/\V.cell? ⟨g3,3,none⟩=some (.int .i64 rn)/\V.cell? ⟨g3,4,none⟩=some (.slice a4 qv k4)/\Mv V3 V)
     ((refine HS5.out _ ?_;first | exact (GS _ _).drew | assumption | (go_split_ands;first | assumption | exact LY (by assumption) (an _ _) | exact (LY (by assumption) (an _ _)).drew | exact LY (by assumption) (by assumption) | exact Kf (by assumption) (by first | exact hB5.size | exact hB4.size | simp) _)))
     (first
      | (go_at_call 76;((with_reducible refine (HW3.out _ (by go_split_ands;assumption)).mono ?_);rintro e w4 ⟨rfl,hb4⟩;have hB4 : Mv V3 w4:=(by go_split_ands;exact LY (by assumption) hb4);(first | (have HB4:=Z5 (sd hb4)) | (have HB4:=Z5 (qw hb4)) | skip)))
      | (go_at_call 75;((with_reducible refine (HB3.out _ (by go_split_ands;assumption)).mono ?_);rintro e w5 ⟨ar,nr,cr,rfl,hM5,hc5,hb5⟩;have hB5 : Mv V3 w5:=(by go_split_ands;exact LY (by assumption) hb5);have HM5:=Z5 hM5;have HC5:=Z5 hc5;clear hM5 hc5;(first | (have HB5:=Z5 (sd hb5)) | (have HB5:=Z5 (qw hb5)) | (have HB5:=Z5 (HB4.out.af hb5)) | skip);(first | (have z0:=HB5.out.cell 0 rfl;have f0:=HB5.out.frozen 0) | skip))))
    all_goals (
     go_wp2_with fail
     go_meet
     first
      | exact ⟨rfl,_,ar,nr,cr,rfl,LZ w5 [.slice ar nr cr] _ rfl,hB5.size,(HM5.out.af (an _ _)).mono (by first | exact hB4.size | exact (LY hB4 (an _ _)).size),HC5.out,by go_split_ands;assumption⟩
      | exact ⟨rfl,_,ar,nr,cr,rfl,HB5.out.setCell 0 (.slice ar nr cr),(by first | exact hB4.size | exact GQ _),(HM5.out.setCell (by first | exact HB4.out.1 | simp) _).mono (by first | exact hB4.size | exact (LY hB4 (an _ _)).size),HC5.out,by go_split_ands;assumption⟩)
   obtain ⟨rfl,g,ar,nr,cr,rfl,HBx,Hg3,HMT,HCr,hbV⟩:=hcut
   generalize wc=V5 at *
   have hbr5:=LY HV3.out.2 hbV
   clear c0 c1 c2 c3 c4
   by_cases her : er=0
   rotate_left
   ·obtain ⟨z3,z4,f3,f4,_,hbz⟩:=HZ.out V5 (LY hb1 hbr5)
    have d2 : (er != 0)=true:=by simpa using her
    have HF:=Z5 (HErr.out _ er (HCs.out.2.1 (k+1) er (by omega) HCt1.out her) her (hbz (.slice none 0 0) (.slice none 0 0)))
    clear her hbz
    go_wp2_with fail
    exact bodyPost_ret (v:=.tuple #[.agg #[.slice none 0 0,.slice none 0 0],.int .i64 er]) (by simp [results,results28,go_sem,z3,z4]) rfl HF.out
   ·subst her
    have hI5:=HI2.out.1.af (LY HV3.out.1 hbV)
    have hMA : fQ (TA w1.heap.size w1.heap.size at') V5 ar nr T:=HMT.out.E8 λb hb=>It (HI2.out.1.lt b hb) HV3.out.1.size
    have htlk : tt.length=k:=Htl.out
    have hTl : T.length=nr:=HMT.out.len
    have b1:=hI5.box.cell 1 rfl
    have g1:=hI5.box.frozen 1
    have t0:=HBx.out.cell 0 rfl
    have hto:=(hI5.af (an V5 (.cells #[.slice ar nr cr] 103))).tow
    have hcn2:=bm V5 (.slice ar nr cr) 103
    have b1':=bp b1 (.cells #[.slice ar nr cr] 103)
    rw [htlk] at b1 b1' hto
    have hs9 : w1.heap.size<=(V5.alloc (.cells #[.slice ar nr cr] 103)).heap.size:=by have:=hbr5.size;simp;omega
    have hlt5 : w1.heap.size<V5.heap.size:=hI5.box.1
    have HI5:=Z5 (Hi hI5 (Hi hMA (Hi hTl hbr5)))
    have Hlt5:=Z5 hlt5
    have Hatb:=Z5 hI5.at1
    clear hI5 hMA hTl hbr5 hlt5
    go_wp2_with (at_builtin;refine uP rfl _ _ 46 103 rfl (.agg #[.slice none 0 0]) 24 underlying46 DK rfl w1.heap.size at' k ct _ rfl hto ⟨V5.heap.size,0,none⟩ 1 (.slice ar nr cr) rfl hcn2 rfl (by omega) (by unfold maxLen;omega) hs9 ?_;intro a6 c6 w6 hown6 hgr6 hap6;have b6:=cX (ad:=⟨w1.heap.size,1,none⟩) hgr6 b1' Hatb.out;have g6 : w6.frozen? ⟨w1.heap.size,1,none⟩=false:=re hgr6 (by simp;have:=Hlt5.out;omega) (dL Hlt5.out g1 _) Hatb.out)
    go_roundw
    case rel =>
     obtain ⟨hI5,hMA,hTl,hbr5⟩:=HI5.out
     have hown6' : w6.ownsRow w1.heap.size 103 1 (.slice a6 (tt.length+1) c6) (tt.length+1) (tt.map E9 ++ [E9 ⟨ar,cr,T⟩]):=by rw [htlk,show E9 ⟨ar,cr,T⟩ = .slice ar nr cr by show Value.slice _ _ _=_;rw [hTl]];exact hown6
     obtain ⟨hI7,hbp⟩:=hI5.Gm (x:=⟨ar,cr,T⟩) (by show fQ _ _ ar T.length T;rw [hTl];exact hMA) (by show T.length<=cr;rw [hTl];exact HCr.out) hown6' (by rw [htlk];exact hgr6) hap6
     have hbr7:=hbp _ hbr5
     rw [htlk] at hI7 hbr7
     exact ⟨k+1,a6,c6,tt ++ [⟨ar,cr,T⟩],by omega,by go_num,hI7,by show _=_;rw [H5,htlk];rfl,by show _=_;rw [II,Htt.out,HTk.out];rfl,HCt1.out,hbr7⟩
    case measure=>simp [intOf] <;> omega
  ·obtain rfl : k=m:=by omega
   obtain ⟨z3,z4,f3,f4,_,hbz⟩:=HZ.out wr (LY hb1 hbr)
   have b0:=hI.box.cell 0 rfl
   have b1:=hI.box.cell 1 rfl
   rw [Htl.out] at b1
   have hI2:=(hI.set (p:=⟨w.heap.size+1,0,none⟩) (by show w.heap.size+1<w1.heap.size;omega) (.slice aA k cA)).set (p:=⟨w.heap.size+1,1,none⟩) (by show w.heap.size+1<w1.heap.size;omega) (.slice at' k ct)
   have q2:=hI2.trees
   rw [Htl.out,Htt.out] at q2
   have hMk : bC ((wr.setCell ⟨w.heap.size+1,0,none⟩ (.slice aA k cA)).setCell ⟨w.heap.size+1,1,none⟩ (.slice at' k ct)) aA k A:=by
    have hne : ∀j,0<k->(⟨w.heap.size+1,j,none⟩ : Addr).block ≠ ablk aA:=λj h0 e=>by have h3:=HLo.out h0;rw [<- e] at h3;have h4 : W.heap.size<=w.heap.size+1:=h3;omega
    have hz4 : (wr.setCell ⟨w.heap.size+1,0,none⟩ (.slice aA k cA)).cell? ⟨w.heap.size+1,1,none⟩=some (.slice none 0 0):=by rw [H9 _ _ _ _ (by simp)];exact z4
    exact (((HM.out.af hbr).mq z3 (hne 0) _).mq hz4 (hne 1) _)
   have HF:=Z5 (HCs.out.2.2.2 aA cA at' ct _ (HCs.out.2.2.1 Hct.out) hMk q2 (hbz (.slice aA k cA) (.slice at' k ct)))
   clear hI hI2 q2 hbz hMk
   go_wp2_with fail
   exact bodyPost_ret (v:=.tuple #[.agg #[.slice aA k cA,.slice at' k ct],.int .i64 0]) (by simp [results,results28,go_sem,z3,z4]) rfl HF.out
def insS (x : Int) : LI->LI
 | []=>[x]
 | y :: l=>if x<=y then x :: y :: l else y :: insS x l
def nV : LI->LI
 | []=>[]
 | x :: l=>insS x (nV l)
theorem nI (x : Int) : ∀l,(insS x l).Perm (x :: l)
 | []=>La _
 | y :: l=>by
  rw [insS];split
  ·exact La _
  ·exact ((nI x l).cons y).trans (List.Perm.swap x y l)
theorem si (x : Int) : ∀ {l : LI},l.Pairwise (λa b=>a<=b)->(insS x l).Pairwise (λa b=>a<=b)
 | [],_=>by simp [insS]
 | y :: l,h=>by
  rw [insS];rw [JK] at h;split
  ·rename_i hxy;rw [JK,JK];refine ⟨λa ha=>?_,h.1,h.2⟩;rcases List.mem_cons.1 ha with rfl | ha
   ·exact hxy
   ·have:=h.1 a ha;omega
  ·rename_i hxy;rw [JK];refine ⟨λa ha=>?_,si x h.2⟩;rcases List.mem_cons.1 ((nI x l).mem_iff.1 ha) with rfl | ha
   ·omega
   ·exact h.1 a ha
theorem pR : ∀l,(nV l).Perm l
 | []=>La _
 | x :: l=>(nI x (nV l)).trans ((pR l).cons x)
theorem pX : ∀l,(nV l).Pairwise (λa b=>a<=b)
 | []=>by simp [nV]
 | x :: l=>si x (pX l)
theorem nN (l : LI) : cJ l=nV l:=(mR (pX l) (pR l)).symm
def qz (O : aM) (L : Ll) (m : Nat) (C : jK) (s z : LI) : LI:=nV (vu O L (nV z ++ frTo false (s ++ z) m) (if C.cos=true then m else C.M))
theorem vQ (O : aM) (L : Ll) (m : Nat) (C : jK) (s z : LI) : ey O L m C s z=qz O L m C s z:=by unfold ey qz gP;rw [nN,nN]
def bldI (O : aM) (L : Ll) (m : Nat) (C : jK) : Nat->LI->LI->Ll->Int × Ll
 | 0,s,z,T=>if dO O L m C s (qz O L m C s z)=true then if T.length=65536 then (8,[]) else (0,T ++ [qz O L m C s z]) else (11,[])
 | d+1,s,z,T=>if dO O L m C s (qz O L m C s z)=true then if T.length=65536 then (8,[]) else fU (bldI O L m C d) s z (vn C s z (qz O L m C s z)) (T ++ [qz O L m C s z]) else (11,[])
theorem z8 (O : aM) (L : Ll) (m : Nat) (C : jK) : ∀d,iZ O L m C d=bldI O L m C d
 | 0=>by funext s z T;rw [iZ,bldI,vQ]
 | d+1=>by funext s z T;rw [iZ,bldI,vQ,z8 O L m C d]
theorem Al (O : aM) (L : Ll) (m : Nat) (C : jK) : sJ O L m C=bldI O L m C C.W [] [] []:=by rw [sJ,z8]
end Go.Proofs.YthglbncgemdcbaaGreat
