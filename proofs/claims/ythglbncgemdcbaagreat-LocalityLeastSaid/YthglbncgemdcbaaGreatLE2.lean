import Derived.Test.YthglbncgemdcbaaGreatLE1
namespace Go.Proofs.YthglbncgemdcbaaGreat
set_option linter.all false
set_option maxRecDepth 100000
set_option maxHeartbeats 8000000
open Go.RowKit Go.Proofs.Tryz
def uB (B : Nat->Bool) (i k : Nat) : Bool:=!decide (k=i) && B k
def u5 (B : Nat->Bool) (i k : Nat) : Bool:=decide (k=i) || B k
theorem Lq (B : Nat->Bool) (i : Nat) : uB B i i=false:=by simp [uB]
theorem Le (B : Nat->Bool) (i k : Nat) : u5 B i k=true ↔ uB B i k=true\/k=i:=by
 unfold u5 uB;by_cases h : k=i
 ·simp [h]
 ·simp [h]
theorem J3 (B : Nat->Bool) {i k : Nat} (h : k ≠ i) : uB B i k=B k:=by simp [uB,h]
theorem IU (B : Nat->Bool) {i k : Nat} (h : k ≠ i) : u5 B i k=B k:=by simp [u5,h]
theorem MF (B : Nat->Bool) (i : Nat) : u5 B i i=true:=by simp [u5]
theorem vA {p : Nat->Bool} {k : Nat} (h : p k=true) : da p (k+1)=da p k ++ [(k : Int)]:=by rw [zd,Nd h]
theorem zH {p : Nat->Bool} {k : Nat} (h : p k=false) : da p (k+1)=da p k:=by rw [zd,Nf (by rw [h];decide)]
theorem yG (P M : Int) (am : OA) (mn cm : Nat) (mod : Lz) (m : Nat) (a : OA) (n c : Nat) (L : ZZ) (p : Nat->Bool) (ao : OA) (co : Nat) (w : World)
  (hmod : Ints w am mn mod) (hi : br w a n L) (hE : aF P M mod m L=0) (hq : Ints w ao (da p m).length (da p m)) :
  Calls prog 39 #[.agg #[.int .i64 P,.int .i64 M,.slice am mn cm,.int .i64 m,.slice a n c],.slice ao (da p m).length co] w λe w'=>e = .returned (.tuple #[.int .i64 (gk (af P M.toNat mod).ops L (da p m) : Nat),.int .i64 0])/\SW w w':=by
 refine (IY P M am mn cm mod m a n c L ao _ co _ w hmod hi hq).mono ?_;have h0 : pI P M mod m L (da p m)=0:=by rw [pI,Nd hE,yS,Nd (rD p m)]
 rintro e w' ⟨hb,⟨h1,_⟩ | ⟨_,rfl⟩⟩
 ·exact absurd h0 h1
 ·exact ⟨rfl,hb⟩
theorem xP (P M : Int) (am : OA) (mn cm : Nat) (mod : Lz) (N : Int) (a : OA) (n c : Nat) (L : ZZ) (i : Int) (z : Int) (w : World) (hmod : Ints w am mn mod) (hi : br w a n L) (hz : 0<=z/\z<=4294967295) :
  Calls prog 9 #[.agg #[.int .i64 P,.int .i64 M,.slice am mn cm,.int .i64 N,.slice a n c],.int .i64 i,.int .u32 z] w λe w'=>e = .returned (.bool true)/\SW w w':=by
 have HSm : Hid (∀V,SW w V->Calls prog 14 #[.agg #[.int .i64 P,.int .i64 M,.slice am mn cm,.int .i64 N,.slice a n c]] V (dO V)):=λV hV=>gM P M am mn cm mod N a n c L V (hmod.ah hV) (hi.ah hV);have HCk : Hid (∀V,SW w V->Calls prog 35 #[.agg #[.int .i64 P,.int .i64 M,.slice am mn cm,.int .i64 N,.slice a n c]] V λe w'=>e = .returned (.int .i64 (aF P M mod N L))/\SW V w'):=λV hV=>lh P M am mn cm mod N a n c L V (hmod.ah hV) (hi.ah hV);have H1 : Hid (∀V,SW w V->Calls prog 15 #[.agg #[.int .i64 P,.int .i64 M,.slice am mn cm,.int .i64 N,.slice a n c],.int .i64 i] V (Dm (kL P M mod N L i) (if kL P M mod N L i=0 then iX P M mod N.toNat L i else []) (if kL P M mod N L i=0 then qM P M mod N.toNat L i else []) V)):=λV hV=>(mG P M am mn cm mod N a n c L i V (hmod.ah hV) (hi.ah hV)).mono λe w' h=>JR h;have HZ:=Z5 hz;have Hmi:=Z5 (Np hmod hi);have HHe : Hid (kL P M mod N L i=kL P M mod N L i):=rfl;unfold Dm at H1;clear hmod hi hz;go_enter func9,ntmps9;go_wp2_with fail;obtain ⟨W,hW⟩ : ∃W : World,W=(w.alloc (.cells #[.int .i64 P,.int .i64 M,.slice am mn cm,.int .i64 N,.slice a n c] 27)):=⟨_,rfl⟩
 rw [<- hW];have hbW : SW w W:=by rw [hW];exact an _ _
 have x0 : aN W w.heap.size [.int .i64 P,.int .i64 M,.slice am mn cm,.int .i64 N,.slice a n c]:=by rw [hW];exact R9 _ _ _ (by simp)
 have hpos : 0<W.heap.size:=by rw [hW];simp
 have HS : Hid (∀V,SW W V->V.cell? ⟨w.heap.size,0,none⟩=some (.int .i64 P)/\V.cell? ⟨w.heap.size,1,none⟩=some (.int .i64 M)/\V.cell? ⟨w.heap.size,2,none⟩=some (.slice am mn cm)/\V.cell? ⟨w.heap.size,3,none⟩=some (.int .i64 N)/\V.cell? ⟨w.heap.size,4,none⟩=some (.slice a n c)):=λV hV=>by have x1:=x0.ah hV;exact ⟨x1.cell 0 rfl,x1.cell 1 rfl,x1.cell 2 rfl,x1.cell 3 rfl,x1.cell 4 rfl⟩
 have HbW:=Z5 hbW;have Hpos:=Z5 hpos;clear hW hbW x0 hpos;refine (bU W).mono ?_;rintro e w1 ⟨rfl,hB1⟩;obtain ⟨c0,c1,c2,c3,c4⟩:=HS.out w1 hB1;go_wp2_with fail;refine (HSm.out w1 (RZ HbW.out hB1)).mono ?_;rintro e w2 ⟨z,rfl,hbx⟩;have hB2:=RZ hB1 hbx;clear c0 c1 c2 c3 c4;cases z
 ·go_wp2_with fail;refine (bU w2).mono ?_;rintro e w9 ⟨rfl,hb9⟩;have hF:=RZ HbW.out (RZ hB2 hb9);go_wp2_with fail;go_ret;exact ⟨rfl,hF⟩
 obtain ⟨c0,c1,c2,c3,c4⟩:=HS.out w2 hB2;go_wp2_with fail;refine (HCk.out w2 (RZ HbW.out hB2)).mono ?_;rintro e w3 ⟨rfl,hb3⟩;have hB3:=RZ hB2 hb3;clear c0 c1 c2 c3 c4 HCk;obtain ⟨c0,c1,c2,c3,c4⟩:=HS.out w3 hB3;by_cases hE : aF P M mod N L=0;rotate_left
 ·have e1 : (aF P M mod N L != 0)=true:=by simpa using hE
  clear hE H1;generalize aF P M mod N L=er at *;go_wp2_with fail;refine (bU w3).mono ?_;rintro e w9 ⟨rfl,hb9⟩;have hF:=RZ HbW.out (RZ hB3 hb9);go_wp2_with fail;go_ret;exact ⟨rfl,hF⟩
 have e1 : (aF P M mod N L != 0)=false:=by simp [hE]
 by_cases hi0 : i<0
 ·have d0 : decide (i<0)=true:=by simpa using hi0
  clear hE H1 hi0;generalize aF P M mod N L=er at *;go_wp2_with fail;refine (bU w3).mono ?_;rintro e w9 ⟨rfl,hb9⟩;have hF:=RZ HbW.out (RZ hB3 hb9);go_wp2_with fail;go_ret;exact ⟨rfl,hF⟩
 have d0 : decide (i<0)=false:=by simpa using hi0
 by_cases hiN : N<=i
 ·have d1 : decide (N<=i)=true:=by simpa using hiN
  clear hE H1 hi0 hiN;generalize aF P M mod N L=er at *;go_wp2_with fail;refine (bU w3).mono ?_;rintro e w9 ⟨rfl,hb9⟩;have hF:=RZ HbW.out (RZ hB3 hb9);go_wp2_with fail;go_ret;exact ⟨rfl,hF⟩
 have d1 : decide (N<=i)=false:=by simpa using hiN
 by_cases h20 : 20<N
 ·have d2 : decide (20<N)=true:=by simpa using h20
  clear hE H1 hi0 hiN h20;generalize aF P M mod N L=er at *;go_wp2_with fail;refine (bU w3).mono ?_;rintro e w9 ⟨rfl,hb9⟩;have hF:=RZ HbW.out (RZ hB3 hb9);go_wp2_with fail;go_ret;exact ⟨rfl,hF⟩
 have d2 : decide (20<N)=false:=by simpa using h20
 have HE:=Z5 hE;have Hij : Hid (0<=i/\i<N/\N<=20):=⟨by omega,by omega,by omega⟩
 clear hE hi0 hiN h20;go_wp2_with fail;refine (H1.out w3 (RZ HbW.out hB3)).mono ?_;rintro e w4 ⟨hb4,a1,n1,k1,a2,n2,k2,rfl,hS,hD⟩;have hB4:=RZ hB3 hb4;clear c0 c1 c2 c3 c4 H1 hD d0 d1 d2 e1;obtain ⟨j,rfl⟩ : ∃j : Nat,i=j:=⟨i.toNat,by have:=Hij.out;omega⟩
 obtain ⟨m,rfl,_,hm64,_⟩:=aM HE.out;have hjm : j<m:=by have:=Hij.out;omega
 have HL : Hid (∀p p' : Nat->Bool,p j=false->(∀k,p' k=true ↔ p k=true\/k=j)->(gk (af P M.toNat mod).ops L (da p' m)=gk (af P M.toNat mod).ops L (da p m)+1 \/
   (gk (af P M.toNat mod).ops L (da p' m)=gk (af P M.toNat mod).ops L (da p m)/\(kL P M mod m L j=0\/kL P M mod m L j=11->kL P M mod m L j=0/\n1<=(da p m).length)))):=λp p' h1 h2=>by
  rcases F2 HE.out hjm h1 h2 with h | ⟨h,h3,h4⟩
  ·exact .inl h
  ·refine .inr ⟨h,λh5=>?_⟩;have h6 : kL P M mod m L j=0:=by
    rw [vV HE.out hjm] at h5 ⊢;unfold pY at h5 ⊢;by_cases h7 : wZ P M mod m L=0
    ·rw [Nd h7,Nf h3]
    ·rw [Nf h7] at h5;exfalso;unfold wZ iA at h5 h7;split at h5
     ·rename_i h8;rw [Nd h8] at h7;exact h7 rfl
     ·rcases h5 with h5 | h5 <;> cases h5
   refine ⟨h6,?_⟩;have h8:=hS.len;rw [Nd h6,Nb] at h8;omega
 have hmS:=hS.max;unfold maxLen at hmS;clear hS;generalize kL P M mod m L j=er at *;by_cases h0 : er=0\/er=11;rotate_left
 ·have e1 : (er != 0)=true:=by simp;exact λh=>h0 (.inl h)
  have e2 : (er != 11)=true:=by simp;exact λh=>h0 (.inr h)
  have hF:=RZ HbW.out hB4;clear h0 HL;go_wp2_with fail;go_ret;exact ⟨rfl,hF⟩
 have H0:=Z5 h0;have e1 : (er != 0)=false\/((er != 0)=true/\(er != 11)=false):=by
  rcases h0 with h | h
  ·exact .inl (by simp [h])
  ·exact .inr ⟨by simp [h],by simp [h]⟩
 clear h0;obtain ⟨B,hB⟩ : ∃B : Nat->Bool,B=λk=>bits .and .u32 (z / 2 ^ k) 1 == 1:=⟨_,rfl⟩
 have HB : Hid (∀k,B k=(bits .and .u32 (z / 2 ^ k) 1 == 1)):=λk=>by rw [hB]
 clear hB;obtain ⟨c0,c1,c2,c3,c4⟩:=HS.out w4 hB4;have hm20 : m<=20:=by have:=Hij.out;omega
 have HzR:=HZ.out;rcases e1 with e1 | ⟨e1,e2⟩;all_goals (
  go_wp2_with fail
  go_loopw [10,11,60] (λrv sv iv wr=>∃(k : Nat) (ar ax : OA) (cr cx : Nat),k<=m/\iv = .int .i64 k/\rv = .slice ar (da (uB B j) k).length cr/\sv = .slice ax (da (u5 B j) k).length cx/\wr.ownsRow w4.heap.size 3 1 (.slice ar (da (uB B j) k).length cr) (da (uB B j) k).length ((da (uB B j) k).map (Value.int .i64)) /\
    wr.ownsRow w4.heap.size 3 1 (.slice ax (da (u5 B j) k).length cx) (da (u5 B j) k).length ((da (u5 B j) k).map (Value.int .i64))/\Hid (Il ar ax)/\SW w4 wr) (λ_ _ iv _=>m - (intOf iv).toNat)
  case atStart=>exact ⟨0,none,none,0,0,Ni _,rfl,rfl,rfl,by simpa [da] using bV,by simpa [da] using bV,.inl rfl,Nc _ _⟩
  case round =>
   clear c0 c1 c2 c3 c4
   obtain ⟨k,ar,ax,cr,cx,hkm,rfl,rfl,rfl,hor,hox,htw,hbr⟩:=hrel
   generalize wr=U at *
   have hBU:=RZ hB4 hbr
   obtain ⟨c0,c1,c2,c3,c4⟩:=HS.out U hBU
   by_cases hlt : k<m
   ·have hRl:=xg (uB B j) k
    have hSl:=xg (u5 B j) k
    have hcn:=ba U (.int .i64 k) 3
    have hbn:=an U (.cells #[.int .i64 k] 3)
    have hszU:=hbr.size
    have hp4 : 0<w4.heap.size:=NR Hpos.out hB4.size
    have hltx : ax ≠ none->ablk ax<(U.alloc (.cells #[.int .i64 k] 3)).heap.size:=λh=>by
     rcases lE hox with h2 | h2
     ·exact absurd h2.1 h
     ·simp;omega
    have hltr : ar ≠ none->ablk ar<(U.alloc (.cells #[.int .i64 k] 3)).heap.size:=λh=>by
     rcases lE hor with h2 | h2
     ·exact absurd h2.1 h
     ·simp;omega
    by_cases hkj : k=j
    ·have HR1 : Hid (da (uB B j) (k+1)=da (uB B j) k):=zH (by rw [hkj];exact Lq B j)
     have HS1 : Hid (da (u5 B j) (k+1)=da (u5 B j) k ++ [(k : Int)]):=vA (by rw [hkj];exact MF B j)
     generalize da (uB B j) k=R at *
     generalize da (u5 B j) k=S at *
     have e3 : ((k : Int) == (j : Int))=true:=by simp;omega
     clear hkj
     go_wp2_with (at_builtin;refine aO rfl _ _ 22 3 rfl (.int .i64 0) 8 underlying22 aU rfl w4.heap.size ax S.length cx _ rfl (hox.alloc _) ⟨U.heap.size,0,none⟩ 1 (.int .i64 k) rfl hcn rfl (by omega) (by unfold maxLen;omega) (by simp;omega) ?_;intro a5 c5 w5 hown5 hgr5 hap5)
     go_roundw
     case rel =>
      have hb5' : SW w4 w5:=Sa (N2 hbr (hbn.mono hszU)) (hox.alloc _) hgr5 (Na _) (Nr hszU hbn.size)
      refine ⟨k+1,ar,a5,cr,c5,by omega,by go_num,by rw [HR1.out],by rw [HS1.out,Nl];rfl,by rw [HR1.out];exact gO (hor.alloc _) hgr5 (htw.out.symm.sL hox hp4),by rw [HS1.out,Nl];simpa using hown5,(Il.new λh=>hap5 _ (hltr h) (htw.out.symm.sL hox hp4)).symm,hb5'⟩
     case measure=>simp [intOf] <;> omega
    ·have e3 : ((k : Int) == (j : Int))=false:=by simp;omega
     cases hbit : B k
     ·have HR1 : Hid (da (uB B j) (k+1)=da (uB B j) k):=zH (by rw [J3 B hkj];exact hbit)
      have HS1 : Hid (da (u5 B j) (k+1)=da (u5 B j) k):=zH (by rw [IU B hkj];exact hbit)
      generalize da (uB B j) k=R at *
      generalize da (u5 B j) k=S at *
      rw [HB.out] at hbit
      clear hkj
      go_wp2_with fail
      go_roundw
      case rel=>exact ⟨k+1,ar,ax,cr,cx,by omega,by go_num,by rw [HR1.out],by rw [HS1.out],by rw [HR1.out];exact hor,by rw [HS1.out];exact hox,htw,hbr⟩
      case measure=>simp [intOf] <;> omega
     ·have HR1 : Hid (da (uB B j) (k+1)=da (uB B j) k ++ [(k : Int)]):=vA (by rw [J3 B hkj];exact hbit)
      have HS1 : Hid (da (u5 B j) (k+1)=da (u5 B j) k ++ [(k : Int)]):=vA (by rw [IU B hkj];exact hbit)
      generalize da (uB B j) k=R at *
      generalize da (u5 B j) k=S at *
      rw [HB.out] at hbit
      clear hkj
      go_upto_region 14 with (at_builtin;refine aO rfl _ _ 22 3 rfl (.int .i64 0) 8 underlying22 aU rfl w4.heap.size ar R.length cr _ rfl (hor.alloc _) ⟨U.heap.size,0,none⟩ 1 (.int .i64 k) rfl hcn rfl (by omega) (by unfold maxLen;omega) (by simp;omega) ?_;intro a5 c5 w5 hown5 hgr5 hap5)
      have hb5' : SW w4 w5:=Sa (N2 hbr (hbn.mono hszU)) (hor.alloc _) hgr5 (Na _) (Nr hszU hbn.size)
      have hox5:=gO (hox.alloc _) hgr5 (htw.out.sL hor hp4)
      have htw5 : Il a5 ax:=Il.new λh=>hap5 _ (hltx h) (htw.out.sL hor hp4)
      have hor5 : w5.ownsRow w4.heap.size 3 1 (.slice a5 (R.length+1) c5) (R.length+1) ((R ++ [(k : Int)]).map (Value.int .i64)):=by simpa using hown5
      have hcn5:=ba w5 (.int .i64 k) 3
      have hbn5:=an w5 (.cells #[.int .i64 k] 3)
      have hsz5:=hb5'.size
      have hltr5 : a5 ≠ none->ablk a5<(w5.alloc (.cells #[.int .i64 k] 3)).heap.size:=λh=>by
       rcases lE hor5 with h2 | h2
       ·exact absurd h2.1 h
       ·simp;omega
      clear hown5 hgr5 hap5 hcn hbn hltx hltr hor hox
      go_wp2_with (at_builtin;refine aO rfl _ _ 22 3 rfl (.int .i64 0) 8 underlying22 aU rfl w4.heap.size ax S.length cx _ rfl (hox5.alloc _) ⟨w5.heap.size,0,none⟩ 1 (.int .i64 k) rfl hcn5 rfl (by omega) (by unfold maxLen;omega) (by simp;omega) ?_;intro a6 c6 w6 hown6 hgr6 hap6)
      go_roundw
      case rel =>
       have hb6' : SW w4 w6:=Sa (N2 hb5' (hbn5.mono hsz5)) (hox5.alloc _) hgr6 (Na _) (Nr hsz5 hbn5.size)
       exact ⟨k+1,a5,a6,c5,c6,by omega,by go_num,by rw [HR1.out,Nl];rfl,by rw [HS1.out,Nl];rfl,by rw [HR1.out,Nl];exact gO (hor5.alloc _) hgr6 (htw5.symm.sL hox5 hp4),by rw [HS1.out,Nl];simpa using hown6,(Il.new λh=>hap6 _ (hltr5 h) (htw5.symm.sL hox5 hp4)).symm,hb6'⟩
      case measure=>simp [intOf] <;> omega
   ·obtain rfl : k=m:=by omega
    have HR:=Z5 (λV (hV : SW U V)=>yG P M am mn cm mod k a n c L (uB B j) ar cr V (Hmi.out.1.ah (RZ HbW.out (RZ hBU hV))) (Hmi.out.2.ah (RZ HbW.out (RZ hBU hV))) HE.out ((R6 hor).1.ah hV))
    have HX:=Z5 (λV (hV : SW U V)=>yG P M am mn cm mod k a n c L (u5 B j) ax cx V (Hmi.out.1.ah (RZ HbW.out (RZ hBU hV))) (Hmi.out.2.ah (RZ HbW.out (RZ hBU hV))) HE.out ((R6 hox).1.ah hV))
    have hlaw:=HL.out (uB B j) (u5 B j) (Lq B j) (Le B j)
    have hRl:=xg (uB B j) k
    have hg1:=ry (af P M.toNat mod).ops L (da (uB B j) k)
    generalize gk (af P M.toNat mod).ops L (da (uB B j) k)=g at *
    generalize gk (af P M.toNat mod).ops L (da (u5 B j) k)=h at *
    generalize (da (uB B j) k).length=rl at *
    generalize (da (u5 B j) k).length=xl at *
    clear hor hox htw
    have Hlaw:=Z5 hlaw
    clear hlaw HL e1 hlt
    go_wp2_with fail
    refine (HR.out U (Nc _ _)).mono ?_
    rintro e w6 ⟨rfl,hb6⟩
    have hB6:=RZ hBU hb6
    clear c0 c1 c2 c3 c4 HR
    obtain ⟨c0,c1,c2,c3,c4⟩:=HS.out w6 hB6
    go_wp2_with fail
    refine (HX.out w6 hb6).mono ?_
    rintro e w7 ⟨rfl,hb7⟩
    have hF:=RZ HbW.out (RZ hB6 hb7)
    clear c0 c1 c2 c3 c4 HX
    rcases Hlaw.out with h1 | ⟨h1,h2⟩
    ·have e4 : ((h : Int) == (g : Int)+1)=true:=by simp;omega
     have e5 : ((h : Int) == (g : Int))=false:=by simp;omega
     go_wp2_with fail
     go_ret
     exact ⟨rfl,hF⟩
    ·have e4 : ((h : Int) == (g : Int)+1)=false:=by simp;omega
     have e5 : ((h : Int) == (g : Int))=true:=by simp;omega
     obtain ⟨rfl,h3⟩:=h2 H0.out
     have e6 : decide ((n1 : Int)<=(rl : Int))=true:=by simp;omega
     go_wp2_with fail
     all_goals (
      go_ret
      exact ⟨rfl,hF⟩))
end Go.Proofs.YthglbncgemdcbaaGreat
