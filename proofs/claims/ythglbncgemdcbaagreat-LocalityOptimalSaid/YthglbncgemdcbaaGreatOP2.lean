import Derived.Test.YthglbncgemdcbaaGreatS32
import Derived.Test.YthglbncgemdcbaaGreatOP1
namespace Go.Proofs.YthglbncgemdcbaaGreat
set_option linter.all false
set_option maxRecDepth 100000
set_option maxHeartbeats 16000000
open Go.RowKit Go.Proofs.Tryz
theorem q8 (P M : Int) (am : OA) (mn cm : Nat) (mod : Lz) (l0 l1 l2 : Int) (ax : OA) (nx cx : Nat) (v : Lz) (w : World) (hmod : Ints w am mn mod) (hv : Ints w ax nx v) :
  Calls prog 11 #[.agg #[.int .i64 P,.int .i64 M,.slice am mn cm],.agg #[.int .i64 l0,.int .i64 l1,.int .i64 l2],.slice ax nx cx] w λe w'=>e = .returned (.bool true)/\SW w w':=by
 have HOr : Hid (∀V,Calls prog 24 #[.agg #[.int .i64 P,.int .i64 M,.slice am mn cm]] V λe w'=>e = .returned (.int .i64 (aJ P M))/\SW V w'):=λV=>gK P M am mn cm V;have HCk : Hid (∀V,SW w V->Calls prog 40 #[.agg #[.int .i64 P,.int .i64 M,.slice am mn cm]] V λe w'=>e = .returned (.int .i64 (dF (bA P M mod)))/\SW V w'):=λV hV=>by have h:=oM P M am mn cm mod V (hmod.ah hV);rw [bP] at h;exact h
 have HTb : Hid (∀V,SW w V->Calls prog 25 #[.agg #[.int .i64 P,.int .i64 M,.slice am mn cm],.int .i64 l0,.int .i64 l1,.int .i64 l2] V (zG P M mod l0 l1 l2 V)):=λV hV=>Cm P M am mn cm mod l0 l1 l2 V (hmod.ah hV);have HLi : Hid (∀V (k : Nat),l2=k->SW w V->Calls prog 36 #[.agg #[.int .i64 P,.int .i64 M,.slice am mn cm],.slice ax nx cx,.int .i64 l2] V λe w'=>e = .returned (.int .i64 (fD (aJ P M) v k))/\SW V w'):=λV k hk hV=>by rw [hk];exact kG P M am mn cm ax nx cx v k V (hv.ah hV)
 have Hv:=Z5 hv;unfold zG at HTb;clear hmod hv;go_enter func11,ntmps11;go_wp2_with fail;obtain ⟨W,hW⟩ : ∃W : World,W=((w.alloc (.cells #[.int .i64 P,.int .i64 M,.slice am mn cm] 24)).alloc (.cells #[.int .i64 l0,.int .i64 l1,.int .i64 l2] 37)):=⟨_,rfl⟩
 rw [<- hW];have hbW : SW w W:=by rw [hW];exact bN _ _ _
 have x0 : aN W w.heap.size [.int .i64 P,.int .i64 M,.slice am mn cm]:=by rw [hW];exact (R9 _ _ _ (by simp)).alloc _
 have y0 : aN W (w.heap.size+1) [.int .i64 l0,.int .i64 l1,.int .i64 l2]:=by rw [hW];exact R9 _ _ _ (by simp)
 have HS : Hid (∀V,SW W V->V.cell? ⟨w.heap.size,0,none⟩=some (.int .i64 P)/\V.cell? ⟨w.heap.size,1,none⟩=some (.int .i64 M)/\V.cell? ⟨w.heap.size,2,none⟩=some (.slice am mn cm)/\V.cell? ⟨w.heap.size+1,0,none⟩=some (.int .i64 l0)/\V.cell? ⟨w.heap.size+1,1,none⟩=some (.int .i64 l1)/\V.cell? ⟨w.heap.size+1,2,none⟩=some (.int .i64 l2)):=λV hV=>by have x1:=x0.ah hV;have y1:=y0.ah hV;exact ⟨x1.cell 0 rfl,x1.cell 1 rfl,x1.cell 2 rfl,y1.cell 0 rfl,y1.cell 1 rfl,y1.cell 2 rfl⟩
 have HbW:=Z5 hbW;clear hW hbW x0 y0;refine (bU W).mono ?_;rintro e w1 ⟨rfl,hB1⟩;obtain ⟨c0,c1,c2,c3,c4,c5⟩:=HS.out w1 hB1;go_wp2_with fail;refine (HOr.out w1).mono ?_;rintro e w2 ⟨rfl,hbx⟩;have hB2:=RZ hB1 hbx;clear c0 c1 c2 c3 c4 c5 HOr;obtain ⟨q0,hq0⟩ : ∃q0,aJ P M=q0:=⟨_,rfl⟩
 rw [hq0];by_cases h32 : 32<q0
 ·have d1 : decide (32<q0)=true:=by simpa using h32
  clear h32 hq0;go_wp2_with fail;refine (bU w2).mono ?_;rintro e w9 ⟨rfl,hb9⟩;have hF:=RZ HbW.out (RZ hB2 hb9);go_wp2_with fail;go_ret;exact ⟨rfl,hF⟩
 have d1 : decide (32<q0)=false:=by simpa using h32
 have Hq0:=Z5 hq0;clear h32 hq0;obtain ⟨c0,c1,c2,c3,c4,c5⟩:=HS.out w2 hB2;go_wp2_with fail;refine (HCk.out w2 (RZ HbW.out hB2)).mono ?_;rintro e w3 ⟨rfl,hb3⟩;have hB3:=RZ hB2 hb3;clear c0 c1 c2 c3 c4 c5 HCk d1;cases hB : bA P M mod
 ·have e2 : dF false=1:=rfl;rw [e2];have e1 : ((1 : Int) != 0)=true:=rfl;clear hB e2;go_wp2_with fail;refine (bU w3).mono ?_;rintro e w9 ⟨rfl,hb9⟩;have hF:=RZ HbW.out (RZ hB3 hb9);go_wp2_with fail;go_ret;exact ⟨rfl,hF⟩
 have e2 : dF true=0:=rfl;rw [e2];clear hB e2;by_cases hv64 : 64<nx
 ·have d1 : decide ((64 : Int)<nx)=true:=by simp;omega
  clear hv64;go_wp2_with fail;refine (bU w3).mono ?_;rintro e w9 ⟨rfl,hb9⟩;have hF:=RZ HbW.out (RZ hB3 hb9);go_wp2_with fail;go_ret;exact ⟨rfl,hF⟩
 have d1 : decide ((64 : Int)<nx)=false:=by simp;omega
 clear hv64;obtain ⟨c0,c1,c2,c3,c4,c5⟩:=HS.out w3 hB3;go_wp2_with fail;refine (HTb.out w3 (RZ HbW.out hB3)).mono ?_;rintro e w4 ⟨hb4,⟨h0,rfl⟩ | ⟨h0,a1,k1,a2,k2,rfl,hI,hM⟩⟩
 ·have hB4:=RZ hB3 hb4;have e1 : (Fh P M mod l0 l1 l2 != 0)=true:=by simpa using h0
  have hF:=RZ HbW.out (RZ hB4 (an w4 (.cells #[.int .i64 0,.int .i64 0,.slice none 0 0,.int .i64 0,.slice none 0 0] 27)));have z4:=(R9 w4 [.int .i64 0,.int .i64 0,.slice none 0 0,.int .i64 0,.slice none 0 0] 27 rfl).cell 4 rfl;clear h0 c0 c1 c2 c3 c4 c5;generalize Fh P M mod l0 l1 l2=er at *;go_wp2_with fail;go_ret;exact ⟨rfl,hF⟩
 have hB4:=RZ hB3 hb4;clear c0 c1 c2 c3 c4 c5 HTb d1;obtain ⟨hB,cn,rn,kn,g0,g1,g2,g3,g4,g5,g6,g7,g8,g9,g10,g11,g12⟩:=SS h0;have HOk : Gk P M mod cn rn kn:=⟨hB,g3,g5,g7,g9,g10,g11,g12,g8⟩
 have hI:=hI.ints;have hM:=hM.jt;have t0 : l0.toNat=cn:=by rw [g0];exact Nb cn
 have t1 : l1.toNat=rn:=by rw [g1];exact Nb rn
 have t2 : l2.toNat=kn:=by rw [g2];exact Nb kn
 rw [t0,t1,t2] at hM ⊢;have hSl:=zo HOk;have hSc:=ik HOk;have hSs:=λj=>R0 HOk (j:=j);obtain ⟨hW1,hW2⟩:=xl HOk;have hq : ((af P M.toNat mod).q : Int)=aJ P M:=by obtain ⟨m1,e1,_,h1,_⟩:=dB hB;rw [show M.toNat=m1 by omega];exact h1
 obtain ⟨S,hS⟩ : ∃S,J6 P M mod cn rn kn=S:=⟨_,rfl⟩
 rw [hS] at hM hSl hSc hSs hW2 ⊢;obtain ⟨m,hm⟩ : ∃m,(rn+1) * cn=m:=⟨_,rfl⟩
 rw [hm] at hSc hW1 hW2 g11 ⊢;obtain ⟨Nii,hNi⟩ : ∃Nii : Int,Nii=(m : Int):=⟨_,rfl⟩
 rw [<- hNi,<- g1,<- g2] at hW1;rw [<- hNi];obtain ⟨bv,hbv⟩ : ∃bv,qI (m : Int) kn rn=bv:=⟨_,rfl⟩
 rw [hbv] at hW2;have HBd : Hid (∀V,Calls prog 22 #[.int .i64 Nii,.int .i64 l2,.int .i64 l1] V λe w'=>e = .returned (.tuple #[.int .i64 bv,.int .i64 0])/\w'=V):=λV=>by have h:=uq Nii l2 l1 V;rw [hW1,hNi,g1,g2,hbv] at h;rw [hNi,g1,g2];exact h
 obtain ⟨qss,hqs⟩ : ∃qss,S.length=qss:=⟨_,rfl⟩
 rw [hqs] at hM hSl ⊢;obtain ⟨nm,hnm⟩ : ∃nm,mod.length=nm:=⟨_,rfl⟩
 rw [hnm] at hI ⊢;have HRk : Hid (∀V Q aq nq cq,dk (m : Int) Q=true->SW w4 V->Ints V aq nq Q->Calls prog 39 #[.agg #[.int .i64 P,.int .i64 M,.slice a1 nm k1,.int .i64 Nii,.slice a2 qss k2],.slice aq nq cq] V λe w'=>e = .returned (.tuple #[.int .i64 (gk (af P M.toNat mod).ops S Q : Nat),.int .i64 0])/\SW V w'):=λV Q aq nq cq hQ hV hq=>by
  rw [hNi];refine (IY P M a1 nm k1 mod m a2 qss k2 S aq nq cq Q V (hI.ah hV) (hM.ah hV) hq).mono ?_;have h0 : pI P M mod m S Q=0:=by rw [pI,Nd hSc,yS,Nd hQ]
  rintro e w' ⟨hb,⟨h1,_⟩ | ⟨_,rfl⟩⟩
  ·exact absurd h0 h1
  ·exact ⟨rfl,hb⟩
 have HEn : Hid (∀V,SW w4 V->SW w V->Calls prog 37 #[.agg #[.int .i64 P,.int .i64 M,.slice a1 nm k1,.int .i64 Nii,.slice a2 qss k2],.slice ax nx cx] V λe w'=>SW V w'/\((fD q0 v kn ≠ 0/\e = .returned (.tuple #[.slice none 0 0,.int .i64 (fD q0 v kn)]))\/(∃a5 c5 X,e = .returned (.tuple #[.slice a5 m c5,.int .i64 0])/\Ints w' a5 m X/\(fB v=0\/bv<=(fB X : Int))))):=λV hV hV2=>by
  rw [hNi];refine (Dp P M a1 nm k1 mod m a2 qss k2 S ax nx cx v V (hI.ah hV) (hM.ah hV) (Hv.out.ah hV2) hSc).mono ?_;rw [hq,Hq0.out,hSl];rintro e w' ⟨hb,⟨h1,rfl⟩ | ⟨h1,a5,c5,rfl,h5⟩⟩
  ·exact ⟨hb,.inl ⟨h1,rfl⟩⟩
  ·exact ⟨hb,.inr ⟨a5,c5,_,rfl,h5,hW2 v (by rw [hq,Hq0.out];exact h1)⟩⟩
 have HLi2 : Hid (∀V,SW w V->Calls prog 36 #[.agg #[.int .i64 P,.int .i64 M,.slice am mn cm],.slice ax nx cx,.int .i64 l2] V λe w'=>e = .returned (.int .i64 (fD q0 v kn))/\SW V w'):=λV hV=>by rw [<- Hq0.out];exact HLi.out V kn g2 hV
 have HSs : Hid (∀j,j<cn->gk (af P M.toNat mod).ops S (ak ((rn+1) * j) (rn+1))=gk (af P M.toNat mod).ops S (ak ((rn+1) * j) rn)):=hSs;obtain ⟨rk,hrk⟩ : ∃f : Lz->Nat,gk (af P M.toNat mod).ops S=f:=⟨_,rfl⟩
 rw [hrk] at HRk HSs;have x4:=R9 w4 [.int .i64 P,.int .i64 M,.slice a1 nm k1,.int .i64 Nii,.slice a2 qss k2] 27 rfl;have n4:=an w4 (.cells #[.int .i64 P,.int .i64 M,.slice a1 nm k1,.int .i64 Nii,.slice a2 qss k2] 27);obtain ⟨X0,hX0⟩ : ∃X0 : World,X0=w4.alloc (.cells #[.int .i64 P,.int .i64 M,.slice a1 nm k1,.int .i64 Nii,.slice a2 qss k2] 27):=⟨_,rfl⟩
 rw [<- hX0] at x4 n4;obtain ⟨g,hg⟩ : ∃g,w4.heap.size=g:=⟨_,rfl⟩
 rw [hg] at x4;have HC5 : Hid (∀V,SW X0 V->V.cell? ⟨g,0,none⟩=some (.int .i64 P)/\V.cell? ⟨g,1,none⟩=some (.int .i64 M)/\V.cell? ⟨g,2,none⟩=some (.slice a1 nm k1)/\V.cell? ⟨g,3,none⟩=some (.int .i64 Nii)/\V.cell? ⟨g,4,none⟩=some (.slice a2 qss k2)):=λV hV=>by have x:=x4.ah hV;exact ⟨x.cell 0 rfl,x.cell 1 rfl,x.cell 2 rfl,x.cell 3 rfl,x.cell 4 rfl⟩
 have hB5:=RZ hB4 n4;have HX0:=Z5 (Np hB5 n4);obtain ⟨Ri,hRi⟩ : ∃Ri : Int,Ri=(rn : Int)+1:=⟨_,rfl⟩
 have wR : IntKind.i64.wrap (l1+1)=Ri:=by rw [show l1+1=Ri by omega];exact Ns _ (by omega)
 have hR0b : (Ri == 0)=false:=by rw [beq_eq_false_iff_ne];omega
 have hR0p : Ri ≠ 0:=by omega
 have tm : Nii.tmod Ri=0:=by rw [hNi,hRi,Ow (by omega),<- hm,show ((rn : Int)+1)=((rn+1 : Nat) : Int) by omega,<- Pc,Nat.mul_mod_right];rfl
 have d1 : decide (l1<1)=false:=by simp;omega
 have d2 : decide (64<l1)=false:=by simp;omega
 have hm1 : 1<=m:=by have h:=PU (show 1<=rn+1 by omega) g3;omega
 have d3 : decide (Nii<1)=false:=by simp;omega
 have d4 : decide (64<Nii)=false:=by simp;omega
 have d5 : ((qss : Int) != l2)=false:=by simp;omega
 have HNum:=Z5 (Np hNi (Np g1 (Np g2 (Np hm (Np hRi (Np g11 (Np g6 g5)))))));clear h0 hB g0 g1 g2 g3 g4 g5 g6 g7 g8 g9 g10 g11 g12 HOk hI hM t0 t1 t2 hSl hSc hSs hW1 hW2 hq hS hm hNi hbv hqs hnm hrk x4 n4 hRi hB4 HLi;obtain ⟨c0,c1,c2,c3,c4,c5⟩:=HS.out X0 hB5;obtain ⟨b0,b1,b2,b3,b4⟩:=HC5.out X0 (Nc _ _);go_upto_region 4 with fail;try rw [<- hX0]
 try rw [hg]
 clear hX0 hg hB5 hm1;go_wp2_with fail;go_loopw [10] (λiv wr=>∃(j : Nat) (i : Int),j<=cn/\Hid (i=(((rn+1) * j : Nat) : Int))/\iv = .int .i64 i/\SW X0 wr) (λiv _=>m+1 - (intOf iv).toNat);case atStart=>exact ⟨0,0,Ni _,by show _=_;simp,rfl,Nc _ _⟩
 case round =>
  clear c0 c1 c2 c3 c4 c5 b0 b1 b2 b3 b4 d1 d2 d3 d4 d5 tm
  obtain ⟨j,i,hj,Hi,rfl,hbr⟩:=hrel
  generalize wr=X at *
  have hBX:=RZ HX0.out.1 hbr
  obtain ⟨c0,c1,c2,c3,c4,c5⟩:=HS.out X hBX
  obtain ⟨b0,b1,b2,b3,b4⟩:=HC5.out X hbr
  obtain ⟨hNi,hl1,hl2,hm,hRi,hm64,hr64,hr1⟩:=HNum.out
  by_cases hlt : j<cn
  ·obtain ⟨lo,hlo⟩ : ∃lo,(rn+1) * j=lo:=⟨_,rfl⟩
   have hlm : lo+rn+1<=m:=by have h:=OW (rn+1) (show j+1<=cn by omega);rw [PZ,hlo,hm] at h;omega
   have hst:=HSs.out j hlt
   have hi:=Hi.out
   rw [hlo] at hst hi
   have hlo2 : (rn+1) * (j+1)=lo+(rn+1):=by rw [PZ,hlo]
   have d1 : decide (i<Nii)=true:=by simp;omega
   obtain ⟨ir,hir⟩ : ∃ir : Int,ir=i+l1:=⟨_,rfl⟩
   have wir : IntKind.i64.wrap (i+l1)=ir:=by rw [<- hir];exact Ns _ (by omega)
   obtain ⟨i2,hi2⟩ : ∃i2 : Int,i2=i+Ri:=⟨_,rfl⟩
   have wi2 : IntKind.i64.wrap (i+Ri)=i2:=by rw [<- hi2];exact Ns _ (by omega)
   have HE:=Z5 (Np hir (Np hi2 (Np hi (Np hlo2 (Np hlm hst)))))
   have hbS1:=et (m:=m) (lo:=lo) (n:=rn) (by omega)
   have hbS2:=et (m:=m) (lo:=lo) (n:=rn+1) (by omega)
   have HOs:=Z5 (Np hbS1 hbS2)
   have hilim : 0<=i/\i<=64:=by omega
   have hllim : 1<=l1/\l1<=64:=by omega
   clear hNi hl1 hl2 hm hRi hm64 hr1 hlo hst hi hlo2 hir hi2 hbS1 hbS2 hlm
   go_wp2_with fail
   go_loopw [11,12] (λsv kv ws=>∃(t : Nat) (kk : Int) (a6 : OA) (c6 : Nat),t<=rn/\Hid (kk=((lo+t : Nat) : Int))/\kv = .int .i64 kk/\sv = .slice a6 t c6/\ws.ownsRow X.heap.size 3 1 (.slice a6 t c6) t ((ak lo t).map (Value.int .i64))/\SW X ws) (λ_ kv _=>200 - (intOf kv).toNat)
   case atStart=>exact ⟨0,i,none,0,Ni _,by show _=_;rw [HE.out.2.2.1];rfl,rfl,rfl,⟨rfl,.inl ⟨rfl,rfl⟩⟩,Nc _ _⟩
   case round =>
    obtain ⟨t,kk,a6,c6,ht,Hkk,rfl,rfl,hown,hbt⟩:=hrel
    generalize wr=Y at *
    obtain ⟨hir,hi2,hi,hlo2,hlm,hst⟩:=HE.out
    obtain ⟨hNi,hl1,hl2,hm,hRi,hm64,hr64,hr1⟩:=HNum.out
    have hkk:=Hkk.out
    by_cases htr : t<rn
    ·have d2 : decide (kk<ir)=true:=by simp;omega
     have hklim : 0<=kk/\kk<=100:=by omega
     have wkk : IntKind.i64.wrap (kk+1)=kk+1:=Ns _ (by omega)
     have hcn:=ba Y (.int .i64 kk) 3
     have hbn:=an Y (.cells #[.int .i64 kk] 3)
     have hszY:=hbt.size
     have Hsp : Hid ((ak lo (t+1)).map (Value.int .i64)=(ak lo t).map (Value.int .i64) ++ [.int .i64 kk]):=by show _=_;rw [bz,NM,hkk];rfl
     clear hir hi2 hi hlo2 hlm hst hNi hl1 hl2 hm hRi hm64 hr1 hkk
     go_wp2_with (at_builtin;refine aO rfl _ _ 22 3 rfl (.int .i64 0) 8 underlying22 aU rfl X.heap.size a6 t c6 _ rfl (hown.alloc _) ⟨Y.heap.size,0,none⟩ 1 (.int .i64 kk) rfl hcn rfl (by omega) (by unfold maxLen;omega) (by simp;omega) ?_;intro a7 c7 w7 hown7 hgr7 hap7)
     go_roundw
     case rel=>exact ⟨t+1,kk+1,a7,c7,by omega,by show _=_;rw [Hkk.out];omega,rfl,rfl,by rw [Hsp.out];exact hown7,Sa (N2 hbt (hbn.mono hszY)) (hown.alloc _) hgr7 (Na _) (Nr hszY hbn.size)⟩
     case measure=>simp [intOf] <;> omega
    ·obtain rfl : t=rn:=by omega
     have d2 : decide (kk<ir)=false:=by simp;omega
     have hBY:=RZ hBX hbt
     have hb4Y:=RZ HX0.out.2 (RZ hbr hbt)
     have Hown:=Z5 hown
     have HR1:=Z5 (HRk.out Y (ak lo t) a6 t c6 HOs.out.1 hb4Y (R6 hown).1)
     clear hir hi2 hi hlo2 hlm hst hNi hl1 hl2 hm hRi hm64 hr1 hkk hown c0 c1 c2 c3 c4 c5 b0 b1 b2 b3 b4
     obtain ⟨b0,b1,b2,b3,b4⟩:=HC5.out Y (RZ hbr hbt)
     go_wp2_with fail
     refine HR1.out.mono ?_
     rintro e Z ⟨rfl,hbz⟩
     have hbZ0:=RZ (RZ hbr hbt) hbz
     have hb4Z:=RZ hb4Y hbz
     have hownZ:=bd Hown.out hbz
     have hIZ:=(R6 hownZ).1
     have hplr:=hIZ.pl
     have HS2 : Hid (∀V,SW Z V->V.cell? ⟨g,0,none⟩=some (.int .i64 P)/\V.cell? ⟨g,1,none⟩=some (.int .i64 M)/\V.cell? ⟨g,2,none⟩=some (.slice a1 nm k1)/\V.cell? ⟨g,3,none⟩=some (.int .i64 Nii)/\V.cell? ⟨g,4,none⟩=some (.slice a2 qss k2)/\Ints V a6 t (ak lo t)/\SW Z V):=λV hV=>by obtain ⟨y0,y1,y2,y3,y4⟩:=HC5.out V (RZ hbZ0 hV);exact ⟨y0,y1,y2,y3,y4,hIZ.ah hV,hV⟩
     have HR2 : Hid (∀V aq cq,SW Z V->Ints V aq (t+1) (ak lo (t+1))->Calls prog 39 #[.agg #[.int .i64 P,.int .i64 M,.slice a1 nm k1,.int .i64 Nii,.slice a2 qss k2],.slice aq (t+1) cq] V λe w'=>e = .returned (.tuple #[.int .i64 (rk (ak lo t) : Nat),.int .i64 0])/\SW V w'):=λV aq cq hV hq=>by have h:=HRk.out V (ak lo (t+1)) aq (t+1) cq HOs.out.2 (RZ hb4Z hV) hq;rw [HE.out.2.2.2.2.2] at h;exact h
     have Hsp : Hid ((ak lo (t+1)).map (Value.int .i64)=(ak lo t).map (Value.int .i64) ++ [.int .i64 ir]):=by show _=_;have h1:=HE.out.1;have h2:=HE.out.2.2.1;have h3:=HNum.out.2.1;rw [bz,NM,show ir=((lo+t : Nat) : Int) by omega];rfl
     have Hdl : Hid ((ak lo t).length=t):=ee lo t
     have hbr0 : Hid (SW Z Z):=Nc _ _
     have hO0:=fA Z 3
     have hO2 : ((Z.alloc (.cells #[.int .i64 ir] 3)).alloc (.cells #[] 3)).ownsRow Z.heap.size 3 1 (.slice (some ⟨Z.heap.size+1,0,none⟩) 0 0) 0 []:=by have h:=aX (fA (Z.alloc (.cells #[.int .i64 ir] 3)) 3) (B':=Z.heap.size) (by simp);rwa [Pb] at h
     generalize ak lo t=Di at *
     clear hIZ hownZ HR1 b0 b1 b2 b3 b4 d2
     obtain ⟨b0,b1,b2,b3,b4,_,_⟩:=HS2.out Z hbr0.out
     go_upto_region 18 with fail
     go_cut [15,16] (λu uu2 wx=>u = .int .i64 (rk Di : Nat)/\uu2 = .int .i64 0/\SW Z wx)
     case first =>
      go_region_held3 (λV=>V.cell? ⟨g,0,none⟩=some (.int .i64 P)/\V.cell? ⟨g,1,none⟩=some (.int .i64 M)/\V.cell? ⟨g,2,none⟩=some (.slice a1 nm k1)/\V.cell? ⟨g,3,none⟩=some (.int .i64 Nii)/\V.cell? ⟨g,4,none⟩=some (.slice a2 qss k2)/\Ints V a6 t Di/\SW Z V)
       ((refine HS2.out _ ?_;first | exact hb5 | exact hb4 | exact hbr0.out.drew | exact (an _ _).drew | exact an _ _ | exact (bN _ _ _).drew | exact bN _ _ _ | exact Sb hb5 _ | exact Sb hb4 _ | assumption | (go_split_ands;assumption) | (go_split_ands;exact Sb (by assumption) _)))
       (first
        | (obtain ⟨_,_,_,_,_,hIr,hB9⟩:=(by assumption : _/\_/\_/\_/\_/\Ints _ a6 t Di/\SW Z _);refine dE (by rfl) (.tmp 117) (.tmp 118) 22 3 (by rfl) (.int .i64 0) 8 underlying22 aU (by rfl) Z.heap.size _ 0 0 [] (by rfl) (by first | exact hO0 | exact hO0.alloc _ | exact hO2) a6 t c6 (Di.map (Value.int .i64)) (by rfl) hplr (by rw [Nq];exact Hdl.out) (Si hIr) (ints_oneCell _ _) (by omega) (by unfold maxLen;omega) (by first | exact (an Z _).size | exact (bN Z _ _).size) ?_;intro a4 c4 w4 hown4 hgr4 hap4;have hb4 : SW Z w4:=(by first | exact Sa (e:=3) (xs:=[]) (an Z _) (by first | exact hO0 | exact hO0.alloc _ | exact hO2) hgr4 (Na _) (an Z _).size | exact Sa (e:=3) (xs:=[]) (an Z _).drew (by first | exact hO0 | exact hO0.alloc _ | exact hO2) hgr4 (Na _) (an Z _).drew.size | exact Sa (e:=3) (xs:=[]) (bN Z _ _) (by first | exact hO0 | exact hO0.alloc _ | exact hO2) hgr4 (Na _) (bN Z _ _).size | exact Sa (e:=3) (xs:=[]) (bN Z _ _).drew (by first | exact hO0 | exact hO0.alloc _ | exact hO2) hgr4 (Na _) (bN Z _ _).drew.size);rw [OI] at hown4 ⊢;rw [N5] at hown4;(first | (have hc4:=bT (ad:=⟨Z.heap.size+1,0,none⟩) (v:=.int .i64 ir) hgr4 (dj _ _ _ (by simp)) (.inr (by simp))) | (have hc4:=bT (ad:=⟨Z.heap.size,0,none⟩) (v:=.int .i64 ir) hgr4 (bu (dj _ _ _ rfl) _) (.inr (by simp))) | skip))
        | (refine dE (by rfl) (.tmp 119) (.tmp 123) 22 3 (by rfl) (.int .i64 0) 8 underlying22 aU (by rfl) Z.heap.size a4 t c4 (Di.map (Value.int .i64)) (by rfl) (by first | exact hown4 | exact hown4.alloc _) _ 1 1 [.int .i64 ir] (by rfl) (λ_=>rfl) rfl (by intro j hj;obtain rfl : j=0:=(by omega);first | exact dj _ _ _ rfl | exact hc4) (by intro y hy;simp at hy;subst hy;rfl) (by omega) (by unfold maxLen;omega) (by first | exact hb4.size | exact (Sb hb4 _).size) ?_;intro a5 c5 w5 hown5 hgr5 hap5;have hb5 : SW Z w5:=(by first | exact Sa (Sb hb4 _) (hown4.alloc _) hgr5 (Na _) (Sb hb4 _).size | exact Sa hb4 hown4 hgr5 (Na _) hb4.size);have hI5 : Ints w5 a5 (t+1) (ak lo (t+1)):=(by rw [<- Hsp.out] at hown5;exact (R6 hown5).1))
        | (go_at_call 39;((with_reducible refine (HR2.out _ _ _ (by first | exact hb5.drew | exact hb5) (by first | exact hI5.ah (Nc _ _).drew | exact hI5)).mono ?_);rintro e w6 ⟨rfl,hb6⟩;have hb7 : SW Z w6:=(by first | exact RZ hb5 (RZ (Nc _ _).drew hb6) | exact RZ hb5 hb6))))
      all_goals (
       go_wp2_with fail
       go_meet
       exact ⟨rfl,rfl,by assumption⟩)
     obtain ⟨rfl,rfl,hbc⟩:=hcut
     generalize wc=Z2 at *
     have hbZ2:=RZ hbZ0 hbc
     have e1 : (((rk Di : Nat) : Int) != ((rk Di : Nat) : Int))=false:=by simp
     generalize rk Di=ggg at *
     clear hO0 hO2 b0 b1 b2 b3 b4 HR2 HS2
     go_wp2_with fail
     go_roundw
     case rel=>exact ⟨j+1,i2,by omega,by show _=_;rw [HE.out.2.1,HE.out.2.2.2.1,HE.out.2.2.1,HNum.out.2.2.2.2.1];omega,rfl,hbZ2⟩
     case measure =>
      have h1:=HE.out.2.1
      have h2:=HE.out.2.2.1
      have h3:=HNum.out.2.2.2.2.1
      have h4:=HE.out.2.2.2.2.1
      simp [intOf] <;> omega
  ·obtain rfl : j=cn:=by omega
   have hi:=Hi.out
   rw [hm] at hi
   have d1 : decide (i<Nii)=false:=by simp;omega
   have hwX:=RZ HbW.out hBX
   have hb4X:=RZ HX0.out.2 hbr
   have HE1:=Z5 (HEn.out X hb4X hwX)
   have HB1:=Z5 (HBd.out X)
   clear hi hNi hl1 hl2 hm hRi hm64 hr1 hlt
   go_wp2_with fail
   refine HB1.out.mono ?_
   rintro e X1 ⟨rfl,rfl⟩
   go_wp2_with fail
   refine HE1.out.mono ?_
   rintro e X2 ⟨hbe,hcase⟩
   have hB2':=RZ hBX hbe
   clear c0 c1 c2 c3 c4 c5 b0 b1 b2 b3 b4 HE1 HB1
   rcases hcase with ⟨hne,rfl⟩ | ⟨a5,c5,XX,rfl,h5,hlaw⟩
   ·have HL3:=Z5 (HLi2.out X2 (RZ HbW.out hB2'))
    have e1 : (fD q0 v kn != 0)=true:=by simpa using hne
    clear hne
    generalize fD q0 v kn=er at *
    obtain ⟨c0,c1,c2,c3,c4,c5⟩:=HS.out X2 hB2'
    go_wp2_with fail
    refine HL3.out.mono ?_
    rintro e X3 ⟨rfl,hb3'⟩
    have hF:=RZ HbW.out (RZ hB2' hb3')
    clear c0 c1 c2 c3 c4 c5
    go_wp2_with fail
    go_ret
    exact ⟨rfl,hF⟩
   ·have HW1:=Z5 (gg ax nx cx v X2 (Hv.out.ah (RZ HbW.out hB2')))
    have HW2:=Z5 (gg a5 m c5 XX X2 h5)
    have hF:=RZ HbW.out hB2'
    have Hlaw : Hid ((((fB v : Nat) : Int) == 0)=true\/((((fB v : Nat) : Int) == 0)=false/\decide (bv<=((fB XX : Nat) : Int))=true)):=by
     by_cases h : fB v=0
     ·exact .inl (by simp [h])
     ·rcases hlaw with h2 | h2
      ·exact absurd h2 h
      ·exact .inr ⟨by simpa using h,by simpa using h2⟩
    obtain ⟨u1,hu1⟩ : ∃u : Int,((fB v : Nat) : Int)=u:=⟨_,rfl⟩
    obtain ⟨uu2,hu2⟩ : ∃u : Int,((fB XX : Nat) : Int)=u:=⟨_,rfl⟩
    rw [hu1] at HW1 Hlaw
    rw [hu2] at HW2 Hlaw
    clear hu1 hu2 hlaw h5
    rcases Hlaw.out with e1 | ⟨e1,e2⟩
    ·go_wp2_with fail
     refine HW1.out.mono ?_
     rintro e X3 ⟨rfl,rfl⟩
     go_wp2_with fail
     go_ret
     exact ⟨rfl,hF⟩
    ·go_wp2_with fail
     refine HW1.out.mono ?_
     rintro e X3 ⟨rfl,rfl⟩
     go_wp2_with fail
     refine HW2.out.mono ?_
     rintro e X3 ⟨rfl,rfl⟩
     go_wp2_with fail
     go_ret
     exact ⟨rfl,hF⟩
section
open Go.ChangeShapes Go.WideShapes Go.ChangeAt Go.RowKit
section
variable {H : Type} {enc : TypeId × Value->H} {W : World} {held : Bool} {fuel : Nat} {cs : List Value} {x : DataW H × List MemPlace}
end
section
variable {H : Type} {enc : TypeId × Value->H} {W : World} {held : Bool} {b0 : Nat} {v : Value} {d : DataW H} {p : List MemPlace}
theorem I5 (hv : Value.okWide prog W .any b0 37 v) (h : DataW.Trod enc prog W 0 (λ_=>true) held 37 v d p) :
  ∃(z1 z2 z3 : Int),v = .agg #[.int .i64 z1,.int .i64 z2,.int .i64 z3]:=by
 obtain ⟨cs,rfl,hsz⟩:=zJ underlying37 hv;rw [show prog.cellsOf 37 = 3 by kernel_rfl] at hsz;obtain ⟨l⟩:=cs;match l,hsz with
 | [v0,v1,v2],_ =>
 obtain ⟨fuel,hf⟩:=h;obtain ⟨xs,n0,_,_,_,hlen,hfs⟩:=DataW.trod_array underlying37 hf;obtain ⟨y0,y1,y2,rfl⟩ : ∃y0 y1 y2,xs=[y0,y1,y2]:=by
  match xs,hlen with
  | [y0,y1,y2],_=>exact ⟨y0,y1,y2,rfl⟩
 have k3 : prog.cellsOf 3 = 1:=by kernel_rfl
 have g0 : DataW.trod enc prog W 0 (λ_=>true) held n0 3 [v0]=some y0:=by simpa [Value.cells,k3] using hfs 0 (by omega)
 have g1 : DataW.trod enc prog W 0 (λ_=>true) held n0 3 [v1]=some y1:=by simpa [Value.cells,k3] using hfs 1 (by omega)
 have g2 : DataW.trod enc prog W 0 (λ_=>true) held n0 3 [v2]=some y2:=by simpa [Value.cells,k3] using hfs 2 (by omega)
 obtain ⟨z1,e1,_,_⟩:=PS underlying3 g0;obtain ⟨z2,e2,_,_⟩:=PS underlying3 g1;obtain ⟨z3,e3,_,_⟩:=PS underlying3 g2;simp at e1 e2 e3;subst e1 e2 e3;exact ⟨z1,z2,z3,rfl⟩
theorem Of (hv : Value.okWide prog W .any b0 24 v) (h : DataW.Trod enc prog W 0 (λ_=>true) held 24 v d p) :
  ∃(P M : Int) (am : OA) (mn cm : Nat) (mod : Lz),v = .agg #[.int .i64 P,.int .i64 M,.slice am mn cm]/\Ints W am mn mod:=by
 obtain ⟨cs,rfl,hsz⟩:=okWide_struct underlying24 hv;rw [show prog.cellsOf 24 = 3 by kernel_rfl] at hsz;obtain ⟨l⟩:=cs;match l,hsz with
 | [v0,v1,v2],_ =>
 obtain ⟨fuel,hf⟩:=h;obtain ⟨xs,n0,_,_,_,hlen,hfs⟩:=Qa underlying24 hf;obtain ⟨y0,y1,y2,rfl⟩ : ∃y0 y1 y2,xs=[y0,y1,y2]:=by
  match xs,hlen with
  | [y0,y1,y2],_=>exact ⟨y0,y1,y2,rfl⟩
 have k3 : prog.cellsOf 3 = 1:=by kernel_rfl
 have k22 : prog.cellsOf 22 = 1:=by kernel_rfl
 have g0 : DataW.trod enc prog W 0 (λ_=>true) held n0 3 [v0]=some y0:=by simpa [Value.cells,k3] using hfs 0 _ rfl
 have g1 : DataW.trod enc prog W 0 (λ_=>true) held n0 3 [v1]=some y1:=by simpa [Value.cells,k3] using hfs 1 _ rfl
 have g2 : DataW.trod enc prog W 0 (λ_=>true) held n0 22 [v2]=some y2:=by simpa [Value.cells,k22] using hfs 2 _ rfl
 obtain ⟨x1,e1,_,_⟩:=PS underlying3 g0;obtain ⟨x2,e2,_,_⟩:=PS underlying3 g1;obtain ⟨a,n,c,l,e3,h3⟩:=oX g2;simp at e1 e2 e3;subst e1 e2 e3;exact ⟨x1,x2,a,n,c,l,rfl,h3⟩
end
end
end Go.Proofs.YthglbncgemdcbaaGreat
