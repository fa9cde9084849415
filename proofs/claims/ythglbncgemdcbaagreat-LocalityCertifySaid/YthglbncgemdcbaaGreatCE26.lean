import Derived.Test.YthglbncgemdcbaaGreatCE25
namespace Go.Proofs.YthglbncgemdcbaaGreat
set_option linter.all false
set_option maxRecDepth 100000
set_option maxHeartbeats 8000000
open Go.RowKit Go.Proofs.Tryz
theorem qA (P M:Int) (am:OA) (S cm:Nat) (mod:LI) (N:Int) (a:OA) (n c:Nat) (L:Ll) (w:World) (Y:Ints w am S mod) (hi:bw w a n L) :
  Calls prog 6 #[.agg #[cG P,cG M,.slice am S cm,cG N,.slice a n c]] w λe w'=>e = .returned (.bool true)/\PY w w':=by
 have HSm:Hid (∀V,PY w V->Calls prog 14 #[.agg #[cG P,cG M,.slice am S cm,cG N,.slice a n c]] V (lu V)):=λV U=>wL P M am S cm mod N a n c L V (Y.af U) (hi.af U);have H1:Hid (∀V,PY w V->Calls prog 28 #[.agg #[cG P,cG M,.slice am S cm,cG N,.slice a n c]] V (Ks (ky P M mod N L) (if ky P M mod N L=0 then bW P M mod N.toNat L else []) (if ky P M mod N L=0 then gK P M mod N.toNat L N.toNat else []) V)):=λV U=>(mK P M am S cm mod N a n c L V (Y.af U) (hi.af U)).mono λe w' h=>Km h;have H2:Hid (∀V,PY w V->Calls prog 29 #[.agg #[cG P,cG M,.slice am S cm,cG N,.slice a n c]] V (Ks (ky P M mod N L) (if ky P M mod N L=0 then bW P M mod N.toNat L else []) (if ky P M mod N L=0 then gK P M mod N.toNat L N.toNat else []) V)):=λV U=>(sF P M am S cm mod N a n c L V (Y.af U) (hi.af U)).mono λe w' h=>Km h;have HLo:Hid (∀V,PY w V->Calls prog 20 #[.agg #[cG P,cG M,.slice am S cm,cG N,.slice a n c]] V λe w'=>e = .returned (.tuple #[cG (xW P M mod N L),cG (fy P M mod N L)])/\PY V w'):=λV U=>lZ P M am S cm mod N a n c L V (Y.af U) (hi.af U);have HK:Hid (ky P M mod N L=0->∃(m:Nat) (Q:LI),N=m/\m<=64/\fy P M mod N L=0/\mxI Q m=xW P M mod N L/\∀V a1 F j a2 E r,PY w V->bw V a1 F (if ky P M mod N L=0 then bW P M mod N.toNat L else [])->fQ V a2 E (if ky P M mod N L=0 then gK P M mod N.toNat L N.toNat else []) ->
   Calls prog 31 #[.agg #[cG P,cG M,.slice am S cm,cG N,.slice a n c],.agg #[.slice a1 F j,.slice a2 E r]] V λe w'=>PY V w'/\∃a5 c5,e = .returned (.tuple #[.slice a5 m c5,cG 0])/\Ints w' a5 m Q):=λh=>by
  have hA:fy P M mod N L=0:=by
   unfold ky at h;split at h
   ·assumption
   ·rename_i h0;exact absurd h h0
  obtain ⟨hE,_,_⟩:=kc hA;obtain ⟨m,rfl,_,A,_⟩:=aZ hE;have e0:(m:Int).toNat=m:=KV m;refine ⟨m,vy (bW P M mod m L) m,rfl,A,hA,?_,λV a1 F j a2 E r U hM hT=>?_⟩
  ·unfold xW;rw [KX hA,e0];exact CA hA m (KT m)
  ·rw [KX h,e0] at hM hT;refine (qq P M am S cm mod m a n c L a1 F j _ a2 E r _ V (Y.af U) (hi.af U) hM hT).mono ?_;rintro e w' ⟨b,⟨h0,_⟩ | ⟨_,a5,c5,rfl,h5⟩⟩
   ·exact absurd (Kb h) h0
   ·rw [e0] at h5;exact ⟨b,a5,c5,by rw [e0],h5⟩
 unfold Ks at H1 H2;generalize (if ky P M mod N L=0 then bW P M mod N.toNat L else [])=SS at *;generalize (if ky P M mod N L=0 then gK P M mod N.toNat L N.toNat else [])=TT at *;generalize ky P M mod N L=er at *;generalize xW P M mod N L=v at *;generalize fy P M mod N L=ae at *;clear Y hi;go_enter func6,ntmps6;go_wp2_with fail;obtain ⟨W,hW⟩:∃W:World,W=(w.alloc (.cells #[cG P,cG M,.slice am S cm,cG N,.slice a n c] 27)):=⟨_,rfl⟩
 rw [<- hW];have hbW:PY w W:=by rw [hW];exact an _ _
 have x0:aQ W w.heap.size [cG P,cG M,.slice am S cm,cG N,.slice a n c]:=by rw [hW];exact Po _ _ _ (by simp)
 have HS:Hid (∀V,PY W V->V.cell? ⟨w.heap.size,0,none⟩=some (cG P)/\V.cell? ⟨w.heap.size,1,none⟩=some (cG M)/\V.cell? ⟨w.heap.size,2,none⟩=some (.slice am S cm)/\V.cell? ⟨w.heap.size,3,none⟩=some (cG N)/\V.cell? ⟨w.heap.size,4,none⟩=some (.slice a n c)):=λV U=>by have x1:=x0.af U;exact ⟨x1.cell 0 rfl,x1.cell 1 rfl,x1.cell 2 rfl,x1.cell 3 rfl,x1.cell 4 rfl⟩
 have X:=Z5 hbW;clear hW hbW x0;refine (lG W).mono ?_;rintro e w1 ⟨rfl,hB1⟩;obtain ⟨c0,c1,c2,H,c4⟩:=HS w1 hB1;go_wp2_with fail;refine (HSm w1 (Pm X.out hB1)).mono ?_;rintro e w2 ⟨z,rfl,hbx⟩;have K:=Pm hB1 hbx;clear c0 c1 c2 H c4;cases z
 ·go_wp2_with fail;refine (lG w2).mono ?_;rintro e w9 ⟨rfl,hb9⟩;have hF:=Pm X.out (Pm K hb9);go_wp2_with fail;go_ret;exact ⟨rfl,hF⟩
 obtain ⟨c0,c1,c2,H,c4⟩:=HS w2 K;by_cases h9:decide (7<N)=true/\decide (N<=9)=true
 ·obtain ⟨h7,h9⟩:=h9;go_wp2_with fail;refine (lG w2).mono ?_;rintro e w9 ⟨rfl,hb9⟩;have hF:=Pm X.out (Pm K hb9);go_wp2_with fail;go_ret;exact ⟨rfl,hF⟩
 have hd:decide (7<N)=false\/(decide (7<N)=true/\decide (N<=9)=false):=by
  cases h7:decide (7<N)
  ·exact .inl rfl
  ·cases h8:decide (N<=9)
   ·exact .inr ⟨rfl,rfl⟩
   ·exact absurd ⟨h7,h8⟩ h9
 clear h9;rcases hd with h7 | ⟨h7,h8⟩;all_goals (
  go_wp2_with fail
  refine (H1 w2 (Pm X.out K)).mono ?_
  rintro e w3 ⟨hb3,a1,F,j,a2,E,r,rfl,h1,h2⟩
  have hB3:=Pm K hb3
  have n3:=an w3 (.cells #[.slice a1 F j,.slice a2 E r] 48)
  have G:=Pm hB3 n3
  have x3:=Po w3 [.slice a1 F j,.slice a2 E r] 48 rfl
  clear c0 c1 c2 H c4
  obtain ⟨c0,c1,c2,H,c4⟩:=HS _ G
  go_wp2_with fail
  refine (H2 _ (Pm X.out G)).mono ?_
  rintro e w4 ⟨hb4,a3,B,k3,a4,n4,k4,rfl,h3,h4⟩
  have D:=an w4 (.cells #[.slice a3 B k3,.slice a4 n4 k4] 48)
  have Z:=Pm hb4 D
  have hB5:=Pm G Z
  have x4:=Po w4 [.slice a3 B k3,.slice a4 n4 k4] 48 rfl
  have O:=x3.af Z
  have HD:=Z5 (K3 ((h1.af n3).af Z) (K3 ((h2.af n3).af Z) (K3 (h3.af D) (h4.af D))))
  obtain ⟨V4,hV4⟩:∃V:World,V=w4.alloc (.cells #[.slice a3 B k3,.slice a4 n4 k4] 48):=⟨_,rfl⟩
  rw [<- hV4] at hB5 x4 O HD
  have HB5:=Z5 hB5
  have X3:=Z5 O
  have s0:=O.cell 0 rfl
  have s1:=O.cell 1 rfl
  have t0:=x4.cell 0 rfl
  have t1:=x4.cell 1 rfl
  have e1:(er != er)=false:=by simp
  have HSa:=Z5 (D9 a1 F j SS a2 E r TT a3 B k3 a4 n4 k4 V4 HD.1 HD.2.1 HD.2.2.1 HD.2.2.2)
  clear c0 c1 c2 H c4 n3 hB3 G hb4 D Z x3 x4 O h1 h2 h3 h4 hB5
  go_upto_region 5 with fail
  rw [<- hV4]
  clear hV4
  go_wp2_with fail
  refine HSa.mono ?_
  rintro e w5 ⟨rfl,Z⟩
  have C:=Pm HB5.out Z
  clear s0 s1 t0 t1 HSa e1
  by_cases h0:er=0
  rotate_left
  ·have e2:(er != 0)=true:=by simpa using h0
   have hF:=Pm X.out C
   clear h0
   go_wp2_with fail
   go_ret
   exact ⟨rfl,hF⟩
  obtain ⟨m,Q,rfl,A,rfl,rfl,HCh⟩:=HK h0
  have HCh:=Z5 HCh
  subst h0
  have x3:=X3.af Z
  have s0:=x3.cell 0 rfl
  have s1:=x3.cell 1 rfl
  obtain ⟨c0,c1,c2,H,c4⟩:=HS w5 C
  have HCk:=Z5 (HCh w5 a1 F j a2 E r (Pm X.out C) (HD.1.af Z) (HD.2.1.af Z))
  clear x3
  go_wp2_with fail
  refine HCk.mono ?_
  rintro e w6 ⟨hb6,a5,c5,rfl,h5⟩
  have hB7:=Pm C hb6
  have hpl:=h5.pl
  have H5:=Z5 h5
  clear c0 c1 c2 H c4 s0 s1 HCk h5
  obtain ⟨c0,c1,c2,H,c4⟩:=HS w6 hB7
  go_wp2_with fail
  refine (HLo w6 (Pm X.out hB7)).mono ?_
  rintro e w7 ⟨rfl,hb7⟩
  have hB8:=Pm hB7 hb7
  clear c0 c1 c2 H c4
  go_wp2_with fail
  go_loopw [11,66] (λsv iv wr=>∃k:Nat,k<=m/\iv = cG k/\sv = cG (mxI Q k)/\PY w7 wr) (λ_ iv _=>m - (intOf iv).toNat)
  case atStart=>exact ⟨0,K0 _,rfl,rfl,KU _ _⟩
  case round =>
   obtain ⟨k,hk,rfl,rfl,hbr⟩:=hrel
   generalize wr=V at *
   by_cases hlt:k<m
   ·have hcell:=((H5.af hb7).af hbr).cell k hlt
    have Hm:Hid (mxI Q (k+1)=max (mxI Q k) (nth Q k)):=rfl
    generalize nth Q k=z at *
    generalize mxI Q k=y at *
    go_wp2_with fail
    go_roundw
    case rel=>exact ⟨k+1,by omega,by go_num,by rw [Hm.out] <;> exact congrArg _ (by split <;> omega),hbr⟩
    case measure=>simp [intOf] <;> omega
   ·obtain rfl:k=m:=by omega
    have hB9:=Pm hB8 hbr
    have hF:=Pm X.out hB9
    obtain ⟨c0,c1,c2,H,c4⟩:=HS V hB9
    have e3:(mxI Q k == mxI Q k)=true:=by simp
    have e4:((k:Int) == (k:Int))=true:=by simp
    generalize mxI Q k=y at *
    go_wp2_with fail
    go_ret
    exact ⟨rfl,hF⟩)
end Go.Proofs.YthglbncgemdcbaaGreat
