import Derived.Test.YthglbncgemdcbaaGreatCK7
import Derived.Sort.OwnSortedInts
import Derived.Test.YthglbncgemdcbaaGreatCK2
namespace Go.Proofs.YthglbncgemdcbaaGreat
set_option linter.all false
set_option maxRecDepth 100000
set_option maxHeartbeats 4000000
open Go.RowKit Go.Proofs.Tryz
def B9 (P : Int) (low : LI) (v : Nat) (c : Int) (r : LI) : Nat->LI
 | 0=>r
 | j+1=>(B9 P low v c r j).set (v+j) ((nth (B9 P low v c r j) (v+j)+(P - c) * nth low j) % P)
def yu (P : Int) (low : LI) (n : Nat) (r : LI) : Nat->LI
 | 0=>r
 | k+1=>(B9 P low (n - 1 - k - low.length) (nth (yu P low n r k) (n - 1 - k)) (yu P low n r k) low.length).set (n - 1 - k) 0
def Dt (P : Int) (low mod : LI) : Bool:=(yu P low (mod.length+1) (mod ++ [1]) (mod.length+1 - low.length)).all λx=>x == 0
theorem BR (P : Int) (low : LI) (v : Nat) (c : Int) (r : LI) : ∀j,(B9 P low v c r j).length=r.length
 | 0=>rfl
 | j+1=>by rw [B9,KG,BR P low v c r j]
theorem BF (P : Int) (low : LI) (n : Nat) (r : LI) : ∀k,(yu P low n r k).length=r.length
 | 0=>rfl
 | k+1=>by rw [yu,KG,BR,BF P low n r k]
theorem uO {P : Int} (Z : 0<P) (low : LI) (v : Nat) (c : Int) {r : LI} (h : dz P r) : ∀j,dz P (B9 P low v c r j)
 | 0=>h
 | j+1=>dz.Ag Z (uO Z low v c h j) _ _
theorem Bt {P : Int} (Z : 0<P) (low : LI) (n : Nat) {r : LI} (h : dz P r) : ∀k,dz P (yu P low n r k)
 | 0=>h
 | k+1=>dz.set (uO Z low _ _ (Bt Z low n h k) _) _ (by omega) Z
theorem dz.snoc {P : Int} {l : LI} (h : dz P l) {x : Int} (h0 : 0<=x) (h1 : x<P) : dz P (l ++ [x]):=by
 intro i;by_cases hi : i<l.length
 ·have e : nth (l ++ [x]) i=nth l i:=by simp only [nth,JS];rw [J8 hi]
  rw [e];exact h i
 ·by_cases Z : i=l.length
  ·subst Z;have e : nth (l ++ [x]) l.length=x:=by simp [nth]
   rw [e];exact ⟨h0,h1⟩
  ·rw [i6 (by simp;omega)];omega
theorem ug (al : OA) (d cl : Nat) (low : LI) (am : OA) (E cm : Nat) (mod : LI) (P : Int) (w : World) (hl : Ints w al d low) (hm : Ints w am E mod) (hp2 : 2<=P) (hp256 : P<=256)
  (hdl : dz P low) (hdm : dz P mod) (hd1 : 1<=d) (hdn : d<=E) (hmn : E<=8) :
  Calls prog 150 #[.slice al d cl,.slice am E cm,.int .i64 P] w λe w'=>e = .returned (.bool (Dt P low mod))/\OC w w':=by
 have hP : 0<P:=by omega
 have Hll:=Z5 hl.len;have Hml:=Z5 hm.len;have hpll:=hl.pl;have Hdl:=Z5 hdl;have HDB : Hid (Dt P low mod=(yu P low (E+1) (mod ++ [1]) (E+1 - d)).all λx=>x == 0):=by show _=_;rw [Dt,hm.len,hl.len]
 have HD0 : Hid (dz P (mod ++ [1])):=hdm.snoc (by omega) (by omega);have HL0 : Hid ((mod ++ [1]).length=E+1):=by show _=_;rw [J0,hm.len];rfl
 have hO1:=gg w 3;have hbe:=an w (.cells #[] 3);have hme:=hm.af hbe;have hpm:=hm.pl;clear hdl hdm;go_enter func150,ntmps150;go_wp2_with (at_builtin; first
       | (refine dY (by rfl) (.tmp 15) (.tmp 16) 22 3 (by rfl) (.int .i64 0) 8 underlying22 aV (by rfl) w.heap.size _ 0 0 [] (by rfl) hO1 am E cm (mod.map (Value.int .i64)) (by rfl) hpm (by simp [Hml.out]) (N7 hme) (ints_oneCell _ _) (by omega) (by unfold maxLen;omega) (K8 hbe) ?_;intro a3 c3 w3 U hgr3 hap3;have hb3 : OC w w3:=N0 (B:=w.heap.size) (e:=3) (xs:=[]) hbe hO1 hgr3 (JO _) (K8 hbe);rw [LJ] at U ⊢;rw [KL] at U)
       | (refine aS rfl _ _ 22 3 rfl (.int .i64 0) 8 underlying22 aV rfl w.heap.size a3 E c3 _ rfl (U.alloc _) ⟨w3.heap.size,0,none⟩ 1 (.int .i64 1) rfl (bf w3 _ _) rfl (by omega) (by unfold maxLen;omega) (by have h1:=K8 hb3;simp;omega) ?_;intro a1 c1 w1 hown1 hgr1 hap1))
 have hb4 : OC w w1:=N0 (NX hb3 (an _ _)) (U.alloc _) hgr1 (JO _) (J4 hb3.size (K8 (an _ _)));have C : w1.ownsRow w.heap.size 3 1 (.slice a1 (E+1) c1) (E+1) ((mod ++ [1]).map (Value.int .i64)):=by simpa using hown1
 have ha1 : a1 ≠ none->w.heap.size<=ablk a1:=λh=>(ba C h).1;obtain ⟨n,hn⟩ : ∃n,E+1=n:=⟨_,rfl⟩
 have Hn:=Z5 hn;have hn9 : n<=9:=by omega
 have hdn' : d+1<=n:=by omega
 obtain ⟨A,hr0⟩ : ∃A,mod ++ [1]=A:=⟨_,rfl⟩
 rw [hr0,hn] at C HDB;rw [hr0] at HD0;rw [hr0,hn] at HL0;have hnv : (((E+1 : Nat) : Int))=n:=by omega
 have hnv2 : (E : Int)+1=n:=by omega
 have hlw:=hl.af hb4;have hS : ∀V,OC w V->Ints V al d low:=λV hV=>hl.af hV;have HS:=Z5 hS;rw [hn];clear hown1 hgr1 hap1 U hgr3 hap3 hr0 hn hS hO1 hbe hme hlw;go_wp2_with fail;clear hnv hnv2;go_loopw [9] (λD wr=>∃k t : Nat,t+k+1=n/\d<=t+1/\D = .int .i64 t/\wr.ownsRow w.heap.size 3 1 (.slice a1 n c1) n ((yu P low n A k).map (Value.int .i64))/\dg a1 w1 wr) (λD _=>(intOf D).toNat);case atStart=>exact ⟨0,n - 1,by omega,by omega,by have:=Hn.out;congr 1;omega,C,Oi _ _⟩
 case round =>
  obtain ⟨k,t,htk,hdt,rfl,Y,H⟩:=hrel
  have hbk : OC w wr:=hb4.trans (H.below ha1 hb4.size)
  by_cases hti : d<=t
  ·have Htk:=Z5 htk
   have Hrk : Hid (yu P low n A (k+1)=(B9 P low (t - d) (nth (yu P low n A k) t) (yu P low n A k) d).set t 0):=by show _=_;rw [yu,Hll.out,show n - 1 - k=t by omega]
   have Hrd : Hid (dz P (yu P low n A k)):=Bt hP low n HD0.out k
   obtain ⟨I,r⟩ : ∃I,yu P low n A k=I:=⟨_,rfl⟩
   rw [r] at Y Hrk Hrd
   have htn : t<n:=by omega
   have hti' : (t : Int)<n:=by omega
   obtain ⟨it0,mt0⟩:=NZ Y
   have c0:=it0.cell t htn
   have hp0:=it0.pl
   have b2:=Hrd.out t
   clear r htk
   go_wp2_with fail
   obtain ⟨Q,hcc⟩ : ∃Q,nth I t=Q:=⟨_,rfl⟩
   rw [hcc] at b2 Hrk
   rw [hcc]
   clear hcc c0 it0 mt0
   go_loopw [11] (λD wr=>∃j : Nat,j<=d/\D = .int .i64 j/\wr.ownsRow w.heap.size 3 1 (.slice a1 n c1) n ((B9 P low (t - d) Q I j).map (Value.int .i64))/\dg a1 w1 wr) (λD _=>d - (intOf D).toNat)
   case atStart=>exact ⟨0,JU _,rfl,Y,H⟩
   case round =>
    obtain ⟨j,hj,rfl,X,N⟩:=hrel
    have hbr2 : OC w wr:=hb4.trans (N.below ha1 hb4.size)
    have j1:=HS.out wr hbr2
    by_cases hlt2 : j<d
    ·have Hcj : Hid (B9 P low (t - d) Q I (j+1)=(B9 P low (t - d) Q I j).set (t - d+j) ((nth (B9 P low (t - d) Q I j) (t - d+j)+(P - Q) * nth low j) % P)):=rfl
     have hcd:=uO hP low (t - d) Q Hrd.out j
     obtain ⟨T,hT⟩ : ∃T,B9 P low (t - d) Q I j=T:=⟨_,rfl⟩
     rw [hT] at X Hcj hcd
     clear hT
     obtain ⟨it,mt⟩:=NZ X
     obtain ⟨u,hu⟩ : ∃u,t - d+j=u:=⟨_,rfl⟩
     have hun : u<n:=by omega
     have ct:=it.cell u hun
     have cM:=j1.cell j hlt2
     have ft:=(mt (by omega)).2 u hun
     have hplt:=it.pl
     have b1:=hcd u
     have b3:=Hdl.out j
     have hme:=kJ (show 0<=P - Q by omega) (show P - Q<=256 by omega) b3.1 (show nth low j<=256 by omega)
     have hP0 : P ≠ 0:=by omega
     rw [hu] at Hcj
     obtain ⟨Z,hZ⟩ : ∃Z,(nth T u+(P - Q) * nth low j) % P=Z:=⟨_,rfl⟩
     have Hcj2 : Hid (B9 P low (t - d) Q I (j+1)=T.set u Z):=by show _=_;rw [Hcj.out,hZ]
     obtain ⟨v,hv⟩ : ∃v,t - d=v:=⟨_,rfl⟩
     have r0' : IntKind.i64.wrap ((t : Int) - d)=(v : Int):=by rw [J3 _ (by omega)];omega
     have r1 : IntKind.i64.wrap ((v : Int)+j)=(u : Int):=by rw [J3 _ (by omega)];omega
     have r2 : IntKind.i64.wrap (P - Q)=P - Q:=J3 _ (by omega)
     have r3 : IntKind.i64.wrap ((P - Q) * nth low j)=(P - Q) * nth low j:=J3 _ (by omega)
     have r4 : IntKind.i64.wrap (nth T u+(P - Q) * nth low j)=nth T u+(P - Q) * nth low j:=J3 _ (by omega)
     have r5 : (nth T u+(P - Q) * nth low j).tmod P=Z:=by rw [<- hZ];exact KP _ _ (by omega)
     have q1 : (0 : Int)<=u:=by omega
     have q2 : (u : Int)<n:=by omega
     have q4 : (j : Int)<d:=by omega
     clear hZ hu hv Hcj
     go_wp2_with fail
     go_still_tail 26,(by kernel_rfl)
     change wpList _ _ _ _ _ wr.drew
     generalize hwd : wr.drew=wd
     have fd : wd.frozen? ⟨ablk a1,aL a1+u,none⟩=false:=by rw [<- hwd];exact ft
     have cd : wd.cell? ⟨ablk a1,aL a1+u,none⟩=some (.int .i64 (nth T u)):=by rw [<- hwd];exact ct
     have Hwd:=Z5 hwd
     clear hwd r0' r1 r2 r3 r4 r5
     go_wp2_with fail
     go_roundw
     case rel =>
      obtain rfl:=Hwd.out
      have hdr : bm wr wr.drew:=(N4 wr).drew
      refine ⟨j+1,by omega,by go_num,?_,N.trans ((Oa hdr).trans (Oc _ u _ (by intro e;have:=hplt (by omega);rw [e] at this;cases this)))⟩
      have h1:=bC (w:=wr.drew) X u hun (.int .i64 Z)
      rw [<- Kh,<- Hcj2.out] at h1
      exact h1
     case measure=>simp [intOf] <;> omega
    ·obtain rfl : j=d:=by omega
     obtain ⟨it,mt⟩:=NZ X
     have ct:=it.cell t htn
     have ft:=(mt (by omega)).2 t htn
     have hplt:=it.pl
     go_wp2_with fail
     go_roundw
     case rel =>
      have h1:=bC X t htn (.int .i64 0)
      rw [<- Kh,<- Hrk.out] at h1
      exact ⟨k+1,t - 1,by have:=Htk.out;omega,by omega,by congr 1;omega,h1,N.trans (Oc _ t _ (by intro e;have:=hplt (by omega);rw [e] at this;cases this))⟩
     case measure=>simp [intOf] <;> omega
  ·have hkf : k=n - d:=by omega
   have z : Hid (Dt P low mod=(yu P low n A k).all λx=>x == 0):=by show _=_;rw [HDB.out,hkf]
   have HlT : Hid ((yu P low n A k).length=n):=by show _=_;rw [BF];exact HL0.out
   obtain ⟨I,r⟩ : ∃I,yu P low n A k=I:=⟨_,rfl⟩
   rw [r] at Y z HlT
   have iC:=(NZ Y).1
   have hpC:=iC.pl
   clear r htk hkf Y
   go_wp2_with fail
   go_loop [12] (λD=>∃j : Nat,j<=n/\D = .int .i64 j/\Hid ((I.take j).all (λx=>x == 0)=true)) (λD=>n - (intOf D).toNat)
   case atStart=>exact ⟨0,JU _,rfl,by show _=_;simp⟩
   case round =>
    obtain ⟨j,hj,rfl,hall⟩:=hrel
    by_cases hlt : j<n
    ·have cj:=iC.cell j hlt
     have hjl : j<I.length:=by rw [HlT.out];exact hlt
     by_cases hz : nth I j=0
     ·have hz' : (nth I j != 0)=false:=by simpa using hz
      have Hs : Hid ((I.take (j+1)).all (λx=>x == 0)=true):=dC hjl hall.out (by rw [<- aj hjl,hz];rfl)
      clear hz
      go_wp2_with fail
      go_round
      case rel=>exact ⟨j+1,by omega,by go_num,Hs.out⟩
      case measure=>simp [intOf] <;> omega
     ·have hz' : (nth I j != 0)=true:=by simpa using hz
      have Hs : Hid (Dt P low mod=false):=by show _=_;rw [z.out];exact dA hjl (by rw [<- aj hjl];simpa using hz)
      clear hz
      go_wp2_with fail
      go_ret
      exact ⟨aU Hs.out.symm,hbk⟩
    ·obtain rfl : j=n:=by omega
     have Hs : Hid (Dt P low mod=true):=by have:=hall.out;rw [JX (by rw [HlT.out];exact JO _)] at this;show _=_;rw [z.out,this]
     go_wp2_with fail
     go_ret
     exact ⟨aU Hs.out.symm,hbk⟩
def Jq (P : Int) (mod : LI) (d q : Nat) : Bool:=(List.range q).all λv=>!Dt P (digs v P d) mod
def yb (P : Int) (mod : LI) (k : Nat) : Bool:=(List.range k).all λd=>Jq P mod (d+1) (P ^ (d+1)).toNat
def oc (P : Int) (mod : LI) : Bool:=yb P mod (mod.length / 2)
theorem qM {p : Nat->Bool} {k : Nat} (h : (List.range k).all p=true) (hk : p k=true) : (List.range (k+1)).all p=true:=by rw [K5,Mt,h];simp [hk]
theorem mF {p : Nat->Bool} {k n : Nat} (hk : k<n) (h : p k=false) : (List.range n).all p=false:=by rw [Le];exact ⟨k,List.mem_range.2 hk,by simp [h]⟩
theorem nY (am : OA) (Y cm : Nat) (mod : LI) (P : Int) (w : World) (hm : Ints w am Y mod) (hp2 : 2<=P) (E : P<=256) (hdm : dz P mod) (hmn : Y<=8) (hpw : P ^ Y<=256) :
  Calls prog 96 #[.slice am Y cm,.int .i64 P] w λe w'=>e = .returned (.bool (oc P mod))/\OC w w':=by
 have Hml:=Z5 hm.len;have Hdm:=Z5 hdm;have HP : Hid (∀k,k<=Y->1<=P ^ k/\P ^ k<=256):=λk hk=>⟨by have:=dS (show 1<=P by omega) (JU k);rwa [LK] at this,Nx (dS (show 1<=P by omega) hk) hpw⟩
 have HI : Hid (oc P mod=yb P mod (Y / 2)):=by show _=_;rw [oc,hm.len]
 clear hdm hpw;go_enter func96,ntmps96;go_wp2_with fail;go_loopw [5,6] (λcv dv wr=>∃d : Nat,1<=d/\2 * d<=Y+2/\dv = .int .i64 d/\cv = .int .i64 (P ^ (d - 1))/\Hid (yb P mod (d - 1)=true)/\OC w wr) (λ_ dv _=>Y+2 - (intOf dv).toNat);case atStart=>exact ⟨1,by omega,by omega,rfl,by simp,by show _=_;simp [yb],JP _ _⟩
 case round =>
  obtain ⟨d,U,hd2,rfl,rfl,r,A⟩:=hrel
  by_cases hlt : 2 * d<=Y
  ·have hpe:=HP.out (d - 1) (by omega)
   have z:=HP.out d (by omega)
   have hps : P ^ d=P ^ (d - 1) * P:=by have h1:=KH P (d - 1);have h2 : (d - 1).succ=d:=Ma U;rwa [h2] at h1
   obtain ⟨q,j⟩ : ∃q : Nat,P ^ d=q:=⟨(P ^ d).toNat,by omega⟩
   have HQ : Hid (yb P mod d=(yb P mod (d - 1) && Jq P mod d q)):=by
    have e1 : yb P mod d=(List.range ((d - 1)+1)).all λd=>Jq P mod (d+1) (P ^ (d+1)).toNat:=by rw [Ma U];rfl
    show _=_;rw [e1,K5,Mt];simp only [Np,List.all_nil,Bool.and_true];rw [Ma U,j];rfl
   have Hps : Hid (P ^ (d - 1) * P=(q : Int)):=by show _=_;rw [<- hps,j]
   have hq256 : q<=256:=by omega
   have Hq:=Z5 j
   have C : Hid (∀v : Nat,(digs v P d).length=d):=λv=>bF _ _ _
   have Hdd : Hid (∀v : Nat,dz P (digs v P d)):=λv=>Ou (by omega) _ _
   have Hf0 : Hid (∀v : Nat,v<q->Dt P (digs v P d) mod=true->oc P mod=false):=λv hv hd=>by rw [HI.out];refine mF (k:=d - 1) (by omega) ?_;rw [Ma U,j,JQ];exact mF hv (by rw [hd];rfl)
   clear hps z j
   obtain ⟨pe,Q⟩ : ∃pe,P ^ (d - 1)=pe:=⟨_,rfl⟩
   rw [Q] at Hps hpe
   rw [Q]
   have hps2:=Hps.out
   have hltd : decide (2 * (d : Int)<=Y)=true:=by simp;omega
   have hltn : decide (2 * d<=Y)=true:=by simp;omega
   clear Q
   go_wp2_with fail
   clear hps2
   go_loopw [7] (λvv wx=>∃v : Nat,v<=q/\vv = .int .i64 v/\Hid ((List.range v).all (λv=>!Dt P (digs v P d) mod)=true)/\OC w wx) (λvv _=>q - (intOf vv).toNat)
   case atStart=>exact ⟨0,JU _,rfl,by show _=_;simp,A⟩
   case round =>
    obtain ⟨v,hv,rfl,N,hbx⟩:=hrel
    by_cases hvq : v<q
    ·obtain ⟨D,hD⟩ : ∃D,digs v P d=D:=⟨_,rfl⟩
     have Hl:=Z5 (C.out v)
     have Hg:=Z5 (Hdd.out v)
     have Hf:=Z5 (Hf0.out v hvq)
     have HDg:=Z5 (oV v P d wr (by omega) (by omega) (by omega) (by omega))
     rw [hD] at Hl Hg Hf HDg
     have HD:=Z5 hD
     clear hD
     go_wp2_with fail
     refine HDg.out.mono ?_
     rintro e1 w1 ⟨a1,c1,rfl,Z,hb1⟩
     rw [Hl.out] at Z ⊢
     have hi1:=(NZ Z).1
     have I:=NX hbx hb1
     clear Z
     go_wp2_with fail
     refine (ug a1 d c1 D am Y cm mod P w1 hi1 (hm.af I) hp2 E Hg.out Hdm.out U (by omega) hmn).mono ?_
     rintro e2 w2 ⟨rfl,hb2⟩
     have H:=NX I hb2
     by_cases V : Dt P D mod=true
     ·have Hf2:=Z5 (Hf.out V)
      rw [V]
      clear V
      go_wp2_with fail
      go_ret
      exact ⟨aU Hf2.out.symm,H⟩
     ·have X : Dt P D mod=false:=by simpa using V
      have Hs : Hid ((List.range (v+1)).all (λv=>!Dt P (digs v P d) mod)=true):=qM N.out (by rw [HD.out,X];rfl)
      rw [X]
      clear V X
      go_wp2_with fail
      go_roundw
      case rel=>exact ⟨v+1,by omega,by go_num,Hs.out,H⟩
      case measure=>simp [intOf] <;> omega
    ·obtain rfl : v=q:=by omega
     have Hs : Hid (yb P mod d=true):=by show _=_;rw [HQ.out,r.out,Jq,N.out];rfl
     go_wp2_with fail
     go_roundw
     case rel=>exact ⟨d+1,by omega,by omega,by go_num,by rw [L9,Hq.out],Hs.out,hbx⟩
     case measure=>simp [intOf] <;> omega
  ·have Hs : Hid (oc P mod=true):=by show _=_;rw [HI.out,show Y / 2=d - 1 by omega];exact r.out
   go_wp2_with fail
   go_ret
   exact ⟨aU Hs.out.symm,A⟩
section
variable {O : aM} {El : Int->Prop} {m n : Nat}
theorem ka.smul (F : bI O El) {X : LI->Int} (h : ka O El n X) {s : Int} (Y : El s) : ka O El n (λv=>O.mul s (X v)) :=
 ⟨λv U=>F.cl.mul _ _ Y (h.el v U),
  λv r x U V Z=>by show O.mul s (X (dL O v x r))=O.add (O.mul s (X v)) (O.neg (O.mul x (O.mul s (X r))));have h1:=h.el v U;have h2:=h.el r V;rw [h.sub v r x U V Z,F.mul_add s _ _ Y h1 (F.cl.neg _ (F.cl.mul _ _ Z h2)),F.mul_neg Y (F.cl.mul _ _ Z h2),<- F.mul_assoc s x _ Y Z h2,F.mul_comm s x Y Z,F.mul_assoc x s _ Z Y h2],
  λr x V Z=>by show O.mul s (X (r.map (O.mul x)))=O.mul x (O.mul s (X r));have h2:=h.el r V;rw [h.DX r x V Z,<- F.mul_assoc s x _ Y Z h2,F.mul_comm s x Y Z,F.mul_assoc x s _ Z Y h2]⟩
theorem dN (g : Nat->Int) (k i : Nat) (hi : i<k) : nth ((List.range k).map g) i=g i:=by rw [aj (by simpa using hi)];simp
theorem ka.vec {k : Nat} {e : LI->Int} (he : ka O El k e) (g : Nat->LI->Int) (Q : ∀i,i<k->ka O El n (g i)) : ka O El n (λv=>e ((List.range k).map λi=>g i v)):=by
 have Y : ∀v,Vc El n v->Vc El k ((List.range k).map λi=>g i v):=λv X=>⟨by simp,λy N=>by obtain ⟨i,hi,rfl⟩:=List.mem_map.1 N;exact (Q i (List.mem_range.1 hi)).el v X⟩
 refine ⟨λv X=>he.el _ (Y v X),λv r x X V U=>?_,λr x V U=>?_⟩
 ·show e _=_;rw [<- he.sub _ _ x (Y v X) (Y r V) U];congr 1;refine fZ (by rw [eT _ _ _ _ (by simp)];simp) λi hi=>?_;have Z : i<k:=by simpa using hi
  rw [eF O _ x _ i (by simp) (by simpa using Z),dN _ _ _ Z,dN _ _ _ Z,dN _ _ _ Z];exact (Q i Z).sub v r x X V U
 ·show e _=_;rw [<- he.DX _ x (Y r V) U];congr 1;refine fZ (by simp) λi hi=>?_;have Z : i<k:=by simpa using hi
  rw [j4 O _ x (by simpa using Z),dN _ _ _ Z,dN _ _ _ Z];exact (Q i Z).DX r x V U
def RS (O : aM) (El : Int->Prop) (m : Nat) (L : Ll) (f : Nat->Int) : Prop:=∃e,ka O El L.length e/\∀x,x<m->f x=e (aX L x)
theorem RS.row (F : bI O El) {L : Ll} {i : Nat} (hi : i<L.length) : RS O El m L (λx=>nth (ai L i) x) :=
 ⟨λv=>nth v i,ka.AG F hi,λx _=>(da L x i hi).symm⟩
theorem RS.comb (F : bI O El) {L : Ll} {f g : Nat->Int} (Q : RS O El m L f) (U : RS O El m L g) {s : Int} (V : El s) : RS O El m L (λx=>O.add (f x) (O.neg (O.mul (g x) s))):=by obtain ⟨a,ha,Z⟩:=Q;obtain ⟨b,hb,Y⟩:=U;exact ⟨_,ha.comb F hb V,λx X=>by show O.add (f x) _=_;rw [Z x X,Y x X]⟩
theorem RS.smul (F : bI O El) {L : Ll} {f : Nat->Int} (V : RS O El m L f) {s : Int} (Y : El s) : RS O El m L (λx=>O.mul s (f x)):=by obtain ⟨a,ha,Z⟩:=V;exact ⟨_,ha.smul F Y,λx X=>by show O.mul s (f x)=_;rw [Z x X]⟩
theorem RS.congr {L : Ll} {f g : Nat->Int} (X : RS O El m L f) (h : ∀x,x<m->g x=f x) : RS O El m L g:=by obtain ⟨a,ha,Z⟩:=X;exact ⟨a,ha,λx Y=>by rw [h x Y,Z x Y]⟩
def eA (O : aM) (El : Int->Prop) (m : Nat) (A B : Ll) : Prop:=∀i,i<A.length->RS O El m B (λx=>nth (ai A i) x)
theorem eA.refl (F : bI O El) (L : Ll) : eA O El m L L:=λ_ hi=>.row F hi
theorem eA.rs {A B : Ll} (h : eA O El m A B) {f : Nat->Int} (V : RS O El m A f) : RS O El m B f:=by
 obtain ⟨e,he,Z⟩:=V;obtain ⟨g,X⟩ : ∃g : Nat->LI->Int,∀i,i<A.length->ka O El B.length (g i)/\∀x,x<m->nth (ai A i) x=g i (aX B x):=by
  have h2 : ∀i,∃g : LI->Int,i<A.length->ka O El B.length g/\∀x,x<m->nth (ai A i) x=g (aX B x):=λi=>by
   by_cases hi : i<A.length
   ·obtain ⟨g,h1,h2⟩:=h i hi;exact ⟨g,λ_=>⟨h1,h2⟩⟩
   ·exact ⟨λ_=>0,λh=>absurd h hi⟩
  exact ⟨λi=>Classical.choose (h2 i),λi hi=>Classical.choose_spec (h2 i) hi⟩
 refine ⟨_,he.vec g λi hi=>(X i hi).1,λx Y=>?_⟩;rw [Z x Y];congr 1;refine fZ (by simp [dt]) λi hi=>?_;rw [dt] at hi;rw [dN _ _ _ hi,da A x i hi];exact (X i hi).2 x Y
theorem eA.trans {A B C : Ll} (h : eA O El m A B) (h2 : eA O El m B C) : eA O El m A C:=λi hi=>h2.rs (h i hi)
theorem eA.cl {A B : Ll} (h : eA O El m A B) {l : LN} {x : Nat} (U : ∀y ∈ l,y<m) (Q : x<m) (hc : ku O El B.length (aX B) l x) : ku O El A.length (aX A) l x:=by intro Y X h0;obtain ⟨e,he,Z⟩:=h.rs (f:=λx=>Y (aX A x)) ⟨Y,X,λ_ _=>rfl⟩;have e1 : Y (aX A x)=e (aX B x):=Z x Q;rw [e1];refine hc e he λy V=>?_;rw [<- Z y (U y V)];exact h0 y V
structure j5 (L : Ll) (P : LI) (c : Nat) : Prop where
 le : P.length<=L.length
 lt : ∀j,j<P.length->0<=nth P j/\nth P j<c
 one : ∀j i,j<P.length->i<L.length->nth (ai L i) (nth P j).toNat=if i=j then 1 else 0
 zero : ∀i x,P.length<=i->i<L.length->x<c->nth (ai L i) x=0
def sw (t k i : Nat) : Nat:=if i=t then k else if i=k then t else i
theorem Ja {t k n i : Nat} (ht : t<n) (hk : k<n) (hi : i<n) : sw t k i<n:=by unfold sw;split;exact hk;split;exact ht;exact hi
theorem FL {L : Ll} {t k : Nat} (ht : t<L.length) (hk : k<L.length) (i : Nat) : ai (if k=t then L else bt L t k) i=ai L (sw t k i):=by
 unfold sw bt;split
 ·rename_i e;subst e;split
  ·rename_i e;rw [e]
  ·rfl
 ·rename_i hne;rw [ei _ _ _ _ (by simpa using hk),ei _ _ _ _ ht];by_cases h1 : i=t
  ·rw [JR (by omega),JT h1,JT h1]
  ·rw [JR h1,JR h1];by_cases h2 : i=k
   ·rw [JT h2,JT h2]
   ·rw [JR h2,JR h2]
theorem Fo (F : bI O El) {L : Ll} (hL : bs El m L) {t c : Nat} (ht : t<L.length) {i x : Nat} (Y : x<m) :
  nth (ai (bw O L t c) i) x=if i=t then O.mul (O.inv (nth (ai L t) c)) (nth (ai L t) x) else nth (ai L i) x:=by
 have Z:=hL.row ht;have he : El (nth (ai L t) x):=Z.2 _ (aI (by rw [Z.1];exact Y));unfold bw;split
 ·rename_i h1;split
  ·rename_i e;rw [e,h1,F.one_mul _ he]
  ·rfl
 ·rw [ei _ _ _ _ ht];split
  ·exact j4 O _ _ (by rw [Z.1];exact Y)
  ·rfl
theorem qA (O : aM) (t c : Nat) (L : Ll) : ∀i,i<=L.length->∀j,ai (clearTo O t c L i) j=if j<i/\j ≠ t then cH O (ai L t) c (ai L j) else ai L j
 | 0,_,j=>by rw [JR (by omega)];rfl
 | i+1,hi,j=>by
  have Z:=qA O t c L i (by omega);unfold clearTo;split
  ·rename_i e;rw [Z j];by_cases h : j<i/\j ≠ t
   ·rw [JT h,JT ⟨by omega,h.2⟩]
   ·rw [JR h,JR (by omega)]
  ·rename_i e;have e1 : ai (clearTo O t c L i) t=ai L t:=by rw [Z t,JR (by omega)]
   have Y : ai (clearTo O t c L i) i=ai L i:=by rw [Z i,JR (by omega)]
   rw [ei _ _ _ _ (by rw [dq];omega),e1,Y];by_cases h : j=i
   ·subst h;rw [JT rfl,JT ⟨by omega,e⟩]
   ·rw [JR h,Z j];by_cases h2 : j<i/\j ≠ t
    ·rw [JT h2,JT ⟨by omega,h2.2⟩]
    ·rw [JR h2,JR (by omega)]
theorem vz (F : bI O El) {Z r : LI} {c x : Nat} (V : Vc El m Z) (Y : Vc El m r) (hc : c<m) (X : x<m) :
  nth (cH O Z c r) x=O.add (nth r x) (O.neg (O.mul (nth Z x) (nth r c))):=by
 have h1:=V.at X;have h2:=Y.at X;have h3:=Y.at hc;unfold cH;split
 ·rename_i h0;rw [h0,F.cQ h1,F.eY,F.add_zero _ h2]
 ·rw [fb O r _ Z x (by rw [V.1,Y.1]) (by rw [Y.1];exact X)];split
  ·rename_i h0;rw [h0,F.iY h3,F.eY,F.add_zero _ h2]
  ·rw [F.neg_mul h3 h1,F.mul_comm _ _ h3 h1]
section
variable {L : Ll} {t k c : Nat}
theorem eE (F : bI O El) (hL : bs El m L) (ht : t<L.length) (hk : k<L.length) (hc : c<m) (h0 : nth (ai L k) c ≠ 0) {i x : Nat} (hi : i<L.length) (U : x<m) :
  nth (ai (en O L t k c) i) x=if i=t then O.mul (O.inv (nth (ai L k) c)) (nth (ai L k) x) else
   O.add (nth (ai L (sw t k i)) x) (O.neg (O.mul (O.mul (O.inv (nth (ai L k) c)) (nth (ai L k) x)) (nth (ai L (sw t k i)) c))):=by
 rw [iB];obtain ⟨Z,V⟩ : ∃Z,(if k=t then L else bt L t k)=Z:=⟨_,rfl⟩
 have X : ∀i,ai Z i=ai L (sw t k i):=λi=>by rw [<- V];exact FL ht hk i
 have E : Z.length=L.length:=by rw [<- V];split <;> simp [bG]
 have N : bs El m Z:=by
  rw [<- V];split
  ·exact hL
  ·exact hL.swap ht hk
 have Y : sw t k t=k:=by simp [sw]
 have H : nth (ai Z t) c ≠ 0:=by rw [X,Y];exact h0
 rw [V];have Q : bs El m (bw O Z t c):=N.norm F.cl (by omega) hc H;have I : ∀ {i x : Nat},x<m->nth (ai (bw O Z t c) i) x=if i=t then O.mul (O.inv (nth (ai Z t) c)) (nth (ai Z t) x) else nth (ai Z i) x:=λU=>Fo F N (by omega) U
 rw [qA O t c _ L.length (by rw [dr];omega)];by_cases e : i=t
 ·rw [JR (by omega),JT e,I U,JT e,X,Y]
 ·rw [JT ⟨hi,e⟩,JR e,vz F (Q.row (by rw [dr];omega)) (Q.row (by rw [dr];omega)) hc U,I U,I U,I hc,JR e,JR e,JT rfl,X,X,Y]
variable (F : bI O El) (hL : bs El m L) (ht : t<L.length) (hk : k<L.length) (hc : c<m) (h0 : nth (ai L k) c ≠ 0)
include F hL ht hk hc h0
theorem yQ : eA O El m (en O L t k c) L:=by
 intro i hi;rw [dU] at hi;have V : El (nth (ai L k) c):=N2 (hL.row hk) hc;have Z:=F.cl.inv _ V h0;by_cases e : i=t
 ·exact ((RS.row F hk).smul F Z).congr λx Y=>by rw [eE F hL ht hk hc h0 hi Y,JT e]
 ·have X:=Ja ht hk hi;exact ((RS.row F X).comb F ((RS.row F hk).smul F Z) (s:=nth (ai L (sw t k i)) c) (N2 (hL.row X) hc)).congr λx Y=>by rw [eE F hL ht hk hc h0 hi Y,JR e]
theorem zV : eA O El m L (en O L t k c):=by
 intro i hi;have I : El (nth (ai L k) c):=N2 (hL.row hk) hc;have U:=F.cl.inv _ I h0;have V : t<(en O L t k c).length:=by rw [dU];exact ht
 by_cases e : i=k
 ·refine ((RS.row F V).smul F I).congr λx Y=>?_;have Z : El (nth (ai L k) x):=N2 (hL.row hk) Y;rw [eE F hL ht hk hc h0 ht Y,JT rfl,<- F.mul_assoc _ _ _ I U Z,F.mul_inv _ I h0,F.one_mul _ Z,e]
 ·have Q : ∃j,j<L.length/\j ≠ t/\sw t k j=i:=by
   by_cases D : i=t
   ·exact ⟨k,hk,by omega,by unfold sw;rw [JR (by omega),JT rfl,D]⟩
   ·exact ⟨i,hi,D,by unfold sw;rw [JR D,JR e]⟩
  obtain ⟨j,Q,E,hsw⟩:=Q;have H : El (nth (ai L i) c):=N2 (hL.row hi) hc;refine ((RS.row F (i:=j) (by rw [dU];exact Q)).comb F (RS.row F V) (s:=O.neg (nth (ai L i) c)) (F.cl.neg _ H)).congr λx Y=>?_;have Z : El (nth (ai L k) x):=N2 (hL.row hk) Y;have X : El (nth (ai L i) x):=N2 (hL.row hi) Y;have C:=F.cl.mul _ _ U Z;have N:=F.cl.mul _ _ C H;rw [eE F hL ht hk hc h0 ht Y,JT rfl,eE F hL ht hk hc h0 Q Y,JR E,hsw,F.mul_neg C H,F.neg_neg N,F.add_assoc _ _ _ X (F.cl.neg _ N) N,F.j6 N,F.add_zero _ X]
end
theorem j5.next (F : bI O El) {L : Ll} {P : LI} {c k : Nat} (h : j5 L P c) (hL : bs El m L) (hc : c<m) (ht : P.length<L.length) (hk : k<L.length) (E : P.length<=k) (h0 : nth (ai L k) c ≠ 0) :
  j5 (en O L P.length k c) (P ++ [(c : Int)]) (c+1):=by
 have V : El (nth (ai L k) c):=N2 (hL.row hk) hc;have Y:=F.cl.inv _ V h0;have hsw : ∀i,P.length<=i->i<L.length->P.length<=sw P.length k i/\sw P.length k i<L.length:=λi h1 h2=>by unfold sw;split;omega;split <;> omega
 have N : ∀i,i<P.length->sw P.length k i=i:=λi h1=>by unfold sw;rw [JR (by omega),JR (by omega)]
 refine ⟨by rw [dU,J0];simp;omega,λj D=>?_,λj i D hi=>?_,λi x h1 h2 C=>?_⟩
 ·rw [gL];rw [J0,Ka] at D;by_cases e : j<P.length
  ·rw [JT e];have:=h.lt j e;omega
  ·rw [JR e,JT (by omega)];omega
 ·rw [J0,Ka] at D;rw [dU] at hi;rw [gL];by_cases e : j<P.length
  ·rw [JT e];have hb:=h.lt j e;have C : (nth P j).toNat<m:=by omega
   have Q:=h.one j k e hk;rw [JR (by omega)] at Q;rw [eE F hL ht hk hc h0 hi C,Q,F.cQ Y];by_cases X : i=P.length
   ·rw [JT X,JR (by omega)]
   ·rw [JR X];have Z : sw P.length k i<L.length:=by unfold sw;split;omega;split <;> omega
    rw [F.iY (N2 (hL.row Z) hc),F.eY,F.add_zero _ (N2 (hL.row Z) C),h.one j _ e Z];by_cases z : i<P.length
    ·rw [N i z]
    ·have:=(hsw i (by omega) hi).1;rw [JR (by omega),JR (by omega)]
  ·have A : j=P.length:=by omega
   rw [JR e,JT A,JQ,eE F hL ht hk hc h0 hi hc,A];by_cases X : i=P.length
   ·rw [JT X,JT X,F.mul_comm _ _ Y V,F.mul_inv _ V h0]
   ·rw [JR X,JR X];have Z : sw P.length k i<L.length:=by unfold sw;split;omega;split <;> omega
    have U : El (nth (ai L (sw P.length k i)) c):=N2 (hL.row Z) hc;rw [F.mul_comm _ _ Y V,F.mul_inv _ V h0,F.one_mul _ U,F.add_neg _ U]
 ·rw [J0,Ka] at h1;rw [dU] at h2;have I : x<m:=by omega
  have H:=hsw i (by omega) h2;have U : El (nth (ai L (sw P.length k i)) c):=N2 (hL.row H.2) hc;rw [eE F hL ht hk hc h0 h2 I,JR (by omega)];by_cases e : x=c
  ·subst e;rw [F.mul_comm _ _ Y V,F.mul_inv _ V h0,F.one_mul _ U,F.add_neg _ U]
  ·rw [h.zero _ x H.1 H.2 (by omega),h.zero k x E hk (by omega),F.cQ Y,F.iY U,F.eY,F.add_zero 0 F.zero]
theorem gO (F : bI O El) {L : Ll} (hL : bs El m L) (k : Nat) (hk : k<=m) : bs El m (aC O L k).1 :=
 (gy (O':=O) ⟨λ_ _ _ _=>rfl,λ_ _ _ _=>rfl,λ_ _=>rfl,λ_ _ _=>rfl⟩ F.cl hL k hk).2
theorem fJ (F : bI O El) {L : Ll} (hL : bs El m L) : ∀k,k<=m->j5 (aC O L k).1 (aC O L k).2 k/\eA O El m (aC O L k).1 L/\eA O El m L (aC O L k).1
 | 0,_=>⟨⟨JU _,λj Y=>by simp [aC] at Y,λj i Y=>by simp [aC] at Y,λi x _ _ H=>by omega⟩,.refl F L,.refl F L⟩
 | k+1,hk=>by
  obtain ⟨h1,h2,h3⟩:=fJ F hL k (by omega);have N:=gO F hL k (by omega);have hb:=jV (L:=(aC O L k).1) (c:=k) (k:=(aC O L k).2.length) h1.le;by_cases Z : (aC O L k).2.length<(aC O L k).1.length
  ·rw [dR (Lk:=(aC O L k).1) (P:=(aC O L k).2) rfl Z];split
   ·rename_i I;refine ⟨⟨h1.le,λj Y=>⟨(h1.lt j Y).1,Int.lt_trans (h1.lt j Y).2 (by omega)⟩,h1.one,λi x U Q H=>?_⟩,h2,h3⟩;by_cases e : x=k
    ·subst e;exact kX _ x ((aC O L x).1.length - (aC O L x).2.length) _ i U (by show i<aZ _ x _;rw [I];exact Q)
    ·exact h1.zero i x U Q (by omega)
   ·rename_i I;have X : aZ (aC O L k).1 k (aC O L k).2.length<(aC O L k).1.length:=by omega
    have hne : nth (ai (aC O L k).1 (aZ (aC O L k).1 k (aC O L k).2.length)) k ≠ 0:=gK _ k _ _ (by show aZ _ k _<_;omega);exact ⟨h1.next F N (by omega) Z X hb.1 hne,(yQ F N Z X (by omega) hne).trans h2,h3.trans (zV F N Z X (by omega) hne)⟩
  ·have V : (aC O L k).2.length=L.length:=by have:=bL O L k;have:=h1.le;omega
   rw [fU V 1];have E:=bL O L k;exact ⟨⟨h1.le,λj Y=>by have:=h1.lt j Y;omega,h1.one,λi x U Q H=>by omega⟩,h2,h3⟩
theorem j5.ind (F : bI O El) {L : Ll} {P : LI} {c : Nat} (h : j5 L P c) : ∀k,k<=P.length->Rk (ku O El L.length (aX L)) (mg P k) k
 | 0,_=>.nil
 | k+1,hk=>by
  rw [mg];refine .ind _ (λhc=>?_) (h.ind F k (by omega));have Y:=h.le;have h1:=hc (λv=>nth v k) (ka.AG F (by omega)) λy Z=>by obtain ⟨j,X,rfl⟩:=(fu P y k).1 Z;show nth (aX L _) k=0;rw [da L _ k (by omega),h.one j k (by omega) (by omega),JR (by omega)]
  have h2 : nth (aX L (nth P k).toNat) k=0:=h1;rw [da L _ k (by omega),h.one k k (by omega) (by omega),JT rfl] at h2;exact absurd h2 (by decide)
def gT (O : aM) (L : Ll) (P : LI) (v : LI) : Nat->LI
 | 0=>v
 | k+1=>dL O (gT O L P v k) (nth (gT O L P v k) k) (aX L (nth P k).toNat)
theorem j5.less (F : bI O El) {L : Ll} {P : LI} {c : Nat} (h : j5 L P c) (hL : bs El m L) {v : LI} (Q : Vc El L.length v) {V : LI->Int} (Y : ka O El L.length V)
  (h0 : ∀j,j<P.length->V (aX L (nth P j).toNat)=0) : ∀k,k<=P.length->Vc El L.length (gT O L P v k)/\V (gT O L P v k)=V v/\∀i,i<L.length->nth (gT O L P v k) i=if i<k then 0 else nth v i
 | 0,_=>⟨Q,rfl,λi _=>by rw [JR (by omega)];rfl⟩
 | k+1,hk=>by
  obtain ⟨h1,h2,h3⟩:=h.less F hL Q Y h0 k (by omega);have hle:=h.le;have Z:=cO hL F.zero (nth P k).toNat;have X:=h1.at (i:=k) (by omega);refine ⟨h1.sub F Z X,?_,λi hi=>?_⟩
  ·rw [gT,Y.sub _ _ _ h1 Z X,h0 k (by omega),F.cQ X,F.eY,F.add_zero _ (Y.el _ h1),h2]
  ·rw [gT,eF O _ _ _ i (by rw [Z.1,h1.1]) (by rw [h1.1];exact hi),da L _ i hi,h.one k i (by omega) hi];by_cases e : i=k
   ·subst e;rw [JT rfl,F.gR X,F.add_neg _ X,JT (by omega)]
   ·rw [JR e,F.cQ X,F.eY,F.add_zero _ (h1.at hi),h3 i hi];by_cases U : i<k
    ·rw [JT U,JT (by omega)]
    ·rw [JR U,JR (by omega)]
theorem j5.all (F : bI O El) {L : Ll} {P : LI} (h : j5 L P m) (hL : bs El m L) {x : Nat} (X : x<m) : ku O El L.length (aX L) (mg P P.length) x:=by
 intro V Z h0;obtain ⟨h1,h2,h3⟩:=h.less F hL (cO hL F.zero x) Z (λj Y=>h0 _ ((fu P _ _).2 ⟨j,Y,rfl⟩)) _ (JO _);rw [<- h2];refine Z.zero F h1 λi hi=>?_;rw [h3 i hi];split
 ·rfl
 ·rw [da L x i hi];exact h.zero i x (by omega) hi X
theorem Rk.map {cl cl' : LN->Nat->Prop} (D : Nat->Prop) (f : Nat->Nat) (hc : ∀l x,(∀y ∈ l,D y)->D x->(cl l x ↔ cl' (l.map f) (f x))) {l : LN} {r : Nat} (h : Rk cl l r) : (∀y ∈ l,D y)->Rk cl' (l.map f) r:=by
 induction h with
 | nil=>intro _;exact .nil
 | dep x V _ X =>
  intro Y
  exact .dep _ ((hc _ _ (λy Z=>Y y (List.mem_cons.2 (.inr Z))) (Y x (by simp))).1 V) (X λy Z=>Y y (List.mem_cons.2 (.inr Z)))
 | ind x V _ X =>
  intro Y
  exact .ind _ (λh=>V ((hc _ _ (λy Z=>Y y (List.mem_cons.2 (.inr Z))) (Y x (by simp))).2 h)) (X λy Z=>Y y (List.mem_cons.2 (.inr Z)))
theorem DS (F : bI O El) {L : Ll} (hL : bs El m L) : Rk (ku O El L.length (aX L)) (List.range m) (aC O L m).2.length:=by
 obtain ⟨h1,h2,h3⟩:=fJ F hL m (JO _);have Q:=gO F hL m (JO _);have H:=gE F Q;have N:=(h1.ind F _ (JO _)).zp H (List.range m) λx Y=>h1.all F Q (List.mem_range.1 Y);have I:=Rk.map (cl':=ku O El L.length (aX L)) (λy=>y<m) id (λl x V Y=>by rw [Mq];exact ⟨h3.cl V Y,h2.cl V Y⟩) N λy Z=>by
  rcases List.mem_append.1 Z with Z | Z
  ·exact List.mem_range.1 Z
  ·obtain ⟨j,X,rfl⟩:=(fu _ _ _).1 Z;have:=h1.lt j X;omega
 obtain ⟨r,U⟩:=Rk.ex (ku O El L.length (aX L)) (List.range m);have e:=Rk.same (gE F hL) I U λx=>by
  rw [Mq,KN];constructor
  ·rintro (h | h)
   ·exact h
   ·obtain ⟨j,X,rfl⟩:=(fu _ _ _).1 h;have:=h1.lt j X;exact List.mem_range.2 (by omega)
  ·exact .inl
 rw [e];exact U
def bP (Q : LI) (r : LI) : LI:=Q.map λq=>nth r q.toNat
theorem oJ (Q r : LI) {i : Nat} (hi : i<Q.length) : nth (bP Q r) i=nth r (nth Q i).toNat:=by rw [aj (show i<(bP Q r).length by simpa [bP] using hi),aj hi];simp [bP]
theorem wq {L : Ll} (hL : bs El n L) {Q : LI} (X : ∀j,j<Q.length->0<=nth Q j/\nth Q j<n) : bs El Q.length (L.map (bP Q)):=by intro r V;obtain ⟨Y,h0,rfl⟩:=List.mem_map.1 V;refine ⟨by simp [bP],λx N=>?_⟩;obtain ⟨q,U,rfl⟩:=List.mem_map.1 N;obtain ⟨j,Z,rfl⟩:=List.mem_iff_getElem.1 U;have:=X j Z;rw [aj Z] at this;exact (hL Y h0).2 _ (aI (by rw [(hL Y h0).1];omega))
theorem FX (F : bI O El) {L : Ll} (hL : bs El n L) {Q : LI} (H : ∀j,j<Q.length->0<=nth Q j/\nth Q j<n) :
  Rk (ku O El L.length (aX L)) ((List.range Q.length).map λj=>(nth Q j).toNat) (aC O (L.map (bP Q)) Q.length).2.length:=by
 have E:=wq hL H;have Z : ∀j,j<Q.length->aX (L.map (bP Q)) j=aX L (nth Q j).toNat:=λj V=>by unfold aX;rw [NI];exact Lh λr _=>oJ Q r V
 refine Rk.map (λj=>j<Q.length) _ (λl x N I=>?_) (DS F E) λy X=>List.mem_range.1 X;unfold ku;rw [J5];constructor
 ·intro h U Y h0;rw [<- Z x I];refine h U Y λy X=>?_;rw [Z y (N y X)];exact h0 _ (List.mem_map.2 ⟨y,X,rfl⟩)
 ·intro h U Y h0;rw [Z x I];refine h U Y λy X=>?_;obtain ⟨j,V,rfl⟩:=List.mem_map.1 X;rw [<- Z j (N j V)];exact h0 j V
end
theorem dW (a : OA) (n c : Nat) (l : LI) (a' : OA) (N r : Nat) (Z : LI) {w : World} (h : Ints w a n l) (H : Ints w a' N Z) :
  Calls prog 19 #[.slice a n c,.slice a' N r] w (iG w (decide (l=Z))):=by
 have E:=Z5 h.len;have X:=Z5 H.len;have j:=h.pl;have C:=H.pl;have U:=h.max;unfold maxLen at U;by_cases A : n=N
 ·subst A;have I : ((n : Int) != n)=false:=by simp
  go_enter func19,ntmps19;go_wp2_with fail;go_loopw [5] (λz wr=>∃k : Nat,k<=n/\z = .int .i64 k/\Hid (l.take k=Z.take k)/\bm w wr) (λi _=>n - (intOf i).toNat);case atStart=>exact ⟨0,JU _,rfl,rfl,N4 _⟩
  case round =>
   obtain ⟨k,hk,rfl,Q,hd⟩:=hrel
   by_cases Y : k<n
   ·have c1:=(h.drawn hd).cell k Y
    have c2:=(H.drawn hd).cell k Y
    by_cases he : nth l k=nth Z k
    ·have D : (nth l k != nth Z k)=false:=by simpa using he
     have V : Hid (l.take (k+1)=Z.take (k+1)):=oR Q.out (by rw [E.out];exact Y) (by rw [X.out];exact Y) he
     clear he
     go_wp2_with fail
     go_quiet (fail)
     go_wp2
     go_roundw
     case rel=>exact ⟨k+1,by omega,by go_num,V.out,hd.drewN _⟩
     case measure=>simp [intOf] <;> omega
    ·have D : (nth l k != nth Z k)=true:=by simpa using he
     have V : Hid (decide (l=Z)=false):=by show _=_;simp;intro e;exact he (by rw [e])
     clear he
     go_wp2_with fail
     go_quiet (fail)
     go_wp2
     go_ret
     exact ⟨aU V.out.symm,hd.drewN _⟩
   ·obtain rfl : k=n:=by omega
    have V : Hid (decide (l=Z)=true):=by show _=_;have:=Q.out;rw [JX (by rw [E.out];exact JO _),JX (by rw [X.out];exact JO _)] at this;simpa using this
    go_wp2_with fail
    go_ret
    exact ⟨aU V.out.symm,hd⟩
 ·have I : ((n : Int) != N)=true:=by simp;omega
  have V : Hid (decide (l=Z)=false):=by show _=_;simp;intro e;have e1:=E.out;have e2:=X.out;rw [e] at e1;omega
  clear A;go_enter func19,ntmps19;go_wp2_with fail;go_ret;exact ⟨aU V.out.symm,N4 _⟩
theorem lV (a : OA) (n c : Nat) (l : Ll) (a' : OA) (H c' : Nat) (Y : Ll) {w : World} (h : bu w a n l) (A : bu w a' H Y) :
  Calls prog 44 #[.slice a n c,.slice a' H c'] w (iG w (decide (l=Y))):=by
 have Hl:=Z5 h.len;have U:=Z5 A.len;have hpl:=h.pl;have hpl':=A.pl;have N:=h.max;unfold maxLen at N;by_cases hn : n=H
 ·subst hn;have C : ((n : Int) != n)=false:=by simp
  go_enter func44,ntmps44;go_wp2_with fail;go_loopw [5] (λiv wr=>∃k : Nat,k<=n/\iv = .int .i64 k/\Hid (l.take k=Y.take k)/\bm w wr) (λi _=>n - (intOf i).toNat);case atStart=>exact ⟨0,JU _,rfl,rfl,N4 _⟩
  case round =>
   obtain ⟨k,hk,rfl,I,hd⟩:=hrel
   by_cases X : k<n
   ·obtain ⟨D,n1,d1,c1,i1⟩:=(h.drawn hd).cell k X
    obtain ⟨z,r,d2,c2,i2⟩:=(A.drawn hd).cell k X
    have E:=Z5 (dW D n1 d1 _ z r d2 _ (i1.drawn (N4 wr).drew) (i2.drawn (N4 wr).drew))
    by_cases he : ai l k=ai Y k
    ·have Z : decide (ai l k=ai Y k)=true:=by simpa using he
     have Q : Hid (l.take (k+1)=Y.take (k+1)):=my I.out (by rw [Hl.out];exact X) (by rw [U.out];exact X) he
     rw [Z] at E
     clear he Z
     go_wp2_with fail
     go_region_held3 (λV=>V.cell? ⟨ablk a,aL a+k,none⟩=some (.slice D n1 d1)/\V.cell? ⟨ablk a',aL a'+k,none⟩=some (.slice z r d2)) (exact ⟨c1,c2⟩)
      (first | (go_at_call 19;((with_reducible refine E.out.mono ?_);rintro e w4 ⟨rfl,j,rfl⟩)))
     go_wp2_with fail
     go_roundw
     case rel=>exact ⟨k+1,by omega,by go_num,Q.out,hd.drewN (1+j)⟩
     case measure=>simp [intOf] <;> omega
    ·have Z : decide (ai l k=ai Y k)=false:=by simpa using he
     have Q : Hid (decide (l=Y)=false):=by show _=_;simp;intro e;exact he (by rw [e])
     rw [Z] at E
     clear he Z
     go_wp2_with fail
     go_region_held3 (λV=>V.cell? ⟨ablk a,aL a+k,none⟩=some (.slice D n1 d1)/\V.cell? ⟨ablk a',aL a'+k,none⟩=some (.slice z r d2)) (exact ⟨c1,c2⟩)
      (first | (go_at_call 19;((with_reducible refine E.out.mono ?_);rintro e w4 ⟨rfl,j,rfl⟩)))
     go_wp2_with fail
     go_ret
     exact ⟨aU Q.out.symm,hd.drewN (1+j)⟩
   ·obtain rfl : k=n:=by omega
    have Q : Hid (decide (l=Y)=true):=by show _=_;have:=I.out;rw [JX (by rw [Hl.out];exact JO _),JX (by rw [U.out];exact JO _)] at this;simpa using this
    go_wp2_with fail
    go_ret
    exact ⟨aU Q.out.symm,hd⟩
 ·have C : ((n : Int) != H)=true:=by simp;omega
  have Q : Hid (decide (l=Y)=false):=by show _=_;simp;intro e;have e1:=Hl.out;have e2:=U.out;rw [e] at e1;omega
  clear hn;go_enter func44,ntmps44;go_wp2_with fail;go_ret;exact ⟨aU Q.out.symm,N4 _⟩
theorem kd (P M : Int) (am : OA) (Q cm : Nat) (a : OA) (n c : Nat) (l : LI) (w : World) (hi : Ints w a n l) :
  Calls prog 87 #[.agg #[.int .i64 P,.int .i64 M,.slice am Q cm],.slice a n c] w λe w'=>e = .returned (.int .i64 (gX (aH P M) l))/\OC w w':=by
 have X:=Z5 hi.len;have hpl:=hi.pl;have E:=hi.max;unfold maxLen at E;go_enter func87,ntmps87;go_wp2_with fail;obtain ⟨W,r⟩ : ∃W : World,W=w.alloc (.cells #[.int .i64 P,.int .i64 M,.slice am Q cm] 24):=⟨_,rfl⟩
 rw [<- r];have I : OC w W:=by rw [r];exact an _ _
 have x0 : aO W w.heap.size [.int .i64 P,.int .i64 M,.slice am Q cm]:=by rw [r];exact NY _ _ _ rfl
 have hiW:=hi.af I;have hS : ∀k,k<n->∀V,OC W V->V.cell? ⟨w.heap.size,0,none⟩=some (.int .i64 P)/\V.cell? ⟨w.heap.size,1,none⟩=some (.int .i64 M)/\V.cell? ⟨w.heap.size,2,none⟩=some (.slice am Q cm)/\V.cell? ⟨ablk a,aL a+k,none⟩=some (.int .i64 (nth l k))/\OC W V:=by intro k hk V hV;have x1:=x0.af hV;exact ⟨x1.cell 0 rfl,x1.cell 1 rfl,x1.cell 2 rfl,(hiW.af hV).cell k hk,hV⟩
 have HS:=Z5 hS;clear r x0 hS;go_loopw [5] (λiv wr=>∃k : Nat,k<=n/\iv = .int .i64 k/\Hid ((l.take k).all (gV (aH P M))=true)/\OC W wr) (λiv _=>n - (intOf iv).toNat);case atStart=>exact ⟨0,JU _,rfl,by show _=_;simp,JP _ _⟩
 case round =>
  obtain ⟨k,hk,rfl,U,N⟩:=hrel
  by_cases C : k<n
  ·have D : Hid (∀V,OC W V->V.cell? ⟨w.heap.size,0,none⟩=some (.int .i64 P)/\V.cell? ⟨w.heap.size,1,none⟩=some (.int .i64 M)/\V.cell? ⟨w.heap.size,2,none⟩=some (.slice am Q cm)/\V.cell? ⟨ablk a,aL a+k,none⟩=some (.int .i64 (nth l k))/\OC W V):=HS.out k C
   have Y : k<l.length:=by rw [X.out];exact C
   have Z:=Z5 N
   have j:=Z5 (AL P M am Q cm (nth l k))
   clear N
   by_cases A : gV (aH P M) (nth l k)=true
   ·have z : Hid ((l.take (k+1)).all (gV (aH P M))=true):=dC Y U.out (by rw [<- aj Y];exact A)
    rw [A] at j
    clear A
    go_wp2_with fail
    go_region_held3 (λV=>V.cell? ⟨w.heap.size,0,none⟩=some (.int .i64 P)/\V.cell? ⟨w.heap.size,1,none⟩=some (.int .i64 M)/\V.cell? ⟨w.heap.size,2,none⟩=some (.slice am Q cm)/\V.cell? ⟨ablk a,aL a+k,none⟩=some (.int .i64 (nth l k))/\OC W V)
     ((refine D.out _ ?_;first | exact Z.out.drew | exact NX Z.out.drew hb4))
     (first | (go_at_call 141;((with_reducible refine (j.out _).mono ?_);rintro e w4 ⟨rfl,hb4⟩)))
    go_wp2_with fail
    go_roundw
    case rel=>exact ⟨k+1,by omega,by go_num,z.out,NX Z.out.drew hb4⟩
    case measure=>simp [intOf] <;> omega
   ·have H : gV (aH P M) (nth l k)=false:=by simpa using A
    have z : Hid (gX (aH P M) l=2):=by show _=_;rw [gX,ez,dA Y (by rw [<- aj Y];exact H)];rfl
    rw [H] at j
    clear A H
    go_wp2_with fail
    go_region_held3 (λV=>V.cell? ⟨w.heap.size,0,none⟩=some (.int .i64 P)/\V.cell? ⟨w.heap.size,1,none⟩=some (.int .i64 M)/\V.cell? ⟨w.heap.size,2,none⟩=some (.slice am Q cm)/\V.cell? ⟨ablk a,aL a+k,none⟩=some (.int .i64 (nth l k))/\OC W V)
     ((refine D.out _ ?_;first | exact Z.out.drew | exact NX Z.out.drew hb4))
     (first | (go_at_call 141;((with_reducible refine (j.out _).mono ?_);rintro e w4 ⟨rfl,hb4⟩)))
    go_wp2_with fail
    go_ret
    exact ⟨aK z.out.symm,NX I (NX Z.out.drew hb4)⟩
  ·obtain rfl : k=n:=by omega
   have z : Hid (gX (aH P M) l=0):=by have:=U.out;rw [JX (by rw [X.out];exact JO _)] at this;show _=_;rw [gX,ez,this];rfl
   go_wp2_with fail
   go_ret
   exact ⟨aK z.out.symm,NX I N⟩
def bA (P M : Int) (mod : LI) : Bool:=cB P M mod && (M == 1 || oc P mod)
theorem Am {P M : Int} {mod : LI} (h : aH P M=0) : cB P M mod=false:=by simp [cB,h]
theorem yN {P M : Int} {mod : LI} (h : fP P.toNat=false) : cB P M mod=false:=by simp [cB,h]
theorem ki (P M : Int) (am : OA) (Y cm : Nat) (mod : LI) (w : World) (V : Ints w am Y mod) :
  Calls prog 40 #[.agg #[.int .i64 P,.int .i64 M,.slice am Y cm]] w λe w'=>e = .returned (.int .i64 (cU (bA P M mod)))/\OC w w':=by
 have U:=Z5 V.len;have hplm:=V.pl;have hmax:=V.max;unfold maxLen at hmax;go_enter func40,ntmps40;go_wp2_with fail;obtain ⟨W,hW⟩ : ∃W : World,W=w.alloc (.cells #[.int .i64 P,.int .i64 M,.slice am Y cm] 24):=⟨_,rfl⟩
 rw [<- hW];have hbW : OC w W:=by rw [hW];exact an _ _
 have x0 : aO W w.heap.size [.int .i64 P,.int .i64 M,.slice am Y cm]:=by rw [hW];exact NY _ _ _ rfl
 have HX:=Z5 x0;clear hW x0;refine (mc P M am Y cm W).mono ?_;rintro e w1 ⟨rfl,hb1⟩;have Z:=NX hbW hb1;have xU:=HX.out.af hb1;have d0:=xU.cell 0 rfl;have d1:=xU.cell 1 rfl;have d2:=xU.cell 2 rfl;have hm1:=(V.af hbW).af hb1;clear xU;by_cases ho : aH P M=0
 ·have X : Hid (cU (bA P M mod)=1):=by show _=_;rw [bA,Am ho];rfl
  rw [ho];clear ho;go_wp2_with fail;go_ret;exact ⟨aK X.out.symm,Z⟩
 ·obtain ⟨m,rfl,z⟩:=RF.of ho;have hp2:=z.p2;have hp256:=z.p256;have hm1':=z.m1;have hm8:=z.m8;have hoo : (aH P m == 0)=false:=by simpa using ho
  have Ho:=Z5 ho;obtain ⟨p,rfl⟩ : ∃p : Nat,P=p:=⟨P.toNat,by omega⟩
  clear ho;by_cases H : fP p=true
  ·have Hpr:=Z5 H;have Hc:=Z5 (rZ p w1 (by omega) (by omega));rw [H] at Hc;clear H;have hsh : cB p m mod=(if (m : Int)=1 then mod.length == 0 else decide ((mod.length : Int)=m) && mod.all λc=>decide (0<=c) && decide (c<p)):=by
    have h1 : (aH p m != 0)=true:=by have:=Ho.out;simpa using this
    rw [cB,h1,JQ,Hpr.out];rfl
   have Hsh:=Z5 hsh;clear hsh;by_cases hM : m=1
   ·have hM' : ((m : Int) == 1)=true:=by simp [hM]
    have D : (m : Int)=1:=by omega
    have A : Hid (bA p m mod=(mod.length == 0)):=by show _=_;rw [bA,Hsh.out,JT D,hM'];simp
    clear hM D;by_cases N : Y=0
    ·have hl' : ((Y : Int) != 0)=false:=by simp [N]
     have X : Hid (cU (bA p m mod)=0):=by show _=_;rw [A.out,U.out,N];rfl
     clear N;go_wp2_with (go_at_call 95;refine Hc.out.mono ?_;rintro e w2 ⟨rfl,rfl⟩);go_ret;exact ⟨aK X.out.symm,Z⟩
    ·have hl' : ((Y : Int) != 0)=true:=by simp;omega
     have X : Hid (cU (bA p m mod)=1):=by
      show _=_;rw [A.out,U.out];have : (Y == 0)=false:=by simpa using N
      rw [this];rfl
     clear N;go_wp2_with (go_at_call 95;refine Hc.out.mono ?_;rintro e w2 ⟨rfl,rfl⟩);go_ret;exact ⟨aK X.out.symm,Z⟩
   ·have hM' : ((m : Int) == 1)=false:=by simp;omega
    have D : ¬ (m : Int)=1:=by omega
    have A : Hid (bA p m mod=(decide ((mod.length : Int)=m) && (mod.all λc=>decide (0<=c) && decide (c<p)) && oc p mod)):=by show _=_;rw [bA,Hsh.out,JR D,hM'];simp
    clear hM D;by_cases N : Y=m
    ·have hl' : ((Y : Int) != m)=false:=by simp [N]
     have E : Hid (bA p m mod=((mod.all λc=>decide (0<=c) && decide (c<p)) && oc p mod)):=by show _=_;rw [A.out,U.out,N];simp
     have j : Hid (Y=m):=N;have hmnm : (Y : Int)=m:=by omega
     clear N hmnm;go_wp2_with (go_at_call 95;refine Hc.out.mono ?_;rintro e w2 ⟨rfl,rfl⟩);go_loopw [3] (λiv wr=>∃k : Nat,k<=m/\iv = .int .i64 k/\Hid ((mod.take k).all (λc=>decide (0<=c) && decide (c<p))=true)/\bm w1 wr) (λiv _=>m - (intOf iv).toNat);case atStart=>exact ⟨0,JU _,rfl,by show _=_;simp,N4 _⟩
     case round =>
      obtain ⟨k,hk,rfl,hall,hd⟩:=hrel
      have e0:=hd.cell d0
      have e1:=hd.cell d1
      have e2:=hd.cell d2
      have hmr:=hm1.drawn hd
      by_cases hlt : k<m
      ·have hkmn : k<Y:=by rw [j.out];exact hlt
       have ck:=hmr.cell k hkmn
       have Q : k<mod.length:=by rw [U.out];exact hkmn
       have hkmn' : (k : Int)<Y:=by omega
       by_cases h0 : 0<=nth mod k
       ·have t0 : decide (nth mod k<0)=false:=by simp;omega
        by_cases h1 : nth mod k<p
        ·have t1 : decide ((p : Int)<=nth mod k)=false:=by simp;omega
         have Hs : Hid ((mod.take (k+1)).all (λc=>decide (0<=c) && decide (c<p))=true):=dC Q hall.out (by rw [<- aj Q];simp [h0,h1])
         go_wp2_with fail
         go_quiet (fail)
         go_wp2
         go_roundw
         case rel=>exact ⟨k+1,by omega,by go_num,Hs.out,hd.drewN _⟩
         case measure=>simp [intOf] <;> omega
        ·have t1 : decide ((p : Int)<=nth mod k)=true:=by simp;omega
         have X : Hid (cU (bA p m mod)=1):=by show _=_;rw [E.out,dA Q (by rw [<- aj Q];simp [h1])];rfl
         go_wp2_with fail
         go_quiet (fail)
         go_wp2
         go_ret
         exact ⟨aK X.out.symm,NX Z (hd.drewN _).below⟩
       ·have t0 : decide (nth mod k<0)=true:=by simp;omega
        have X : Hid (cU (bA p m mod)=1):=by show _=_;rw [E.out,dA Q (by rw [<- aj Q];simp [h0])];rfl
        go_wp2_with fail
        go_quiet (fail)
        go_wp2
        go_ret
        exact ⟨aK X.out.symm,NX Z (hd.drewN _).below⟩
      ·obtain rfl : k=m:=by omega
       have Hall : Hid ((mod.all λc=>decide (0<=c) && decide (c<p))=true):=by have:=hall.out;rwa [JX (by rw [U.out,j.out];exact JO _)] at this
       have HfR3 : Hid (bA p k mod=oc p mod):=by show _=_;rw [E.out,Hall.out];simp
       have hdig : dz (p : Int) mod:=Oo (by omega) λx hx=>by have:=List.all_eq_true.1 Hall.out x hx;simpa using this
       have hpw : (p : Int) ^ Y<=256:=by rw [j.out];exact z.pw
       have hmn8 : Y<=8:=by rw [j.out];exact hm8
       go_wp2_with fail
       refine (nY am Y cm mod p wr hmr hp2 hp256 hdig hmn8 hpw).mono ?_
       rintro e w4 ⟨rfl,hb4⟩
       have hbw4:=NX (NX Z hd.below) hb4
       by_cases I : oc p mod=true
       ·have X : Hid (cU (bA p k mod)=0):=by show _=_;rw [HfR3.out,I];rfl
        rw [I]
        clear I
        go_wp2_with fail
        go_ret
        exact ⟨aK X.out.symm,hbw4⟩
       ·have r : oc p mod=false:=by simpa using I
        have X : Hid (cU (bA p k mod)=1):=by show _=_;rw [HfR3.out,r];rfl
        rw [r]
        clear I r
        go_wp2_with fail
        go_ret
        exact ⟨aK X.out.symm,hbw4⟩
    ·have hl' : ((Y : Int) != m)=true:=by simp;omega
     have X : Hid (cU (bA p m mod)=1):=by
      show _=_;rw [A.out,U.out];have : decide ((Y : Int)=m)=false:=by simp;omega
      rw [this];rfl
     clear N;go_wp2_with (go_at_call 95;refine Hc.out.mono ?_;rintro e w2 ⟨rfl,rfl⟩);go_ret;exact ⟨aK X.out.symm,Z⟩
  ·have C : fP p=false:=by simpa using H
   have X : Hid (cU (bA p m mod)=1):=by show _=_;rw [bA,yN (by simpa using C)];rfl
   have Hc:=Z5 (rZ p w1 (by omega) (by omega));rw [C] at Hc;clear H C;go_wp2_with (go_at_call 95;refine Hc.out.mono ?_;rintro e w2 ⟨rfl,rfl⟩);go_ret;exact ⟨aK X.out.symm,Z⟩
section
variable {O : aM} {El : Int->Prop} {m n : Nat}
def dotN (O : aM) (a b : Nat->Int) : Nat->Int
 | 0=>0
 | t+1=>O.add (dotN O a b t) (O.mul (a t) (b t))
theorem jT (F : bI O El) {a b : Nat->Int} : ∀t,(∀p,p<t->El (a p))->(∀p,p<t->El (b p))->El (dotN O a b t)
 | 0,_,_=>F.zero
 | t+1,ha,hb=>F.cl.add _ _ (jT F t (λp Z=>ha p (by omega)) λp Z=>hb p (by omega)) (F.cl.mul _ _ (ha t (by omega)) (hb t (by omega)))
theorem fT (F : bI O El) {a b : Nat->Int} : ∀t,(∀p,p<t->El (a p))->(∀p,p<t->El (b p))->dotN O a b t=dotN O b a t
 | 0,_,_=>rfl
 | t+1,ha,hb=>by rw [dotN,dotN,fT F t (λp Z=>ha p (by omega)) λp Z=>hb p (by omega),F.mul_comm _ _ (ha t (by omega)) (hb t (by omega))]
theorem eD {a b a' b' : Nat->Int} : ∀t,(∀p,p<t->a p=a' p/\b p=b' p)->dotN O a b t=dotN O a' b' t
 | 0,_=>rfl
 | t+1,h=>by rw [dotN,dotN,eD t λp Z=>h p (by omega),(h t (by omega)).1,(h t (by omega)).2]
theorem lq (F : bI O El) {a b : Nat->Int} : ∀t,(∀p,p<t->O.mul (a p) (b p)=0)->dotN O a b t=0
 | 0,_=>rfl
 | t+1,h=>by rw [dotN,lq F t λp Z=>h p (by omega),h t (by omega),F.add_zero 0 F.zero]
theorem kB (F : bI O El) {a b : Nat->Int} {x : Nat} (Z : El (O.mul (a x) (b x))) : ∀t,(∀p,p<t->p ≠ x->O.mul (a p) (b p)=0)->dotN O a b t=if x<t then O.mul (a x) (b x) else 0
 | 0,_=>rfl
 | t+1,h=>by
  rw [dotN,kB F Z t λp X=>h p (by omega)];by_cases e : t=x
  ·subst e;rw [JR (by omega),JT (by omega),F.sl Z]
  ·rw [h t (by omega) e];by_cases Y : x<t
   ·rw [JT Y,JT (by omega),F.add_zero _ Z]
   ·rw [JR Y,JR (by omega),F.add_zero 0 F.zero]
theorem vU (F : bI O El) {a b : Nat->Int} {x y : Nat} (U : x ≠ y) (Y : El (O.mul (a x) (b x))) (X : El (O.mul (a y) (b y))) : ∀t,(∀p,p<t->p ≠ x->p ≠ y->O.mul (a p) (b p)=0) ->
  dotN O a b t=O.add (if x<t then O.mul (a x) (b x) else 0) (if y<t then O.mul (a y) (b y) else 0)
 | 0,_=>by rw [JR (by omega),JR (by omega)];exact (F.add_zero 0 F.zero).symm
 | t+1,h=>by
  rw [dotN,vU F U Y X t λp Q=>h p (by omega)];by_cases e : t=x
  ·subst e;rw [JR (MJ t),JT (Nat.lt_succ_self t)];by_cases Z : y<t
   ·rw [JT Z,JT (show y<t+1 by omega),F.sl X,F.add_comm _ _ X Y]
   ·rw [JR Z,JR (show ¬ y<t+1 by omega),F.sl F.zero,F.sl Y,F.add_zero _ Y]
  ·by_cases e1 : t=y
   ·subst e1;by_cases Z : x<t
    ·rw [JT Z,JR (by omega),JT (by omega),JT (by omega),F.add_zero _ Y]
    ·rw [JR Z,JR (by omega),JR (by omega),JT (by omega),F.add_zero 0 F.zero]
   ·rw [h t (by omega) e e1];by_cases Z : x<t
    ·by_cases V : y<t
     ·rw [JT Z,JT V,JT (by omega),JT (by omega),F.add_zero _ (F.cl.add _ _ Y X)]
     ·rw [JT Z,JR V,JT (by omega),JR (by omega),F.add_zero _ (F.cl.add _ _ Y F.zero)]
    ·by_cases V : y<t
     ·rw [JR Z,JT V,JR (by omega),JT (by omega),F.add_zero _ (F.cl.add _ _ F.zero X)]
     ·rw [JR Z,JR V,JR (by omega),JR (by omega),F.add_zero _ (F.cl.add _ _ F.zero F.zero)]
def vE (O : aM) (r : Nat->Int) (K : Ll) : Nat->LI
 | 0=>List.replicate K.length 0
 | t+1=>dL O (vE O r K t) (O.neg (r t)) (aX K t)
theorem mq (F : bI O El) {r : Nat->Int} {K : Ll} (Z : bs El m K) : ∀t,(∀p,p<t->El (r p))->Vc El K.length (vE O r K t)
 | 0,_=>⟨by simp [vE],λy X=>by have:=KJ X;rw [this];exact F.zero⟩
 | t+1,Y=>(mq F Z t λp V=>Y p (by omega)).sub F (cO Z F.zero t) (F.cl.neg _ (Y t (by omega)))
theorem A8 (F : bI O El) {r : Nat->Int} {K : Ll} (X : bs El m K) {j : Nat} (Y : j<K.length) : ∀t,t<=m->(∀p,p<t->El (r p))->nth (vE O r K t) j=dotN O r (λp=>nth (ai K j) p) t
 | 0,_,_=>by simp [vE,dotN,nth,JS,Ke,Y]
 | t+1,ht,V=>by have U:=mq F X t λp N=>V p (by omega);have hc:=cO X F.zero t;have Z:=V t (by omega);have Q : El (nth (ai K j) t):=N2 (X.row Y) (by omega);rw [vE,eF O _ _ _ j (by rw [hc.1,U.1]) (by rw [U.1];exact Y),A8 F X Y t (by omega) λp N=>V p (by omega),da K t j Y,F.neg_mul Z Q,F.neg_neg (F.cl.mul _ _ Z Q)];rfl
theorem tb (F : bI O El) {r : Nat->Int} {K : Ll} (X : bs El m K) {U : LI->Int} (Z : ka O El K.length U) : ∀t,(∀p,p<t->El (r p))->U (vE O r K t)=dotN O r (λp=>U (aX K p)) t
 | 0,_=>Z.zero F (mq F X 0 λp N=>by omega) λi hi=>by simp [vE,nth,JS,Ke,hi]
 | t+1,V=>by have I:=mq F X t λp N=>V p (by omega);have hc:=cO X F.zero t;have Y:=V t (by omega);have Q:=Z.el _ hc;rw [vE,Z.sub _ _ _ I hc (F.cl.neg _ Y),tb F X Z t λp N=>V p (by omega),F.neg_mul Y Q,F.neg_neg (F.cl.mul _ _ Y Q)];rfl
theorem jx (F : bI O El) {r : Nat->Int} {K : Ll} (Y : bs El m K) {V : LI->Int} (Z : ka O El K.length V) (X : ∀p,p<m->El (r p)) (h : ∀j,j<K.length->dotN O r (λp=>nth (ai K j) p) m=0) :
  dotN O r (λp=>V (aX K p)) m=0:=by rw [<- tb F Y Z m X];exact Z.zero F (mq F Y m X) λi hi=>by rw [A8 F Y hi m (JO _) X];exact h i hi
def nO (O : aM) (m : Nat) (G K : Ll) : Prop:=∀i j,i<G.length->j<K.length->dotN O (λp=>nth (ai G i) p) (λp=>nth (ai K j) p) m=0
variable {G K : Ll}
theorem nO.symm (F : bI O El) (X : bs El m G) (V : bs El m K) (h : nO O m G K) : nO O m K G:=λi j hi Y=>by rw [fT F m (λp Z=>N2 (V.row hi) Z) λp Z=>N2 (X.row Y) Z];exact h j i Y hi
theorem nO.I6 (F : bI O El) (X : bs El m G) (I : bs El m K) (h : nO O m G K) {U N : LI->Int} (Y : ka O El K.length U) (V : ka O El G.length N) :
  dotN O (λp=>U (aX K p)) (λp=>N (aX G p)) m=0:=by have Z : ∀p,p<m->El (U (aX K p)):=λp _=>Y.el _ (cO I F.zero p);refine jx F X V Z λi hi=>?_;rw [fT F m Z λp Q=>N2 (X.row hi) Q];exact jx F I Y (λp Q=>N2 (X.row hi) Q) λj H=>h i j hi H
theorem nO.cl (F : bI O El) (Q : bs El m G) (V : bs El m K) (h : nO O m G K) {A B : LN} {x : Nat} (C : x<m) (U : ∀p,p<m->p ≠ x->p ∈ A\/p ∈ B) (D : ¬ ku O El G.length (aX G) A x) :
  ku O El K.length (aX K) B x:=by
 intro N Y h0;apply Kg;intro hne;apply D;intro H Z z;have hd:=h.I6 F Q V Y Z;have e1:=Y.el _ (cO V F.zero x);have I:=Z.el _ (cO Q F.zero x);rw [kB F (x:=x) (F.cl.mul _ _ e1 I) m λp E X=>?_,JT C] at hd
 ·exact F.u9 e1 I hne hd
 ·rcases U p E X with h1 | h1
  ·show O.mul (N (aX K p)) (H (aX G p))=0;rw [z p h1,F.cQ (Y.el _ (cO V F.zero p))]
  ·show O.mul (N (aX K p)) (H (aX G p))=0;rw [h0 p h1,F.iY (Z.el _ (cO Q F.zero p))]
theorem Gl {cl : LN->Nat->Prop} {l : LN} {x n Z : Nat} (h : Rk cl l n) (X : Rk cl (x :: l) Z) : Z<=n+1/\(cl l x->Z=n):=by
 cases X with
 | dep _ Y h2=>exact ⟨by rw [h.uniq h2];omega,λ_=>(h.uniq h2).symm⟩
 | ind _ Y h2=>exact ⟨by rw [h.uniq h2];omega,λhc=>absurd hc Y⟩
theorem jO {cl cl' : LN->Nat->Prop} {m : Nat} (h : ∀A B x,x<m->(∀p,p<m->p ≠ x->p ∈ A\/p ∈ B)->¬ cl A x->cl' B x) :
  ∀(l acc : LN) {a b c : Nat},(∀x ∈ l,x<m)->(∀p,p<m->p ∈ l\/p ∈ acc)->Rk cl l a->Rk cl' acc b->Rk cl' (l.reverse ++ acc) c->a+c<=l.length+b
 | [],acc,a,b,c,_,_,ha,hb,hc=>by
  cases ha
  have e : c=b:=Rk.uniq hc hb;simp;omega
 | x :: l,acc,a,b,c,Q,E,ha,hb,hc=>by
  have C:=Q x (by simp);obtain ⟨b',Y⟩:=Rk.ex cl' (x :: acc);have H:=Gl hb Y;have U : Rk cl' (l.reverse ++ (x :: acc)) c:=by simpa using hc
  have hp' : ∀p,p<m->p ∈ l\/p ∈ x :: acc:=λp Z=>by
   rcases E p Z with h1 | h1
   ·rcases List.mem_cons.1 h1 with rfl | h1
    ·exact .inr (by simp)
    ·exact .inl h1
   ·exact .inr (List.mem_cons.2 (.inr h1))
  cases ha with
  | dep _ V X =>
   have D:=jO h l (x :: acc) (λy I=>Q y (List.mem_cons.2 (.inr I))) hp' X Y U
   simp only [Kr];omega
  | ind _ V X =>
   have D:=jO h l (x :: acc) (λy I=>Q y (List.mem_cons.2 (.inr I))) hp' X Y U
   have:=H.2 (h l acc x C (λp Z N=>by
    rcases E p Z with h1 | h1
    ·rcases List.mem_cons.1 h1 with h2 | h1
     ·exact absurd h2 N
     ·exact .inl h1
    ·exact .inr h1) V)
   simp only [Kr];omega
theorem Bj (F : bI O El) (Q : bs El m G) (U : bs El m K) (h : nO O m G K) (E : G.length+K.length=m)
  (D : Rk (ku O El G.length (aX G)) (List.range m) G.length) (hk : Rk (ku O El K.length (aX K)) (List.range m) K.length)
  {S C : LN} (hS : ∀x ∈ S,x<m) (I : ∀x ∈ C,x<m) (Y : ∀p,p<m->p ∈ S\/p ∈ C) (hlen : S.length+C.length=m) {a b : Nat} (ha : Rk (ku O El G.length (aX G)) C a) (hb : Rk (ku O El K.length (aX K)) S b) :
  (b : Int)=S.length - G.length+a:=by
 have j:=gE F Q;have z:=gE F U;have all : ∀ {cl : LN->Nat->Prop} (hc : AR cl) {r : Nat} (_ : Rk cl (List.range m) r) (l acc : LN),(∀x ∈ l,x<m)->(∀x ∈ acc,x<m)->(∀p,p<m->p ∈ l\/p ∈ acc)->Rk cl (l.reverse ++ acc) r:=λhc r hr l acc h1 h2 h3=>by
  obtain ⟨r',V⟩:=Rk.ex _ (l.reverse ++ acc);have e:=Rk.same hc hr V λx=>by rw [MA,KN,Mm];exact ⟨λZ=>h3 x Z,λZ=>by rcases Z with Z | Z;exact h1 x Z;exact h2 x Z⟩
  rw [e];exact V
 have i1:=jO (m:=m) (λA B x Z X H=>h.cl F Q U Z X H) C S I (λp N=>(Y p N).symm) ha hb (all z hk C S I hS λp N=>(Y p N).symm);have i2:=jO (m:=m) (λA B x Z X H=>(h.symm F Q U).cl F U Q Z X H) S C hS Y hb ha (all j D S C hS I Y);omega
end
def fC (P M : Int) (mod : LI) (Z : Int) (L : Ll) : Int:=if bA P M mod=true then fh (aH P M) Z L else 1
theorem lP (P M : Int) (am : OA) (A cm : Nat) (mod : LI) (Z : Int) (a : OA) (n c : Nat) (L : Ll) (w : World) (hmod : Ints w am A mod) (hi : bu w a n L) :
  Calls prog 140 #[.agg #[.int .i64 P,.int .i64 M,.slice am A cm],.agg #[.int .i64 Z,.slice a n c]] w λe w'=>e = .returned (.int .i64 (fC P M mod Z L))/\OC w w':=by
 have Y:=Z5 hi.len;have hpl:=hi.pl;have hmax:=hi.max;unfold maxLen at hmax;go_enter func140,ntmps140;go_wp2_with fail;obtain ⟨W,hW⟩ : ∃W : World,W=(w.alloc (.cells #[.int .i64 P,.int .i64 M,.slice am A cm] 24)).alloc (.cells #[.int .i64 Z,.slice a n c] 94):=⟨_,rfl⟩
 rw [<- hW];have I : OC w W:=by rw [hW];exact bT _ _ _
 have x0 : aO W w.heap.size [.int .i64 P,.int .i64 M,.slice am A cm]:=by rw [hW];exact (NY _ _ _ rfl).alloc _
 have y0 : aO W (w.heap.size+1) [.int .i64 Z,.slice a n c]:=by rw [hW];exact NY _ _ _ (by simp)
 have hS : ∀V,OC W V->V.cell? ⟨w.heap.size,0,none⟩=some (.int .i64 P)/\V.cell? ⟨w.heap.size,1,none⟩=some (.int .i64 M)/\V.cell? ⟨w.heap.size,2,none⟩=some (.slice am A cm) /\
   V.cell? ⟨w.heap.size+1,0,none⟩=some (.int .i64 Z)/\V.cell? ⟨w.heap.size+1,1,none⟩=some (.slice a n c)/\OC W V:=by intro V hV;have x1:=x0.af hV;have y1:=y0.af hV;exact ⟨x1.cell 0 rfl,x1.cell 1 rfl,x1.cell 2 rfl,y1.cell 0 rfl,y1.cell 1 rfl,hV⟩
 have HS:=Z5 hS;have hiW:=hi.af I;clear hW x0 y0 hS;refine (ki P M am A cm mod W (hmod.af I)).mono ?_;rintro e w1 ⟨rfl,hb1⟩;have X:=NX I hb1;by_cases hB : bA P M mod=true
 ·have HB : Hid (fC P M mod Z L=fh (aH P M) Z L):=by show _=_;rw [fC,JT hB]
  have hE : cU (bA P M mod)=0:=by rw [hB];rfl
  rw [hE];obtain ⟨q,hq⟩ : ∃q,aH P M=q:=⟨_,rfl⟩
  have Hq:=Z5 hq;rw [hq] at HB;obtain ⟨d0,d1,d2,d3,d4,_⟩:=HS.out w1 hb1;clear hB hE hq;by_cases b1 : Z<0
  ·have Hf : Hid (fC P M mod Z L=3):=by show _=_;rw [HB.out,fh,JT (.inl b1)]
   have t1 : decide (Z<0)=true:=by simpa using b1
   go_wp2_with fail;go_ret;exact ⟨aK Hf.out.symm,X⟩
  have t1 : decide (Z<0)=false:=by simpa using b1
  by_cases b2 : 256<Z
  ·have Hf : Hid (fC P M mod Z L=3):=by show _=_;rw [HB.out,fh,JT (.inr (.inl b2))]
   have t2 : decide (256<Z)=true:=by simpa using b2
   go_wp2_with fail;go_ret;exact ⟨aK Hf.out.symm,X⟩
  have t2 : decide (256<Z)=false:=by simpa using b2
  by_cases b3 : 256<n
  ·have Hf : Hid (fC P M mod Z L=3):=by show _=_;rw [HB.out,fh,JT (.inr (.inr (by rw [Y.out];exact b3)))]
   have t3 : decide (256<(n : Int))=true:=by simp;omega
   go_wp2_with fail;go_ret;exact ⟨aK Hf.out.symm,X⟩
  have t3 : decide (256<(n : Int))=false:=by simp;omega
  have Hm : Hid (fC P M mod Z L=if iM Z L=false then 3 else if L.all (ez q) then 0 else 2):=by show _=_;rw [HB.out,fh,JR (by rw [Y.out];omega)]
  have hi1:=hiW.af hb1;clear b1 b2;go_wp2_with fail;go_loopw [6] (λiv wr=>∃k : Nat,k<=n/\iv = .int .i64 k/\Hid ((L.take k).all (λr=>decide ((r.length : Int)=Z))=true)/\bm w1 wr) (λiv _=>n - (intOf iv).toNat);case atStart=>exact ⟨0,JU _,rfl,by show _=_;simp,N4 _⟩
  case round =>
   obtain ⟨k,hk,rfl,N,hd⟩:=hrel
   have hir:=hi1.drawn hd
   have e3:=hd.cell d3
   have e4:=hd.cell d4
   by_cases H : k<n
   ·obtain ⟨ra,rn,rc,E,D⟩:=hir.cell k H
    have hkL : k<L.length:=by rw [Y.out];exact H
    have hrl:=D.len
    rw [aE hkL] at hrl
    have Hrl:=Z5 hrl
    clear hrl
    by_cases he : (rn : Int)=Z
    ·have he' : ((rn : Int) != Z)=false:=by simpa using he
     have z : Hid ((L.take (k+1)).all (λr=>decide ((r.length : Int)=Z))=true):=dC hkL N.out (by rw [Hrl.out];simpa using he)
     clear he
     go_wp2_with fail
     go_quiet (fail)
     go_wp2
     go_roundw
     case rel=>exact ⟨k+1,by omega,by go_num,z.out,hd.drewN _⟩
     case measure=>simp [intOf] <;> omega
    ·have he' : ((rn : Int) != Z)=true:=by simpa using he
     have z : Hid (fC P M mod Z L=3):=by show _=_;rw [Hm.out,JT];exact dA hkL (by simp only [Hrl.out];simpa using he)
     clear he
     go_wp2_with fail
     go_quiet (fail)
     go_wp2
     go_ret
     exact ⟨aK z.out.symm,NX X (hd.drewN _).below⟩
   ·obtain rfl : k=n:=by omega
    have Hm2 : Hid (fC P M mod Z L=if L.all (ez q) then 0 else 2):=by have:=N.out;rw [JX (by rw [Y.out];exact JO _)] at this;show _=_;rw [Hm.out,JR (by rw [iM,this];simp)]
    have hbr : OC W wr:=NX hb1 hd.below
    have hir2:=hir
    clear d0 d1 d2 d3 d4 N
    go_wp2_with fail
    clear e3 e4
    go_loopw [7] (λiv wx=>∃j : Nat,j<=k/\iv = .int .i64 j/\Hid ((L.take j).all (ez q)=true)/\OC W wx) (λiv _=>k - (intOf iv).toNat)
    case atStart=>exact ⟨0,JU _,rfl,by show _=_;simp,hbr⟩
    case round =>
     obtain ⟨j,hj,rfl,C,U⟩:=hrel
     obtain ⟨d0,d1,d2,d3,d4,_⟩:=HS.out _ U
     by_cases H : j<k
     ·have hiX:=hiW.af U
      obtain ⟨ra,rn,rc,E,D⟩:=hiX.cell j H
      have hjL : j<L.length:=by rw [Y.out];exact H
      have HC:=Z5 (kd P M am A cm ra rn rc (ai L j) _ (D.af (JP _ _).drew))
      have hSj : ∀V,OC wr V->V.cell? ⟨w.heap.size,0,none⟩=some (.int .i64 P)/\V.cell? ⟨w.heap.size,1,none⟩=some (.int .i64 M)/\V.cell? ⟨w.heap.size,2,none⟩=some (.slice am A cm) /\
        V.cell? ⟨w.heap.size+1,1,none⟩=some (.slice a k c)/\V.cell? ⟨ablk a,aL a+j,none⟩=some (.slice ra rn rc):=λV hV=>by obtain ⟨f0,f1,f2,f3,f4,_⟩:=HS.out V (NX U hV);exact ⟨f0,f1,f2,f4,aB hV E⟩
      have HSj:=Z5 hSj
      have Hbx:=Z5 U
      rw [Hq.out] at HC
      clear hSj U
      by_cases he : ez q (ai L j)=true
      ·have Q : gX q (ai L j)=0:=by rw [gX,he];rfl
       rw [Q] at HC
       rw [aE hjL] at he
       have z : Hid ((L.take (j+1)).all (ez q)=true):=dC hjL C.out he
       clear he Q
       go_wp2_with fail
       go_region_held3 (λV=>V.cell? ⟨w.heap.size,0,none⟩=some (.int .i64 P)/\V.cell? ⟨w.heap.size,1,none⟩=some (.int .i64 M)/\V.cell? ⟨w.heap.size,2,none⟩=some (.slice am A cm) /\
         V.cell? ⟨w.heap.size+1,1,none⟩=some (.slice a k c)/\V.cell? ⟨ablk a,aL a+j,none⟩=some (.slice ra rn rc))
        ((refine HSj.out _ ?_;first | exact (JP _ _).drew | exact NX (JP _ _).drew hb4))
        (first | (go_at_call 87;((with_reducible refine HC.out.mono ?_);rintro e w4 ⟨rfl,hb4⟩)))
       go_wp2_with fail
       go_roundw
       case rel=>exact ⟨j+1,by omega,by go_num,z.out,NX Hbx.out (NX (JP _ _).drew hb4)⟩
       case measure=>simp [intOf] <;> omega
      ·have Q : gX q (ai L j)=2:=by rw [gX,JR he]
       rw [Q] at HC
       rw [aE hjL] at he
       have z : Hid (fC P M mod Z L=2):=by show _=_;rw [Hm2.out,dA hjL (by simpa using he)];rfl
       clear he Q
       go_wp2_with fail
       go_region_held3 (λV=>V.cell? ⟨w.heap.size,0,none⟩=some (.int .i64 P)/\V.cell? ⟨w.heap.size,1,none⟩=some (.int .i64 M)/\V.cell? ⟨w.heap.size,2,none⟩=some (.slice am A cm) /\
         V.cell? ⟨w.heap.size+1,1,none⟩=some (.slice a k c)/\V.cell? ⟨ablk a,aL a+j,none⟩=some (.slice ra rn rc))
        ((refine HSj.out _ ?_;first | exact (JP _ _).drew | exact NX (JP _ _).drew hb4))
        (first | (go_at_call 87;((with_reducible refine HC.out.mono ?_);rintro e w4 ⟨rfl,hb4⟩)))
       go_wp2_with fail
       go_ret
       exact ⟨aK z.out.symm,NX I (NX Hbx.out (NX (JP _ _).drew hb4))⟩
     ·obtain rfl : j=k:=by omega
      have z : Hid (fC P M mod Z L=0):=by have:=C.out;rw [JX (by rw [Y.out];exact JO _)] at this;show _=_;rw [Hm2.out,this];rfl
      go_wp2_with fail
      go_ret
      exact ⟨aK z.out.symm,NX I U⟩
 ·have hB' : bA P M mod=false:=by simpa using hB
  have Hf : Hid (fC P M mod Z L=1):=by show _=_;rw [fC,JR hB]
  have hE : cU (bA P M mod)=1:=by rw [hB'];rfl
  rw [hE];clear hB hB' hE;go_wp2_with fail;go_ret;exact ⟨aK Hf.out.symm,X⟩
section
variable {O : aM} {El : Int->Prop} {m n : Nat}
structure mb (L : Ll) (P : LI) : Prop where
 lead : ∀i x,i<P.length->x<(nth P i).toNat->nth (ai L i) x=0
 asc : ∀i j,i<j->j<P.length->nth P i<nth P j
theorem ow (F : bI O El) {L : Ll} (hL : bs El m L) : ∀k,k<=m->mb (aC O L k).1 (aC O L k).2
 | 0,_=>⟨λi x hi=>by simp [aC] at hi,λi j _ H=>by simp [aC] at H⟩
 | k+1,hk=>by
  have N:=ow F hL k (by omega);obtain ⟨h1,_,_⟩:=fJ F hL k (by omega);have I:=gO F hL k (by omega);have hb:=jV (L:=(aC O L k).1) (c:=k) (k:=(aC O L k).2.length) h1.le;by_cases U : (aC O L k).2.length<(aC O L k).1.length
  ·rw [dR (Lk:=(aC O L k).1) (P:=(aC O L k).2) rfl U];split
   ·exact N
   ·rename_i C;have Z : aZ (aC O L k).1 k (aC O L k).2.length<(aC O L k).1.length:=by omega
    have hne : nth (ai (aC O L k).1 (aZ (aC O L k).1 k (aC O L k).2.length)) k ≠ 0:=gK _ k _ _ (by show aZ _ k _<_;omega);generalize aZ (aC O L k).1 k (aC O L k).2.length=r at *;generalize (aC O L k).1=A at *;generalize (aC O L k).2=P at *;have D : El (nth (ai A r) k):=N2 (I.row Z) (by omega);have Q:=F.cl.inv _ D hne;refine ⟨λi x hi X=>?_,λi j E H=>?_⟩
    ·rw [J0,Ka] at hi;have V : x<m:=by
      rw [gL] at X;by_cases e : i<P.length
      ·rw [JT e] at X;have:=h1.lt i e;omega
      ·rw [JR e,JT (by omega)] at X;omega
     rw [eE F I U Z (by omega) hne (i:=i) (by omega) V];rw [gL] at X;by_cases e : i<P.length
     ·rw [JT e] at X;have h2:=h1.lt i e;rw [JR (by omega),show sw P.length r i=i by unfold sw;rw [JR (by omega),JR (by omega)],h1.zero r x hb.1 Z (by omega),F.cQ Q,F.iY (N2 (I.row (by omega)) (by omega)),F.eY,F.add_zero _ (N2 (I.row (by omega)) V)];exact N.lead i x e X
     ·rw [JR e,JT (by omega)] at X;rw [JT (by omega),h1.zero r x hb.1 Z (by omega),F.cQ Q]
    ·rw [J0,Ka] at H;rw [gL,gL,JT (by omega)];by_cases e : j<P.length
     ·rw [JT e];exact N.asc i j E e
     ·rw [JR e,JT (by omega)];have:=h1.lt i (by omega);omega
  ·have Y : (aC O L k).2.length=L.length:=by have:=bL O L k;have:=h1.le;omega
   rw [fU Y 1];exact N
theorem inv_one (F : bI O El) : O.inv 1=1:=by have h:=F.mul_inv 1 F.one (by decide);rwa [F.one_mul _ (F.cl.inv 1 F.one (by decide))] at h
theorem rk (O : aM) {R : Ll} {t c : Nat} (h : ∀i,i<R.length->i ≠ t->nth (ai R i) c=0) : ∀i,i<=R.length->clearTo O t c R i=R
 | 0,_=>rfl
 | i+1,hi=>by
  unfold clearTo;rw [rk O h i (by omega)];split
  ·rfl
  ·rename_i e;unfold cH;rw [JT (h i (by omega) e),kW]
theorem yz (F : bI O El) {R : Ll} {P : LI} (H : j5 R P m) (N : mb R P) (hlen : R.length=P.length) : ∀k,k<=m ->
  ∃t,t<=P.length/\aC O R k=(R,P.take t)/\(∀j,j<t->nth P j<k)/\(∀j,t<=j->j<P.length->(k : Int)<=nth P j)
 | 0,_=>⟨0,JU _,by simp [aC],λj Y=>by omega,λj _ Y=>(H.lt j Y).1⟩
 | k+1,hk=>by
  obtain ⟨t,ht,he,h1,h2⟩:=yz F H N hlen k (by omega);have I : (P.take t).length=t:=by rw [Ki];omega
  by_cases r : t=P.length
  ·refine ⟨t,ht,?_,λj Y=>by have:=h1 j Y;omega,λj h3 V=>by omega⟩;have Z : (aC O R k).2.length=R.length:=by rw [he];show (P.take t).length=_;omega
   rw [fU Z 1,he]
  ·have U : t<R.length:=by omega
   rw [dR (Lk:=R) (P:=P.take t) he.symm (by rw [I];exact U),I];by_cases Q : nth P t=k
   ·have X:=H.one t t (by omega) U;rw [Q,JT rfl,JQ] at X;have E : aZ R k t=t:=by rw [gZ U,JR (by rw [X];decide)]
    rw [E,JR (by omega)];have C : en O R t t k=R:=by
     rw [iB,JT rfl];have hn : bw O R t k=R:=by unfold bw;rw [X,JT (inv_one F)]
     rw [hn];refine rk O (λi hi D=>?_) _ (JO _);have:=H.one t i (by omega) hi;rw [Q,JR D,JQ] at this;exact this
    rw [C];refine ⟨t+1,by omega,?_,λj Y=>?_,λj h3 V=>?_⟩
    ·rw [JW (by omega),<- aj,Q]
    ·by_cases e : j=t
     ·subst e;omega
     ·have:=h1 j (by omega);omega
    ·have:=N.asc t j (by omega) V;omega
   ·have hgt : (k : Int)<nth P t:=by have:=h2 t (JO _) (by omega);omega
    have A : ∀i,t<=i->i<R.length->nth (ai R i) k=0:=λi h3 V=>by
     refine N.lead i k (by omega) ?_;by_cases e : i=t
     ·subst e;omega
     ·have:=N.asc t i (by omega) (by omega);omega
    have E : ∀d i,d=R.length - i->t<=i->i<=R.length->aZ R k i=R.length:=by
     intro d;induction d with
     | zero=>intro i h3 _ z;rw [kM (by omega)];omega
     | succ d ih =>
      intro i h3 V z
      rw [gZ (by omega),JT (A i V (by omega))]
      exact ih (i+1) (by omega) (by omega) (by omega)
    rw [E _ t rfl (JO _) (by omega),JT rfl];refine ⟨t,ht,rfl,λj Y=>by have:=h1 j Y;omega,λj h3 V=>?_⟩;by_cases e : j=t
    ·subst e;omega
    ·have:=N.asc t j (by omega) V;omega
theorem rj (F : bI O El) {R : Ll} {P : LI} (Z : j5 R P m) (Y : mb R P) (hlen : R.length=P.length) : aC O R m=(R,P):=by
 obtain ⟨t,ht,he,h1,h2⟩:=yz F Z Y hlen m (JO _);have : t=P.length:=by apply Kg;intro h;have h3:=h2 t (JO _) (by omega);have X:=Z.lt t (by omega);omega
 rw [he,this,MO]
def bH (O : aM) (m : Nat) (L : Ll) : Ll:=(aC O L m).1.take (aC O L m).2.length
theorem jP {L : Ll} {t i : Nat} (h : i<t) : ai (L.take t) i=ai L i:=by unfold ai;simp only [JS,K0];rw [JT h]
theorem bY (F : bI O El) {L : Ll} (hL : bs El m L) : (bH O m L).length=(aC O L m).2.length:=by have h1:=(fJ F hL m (JO _)).1.le;unfold bH;rw [Ki];omega
theorem bQ (F : bI O El) {L : Ll} (hL : bs El m L) : bs El m (bH O m L):=λr Z=>gO F hL m (JO _) r (KQ Z)
theorem bS (F : bI O El) {L : Ll} (hL : bs El m L) : j5 (bH O m L) (aC O L m).2 m/\mb (bH O m L) (aC O L m).2:=by
 have h1:=(fJ F hL m (JO _)).1;have h2:=ow F hL m (JO _);have U:=bY F hL;refine ⟨⟨by omega,h1.lt,λj i Y hi=>?_,λi x Z X _=>by omega⟩,⟨λi x hi V=>?_,h2.asc⟩⟩
 ·unfold bH;rw [jP (by omega)];exact h1.one j i Y (by have:=h1.le;omega)
 ·unfold bH;rw [jP hi];exact h2.lead i x hi V
theorem oN (F : bI O El) {L : Ll} (hL : bs El m L) : bH O m (bH O m L)=bH O m L:=by
 obtain ⟨h1,h2⟩:=bS F hL;have Z:=bY F hL;have h3:=rj F h1 h2 Z;have e : bH O m (bH O m L)=(bH O m L).take (aC O L m).2.length:=by show (aC O (bH O m L) m).1.take (aC O (bH O m L) m).2.length=_;rw [h3]
 rw [e,JX (by omega)]
theorem RS.D9 (F : bI O El) {L : Ll} {f : Nat->Int} (h : ∀x,x<m->f x=0) : RS O El m L f:=by refine ⟨λ_=>0,⟨λ_ _=>F.zero,λv r x X Y Z=>?_,λr x Y Z=>(F.cQ Z).symm⟩,λx Z=>h x Z⟩;show (0 : Int)=O.add 0 (O.neg (O.mul x 0));rw [F.cQ Z,F.eY,F.add_zero 0 F.zero]
theorem dG (F : bI O El) {L : Ll} (hL : bs El m L) : eA O El m (bH O m L) L/\eA O El m L (bH O m L):=by
 obtain ⟨h1,h2,h3⟩:=fJ F hL m (JO _);have X:=bY F hL;refine ⟨λi hi=>?_,h3.trans λi hi=>?_⟩
 ·have e : ai (bH O m L) i=ai (aC O L m).1 i:=by unfold bH;exact jP (by omega)
  rw [e];exact h2 i (by have:=h1.le;omega)
 ·by_cases e : i<(aC O L m).2.length
  ·have Y : ai (aC O L m).1 i=ai (bH O m L) i:=by unfold bH;exact (jP e).symm
   rw [Y];exact RS.row F (by omega)
  ·exact RS.D9 F λx Z=>h1.zero i x (by omega) hi Z
theorem qf (F : bI O El) {L : Ll} (hL : bs El m L) : Rk (ku O El (bH O m L).length (aX (bH O m L))) (List.range m) (bH O m L).length:=by have h:=DS F (bQ F hL);obtain ⟨h1,h2⟩:=bS F hL;rw [rj F h1 h2 (bY F hL)] at h;rw [bY F hL];rw [bY F hL] at h;exact h
def kerTo (O : aM) (m : Nat) (R : Ll) (P : LI) (c : Nat) : Nat->LI
 | 0=>(List.replicate m 0).set c 1
 | i+1=>(kerTo O m R P c i).set (nth P i).toNat (O.neg (nth (ai R i) c))
def dc (O : aM) (m : Nat) (R : Ll) (P : LI) : Nat->Ll
 | 0=>[]
 | k+1=>if (k : Int) ∈ P then dc O m R P k else dc O m R P k ++ [kerTo O m R P k P.length]
def eG (P : LI) : Nat->LN
 | 0=>[]
 | k+1=>if (k : Int) ∈ P then eG P k else eG P k ++ [k]
theorem fS (O : aM) (m : Nat) (R : Ll) (P : LI) (c : Nat) : ∀i,(kerTo O m R P c i).length=m
 | 0=>by simp [kerTo]
 | i+1=>by rw [kerTo,KG,fS O m R P c i]
theorem fK (O : aM) (m : Nat) (R : Ll) (P : LI) : ∀k,(dc O m R P k).length=(eG P k).length
 | 0=>rfl
 | k+1=>by
  rw [dc,eG];split
  ·exact fK O m R P k
  ·rw [J0,J0,fK O m R P k];rfl
theorem i7 {P : LI} {x : Nat} : ∀k,x ∈ eG P k ↔ x<k/\¬ (x : Int) ∈ P
 | 0=>by simp [eG]
 | k+1=>by
  rw [eG];split
  ·rename_i h;rw [i7 k];constructor
   ·rintro ⟨h1,h2⟩;exact ⟨by omega,h2⟩
   ·rintro ⟨h1,h2⟩;by_cases e : x=k
    ·subst e;exact absurd h h2
    ·exact ⟨by omega,h2⟩
  ·rename_i h;rw [KN,i7 k,Kx];constructor
   ·rintro (⟨h1,h2⟩ | rfl)
    ·exact ⟨by omega,h2⟩
    ·exact ⟨by omega,h⟩
   ·rintro ⟨h1,h2⟩;by_cases e : x=k
    ·exact .inr e
    ·exact .inl ⟨by omega,h2⟩
theorem ji (O : aM) (m : Nat) (R : Ll) (P : LI) {j : Nat} : ∀k,j<(eG P k).length->ai (dc O m R P k) j=kerTo O m R P ((eG P k).getD j 0) P.length
 | 0,h=>by simp [eG] at h
 | k+1,h=>by
  rw [dc,eG] at *;split
  ·rename_i hc;rw [JT hc] at h;exact ji O m R P k h
  ·rename_i hc;rw [JR hc,J0,Ka] at h;have X:=fK O m R P k;by_cases e : j<(eG P k).length
   ·have e1 : ai (dc O m R P k ++ [kerTo O m R P k P.length]) j=ai (dc O m R P k) j:=by unfold ai;simp only [JS];rw [J8 (by omega)]
    have Z : (eG P k ++ [k]).getD j 0=(eG P k).getD j 0:=by simp only [JS];rw [J8 e]
    rw [e1,Z];exact ji O m R P k e
   ·have Y : j=(eG P k).length:=by omega
    have e1 : ai (dc O m R P k ++ [kerTo O m R P k P.length]) j=kerTo O m R P k P.length:=by unfold ai;simp only [JS];rw [KO (by omega)];simp [Y,X]
    have Z : (eG P k ++ [k]).getD j 0=k:=by simp only [JS];rw [KO (by omega)];simp [Y]
    rw [e1,Z]
variable {R : Ll} {P : LI}
theorem jg (Y : j5 R P m) {c x : Nat} (X : x<m) (Z : x ≠ c) : ∀i,i<=P.length->(∀j,j<i->(nth P j).toNat ≠ x)->nth (kerTo O m R P c i) x=0
 | 0,_,_=>by
  by_cases hc : c<m
  ·rw [kerTo,eh _ _ _ _ (by simpa using hc),JR Z];simp [nth,JS,Ke];split <;> rfl
  ·rw [kerTo,LF (by simp;omega)];simp [nth,JS,Ke];split <;> rfl
 | i+1,hi,h=>by have hb:=Y.lt i (by omega);rw [kerTo,eh _ _ _ _ (by rw [fS];omega),JR (λe=>h i (by omega) e.symm)];exact jg Y X Z i (by omega) λj V=>h j (by omega)
theorem iO (Y : j5 R P m) {c : Nat} (hc : c<m) (Z : ¬ (c : Int) ∈ P) : ∀i,i<=P.length->nth (kerTo O m R P c i) c=1
 | 0,_=>by rw [kerTo,eh _ _ _ _ (by simpa using hc),JT rfl]
 | i+1,hi=>by have hb:=Y.lt i (by omega);have hne : c ≠ (nth P i).toNat:=λe=>Z (by have : nth P i ∈ P:=aI (by omega);rwa [show nth P i=(c : Int) by omega] at this);rw [kerTo,eh _ _ _ _ (by rw [fS];omega),JR hne];exact iO Y hc Z i (by omega)
theorem s8 (Z : j5 R P m) (Y : mb R P) {c j : Nat} : ∀i,i<=P.length->j<i->nth (kerTo O m R P c i) (nth P j).toNat=O.neg (nth (ai R j) c)
 | 0,_,h=>by omega
 | i+1,hi,h=>by
  have hb:=Z.lt i (by omega);have X:=Z.lt j (by omega);rw [kerTo,eh _ _ _ _ (by rw [fS];omega)];by_cases e : j=i
  ·subst e;rw [JT rfl]
  ·have:=Y.asc j i (by omega) (by omega);rw [JR (by omega)];exact s8 Z Y i (by omega) (by omega)
theorem jw (F : bI O El) (Y : bs El m R) (X : j5 R P m) (hlen : R.length=P.length) {c : Nat} (hc : c<m) : ∀i,i<=P.length->Vc El m (kerTo O m R P c i)
 | 0,_=>⟨fS O m R P c 0,λy Z=>by
  rw [kerTo] at Z;rcases KX Z with h | rfl
  ·rw [KJ h];exact F.zero
  ·exact F.one⟩
 | i+1,hi=>⟨fS O m R P c (i+1),λy Z=>by
  rw [kerTo] at Z;rcases KX Z with h | rfl
  ·exact (jw F Y X hlen hc i (by omega)).2 y h
  ·exact F.cl.neg _ (N2 (Y.row (by omega)) hc)⟩
theorem kY {P : LI} {k j : Nat} (h : j<(eG P k).length) : (eG P k).getD j 0<k/\¬ (((eG P k).getD j 0 : Nat) : Int) ∈ P:=by
 have e : (eG P k).getD j 0=(eG P k)[j]:=by simp [JS,h]
 rw [e];exact (i7 k).1 (Kp h)
theorem fI (F : bI O El) (U : bs El m R) (X : j5 R P m) (hlen : R.length=P.length) : bs El m (dc O m R P m):=λr V=>by
 obtain ⟨j,Y,rfl⟩:=List.mem_iff_getElem.1 V;have Z : j<(eG P m).length:=by rw [<- fK O m R P m];exact Y
 rw [<- aE Y,ji O m R P m Z];exact jw F U X hlen (kY Z).1 P.length (JO _)
theorem nT (F : bI O El) (N : bs El m R) (Z : j5 R P m) (r : mb R P) (hlen : R.length=P.length) : nO O m R (dc O m R P m):=λi j hi U=>by
 rw [fK] at U;rw [ji O m R P m U];obtain ⟨hc,A⟩:=kY U;generalize (eG P m).getD j 0=c at *;have hb:=Z.lt i (by omega);have hne : c ≠ (nth P i).toNat:=λe=>A (by have : nth P i ∈ P:=aI (by omega);rwa [show nth P i=(c : Int) by omega] at this);have Y : El (nth (ai R i) c):=N2 (N.row hi) hc;have e1 : nth (kerTo O m R P c P.length) c=1:=iO Z hc A _ (JO _);have z : nth (kerTo O m R P c P.length) (nth P i).toNat=O.neg (nth (ai R i) c):=s8 Z r _ (JO _) (by omega);have C : nth (ai R i) (nth P i).toNat=1:=by rw [Z.one i i (by omega) hi,JT rfl]
 rw [vU F hne (by rw [e1,F.gR Y];exact Y) (by rw [z,C,F.one_mul _ (F.cl.neg _ Y)];exact F.cl.neg _ Y) m λp D V E=>?_,JT hc,JT (by omega),e1,z,C,F.gR Y,F.one_mul _ (F.cl.neg _ Y),F.add_neg _ Y];show O.mul (nth (ai R i) p) (nth (kerTo O m R P c P.length) p)=0;have Q : El (nth (ai R i) p):=N2 (N.row hi) D;by_cases X : ∃q,q<P.length/\(nth P q).toNat=p
 ·obtain ⟨q,I,rfl⟩:=X;have H : i ≠ q:=λe=>E (by rw [e]);rw [Z.one q i I hi,JR H,F.iY ((jw F N Z hlen hc _ (JO _)).at D)]
 ·rw [jg Z D V _ (JO _) λq I e=>X ⟨q,I,e⟩,F.cQ Q]
theorem BK (F : bI O El) (Q : j5 R P m) : ∀k,k<=(eG P m).length->Rk (ku O El (dc O m R P m).length (aX (dc O m R P m))) (((eG P m).take k).reverse) k
 | 0,_=>.nil
 | k+1,hk=>by
  have N:=BK F Q k (by omega);have Z : k<(eG P m).length:=by omega
  have D : ∀K,(eG P K).Nodup:=λK=>by
   induction K with
   | zero=>exact Nj
   | succ K N =>
    rw [eG]
    split
    ·exact N
    ·rw [K2]
     refine ⟨N,by simp,λa ha b hb=>?_⟩
     rw [Kx] at hb
     rw [hb]
     have:=(i7 K).1 ha
     omega
  have H : ((eG P m).take (k+1)).reverse=(eG P m)[k] :: ((eG P m).take k).reverse:=by rw [JW Z,List.reverse_append];rfl
  rw [H];refine .ind _ (λhc=>?_) N;have Y : k<(dc O m R P m).length:=by rw [fK];exact Z
  have X:=kY (P:=P) (k:=m) Z;have C : (eG P m).getD k 0=(eG P m)[k]:=by simp [JS,Z]
  rw [C] at X;have h1:=hc (λv=>nth v k) (ka.AG F Y) λy I=>by
   rw [Mm] at I;show nth (aX _ y) k=0;rw [da _ y k Y,ji O m R P m Z,C];have V:=(i7 m).1 (KQ I);have E : y ≠ (eG P m)[k]:=λe=>by obtain ⟨q,U,A⟩:=List.mem_iff_getElem.1 I;rw [Ki] at U;rw [MG] at A;have h3:=(NL (D m)).1 (A.trans e);omega
   refine jg Q V.1 E _ (JO _) λq U e=>V.2 ?_;have z:=Q.lt q U;have : nth P q ∈ P:=aI U;rwa [show nth P q=(y : Int) by omega] at this
  have h2 : nth (aX (dc O m R P m) (eG P m)[k]) k=0:=h1;rw [da _ _ k Y,ji O m R P m Z,C,iO Q X.1 X.2 _ (JO _)] at h2;exact absurd h2 (by decide)
theorem tu (P : LI) (Q : ∀j,j<P.length->0<=nth P j/\nth P j<m) (ha : ∀i j,i<j->j<P.length->nth P i<nth P j) : (eG P m).length+P.length=m:=by
 have key : ∀k,k<=m->∃t,t<=P.length/\(eG P k).length+t=k/\(∀j,j<t->nth P j<k)/\(∀j,t<=j->j<P.length->(k : Int)<=nth P j):=by
  intro k;induction k with
  | zero=>intro _;exact ⟨0,JU _,rfl,λj X=>by omega,λj _ X=>(Q j X).1⟩
  | succ k E =>
   intro hk
   obtain ⟨t,h1,h2,h3,V⟩:=E (by omega)
   rw [eG]
   by_cases hm : (k : Int) ∈ P
   ·rw [JT hm]
    obtain ⟨q,N,e⟩:=List.mem_iff_getElem.1 hm
    rw [<- aj N] at e
    have U : q=t:=by
     by_cases Y : q<t
     ·have:=h3 q Y;omega
     ·by_cases Z : t<q
      ·have H:=ha t q Z N;have I:=V t (JO _) (by omega);omega
      ·omega
    subst U
    refine ⟨q+1,by omega,by omega,λj X=>?_,λj Y Z=>?_⟩
    ·by_cases D : j=q
     ·subst D;omega
     ·have:=h3 j (by omega);omega
    ·have:=ha q j (by omega) Z;omega
   ·rw [JR hm,J0,Ka]
    refine ⟨t,h1,by omega,λj X=>by have:=h3 j X;omega,λj Y Z=>?_⟩
    have H:=V j Y Z
    have I : nth P j ≠ k:=λe=>hm (by rw [<- e];exact aI Z)
    omega
 obtain ⟨t,h1,h2,h3,V⟩:=key m (JO _);have : t=P.length:=by apply Kg;intro h;have Y:=V t (JO _) (by omega);have Z:=Q t (by omega);omega
 omega
theorem Ch (F : bI O El) (N : bs El m R) (V : j5 R P m) (Y : mb R P) (hlen : R.length=P.length) :
  R.length+(bH O m (dc O m R P m)).length=m/\nO O m R (bH O m (dc O m R P m)):=by
 have Z:=fI F N V hlen;have H:=tu (m:=m) P V.lt Y.asc;have hkl:=fK O m R P m;obtain ⟨E,r⟩:=dG F Z;have C:=nT F N V Y hlen;refine ⟨?_,λi j hi z=>?_⟩
 ·have h1:=qf F Z;have h2:=BK F V (O:=O) (El:=El) (R:=R) (eG P m).length (JO _);have hle:=(dX O (dc O m R P m) m).2;have D:=bY F Z;have h3:=Rk.map (cl':=ku O El (bH O m (dc O m R P m)).length (aX (bH O m (dc O m R P m)))) (λy=>y<m) id (λl x Y X=>by rw [Mq];exact ⟨E.cl Y X,r.cl Y X⟩) h2 (λy I=>by rw [Mm] at I;exact ((i7 m).1 (KQ I)).1);have h4:=Rk.le (gE F (bQ F Z)) h3 h1 (λx X=>(gE F (bQ F Z)).mem _ _ (by rw [Mq,Mm] at X;exact List.mem_range.2 ((i7 m).1 (KQ X)).1));omega
 ·obtain ⟨e,he,U⟩:=E j z;rw [eD (a':=λp=>nth (ai R i) p) (b':=λp=>e (aX (dc O m R P m) p)) m λp Q=>⟨rfl,U p Q⟩];exact jx F Z he (λp Q=>N2 (N.row hi) Q) λq A=>C i q hi A
end
def u3 (O : aM) (L : Ll) (Z : Nat) : Ll:=(aC O L Z).1.take (aC O L Z).2.length
def qX (O : aM) (L : Ll) (Z : Nat) (w : World) (e : Ending) (w' : World) : Prop :=
 ∃a c ap cp,e = .returned (.tuple #[.slice a (aC O L Z).2.length c,.slice ap (aC O L Z).2.length cp])/\b8 w.heap.size w' a (aC O L Z).2.length (u3 O L Z) /\
  bJ w.heap.size w' ap (aC O L Z).2.length (aC O L Z).2/\OC w w'
theorem ma (P : Int) (m : Nat) (am : OA) (Q cm : Nat) (mod : LI) (a : OA) (n c Z : Nat) (L : Ll) (w : World) (hf : sO w P m am Q mod) (hi : bu w a n L)
  (hR : bs (eH P m) Z L) (hlen : Z<=1000000) (hn : n<=1000000) (hinv : ∀p,eH P m p->p ≠ 0->(gn P m mod p=1 ↔ p=1)) :
  Calls prog 124 #[.agg #[.int .i64 P,.int .i64 m,.slice am Q cm],.slice a n c,.int .i64 Z] w (qX (jW P m mod) L Z w):=by
 have A:=Z5 hi.len;have j : Hid (∀V,OC w V->Calls prog 179 #[.agg #[.int .i64 P,.int .i64 m,.slice am Q cm],.slice a n c,.int .i64 Z] V (jG (jW P m mod) L Z V)) :=
  λV r=>oM P m am Q cm mod a n c Z Z L V (hf.af r) (hi.af r) hR (JO _) hlen hn hinv
 obtain ⟨O,z⟩ : ∃O,jW P m mod=O:=⟨_,rfl⟩
 rw [z] at j ⊢;clear z hinv hR;go_enter func124,ntmps124;go_wp2_with fail;obtain ⟨W,D⟩ : ∃W : World,W=w.alloc (.cells #[.int .i64 P,.int .i64 m,.slice am Q cm] 24):=⟨_,rfl⟩
 rw [<- D];have Y : OC w W:=by rw [D];exact an _ _
 clear D;refine (j.out W Y).mono ?_;rintro e w1 ⟨a1,c1,R1,ap,cp,rfl,N,I,C⟩;have U:=dX O L Z;have X:=lh N.own;have E:=(Ow I).mono Y.size;have H:=((Ot N).take (k:=(aC O L Z).2.length) U.2).mono Y.size;have hF : qX O L Z w (.returned (.tuple #[.slice a1 (aC O L Z).2.length c1,.slice ap (aC O L Z).2.length cp])) w1:=⟨a1,_,ap,cp,rfl,H,E,NX Y C⟩
 have HF:=Z5 hF;have hle : (aC O L Z).2.length<=c1:=J4 U.2 X;clear hF E H I X U;generalize (aC O L Z).2.length=k at *;go_wp2_with fail;go_ret2;simpa using HF.out
def fN (P M : Int) (mod : LI) (Z : Int) (L : Ll) : Int :=
 if fC P M mod Z L=0 then (if u3 (jW P M.toNat mod) L Z.toNat=L then 0 else 5) else fC P M mod Z L
theorem dI {P M : Int} {mod : LI} (h : bA P M mod=true) : ∃m : Nat,M=m/\RF P m/\(∀(w : World) am Y,Ints w am Y mod->xI w P m am Y mod):=by
 unfold bA cB at h;simp only [J9,bne_iff_ne,ne_eq] at h;obtain ⟨⟨⟨h1,h2⟩,h3⟩,V⟩:=h;obtain ⟨m,rfl,Z⟩:=RF.of h1;refine ⟨m,rfl,Z,λw am Y hi=>⟨hi,λhm=>?_,?_⟩⟩
 ·rw [JR (by omega)] at h3;simp only [J9,Kt] at h3;have:=hi.len;omega
 ·by_cases hm : (m : Int)=1
  ·rw [JT hm] at h3;have : mod=[]:=Kd (by simpa using h3);subst this;exact Oo (by have:=Z.p2;omega) (by simp)
  ·rw [JR hm] at h3;simp only [J9] at h3;refine Oo (by have:=Z.p2;omega) λx X=>?_;have:=List.all_eq_true.1 h3.2 x X;simpa using this
theorem Af {P M : Int} {mod : LI} {Z : Int} {L : Ll} (h : fC P M mod Z L=0) : bA P M mod=true/\fh (aH P M) Z L=0:=by
 unfold fC at h;split at h
 ·rename_i h1;exact ⟨h1,h⟩
 ·omega
theorem pG (P M : Int) (am : OA) (D cm : Nat) (mod : LI) (Z : Int) (a : OA) (n c : Nat) (L : Ll) (w : World) (A : Ints w am D mod) (hi : bu w a n L)
  (hinv : bA P M mod=true->∀p,eH P M.toNat p->p ≠ 0->(gn P M.toNat mod p=1 ↔ p=1)) :
  Calls prog 86 #[.agg #[.int .i64 P,.int .i64 M,.slice am D cm],.agg #[.int .i64 Z,.slice a n c]] w λe w'=>e = .returned (.int .i64 (fN P M mod Z L))/\OC w w':=by
 have C:=Z5 hi.len;have Hinv:=Z5 hinv;clear hinv;go_enter func86,ntmps86;go_wp2_with fail;obtain ⟨W,j⟩ : ∃W : World,W=(w.alloc (.cells #[.int .i64 P,.int .i64 M,.slice am D cm] 24)).alloc (.cells #[.int .i64 Z,.slice a n c] 94):=⟨_,rfl⟩
 rw [<- j];have N : OC w W:=by rw [j];exact bT _ _ _
 have x0 : aO W w.heap.size [.int .i64 P,.int .i64 M,.slice am D cm]:=by rw [j];exact (NY _ _ _ rfl).alloc _
 have y0 : aO W (w.heap.size+1) [.int .i64 Z,.slice a n c]:=by rw [j];exact NY _ _ _ (by simp)
 have HX:=Z5 (JZ x0 y0);have hiW:=hi.af N;have z:=A.af N;clear j x0 y0;refine (lP P M am D cm mod Z a n c L W z hiW).mono ?_;rintro e w1 ⟨rfl,Y⟩;have Q:=NX N Y;by_cases H : fC P M mod Z L=0
 ·obtain ⟨hB,hm⟩:=Af H;obtain ⟨m,rfl,hrf,X⟩:=dI hB;obtain ⟨k,rfl,hk,hl,hR⟩:=lG hm;have HE : Hid (fN P m mod k L=if u3 (jW P m mod) L k=L then 0 else 5):=by show _=_;rw [fN,JT H,JQ,JQ]
  rw [H];have hinv:=Hinv.out hB;rw [JQ] at hinv;have hRw : bs (eH P m) k L:=λr hr=>⟨(hR r hr).1,λx hx=>by have:=(hR r hr).2 x hx;rw [hrf.order] at this;exact this⟩
  have x1:=HX.out.1.af Y;have y1:=HX.out.2.af Y;have d0:=x1.cell 0 rfl;have d1:=x1.cell 1 rfl;have d2:=x1.cell 2 rfl;have d3:=y1.cell 0 rfl;have d4:=y1.cell 1 rfl;have hm1:=z.af Y;have hi1:=hiW.af Y;have hn : n<=1000000:=by rw [<- C.out];omega
  have HC:=Z5 (ma P m am D cm mod a n c k L w1 ⟨hrf,X w1 am D hm1⟩ hi1 hRw (by omega) hn hinv);clear H hB hm X hR hinv hRw x1 y1;obtain ⟨O,hO⟩ : ∃O,jW P m mod=O:=⟨_,rfl⟩
  rw [hO] at HC HE;clear hO;go_wp2_with fail;refine HC.out.mono ?_;rintro e w2 ⟨a2,c2,ap,cp,rfl,hM2,hp2,E⟩;have U:=NX Q E;have y2:=(HX.out.2.af Y).af E;have d3:=y2.cell 0 rfl;have d4:=y2.cell 1 rfl;have hi2:=hi1.af E;have hM3:=hM2.je;have HS:=Z5 (lV a2 (aC O L k).2.length c2 (u3 O L k) a n c L hM3 hi2);clear hM2 hp2 y2;generalize (aC O L k).2.length=kk at *;by_cases hc : u3 O L k=L
  ·have V : decide (u3 O L k=L)=true:=by simpa using hc
   have HF : Hid (fN P m mod k L=0):=by show _=_;rw [HE.out,JT hc]
   rw [V] at HS;clear hc V;go_wp2_with fail;refine HS.out.mono ?_;rintro e w3 ⟨rfl,I⟩;go_wp2_with fail;go_ret;exact ⟨aK HF.out.symm,NX U I.below⟩
  ·have V : decide (u3 O L k=L)=false:=by simpa using hc
   have HF : Hid (fN P m mod k L=5):=by show _=_;rw [HE.out,JR hc]
   rw [V] at HS;clear hc V;go_wp2_with fail;refine HS.out.mono ?_;rintro e w3 ⟨rfl,I⟩;go_wp2_with fail;go_ret;exact ⟨aK HF.out.symm,NX U I.below⟩
 ·have HE : Hid (fN P M mod Z L=fC P M mod Z L):=by show _=_;rw [fN,JR H]
  have hE' : (fC P M mod Z L != 0)=true:=by simpa using H
  clear H;go_wp2_with fail;go_ret;exact ⟨aK HE.out.symm,Q⟩
theorem GO {N : Int} (h : N<1) : ij N=4:=by rw [ij,JT (.inl h)]
theorem GL {N : Int} (h : 64<N) : ij N=4:=by rw [ij,JT (.inr h)]
theorem qb {N : Int} (h1 : ¬ N<1) (h2 : ¬ 64<N) : ij N=0:=by rw [ij,JR (by omega)]
def jo (P M : Int) (mod : LI) (N : Int) (L : Ll) : Int :=
 if bA P M mod=true then (if ij N=0 then fN P M mod N L else 4) else 1
theorem rL (P M : Int) (am : OA) (Q cm : Nat) (mod : LI) (N : Int) (a : OA) (n c : Nat) (L : Ll) (w : World) (V : Ints w am Q mod) (hi : bu w a n L)
  (hinv : bA P M mod=true->∀p,eH P M.toNat p->p ≠ 0->(gn P M.toNat mod p=1 ↔ p=1)) :
  Calls prog 35 #[.agg #[.int .i64 P,.int .i64 M,.slice am Q cm,.int .i64 N,.slice a n c]] w λe w'=>e = .returned (.int .i64 (jo P M mod N L))/\OC w w':=by
 have E:=Z5 hinv;clear hinv;go_enter func35,ntmps35;go_wp2_with fail;obtain ⟨W,A⟩ : ∃W : World,W=w.alloc (.cells #[.int .i64 P,.int .i64 M,.slice am Q cm,.int .i64 N,.slice a n c] 27):=⟨_,rfl⟩
 rw [<- A];have Y : OC w W:=by rw [A];exact an _ _
 have x0 : aO W w.heap.size [.int .i64 P,.int .i64 M,.slice am Q cm,.int .i64 N,.slice a n c]:=by rw [A];exact NY _ _ _ rfl
 have HX:=Z5 x0;clear A x0;refine (ki P M am Q cm mod W (V.af Y)).mono ?_;rintro e w1 ⟨rfl,X⟩;have Z:=NX Y X;by_cases H : bA P M mod=true
 ·have D : cU (bA P M mod)=0:=by rw [H];rfl
  rw [D];have r : Hid (jo P M mod N L=if ij N=0 then fN P M mod N L else 4):=by show _=_;rw [jo,JT H]
  have I:=HX.out.af X;have c0:=I.cell 0 rfl;have c1:=I.cell 1 rfl;have c2:=I.cell 2 rfl;have c3:=I.cell 3 rfl;have c4:=I.cell 4 rfl;have j:=(V.af Y).af X;have hi1:=(hi.af Y).af X;clear D H I;by_cases h1 : N<1
  ·have U : Hid (jo P M mod N L=4):=by show _=_;rw [r.out,GO h1];rfl
   have t1 : decide (N<1)=true:=by simpa using h1
   go_wp2_with fail;go_ret;exact ⟨aK U.out.symm,Z⟩
  ·have t1 : decide (N<1)=false:=by simpa using h1
   by_cases h2 : 64<N
   ·have U : Hid (jo P M mod N L=4):=by show _=_;rw [r.out,GL h2];rfl
    have t2 : decide (64<N)=true:=by simpa using h2
    go_wp2_with fail;go_ret;exact ⟨aK U.out.symm,Z⟩
   ·have t2 : decide (64<N)=false:=by simpa using h2
    have U : Hid (jo P M mod N L=fN P M mod N L):=by show _=_;rw [r.out,qb h1 h2,JT rfl]
    clear h1 h2;go_wp2_with fail;refine (pG P M am Q cm mod N a n c L w1 j hi1 E.out).mono ?_;rintro e w2 ⟨rfl,z⟩;go_wp2_with fail;go_ret;exact ⟨aK U.out.symm,NX Z z⟩
 ·have C : bA P M mod=false:=by simpa using H
  have U : Hid (jo P M mod N L=1):=by show _=_;rw [jo,JR H]
  have D : cU (bA P M mod)=1:=by rw [C];rfl
  rw [D];clear H C D;go_wp2_with fail;go_ret;exact ⟨aK U.out.symm,Z⟩
def rD (x : Nat) : Nat:=18446744073709551615 ^^^ x
theorem sZ (x i : Nat) (hi : i<64) : (rD x).testBit i = !x.testBit i:=by
 have h : (18446744073709551615 : Nat).testBit i=true:=by have:=Nat.testBit_two_pow_sub_one 64 i;rw [show (2 : Nat) ^ 64 - 1=18446744073709551615 by decide] at this;rw [this];simp [hi]
 rw [rD,NP,h];simp
def IF (O : aM) (L : Ll) (N x : Nat) : Int:=(lT O L (di x N)).length+(lT O L (di (rD x) N)).length - L.length
section
open Go.RowKit
end
theorem ql (x : Int) (w : World) : Calls prog 267 #[.int .i64 x] w λe w'=>e = .returned (.bool (x != 0))/\w=w':=by go_enter func267,ntmps267;go_wp2;go_ret;exact ⟨rfl,rfl⟩
theorem vs (a : OA) (n c : Nat) (l : LI) (w : World) (hi : Ints w a n l) :
  Calls prog 111 #[.slice a n c,.func (.func 267) #[] #[]] w λe w'=>e = .returned (.int .i64 (uZ l))/\w=w':=by
 have Z:=Z5 hi.len;have D:=hi.pl;have U:=hi.max;unfold maxLen at U;go_enter func111,ntmps111;go_wp2_with fail;go_loop [8] (λI=>∃k : Nat,k<=n/\I = .int .i64 k/\Hid (∀j,j<k->nth l j=0)) (λI=>n - (intOf I).toNat);case atStart=>exact ⟨0,JU _,rfl,λj E=>by omega⟩
 case round =>
  obtain ⟨k,hk,rfl,Y⟩:=hrel
  by_cases X : k<n
  ·have C:=hi.cell k X
   by_cases V : nth l k=0
   ·have Q : (nth l k != 0)=false:=by simpa using V
    have H:=Z5 V
    clear V
    go_wp2_with fail
    refine (ql _ _).mono ?_
    rintro e w' ⟨rfl,rfl⟩
    go_wp2_with fail
    go_round
    case rel=>exact ⟨k+1,by omega,by go_num,λj E=>by
     rcases Kz j k with h | h
     ·exact Y.out j h
     ·rw [show j=k by omega];exact H.out⟩
    case measure=>simp [intOf] <;> omega
   ·have Q : (nth l k != 0)=true:=by simpa using V
    have N : Hid (uZ l=k):=by show _=_;have:=vd l k (by rw [Z.out];exact X) Y.out V;rw [uZ,this,JT (by rw [Z.out];exact X)]
    clear V
    go_wp2_with fail
    refine (ql _ _).mono ?_
    rintro e w' ⟨rfl,rfl⟩
    go_wp2_with fail
    go_ret
    exact ⟨aK N.out.symm,rfl⟩
  ·obtain rfl : k=n:=by omega
   have N : Hid (uZ l = -1):=by show _=_;have:=ru l (by rw [Z.out];exact Y.out);rw [uZ,this,JR (by omega)]
   go_wp2_with fail
   go_ret
   exact ⟨aK N.out.symm,rfl⟩
theorem B6 {w w0 : World} {b : Nat} {G : cX} (I : Nat) (ar : OA) (cr : Nat) (R : LA) (ap : OA) (cp : Nat) (s : BS) (av : OA) (cv n : Nat) (v : LI)
  (h : ee w0 b G) (hb : OC w0 w) (hB : rB w w0.heap.size I b ar cr R ap cp s) (hs : s.Ok G.El n) (hv : w.ownsRow w0.heap.size 3 1 (.slice av n cv) n (v.map (Value.int .i64)))
  (hav : av ≠ none->¬ zg I ar R ap (ablk av)) (hve : G.DU v) (hn : n<=1000000) (hk : s.rows.length<=1000000) :
  Calls prog 257 #[.pointer (some ⟨I,0,none⟩),.slice av n cv] w (EM w0 I b ar R ap av G.ops s v w):=by
 have hvl : v.length=n:=by simpa using jZ hv
 have hpv:=(NZ hv).1.pl;have hcl:=Oq h;have hred:=la hcl hs.rws hs.plc ⟨hvl,hve⟩;have Hred:=Z5 hred;have Hvl:=Z5 hvl;have Hs:=Z5 hs;have Hve:=Z5 hve;have c1:=hB.c1;have hplr:=hB.om.pl;clear hred hvl hs hve;go_enter func257,ntmps257;go_wp2_with fail;obtain ⟨kk,hkk⟩ : ∃kk,s.rows.length=kk:=⟨_,rfl⟩
 have z:=Z5 hkk;rw [hkk] at hk hplr c1;rw [hkk];clear hkk;go_loopw [18] (λiv wr=>∃k : Nat,k<=kk/\iv = .int .i64 k/\wr.ownsRow w0.heap.size 3 1 (.slice av n cv) n ((redTo G.ops s.rows s.place v k).map (Value.int .i64))/\dg av w wr) (λiv _=>kk - (intOf iv).toNat);case atStart=>exact ⟨0,JU _,rfl,hv,Oi _ _⟩
 case round =>
  obtain ⟨k,hkk2,rfl,U,Z⟩:=hrel
  have C:=hB.only Z hav
  by_cases hlt : k<kk
  ·have hkr : k<s.rows.length:=by rw [z.out];exact hlt
   have e0:=C.c0
   have e2:=C.c2
   have er:=C.om.cell hkr
   have ir:=C.om.ints hkr
   have hrow:=Hs.out.rws.row hkr
   have hplc:=Hs.out.plc k hkr
   rw [hrow.1] at er ir
   obtain ⟨ip,mp⟩:=NZ C.pl
   have ep:=ip.cell k hkr
   have hpp:=ip.pl
   rw [z.out] at e2 hpp
   obtain ⟨pn,hpn⟩ : ∃pn : Nat,nth s.place k=pn:=⟨(nth s.place k).toNat,by omega⟩
   rw [hpn] at ep hplc
   have hpnn : pn<n:=by omega
   have hrd:=Hred.out k (by omega)
   have hrd1:=Hred.out (k+1) (by omega)
   have hstep : redTo G.ops s.rows s.place v (k+1)=ef G.ops (redTo G.ops s.rows s.place v k) pn (ai s.rows k):=by rw [redTo,hpn]
   have Hstep:=Z5 hstep
   have A:=Z5 hrow
   have Hpn:=Z5 hpn
   clear hstep hpn
   obtain ⟨u,hu⟩ : ∃u,redTo G.ops s.rows s.place v k=u:=⟨_,rfl⟩
   rw [hu] at U hrd
   have Hu:=Z5 hu
   obtain ⟨iu,mu⟩:=NZ U
   have eu:=iu.cell pn hpnn
   have hpu:=iu.pl
   have Q:=Z5 hrd
   clear hu hrow hrd hrd1
   by_cases hz : nth u pn=0
   ·have hz' : (nth u pn != 0)=false:=by simpa using hz
    have Hn : Hid (redTo G.ops s.rows s.place v (k+1)=u):=by show _=_;rw [Hstep.out,Hu.out,ef,JQ,JT hz]
    clear hz
    go_wp2_with fail
    go_roundw
    case rel=>exact ⟨k+1,by omega,by go_num,by rw [Hn.out];exact U,Z⟩
    case measure=>simp [intOf] <;> omega
   ·have hz' : (nth u pn != 0)=true:=by simpa using hz
    have Hn : Hid (redTo G.ops s.rows s.place v (k+1)=dL G.ops u (nth u pn) (ai s.rows k)):=by show _=_;rw [Hstep.out,Hu.out,ef,JQ,JR hz]
    have hxe : G.El (nth u pn):=Q.out.2 _ (aI (by rw [Q.out.1];exact hpnn))
    have hSl : (dL G.ops u (nth u pn) (ai s.rows k)).length=u.length:=eT _ _ _ _ (by rw [A.out.1,Q.out.1])
    have hSn:=λi hi=>eF G.ops u (nth u pn) (ai s.rows k) i (by rw [A.out.1,Q.out.1]) hi
    have HSl:=Z5 hSl
    have HSn:=Z5 hSn
    clear hz hSl hSn
    have hplr2:=ir.pl
    go_wp2_with fail
    generalize nth u pn=x at *
    generalize dL G.ops u x (ai s.rows k)=S at *
    go_loopw [37] (λiv wx=>∃j : Nat,j<=n/\iv = .int .i64 j/\wx.ownsRow w0.heap.size 3 1 (.slice av n cv) n ((gj S u j).map (Value.int .i64))/\dg av w wx) (λiv _=>n - (intOf iv).toNat)
    case atStart=>exact ⟨0,JU _,rfl,by rw [fQ];exact U,Z⟩
    case round =>
     obtain ⟨j,hj,rfl,D,H⟩:=hrel
     have hBx:=hB.only H hav
     have ix:=hBx.om.ints hkr
     rw [A.out.1] at ix
     by_cases hjn : j<n
     ·have cj:=ix.cell j hjn
      have f0:=hBx.c0
      obtain ⟨im,mm⟩:=NZ D
      have cm:=im.cell j hjn
      have fm:=(mm (by omega)).2 j hjn
      have hju : j<u.length:=by rw [Q.out.1];exact hjn
      have hmix:=eQ S u j j HSl.out (by omega)
      rw [JR (by omega)] at hmix
      rw [hmix] at cm
      have hset:=fA S u j HSl.out hju
      rw [HSn.out j hju] at hset
      have Hset:=Z5 hset
      have ely : G.El (nth (ai s.rows k) j):=A.out.2 _ (aI (by rw [A.out.1];exact hjn))
      have elv : G.El (nth u j):=Q.out.2 _ (aI hju)
      have elm : ∀x y,G.El (G.mul x y):=λx y=>OB h x y
      have hbx : OC w0 wr:=KE hb (H.below (λha=>(ba hv ha).1) hb.size)
      have hGr : ee wr b G:=h.af hbx
      have HG : Hid (ee wr.drew b G/\∀n,ee (wr.drewN n) b G):=⟨hGr.af (JP _ _).drew,λn=>hGr.drewN n⟩
      clear hset hmix
      go_wp2_with fail
      go_region_law ((first
       | (go_simp;go_at_call 57;((with_reducible refine (pL x (nth (ai s.rows k) j) HG.out.1 hxe ely).mono ?_);rintro e w4 ⟨m4,rfl,rfl⟩))
       | (go_simp;go_at_call 57;((with_reducible refine (pL x (nth (ai s.rows k) j) (HG.out.2 _) hxe ely).mono ?_);rintro e w4 ⟨m4,rfl,rfl⟩))
       | (go_simp;go_at_call 199;((with_reducible refine (Je (nth u j) (G.mul x (nth (ai s.rows k) j)) (HG.out.2 _) elv (elm _ _)).mono ?_);rintro e w4 ⟨m5,rfl,rfl⟩))))
      all_goals (
       go_wp2_with fail
       go_roundw
       case rel =>
        have hdr : bm wr (wr.drewN (1+m4+m5)):=⟨_,rfl⟩
        refine ⟨j+1,by omega,by go_num,?_,H.trans ((Oa hdr).trans (Oc _ j _ (by intro e;have:=hpv (by omega);rw [e] at this;cases this)))⟩
        have h1:=bC (w:=wr.drewN (1+m4+m5)) D j hjn (.int .i64 (G.sub (nth u j) (G.mul x (nth (ai s.rows k) j))))
        rw [<- Kh,show G.sub (nth u j) (G.mul x (nth (ai s.rows k) j))=G.ops.add (nth u j) (G.ops.neg (G.ops.mul x (nth (ai s.rows k) j))) from rfl,Hset.out] at h1
        exact h1
       case measure=>simp [intOf] <;> omega)
     ·obtain rfl : j=n:=by omega
      rw [gx S u j (by rw [HSl.out,Q.out.1]) Q.out.1] at D
      go_wp2_with fail
      go_roundw
      case rel=>exact ⟨k+1,by omega,by go_num,by rw [Hn.out];exact D,H⟩
      case measure=>simp [intOf] <;> omega
  ·obtain rfl : k=kk:=by omega
   have hrd:=Hred.out k (by rw [z.out];exact JO _)
   have hurd : redTo G.ops s.rows s.place v k=s.red G.ops v:=by rw [BS.red,z.out]
   rw [hurd] at U hrd
   obtain ⟨iu,mu⟩:=NZ U
   have Q:=Z5 hrd
   clear hurd hrd
   go_wp2_with fail
   refine (vs _ _ _ _ _ iu).mono ?_
   rintro e w' ⟨rfl,rfl⟩
   by_cases hf : fnz (s.red G.ops v)<(s.red G.ops v).length
   ·have hfv : uZ (s.red G.ops v)=fnz (s.red G.ops v):=by rw [uZ,JT hf]
    have hfn:=lY _ hf
    have Ht : Hid (s.gd G.ops v=true):=by show _=_;simpa [BS.gd] using hf
    have HN : Hid (s.next G.ops v=⟨s.rows ++ [(s.red G.ops v).map (G.mul (G.inv (nth (s.red G.ops v) (fnz (s.red G.ops v)))))],s.place ++ [(fnz (s.red G.ops v) : Int)]⟩):=by show _=_;rw [BS.next,JT Ht.out];rfl
    rw [hfv]
    obtain ⟨u,hu⟩ : ∃u,s.red G.ops v=u:=⟨_,rfl⟩
    rw [hu] at U Q hf hfn iu HN
    rw [hu]
    clear hu hfv
    obtain ⟨f,hff⟩ : ∃f,fnz u=f:=⟨_,rfl⟩
    rw [hff] at hf hfn HN
    rw [hff]
    have hfn' : f<n:=by rw [<- Q.out.1];exact hf
    have e0:=C.c0
    have eu:=iu.cell f hfn'
    have hpu:=iu.pl
    have elf : G.El (nth u f):=Q.out.2 _ (aI hf)
    have hbx : OC w0 wr:=KE hb (Z.below (λha=>(ba hv ha).1) hb.size)
    have hGr : ee wr b G:=h.af hbx
    have HG : Hid (ee wr.drew b G/\∀n,ee (wr.drewN n) b G):=⟨hGr.af (JP _ _).drew,λn=>hGr.drewN n⟩
    have Hfn:=Z5 hfn
    have Hf:=Z5 hf
    clear hff hfn hf
    go_upto_region 15 with fail
    go_cut [11] (λdv wx=>dv = .int .i64 (G.inv (nth u f))/\bm wr wx)
    case first =>
     go_region_held3 (λw'=>w'.cell? ⟨I,0,none⟩=some (.pointer (some ⟨b,0,none⟩))/\w'.cell? ⟨ablk av,aL av+f,none⟩=some (.int .i64 (nth u f)))
      (exact ⟨e0,eu⟩)
      (first
      | (go_at_call 201;((with_reducible refine (Iq _ HG.out.1 elf Hfn.out).mono ?_);rintro e w4 ⟨m4,rfl,rfl⟩)))
     all_goals (
      go_step;go_step
      go_meet
      exact ⟨rfl,⟨_,rfl⟩⟩)
    obtain ⟨rfl,hdr⟩:=hcut
    generalize wc=V at *
    have Y : rB V w0.heap.size I b ar cr R ap cp s:=C.af hdr.below
    have hownV:=bp U hdr.below
    have hbV : OC w0 V:=hdr.Ff hbx
    have honV : dg av w V:=Z.trans (Oa hdr)
    clear C U hbx hGr HG e0 eu iu mu hdr Z
    obtain ⟨iu,mu⟩:=NZ hownV
    have HGV : Hid (ee V.drew b G/\∀n,ee (V.drewN n) b G):=⟨(h.af hbV).af (JP _ _).drew,λn=>(h.af hbV).drewN n⟩
    have hiel : G.El (G.inv (nth u f)):=cX.y9 h _
    have e0:=Y.c0
    have e1:=Y.c1
    have f1:=Y.fr 1
    have hS : ∀W,OC V W->W.cell? ⟨I,0,none⟩=some (.pointer (some ⟨b,0,none⟩))/\W.cell? ⟨I,1,none⟩=some (.slice ar s.rows.length cr)/\W.frozen? ⟨I,1,none⟩=false/\OC V W:=by intro W hW;have hBW:=Y.af hW;exact ⟨hBW.c0,hBW.c1,hBW.fr 1,hW⟩
    have HS:=Z5 hS
    have haptb : eX ar I:=by
     by_cases ha : ar=none
     ·exact .inl ha
     ·exact .inr λe=>Y.d1 (.inl ⟨ha,e.symm⟩)
    have hR : ∀W,OC V W->W.ownsRow w0.heap.size 22 1 (.slice ar k cr) k (List.zipWith kb R s.rows):=λW hW=>by have:=(Y.om.af hW).own;rwa [z.out] at this
    have HR:=Z5 hR
    obtain ⟨N,hN⟩ : ∃N,u.map (G.mul (G.inv (nth u f)))=N:=⟨_,rfl⟩
    have hsc : Calls prog 66 #[.pointer (some ⟨b,0,none⟩),.int .i64 (G.inv (nth u f)),.slice av n cv] V.drew (db V.drew N):=by rw [<- hN];exact yI (G.inv (nth u f)) _ _ _ u HGV.out.1 hiel (iu.af (JP _ _).drew) Q.out.2 hn
    have Hsc:=Z5 hsc
    have HNe:=Z5 hN
    rw [hN] at HN
    clear hN hsc
    clear hS hR
    go_upto_region 16 with fail
    go_cut [] (λwx=>∃r cr' R',wx.cell? ⟨I,1,none⟩=some (.slice r (k+1) cr')/\aT wx w0.heap.size r (k+1) cr' R' (s.rows ++ [N]) /\
     aD V wx (λx=>x=I\/bX ar R x) (λx=>x=I\/bX r R' x)/\¬ bX r R' I /\
     (∀i v,i ≠ 1->V.cell? ⟨I,i,none⟩=some v->wx.cell? ⟨I,i,none⟩=some v)/\∀i,wx.frozen? ⟨I,i,none⟩=false)
    case first =>
     rw [z.out] at e1 HS
     go_region_law ((first
      | (go_simp;go_at_call 66;((with_reducible refine Hsc.out.mono ?_);rintro e w4 ⟨a4,c4,rfl,hown4,hb4⟩;obtain ⟨q0,q1,q2,q5⟩:=HS.out w4 (NX (JP _ _).drew hb4);have q6 : I<w4.heap.size:=J2 w4 _ q0))
      | (refine fg (by rfl) (.tmp 83) (.tmp 91) 25 22 (by rfl) (.slice none 0 0) 24 underlying25 dO (by rfl) w0.heap.size ar k cr (List.zipWith kb R s.rows) (by rfl) (HR.out _ (NX q5 (an _ _))) (some ⟨w4.heap.size,0,none⟩) 1 1 [.slice a4 N.length c4] (by rfl) (λ_=>rfl) rfl (by intro j hj;obtain rfl : j=0:=(by omega);exact ew _ _ _ rfl) (by intro y hy;simp at hy;subst hy;rfl) (by omega) (by unfold maxLen;omega) (by have e1:=hbV.size;have e2:=K8 q5;simp;omega) ?_;intro a5 c5 w5 hown5 hgr5 hap5;have p1:=cT hgr5 (br q1 _) haptb;have p2 : w5.frozen? ⟨I,1,none⟩=false:=(Ks (hgr5.block I (J2 _ _ (br q1 _)) (λe=>haptb.own k cr e.symm))).trans (ed (J2 _ _ q1) q2 _))))
     all_goals (
      go_wp2_with fail
      go_meet
      exact Y.Ii z.out hbV.size (NX (JP _ _).drew hb4) hown4 hown5 hgr5 hap5 ⟨_,p1⟩)
    obtain ⟨r,cr',R',y1,hOX,E,hdX,hcX,hfX⟩:=hcut
    generalize wc=X at *
    have y0:=hcX 0 _ (by omega) e0
    have y2:=hcX 2 _ (by omega) Y.c2
    have yf:=hfX 2
    have hnI : ap ≠ none->¬ (ablk ap=I\/bX ar R (ablk ap)):=λh0 hI=>by
     rcases hI with h1 | h1
     ·rcases Y.d2 with h2 | h2
      ·exact h0 h2
      ·exact h2 h1
     ·exact Y.d3 h0 h1
    have hpX:=E.own Y.pl hnI
    have hd3 : ap ≠ none->¬ bX r R' (ablk ap):=λh0 hI=>E.not (ba Y.pl h0).2 (hnI h0) (.inr hI)
    rw [z.out] at y2 hpX
    have hbX : OC w0 X:=hbV.trans (E.below (λx hx=>(Y.lt x (by rcases hx with h1 | h1;exact .inl h1;exact .inr (.inl h1))).1) hbV.size)
    have hz : I<X.heap.size:=J2 X _ y0
    have HfX:=Z5 hfX
    have Hd3:=Z5 hd3
    have HdX:=Z5 hdX
    have hd2:=Y.d2
    have hbB:=Y.bB
    have hcn:=bf X (.int .i64 f) 3
    clear hcX hfX hd3 hdX e0 e1 f1
    go_wp2_with (at_builtin;refine aS rfl _ _ 22 3 rfl (.int .i64 0) 8 underlying22 aV rfl w0.heap.size ap k cp _ rfl (hpX.alloc _) ⟨X.heap.size,0,none⟩ 1 (.int .i64 f) rfl hcn rfl (by omega) (by unfold maxLen;omega) (by have e1:=hbX.size;simp;omega) ?_;intro a6 c6 w6 hown6 hgr6 hap6;have p1:=cT hgr6 (br y2 _) hd2;have p2 : w6.frozen? ⟨I,2,none⟩=false:=(Ks (hgr6.block I (J2 _ _ (br y2 _)) (λe=>hd2.own k cp e.symm))).trans (ed hz yf _))
    have hP:=rB.Ie (w6:=w6) hbB y0 y1 ⟨_,y2⟩ HfX.out hOX hpX HdX.out hd2 Hd3.out hown6 hgr6 hap6
    have HP:=Z5 hP
    clear hP
    go_ret
    refine ⟨r,cr',R',a6,c6,aU Ht.out.symm,by rw [HN.out];exact HP.out.1,?_⟩
    refine On (w':=V) (I':=λx=>zg I ar R ap x\/(av ≠ none/\x=ablk av)) ?_ (On (w':=X) (I':=zg I r R' ap) ?_ HP.out.2)
    ·exact ⟨honV.os,honV.tape,honV.output,honV.size,λx hx hI=>honV.block x hx λh2=>hI (.inr h2),λx hx=>.inl hx⟩
    ·refine ⟨E.os,E.tape,E.output,E.size,λx hx hI=>E.block x hx λh2=>hI (.inl (by rcases h2 with h3 | h3;exact .inl h3;exact .inr (.inl h3))),λx hx=>?_⟩
     rcases hx with h1 | h1 | h1
     ·exact .inl (.inl (.inl h1))
     ·rcases E.grow x (.inr h1) with h2 | h2
      ·exact .inl (.inl (by rcases h2 with h3 | h3;exact .inl h3;exact .inr (.inl h3)))
      ·exact .inr h2
     ·exact .inl (.inl (.inr (.inr h1)))
   ·have hfv : uZ (s.red G.ops v) = -1:=by rw [uZ,JR hf]
    rw [hfv]
    have Ht : Hid (s.gd G.ops v=false):=by show _=_;simp [BS.gd];omega
    have HN : Hid (s.next G.ops v=s):=by show _=_;rw [BS.next,JR (by rw [Ht.out];simp)]
    clear hf hfv
    go_wp2_with fail
    go_ret
    refine ⟨ar,cr,R,ap,cp,aU Ht.out.symm,by rw [HN.out];exact C,?_⟩
    exact ⟨Z.os,Z.tape,Z.output,Z.size,λx hx hI=>Z.block x hx λh2=>hI (.inr h2),λx hx=>.inl (.inl hx)⟩
def dn (l : LI) : LI:=l.mergeSort λx y=>decide (x<=y)
theorem dw (l : LI) : (dn l).Perm l:=List.mergeSort_perm l _
theorem fy (l : LI) : (dn l).length=l.length:=(dw l).length_eq
theorem zM (l : LI) : (dn l).Pairwise λx y=>x<=y:=by have h:=List.pairwise_mergeSort (le:=λx y : Int=>decide (x<=y)) (λa b c h1 h2=>by simp at *;omega) (λa b=>by simp;omega) l;exact h.imp λh=>by simpa using h
theorem kK : ∀ {l Z : LI},l.Pairwise (λx y=>x<=y)->Z.Pairwise (λx y=>x<=y)->l.Perm Z->l=Z
 | [],Z,_,_,h=>by rw [List.nil_perm] at h;exact h.symm
 | x :: l,[],_,_,h=>by rw [List.perm_nil] at h;exact h
 | x :: l,y :: Z,h1,h2,h=>by
  rw [LR] at h1 h2;have X : x ∈ y :: Z:=h.subset (Nv ..);have Y : y ∈ x :: l:=h.symm.subset (Nv ..);have e : x=y:=by
   rcases List.mem_cons.1 X with e | X
   ·exact e
   ·rcases List.mem_cons.1 Y with e | Y
    ·exact e.symm
    ·have:=h1.1 y Y;have:=h2.1 x X;omega
  subst e;rw [kK h1.2 h2.2 (List.Perm.cons_inv h)]
theorem mA {l Z : LI} (h : Z.Pairwise λx y=>x<=y) (Y : Z.Perm l) : Z=dn l:=kK h (zM l) (Y.trans (dw l).symm)
theorem sd {l : LI} (h : ∀i j,i<j->j<l.length->nth l i ≠ nth l j) : l.Nodup:=by unfold List.Nodup;rw [MC];intro i j hi Y Z;have:=h i j Z Y;rwa [aj hi,aj Y] at this
section
open Go.RowKit Go.Shelf Go.Sort
theorem vG (a : OA) (c : Nat) (w : World) : Calls prog 166 #[.slice a 0 c,.int .i64 0,.int .i64 0] w λe w'=>e = .returned (.tuple #[])/\w'=w:=by go_enter func166,ntmps166;go_wp2_with fail;refine wp_loop_rounds 1 ?_;rw [rounds_succ];go_wp2_with fail;go_end0;exact ⟨rfl,rfl⟩
theorem Em (a : OA) (c : Nat) (w : World) : Calls prog 116 #[.slice a 0 c,.int .i64 0,.int .i64 0,.int .i64 0] w λe w'=>e = .returned (.tuple #[])/\w'=w:=by go_enter func116,ntmps116;go_wp2_with fail;refine wp_loop_rounds 1 ?_;rw [rounds_succ];go_wp2_with fail;refine (vG a c w).mono ?_;rintro e w' ⟨rfl,rfl⟩;go_wp2_with fail;(try simp only [Exit.inBlock,Exit.then]);refine bodyPost_ret (results_none rfl _ _ _) rfl ?_;exact ⟨rfl,rfl⟩
theorem uB (w : World) : Calls prog 117 #[.int .u64 0] w λe w'=>e = .returned (.int .i64 0)/\w'=w :=
 calls_of_every_depth λD=>AnyS.bits_LenIn { I9 with } D 0 w (by omega) (by omega)
theorem CI (a : OA) (c : Nat) (w : World) : Calls prog 67 #[.slice a 0 c] w λe w'=>e = .returned (.tuple #[])/\w'=w:=by go_enter func67,ntmps67;go_wp2_with fail;refine (uB w).mono ?_;rintro e w' ⟨rfl,rfl⟩;go_wp2_with fail;refine (Em a c w').mono ?_;rintro e w' ⟨rfl,rfl⟩;go_wp2_with fail;go_end0;exact ⟨rfl,rfl⟩
theorem qS (B : Nat) (a : OA) (n c : Nat) (l : LI) (w : World) (Y : w.ownsRow B 3 1 (.slice a n c) n (l.map (Value.int .i64))) (D : B<=w.heap.size) (r : n<=1000000) :
  Calls prog 67 #[.slice a n c] w λe w'=>e = .returned (.tuple #[])/\w'.ownsRow B 3 1 (.slice a n c) n ((dn l).map (Value.int .i64))/\w.grownBy w' (Value.slice a n c).ownBlock/\Below B w w':=by
 have I : l.length=n:=by simpa using jZ Y
 have X:=Y;rcases Y.2 with ⟨N,z⟩ | ⟨g,cap,cur,N,Z,hb,h1,h2,h3,A⟩
 ·cases N
  have U : l=[]:=Kd I;subst U;refine (CI none 0 w).mono ?_;rintro e w' ⟨rfl,rfl⟩;exact ⟨rfl,by simpa [dn] using X,⟨rfl,rfl,rfl,JO _,λk _ _=>rfl⟩,JP _ _⟩
 ·cases N
  subst I;have E:=holds_of_blockI (ss:=l) hb (by simpa using A);have Q : g<w.heap.size:=(Array.getElem?_eq_some_iff.1 hb).1;refine (Any.slices_Sort_int I9 g 0 c l w E Q (by omega)).mono ?_;rintro e w' ⟨rfl,H,os,rfl⟩;have V:=grownBy_sortedI (w:=w) (g:=g) (n:=H) (os:=os) (l.mergeSort λx y=>decide (x<=y)).toArray;exact ⟨rfl,ownsRow_sortedI (by simp) Z hb h1 h2 h3,V,(JP B w).grown V D (λj C=>by cases C;exact Z)⟩
theorem yO (V : Nat) (a : OA) (len cap : Nat) (X : LI) (hlen : len<=1000000) (w : World) (U : V<w.heap.size) (hc : w.cell? ⟨V,0,none⟩=some (.slice a len cap)) (hI : Ints w a len X) :
  Calls prog 259 #[.func (.func 269) #[] #[.pointer (some ⟨V,0,none⟩)]] w λe N =>
   ∃a2 c2,e = .returned (.slice a2 len c2)/\N.ownsRow w.heap.size 3 1 (.slice a2 len c2) len ((dn X).map (Value.int .i64))/\OC w N:=by go_enter func259,ntmps259;go_wp2_with fail;refine (wX V a len cap X hlen w U hc hI).mono ?_;rintro e w1 ⟨v,rfl,Z,hb⟩;obtain ⟨a2,c2,rfl,_⟩:=Od Z;have I:=Z5 (qS w.heap.size a2 len c2 X w1 Z hb.size hlen);clear Z;go_wp2_with fail;refine I.out.mono ?_;rintro e H ⟨rfl,Y,_,Q⟩;go_wp2_with fail;go_ret;exact ⟨a2,c2,rfl,Y,hb.trans Q⟩
end
section
theorem aT.setOther {w : World} {B : Nat} {a : OA} {n c : Nat} {R : LA} {L : Ll} (h : aT w B a n c R L) {p : Addr} (Z : p.block<B) (v : Value) : aT (w.setCell p v) B a n c R L :=
 h.bj λb hb=>J6 _ _ _ _ (by have:=(h.lt b hb).1;omega)
structure lN (w : World) (g : Nat) (x : Value) (a : OA) (k c : Nat) (R : LA) (L : Ll) : Prop where
 lt : g<w.heap.size
 c0 : w.cell? ⟨g,0,none⟩=some x
 c1 : w.cell? ⟨g,1,none⟩=some (.slice a k c)
 fr : ∀i,w.frozen? ⟨g,i,none⟩=false
 om : aT w (g+1) a k c R L
namespace lN
variable {w w' w4 w5 : World} {g : Nat} {x : Value} {a : OA} {k c : Nat} {R : LA} {L : Ll}
theorem af (h : lN w g x a k c R L) (hb : OC w w') : lN w' g x a k c R L :=
 ⟨Kl h.lt hb.size,aB hb h.c0,aB hb h.c1,λi=>dE hb h.lt (h.fr i),h.om.af hb⟩
theorem sP (h : lN w g x a k c R L) : eX a g:=by
 by_cases ha : a=none
 ·exact .inl ha
 ·exact .inr λe=>by have:=(ba h.om.own ha).1;omega
theorem uv {o : Obj} (h : lN w4 g x a k c R L) (Z : (w4.alloc o).grownBy w5 (Value.slice a k c).ownBlock) : w5.cell? ⟨g,0,none⟩=some x/\w5.cell? ⟨g,1,none⟩=some (.slice a k c)/\w5.frozen? ⟨g,1,none⟩=false:=by
 have Y:=an w4 o;have X:=h.lt;have V:=Y.size;exact ⟨cT Z (br h.c0 o) h.sP,cT Z (br h.c1 o) h.sP,
  (Ks (w:=w4.alloc o) (a:=⟨g,1,none⟩) (Z.block g (by omega) λe=>h.sP.own k c e.symm)).trans (ed h.lt (h.fr 1) _)⟩
theorem push {a4 a5 : OA} {H E I : Nat} {N : LI} {o : Obj} (h : lN w4 g x a k c R L) (C : N.length=H)
  (X : w4.ownsRow (g+1) 3 1 (.slice a4 H E) H (N.map (Value.int .i64))) (D : a4 ≠ none->¬ bX a R (ablk a4))
  (V : w5.ownsRow (g+1) 22 1 (.slice a5 (k+1) I) (k+1) (List.zipWith kb R L ++ [.slice a4 H E])) (Z : (w4.alloc o).grownBy w5 (Value.slice a k c).ownBlock)
  (Q : ∀x,x<(w4.alloc o).heap.size->eX a x->eX a5 x) :
  lN (w5.setCell ⟨g,1,none⟩ (.slice a5 (k+1) I)) g x a5 (k+1) I (R ++ [(a4,E)]) (L ++ [N])/\Below g w4 (w5.setCell ⟨g,1,none⟩ (.slice a5 (k+1) I)):=by
 subst C;have Y:=an w4 o;have A:=h.om.af Y;have hr:=bp X Y;have j:=Ob A hr D V Z Q;have r:=h.lt;have hs1:=Y.size;have U : Below (g+1) w4 w5:=N0 (Y.mono (by omega)) A.own Z (JO _) (by omega);have hs:=U.size;have k0:=cT Z (br h.c0 o) h.sP;have z:=cT Z (br h.c1 o) h.sP;refine ⟨⟨by simp;omega,?_,Kf _ _ _ z,λi=>?_,j.setOther (by simp) _⟩,(U.mono (by omega)).setCell (by simp) _⟩
 ·rw [J7 _ _ _ _ (by simp)];exact k0
 ·rw [KK];exact (Ks (w:=w4.alloc o) (a:=⟨g,i,none⟩) (Z.block g (by omega) λe=>h.sP.own k c e.symm)).trans (ed h.lt (h.fr i) _)
theorem start {U : World} {g : Nat} {x : Value} (Z : aO U g [x,.slice none 0 0]) : lN U g x none 0 0 [] [] :=
 ⟨Z.1,Z.cell 0 rfl,Z.cell 1 rfl,Z.frozen,Oe _ _⟩
end lN
end
section
theorem oG (f : LI->LI) (L : Ll) {i : Nat} (h : i<L.length) : ai (L.map f) i=f (ai L i):=by rw [aE (by simpa using h),aE h,KF]
theorem oB (l : LI) {len k : Nat} (h : k<len) : nth (l.take len) k=nth l k:=by unfold nth;simp only [JS,K0];rw [JT h]
theorem vY (O : aM) (v u : LI) (s : Int) (len : Nat) : (bN O v s u).take len=bN O (v.take len) s (u.take len):=by unfold bN;rw [NH]
def I2 (a : OA) (R : LA) (a2 : OA) (S : LA) (b : Nat) : Prop:=bX a R b\/bX a2 S b
structure mz (w : World) (B : Nat) (a : OA) (n c : Nat) (R : LA) (a2 : OA) (c2 : Nat) (S : LA) (len : Nat) (J : Ll) : Prop where
 om1 : aT w B a n c R (J.map (List.take len))
 om2 : aT w B a2 n c2 S (J.map (List.drop len))
 dis : ∀b,bX a R b->¬ bX a2 S b
namespace mz
variable {w w' w1 : World} {B : Nat} {a : OA} {n c : Nat} {R R' : LA} {a2 : OA} {c2 : Nat} {S S' : LA} {len : Nat} {J J' : Ll}
theorem lt (h : mz w B a n c R a2 c2 S len J) (b : Nat) (hb : I2 a R a2 S b) : B<=b/\b<w.heap.size:=by
 rcases hb with hb | hb
 ·exact h.om1.lt b hb
 ·exact h.om2.lt b hb
theorem new (h : mz w B a n c R a2 c2 S len J) {b : Nat} (hb : w.heap.size<=b) : ¬ I2 a R a2 S b:=λZ=>by have:=h.lt b Z;omega
theorem af (h : mz w B a n c R a2 c2 S len J) (hb : OC w w') : mz w' B a n c R a2 c2 S len J:=⟨h.om1.af hb,h.om2.af hb,h.dis⟩
theorem ll (h : mz w B a n c R a2 c2 S len J) : J.length=n:=by have:=h.om1.ll;simpa using this
theorem cell (h : mz w B a n c R a2 c2 S len J) {i : Nat} (hi : i<n) (Z : len<=(ai J i).length) : w.cell? ⟨ablk a,aL a+i,none⟩=some (.slice (aR R i).1 len (aR R i).2):=by have h1:=h.om1.cell hi;rw [oG _ J (by rw [h.ll];exact hi),Ki,NT Z] at h1;exact h1
theorem ints (h : mz w B a n c R a2 c2 S len J) {i : Nat} (hi : i<n) (Z : len<=(ai J i).length) : Ints w (aR R i).1 len ((ai J i).take len):=by have h1:=h.om1.ints hi;rw [oG _ J (by rw [h.ll];exact hi),Ki,NT Z] at h1;exact h1
end mz
variable {w : World} {b : Nat} {G : cX}
end
section
open Go.RowKit
end
section
variable {w : World} {b : Nat} {G : cX}
end

section
open Go.RowKit
end
def N8:=@RS.row
def Oz:=@RS.D9
end Go.Proofs.YthglbncgemdcbaaGreat
