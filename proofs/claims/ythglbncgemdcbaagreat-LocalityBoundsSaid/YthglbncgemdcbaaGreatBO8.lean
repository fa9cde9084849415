import Derived.Test.YthglbncgemdcbaaGreatBO6
namespace Go.Proofs.YthglbncgemdcbaaGreat
set_option linter.all false
set_option maxRecDepth 100000
set_option maxHeartbeats 4000000
open Go.RowKit Go.Proofs.Tryz
def EL (P:Int) (low:Lz) (v:Nat) (c:Int) (r:Lz):Nat->Lz
 | 0=>r
 | j+1=>(EL P low v c r j).set (v+j) ((nth (EL P low v c r j) (v+j)+(P - c) * nth low j) % P)
def yR (P:Int) (low:Lz) (n:Nat) (r:Lz):Nat->Lz
 | 0=>r
 | k+1=>(EL P low (n - 1 - k - low.length) (nth (yR P low n r k) (n - 1 - k)) (yR P low n r k) low.length).set (n - 1 - k) 0
def Gb (P:Int) (low mod:Lz):Bool:=(yR P low (mod.length+1) (mod ++ [1]) (mod.length+1 - low.length)).all λx=>x == 0
theorem DM (P:Int) (low:Lz) (v:Nat) (c:Int) (r:Lz):∀j,(EL P low v c r j).length=r.length
 | 0=>rfl
 | j+1=>by rw [EL,N8,DM P low v c r j]
theorem Dt (P:Int) (low:Lz) (n:Nat) (r:Lz):∀k,(yR P low n r k).length=r.length
 | 0=>rfl
 | k+1=>by rw [yR,N8,DM,Dt P low n r k]
theorem xT {P:Int} (Z:0<P) (low:Lz) (v:Nat) (c:Int) {r:Lz} (h:dL P r):∀j,dL P (EL P low v c r j)
 | 0=>h
 | j+1=>dL.CE Z (xT Z low v c h j) _ _
theorem C7 {P:Int} (Z:0<P) (low:Lz) (n:Nat) {r:Lz} (h:dL P r):∀k,dL P (yR P low n r k)
 | 0=>h
 | k+1=>dL.set (xT Z low _ _ (C7 Z low n h k) _) _ (by omega) Z
theorem dL.snoc {P:Int} {l:Lz} (h:dL P l) {x:Int} (h0:0<=x) (h1:x<P):dL P (l ++ [x]):=by
 intro i;by_cases hi:i<l.length
 ·have e:nth (l ++ [x]) i=nth l i:=by simp only [nth,Na];rw [NA hi]
  rw [e];exact h i
 ·by_cases Z:i=l.length
  ·subst Z;have e:nth (l ++ [x]) l.length=x:=by simp [nth]
   rw [e];exact ⟨h0,h1⟩
  ·rw [jI (by simp;omega)];omega
theorem yz (al:OA) (d cl:Nat) (low:Lz) (am:OA) (L cm:Nat) (mod:Lz) (P:Int) (w:ej) (hl:Ints w al d low) (hm:Ints w am L mod) (hp2:2<=P) (hp256:P<=256)
  (hdl:dL P low) (hdm:dL P mod) (hd1:1<=d) (hdn:d<=L) (hmn:L<=8) :
  Calls prog 150 #[.slice al d cl,.slice am L cm,cG P] w λe w'=>e = .returned (.bool (Gb P low mod))/\SJ w w':=by
 have hP:0<P:=by omega
 have Hll:=Z5 hl.len;have Hml:=Z5 hm.len;have hpll:=hl.pl;have Hdl:=Z5 hdl;have HDB:Hid (Gb P low mod=(yR P low (L+1) (mod ++ [1]) (L+1 - d)).all λx=>x == 0):=by show _=_;rw [Gb,hm.len,hl.len]
 have HD0:Hid (dL P (mod ++ [1])):=hdm.snoc (by omega) (by omega);have HL0:Hid ((mod ++ [1]).length=L+1):=by show _=_;rw [Ni,hm.len];rfl
 have hO1:=k8 w 3;have H:=aD w (.cells #[] 3);have hme:=hm.ai H;have hpm:=hm.pl;clear hdl hdm;go_enter func150,ntmps150;go_wp2_with (at_builtin; first
       | (refine fZ (by rfl) (.tmp 15) (.tmp 16) 22 3 (by rfl) (cG 0) 8 underlying22 br (by rfl) w.heap.size _ 0 0 [] (by rfl) hO1 am L cm (mod.map (Value.int .i64)) (by rfl) hpm (by simp [Hml.out]) (Sm hme) (ints_oneCell _ _) (by omega) (by unfold maxLen;omega) (OR H) ?_;intro a3 c3 w3 U hgr3 hap3;have hb3:SJ w w3:=RY (B:=w.heap.size) (e:=3) (xs:=[]) H hO1 hgr3 (M4 _) (OR H);rw [Qm] at U ⊢;rw [Oy] at U)
       | (refine bd rfl _ _ 22 3 rfl (cG 0) 8 underlying22 br rfl w.heap.size a3 L c3 _ rfl (U.alloc _) ⟨w3.heap.size,0,none⟩ 1 (cG 1) rfl (bh w3 _ _) rfl (by omega) (by unfold maxLen;omega) (by have h1:=OR hb3;simp;omega) ?_;intro a1 c1 w1 A hgr1 hap1))
 have E:SJ w w1:=RY (RU hb3 (aD _ _)) (U.alloc _) hgr1 (M4 _) (Np hb3.size (OR (aD _ _)));have r:w1.ownsRow w.heap.size 3 1 (.slice a1 (L+1) c1) (L+1) ((mod ++ [1]).map (Value.int .i64)):=by simpa using A
 have ha1:a1 ≠ none->w.heap.size<=ablk a1:=λh=>(aP r h).1;obtain ⟨n,hn⟩:∃n,L+1=n:=⟨_,rfl⟩
 have Hn:=Z5 hn;have hn9:n<=9:=by omega
 have hdn':d+1<=n:=by omega
 obtain ⟨C,hr0⟩:∃C,mod ++ [1]=C:=⟨_,rfl⟩
 rw [hr0,hn] at r HDB;rw [hr0] at HD0;rw [hr0,hn] at HL0;have hnv:(((L+1:Nat):Int))=n:=by omega
 have hnv2:(L:Int)+1=n:=by omega
 have hlw:=hl.ai E;have hS:∀V,SJ w V->Ints V al d low:=λV hV=>hl.ai hV;have HS:=Z5 hS;rw [hn];clear A hgr1 hap1 U hgr3 hap3 hr0 hn hS hO1 H hme hlw;go_wp2_with fail;clear hnv hnv2;go_loopw [9] (λD wr=>∃k t:Nat,t+k+1=n/\d<=t+1/\D = cG t/\wr.ownsRow w.heap.size 3 1 (.slice a1 n c1) n ((yR P low n C k).map (Value.int .i64))/\ch a1 w1 wr) (λD _=>(intOf D).toNat);case atStart=>exact ⟨0,n - 1,by omega,by omega,by have:=Hn.out;congr 1;omega,r,Sg _ _⟩
 case round =>
  obtain ⟨k,t,htk,hdt,rfl,Y,K⟩:=hrel
  have hbk:SJ w wr:=E.trans (K.below ha1 E.size)
  by_cases hti:d<=t
  ·have Htk:=Z5 htk
   have Hrk:Hid (yR P low n C (k+1)=(EL P low (t - d) (nth (yR P low n C k) t) (yR P low n C k) d).set t 0):=by show _=_;rw [yR,Hll.out,show n - 1 - k=t by omega]
   have Hrd:Hid (dL P (yR P low n C k)):=C7 hP low n HD0.out k
   obtain ⟨N,z⟩:∃N,yR P low n C k=N:=⟨_,rfl⟩
   rw [z] at Y Hrk Hrd
   have htn:t<n:=by omega
   have hti':(t:Int)<n:=by omega
   obtain ⟨it0,mt0⟩:=RW Y
   have c0:=it0.cell t htn
   have hp0:=it0.pl
   have b2:=Hrd t
   clear z htk
   go_wp2_with fail
   obtain ⟨Q,hcc⟩:∃Q,nth N t=Q:=⟨_,rfl⟩
   rw [hcc] at b2 Hrk
   rw [hcc]
   clear hcc c0 it0 mt0
   go_loopw [11] (λD wr=>∃j:Nat,j<=d/\D = cG j/\wr.ownsRow w.heap.size 3 1 (.slice a1 n c1) n ((EL P low (t - d) Q N j).map (Value.int .i64))/\ch a1 w1 wr) (λD _=>d - (intOf D).toNat)
   case atStart=>exact ⟨0,Nb _,rfl,Y,K⟩
   case round =>
    obtain ⟨j,hj,rfl,X,O⟩:=hrel
    have hbr2:SJ w wr:=E.trans (O.below ha1 E.size)
    have j1:=HS wr hbr2
    by_cases hlt2:j<d
    ·have Hcj:Hid (EL P low (t - d) Q N (j+1)=(EL P low (t - d) Q N j).set (t - d+j) ((nth (EL P low (t - d) Q N j) (t - d+j)+(P - Q) * nth low j) % P)):=rfl
     have hcd:=xT hP low (t - d) Q Hrd.out j
     obtain ⟨T,hT⟩:∃T,EL P low (t - d) Q N j=T:=⟨_,rfl⟩
     rw [hT] at X Hcj hcd
     clear hT
     obtain ⟨it,mt⟩:=RW X
     obtain ⟨u,hu⟩:∃u,t - d+j=u:=⟨_,rfl⟩
     have hun:u<n:=by omega
     have ct:=it.cell u hun
     have cM:=j1.cell j hlt2
     have ft:=(mt (by omega)).2 u hun
     have F:=it.pl
     have b1:=hcd u
     have b3:=Hdl j
     have hme:=lW (show 0<=P - Q by omega) (show P - Q<=256 by omega) b3.1 (show nth low j<=256 by omega)
     have hP0:P ≠ 0:=by omega
     rw [hu] at Hcj
     obtain ⟨Z,hZ⟩:∃Z,(nth T u+(P - Q) * nth low j) % P=Z:=⟨_,rfl⟩
     have Hcj2:Hid (EL P low (t - d) Q N (j+1)=T.set u Z):=by show _=_;rw [Hcj.out,hZ]
     obtain ⟨v,hv⟩:∃v,t - d=v:=⟨_,rfl⟩
     have r0':IntKind.i64.wrap ((t:Int) - d)=(v:Int):=by rw [Nn _ (by omega)];omega
     have r1:IntKind.i64.wrap ((v:Int)+j)=(u:Int):=by rw [Nn _ (by omega)];omega
     have r2:IntKind.i64.wrap (P - Q)=P - Q:=Nn _ (by omega)
     have r3:IntKind.i64.wrap ((P - Q) * nth low j)=(P - Q) * nth low j:=Nn _ (by omega)
     have r4:IntKind.i64.wrap (nth T u+(P - Q) * nth low j)=nth T u+(P - Q) * nth low j:=Nn _ (by omega)
     have r5:(nth T u+(P - Q) * nth low j).tmod P=Z:=by rw [<- hZ];exact Od _ _ (by omega)
     have q1:(0:Int)<=u:=by omega
     have q2:(u:Int)<n:=by omega
     have q4:(j:Int)<d:=by omega
     clear hZ hu hv Hcj
     go_wp2_with fail
     go_still_tail 26,(by kernel_rfl)
     change wpList _ _ _ _ _ wr.drew
     generalize hwd:wr.drew=wd
     have fd:wd.frozen? ⟨ablk a1,aN a1+u,none⟩=false:=by rw [<- hwd];exact ft
     have cd:wd.cell? ⟨ablk a1,aN a1+u,none⟩=some (cG (nth T u)):=by rw [<- hwd];exact ct
     have Hwd:=Z5 hwd
     clear hwd r0' r1 r2 r3 r4 r5
     go_wp2_with fail
     go_roundw
     case rel =>
      obtain rfl:=Hwd.out
      have hdr:bm wr wr.drew:=(Sa wr).drew
      refine ⟨j+1,by omega,by go_num,?_,O.trans ((Sc hdr).trans (Sl _ u _ (by intro e;have:=F (by omega);rw [e] at this;cases this)))⟩
      have h1:=bA (w:=wr.drew) X u hun (cG Z)
      rw [<- Ny,<- Hcj2.out] at h1
      exact h1
     case measure=>simp [intOf]<;>omega
    ·obtain rfl:j=d:=by omega
     obtain ⟨it,mt⟩:=RW X
     have ct:=it.cell t htn
     have ft:=(mt (by omega)).2 t htn
     have F:=it.pl
     go_wp2_with fail
     go_roundw
     case rel =>
      have h1:=bA X t htn (cG 0)
      rw [<- Ny,<- Hrk.out] at h1
      exact ⟨k+1,t - 1,by have:=Htk.out;omega,by omega,by congr 1;omega,h1,O.trans (Sl _ t _ (by intro e;have:=F (by omega);rw [e] at this;cases this))⟩
     case measure=>simp [intOf]<;>omega
  ·have hkf:k=n - d:=by omega
   have I:Hid (Gb P low mod=(yR P low n C k).all λx=>x == 0):=by show _=_;rw [HDB.out,hkf]
   have HlT:Hid ((yR P low n C k).length=n):=by show _=_;rw [Dt];exact HL0
   obtain ⟨N,z⟩:∃N,yR P low n C k=N:=⟨_,rfl⟩
   rw [z] at Y I HlT
   have iC:=(RW Y).1
   have hpC:=iC.pl
   clear z htk hkf Y
   go_wp2_with fail
   go_loop [12] (λD=>∃j:Nat,j<=n/\D = cG j/\Hid ((N.take j).all (λx=>x == 0)=true)) (λD=>n - (intOf D).toNat)
   case atStart=>exact ⟨0,Nb _,rfl,by show _=_;simp⟩
   case round =>
    obtain ⟨j,hj,rfl,hall⟩:=hrel
    by_cases hlt:j<n
    ·have cj:=iC.cell j hlt
     have hjl:j<N.length:=by rw [HlT.out];exact hlt
     by_cases hz:nth N j=0
     ·have hz':(nth N j != 0)=false:=by simpa using hz
      have Hs:Hid ((N.take (j+1)).all (λx=>x == 0)=true):=dE hjl hall.out (by rw [<- an hjl,hz];rfl)
      clear hz
      go_wp2_with fail
      go_round
      case rel=>exact ⟨j+1,by omega,by go_num,Hs⟩
      case measure=>simp [intOf]<;>omega
     ·have hz':(nth N j != 0)=true:=by simpa using hz
      have Hs:Hid (Gb P low mod=false):=by show _=_;rw [I.out];exact dD hjl (by rw [<- an hjl];simpa using hz)
      clear hz
      go_wp2_with fail
      go_ret
      exact ⟨ba Hs.symm,hbk⟩
    ·obtain rfl:j=n:=by omega
     have Hs:Hid (Gb P low mod=true):=by have:=hall.out;rw [Nj (by rw [HlT.out];exact M4 _)] at this;show _=_;rw [I.out,this]
     go_wp2_with fail
     go_ret
     exact ⟨ba Hs.symm,hbk⟩
def MC (P:Int) (mod:Lz) (d q:Nat):Bool:=(List.range q).all λv=>!Gb P (digs v P d) mod
def AA (P:Int) (mod:Lz) (k:Nat):Bool:=(List.range k).all λd=>MC P mod (d+1) (P ^ (d+1)).toNat
def py (P:Int) (mod:Lz):Bool:=AA P mod (mod.length / 2)
theorem ua {p:Nat->Bool} {k:Nat} (h:(List.range k).all p=true) (Z:p k=true):(List.range (k+1)).all p=true:=by rw [Ot,Qh,h];simp [Z]
theorem oN {p:Nat->Bool} {k n:Nat} (Z:k<n) (h:p k=false):(List.range n).all p=false:=by rw [O7];exact ⟨k,List.mem_range.2 Z,by simp [h]⟩
theorem pA (am:OA) (Y cm:Nat) (mod:Lz) (P:Int) (w:ej) (hm:Ints w am Y mod) (hp2:2<=P) (K:P<=256) (hdm:dL P mod) (hmn:Y<=8) (E:P ^ Y<=256) :
  Calls prog 96 #[.slice am Y cm,cG P] w λe w'=>e = .returned (.bool (py P mod))/\SJ w w':=by
 have Hml:=Z5 hm.len;have Hdm:=Z5 hdm;have HP:Hid (∀k,k<=Y->1<=P ^ k/\P ^ k<=256):=λk hk=>⟨by have:=dJ (show 1<=P by omega) (Nb k);rwa [O4] at this,Rl (dJ (show 1<=P by omega) hk) E⟩
 have HI:Hid (py P mod=AA P mod (Y / 2)):=by show _=_;rw [py,hm.len]
 clear hdm E;go_enter func96,ntmps96;go_wp2_with fail;go_loopw [5,6] (λcv dv wr=>∃d:Nat,1<=d/\2 * d<=Y+2/\dv = cG d/\cv = cG (P ^ (d - 1))/\Hid (AA P mod (d - 1)=true)/\SJ w wr) (λ_ dv _=>Y+2 - (intOf dv).toNat);case atStart=>exact ⟨1,by omega,by omega,rfl,by simp,by show _=_;simp [AA],M5 _ _⟩
 case round =>
  obtain ⟨d,X,hd2,rfl,rfl,C,j⟩:=hrel
  by_cases hlt:2 * d<=Y
  ·have hpe:=HP (d - 1) (by omega)
   have z:=HP d (by omega)
   have r:P ^ d=P ^ (d - 1) * P:=by have h1:=N1 P (d - 1);have h2:(d - 1).succ=d:=PQ X;rwa [h2] at h1
   obtain ⟨q,hq⟩:∃q:Nat,P ^ d=q:=⟨(P ^ d).toNat,by omega⟩
   have HQ:Hid (AA P mod d=(AA P mod (d - 1) && MC P mod d q)):=by
    have e1:AA P mod d=(List.range ((d - 1)+1)).all λd=>MC P mod (d+1) (P ^ (d+1)).toNat:=by rw [PQ X];rfl
    show _=_;rw [e1,Ot,Qh];simp only [Qx,List.all_nil,Re];rw [PQ X,hq];rfl
   have Hps:Hid (P ^ (d - 1) * P=(q:Int)):=by show _=_;rw [<- r,hq]
   have hq256:q<=256:=by omega
   have Hq:=Z5 hq
   have H:Hid (∀v:Nat,(digs v P d).length=d):=λv=>bM _ _ _
   have Hdd:Hid (∀v:Nat,dL P (digs v P d)):=λv=>Sz (by omega) _ _
   have Hf0:Hid (∀v:Nat,v<q->Gb P (digs v P d) mod=true->py P mod=false):=λv hv hd=>by rw [HI.out];refine oN (k:=d - 1) (by omega) ?_;rw [PQ X,hq,M9];exact oN hv (by rw [hd];rfl)
   clear r z hq
   obtain ⟨pe,Q⟩:∃pe,P ^ (d - 1)=pe:=⟨_,rfl⟩
   rw [Q] at Hps hpe
   rw [Q]
   have I:=Hps.out
   have hltd:decide (2 * (d:Int)<=Y)=true:=by simp;omega
   have hltn:decide (2 * d<=Y)=true:=by simp;omega
   clear Q
   go_wp2_with fail
   clear I
   go_loopw [7] (λvv wx=>∃v:Nat,v<=q/\vv = cG v/\Hid ((List.range v).all (λv=>!Gb P (digs v P d) mod)=true)/\SJ w wx) (λvv _=>q - (intOf vv).toNat)
   case atStart=>exact ⟨0,Nb _,rfl,by show _=_;simp,j⟩
   case round =>
    obtain ⟨v,hv,rfl,L,A⟩:=hrel
    by_cases hvq:v<q
    ·obtain ⟨D,hD⟩:∃D,digs v P d=D:=⟨_,rfl⟩
     have Hl:=Z5 (H v)
     have Hg:=Z5 (Hdd v)
     have Hf:=Z5 (Hf0 v hvq)
     have HDg:=Z5 (qO v P d wr (by omega) (by omega) (by omega) (by omega))
     rw [hD] at Hl Hg Hf HDg
     have HD:=Z5 hD
     clear hD
     go_wp2_with fail
     refine HDg.mono ?_
     rintro e1 w1 ⟨a1,c1,rfl,Z,hb1⟩
     rw [Hl.out] at Z ⊢
     have hi1:=(RW Z).1
     have O:=RU A hb1
     clear Z
     go_wp2_with fail
     refine (yz a1 d c1 D am Y cm mod P w1 hi1 (hm.ai O) hp2 K Hg.out Hdm.out X (by omega) hmn).mono ?_
     rintro e2 w2 ⟨rfl,hb2⟩
     have N:=RU O hb2
     by_cases U:Gb P D mod=true
     ·have Hf2:=Z5 (Hf U)
      rw [U]
      clear U
      go_wp2_with fail
      go_ret
      exact ⟨ba Hf2.symm,N⟩
     ·have V:Gb P D mod=false:=by simpa using U
      have F:Hid ((List.range (v+1)).all (λv=>!Gb P (digs v P d) mod)=true):=ua L.out (by rw [HD.out,V];rfl)
      rw [V]
      clear U V
      go_wp2_with fail
      go_roundw
      case rel=>exact ⟨v+1,by omega,by go_num,F,N⟩
      case measure=>simp [intOf]<;>omega
    ·obtain rfl:v=q:=by omega
     have F:Hid (AA P mod d=true):=by show _=_;rw [HQ.out,C.out,MC,L.out];rfl
     go_wp2_with fail
     go_roundw
     case rel=>exact ⟨d+1,by omega,by omega,by go_num,by rw [On,Hq.out],F,A⟩
     case measure=>simp [intOf]<;>omega
  ·have F:Hid (py P mod=true):=by show _=_;rw [HI.out,show Y / 2=d - 1 by omega];exact C
   go_wp2_with fail
   go_ret
   exact ⟨ba F.symm,j⟩
def bC (P M:Int) (mod:Lz):Bool:=cF P M mod && (M == 1 || py P mod)
theorem BZ {P M:Int} {mod:Lz} (h:aO P M=0):cF P M mod=false:=by simp [cF,h]
theorem Bm {P M:Int} {mod:Lz} (h:gq P.toNat=false):cF P M mod=false:=by simp [cF,h]
theorem lz (P M:Int) (am:OA) (Y cm:Nat) (mod:Lz) (w:ej) (V:Ints w am Y mod) :
  Calls prog 40 #[.agg #[cG P,cG M,.slice am Y cm]] w λe w'=>e = .returned (cG (cX (bC P M mod)))/\SJ w w':=by
 have Q:=Z5 V.len;have hplm:=V.pl;have hmax:=V.max;unfold maxLen at hmax;go_enter func40,ntmps40;go_wp2_with fail;obtain ⟨W,hW⟩:∃W:ej,W=w.alloc (.cells #[cG P,cG M,.slice am Y cm] 24):=⟨_,rfl⟩
 rw [<- hW];have hbW:SJ w W:=by rw [hW];exact aD _ _
 have x0:aQ W w.heap.size [cG P,cG M,.slice am Y cm]:=by rw [hW];exact RV _ _ _ rfl
 have HX:=Z5 x0;clear hW x0;refine (lf P M am Y cm W).mono ?_;rintro e w1 ⟨rfl,hb1⟩;have Z:=RU hbW hb1;have xU:=HX.ai hb1;have d0:=xU.cell 0 rfl;have d1:=xU.cell 1 rfl;have d2:=xU.cell 2 rfl;have hm1:=(V.ai hbW).ai hb1;clear xU;by_cases ho:aO P M=0
 ·have X:Hid (cX (bC P M mod)=1):=by show _=_;rw [bC,BZ ho];rfl
  rw [ho];clear ho;go_wp2_with fail;go_ret;exact ⟨aK X.symm,Z⟩
 ·obtain ⟨m,rfl,I⟩:=RF.of ho;have hp2:=I.p2;have hp256:=I.p256;have hm1':=I.m1;have hm8:=I.m8;have hoo:(aO P m == 0)=false:=by simpa using ho
  have Ho:=Z5 ho;obtain ⟨p,rfl⟩:∃p:Nat,P=p:=⟨P.toNat,by omega⟩
  clear ho;by_cases L:gq p=true
  ·have Hpr:=Z5 L;have z:=Z5 (sI p w1 (by omega) (by omega));rw [L] at z;clear L;have hsh:cF p m mod=(if (m:Int)=1 then mod.length == 0 else decide ((mod.length:Int)=m) && mod.all λc=>decide (0<=c) && decide (c<p)):=by
    have h1:(aO p m != 0)=true:=by have:=Ho.out;simpa using this
    rw [cF,h1,M9,Hpr.out];rfl
   have Hsh:=Z5 hsh;clear hsh;by_cases hM:m=1
   ·have hM':((m:Int) == 1)=true:=by simp [hM]
    have E:(m:Int)=1:=by omega
    have D:Hid (bC p m mod=(mod.length == 0)):=by show _=_;rw [bC,Hsh.out,M7 E,hM'];simp
    clear hM E;by_cases F:Y=0
    ·have hl':((Y:Int) != 0)=false:=by simp [F]
     have X:Hid (cX (bC p m mod)=0):=by show _=_;rw [D.out,Q.out,F];rfl
     clear F;go_wp2_with (go_at_call 95;refine z.mono ?_;rintro e w2 ⟨rfl,rfl⟩);go_ret;exact ⟨aK X.symm,Z⟩
    ·have hl':((Y:Int) != 0)=true:=by simp;omega
     have X:Hid (cX (bC p m mod)=1):=by
      show _=_;rw [D.out,Q.out];have:(Y == 0)=false:=by simpa using F
      rw [this];rfl
     clear F;go_wp2_with (go_at_call 95;refine z.mono ?_;rintro e w2 ⟨rfl,rfl⟩);go_ret;exact ⟨aK X.symm,Z⟩
   ·have hM':((m:Int) == 1)=false:=by simp;omega
    have E:¬ (m:Int)=1:=by omega
    have D:Hid (bC p m mod=(decide ((mod.length:Int)=m) && (mod.all λc=>decide (0<=c) && decide (c<p)) && py p mod)):=by show _=_;rw [bC,Hsh.out,M8 E,hM'];simp
    clear hM E;by_cases F:Y=m
    ·have hl':((Y:Int) != m)=false:=by simp [F]
     have H:Hid (bC p m mod=((mod.all λc=>decide (0<=c) && decide (c<p)) && py p mod)):=by show _=_;rw [D.out,Q.out,F];simp
     have C:Hid (Y=m):=F;have hmnm:(Y:Int)=m:=by omega
     clear F hmnm;go_wp2_with (go_at_call 95;refine z.mono ?_;rintro e w2 ⟨rfl,rfl⟩);go_loopw [3] (λiv wr=>∃k:Nat,k<=m/\iv = cG k/\Hid ((mod.take k).all (λc=>decide (0<=c) && decide (c<p))=true)/\bm w1 wr) (λiv _=>m - (intOf iv).toNat);case atStart=>exact ⟨0,Nb _,rfl,by show _=_;simp,Sa _⟩
     case round =>
      obtain ⟨k,hk,rfl,hall,hd⟩:=hrel
      have e0:=hd.cell d0
      have e1:=hd.cell d1
      have e2:=hd.cell d2
      have hmr:=hm1.drawn hd
      by_cases hlt:k<m
      ·have A:k<Y:=by rw [C.out];exact hlt
       have ck:=hmr.cell k A
       have U:k<mod.length:=by rw [Q.out];exact A
       have hkmn':(k:Int)<Y:=by omega
       by_cases h0:0<=nth mod k
       ·have t0:decide (nth mod k<0)=false:=by simp;omega
        by_cases h1:nth mod k<p
        ·have t1:decide ((p:Int)<=nth mod k)=false:=by simp;omega
         have Hs:Hid ((mod.take (k+1)).all (λc=>decide (0<=c) && decide (c<p))=true):=dE U hall.out (by rw [<- an U];simp [h0,h1])
         go_wp2_with fail
         go_quiet (fail)
         go_wp2
         go_roundw
         case rel=>exact ⟨k+1,by omega,by go_num,Hs,hd.drewN _⟩
         case measure=>simp [intOf]<;>omega
        ·have t1:decide ((p:Int)<=nth mod k)=true:=by simp;omega
         have X:Hid (cX (bC p m mod)=1):=by show _=_;rw [H.out,dD U (by rw [<- an U];simp [h1])];rfl
         go_wp2_with fail
         go_quiet (fail)
         go_wp2
         go_ret
         exact ⟨aK X.symm,RU Z (hd.drewN _).below⟩
       ·have t0:decide (nth mod k<0)=true:=by simp;omega
        have X:Hid (cX (bC p m mod)=1):=by show _=_;rw [H.out,dD U (by rw [<- an U];simp [h0])];rfl
        go_wp2_with fail
        go_quiet (fail)
        go_wp2
        go_ret
        exact ⟨aK X.symm,RU Z (hd.drewN _).below⟩
      ·obtain rfl:k=m:=by omega
       have Hall:Hid ((mod.all λc=>decide (0<=c) && decide (c<p))=true):=by have:=hall.out;rwa [Nj (by rw [Q.out,C.out];exact M4 _)] at this
       have j:Hid (bC p k mod=py p mod):=by show _=_;rw [H.out,Hall.out];simp
       have hdig:dL (p:Int) mod:=Su (by omega) λx hx=>by have:=List.all_eq_true.1 Hall.out x hx;simpa using this
       have hpw:(p:Int) ^ Y<=256:=by rw [C.out];exact I.pw
       have hmn8:Y<=8:=by rw [C.out];exact hm8
       go_wp2_with fail
       refine (pA am Y cm mod p wr hmr hp2 hp256 hdig hmn8 hpw).mono ?_
       rintro e w4 ⟨rfl,hb4⟩
       have r:=RU (RU Z hd.below) hb4
       by_cases K:py p mod=true
       ·have X:Hid (cX (bC p k mod)=0):=by show _=_;rw [j.out,K];rfl
        rw [K]
        clear K
        go_wp2_with fail
        go_ret
        exact ⟨aK X.symm,r⟩
       ·have O:py p mod=false:=by simpa using K
        have X:Hid (cX (bC p k mod)=1):=by show _=_;rw [j.out,O];rfl
        rw [O]
        clear K O
        go_wp2_with fail
        go_ret
        exact ⟨aK X.symm,r⟩
    ·have hl':((Y:Int) != m)=true:=by simp;omega
     have X:Hid (cX (bC p m mod)=1):=by
      show _=_;rw [D.out,Q.out];have:decide ((Y:Int)=m)=false:=by simp;omega
      rw [this];rfl
     clear F;go_wp2_with (go_at_call 95;refine z.mono ?_;rintro e w2 ⟨rfl,rfl⟩);go_ret;exact ⟨aK X.symm,Z⟩
  ·have N:gq p=false:=by simpa using L
   have X:Hid (cX (bC p m mod)=1):=by show _=_;rw [bC,Bm (by simpa using N)];rfl
   have z:=Z5 (sI p w1 (by omega) (by omega));rw [N] at z;clear L N;go_wp2_with (go_at_call 95;refine z.mono ?_;rintro e w2 ⟨rfl,rfl⟩);go_ret;exact ⟨aK X.symm,Z⟩
section
theorem bK (f:Lz->Lz) (L:ZZ) {i:Nat} (h:i<L.length):aj (L.map f) i=f (aj L i):=by rw [aH (by simpa using h),aH h,Oc]
theorem qF (f:Lz->Lz) (J:ZZ) {t k:Nat} (Y:t<J.length) (Z:k<J.length):aY (J.map f) t k=(aY J t k).map f:=by unfold aY;rw [bK f J Y,bK f J Z,Ny,Ny]
theorem ji (l:Lz) {len k:Nat} (h:k<len):nth (l.take len) k=nth l k:=by unfold nth;simp only [Na,Ol];rw [M7 h]
theorem qN (O:aL) (v u:Lz) (s:Int) (len:Nat):(bZ O v s u).take len=bZ O (v.take len) s (u.take len):=by unfold bZ;rw [Rw]
theorem zj (O:aL) (v u:Lz) (s:Int) (len:Nat):(bZ O v s u).drop len=bZ O (v.drop len) s (u.drop len):=by unfold bZ;rw [List.drop_zipWith]
def I2 (a:OA) (R:Z4) (a2:OA) (S:Z4) (b:Nat):Prop:=bN a R b\/bN a2 S b
structure ef (w:ej) (B:Nat) (a:OA) (n c:Nat) (R:Z4) (a2:OA) (c2:Nat) (S:Z4) (len:Nat) (J:ZZ):Prop where
 om1:aS w B a n c R (J.map (List.take len))
 om2:aS w B a2 n c2 S (J.map (List.drop len))
 dis:∀b,bN a R b->¬ bN a2 S b
namespace ef
variable {w w' w1:ej} {B:Nat} {a:OA} {n c:Nat} {R R':Z4} {a2:OA} {c2:Nat} {S S':Z4} {len:Nat} {J J':ZZ}
theorem lt (h:ef w B a n c R a2 c2 S len J) (b:Nat) (hb:I2 a R a2 S b):B<=b/\b<w.heap.size:=by
 rcases hb with hb | hb
 ·exact h.om1.lt b hb
 ·exact h.om2.lt b hb
theorem new (h:ef w B a n c R a2 c2 S len J) {b:Nat} (hb:w.heap.size<=b):¬ I2 a R a2 S b:=λZ=>by have:=h.lt b Z;omega
theorem ai (h:ef w B a n c R a2 c2 S len J) (hb:SJ w w'):ef w' B a n c R a2 c2 S len J:=⟨h.om1.ai hb,h.om2.ai hb,h.dis⟩
theorem ll (h:ef w B a n c R a2 c2 S len J):J.length=n:=by have:=h.om1.ll;simpa using this
theorem cell (h:ef w B a n c R a2 c2 S len J) {i:Nat} (hi:i<n) (Z:len<=(aj J i).length):w.cell? ⟨ablk a,aN a+i,none⟩=some (.slice (aM R i).1 len (aM R i).2):=by have h1:=h.om1.cell hi;rw [bK _ J (by rw [h.ll];exact hi),NH,QT Z] at h1;exact h1
theorem ints (h:ef w B a n c R a2 c2 S len J) {i:Nat} (hi:i<n) (Z:len<=(aj J i).length):Ints w (aM R i).1 len ((aj J i).take len):=by have h1:=h.om1.ints hi;rw [bK _ J (by rw [h.ll];exact hi),NH,QT Z] at h1;exact h1
theorem Gk (h:ef w B a n c R a2 c2 S len J) (m1:aB w w1 (bN a R) (bN a R')):aS w1 B a2 n c2 S (J.map (List.drop len)) :=
 h.om2.bf λb hb=>m1.block b (h.om2.lt b hb).2 λhI=>h.dis b hI hb
theorem Gn {V U:ZZ} (h:ef w B a n c R a2 c2 S len J) (m1:aB w w1 (bN a R) (bN a R')) (o1:aS w1 B a n c R' V) (Z:aB w1 w' (bN a2 S) (bN a2 S')) (o2:aS w' B a2 n c2 S' U)
  (e1:V=J'.map (List.take len)) (Q:U=J'.map (List.drop len)):ef w' B a n c R' a2 c2 S' len J'/\aB w w' (I2 a R a2 S) (I2 a R' a2 S'):=by
 subst e1 Q;have O:=m1.size;have Y:∀b,bN a R' b->¬ bN a2 S b:=λb hb hS=>by
  rcases m1.grow b hb with h1 | h1
  ·exact h.dis b h1 hS
  ·have:=(h.om2.lt b hS).2;omega
 refine ⟨⟨o1.bf λb hb=>Z.block b (o1.lt b hb).2 (Y b hb),o2,λb hb X=>?_⟩,⟨Z.os.trans m1.os,Z.tape.trans m1.tape,Z.output.trans m1.output,Np m1.size Z.size,λb hb hI=>?_,λb hb=>?_⟩⟩
 ·rcases Z.grow b X with h1 | h1
  ·exact Y b hb h1
  ·have:=(o1.lt b hb).2;omega
 ·rw [Z.block b (by omega) λh1=>hI (.inr h1)];exact m1.block b hb λh1=>hI (.inl h1)
 ·rcases hb with hb | hb
  ·rcases m1.grow b hb with h1 | h1
   ·exact .inl (.inl h1)
   ·exact .inr h1
  ·rcases Z.grow b hb with h1 | h1
   ·exact .inl (.inr h1)
   ·exact .inr (by omega)
end ef
theorem B3 {w:ej} (Z Y:Value) (p q:Nat) (a:OA) (n c:Nat) (a2:OA) (V c2:Nat) (X:ej->Prop) (h1:w.cell? ⟨p,0,none⟩=some (.slice a n c)) (N:0<V) (K:V<=1000000)
  (U:Calls prog 254 #[.slice a n c,Z,Y] w λe w1=>e = .returned (.tuple #[])/\w1.cell? ⟨q,0,none⟩=some (.slice a2 V c2) /\
   Calls prog 254 #[.slice a2 V c2,Z,Y] w1 λe w'=>e = .returned (.tuple #[])/\X w') :
  Calls prog 253 #[.func (.func 254) #[] #[Z,Y],ea p 0,ea q 0] w
   λe w'=>e = .returned (.tuple #[])/\X w':=by
 have I:=Z5 U;have H:decide ((0:Int)<V)=true:=by simp;omega
 clear U;go_enter func253,ntmps253;go_wp2_with fail;refine I.mono ?_;rintro e w1 ⟨rfl,E,Q⟩;have L:=Z5 Q;clear Q;go_wp2_with fail;refine L.mono ?_;rintro e F ⟨rfl,O⟩;go_wp2_with fail;go_end0;exact ⟨rfl,O⟩
theorem Cl {w:ej} (Z V Y:Value) (p q:Nat) (a:OA) (n c:Nat) (a2:OA) (U c2:Nat) (X:ej->Prop) (h1:w.cell? ⟨p,0,none⟩=some (.slice a n c)) (K:0<U) (N:U<=1000000)
  (Q:Calls prog 255 #[.slice a n c,Z,V,Y] w λe w1=>e = .returned (.tuple #[])/\w1.cell? ⟨q,0,none⟩=some (.slice a2 U c2) /\
   Calls prog 255 #[.slice a2 U c2,Z,V,Y] w1 λe w'=>e = .returned (.tuple #[])/\X w') :
  Calls prog 253 #[.func (.func 255) #[] #[Z,V,Y],ea p 0,ea q 0] w
   λe w'=>e = .returned (.tuple #[])/\X w':=by
 have I:=Z5 Q;have H:decide ((0:Int)<U)=true:=by simp;omega
 clear Q;go_enter func253,ntmps253;go_wp2_with fail;refine I.mono ?_;rintro e w1 ⟨rfl,D,O⟩;have F:=Z5 O;clear O;go_wp2_with fail;refine F.mono ?_;rintro e E ⟨rfl,L⟩;go_wp2_with fail;go_end0;exact ⟨rfl,L⟩
theorem CD {w:ej} (Z U V Y:Value) (p q:Nat) (a:OA) (n c:Nat) (a2:OA) (Q c2:Nat) (X:ej->Prop) (h1:w.cell? ⟨p,0,none⟩=some (.slice a n c)) (I:0<Q) (L:Q<=1000000)
  (O:Calls prog 256 #[.slice a n c,Z,U,V,Y] w λe w1=>e = .returned (.tuple #[])/\w1.cell? ⟨q,0,none⟩=some (.slice a2 Q c2) /\
   Calls prog 256 #[.slice a2 Q c2,Z,U,V,Y] w1 λe w'=>e = .returned (.tuple #[])/\X w') :
  Calls prog 253 #[.func (.func 256) #[] #[Z,U,V,Y],ea p 0,ea q 0] w
   λe w'=>e = .returned (.tuple #[])/\X w':=by
 have H:=Z5 O;have F:decide ((0:Int)<Q)=true:=by simp;omega
 clear O;go_enter func253,ntmps253;go_wp2_with fail;refine H.mono ?_;rintro e w1 ⟨rfl,C,N⟩;have E:=Z5 N;clear N;go_wp2_with fail;refine E.mono ?_;rintro e D ⟨rfl,K⟩;go_wp2_with fail;go_end0;exact ⟨rfl,K⟩
variable {w:ej} {b:Nat} {G:bX}
theorem E9 (B:Nat) (a:OA) (n c:Nat) (R:Z4) (a2:OA) (c2:Nat) (S:Z4) (len:Nat) (J:ZZ) (p q X V k t:Nat) (Q:ef w B a n c R a2 c2 S len J)
  (H:w.cell? ⟨p,0,none⟩=some (.slice a n c)) (I:w.cell? ⟨q,0,none⟩=some (.slice a2 n c2)) (nq:¬ I2 a R a2 S q)
  (K:w.cell? ⟨X,0,none⟩=some (cG k)) (L:w.cell? ⟨V,0,none⟩=some (cG t)) (U:k<n) (Z:t<n) (Y:k ≠ t) (O:¬ I2 a R a2 S X) (N:¬ I2 a R a2 S V) (E:n<=1000000) :
  Calls prog 253 #[.func (.func 254) #[] #[ea X 0,ea V 0],ea p 0,ea q 0] w
   λe w'=>e = .returned (.tuple #[])/\∃R' S',ef w' B a n c R' a2 c2 S' len (aY J t k)/\aB w w' (I2 a R a2 S) (I2 a R' a2 S'):=by have C:=Q.ll;refine B3 _ _ p q a n c a2 n c2 _ H (by omega) (by omega) ((tM B a n c R _ X V k t Q.om1 K L U Z Y (λh=>O (.inl h)) (λh=>N (.inl h))).mono ?_);rintro e w1 ⟨rfl,R',o1,m1⟩;refine ⟨rfl,m1.cell I (λh=>nq (.inl h)),(tM B a2 n c2 S _ X V k t (Q.Gk m1) (m1.cell K (λh=>O (.inl h))) (m1.cell L (λh=>N (.inl h))) U Z Y (λh=>O (.inr h)) (λh=>N (.inr h))).mono ?_⟩;rintro e D ⟨rfl,S',o2,F⟩;exact ⟨rfl,R',S',Q.Gn m1 o1 F o2 (qF _ J (by omega) (by omega)) (qF _ J (by omega) (by omega))⟩
theorem CJ (Y:ej) (a:OA) (n c:Nat) (R:Z4) (a2:OA) (c2:Nat) (S:Z4) (len m:Nat) (J:ZZ) (p q U Q N:Nat) (s:Int) (t:Nat) (X:ef w Y.heap.size a n c R a2 c2 S len J)
  (j:w.cell? ⟨p,0,none⟩=some (.slice a n c)) (A:w.cell? ⟨q,0,none⟩=some (.slice a2 n c2)) (nq:¬ I2 a R a2 S q)
  (h:dg Y b G) (hb:SJ Y w)
  (F:w.cell? ⟨U,0,none⟩=some (ea b 0)) (E:w.cell? ⟨Q,0,none⟩=some (cG s)) (D:w.cell? ⟨N,0,none⟩=some (cG t)) (V:t<n) (L:G.El s)
  (r:¬ I2 a R a2 S U) (ns:¬ I2 a R a2 S Q) (C:¬ I2 a R a2 S N) (O:G.vn (aj J t)) (z:(aj J t).length<=1000000) (hn:n<=1000000) :
  Calls prog 253 #[.func (.func 255) #[] #[ea U 0,ea Q 0,ea N 0],ea p 0,ea q 0] w
   λe w'=>e = .returned (.tuple #[])/\∃R' S',ef w' Y.heap.size a n c R' a2 c2 S' len (J.set t ((aj J t).map (G.mul s)))/\aB w w' (I2 a R a2 S) (I2 a R' a2 S'):=by
 have hJ:=X.ll;have Z:t<J.length:=by omega
 refine Cl _ _ _ p q a n c a2 n c2 _ j (by omega) (by omega) ((pr Y a n c R _ U Q N s t X.om1 h hb F E D V L (by rw [bK _ J Z];exact λx H=>O x (N9 H)) (by rw [bK _ J Z,NH];omega)).mono ?_);rintro e w1 ⟨rfl,R',o1,m1⟩;have K:SJ Y w1:=hb.trans (m1.below (λb' I=>(X.om1.lt b' I).1) hb.size);refine ⟨rfl,m1.cell A (λh=>nq (.inl h)),(pr Y a2 n c2 S _ U Q N s t (X.Gk m1) h K (m1.cell F (λh=>r (.inl h))) (m1.cell E (λh=>ns (.inl h))) (m1.cell D (λh=>C (.inl h))) V L (by rw [bK _ J Z];exact λx H=>O x (PA H)) (by rw [bK _ J Z,OK];omega)).mono ?_⟩;rintro e w2 ⟨rfl,S',o2,m2⟩;exact ⟨rfl,R',S',X.Gn m1 o1 m2 o2 (by rw [bK _ J Z,Ny,List.map_take]) (by rw [bK _ J Z,Ny,List.map_drop])⟩
theorem CA (V:ej) (a:OA) (n c:Nat) (R:Z4) (a2:OA) (c2:Nat) (S:Z4) (len m:Nat) (J:ZZ) (p q I pi L F:Nat) (i:Nat) (x:Int) (t:Nat) (U:ef w V.heap.size a n c R a2 c2 S len J)
  (hp:w.cell? ⟨p,0,none⟩=some (.slice a n c)) (hq:w.cell? ⟨q,0,none⟩=some (.slice a2 n c2)) (nq:¬ I2 a R a2 S q)
  (h:dg V b G) (hb:SJ V w)
  (j:w.cell? ⟨I,0,none⟩=some (ea b 0)) (hi:w.cell? ⟨pi,0,none⟩=some (cG i)) (X:w.cell? ⟨L,0,none⟩=some (cG x)) (ht:w.cell? ⟨F,0,none⟩=some (cG t))
  (O:i<n) (Q:t<n) (H:i ≠ t) (N:G.El x) (z:¬ I2 a R a2 S I) (E:¬ I2 a R a2 S pi) (r:¬ I2 a R a2 S L) (C:¬ I2 a R a2 S F) (K:G.vn (aj J i)) (het:G.vn (aj J t)) (hli:(aj J i).length=m) (hlt:(aj J t).length=m) (hlm:len<=m) (hn:n<=1000000) :
  Calls prog 253 #[.func (.func 256) #[] #[ea I 0,ea pi 0,ea L 0,ea F 0],ea p 0,ea q 0] w
   λe w'=>e = .returned (.tuple #[])/\ef w' V.heap.size a n c R a2 c2 S len (J.set i (bZ G.ops (aj J i) (G.neg x) (aj J t)))/\aB w w' (I2 a R a2 S) (I2 a R a2 S):=by
 have hJ:=U.ll;have Y:t<J.length:=by omega
 have Z:i<J.length:=by omega
 refine CD _ _ _ _ p q a n c a2 n c2 _ hp (by omega) (by omega) ((pF V a n c R _ I pi L F len i x t U.om1 h hb j hi X ht O Q H N (λh=>z (.inl h)) (λh=>E (.inl h)) (λh=>r (.inl h)) (λh=>C (.inl h))
  (by rw [bK _ J Z];exact λx X=>K x (N9 X)) (by rw [bK _ J Y];exact λx X=>het x (N9 X)) (by rw [bK _ J Z,NH];omega) (by rw [bK _ J Y,NH];omega)).mono ?_)
 rintro e w1 ⟨rfl,o1,m1⟩;have D:SJ V w1:=hb.trans (m1.below (λb' A=>(U.om1.lt b' A).1) hb.size);refine ⟨rfl,m1.cell hq (λh=>nq (.inl h)),(pF V a2 n c2 S _ I pi L F (m - len) i x t (U.Gk m1) h D (m1.cell j (λh=>z (.inl h))) (m1.cell hi (λh=>E (.inl h))) (m1.cell X (λh=>r (.inl h))) (m1.cell ht (λh=>C (.inl h))) O Q H N
  (λh=>z (.inr h)) (λh=>E (.inr h)) (λh=>r (.inr h)) (λh=>C (.inr h))
  (by rw [bK _ J Z];exact λx X=>K x (PA X)) (by rw [bK _ J Y];exact λx X=>het x (PA X)) (by rw [bK _ J Z,OK];omega) (by rw [bK _ J Y,OK];omega)).mono ?_⟩
 rintro e w2 ⟨rfl,o2,m2⟩;exact ⟨rfl,U.Gn m1 o1 m2 o2 (by rw [bK _ J Z,bK _ J Y,Ny,qN]) (by rw [bK _ J Z,bK _ J Y,Ny,zj])⟩
end
section
variable {w:ej} {b:Nat} {G:bX}
theorem ef.bf {w':ej} {B:Nat} {a:OA} {n c:Nat} {R:Z4} {a2:OA} {c2:Nat} {S:Z4} {len:Nat} {J:ZZ} (h:ef w B a n c R a2 c2 S len J) (hb:∀b,I2 a R a2 S b->w'.heap[b]? = w.heap[b]?):ef w' B a n c R a2 c2 S len J :=
 ⟨h.om1.bf λb Z=>hb b (.inl Z),h.om2.bf λb Z=>hb b (.inr Z),h.dis⟩
def vQ (Y:ej) (a:OA) (n c:Nat) (R:Z4) (Z:OA) (ce:Nat) (S:Z4) (len:Nat) (L:ZZ) (m:Nat) (G:bX) (w:ej) (e:Ending) (w':ej):Prop :=
 ∃R' S' ap cp d,e = ec #[.slice ap (aE G.ops L m).2.length cp,cG d]/\ef w' Y.heap.size a n c R' Z ce S' len (aE G.ops L m).1 /\
  w'.ownsRow w.heap.size 3 1 (.slice ap (aE G.ops L m).2.length cp) (aE G.ops L m).2.length ((aE G.ops L m).2.map (Value.int .i64))/\aB w w' (I2 a R Z S) (I2 a R' Z S')/\SJ Y w'
theorem rU (w0:ej) (a:OA) (n c m len tot:Nat) (R:Z4) (Z:OA) (ce:Nat) (S:Z4) (L:ZZ) (h:dg w0 b G) (hb:SJ w0 w) (hO:ef w w0.heap.size a n c R Z ce S len L)
  (hR:bz G.El tot L) (hml:m<=len) (hlt:len<=tot) (hlen:tot<=1000000) (hn:n<=1000000) :
  Calls prog 223 #[ea b 0,.slice a n c,cG m,.slice Z n ce] w (vQ w0 a n c R Z ce S len L m G w):=by
 have hfin:∀w' R' S' ap cp d Lk P,(Lk,P)=aE G.ops L m->ef w' w0.heap.size a n c R' Z ce S' len Lk->w'.ownsRow w.heap.size 3 1 (.slice ap P.length cp) P.length (P.map (Value.int .i64))->aB w w' (I2 a R Z S) (I2 a R' Z S') ->
   vQ w0 a n c R Z ce S len L m G w (ec #[.slice ap P.length cp,cG d]) w':=by
  intro w' R' S' ap cp d Lk P he h1 h2 h3;have e1:(aE G.ops L m).1=Lk:=by rw [<- he]
  have e2:(aE G.ops L m).2=P:=by rw [<- he]
  refine ⟨R',S',ap,cp,d,?_,?_,?_,h3,hb.trans (h3.below (λb' Q=>(hO.lt b' Q).1) hb.size)⟩
  ·rw [e2]
  ·rw [e1];exact h1
  ·rw [e2];exact h2
 have Hfin:=Z5 hfin;clear hfin;have hpl:=hO.om1.pl;have hGe:G.El 1:=⟨by omega,by have:=h.q2;omega⟩
 have hal:=((M5 w.heap.size w).alloc (M4 _) (.cells #[ea b 0] 79))
 go_enter func223,ntmps223;have hmf:∀(fn:Fn) (first cap:Array Value) (w:ej),(Instr.makeFunc fn first cap).run prog w = .ok (.func fn first cap) w:=λ_ _ _ _=>rfl;go_wp2_with fail;obtain ⟨W0,hW0⟩:∃W0:ej,W0=((w.alloc (.cells #[ea b 0] 79)).alloc (.cells #[.slice a n c] 25)).alloc (.cells #[.slice Z n ce] 25):=⟨_,rfl⟩
 rw [<- hW0];have hbW0:SJ w W0:=by rw [hW0];exact ((hal.alloc (by simp) _).alloc (by simp;omega) _)
 have hsW0:w.heap.size+1+1+1=W0.heap.size:=by rw [hW0];simp
 have q0:W0.cell? ⟨w.heap.size,0,none⟩=some (ea b 0):=by rw [hW0];exact aU (aU (bh _ _ _) _) _
 have q1:W0.cell? ⟨w.heap.size+1,0,none⟩=some (.slice a n c):=by rw [hW0];exact aU (dB _ _ _ (by simp)) _
 have q2:W0.cell? ⟨w.heap.size+1+1,0,none⟩=some (.slice Z n ce):=by rw [hW0];exact dB _ _ _ (by simp)
 have HsW0:=Z5 hsW0;clear hsW0 hW0 hal;go_loopw [10,12,13] (λdv pv cv wr=>∃(k:Nat) (R':Z4) (S':Z4) (ap:OA) (cp:Nat) (d:Int) (Lk:ZZ) (P:Lz),k<=m/\cv = cG k/\pv = .slice ap P.length cp/\dv = cG d /\
   Hid ((Lk,P)=aE G.ops L k)/\ef wr w0.heap.size a n c R' Z ce S' len Lk/\wr.ownsRow (w.heap.size+1+1+1) 3 1 (.slice ap P.length cp) P.length (P.map (Value.int .i64))/\Hid (ap ≠ none->¬ I2 a R' Z S' (ablk ap)) /\
   aB W0 wr (I2 a R Z S) (I2 a R' Z S')/\bz G.El tot Lk/\G.El d/\P.length<=n)
  (λ_ _ cv _=>m - (intOf cv).toNat)
 case atStart =>
  exact ⟨0,R,S,none,0,1,L,[],Nb _,rfl,rfl,rfl,rfl,hO.ai hbW0,cJ,λh=>absurd rfl h,Sb _ _,hR,hGe,Nb _⟩
 case round =>
  obtain ⟨k,R',S',ap,cp,d,Lk,P,hkm,rfl,rfl,rfl,hst,hOr,hop,hoi,hmv,hrw,hde,hPn⟩:=hrel
  generalize wr=V at *
  have r0:=hmv.cell q0 (hO.new (M4 _))
  have r1:=hmv.cell q1 (hO.new (by simp))
  have r2:=hmv.cell q2 (hO.new (by simp;omega))
  have hmw:aB w V (I2 a R Z S) (I2 a R' Z S'):=(RZ hbW0 _).trans hmv
  have hLkn:Lk.length=n:=hOr.ll
  have K:=Z5 hLkn
  clear hLkn
  by_cases hk:k<m
  ·by_cases C:P.length<n
   ·have hPl':(P.length:Int)<n:=by omega
    have hk':(k:Int)<m:=by omega
    go_wp2_with fail
    obtain ⟨Y,hY⟩:∃Y:ej,Y=(V.alloc (.cells #[cG P.length] 3)).alloc (.cells #[cG P.length] 3):=⟨_,rfl⟩
    rw [<- hY]
    have hbY:SJ V Y:=by rw [hY];exact ((M5 _ _).alloc (M4 _) _).alloc (by simp) _
    have hYs:Y.heap.size=V.heap.size+2:=by rw [hY];simp
    have yt:Y.cell? ⟨V.heap.size,0,none⟩=some (cG P.length):=by rw [hY];exact aU (bh _ _ _) _
    have yk:Y.cell? ⟨V.heap.size+1,0,none⟩=some (cG P.length):=by rw [hY];exact dB _ _ _ (by simp)
    have yf:Y.frozen? ⟨V.heap.size+1,0,none⟩=false:=by rw [hY];simp
    have HYs:=Z5 hYs
    have HPn:=Z5 hPn
    clear hY hYs
    go_loopw [] (λwx=>∃j:Nat,P.length<=j/\j<=n/\Hid (aZ Lk k P.length=aZ Lk k j)/\wx.cell? ⟨V.heap.size+1,0,none⟩=some (cG j)/\wx.frozen? ⟨V.heap.size+1,0,none⟩=false/\Below (V.heap.size+1) Y wx)
     (λwx=>n - (intOf ((wx.cell? ⟨V.heap.size+1,0,none⟩).getD undef)).toNat)
    case atStart=>exact ⟨P.length,M4 _,hPn,rfl,yk,yf,M5 _ _⟩
    case round =>
     obtain ⟨j,hj1,hj2,hfr,kx,kf,hYx⟩:=hrel
     have hbx:SJ V wr:=hbY.trans (hYx.mono (by omega))
     have hOx:=hOr.ai hbx
     have x0:=aC hbx r0
     have x1:=aC hbx r1
     have x2:=aC hbx r2
     have xt:wr.cell? ⟨V.heap.size,0,none⟩=some (cG P.length):=(hYx.cell (by simp)).trans yt
     by_cases hjn:j<n
     ·have hLj:j<Lk.length:=by rw [K.out];exact hjn
      have hrow:=hrw.row hLj
      have ci:=hOx.cell hjn (by rw [hrow.1];exact hlt)
      have ri:=hOx.ints hjn (by rw [hrow.1];exact hlt)
      have ck:=ri.cell k (by omega)
      rw [ji _ (show k<len by omega)] at ck
      have hpr:=ri.pl
      have hkl:(k:Int)<len:=by omega
      have hfs:=fP (c:=k) hLj
      by_cases hz:nth (aj Lk j) k=0
      ·rw [M7 hz] at hfs
       have hz':(nth (aj Lk j) k == 0)=true:=by simpa using hz
       have Hf:Hid (aZ Lk k P.length=aZ Lk k (j+1)):=by show _=_;rw [hfr.out,hfs]
       clear hz hfs hrow
       go_wp2_with fail
       go_roundw
       case rel =>
        refine ⟨j+1,by omega,by omega,Hf,Ns _ _ _ kx,by rw [NY];exact kf,hYx.setCell (by simp) _⟩
       case measure=>rw [Ns _ _ _ kx,kx];simp [intOf]<;>omega
      ·rw [M8 hz] at hfs
       have hz':(nth (aj Lk j) k == 0)=false:=by simpa using hz
       have Hf:Hid (aZ Lk k P.length=j):=by show _=_;rw [hfr.out,hfs]
       have hjn':((j:Int) == n)=false:=by simp;omega
       have Hz:=Z5 hz
       clear hz
       have Hrow:=Z5 hrow
       clear hfs hrow
       have n0:¬ I2 a R' Z S' w.heap.size:=hmv.not (by have:=HsW0.out;omega) (hO.new (M4 _))
       have n1:¬ I2 a R' Z S' (w.heap.size+1):=hmv.not (by have:=HsW0.out;omega) (hO.new (by omega))
       have n2:¬ I2 a R' Z S' (w.heap.size+1+1):=hmv.not (by have:=HsW0.out;omega) (hO.new (by omega))
       have nt:¬ I2 a R' Z S' V.heap.size:=hOr.new (M4 _)
       have nk:¬ I2 a R' Z S' (V.heap.size+1):=hOr.new (by omega)
       have D:SJ w0 wr:=hb.trans (aB.below (hmw.trans (RZ hbx _)) (λb' Q=>(hO.lt b' Q).1) hb.size)
       have HN:=Z5 (Ng n0 (Ng n1 (Ng n2 (Ng nt nk))))
       clear n0 n1 n2 nt nk
       go_upto_if 58 with fail
       go_cut [10] (λdv wx=>∃(d':Int) (I:Z4) (S1:Z4),dv = cG d'/\G.El d'/\ef wx w0.heap.size a n c I Z ce S1 len (if j=P.length then Lk else aY Lk P.length j)/\aB wr wx (I2 a R' Z S') (I2 a I Z S1))
       case first =>
        by_cases hjt:j=P.length
        ·have hjt':((j:Int) != P.length)=false:=by simp [hjt]
         have Hm:Hid ((if j=P.length then Lk else aY Lk P.length j)=Lk):=M7 hjt
         clear hjt
         go_wp2_with fail
         go_meet
         exact ⟨d,R',S',rfl,hde,by rw [Hm.out];exact hOx,Sb _ _⟩
        ·have hjt':((j:Int) != P.length)=true:=by simp;omega
         have Hm:Hid ((if j=P.length then Lk else aY Lk P.length j)=aY Lk P.length j):=M8 hjt
         have hea:=E9 w0.heap.size a n c R' Z ce S' len Lk (w.heap.size+1) (w.heap.size+1+1) (V.heap.size+1) V.heap.size j P.length hOx x1 x2 HN.2.2.1 kx xt hjn C hjt HN.2.2.2.2 HN.2.2.2.1 hn
         have Hea:=Z5 hea
         clear hjt hea
         go_wp2_with fail
         refine Hea.mono ?_
         rintro e w5 ⟨rfl,I,S1,hO5,hM5⟩
         have z0:=hM5.cell x0 HN.1
         have hb5:SJ w0 w5:=D.trans (hM5.below (λb' Q=>(hOx.lt b' Q).1) D.size)
         go_wp2_with fail
         refine (Jo d (h.ai hb5) hde).mono ?_
         rintro e w6 ⟨m6,rfl,rfl⟩
         go_wp2_with fail
         go_meet
         exact ⟨_,I,S1,rfl,bX.uc h d,by rw [Hm.out];exact hO5.ai (below_drewN (M5 _ _) m6),hM5.trans (RZ (below_drewN (M5 _ _) m6) _)⟩
       obtain ⟨d',I,S1,rfl,hde',hO1,H⟩:=hcut
       generalize wc=U at *
       obtain ⟨hrw1,hl1,hnz1⟩:=bz.flip (t:=P.length) hrw K.out C hjn Hz.out
       have c0:=H.cell x0 HN.1
       have c1:=H.cell x1 HN.2.1
       have c2:=H.cell x2 HN.2.2.1
       have ct:=H.cell xt HN.2.2.2.1
       have m0:¬ I2 a I Z S1 w.heap.size:=H.not (Nf wr _ x0) HN.1
       have m1:¬ I2 a I Z S1 (w.heap.size+1):=H.not (Nf wr _ x1) HN.2.1
       have m2:¬ I2 a I Z S1 (w.heap.size+1+1):=H.not (Nf wr _ x2) HN.2.2.1
       have mt:¬ I2 a I Z S1 V.heap.size:=H.not (Nf wr _ xt) HN.2.2.2.1
       have hc0:SJ w0 U:=D.trans (H.below (λb' Q=>(hOx.lt b' Q).1) D.size)
       have HM:=Z5 (Ng m0 (Ng m1 (Ng m2 mt)))
       have HL1:Hid (eo G.ops Lk P.length j k=clearTo G.ops P.length k (bs G.ops (if j=P.length then Lk else aY Lk P.length j) P.length k) n):=by show _=_;rw [gV,K.out]
       generalize (if j=P.length then Lk else aY Lk P.length j)=z at *
       have O:=hrw1.row (i:=P.length) (by omega)
       have tr:=hO1.cell C (by rw [O.1];exact hlt)
       have ti:=hO1.ints C (by rw [O.1];exact hlt)
       have tc:=ti.cell k (by omega)
       rw [ji _ (show k<len by omega)] at tc
       have tp:=ti.pl
       have hkl:(k:Int)<len:=by omega
       have hel:G.El (nth (aj z P.length) k):=O.2 _ (aG (by rw [O.1];omega))
       have hG1:=h.ai hc0
       have HG1:Hid (dg U.drew b G/\(∀n,dg (U.drewN n) b G)/\∀n,dg ((U.drewN n).alloc (.cells #[cG 0] 3)) b G) :=
        ⟨hG1.ai (M5 _ _).drew,λn=>hG1.drewN n,λn=>(hG1.drewN n).ai ((M5 _ _).alloc (M4 _) _)⟩
       have Hnz:=Z5 hnz1
       have Hl1:=Z5 hl1
       have Hrow1:=Z5 O
       clear O hl1 hnz1 m0 m1 m2 mt x0 x1 x2 xt kx kf ci ri ck hpr r0 r1 r2 yt yk yf q0 q1 q2
       go_upto_region 15 with fail
       go_cut [10] (λdv wx=>∃d2:Int,dv = cG d2/\G.El d2/\bm U wx)
       case first =>
        go_region_held3 (λw'=>w'.cell? ⟨w.heap.size,0,none⟩=some (ea b 0)/\w'.cell? ⟨w.heap.size+1,0,none⟩=some (.slice a n c)/\w'.cell? ⟨V.heap.size,0,none⟩=some (cG P.length) /\
          w'.cell? ⟨ablk a,aN a+P.length,none⟩=some (.slice (aM I P.length).1 len (aM I P.length).2)/\w'.cell? ⟨ablk (aM I P.length).1,aN (aM I P.length).1+k,none⟩=some (cG (nth (aj z P.length) k)))
         (exact ⟨c0,c1,ct,tr,tc⟩)
         (first
         | (go_at_call 57;((with_reducible refine (lp d' _ HG1.out.1 hde' hel).mono ?_);rintro e w4 ⟨m4,rfl,rfl⟩)))
        all_goals (
         go_step;go_step
         go_meet
         exact ⟨_,rfl,Sr h _ _,⟨_,rfl⟩⟩)
       obtain ⟨d2,rfl,hde2,m5,rfl⟩:=hcut
       have hS : ∀ W, SJ U W → W.cell? ⟨w.heap.size, 0, none⟩ = some (.pointer (some ⟨b, 0, none⟩)) ∧ W.cell? ⟨w.heap.size + 1, 0, none⟩ = some (.slice a n c) ∧ W.cell? ⟨V.heap.size, 0, none⟩ = some (cG P.length) ∧
             W.cell? ⟨ablk a,aN a+P.length,none⟩=some (.slice (aM I P.length).1 len (aM I P.length).2)/\W.cell? ⟨ablk (aM I P.length).1,aN (aM I P.length).1+k,none⟩=some (cG (nth (aj z P.length) k))/\SJ U W :=
        λW hW=>⟨aC hW c0,aC hW c1,aC hW ct,aC hW tr,aC hW tc,hW⟩
       have HS:=Z5 hS
       clear hS
       go_upto_region 16 with fail
       go_cut [16,17] (λiv ev wx=>∃gi,iv = ea gi 0/\U.heap.size<=gi/\ev = cG 0/\wx.cell? ⟨gi,0,none⟩=some (cG (G.inv (nth (aj z P.length) k)))/\SJ U wx)
       case first =>
        have hBU:SJ U (U.drewN m5):=below_drewN (M5 _ _) m5
        have hfc:∀k,((U.drewN k).alloc (.cells #[cG 0] 3)).cell? ⟨U.heap.size,0,none⟩=some (cG 0):=λk=>bh (U.drewN k) _ _
        have hfc2:∀k k',(((U.drewN k).alloc (.cells #[cG 0] 3)).drewN k').cell? ⟨U.heap.size,0,none⟩=some (cG 0):=λk _=>bh (U.drewN k) _ _
        have hff2:∀k k',(((U.drewN k).alloc (.cells #[cG 0] 3)).drewN k').frozen? ⟨U.heap.size,0,none⟩=false:=λk _=>lj (U.drewN k) _ _
        have hff:∀k,((U.drewN k).alloc (.cells #[cG 0] 3)).frozen? ⟨U.heap.size,0,none⟩=false:=λk=>lj (U.drewN k) _ _
        go_region_held3 (λW=>W.cell? ⟨w.heap.size,0,none⟩=some (ea b 0)/\W.cell? ⟨w.heap.size+1,0,none⟩=some (.slice a n c)/\W.cell? ⟨V.heap.size,0,none⟩=some (cG P.length) /\
          W.cell? ⟨ablk a,aN a+P.length,none⟩=some (.slice (aM I P.length).1 len (aM I P.length).2)/\W.cell? ⟨ablk (aM I P.length).1,aN (aM I P.length).1+k,none⟩=some (cG (nth (aj z P.length) k))/\SJ U W)
         ((refine HS _ ?_;first|exact hBU.drew|exact below_drewN (M5 _ _) _|exact (below_drewN (M5 _ _) _).alloc (M4 _) _|exact ((below_drewN (M5 _ _) _).alloc (M4 _) _).setCell (M4 _) _|exact below_drewN ((below_drewN (M5 _ _) _).alloc (M4 _) _) _|exact (below_drewN ((below_drewN (M5 _ _) _).alloc (M4 _) _) _).setCell (M4 _) _))
         (first
         | (go_at_call 201;((with_reducible refine (Af _ (HG1.out.2.1 _) hel Hnz.out).mono ?_);rintro e w4 ⟨m4,rfl,rfl⟩))
         | (go_at_call 201;((with_reducible refine (Af _ (HG1.out.2.2 _) hel Hnz.out).mono ?_);rintro e w4 ⟨m4,rfl,rfl⟩)))
        all_goals (
         go_step;go_step
         go_meet)
        ·exact ⟨U.heap.size,rfl,M4 _,rfl,Ns _ _ _ (hfc _),((below_drewN (M5 _ _) _).alloc (M4 _) _).setCell (M4 _) _⟩
        ·exact ⟨U.heap.size,rfl,M4 _,rfl,Ns _ _ _ (hfc2 _ _),(below_drewN ((below_drewN (M5 _ _) _).alloc (M4 _) _) _).setCell (M4 _) _⟩
       obtain ⟨gi,rfl,hgi,rfl,ig,hbi⟩:=hcut
       obtain ⟨i0,i1,it,ir,ic,_⟩:=HS wc hbi
       have i2:=aC hbi c2
       have N:=hO1.ai hbi
       have hci:SJ w0 wc:=NK hc0 (hbi.mono hc0.size)
       have hrw2:=hrw1.norm (Sk h) (t:=P.length) (c:=k) (by rw [Hl1.out];exact C) (by omega) Hnz.out
       have hl2:(bs G.ops z P.length k).length=n:=by rw [di];exact Hl1
       have Hl2:=Z5 hl2
       clear hl2
       go_upto_if 92 with fail
       go_cut [] (λwx=>∃R2 r,ef wx w0.heap.size a n c R2 Z ce r len (bs G.ops z P.length k)/\aB U wx (I2 a I Z S1) (I2 a R2 Z r))
       case first =>
        have hv:G.ops.inv (nth (aj z P.length) k)=G.inv (nth (aj z P.length) k):=rfl
        have Hv:=Z5 hv
        clear hv
        by_cases hi1:G.inv (nth (aj z P.length) k)=1
        ·have Hn:Hid (bs G.ops z P.length k=z):=by show _=_;rw [bs,M7 (by rw [Hv.out];exact hi1)]
         have hi1':(G.inv (nth (aj z P.length) k) != 1)=false:=by simp [hi1]
         clear hi1
         go_wp2_with fail
         go_meet
         exact ⟨I,S1,by rw [Hn.out];exact N,RZ hbi _⟩
        ·have Hn:Hid (bs G.ops z P.length k=z.set P.length ((aj z P.length).map (G.mul (G.inv (nth (aj z P.length) k))))):=by show _=_;rw [bs,M8 (by rw [Hv.out];exact hi1)];rfl
         have hi1':(G.inv (nth (aj z P.length) k) != 1)=true:=by simpa using hi1
         have hea:=CJ w0 a n c I Z ce S1 len tot z (w.heap.size+1) (w.heap.size+1+1) w.heap.size gi V.heap.size (G.inv (nth (aj z P.length) k)) P.length N i1 i2 HM.2.2.1 h hci i0 ig it C (SA h _) HM.1 (hO1.new hgi) HM.2.2.2 Hrow1.2 (by rw [Hrow1.1];exact hlen) hn
         have Hea:=Z5 hea
         clear hi1 hea
         go_wp2_with fail
         refine Hea.mono ?_
         rintro e w5 ⟨rfl,R2,r,hO5,hM5⟩
         go_wp2_with fail
         go_meet
         exact ⟨R2,r,by rw [Hn.out];exact hO5,(RZ hbi _).trans hM5⟩
       obtain ⟨R2,r,hO2,F⟩:=hcut
       generalize wc=T at *
       have t0:=F.cell c0 HM.1
       have t1:=F.cell c1 HM.2.1
       have t2:=F.cell c2 HM.2.2.1
       have tt:=F.cell ct HM.2.2.2
       have hc2:SJ w0 T:=hc0.trans (F.below (λb' Q=>(hO1.lt b' Q).1) hc0.size)
       have k0:¬ I2 a R2 Z r w.heap.size:=F.not (Nf U _ c0) HM.1
       have k1:¬ I2 a R2 Z r (w.heap.size+1):=F.not (Nf U _ c1) HM.2.1
       have k2:¬ I2 a R2 Z r (w.heap.size+1+1):=F.not (Nf U _ c2) HM.2.2.1
       have k3:¬ I2 a R2 Z r V.heap.size:=F.not (Nf U _ ct) HM.2.2.2
       have HK:=Z5 (Ng k0 (Ng k1 (Ng k2 k3)))
       have hmT:aB W0 T (I2 a R Z S) (I2 a R2 Z r):=hmv.trans ((RZ hbx _).trans (H.trans F))
       have hop1:=bj hop hbx
       have hop2:=H.own hop1 hoi.out
       have ho2:ap ≠ none->¬ I2 a I Z S1 (ablk ap):=λhn=>H.not (aP hop1 hn).2 (hoi hn)
       have hop3:=F.own hop2 ho2
       have ho3:ap ≠ none->¬ I2 a R2 Z r (ablk ap):=λhn=>F.not (aP hop2 hn).2 (ho2 hn)
       have Ho3:=Z5 ho3
       clear k0 k1 k2 k3 c0 c1 c2 ct tr ti tc tp i0 i1 i2 it ir ic ig hop hop1 hop2 ho2 ho3 hel
       generalize bs G.ops z P.length k=L2 at *
       go_upto_region 19 with fail
       go_wp2_with fail
       go_loopw [98] (λiv wx=>∃i:Nat,i<=n/\iv = cG i/\ef wx w0.heap.size a n c R2 Z ce r len (clearTo G.ops P.length k L2 i)/\aB T wx (I2 a R2 Z r) (I2 a R2 Z r)) (λiv _=>n - (intOf iv).toNat)
       case atStart=>exact ⟨0,Nb _,rfl,hO2,Sb _ _⟩
       case round =>
        obtain ⟨i,hi,rfl,N,E⟩:=hrel
        generalize wr=X at *
        have x0:=E.cell t0 HK.1
        have x1:=E.cell t1 HK.2.1
        have x2:=E.cell t2 HK.2.2.1
        have xt:=E.cell tt HK.2.2.2
        have hcx:SJ w0 X:=hc2.trans (E.below (λb' Q=>(hO2.lt b' Q).1) hc2.size)
        by_cases hin:i<n
        ·have hrwi:=Si (Sk h) hrw2 (t:=P.length) (c:=k) (by rw [Hl2.out];exact C) (by omega) i (by rw [Hl2.out];exact hi)
         have hli:(clearTo G.ops P.length k L2 i).length=n:=by rw [dj];exact Hl2
         have hstep:clearTo G.ops P.length k L2 (i+1)=if i=P.length then clearTo G.ops P.length k L2 i else (clearTo G.ops P.length k L2 i).set i (bT G.ops (aj (clearTo G.ops P.length k L2 i) P.length) k (aj (clearTo G.ops P.length k L2 i) i)):=rfl
         have Hstep:=Z5 hstep
         clear hstep
         generalize clearTo G.ops P.length k L2 i=A at *
         have hri:=hrwi.row (i:=i) (by omega)
         have hrt:=hrwi.row (i:=P.length) (by omega)
         have ci:=N.cell hin (by rw [hri.1];exact hlt)
         have ii:=N.ints hin (by rw [hri.1];exact hlt)
         have ck:=ii.cell k (by omega)
         rw [ji _ (show k<len by omega)] at ck
         have hpi:=ii.pl
         have hxel:G.El (nth (aj A i) k):=hri.2 _ (aG (by rw [hri.1];omega))
         have Hri:=Z5 hri
         have Hrt:=Z5 hrt
         clear hri hrt hli
         have a1:=aU x1 (.cells #[cG i] 3)
         have a2:=bh X (cG i) 3
         have a3:=aU ci (.cells #[cG i] 3)
         have a4:=aU ck (.cells #[cG i] 3)
         have b1:=aU a1 (.cells #[cG (nth (aj A i) k)] 3)
         have b2:=aU a2 (.cells #[cG (nth (aj A i) k)] 3)
         have b3:=aU (aU xt (.cells #[cG i] 3)) (.cells #[cG (nth (aj A i) k)] 3)
         have b4:((X.alloc (.cells #[cG i] 3)).alloc (.cells #[cG (nth (aj A i) k)] 3)).cell? ⟨X.heap.size+1,0,none⟩=some (cG (nth (aj A i) k)):=dB _ _ _ (by simp)
         by_cases hit:i=P.length
         ·have hit':((i:Int) != P.length)=false:=by simp [hit]
          have Hn:Hid (clearTo G.ops P.length k L2 (i+1)=A):=by show _=_;rw [Hstep.out,M7 hit]
          clear hit
          go_wp2_with fail
          go_roundw
          case rel=>exact ⟨i+1,by omega,by go_num,by rw [Hn.out];exact N.ai (((M5 _ _).alloc (M4 _) _).alloc (by simp) _),E.trans (RZ (((M5 _ _).alloc (M4 _) _).alloc (by simp) _) _)⟩
          case measure=>simp [intOf]<;>omega
         ·have hit':((i:Int) != P.length)=true:=by simp;omega
          by_cases D:nth (aj A i) k=0
          ·have hx0':(nth (aj A i) k != 0)=false:=by simp [D]
           have Hn:Hid (clearTo G.ops P.length k L2 (i+1)=A):=by show _=_;rw [Hstep.out,M8 hit,bT,M7 D,kc]
           clear hit D
           go_wp2_with fail
           go_roundw
           case rel=>exact ⟨i+1,by omega,by go_num,by rw [Hn.out];exact N.ai (((M5 _ _).alloc (M4 _) _).alloc (by simp) _),E.trans (RZ (((M5 _ _).alloc (M4 _) _).alloc (by simp) _) _)⟩
           case measure=>simp [intOf]<;>omega
          ·have hx0':(nth (aj A i) k != 0)=true:=by simpa using D
           have Hn:Hid (clearTo G.ops P.length k L2 (i+1)=A.set i (bZ G.ops (aj A i) (G.neg (nth (aj A i) k)) (aj A P.length))):=by show _=_;rw [Hstep.out,M8 hit,bT,M8 D];rfl
           have hbz:SJ X ((X.alloc (.cells #[cG i] 3)).alloc (.cells #[cG (nth (aj A i) k)] 3)):=((M5 _ _).alloc (M4 _) _).alloc (by simp) _
           have zi:((X.alloc (.cells #[cG i] 3)).alloc (.cells #[cG (nth (aj A i) k)] 3)).cell? ⟨X.heap.size,0,none⟩=some (cG i):=aU (bh _ _ _) _
           have zx:((X.alloc (.cells #[cG i] 3)).alloc (.cells #[cG (nth (aj A i) k)] 3)).cell? ⟨X.heap.size+1,0,none⟩=some (cG (nth (aj A i) k)):=dB _ _ _ (by simp)
           have hea:=CA w0 a n c R2 Z ce r len tot A (w.heap.size+1) (w.heap.size+1+1) w.heap.size X.heap.size (X.heap.size+1) V.heap.size i (nth (aj A i) k) P.length (N.ai hbz) (aC hbz x1) (aC hbz x2) HK.2.2.1 h (hcx.trans (hbz.mono hcx.size)) (aC hbz x0) zi zx (aC hbz xt) hin C hit hxel
            HK.1 (N.new (M4 _)) (N.new (by omega)) HK.2.2.2 Hri.2 Hrt.2 Hri.1 Hrt.1 hlt hn
           have hmz:=E.trans (RZ hbz _)
           have Hmz:=Z5 hmz
           have Hea:=Z5 hea
           clear hit D hea zi zx hbz hmz
           go_wp2_with fail
           refine Hea.mono ?_
           rintro e w5 ⟨rfl,hO5,hM5⟩
           go_wp2_with fail
           go_roundw
           case rel=>exact ⟨i+1,by omega,by go_num,by rw [Hn.out];exact hO5,Hmz.trans hM5⟩
           case measure=>simp [intOf]<;>omega
        ·obtain rfl:i=n:=by omega
         have hopx:=E.own hop3 Ho3.out
         have hsz0:w.heap.size+1+1+1<=X.heap.size:=by have e1:=HsW0.out;have e2:=(hmT.trans E).size;omega
         have hcn:=bh X (cG k) 3
         have hbX:=(M5 X.heap.size X).alloc (M4 _) (.cells #[cG k] 3)
         have hpl8:=HPn.out
         go_wp2_with (at_builtin;refine bd rfl _ _ 22 3 rfl (cG 0) 8 underlying22 br rfl (w.heap.size+1+1+1) ap P.length cp _ rfl (hopx.alloc _) ⟨X.heap.size,0,none⟩ 1 (cG k) rfl hcn rfl (by omega) (by unfold maxLen;omega) (Np hsz0 hbX.size) ?_;intro a3 c3 w3 hown3 hgr hap3)
         go_roundw
         case rel =>
          have hnx:aE G.ops L (k+1)=(clearTo G.ops P.length k L2 i,P ++ [(k:Int)]):=by rw [dG hst.out (by rw [K.out];exact C),M8 (by rw [Hf.out,K.out];omega),Hf.out,HL1.out]
          have hne:∀b',I2 a R2 Z r b'->dq ap b':=λb' Q=>by
           by_cases hn:ap=none
           ·exact .inl hn
           ·exact .inr λe=>Ho3 hn (by rw [e];exact Q)
          have hO3:ef w3 w0.heap.size a i c R2 Z ce r len (clearTo G.ops P.length k L2 i) :=
           (N.ai hbX).bf λb' Q=>hgr.block b' ((N.ai hbX).lt b' Q).2 λe=>(hne b' Q).own P.length cp e.symm
          have hb3:Below (w.heap.size+1+1+1) X w3:=RY (hbX.mono hsz0) (hopx.alloc _) hgr (M4 _) (Np hsz0 hbX.size)
          have hm3:aB W0 w3 (I2 a R Z S) (I2 a R2 Z r):=by have h1:=hmT.trans E;refine ⟨hb3.os.trans h1.os,hb3.tape.trans h1.tape,hb3.output.trans h1.output,Np h1.size hb3.size,λb' Q hI=>(hb3.block b' (by rw [HsW0.out];exact Q)).trans (h1.block b' Q hI),h1.grow⟩
          have hrw3:=Si (Sk h) hrw2 (t:=P.length) (c:=k) (by rw [Hl2.out];exact C) (by omega) i (by rw [Hl2.out];exact hi)
          have ho4:a3 ≠ none->¬ I2 a R2 Z r (ablk a3):=λhn hI=>by
           rcases hap3 _ ((N.ai hbX).lt _ hI).2 (hne _ hI) with h1 | h1
           ·exact hn h1
           ·exact h1 rfl
          refine ⟨k+1,R2,r,a3,c3,d2,clearTo G.ops P.length k L2 i,P ++ [(k:Int)],by omega,by go_num,by simp,rfl,hnx.symm,hO3,?_,ho4,hm3,hrw3,hde2,by simp;omega⟩
          simpa using hown3
         case measure=>simp [intOf]<;>omega
     ·obtain rfl:j=n:=by omega
      have Hn:Hid ((Lk,P)=aE G.ops L (k+1)):=by show _=_;rw [dG hst.out (by rw [K.out];exact C),M7 (by rw [hfr.out,iK (by rw [K.out];exact M4 _),K.out])]
      go_wp2_with fail
      go_roundw
      case rel =>
       have hmx:aB W0 wr (I2 a R Z S) (I2 a R' Z S'):=hmv.trans (RZ hbx _)
       exact ⟨k+1,R',S',ap,cp,d,Lk,P,by omega,by go_num,rfl,rfl,Hn,hOx,bj hop hbx,hoi,hmx,hrw,hde,HPn⟩
      case measure=>simp [intOf]<;>omega
   ·have hPe:P.length=n:=by omega
    have hfull:(Lk,P)=aE G.ops L m:=by rw [show m=k+(m - k) by omega,fG (by rw [<- hst.out,hPe,<- hO.ll]),<- hst.out]
    have Hfull:=Z5 hfull
    have hPe':((P.length:Int)<n)=False:=by simp;omega
    clear hfull hPe
    go_wp2_with fail
    go_ret2
    exact Hfin _ _ _ _ _ _ _ _ Hfull.out hOr (bq hop (by omega)) hmw
  ·obtain rfl:k=m:=by omega
   go_wp2_with fail
   go_ret2
   exact Hfin _ _ _ _ _ _ _ _ hst.out hOr (bq hop (by omega)) hmw
end
end Go.Proofs.YthglbncgemdcbaaGreat
