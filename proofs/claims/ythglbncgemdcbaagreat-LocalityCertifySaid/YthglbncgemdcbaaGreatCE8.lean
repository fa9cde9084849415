import Derived.Test.YthglbncgemdcbaaGreatCE7
import Derived.Sort.OwnSortedInts
import Derived.Test.YthglbncgemdcbaaGreatCE2
namespace Go.Proofs.YthglbncgemdcbaaGreat
set_option linter.all false
set_option maxRecDepth 100000
set_option maxHeartbeats 4000000
open Go.RowKit Go.Proofs.Tryz
def DW (P:Int) (low:LI) (v:Nat) (c:Int) (r:LI):Nat->LI
 | 0=>r
 | j+1=>(DW P low v c r j).set (v+j) ((nth (DW P low v c r j) (v+j)+(P - c) * nth low j) % P)
def yj (P:Int) (low:LI) (n:Nat) (r:LI):Nat->LI
 | 0=>r
 | k+1=>(DW P low (n - 1 - k - low.length) (nth (yj P low n r k) (n - 1 - k)) (yj P low n r k) low.length).set (n - 1 - k) 0
def Ez (P:Int) (low mod:LI):Bool:=(yj P low (mod.length+1) (mod ++ [1]) (mod.length+1 - low.length)).all λx=>x == 0
theorem BV (P:Int) (low:LI) (v:Nat) (c:Int) (r:LI):∀j,(DW P low v c r j).length=r.length
 | 0=>rfl
 | j+1=>by rw [DW,LZ,BV P low v c r j]
theorem CQ (P:Int) (low:LI) (n:Nat) (r:LI):∀k,(yj P low n r k).length=r.length
 | 0=>rfl
 | k+1=>by rw [yj,LZ,BV,CQ P low n r k]
theorem vp {P:Int} (Z:0<P) (low:LI) (v:Nat) (c:Int) {r:LI} (h:dG P r):∀j,dG P (DW P low v c r j)
 | 0=>h
 | j+1=>dG.Bv Z (vp Z low v c h j) _ _
theorem Cj {P:Int} (Z:0<P) (low:LI) (n:Nat) {r:LI} (h:dG P r):∀k,dG P (yj P low n r k)
 | 0=>h
 | k+1=>dG.set (vp Z low _ _ (Cj Z low n h k) _) _ (by omega) Z
theorem dG.snoc {P:Int} {l:LI} (h:dG P l) {x:Int} (h0:0<=x) (h1:x<P):dG P (l ++ [x]):=by
 intro i;by_cases hi:i<l.length
 ·have e:nth (l ++ [x]) i=nth l i:=by simp only [nth,KZ];rw [Lg hi]
  rw [e];exact h i
 ·by_cases Z:i=l.length
  ·subst Z;have e:nth (l ++ [x]) l.length=x:=by simp [nth]
   rw [e];exact ⟨h0,h1⟩
  ·rw [jI (by simp;omega)];omega
theorem vT (al:OA) (d cl:Nat) (low:LI) (am:OA) (D cm:Nat) (mod:LI) (P:Int) (w:World) (hl:Ints w al d low) (hm:Ints w am D mod) (hp2:2<=P) (hp256:P<=256)
  (hdl:dG P low) (hdm:dG P mod) (hd1:1<=d) (hdn:d<=D) (hmn:D<=8) :
  Calls prog 150 #[.slice al d cl,.slice am D cm,cG P] w λe w'=>e = .returned (.bool (Ez P low mod))/\PY w w':=by
 have hP:0<P:=by omega
 have Hll:=Z5 hl.len;have Hml:=Z5 hm.len;have hpll:=hl.pl;have Hdl:=Z5 hdl;have HDB:Hid (Ez P low mod=(yj P low (D+1) (mod ++ [1]) (D+1 - d)).all λx=>x == 0):=by show _=_;rw [Ez,hm.len,hl.len]
 have HD0:Hid (dG P (mod ++ [1])):=hdm.snoc (by omega) (by omega);have HL0:Hid ((mod ++ [1]).length=D+1):=by show _=_;rw [K6,hm.len];rfl
 have hO1:=fK w 3;have C:=an w (.cells #[] 3);have hme:=hm.af C;have hpm:=hm.pl;clear hdl hdm;go_enter func150,ntmps150;go_wp2_with (at_builtin; first
       | (refine en (by rfl) (.tmp 15) (.tmp 16) 22 3 (by rfl) (cG 0) 8 underlying22 bh (by rfl) w.heap.size _ 0 0 [] (by rfl) hO1 am D cm (mod.map (Value.int .i64)) (by rfl) hpm (by simp [Hml.out]) (Px hme) (ints_oneCell _ _) (by omega) (by unfold maxLen;omega) (Ml C) ?_;intro a3 c3 w3 X hgr3 hap3;have hb3:PY w w3:=Pp (B:=w.heap.size) (e:=3) (xs:=[]) C hO1 hgr3 (KT _) (Ml C);rw [MR] at X ⊢;rw [L3] at X)
       | (refine aS rfl _ _ 22 3 rfl (cG 0) 8 underlying22 bh rfl w.heap.size a3 D c3 _ rfl (X.alloc _) ⟨w3.heap.size,0,none⟩ 1 (cG 1) rfl (bm w3 _ _) rfl (by omega) (by unfold maxLen;omega) (by have h1:=Ml hb3;simp;omega) ?_;intro a1 c1 w1 hown1 hgr1 hap1))
 have hb4:PY w w1:=Pp (Pm hb3 (an _ _)) (X.alloc _) hgr1 (KT _) (K9 hb3.size (Ml (an _ _)));have hown:w1.ownsRow w.heap.size 3 1 (.slice a1 (D+1) c1) (D+1) ((mod ++ [1]).map (Value.int .i64)):=by simpa using hown1
 have ha1:a1 ≠ none->w.heap.size<=ablk a1:=λh=>(aT hown h).1;obtain ⟨n,hn⟩:∃n,D+1=n:=⟨_,rfl⟩
 have Hn:=Z5 hn;have hn9:n<=9:=by omega
 have hdn':d+1<=n:=by omega
 obtain ⟨z,hr0⟩:∃z,mod ++ [1]=z:=⟨_,rfl⟩
 rw [hr0,hn] at hown HDB;rw [hr0] at HD0;rw [hr0,hn] at HL0;have hnv:(((D+1:Nat):Int))=n:=by omega
 have hnv2:(D:Int)+1=n:=by omega
 have hlw:=hl.af hb4;have hS:∀V,PY w V->Ints V al d low:=λV hV=>hl.af hV;have HS:=Z5 hS;rw [hn];clear hown1 hgr1 hap1 X hgr3 hap3 hr0 hn hS hO1 C hme hlw;go_wp2_with fail;clear hnv hnv2;go_loopw [9] (λr wr=>∃k t:Nat,t+k+1=n/\d<=t+1/\r = cG t/\wr.ownsRow w.heap.size 3 1 (.slice a1 n c1) n ((yj P low n z k).map (Value.int .i64))/\db a1 w1 wr) (λr _=>(intOf r).toNat);case atStart=>exact ⟨0,n - 1,by omega,by omega,by have:=Hn.out;congr 1;omega,hown,PD _ _⟩
 case round =>
  obtain ⟨k,t,htk,hdt,rfl,Y,E⟩:=hrel
  have hbk:PY w wr:=hb4.trans (E.below ha1 hb4.size)
  by_cases hti:d<=t
  ·have Htk:=Z5 htk
   have Hrk:Hid (yj P low n z (k+1)=(DW P low (t - d) (nth (yj P low n z k) t) (yj P low n z k) d).set t 0):=by show _=_;rw [yj,Hll.out,show n - 1 - k=t by omega]
   have Hrd:Hid (dG P (yj P low n z k)):=Cj hP low n HD0.out k
   obtain ⟨H,hC2⟩:∃H,yj P low n z k=H:=⟨_,rfl⟩
   rw [hC2] at Y Hrk Hrd
   have htn:t<n:=by omega
   have hti':(t:Int)<n:=by omega
   obtain ⟨it0,mt0⟩:=Pn Y
   have c0:=it0.cell t htn
   have hp0:=it0.pl
   have b2:=Hrd t
   clear hC2 htk
   go_wp2_with fail
   obtain ⟨Q,hcc⟩:∃Q,nth H t=Q:=⟨_,rfl⟩
   rw [hcc] at b2 Hrk
   rw [hcc]
   clear hcc c0 it0 mt0
   go_loopw [11] (λr wr=>∃j:Nat,j<=d/\r = cG j/\wr.ownsRow w.heap.size 3 1 (.slice a1 n c1) n ((DW P low (t - d) Q H j).map (Value.int .i64))/\db a1 w1 wr) (λr _=>d - (intOf r).toNat)
   case atStart=>exact ⟨0,K0 _,rfl,Y,E⟩
   case round =>
    obtain ⟨j,hj,rfl,U,N⟩:=hrel
    have hbr2:PY w wr:=hb4.trans (N.below ha1 hb4.size)
    have j1:=HS wr hbr2
    by_cases hlt2:j<d
    ·have Hcj:Hid (DW P low (t - d) Q H (j+1)=(DW P low (t - d) Q H j).set (t - d+j) ((nth (DW P low (t - d) Q H j) (t - d+j)+(P - Q) * nth low j) % P)):=rfl
     have hcd:=vp hP low (t - d) Q Hrd.out j
     obtain ⟨T,hT⟩:∃T,DW P low (t - d) Q H j=T:=⟨_,rfl⟩
     rw [hT] at U Hcj hcd
     clear hT
     obtain ⟨it,mt⟩:=Pn U
     obtain ⟨u,hu⟩:∃u,t - d+j=u:=⟨_,rfl⟩
     have hun:u<n:=by omega
     have ct:=it.cell u hun
     have cM:=j1.cell j hlt2
     have ft:=(mt (by omega)).2 u hun
     have A:=it.pl
     have b1:=hcd u
     have b3:=Hdl j
     have hme:=lq (show 0<=P - Q by omega) (show P - Q<=256 by omega) b3.1 (show nth low j<=256 by omega)
     have hP0:P ≠ 0:=by omega
     rw [hu] at Hcj
     obtain ⟨Z,hZ⟩:∃Z,(nth T u+(P - Q) * nth low j) % P=Z:=⟨_,rfl⟩
     have Hcj2:Hid (DW P low (t - d) Q H (j+1)=T.set u Z):=by show _=_;rw [Hcj.out,hZ]
     obtain ⟨v,hv⟩:∃v,t - d=v:=⟨_,rfl⟩
     have r0':IntKind.i64.wrap ((t:Int) - d)=(v:Int):=by rw [La _ (by omega)];omega
     have r1:IntKind.i64.wrap ((v:Int)+j)=(u:Int):=by rw [La _ (by omega)];omega
     have r2:IntKind.i64.wrap (P - Q)=P - Q:=La _ (by omega)
     have r3:IntKind.i64.wrap ((P - Q) * nth low j)=(P - Q) * nth low j:=La _ (by omega)
     have r4:IntKind.i64.wrap (nth T u+(P - Q) * nth low j)=nth T u+(P - Q) * nth low j:=La _ (by omega)
     have r5:(nth T u+(P - Q) * nth low j).tmod P=Z:=by rw [<- hZ];exact L9 _ _ (by omega)
     have q1:(0:Int)<=u:=by omega
     have q2:(u:Int)<n:=by omega
     have q4:(j:Int)<d:=by omega
     clear hZ hu hv Hcj
     go_wp2_with fail
     go_still_tail 26,(by kernel_rfl)
     change wpList _ _ _ _ _ wr.drew
     generalize hwd:wr.drew=wd
     have fd:wd.frozen? ⟨ablk a1,aJ a1+u,none⟩=false:=by rw [<- hwd];exact ft
     have cd:wd.cell? ⟨ablk a1,aJ a1+u,none⟩=some (cG (nth T u)):=by rw [<- hwd];exact ct
     have Hwd:=Z5 hwd
     clear hwd r0' r1 r2 r3 r4 r5
     go_wp2_with fail
     go_roundw
     case rel =>
      obtain rfl:=Hwd.out
      have hdr:bg wr wr.drew:=(Pt wr).drew
      refine ⟨j+1,by omega,by go_num,?_,N.trans ((PA hdr).trans (PF _ u _ (by intro e;have:=A (by omega);rw [e] at this;cases this)))⟩
      have h1:=bA (w:=wr.drew) U u hun (cG Z)
      rw [<- Lq,<- Hcj2.out] at h1
      exact h1
     case measure=>simp [intOf] <;> omega
    ·obtain rfl:j=d:=by omega
     obtain ⟨it,mt⟩:=Pn U
     have ct:=it.cell t htn
     have ft:=(mt (by omega)).2 t htn
     have A:=it.pl
     go_wp2_with fail
     go_roundw
     case rel =>
      have h1:=bA U t htn (cG 0)
      rw [<- Lq,<- Hrk.out] at h1
      exact ⟨k+1,t - 1,by have:=Htk.out;omega,by omega,by congr 1;omega,h1,N.trans (PF _ t _ (by intro e;have:=A (by omega);rw [e] at this;cases this))⟩
     case measure=>simp [intOf] <;> omega
  ·have hkf:k=n - d:=by omega
   have Hfin:Hid (Ez P low mod=(yj P low n z k).all λx=>x == 0):=by show _=_;rw [HDB.out,hkf]
   have HlT:Hid ((yj P low n z k).length=n):=by show _=_;rw [CQ];exact HL0
   obtain ⟨H,hC2⟩:∃H,yj P low n z k=H:=⟨_,rfl⟩
   rw [hC2] at Y Hfin HlT
   have iC:=(Pn Y).1
   have hpC:=iC.pl
   clear hC2 htk hkf Y
   go_wp2_with fail
   go_loop [12] (λr=>∃j:Nat,j<=n/\r = cG j/\Hid ((H.take j).all (λx=>x == 0)=true)) (λr=>n - (intOf r).toNat)
   case atStart=>exact ⟨0,K0 _,rfl,by show _=_;simp⟩
   case round =>
    obtain ⟨j,hj,rfl,hall⟩:=hrel
    by_cases hlt:j<n
    ·have cj:=iC.cell j hlt
     have hjl:j<H.length:=by rw [HlT.out];exact hlt
     by_cases hz:nth H j=0
     ·have hz':(nth H j != 0)=false:=by simpa using hz
      have Hs:Hid ((H.take (j+1)).all (λx=>x == 0)=true):=dJ hjl hall.out (by rw [<- aj hjl,hz];rfl)
      clear hz
      go_wp2_with fail
      go_round
      case rel=>exact ⟨j+1,by omega,by go_num,Hs⟩
      case measure=>simp [intOf] <;> omega
     ·have hz':(nth H j != 0)=true:=by simpa using hz
      have Hs:Hid (Ez P low mod=false):=by show _=_;rw [Hfin.out];exact dI hjl (by rw [<- aj hjl];simpa using hz)
      clear hz
      go_wp2_with fail
      go_ret
      exact ⟨aX Hs.symm,hbk⟩
    ·obtain rfl:j=n:=by omega
     have Hs:Hid (Ez P low mod=true):=by have:=hall.out;rw [K5 (by rw [HlT.out];exact KT _)] at this;show _=_;rw [Hfin.out,this]
     go_wp2_with fail
     go_ret
     exact ⟨aX Hs.symm,hbk⟩
def Kv (P:Int) (mod:LI) (d q:Nat):Bool:=(List.range q).all λv=>!Ez P (digs v P d) mod
def yU (P:Int) (mod:LI) (k:Nat):Bool:=(List.range k).all λd=>Kv P mod (d+1) (P ^ (d+1)).toNat
def pj (P:Int) (mod:LI):Bool:=yU P mod (mod.length / 2)
theorem td {p:Nat->Bool} {k:Nat} (h:(List.range k).all p=true) (hk:p k=true):(List.range (k+1)).all p=true:=by rw [Mn,NQ,h];simp [hk]
theorem nY {p:Nat->Bool} {k n:Nat} (hk:k<n) (h:p k=false):(List.range n).all p=false:=by rw [MD];exact ⟨k,List.mem_range.2 hk,by simp [h]⟩
theorem ph (am:OA) (Y cm:Nat) (mod:LI) (P:Int) (w:World) (hm:Ints w am Y mod) (hp2:2<=P) (C:P<=256) (hdm:dG P mod) (hmn:Y<=8) (A:P ^ Y<=256) :
  Calls prog 96 #[.slice am Y cm,cG P] w λe w'=>e = .returned (.bool (pj P mod))/\PY w w':=by
 have Hml:=Z5 hm.len;have Hdm:=Z5 hdm;have HP:Hid (∀k,k<=Y->1<=P ^ k/\P ^ k<=256):=λk hk=>⟨by have:=dF (show 1<=P by omega) (K0 k);rwa [MU] at this,Ob (dF (show 1<=P by omega) hk) A⟩
 have HI:Hid (pj P mod=yU P mod (Y / 2)):=by show _=_;rw [pj,hm.len]
 clear hdm A;go_enter func96,ntmps96;go_wp2_with fail;go_loopw [5,6] (λcv dv wr=>∃d:Nat,1<=d/\2 * d<=Y+2/\dv = cG d/\cv = cG (P ^ (d - 1))/\Hid (yU P mod (d - 1)=true)/\PY w wr) (λ_ dv _=>Y+2 - (intOf dv).toNat);case atStart=>exact ⟨1,by omega,by omega,rfl,by simp,by show _=_;simp [yU],KU _ _⟩
 case round =>
  obtain ⟨d,X,hd2,rfl,rfl,hir,hbr⟩:=hrel
  by_cases hlt:2 * d<=Y
  ·have hpe:=HP (d - 1) (by omega)
   have hpe1:=HP d (by omega)
   have hps:P ^ d=P ^ (d - 1) * P:=by have h1:=LY P (d - 1);have h2:(d - 1).succ=d:=Nr X;rwa [h2] at h1
   obtain ⟨q,hq⟩:∃q:Nat,P ^ d=q:=⟨(P ^ d).toNat,by omega⟩
   have HQ:Hid (yU P mod d=(yU P mod (d - 1) && Kv P mod d q)):=by
    have e1:yU P mod d=(List.range ((d - 1)+1)).all λd=>Kv P mod (d+1) (P ^ (d+1)).toNat:=by rw [Nr X];rfl
    show _=_;rw [e1,Mn,NQ];simp only [OM,List.all_nil,Bool.and_true];rw [Nr X,hq];rfl
   have Hps:Hid (P ^ (d - 1) * P=(q:Int)):=by show _=_;rw [<- hps,hq]
   have hq256:q<=256:=by omega
   have Hq:=Z5 hq
   have j:Hid (∀v:Nat,(digs v P d).length=d):=λv=>bG _ _ _
   have Hdd:Hid (∀v:Nat,dG P (digs v P d)):=λv=>PU (by omega) _ _
   have Hf0:Hid (∀v:Nat,v<q->Ez P (digs v P d) mod=true->pj P mod=false):=λv hv hd=>by rw [HI.out];refine nY (k:=d - 1) (by omega) ?_;rw [Nr X,hq,KV];exact nY hv (by rw [hd];rfl)
   clear hps hpe1 hq
   obtain ⟨pe,Q⟩:∃pe,P ^ (d - 1)=pe:=⟨_,rfl⟩
   rw [Q] at Hps hpe
   rw [Q]
   have hps2:=Hps.out
   have hltd:decide (2 * (d:Int)<=Y)=true:=by simp;omega
   have hltn:decide (2 * d<=Y)=true:=by simp;omega
   clear Q
   go_wp2_with fail
   clear hps2
   go_loopw [7] (λvv wx=>∃v:Nat,v<=q/\vv = cG v/\Hid ((List.range v).all (λv=>!Ez P (digs v P d) mod)=true)/\PY w wx) (λvv _=>q - (intOf vv).toNat)
   case atStart=>exact ⟨0,K0 _,rfl,by show _=_;simp,hbr⟩
   case round =>
    obtain ⟨v,hv,rfl,H,z⟩:=hrel
    by_cases hvq:v<q
    ·obtain ⟨D,hD⟩:∃D,digs v P d=D:=⟨_,rfl⟩
     have Hl:=Z5 (j v)
     have Hg:=Z5 (Hdd v)
     have Hf:=Z5 (Hf0 v hvq)
     have r:=Z5 (qa v P d wr (by omega) (by omega) (by omega) (by omega))
     rw [hD] at Hl Hg Hf r
     have HD:=Z5 hD
     clear hD
     go_wp2_with fail
     refine r.mono ?_
     rintro e1 w1 ⟨a1,c1,rfl,Z,hb1⟩
     rw [Hl.out] at Z ⊢
     have hi1:=(Pn Z).1
     have E:=Pm z hb1
     clear Z
     go_wp2_with fail
     refine (vT a1 d c1 D am Y cm mod P w1 hi1 (hm.af E) hp2 C Hg.out Hdm.out X (by omega) hmn).mono ?_
     rintro e2 w2 ⟨rfl,hb2⟩
     have N:=Pm E hb2
     by_cases V:Ez P D mod=true
     ·have Hf2:=Z5 (Hf V)
      rw [V]
      clear V
      go_wp2_with fail
      go_ret
      exact ⟨aX Hf2.symm,N⟩
     ·have U:Ez P D mod=false:=by simpa using V
      have Hs:Hid ((List.range (v+1)).all (λv=>!Ez P (digs v P d) mod)=true):=td H.out (by rw [HD.out,U];rfl)
      rw [U]
      clear V U
      go_wp2_with fail
      go_roundw
      case rel=>exact ⟨v+1,by omega,by go_num,Hs,N⟩
      case measure=>simp [intOf] <;> omega
    ·obtain rfl:v=q:=by omega
     have Hs:Hid (yU P mod d=true):=by show _=_;rw [HQ.out,hir.out,Kv,H.out];rfl
     go_wp2_with fail
     go_roundw
     case rel=>exact ⟨d+1,by omega,by omega,by go_num,by rw [M7,Hq.out],Hs,z⟩
     case measure=>simp [intOf] <;> omega
  ·have Hs:Hid (pj P mod=true):=by show _=_;rw [HI.out,show Y / 2=d - 1 by omega];exact hir
   go_wp2_with fail
   go_ret
   exact ⟨aX Hs.symm,hbr⟩
section
variable {O:aP} {El:Int->Prop} {m n:Nat}
theorem kT.smul (F:bK O El) {X:LI->Int} (h:kT O El n X) {s:Int} (Y:El s):kT O El n (λv=>O.mul s (X v)) :=
 ⟨λv U=>F.cl.mul _ _ Y (h.el v U),
  λv r x U V Z=>by show O.mul s (X (dY O v x r))=O.add (O.mul s (X v)) (O.neg (O.mul x (O.mul s (X r))));have h1:=h.el v U;have h2:=h.el r V;rw [h.sub v r x U V Z,F.mul_add s _ _ Y h1 (F.cl.neg _ (F.cl.mul _ _ Z h2)),F.mul_neg Y (F.cl.mul _ _ Z h2),<- F.mul_assoc s x _ Y Z h2,F.mul_comm s x Y Z,F.mul_assoc x s _ Z Y h2],
  λr x V Z=>by show O.mul s (X (r.map (O.mul x)))=O.mul x (O.mul s (X r));have h2:=h.el r V;rw [h.EH r x V Z,<- F.mul_assoc s x _ Y Z h2,F.mul_comm s x Y Z,F.mul_assoc x s _ Z Y h2]⟩
theorem ed (g:Nat->Int) (k i:Nat) (hi:i<k):nth ((List.range k).map g) i=g i:=by rw [aj (by simpa using hi)];simp
theorem kT.vec {k:Nat} {e:LI->Int} (he:kT O El k e) (g:Nat->LI->Int) (Q:∀i,i<k->kT O El n (g i)):kT O El n (λv=>e ((List.range k).map λi=>g i v)):=by
 have Y:∀v,Vc El n v->Vc El k ((List.range k).map λi=>g i v):=λv X=>⟨by simp,λy N=>by obtain ⟨i,hi,rfl⟩:=List.mem_map.1 N;exact (Q i (List.mem_range.1 hi)).el v X⟩
 refine ⟨λv X=>he.el _ (Y v X),λv r x X V U=>?_,λr x V U=>?_⟩
 ·show e _=_;rw [<- he.sub _ _ x (Y v X) (Y r V) U];congr 1;refine gJ (by rw [fi _ _ _ _ (by simp)];simp) λi hi=>?_;have Z:i<k:=by simpa using hi
  rw [eS O _ x _ i (by simp) (by simpa using Z),ed _ _ _ Z,ed _ _ _ Z,ed _ _ _ Z];exact (Q i Z).sub v r x X V U
 ·show e _=_;rw [<- he.EH _ x (Y r V) U];congr 1;refine gJ (by simp) λi hi=>?_;have Z:i<k:=by simpa using hi
  rw [kE O _ x (by simpa using Z),ed _ _ _ Z,ed _ _ _ Z];exact (Q i Z).EH r x V U
def RS (O:aP) (El:Int->Prop) (m:Nat) (L:Ll) (f:Nat->Int):Prop:=∃e,kT O El L.length e/\∀x,x<m->f x=e (ba L x)
theorem RS.row (F:bK O El) {L:Ll} {i:Nat} (hi:i<L.length):RS O El m L (λx=>nth (ai L i) x) :=
 ⟨λv=>nth v i,kT.BO F hi,λx _=>(dj L x i hi).symm⟩
theorem RS.comb (F:bK O El) {L:Ll} {f g:Nat->Int} (V:RS O El m L f) (Q:RS O El m L g) {s:Int} (U:El s):RS O El m L (λx=>O.add (f x) (O.neg (O.mul (g x) s))):=by obtain ⟨a,ha,Y⟩:=V;obtain ⟨b,hb,Z⟩:=Q;exact ⟨_,ha.comb F hb U,λx X=>by show O.add (f x) _=_;rw [Y x X,Z x X]⟩
theorem RS.smul (F:bK O El) {L:Ll} {f:Nat->Int} (X:RS O El m L f) {s:Int} (V:El s):RS O El m L (λx=>O.mul s (f x)):=by obtain ⟨a,ha,Z⟩:=X;exact ⟨_,ha.smul F V,λx Y=>by show O.mul s (f x)=_;rw [Z x Y]⟩
theorem RS.congr {L:Ll} {f g:Nat->Int} (X:RS O El m L f) (h:∀x,x<m->g x=f x):RS O El m L g:=by obtain ⟨a,ha,Z⟩:=X;exact ⟨a,ha,λx Y=>by rw [h x Y,Z x Y]⟩
def eF (O:aP) (El:Int->Prop) (m:Nat) (A B:Ll):Prop:=∀i,i<A.length->RS O El m B (λx=>nth (ai A i) x)
theorem eF.refl (F:bK O El) (L:Ll):eF O El m L L:=λ_ hi=>.row F hi
theorem eF.rs {A B:Ll} (h:eF O El m A B) {f:Nat->Int} (V:RS O El m A f):RS O El m B f:=by
 obtain ⟨e,he,Z⟩:=V;obtain ⟨g,X⟩:∃g:Nat->LI->Int,∀i,i<A.length->kT O El B.length (g i)/\∀x,x<m->nth (ai A i) x=g i (ba B x):=by
  have h2:∀i,∃g:LI->Int,i<A.length->kT O El B.length g/\∀x,x<m->nth (ai A i) x=g (ba B x):=λi=>by
   by_cases hi:i<A.length
   ·obtain ⟨g,h1,h2⟩:=h i hi;exact ⟨g,λ_=>⟨h1,h2⟩⟩
   ·exact ⟨λ_=>0,λh=>absurd h hi⟩
  exact ⟨λi=>Classical.choose (h2 i),λi hi=>Classical.choose_spec (h2 i) hi⟩
 refine ⟨_,he.vec g λi hi=>(X i hi).1,λx Y=>?_⟩;rw [Z x Y];congr 1;refine gJ (by simp [dz]) λi hi=>?_;rw [dz] at hi;rw [ed _ _ _ hi,dj A x i hi];exact (X i hi).2 x Y
theorem eF.trans {A B C:Ll} (h:eF O El m A B) (h2:eF O El m B C):eF O El m A C:=λi hi=>h2.rs (h i hi)
theorem eF.cl {A B:Ll} (h:eF O El m A B) {l:LN} {x:Nat} (Q:∀y ∈ l,y<m) (U:x<m) (hc:kB O El B.length (ba B) l x):kB O El A.length (ba A) l x:=by intro Y X h0;obtain ⟨e,he,Z⟩:=h.rs (f:=λx=>Y (ba A x)) ⟨Y,X,λ_ _=>rfl⟩;have e1:Y (ba A x)=e (ba B x):=Z x U;rw [e1];refine hc e he λy V=>?_;rw [<- Z y (Q y V)];exact h0 y V
structure lh (L:Ll) (P:LI) (c:Nat):Prop where
 le:P.length<=L.length
 lt:∀j,j<P.length->0<=nth P j/\nth P j<c
 one:∀j i,j<P.length->i<L.length->nth (ai L i) (nth P j).toNat=if i=j then 1 else 0
 zero:∀i x,P.length<=i->i<L.length->x<c->nth (ai L i) x=0
def sw (t k i:Nat):Nat:=if i=t then k else if i=k then t else i
theorem Kj {t k n i:Nat} (ht:t<n) (hk:k<n) (hi:i<n):sw t k i<n:=by unfold sw;split;exact hk;split;exact ht;exact hi
theorem G0 {L:Ll} {t k:Nat} (ht:t<L.length) (hk:k<L.length) (i:Nat):ai (if k=t then L else bj L t k) i=ai L (sw t k i):=by
 unfold sw bj;split
 ·rename_i e;subst e;split
  ·rename_i e;rw [e]
  ·rfl
 ·rename_i hne;rw [eC _ _ _ _ (by simpa using hk),eC _ _ _ _ ht];by_cases h1:i=t
  ·rw [KY (by omega),KX h1,KX h1]
  ·rw [KY h1,KY h1];by_cases h2:i=k
   ·rw [KX h2,KX h2]
   ·rw [KY h2,KY h2]
theorem FB (F:bK O El) {L:Ll} (hL:bt El m L) {t c:Nat} (ht:t<L.length) {i x:Nat} (Y:x<m) :
  nth (ai (bu O L t c) i) x=if i=t then O.mul (O.inv (nth (ai L t) c)) (nth (ai L t) x) else nth (ai L i) x:=by
 have Z:=hL.row ht;have he:El (nth (ai L t) x):=Z.2 _ (aG (by rw [Z.1];exact Y));unfold bu;split
 ·rename_i h1;split
  ·rename_i e;rw [e,h1,F.one_mul _ he]
  ·rfl
 ·rw [eC _ _ _ _ ht];split
  ·exact kE O _ _ (by rw [Z.1];exact Y)
  ·rfl
theorem sl (O:aP) (t c:Nat) (L:Ll):∀i,i<=L.length->∀j,ai (clearTo O t c L i) j=if j<i/\j ≠ t then cR O (ai L t) c (ai L j) else ai L j
 | 0,_,j=>by rw [KY (by omega)];rfl
 | i+1,hi,j=>by
  have Z:=sl O t c L i (by omega);unfold clearTo;split
  ·rename_i e;rw [Z j];by_cases h:j<i/\j ≠ t
   ·rw [KX h,KX ⟨by omega,h.2⟩]
   ·rw [KY h,KY (by omega)]
  ·rename_i e;have e1:ai (clearTo O t c L i) t=ai L t:=by rw [Z t,KY (by omega)]
   have Y:ai (clearTo O t c L i) i=ai L i:=by rw [Z i,KY (by omega)]
   rw [eC _ _ _ _ (by rw [dA];omega),e1,Y];by_cases h:j=i
   ·subst h;rw [KX rfl,KX ⟨by omega,e⟩]
   ·rw [KY h,Z j];by_cases h2:j<i/\j ≠ t
    ·rw [KX h2,KX ⟨by omega,h2.2⟩]
    ·rw [KY h2,KY (by omega)]
theorem wS (F:bK O El) {Y r:LI} {c x:Nat} (V:Vc El m Y) (Z:Vc El m r) (hc:c<m) (X:x<m) :
  nth (cR O Y c r) x=O.add (nth r x) (O.neg (O.mul (nth Y x) (nth r c))):=by
 have h1:=V.at X;have h2:=Z.at X;have h3:=Z.at hc;unfold cR;split
 ·rename_i h0;rw [h0,F.dh h1,F.fw,F.add_zero _ h2]
 ·rw [gj O r _ Y x (by rw [V.1,Z.1]) (by rw [Z.1];exact X)];split
  ·rename_i h0;rw [h0,F.jw h3,F.fw,F.add_zero _ h2]
  ·rw [F.neg_mul h3 h1,F.mul_comm _ _ h3 h1]
section
variable {L:Ll} {t k c:Nat}
theorem eT (F:bK O El) (hL:bt El m L) (ht:t<L.length) (hk:k<L.length) (hc:c<m) (h0:nth (ai L k) c ≠ 0) {i x:Nat} (hi:i<L.length) (U:x<m) :
  nth (ai (eD O L t k c) i) x=if i=t then O.mul (O.inv (nth (ai L k) c)) (nth (ai L k) x) else
   O.add (nth (ai L (sw t k i)) x) (O.neg (O.mul (O.mul (O.inv (nth (ai L k) c)) (nth (ai L k) x)) (nth (ai L (sw t k i)) c))):=by
 rw [i9];obtain ⟨Z,V⟩:∃Z,(if k=t then L else bj L t k)=Z:=⟨_,rfl⟩
 have X:∀i,ai Z i=ai L (sw t k i):=λi=>by rw [<- V];exact G0 ht hk i
 have D:Z.length=L.length:=by rw [<- V];split <;> simp [bC]
 have Q:bt El m Z:=by
  rw [<- V];split
  ·exact hL
  ·exact hL.swap ht hk
 have Y:sw t k t=k:=by simp [sw]
 have E:nth (ai Z t) c ≠ 0:=by rw [X,Y];exact h0
 rw [V];have N:bt El m (bu O Z t c):=Q.norm F.cl (by omega) hc E;have H:∀ {i x:Nat},x<m->nth (ai (bu O Z t c) i) x=if i=t then O.mul (O.inv (nth (ai Z t) c)) (nth (ai Z t) x) else nth (ai Z i) x:=λU=>FB F Q (by omega) U
 rw [sl O t c _ L.length (by rw [dy];omega)];by_cases e:i=t
 ·rw [KY (by omega),KX e,H U,KX e,X,Y]
 ·rw [KX ⟨hi,e⟩,KY e,wS F (N.row (by rw [dy];omega)) (N.row (by rw [dy];omega)) hc U,H U,H U,H hc,KY e,KY e,KX rfl,X,X,Y]
variable (F:bK O El) (hL:bt El m L) (ht:t<L.length) (hk:k<L.length) (hc:c<m) (h0:nth (ai L k) c ≠ 0)
include F hL ht hk hc h0
theorem Ae:eF O El m (eD O L t k c) L:=by
 intro i hi;rw [ek] at hi;have V:El (nth (ai L k) c):=Ps (hL.row hk) hc;have Z:=F.cl.inv _ V h0;by_cases e:i=t
 ·exact ((RS.row F hk).smul F Z).congr λx Y=>by rw [eT F hL ht hk hc h0 hi Y,KX e]
 ·have X:=Kj ht hk hi;exact ((RS.row F X).comb F ((RS.row F hk).smul F Z) (s:=nth (ai L (sw t k i)) c) (Ps (hL.row X) hc)).congr λx Y=>by rw [eT F hL ht hk hc h0 hi Y,KY e]
theorem Bu:eF O El m L (eD O L t k c):=by
 intro i hi;have N:El (nth (ai L k) c):=Ps (hL.row hk) hc;have V:=F.cl.inv _ N h0;have U:t<(eD O L t k c).length:=by rw [ek];exact ht
 by_cases e:i=k
 ·refine ((RS.row F U).smul F N).congr λx Y=>?_;have Z:El (nth (ai L k) x):=Ps (hL.row hk) Y;rw [eT F hL ht hk hc h0 ht Y,KX rfl,<- F.mul_assoc _ _ _ N V Z,F.mul_inv _ N h0,F.one_mul _ Z,e]
 ·have Q:∃j,j<L.length/\j ≠ t/\sw t k j=i:=by
   by_cases E:i=t
   ·exact ⟨k,hk,by omega,by unfold sw;rw [KY (by omega),KX rfl,E]⟩
   ·exact ⟨i,hi,E,by unfold sw;rw [KY E,KY e]⟩
  obtain ⟨j,Q,D,hsw⟩:=Q;have C:El (nth (ai L i) c):=Ps (hL.row hi) hc;refine ((RS.row F (i:=j) (by rw [ek];exact Q)).comb F (RS.row F U) (s:=O.neg (nth (ai L i) c)) (F.cl.neg _ C)).congr λx Y=>?_;have Z:El (nth (ai L k) x):=Ps (hL.row hk) Y;have X:El (nth (ai L i) x):=Ps (hL.row hi) Y;have A:=F.cl.mul _ _ V Z;have H:=F.cl.mul _ _ A C;rw [eT F hL ht hk hc h0 ht Y,KX rfl,eT F hL ht hk hc h0 Q Y,KY D,hsw,F.mul_neg A C,F.neg_neg H,F.add_assoc _ _ _ X (F.cl.neg _ H) H,F.lL H,F.add_zero _ X]
end
theorem lh.next (F:bK O El) {L:Ll} {P:LI} {c k:Nat} (h:lh L P c) (hL:bt El m L) (hc:c<m) (ht:P.length<L.length) (hk:k<L.length) (A:P.length<=k) (h0:nth (ai L k) c ≠ 0) :
  lh (eD O L P.length k c) (P ++ [(c:Int)]) (c+1):=by
 have X:El (nth (ai L k) c):=Ps (hL.row hk) hc;have Z:=F.cl.inv _ X h0;have hsw:∀i,P.length<=i->i<L.length->P.length<=sw P.length k i/\sw P.length k i<L.length:=λi h1 h2=>by unfold sw;split;omega;split <;> omega
 have Q:∀i,i<P.length->sw P.length k i=i:=λi h1=>by unfold sw;rw [KY (by omega),KY (by omega)]
 refine ⟨by rw [ek,K6];simp;omega,λj C=>?_,λj i C hi=>?_,λi x h1 h2 H=>?_⟩
 ·rw [iD];rw [K6,Lo] at C;by_cases e:j<P.length
  ·rw [KX e];have:=h.lt j e;omega
  ·rw [KY e,KX (by omega)];omega
 ·rw [K6,Lo] at C;rw [ek] at hi;rw [iD];by_cases e:j<P.length
  ·rw [KX e];have hb:=h.lt j e;have H:(nth P j).toNat<m:=by omega
   have N:=h.one j k e hk;rw [KY (by omega)] at N;rw [eT F hL ht hk hc h0 hi H,N,F.dh Z];by_cases V:i=P.length
   ·rw [KX V,KY (by omega)]
   ·rw [KY V];have Y:sw P.length k i<L.length:=by unfold sw;split;omega;split <;> omega
    rw [F.jw (Ps (hL.row Y) hc),F.fw,F.add_zero _ (Ps (hL.row Y) H),h.one j _ e Y];by_cases r:i<P.length
    ·rw [Q i r]
    ·have:=(hsw i (by omega) hi).1;rw [KY (by omega),KY (by omega)]
  ·have z:j=P.length:=by omega
   rw [KY e,KX z,KV,eT F hL ht hk hc h0 hi hc,z];by_cases V:i=P.length
   ·rw [KX V,KX V,F.mul_comm _ _ Z X,F.mul_inv _ X h0]
   ·rw [KY V,KY V];have Y:sw P.length k i<L.length:=by unfold sw;split;omega;split <;> omega
    have U:El (nth (ai L (sw P.length k i)) c):=Ps (hL.row Y) hc;rw [F.mul_comm _ _ Z X,F.mul_inv _ X h0,F.one_mul _ U,F.add_neg _ U]
 ·rw [K6,Lo] at h1;rw [ek] at h2;have D:x<m:=by omega
  have E:=hsw i (by omega) h2;have U:El (nth (ai L (sw P.length k i)) c):=Ps (hL.row E.2) hc;rw [eT F hL ht hk hc h0 h2 D,KY (by omega)];by_cases e:x=c
  ·subst e;rw [F.mul_comm _ _ Z X,F.mul_inv _ X h0,F.one_mul _ U,F.add_neg _ U]
  ·rw [h.zero _ x E.1 E.2 (by omega),h.zero k x A hk (by omega),F.dh Z,F.jw U,F.fw,F.add_zero 0 F.zero]
theorem iB (F:bK O El) {L:Ll} (hL:bt El m L) (k:Nat) (hk:k<=m):bt El m (aD O L k).1 :=
 (gQ (O':=O) ⟨λ_ _ _ _=>rfl,λ_ _ _ _=>rfl,λ_ _=>rfl,λ_ _ _=>rfl⟩ F.cl hL k hk).2
theorem fV (F:bK O El) {L:Ll} (hL:bt El m L):∀k,k<=m->lh (aD O L k).1 (aD O L k).2 k/\eF O El m (aD O L k).1 L/\eF O El m L (aD O L k).1
 | 0,_=>⟨⟨K0 _,λj Y=>by simp [aD] at Y,λj i Y=>by simp [aD] at Y,λi x _ _ H=>by omega⟩,.refl F L,.refl F L⟩
 | k+1,hk=>by
  obtain ⟨h1,h2,h3⟩:=fV F hL k (by omega);have N:=iB F hL k (by omega);have hb:=kZ (L:=(aD O L k).1) (c:=k) (k:=(aD O L k).2.length) h1.le;by_cases Z:(aD O L k).2.length<(aD O L k).1.length
  ·rw [dZ (Lk:=(aD O L k).1) (P:=(aD O L k).2) rfl Z];split
   ·rename_i E;refine ⟨⟨h1.le,λj Y=>⟨(h1.lt j Y).1,Int.lt_trans (h1.lt j Y).2 (by omega)⟩,h1.one,λi x V Q H=>?_⟩,h2,h3⟩;by_cases e:x=k
    ·subst e;exact lF _ x ((aD O L x).1.length - (aD O L x).2.length) _ i V (by show i<bd _ x _;rw [E];exact Q)
    ·exact h1.zero i x V Q (by omega)
   ·rename_i E;have X:bd (aD O L k).1 k (aD O L k).2.length<(aD O L k).1.length:=by omega
    have hne:nth (ai (aD O L k).1 (bd (aD O L k).1 k (aD O L k).2.length)) k ≠ 0:=il _ k _ _ (by show bd _ k _<_;omega);exact ⟨h1.next F N (by omega) Z X hb.1 hne,(Ae F N Z X (by omega) hne).trans h2,h3.trans (Bu F N Z X (by omega) hne)⟩
  ·have U:(aD O L k).2.length=L.length:=by have:=bN O L k;have:=h1.le;omega
   rw [gw U 1];have D:=bN O L k;exact ⟨⟨h1.le,λj Y=>by have:=h1.lt j Y;omega,h1.one,λi x V Q H=>by omega⟩,h2,h3⟩
theorem lh.ind (F:bK O El) {L:Ll} {P:LI} {c:Nat} (h:lh L P c):∀k,k<=P.length->Rk (kB O El L.length (ba L)) (j9 P k) k
 | 0,_=>.nil
 | k+1,hk=>by
  rw [j9];refine .ind _ (λhc=>?_) (h.ind F k (by omega));have Y:=h.le;have h1:=hc (λv=>nth v k) (kT.BO F (by omega)) λy Z=>by obtain ⟨j,X,rfl⟩:=(fM P y k).1 Z;show nth (ba L _) k=0;rw [dj L _ k (by omega),h.one j k (by omega) (by omega),KY (by omega)]
  have h2:nth (ba L (nth P k).toNat) k=0:=h1;rw [dj L _ k (by omega),h.one k k (by omega) (by omega),KX rfl] at h2;exact absurd h2 (by decide)
def iL (O:aP) (L:Ll) (P:LI) (v:LI):Nat->LI
 | 0=>v
 | k+1=>dY O (iL O L P v k) (nth (iL O L P v k) k) (ba L (nth P k).toNat)
theorem lh.less (F:bK O El) {L:Ll} {P:LI} {c:Nat} (h:lh L P c) (hL:bt El m L) {v:LI} (U:Vc El L.length v) {V:LI->Int} (Y:kT O El L.length V)
  (h0:∀j,j<P.length->V (ba L (nth P j).toNat)=0):∀k,k<=P.length->Vc El L.length (iL O L P v k)/\V (iL O L P v k)=V v/\∀i,i<L.length->nth (iL O L P v k) i=if i<k then 0 else nth v i
 | 0,_=>⟨U,rfl,λi _=>by rw [KY (by omega)];rfl⟩
 | k+1,hk=>by
  obtain ⟨h1,h2,h3⟩:=h.less F hL U Y h0 k (by omega);have hle:=h.le;have Z:=ch hL F.zero (nth P k).toNat;have X:=h1.at (i:=k) (by omega);refine ⟨h1.sub F Z X,?_,λi hi=>?_⟩
  ·rw [iL,Y.sub _ _ _ h1 Z X,h0 k (by omega),F.dh X,F.fw,F.add_zero _ (Y.el _ h1),h2]
  ·rw [iL,eS O _ _ _ i (by rw [Z.1,h1.1]) (by rw [h1.1];exact hi),dj L _ i hi,h.one k i (by omega) hi];by_cases e:i=k
   ·subst e;rw [KX rfl,F.iV X,F.add_neg _ X,KX (by omega)]
   ·rw [KY e,F.dh X,F.fw,F.add_zero _ (h1.at hi),h3 i hi];by_cases Q:i<k
    ·rw [KX Q,KX (by omega)]
    ·rw [KY Q,KY (by omega)]
theorem lh.all (F:bK O El) {L:Ll} {P:LI} (h:lh L P m) (hL:bt El m L) {x:Nat} (Y:x<m):kB O El L.length (ba L) (j9 P P.length) x:=by
 intro V Z h0;obtain ⟨h1,h2,h3⟩:=h.less F hL (ch hL F.zero x) Z (λj X=>h0 _ ((fM P _ _).2 ⟨j,X,rfl⟩)) _ (KT _);rw [<- h2];refine Z.zero F h1 λi hi=>?_;rw [h3 i hi];split
 ·rfl
 ·rw [dj L x i hi];exact h.zero i x (by omega) hi Y
theorem Rk.map {cl cl':LN->Nat->Prop} (D:Nat->Prop) (f:Nat->Nat) (hc:∀l x,(∀y ∈ l,D y)->D x->(cl l x ↔ cl' (l.map f) (f x))) {l:LN} {r:Nat} (h:Rk cl l r):(∀y ∈ l,D y)->Rk cl' (l.map f) r:=by
 induction h with
 | nil=>intro _;exact .nil
 | dep x X _ V =>
  intro Y
  exact .dep _ ((hc _ _ (λy Z=>Y y (List.mem_cons.2 (.inr Z))) (Y x (by simp))).1 X) (V λy Z=>Y y (List.mem_cons.2 (.inr Z)))
 | ind x X _ V =>
  intro Y
  exact .ind _ (λh=>X ((hc _ _ (λy Z=>Y y (List.mem_cons.2 (.inr Z))) (Y x (by simp))).2 h)) (V λy Z=>Y y (List.mem_cons.2 (.inr Z)))
theorem FH (F:bK O El) {L:Ll} (hL:bt El m L):Rk (kB O El L.length (ba L)) (List.range m) (aD O L m).2.length:=by
 obtain ⟨h1,h2,h3⟩:=fV F hL m (KT _);have Q:=iB F hL m (KT _);have E:=gg F Q;have H:=(h1.ind F _ (KT _)).zZ E (List.range m) λx Y=>h1.all F Q (List.mem_range.1 Y);have N:=Rk.map (cl':=kB O El L.length (ba L)) (λy=>y<m) id (λl x U Y=>by rw [NL];exact ⟨h3.cl U Y,h2.cl U Y⟩) H λy Z=>by
  rcases List.mem_append.1 Z with Z | Z
  ·exact List.mem_range.1 Z
  ·obtain ⟨j,X,rfl⟩:=(fM _ _ _).1 Z;have:=h1.lt j X;omega
 obtain ⟨r,V⟩:=Rk.ex (kB O El L.length (ba L)) (List.range m);have e:=Rk.same (gg F hL) N V λx=>by
  rw [NL,L8];constructor
  ·rintro (h | h)
   ·exact h
   ·obtain ⟨j,X,rfl⟩:=(fM _ _ _).1 h;have:=h1.lt j X;exact List.mem_range.2 (by omega)
  ·exact .inl
 rw [e];exact V
def bR (Q:LI) (r:LI):LI:=Q.map λq=>nth r q.toNat
theorem pA (Q r:LI) {i:Nat} (hi:i<Q.length):nth (bR Q r) i=nth r (nth Q i).toNat:=by rw [aj (show i<(bR Q r).length by simpa [bR] using hi),aj hi];simp [bR]
theorem zl {L:Ll} (hL:bt El n L) {Q:LI} (U:∀j,j<Q.length->0<=nth Q j/\nth Q j<n):bt El Q.length (L.map (bR Q)):=by intro r V;obtain ⟨Y,h0,rfl⟩:=List.mem_map.1 V;refine ⟨by simp [bR],λx X=>?_⟩;obtain ⟨q,N,rfl⟩:=List.mem_map.1 X;obtain ⟨j,Z,rfl⟩:=List.mem_iff_getElem.1 N;have:=U j Z;rw [aj Z] at this;exact (hL Y h0).2 _ (aG (by rw [(hL Y h0).1];omega))
theorem It (F:bK O El) {L:Ll} (hL:bt El n L) {Q:LI} (E:∀j,j<Q.length->0<=nth Q j/\nth Q j<n) :
  Rk (kB O El L.length (ba L)) ((List.range Q.length).map λj=>(nth Q j).toNat) (aD O (L.map (bR Q)) Q.length).2.length:=by
 have D:=zl hL E;have Z:∀j,j<Q.length->ba (L.map (bR Q)) j=ba L (nth Q j).toNat:=λj V=>by unfold ba;rw [O4];exact MF λr _=>pA Q r V
 refine Rk.map (λj=>j<Q.length) _ (λl x H N=>?_) (FH F D) λy X=>List.mem_range.1 X;unfold kB;rw [Lc];constructor
 ·intro h U Y h0;rw [<- Z x N];refine h U Y λy X=>?_;rw [Z y (H y X)];exact h0 _ (List.mem_map.2 ⟨y,X,rfl⟩)
 ·intro h U Y h0;rw [Z x N];refine h U Y λy X=>?_;obtain ⟨j,V,rfl⟩:=List.mem_map.1 X;rw [<- Z j (H j V)];exact h0 j V
end
theorem fo (a:OA) (n c:Nat) (l:LI) (a':OA) (N r:Nat) (Z:LI) {w:World} (h:Ints w a n l) (H:Ints w a' N Z) :
  Calls prog 19 #[.slice a n c,.slice a' N r] w (jd w (decide (l=Z))):=by
 have D:=Z5 h.len;have V:=Z5 H.len;have hpl:=h.pl;have z:=H.pl;have U:=h.max;unfold maxLen at U;by_cases A:n=N
 ·subst A;have E:((n:Int) != n)=false:=by simp
  go_enter func19,ntmps19;go_wp2_with fail;go_loopw [5] (λj wr=>∃k:Nat,k<=n/\j = cG k/\Hid (l.take k=Z.take k)/\bg w wr) (λi _=>n - (intOf i).toNat);case atStart=>exact ⟨0,K0 _,rfl,rfl,Pt _⟩
  case round =>
   obtain ⟨k,hk,rfl,Q,hd⟩:=hrel
   by_cases Y:k<n
   ·have c1:=(h.drawn hd).cell k Y
    have c2:=(H.drawn hd).cell k Y
    by_cases he:nth l k=nth Z k
    ·have C:(nth l k != nth Z k)=false:=by simpa using he
     have X:Hid (l.take (k+1)=Z.take (k+1)):=pT Q.out (by rw [D.out];exact Y) (by rw [V.out];exact Y) he
     clear he
     go_wp2_with fail
     go_quiet (fail)
     go_wp2
     go_roundw
     case rel=>exact ⟨k+1,by omega,by go_num,X,hd.drewN _⟩
     case measure=>simp [intOf] <;> omega
    ·have C:(nth l k != nth Z k)=true:=by simpa using he
     have X:Hid (decide (l=Z)=false):=by show _=_;simp;intro e;exact he (by rw [e])
     clear he
     go_wp2_with fail
     go_quiet (fail)
     go_wp2
     go_ret
     exact ⟨aX X.symm,hd.drewN _⟩
   ·obtain rfl:k=n:=by omega
    have X:Hid (decide (l=Z)=true):=by show _=_;have:=Q.out;rw [K5 (by rw [D.out];exact KT _),K5 (by rw [V.out];exact KT _)] at this;simpa using this
    go_wp2_with fail
    go_ret
    exact ⟨aX X.symm,hd⟩
 ·have E:((n:Int) != N)=true:=by simp;omega
  have X:Hid (decide (l=Z)=false):=by show _=_;simp;intro e;have e1:=D.out;have e2:=V.out;rw [e] at e1;omega
  clear A;go_enter func19,ntmps19;go_wp2_with fail;go_ret;exact ⟨aX X.symm,Pt _⟩
theorem gZ (a:OA) (n c:Nat) (l:Ll) (a':OA) (D c':Nat) (Y:Ll) {w:World} (h:bw w a n l) (C:bw w a' D Y) :
  Calls prog 44 #[.slice a n c,.slice a' D c'] w (jd w (decide (l=Y))):=by
 have j:=Z5 h.len;have Q:=Z5 C.len;have hpl:=h.pl;have hpl':=C.pl;have N:=h.max;unfold maxLen at N;by_cases hn:n=D
 ·subst hn;have A:((n:Int) != n)=false:=by simp
  go_enter func44,ntmps44;go_wp2_with fail;go_loopw [5] (λiv wr=>∃k:Nat,k<=n/\iv = cG k/\Hid (l.take k=Y.take k)/\bg w wr) (λi _=>n - (intOf i).toNat);case atStart=>exact ⟨0,K0 _,rfl,rfl,Pt _⟩
  case round =>
   obtain ⟨k,hk,rfl,H,hd⟩:=hrel
   by_cases X:k<n
   ·obtain ⟨b1,n1,d1,c1,i1⟩:=(h.drawn hd).cell k X
    obtain ⟨b2,z,d2,c2,i2⟩:=(C.drawn hd).cell k X
    have E:=Z5 (fo b1 n1 d1 _ b2 z d2 _ (i1.drawn (Pt wr).drew) (i2.drawn (Pt wr).drew))
    by_cases he:ai l k=ai Y k
    ·have Z:decide (ai l k=ai Y k)=true:=by simpa using he
     have U:Hid (l.take (k+1)=Y.take (k+1)):=oI H.out (by rw [j.out];exact X) (by rw [Q.out];exact X) he
     rw [Z] at E
     clear he Z
     go_wp2_with fail
     go_region_held3 (λV=>V.cell? ⟨ablk a,aJ a+k,none⟩=some (.slice b1 n1 d1)/\V.cell? ⟨ablk a',aJ a'+k,none⟩=some (.slice b2 z d2)) (exact ⟨c1,c2⟩)
      (first | (go_at_call 19;((with_reducible refine E.out.mono ?_);rintro e w4 ⟨rfl,r,rfl⟩)))
     go_wp2_with fail
     go_roundw
     case rel=>exact ⟨k+1,by omega,by go_num,U,hd.drewN (1+r)⟩
     case measure=>simp [intOf] <;> omega
    ·have Z:decide (ai l k=ai Y k)=false:=by simpa using he
     have U:Hid (decide (l=Y)=false):=by show _=_;simp;intro e;exact he (by rw [e])
     rw [Z] at E
     clear he Z
     go_wp2_with fail
     go_region_held3 (λV=>V.cell? ⟨ablk a,aJ a+k,none⟩=some (.slice b1 n1 d1)/\V.cell? ⟨ablk a',aJ a'+k,none⟩=some (.slice b2 z d2)) (exact ⟨c1,c2⟩)
      (first | (go_at_call 19;((with_reducible refine E.out.mono ?_);rintro e w4 ⟨rfl,r,rfl⟩)))
     go_wp2_with fail
     go_ret
     exact ⟨aX U.symm,hd.drewN (1+r)⟩
   ·obtain rfl:k=n:=by omega
    have U:Hid (decide (l=Y)=true):=by show _=_;have:=H.out;rw [K5 (by rw [j.out];exact KT _),K5 (by rw [Q.out];exact KT _)] at this;simpa using this
    go_wp2_with fail
    go_ret
    exact ⟨aX U.symm,hd⟩
 ·have A:((n:Int) != D)=true:=by simp;omega
  have U:Hid (decide (l=Y)=false):=by show _=_;simp;intro e;have e1:=j.out;have e2:=Q.out;rw [e] at e1;omega
  clear hn;go_enter func44,ntmps44;go_wp2_with fail;go_ret;exact ⟨aX U.symm,Pt _⟩
theorem kV (P M:Int) (am:OA) (U cm:Nat) (a:OA) (n c:Nat) (l:LI) (w:World) (hi:Ints w a n l) :
  Calls prog 87 #[.agg #[cG P,cG M,.slice am U cm],.slice a n c] w λe w'=>e = .returned (cG (iO (aK P M) l))/\PY w w':=by
 have Q:=Z5 hi.len;have hpl:=hi.pl;have r:=hi.max;unfold maxLen at r;go_enter func87,ntmps87;go_wp2_with fail;obtain ⟨W,hW⟩:∃W:World,W=w.alloc (.cells #[cG P,cG M,.slice am U cm] 24):=⟨_,rfl⟩
 rw [<- hW];have H:PY w W:=by rw [hW];exact an _ _
 have x0:aQ W w.heap.size [cG P,cG M,.slice am U cm]:=by rw [hW];exact Po _ _ _ rfl
 have hiW:=hi.af H;have hS:∀k,k<n->∀V,PY W V->V.cell? ⟨w.heap.size,0,none⟩=some (cG P)/\V.cell? ⟨w.heap.size,1,none⟩=some (cG M)/\V.cell? ⟨w.heap.size,2,none⟩=some (.slice am U cm)/\V.cell? ⟨ablk a,aJ a+k,none⟩=some (cG (nth l k))/\PY W V:=by intro k hk V hV;have x1:=x0.af hV;exact ⟨x1.cell 0 rfl,x1.cell 1 rfl,x1.cell 2 rfl,(hiW.af hV).cell k hk,hV⟩
 have HS:=Z5 hS;clear hW x0 hS;go_loopw [5] (λiv wr=>∃k:Nat,k<=n/\iv = cG k/\Hid ((l.take k).all (iQ (aK P M))=true)/\PY W wr) (λiv _=>n - (intOf iv).toNat);case atStart=>exact ⟨0,K0 _,rfl,by show _=_;simp,KU _ _⟩
 case round =>
  obtain ⟨k,hk,rfl,X,N⟩:=hrel
  by_cases A:k<n
  ·have C:Hid (∀V,PY W V->V.cell? ⟨w.heap.size,0,none⟩=some (cG P)/\V.cell? ⟨w.heap.size,1,none⟩=some (cG M)/\V.cell? ⟨w.heap.size,2,none⟩=some (.slice am U cm)/\V.cell? ⟨ablk a,aJ a+k,none⟩=some (cG (nth l k))/\PY W V):=HS k A
   have Y:k<l.length:=by rw [Q.out];exact A
   have Z:=Z5 N
   have j:=Z5 (BI P M am U cm (nth l k))
   clear N
   by_cases D:iQ (aK P M) (nth l k)=true
   ·have z:Hid ((l.take (k+1)).all (iQ (aK P M))=true):=dJ Y X.out (by rw [<- aj Y];exact D)
    rw [D] at j
    clear D
    go_wp2_with fail
    go_region_held3 (λV=>V.cell? ⟨w.heap.size,0,none⟩=some (cG P)/\V.cell? ⟨w.heap.size,1,none⟩=some (cG M)/\V.cell? ⟨w.heap.size,2,none⟩=some (.slice am U cm)/\V.cell? ⟨ablk a,aJ a+k,none⟩=some (cG (nth l k))/\PY W V)
     ((refine C _ ?_;first | exact Z.drew | exact Pm Z.drew hb4))
     (first | (go_at_call 141;((with_reducible refine (j.out _).mono ?_);rintro e w4 ⟨rfl,hb4⟩)))
    go_wp2_with fail
    go_roundw
    case rel=>exact ⟨k+1,by omega,by go_num,z,Pm Z.drew hb4⟩
    case measure=>simp [intOf] <;> omega
   ·have E:iQ (aK P M) (nth l k)=false:=by simpa using D
    have z:Hid (iO (aK P M) l=2):=by show _=_;rw [iO,ez,dI Y (by rw [<- aj Y];exact E)];rfl
    rw [E] at j
    clear D E
    go_wp2_with fail
    go_region_held3 (λV=>V.cell? ⟨w.heap.size,0,none⟩=some (cG P)/\V.cell? ⟨w.heap.size,1,none⟩=some (cG M)/\V.cell? ⟨w.heap.size,2,none⟩=some (.slice am U cm)/\V.cell? ⟨ablk a,aJ a+k,none⟩=some (cG (nth l k))/\PY W V)
     ((refine C _ ?_;first | exact Z.drew | exact Pm Z.drew hb4))
     (first | (go_at_call 141;((with_reducible refine (j.out _).mono ?_);rintro e w4 ⟨rfl,hb4⟩)))
    go_wp2_with fail
    go_ret
    exact ⟨aN z.symm,Pm H (Pm Z.drew hb4)⟩
  ·obtain rfl:k=n:=by omega
   have z:Hid (iO (aK P M) l=0):=by have:=X.out;rw [K5 (by rw [Q.out];exact KT _)] at this;show _=_;rw [iO,ez,this];rfl
   go_wp2_with fail
   go_ret
   exact ⟨aN z.symm,Pm H N⟩
def bF (P M:Int) (mod:LI):Bool:=cH P M mod && (M == 1 || pj P mod)
theorem A7 {P M:Int} {mod:LI} (h:aK P M=0):cH P M mod=false:=by simp [cH,h]
theorem BC {P M:Int} {mod:LI} (h:gh P.toNat=false):cH P M mod=false:=by simp [cH,h]
theorem ld (P M:Int) (am:OA) (Y cm:Nat) (mod:LI) (w:World) (V:Ints w am Y mod) :
  Calls prog 40 #[.agg #[cG P,cG M,.slice am Y cm]] w λe w'=>e = .returned (cG (df (bF P M mod)))/\PY w w':=by
 have Q:=Z5 V.len;have hplm:=V.pl;have hmax:=V.max;unfold maxLen at hmax;go_enter func40,ntmps40;go_wp2_with fail;obtain ⟨W,hW⟩:∃W:World,W=w.alloc (.cells #[cG P,cG M,.slice am Y cm] 24):=⟨_,rfl⟩
 rw [<- hW];have hbW:PY w W:=by rw [hW];exact an _ _
 have x0:aQ W w.heap.size [cG P,cG M,.slice am Y cm]:=by rw [hW];exact Po _ _ _ rfl
 have HX:=Z5 x0;clear hW x0;refine (jh P M am Y cm W).mono ?_;rintro e w1 ⟨rfl,hb1⟩;have Z:=Pm hbW hb1;have xU:=HX.af hb1;have d0:=xU.cell 0 rfl;have d1:=xU.cell 1 rfl;have d2:=xU.cell 2 rfl;have hm1:=(V.af hbW).af hb1;clear xU;by_cases ho:aK P M=0
 ·have X:Hid (df (bF P M mod)=1):=by show _=_;rw [bF,A7 ho];rfl
  rw [ho];clear ho;go_wp2_with fail;go_ret;exact ⟨aN X.symm,Z⟩
 ·obtain ⟨m,rfl,A⟩:=RF.of ho;have hp2:=A.p2;have hp256:=A.p256;have hm1':=A.m1;have hm8:=A.m8;have hoo:(aK P m == 0)=false:=by simpa using ho
  have Ho:=Z5 ho;obtain ⟨p,rfl⟩:∃p:Nat,P=p:=⟨P.toNat,by omega⟩
  clear ho;by_cases C:gh p=true
  ·have Hpr:=Z5 C;have Hc:=Z5 (rH p w1 (by omega) (by omega));rw [C] at Hc;clear C;have hsh:cH p m mod=(if (m:Int)=1 then mod.length == 0 else decide ((mod.length:Int)=m) && mod.all λc=>decide (0<=c) && decide (c<p)):=by
    have h1:(aK p m != 0)=true:=by have:=Ho.out;simpa using this
    rw [cH,h1,KV,Hpr.out];rfl
   have Hsh:=Z5 hsh;clear hsh;by_cases hM:m=1
   ·have hM':((m:Int) == 1)=true:=by simp [hM]
    have z:(m:Int)=1:=by omega
    have N:Hid (bF p m mod=(mod.length == 0)):=by show _=_;rw [bF,Hsh.out,KX z,hM'];simp
    clear hM z;by_cases j:Y=0
    ·have hl':((Y:Int) != 0)=false:=by simp [j]
     have X:Hid (df (bF p m mod)=0):=by show _=_;rw [N.out,Q.out,j];rfl
     clear j;go_wp2_with (go_at_call 95;refine Hc.mono ?_;rintro e w2 ⟨rfl,rfl⟩);go_ret;exact ⟨aN X.symm,Z⟩
    ·have hl':((Y:Int) != 0)=true:=by simp;omega
     have X:Hid (df (bF p m mod)=1):=by
      show _=_;rw [N.out,Q.out];have:(Y == 0)=false:=by simpa using j
      rw [this];rfl
     clear j;go_wp2_with (go_at_call 95;refine Hc.mono ?_;rintro e w2 ⟨rfl,rfl⟩);go_ret;exact ⟨aN X.symm,Z⟩
   ·have hM':((m:Int) == 1)=false:=by simp;omega
    have z:¬ (m:Int)=1:=by omega
    have N:Hid (bF p m mod=(decide ((mod.length:Int)=m) && (mod.all λc=>decide (0<=c) && decide (c<p)) && pj p mod)):=by show _=_;rw [bF,Hsh.out,KY z,hM'];simp
    clear hM z;by_cases j:Y=m
    ·have hl':((Y:Int) != m)=false:=by simp [j]
     have H:Hid (bF p m mod=((mod.all λc=>decide (0<=c) && decide (c<p)) && pj p mod)):=by show _=_;rw [N.out,Q.out,j];simp
     have Hmn:Hid (Y=m):=j;have hmnm:(Y:Int)=m:=by omega
     clear j hmnm;go_wp2_with (go_at_call 95;refine Hc.mono ?_;rintro e w2 ⟨rfl,rfl⟩);go_loopw [3] (λiv wr=>∃k:Nat,k<=m/\iv = cG k/\Hid ((mod.take k).all (λc=>decide (0<=c) && decide (c<p))=true)/\bg w1 wr) (λiv _=>m - (intOf iv).toNat);case atStart=>exact ⟨0,K0 _,rfl,by show _=_;simp,Pt _⟩
     case round =>
      obtain ⟨k,hk,rfl,hall,hd⟩:=hrel
      have e0:=hd.cell d0
      have e1:=hd.cell d1
      have e2:=hd.cell d2
      have hmr:=hm1.drawn hd
      by_cases hlt:k<m
      ·have hkmn:k<Y:=by rw [Hmn.out];exact hlt
       have ck:=hmr.cell k hkmn
       have U:k<mod.length:=by rw [Q.out];exact hkmn
       have hkmn':(k:Int)<Y:=by omega
       by_cases h0:0<=nth mod k
       ·have t0:decide (nth mod k<0)=false:=by simp;omega
        by_cases h1:nth mod k<p
        ·have t1:decide ((p:Int)<=nth mod k)=false:=by simp;omega
         have Hs:Hid ((mod.take (k+1)).all (λc=>decide (0<=c) && decide (c<p))=true):=dJ U hall.out (by rw [<- aj U];simp [h0,h1])
         go_wp2_with fail
         go_quiet (fail)
         go_wp2
         go_roundw
         case rel=>exact ⟨k+1,by omega,by go_num,Hs,hd.drewN _⟩
         case measure=>simp [intOf] <;> omega
        ·have t1:decide ((p:Int)<=nth mod k)=true:=by simp;omega
         have X:Hid (df (bF p m mod)=1):=by show _=_;rw [H.out,dI U (by rw [<- aj U];simp [h1])];rfl
         go_wp2_with fail
         go_quiet (fail)
         go_wp2
         go_ret
         exact ⟨aN X.symm,Pm Z (hd.drewN _).below⟩
       ·have t0:decide (nth mod k<0)=true:=by simp;omega
        have X:Hid (df (bF p m mod)=1):=by show _=_;rw [H.out,dI U (by rw [<- aj U];simp [h0])];rfl
        go_wp2_with fail
        go_quiet (fail)
        go_wp2
        go_ret
        exact ⟨aN X.symm,Pm Z (hd.drewN _).below⟩
      ·obtain rfl:k=m:=by omega
       have Hall:Hid ((mod.all λc=>decide (0<=c) && decide (c<p))=true):=by have:=hall.out;rwa [K5 (by rw [Q.out,Hmn.out];exact KT _)] at this
       have HfR3:Hid (bF p k mod=pj p mod):=by show _=_;rw [H.out,Hall.out];simp
       have hdig:dG (p:Int) mod:=PO (by omega) λx hx=>by have:=List.all_eq_true.1 Hall.out x hx;simpa using this
       have hpw:(p:Int) ^ Y<=256:=by rw [Hmn.out];exact A.pw
       have hmn8:Y<=8:=by rw [Hmn.out];exact hm8
       go_wp2_with fail
       refine (ph am Y cm mod p wr hmr hp2 hp256 hdig hmn8 hpw).mono ?_
       rintro e w4 ⟨rfl,hb4⟩
       have hbw4:=Pm (Pm Z hd.below) hb4
       by_cases r:pj p mod=true
       ·have X:Hid (df (bF p k mod)=0):=by show _=_;rw [HfR3.out,r];rfl
        rw [r]
        clear r
        go_wp2_with fail
        go_ret
        exact ⟨aN X.symm,hbw4⟩
       ·have D:pj p mod=false:=by simpa using r
        have X:Hid (df (bF p k mod)=1):=by show _=_;rw [HfR3.out,D];rfl
        rw [D]
        clear r D
        go_wp2_with fail
        go_ret
        exact ⟨aN X.symm,hbw4⟩
    ·have hl':((Y:Int) != m)=true:=by simp;omega
     have X:Hid (df (bF p m mod)=1):=by
      show _=_;rw [N.out,Q.out];have:decide ((Y:Int)=m)=false:=by simp;omega
      rw [this];rfl
     clear j;go_wp2_with (go_at_call 95;refine Hc.mono ?_;rintro e w2 ⟨rfl,rfl⟩);go_ret;exact ⟨aN X.symm,Z⟩
  ·have E:gh p=false:=by simpa using C
   have X:Hid (df (bF p m mod)=1):=by show _=_;rw [bF,BC (by simpa using E)];rfl
   have Hc:=Z5 (rH p w1 (by omega) (by omega));rw [E] at Hc;clear C E;go_wp2_with (go_at_call 95;refine Hc.mono ?_;rintro e w2 ⟨rfl,rfl⟩);go_ret;exact ⟨aN X.symm,Z⟩
section
variable {O:aP} {El:Int->Prop} {m n:Nat}
def dotN (O:aP) (a b:Nat->Int):Nat->Int
 | 0=>0
 | t+1=>O.add (dotN O a b t) (O.mul (a t) (b t))
theorem kJ (F:bK O El) {a b:Nat->Int}:∀t,(∀p,p<t->El (a p))->(∀p,p<t->El (b p))->El (dotN O a b t)
 | 0,_,_=>F.zero
 | t+1,ha,hb=>F.cl.add _ _ (kJ F t (λp Z=>ha p (by omega)) λp Z=>hb p (by omega)) (F.cl.mul _ _ (ha t (by omega)) (hb t (by omega)))
theorem gr (F:bK O El) {a b:Nat->Int}:∀t,(∀p,p<t->El (a p))->(∀p,p<t->El (b p))->dotN O a b t=dotN O b a t
 | 0,_,_=>rfl
 | t+1,ha,hb=>by rw [dotN,dotN,gr F t (λp Z=>ha p (by omega)) λp Z=>hb p (by omega),F.mul_comm _ _ (ha t (by omega)) (hb t (by omega))]
theorem eO {a b a' b':Nat->Int}:∀t,(∀p,p<t->a p=a' p/\b p=b' p)->dotN O a b t=dotN O a' b' t
 | 0,_=>rfl
 | t+1,h=>by rw [dotN,dotN,eO t λp Z=>h p (by omega),(h t (by omega)).1,(h t (by omega)).2]
theorem mc (F:bK O El) {a b:Nat->Int}:∀t,(∀p,p<t->O.mul (a p) (b p)=0)->dotN O a b t=0
 | 0,_=>rfl
 | t+1,h=>by rw [dotN,mc F t λp Z=>h p (by omega),h t (by omega),F.add_zero 0 F.zero]
theorem lW (F:bK O El) {a b:Nat->Int} {x:Nat} (Z:El (O.mul (a x) (b x))):∀t,(∀p,p<t->p ≠ x->O.mul (a p) (b p)=0)->dotN O a b t=if x<t then O.mul (a x) (b x) else 0
 | 0,_=>rfl
 | t+1,h=>by
  rw [dotN,lW F Z t λp X=>h p (by omega)];by_cases e:t=x
  ·subst e;rw [KY (by omega),KX (by omega),F.tP Z]
  ·rw [h t (by omega) e];by_cases Y:x<t
   ·rw [KX Y,KX (by omega),F.add_zero _ Z]
   ·rw [KY Y,KY (by omega),F.add_zero 0 F.zero]
theorem yJ (F:bK O El) {a b:Nat->Int} {x y:Nat} (U:x ≠ y) (Y:El (O.mul (a x) (b x))) (X:El (O.mul (a y) (b y))):∀t,(∀p,p<t->p ≠ x->p ≠ y->O.mul (a p) (b p)=0) ->
  dotN O a b t=O.add (if x<t then O.mul (a x) (b x) else 0) (if y<t then O.mul (a y) (b y) else 0)
 | 0,_=>by rw [KY (by omega),KY (by omega)];exact (F.add_zero 0 F.zero).symm
 | t+1,h=>by
  rw [dotN,yJ F U Y X t λp Q=>h p (by omega)];by_cases e:t=x
  ·subst e;rw [KY (N4 t),KX (Nat.lt_succ_self t)];by_cases Z:y<t
   ·rw [KX Z,KX (show y<t+1 by omega),F.tP X,F.add_comm _ _ X Y]
   ·rw [KY Z,KY (show ¬ y<t+1 by omega),F.tP F.zero,F.tP Y,F.add_zero _ Y]
  ·by_cases e1:t=y
   ·subst e1;by_cases Z:x<t
    ·rw [KX Z,KY (by omega),KX (by omega),KX (by omega),F.add_zero _ Y]
    ·rw [KY Z,KY (by omega),KY (by omega),KX (by omega),F.add_zero 0 F.zero]
   ·rw [h t (by omega) e e1];by_cases Z:x<t
    ·by_cases V:y<t
     ·rw [KX Z,KX V,KX (by omega),KX (by omega),F.add_zero _ (F.cl.add _ _ Y X)]
     ·rw [KX Z,KY V,KX (by omega),KY (by omega),F.add_zero _ (F.cl.add _ _ Y F.zero)]
    ·by_cases V:y<t
     ·rw [KY Z,KX V,KY (by omega),KX (by omega),F.add_zero _ (F.cl.add _ _ F.zero X)]
     ·rw [KY Z,KY V,KY (by omega),KY (by omega),F.add_zero _ (F.cl.add _ _ F.zero F.zero)]
def ea (O:aP) (r:Nat->Int) (K:Ll):Nat->LI
 | 0=>List.replicate K.length 0
 | t+1=>dY O (ea O r K t) (O.neg (r t)) (ba K t)
theorem oP (F:bK O El) {r:Nat->Int} {K:Ll} (Y:bt El m K):∀t,(∀p,p<t->El (r p))->Vc El K.length (ea O r K t)
 | 0,_=>⟨by simp [ea],λy X=>by have:=L6 X;rw [this];exact F.zero⟩
 | t+1,Z=>(oP F Y t λp V=>Z p (by omega)).sub F (ch Y F.zero t) (F.cl.neg _ (Z t (by omega)))
theorem CP (F:bK O El) {r:Nat->Int} {K:Ll} (X:bt El m K) {j:Nat} (Z:j<K.length):∀t,t<=m->(∀p,p<t->El (r p))->nth (ea O r K t) j=dotN O r (λp=>nth (ai K j) p) t
 | 0,_,_=>by simp [ea,dotN,nth,KZ,Ls,Z]
 | t+1,ht,V=>by have Q:=oP F X t λp N=>V p (by omega);have hc:=ch X F.zero t;have Y:=V t (by omega);have U:El (nth (ai K j) t):=Ps (X.row Z) (by omega);rw [ea,eS O _ _ _ j (by rw [hc.1,Q.1]) (by rw [Q.1];exact Z),CP F X Z t (by omega) λp N=>V p (by omega),dj K t j Z,F.neg_mul Y U,F.neg_neg (F.cl.mul _ _ Y U)];rfl
theorem uK (F:bK O El) {r:Nat->Int} {K:Ll} (X:bt El m K) {U:LI->Int} (Z:kT O El K.length U):∀t,(∀p,p<t->El (r p))->U (ea O r K t)=dotN O r (λp=>U (ba K p)) t
 | 0,_=>Z.zero F (oP F X 0 λp N=>by omega) λi hi=>by simp [ea,nth,KZ,Ls,hi]
 | t+1,V=>by have H:=oP F X t λp N=>V p (by omega);have hc:=ch X F.zero t;have Y:=V t (by omega);have Q:=Z.el _ hc;rw [ea,Z.sub _ _ _ H hc (F.cl.neg _ Y),uK F X Z t λp N=>V p (by omega),F.neg_mul Y Q,F.neg_neg (F.cl.mul _ _ Y Q)];rfl
theorem kj (F:bK O El) {r:Nat->Int} {K:Ll} (X:bt El m K) {V:LI->Int} (Z:kT O El K.length V) (Y:∀p,p<m->El (r p)) (h:∀j,j<K.length->dotN O r (λp=>nth (ai K j) p) m=0) :
  dotN O r (λp=>V (ba K p)) m=0:=by rw [<- uK F X Z m Y];exact Z.zero F (oP F X m Y) λi hi=>by rw [CP F X hi m (KT _) Y];exact h i hi
def ou (O:aP) (m:Nat) (G K:Ll):Prop:=∀i j,i<G.length->j<K.length->dotN O (λp=>nth (ai G i) p) (λp=>nth (ai K j) p) m=0
variable {G K:Ll}
theorem ou.symm (F:bK O El) (X:bt El m G) (V:bt El m K) (h:ou O m G K):ou O m K G:=λi j hi Y=>by rw [gr F m (λp Z=>Ps (V.row hi) Z) λp Z=>Ps (X.row Y) Z];exact h j i Y hi
theorem ou.Kp (F:bK O El) (X:bt El m G) (H:bt El m K) (h:ou O m G K) {U N:LI->Int} (Y:kT O El K.length U) (V:kT O El G.length N) :
  dotN O (λp=>U (ba K p)) (λp=>N (ba G p)) m=0:=by have Z:∀p,p<m->El (U (ba K p)):=λp _=>Y.el _ (ch H F.zero p);refine kj F X V Z λi hi=>?_;rw [gr F m Z λp Q=>Ps (X.row hi) Q];exact kj F H Y (λp Q=>Ps (X.row hi) Q) λj E=>h i j hi E
theorem ou.cl (F:bK O El) (U:bt El m G) (Q:bt El m K) (h:ou O m G K) {A B:LN} {x:Nat} (D:x<m) (X:∀p,p<m->p ≠ x->p ∈ A\/p ∈ B) (z:¬ kB O El G.length (ba G) A x) :
  kB O El K.length (ba K) B x:=by
 intro E Y h0;apply Lr;intro hne;apply z;intro N Z r;have hd:=h.Kp F U Q Y Z;have e1:=Y.el _ (ch Q F.zero x);have H:=Z.el _ (ch U F.zero x);rw [lW F (x:=x) (F.cl.mul _ _ e1 H) m λp C V=>?_,KX D] at hd
 ·exact F.vr e1 H hne hd
 ·rcases X p C V with h1 | h1
  ·show O.mul (E (ba K p)) (N (ba G p))=0;rw [r p h1,F.dh (Y.el _ (ch Q F.zero p))]
  ·show O.mul (E (ba K p)) (N (ba G p))=0;rw [h0 p h1,F.jw (Z.el _ (ch U F.zero p))]
theorem I6 {cl:LN->Nat->Prop} {l:LN} {x n Z:Nat} (h:Rk cl l n) (X:Rk cl (x :: l) Z):Z<=n+1/\(cl l x->Z=n):=by
 cases X with
 | dep _ Y h2=>exact ⟨by rw [h.uniq h2];omega,λ_=>(h.uniq h2).symm⟩
 | ind _ Y h2=>exact ⟨by rw [h.uniq h2];omega,λhc=>absurd hc Y⟩
theorem kR {cl cl':LN->Nat->Prop} {m:Nat} (h:∀A B x,x<m->(∀p,p<m->p ≠ x->p ∈ A\/p ∈ B)->¬ cl A x->cl' B x) :
  ∀(l acc:LN) {a b c:Nat},(∀x ∈ l,x<m)->(∀p,p<m->p ∈ l\/p ∈ acc)->Rk cl l a->Rk cl' acc b->Rk cl' (l.reverse ++ acc) c->a+c<=l.length+b
 | [],acc,a,b,c,_,_,ha,hb,hc=>by
  cases ha
  have e:c=b:=Rk.uniq hc hb;simp;omega
 | x :: l,acc,a,b,c,E,D,ha,hb,hc=>by
  have C:=E x (by simp);obtain ⟨b',X⟩:=Rk.ex cl' (x :: acc);have N:=I6 hb X;have U:Rk cl' (l.reverse ++ (x :: acc)) c:=by simpa using hc
  have hp':∀p,p<m->p ∈ l\/p ∈ x :: acc:=λp Y=>by
   rcases D p Y with h1 | h1
   ·rcases List.mem_cons.1 h1 with rfl | h1
    ·exact .inr (by simp)
    ·exact .inl h1
   ·exact .inr (List.mem_cons.2 (.inr h1))
  cases ha with
  | dep _ V Z =>
   have z:=kR h l (x :: acc) (λy Q=>E y (List.mem_cons.2 (.inr Q))) hp' Z X U
   simp only [LB];omega
  | ind _ V Z =>
   have z:=kR h l (x :: acc) (λy Q=>E y (List.mem_cons.2 (.inr Q))) hp' Z X U
   have:=N.2 (h l acc x C (λp Y H=>by
    rcases D p Y with h1 | h1
    ·rcases List.mem_cons.1 h1 with h2 | h1
     ·exact absurd h2 H
     ·exact .inl h1
    ·exact .inr h1) V)
   simp only [LB];omega
theorem Ci (F:bK O El) (U:bt El m G) (Q:bt El m K) (h:ou O m G K) (hkm:G.length+K.length=m)
  (z:Rk (kB O El G.length (ba G)) (List.range m) G.length) (hk:Rk (kB O El K.length (ba K)) (List.range m) K.length)
  {S C:LN} (hS:∀x ∈ S,x<m) (E:∀x ∈ C,x<m) (Y:∀p,p<m->p ∈ S\/p ∈ C) (hlen:S.length+C.length=m) {a b:Nat} (ha:Rk (kB O El G.length (ba G)) C a) (hb:Rk (kB O El K.length (ba K)) S b) :
  (b:Int)=S.length - G.length+a:=by
 have j:=gg F U;have cK:=gg F Q;have all:∀ {cl:LN->Nat->Prop} (hc:BT cl) {r:Nat} (_:Rk cl (List.range m) r) (l acc:LN),(∀x ∈ l,x<m)->(∀x ∈ acc,x<m)->(∀p,p<m->p ∈ l\/p ∈ acc)->Rk cl (l.reverse ++ acc) r:=λhc r D l acc h1 h2 h3=>by
  obtain ⟨r',V⟩:=Rk.ex _ (l.reverse ++ acc);have e:=Rk.same hc D V λx=>by rw [NX,L8,NI];exact ⟨λZ=>h3 x Z,λZ=>by rcases Z with Z | Z;exact h1 x Z;exact h2 x Z⟩
  rw [e];exact V
 have i1:=kR (m:=m) (λA B x Z X H=>h.cl F U Q Z X H) C S E (λp N=>(Y p N).symm) ha hb (all cK hk C S E hS λp N=>(Y p N).symm);have i2:=kR (m:=m) (λA B x Z X H=>(h.symm F U Q).cl F Q U Z X H) S C hS Y hb ha (all j z S C hS E Y);omega
end
def fO (P M:Int) (mod:LI) (Z:Int) (L:Ll):Int:=if bF P M mod=true then fD (aK P M) Z L else 1
theorem mM (P M:Int) (am:OA) (z cm:Nat) (mod:LI) (Z:Int) (a:OA) (n c:Nat) (L:Ll) (w:World) (hmod:Ints w am z mod) (hi:bw w a n L) :
  Calls prog 140 #[.agg #[cG P,cG M,.slice am z cm],.agg #[cG Z,.slice a n c]] w λe w'=>e = .returned (cG (fO P M mod Z L))/\PY w w':=by
 have Y:=Z5 hi.len;have hpl:=hi.pl;have hmax:=hi.max;unfold maxLen at hmax;go_enter func140,ntmps140;go_wp2_with fail;obtain ⟨W,hW⟩:∃W:World,W=(w.alloc (.cells #[cG P,cG M,.slice am z cm] 24)).alloc (.cells #[cG Z,.slice a n c] 94):=⟨_,rfl⟩
 rw [<- hW];have H:PY w W:=by rw [hW];exact bY _ _ _
 have x0:aQ W w.heap.size [cG P,cG M,.slice am z cm]:=by rw [hW];exact (Po _ _ _ rfl).alloc _
 have y0:aQ W (w.heap.size+1) [cG Z,.slice a n c]:=by rw [hW];exact Po _ _ _ (by simp)
 have hS:∀V,PY W V->V.cell? ⟨w.heap.size,0,none⟩=some (cG P)/\V.cell? ⟨w.heap.size,1,none⟩=some (cG M)/\V.cell? ⟨w.heap.size,2,none⟩=some (.slice am z cm) /\
   V.cell? ⟨w.heap.size+1,0,none⟩=some (cG Z)/\V.cell? ⟨w.heap.size+1,1,none⟩=some (.slice a n c)/\PY W V:=by intro V hV;have x1:=x0.af hV;have y1:=y0.af hV;exact ⟨x1.cell 0 rfl,x1.cell 1 rfl,x1.cell 2 rfl,y1.cell 0 rfl,y1.cell 1 rfl,hV⟩
 have HS:=Z5 hS;have hiW:=hi.af H;clear hW x0 y0 hS;refine (ld P M am z cm mod W (hmod.af H)).mono ?_;rintro e w1 ⟨rfl,hb1⟩;have X:=Pm H hb1;by_cases hB:bF P M mod=true
 ·have HB:Hid (fO P M mod Z L=fD (aK P M) Z L):=by show _=_;rw [fO,KX hB]
  have hE:df (bF P M mod)=0:=by rw [hB];rfl
  rw [hE];obtain ⟨q,hq⟩:∃q,aK P M=q:=⟨_,rfl⟩
  have Hq:=Z5 hq;rw [hq] at HB;obtain ⟨d0,d1,d2,d3,d4,_⟩:=HS w1 hb1;clear hB hE hq;by_cases b1:Z<0
  ·have Hf:Hid (fO P M mod Z L=3):=by show _=_;rw [HB.out,fD,KX (.inl b1)]
   have t1:decide (Z<0)=true:=by simpa using b1
   go_wp2_with fail;go_ret;exact ⟨aN Hf.symm,X⟩
  have t1:decide (Z<0)=false:=by simpa using b1
  by_cases b2:256<Z
  ·have Hf:Hid (fO P M mod Z L=3):=by show _=_;rw [HB.out,fD,KX (.inr (.inl b2))]
   have t2:decide (256<Z)=true:=by simpa using b2
   go_wp2_with fail;go_ret;exact ⟨aN Hf.symm,X⟩
  have t2:decide (256<Z)=false:=by simpa using b2
  by_cases b3:256<n
  ·have Hf:Hid (fO P M mod Z L=3):=by show _=_;rw [HB.out,fD,KX (.inr (.inr (by rw [Y.out];exact b3)))]
   have t3:decide (256<(n:Int))=true:=by simp;omega
   go_wp2_with fail;go_ret;exact ⟨aN Hf.symm,X⟩
  have t3:decide (256<(n:Int))=false:=by simp;omega
  have Hm:Hid (fO P M mod Z L=if jk Z L=false then 3 else if L.all (ez q) then 0 else 2):=by show _=_;rw [HB.out,fD,KY (by rw [Y.out];omega)]
  have hi1:=hiW.af hb1;clear b1 b2;go_wp2_with fail;go_loopw [6] (λiv wr=>∃k:Nat,k<=n/\iv = cG k/\Hid ((L.take k).all (λr=>decide ((r.length:Int)=Z))=true)/\bg w1 wr) (λiv _=>n - (intOf iv).toNat);case atStart=>exact ⟨0,K0 _,rfl,by show _=_;simp,Pt _⟩
  case round =>
   obtain ⟨k,hk,rfl,C,hd⟩:=hrel
   have hir:=hi1.drawn hd
   have e3:=hd.cell d3
   have e4:=hd.cell d4
   by_cases E:k<n
   ·obtain ⟨ra,rn,rc,D,A⟩:=hir.cell k E
    have hkL:k<L.length:=by rw [Y.out];exact E
    have hrl:=A.len
    rw [aE hkL] at hrl
    have Hrl:=Z5 hrl
    clear hrl
    by_cases he:(rn:Int)=Z
    ·have he':((rn:Int) != Z)=false:=by simpa using he
     have Hs:Hid ((L.take (k+1)).all (λr=>decide ((r.length:Int)=Z))=true):=dJ hkL C.out (by rw [Hrl.out];simpa using he)
     clear he
     go_wp2_with fail
     go_quiet (fail)
     go_wp2
     go_roundw
     case rel=>exact ⟨k+1,by omega,by go_num,Hs,hd.drewN _⟩
     case measure=>simp [intOf] <;> omega
    ·have he':((rn:Int) != Z)=true:=by simpa using he
     have Hs:Hid (fO P M mod Z L=3):=by show _=_;rw [Hm.out,KX];exact dI hkL (by simp only [Hrl.out];simpa using he)
     clear he
     go_wp2_with fail
     go_quiet (fail)
     go_wp2
     go_ret
     exact ⟨aN Hs.symm,Pm X (hd.drewN _).below⟩
   ·obtain rfl:k=n:=by omega
    have Hm2:Hid (fO P M mod Z L=if L.all (ez q) then 0 else 2):=by have:=C.out;rw [K5 (by rw [Y.out];exact KT _)] at this;show _=_;rw [Hm.out,KY (by rw [jk,this];simp)]
    have hbr:PY W wr:=Pm hb1 hd.below
    have hir2:=hir
    clear d0 d1 d2 d3 d4 C
    go_wp2_with fail
    clear e3 e4
    go_loopw [7] (λiv wx=>∃j:Nat,j<=k/\iv = cG j/\Hid ((L.take j).all (ez q)=true)/\PY W wx) (λiv _=>k - (intOf iv).toNat)
    case atStart=>exact ⟨0,K0 _,rfl,by show _=_;simp,hbr⟩
    case round =>
     obtain ⟨j,hj,rfl,Q,U⟩:=hrel
     obtain ⟨d0,d1,d2,d3,d4,_⟩:=HS _ U
     by_cases E:j<k
     ·have hiX:=hiW.af U
      obtain ⟨ra,rn,rc,D,A⟩:=hiX.cell j E
      have hjL:j<L.length:=by rw [Y.out];exact E
      have HC:=Z5 (kV P M am z cm ra rn rc (ai L j) _ (A.af (KU _ _).drew))
      have hSj:∀V,PY wr V->V.cell? ⟨w.heap.size,0,none⟩=some (cG P)/\V.cell? ⟨w.heap.size,1,none⟩=some (cG M)/\V.cell? ⟨w.heap.size,2,none⟩=some (.slice am z cm) /\
        V.cell? ⟨w.heap.size+1,1,none⟩=some (.slice a k c)/\V.cell? ⟨ablk a,aJ a+j,none⟩=some (.slice ra rn rc):=λV hV=>by obtain ⟨f0,f1,f2,f3,f4,_⟩:=HS V (Pm U hV);exact ⟨f0,f1,f2,f4,aB hV D⟩
      have HSj:=Z5 hSj
      have Hbx:=Z5 U
      rw [Hq.out] at HC
      clear hSj U
      by_cases he:ez q (ai L j)=true
      ·have N:iO q (ai L j)=0:=by rw [iO,he];rfl
       rw [N] at HC
       rw [aE hjL] at he
       have Hs:Hid ((L.take (j+1)).all (ez q)=true):=dJ hjL Q.out he
       clear he N
       go_wp2_with fail
       go_region_held3 (λV=>V.cell? ⟨w.heap.size,0,none⟩=some (cG P)/\V.cell? ⟨w.heap.size,1,none⟩=some (cG M)/\V.cell? ⟨w.heap.size,2,none⟩=some (.slice am z cm) /\
         V.cell? ⟨w.heap.size+1,1,none⟩=some (.slice a k c)/\V.cell? ⟨ablk a,aJ a+j,none⟩=some (.slice ra rn rc))
        ((refine HSj _ ?_;first | exact (KU _ _).drew | exact Pm (KU _ _).drew hb4))
        (first | (go_at_call 87;((with_reducible refine HC.out.mono ?_);rintro e w4 ⟨rfl,hb4⟩)))
       go_wp2_with fail
       go_roundw
       case rel=>exact ⟨j+1,by omega,by go_num,Hs,Pm Hbx.out (Pm (KU _ _).drew hb4)⟩
       case measure=>simp [intOf] <;> omega
      ·have N:iO q (ai L j)=2:=by rw [iO,KY he]
       rw [N] at HC
       rw [aE hjL] at he
       have Hs:Hid (fO P M mod Z L=2):=by show _=_;rw [Hm2.out,dI hjL (by simpa using he)];rfl
       clear he N
       go_wp2_with fail
       go_region_held3 (λV=>V.cell? ⟨w.heap.size,0,none⟩=some (cG P)/\V.cell? ⟨w.heap.size,1,none⟩=some (cG M)/\V.cell? ⟨w.heap.size,2,none⟩=some (.slice am z cm) /\
         V.cell? ⟨w.heap.size+1,1,none⟩=some (.slice a k c)/\V.cell? ⟨ablk a,aJ a+j,none⟩=some (.slice ra rn rc))
        ((refine HSj _ ?_;first | exact (KU _ _).drew | exact Pm (KU _ _).drew hb4))
        (first | (go_at_call 87;((with_reducible refine HC.out.mono ?_);rintro e w4 ⟨rfl,hb4⟩)))
       go_wp2_with fail
       go_ret
       exact ⟨aN Hs.symm,Pm H (Pm Hbx.out (Pm (KU _ _).drew hb4))⟩
     ·obtain rfl:j=k:=by omega
      have Hs:Hid (fO P M mod Z L=0):=by have:=Q.out;rw [K5 (by rw [Y.out];exact KT _)] at this;show _=_;rw [Hm2.out,this];rfl
      go_wp2_with fail
      go_ret
      exact ⟨aN Hs.symm,Pm H U⟩
 ·have hB':bF P M mod=false:=by simpa using hB
  have Hf:Hid (fO P M mod Z L=1):=by show _=_;rw [fO,KY hB]
  have hE:df (bF P M mod)=1:=by rw [hB'];rfl
  rw [hE];clear hB hB' hE;go_wp2_with fail;go_ret;exact ⟨aN Hf.symm,X⟩
section
variable {O:aP} {El:Int->Prop} {m n:Nat}
structure ow (L:Ll) (P:LI):Prop where
 lead:∀i x,i<P.length->x<(nth P i).toNat->nth (ai L i) x=0
 asc:∀i j,i<j->j<P.length->nth P i<nth P j
theorem o8 (F:bK O El) {L:Ll} (hL:bt El m L):∀k,k<=m->ow (aD O L k).1 (aD O L k).2
 | 0,_=>⟨λi x hi=>by simp [aD] at hi,λi j _ E=>by simp [aD] at E⟩
 | k+1,hk=>by
  have N:=o8 F hL k (by omega);obtain ⟨h1,_,_⟩:=fV F hL k (by omega);have H:=iB F hL k (by omega);have hb:=kZ (L:=(aD O L k).1) (c:=k) (k:=(aD O L k).2.length) h1.le;by_cases Q:(aD O L k).2.length<(aD O L k).1.length
  ·rw [dZ (Lk:=(aD O L k).1) (P:=(aD O L k).2) rfl Q];split
   ·exact N
   ·rename_i z;have Z:bd (aD O L k).1 k (aD O L k).2.length<(aD O L k).1.length:=by omega
    have hne:nth (ai (aD O L k).1 (bd (aD O L k).1 k (aD O L k).2.length)) k ≠ 0:=il _ k _ _ (by show bd _ k _<_;omega);generalize bd (aD O L k).1 k (aD O L k).2.length=r at *;generalize (aD O L k).1=A at *;generalize (aD O L k).2=P at *;have C:El (nth (ai A r) k):=Ps (H.row Z) (by omega);have V:=F.cl.inv _ C hne;refine ⟨λi x hi Y=>?_,λi j D E=>?_⟩
    ·rw [K6,Lo] at hi;have U:x<m:=by
      rw [iD] at Y;by_cases e:i<P.length
      ·rw [KX e] at Y;have:=h1.lt i e;omega
      ·rw [KY e,KX (by omega)] at Y;omega
     rw [eT F H Q Z (by omega) hne (i:=i) (by omega) U];rw [iD] at Y;by_cases e:i<P.length
     ·rw [KX e] at Y;have h2:=h1.lt i e;rw [KY (by omega),show sw P.length r i=i by unfold sw;rw [KY (by omega),KY (by omega)],h1.zero r x hb.1 Z (by omega),F.dh V,F.jw (Ps (H.row (by omega)) (by omega)),F.fw,F.add_zero _ (Ps (H.row (by omega)) U)];exact N.lead i x e Y
     ·rw [KY e,KX (by omega)] at Y;rw [KX (by omega),h1.zero r x hb.1 Z (by omega),F.dh V]
    ·rw [K6,Lo] at E;rw [iD,iD,KX (by omega)];by_cases e:j<P.length
     ·rw [KX e];exact N.asc i j D e
     ·rw [KY e,KX (by omega)];have:=h1.lt i (by omega);omega
  ·have X:(aD O L k).2.length=L.length:=by have:=bN O L k;have:=h1.le;omega
   rw [gw X 1];exact N
theorem inv_one (F:bK O El):O.inv 1=1:=by have h:=F.mul_inv 1 F.one (by decide);rwa [F.one_mul _ (F.cl.inv 1 F.one (by decide))] at h
theorem r8 (O:aP) {R:Ll} {t c:Nat} (h:∀i,i<R.length->i ≠ t->nth (ai R i) c=0):∀i,i<=R.length->clearTo O t c R i=R
 | 0,_=>rfl
 | i+1,hi=>by
  unfold clearTo;rw [r8 O h i (by omega)];split
  ·rfl
  ·rename_i e;unfold cR;rw [KX (h i (by omega) e),lr]
theorem yy (F:bK O El) {R:Ll} {P:LI} (E:lh R P m) (H:ow R P) (hlen:R.length=P.length):∀k,k<=m ->
  ∃t,t<=P.length/\aD O R k=(R,P.take t)/\(∀j,j<t->nth P j<k)/\(∀j,t<=j->j<P.length->(k:Int)<=nth P j)
 | 0,_=>⟨0,K0 _,by simp [aD],λj U=>by omega,λj _ U=>(E.lt j U).1⟩
 | k+1,hk=>by
  obtain ⟨t,ht,he,h1,h2⟩:=yy F E H hlen k (by omega);have N:(P.take t).length=t:=by rw [Lt];omega
  by_cases htt:t=P.length
  ·refine ⟨t,ht,?_,λj U=>by have:=h1 j U;omega,λj h3 Z=>by omega⟩;have X:(aD O R k).2.length=R.length:=by rw [he];show (P.take t).length=_;omega
   rw [gw X 1,he]
  ·have Y:t<R.length:=by omega
   rw [dZ (Lk:=R) (P:=P.take t) he.symm (by rw [N];exact Y),N];by_cases Q:nth P t=k
   ·have V:=E.one t t (by omega) Y;rw [Q,KX rfl,KV] at V;have A:bd R k t=t:=by rw [gD Y,KY (by rw [V];decide)]
    rw [A,KY (by omega)];have C:eD O R t t k=R:=by
     rw [i9,KX rfl];have z:bu O R t k=R:=by unfold bu;rw [V,KX (inv_one F)]
     rw [z];refine r8 O (λi hi D=>?_) _ (KT _);have:=E.one t i (by omega) hi;rw [Q,KY D,KV] at this;exact this
    rw [C];refine ⟨t+1,by omega,?_,λj U=>?_,λj h3 Z=>?_⟩
    ·rw [K4 (by omega),<- aj,Q]
    ·by_cases e:j=t
     ·subst e;omega
     ·have:=h1 j (by omega);omega
    ·have:=H.asc t j (by omega) Z;omega
   ·have r:(k:Int)<nth P t:=by have:=h2 t (KT _) (by omega);omega
    have hz:∀i,t<=i->i<R.length->nth (ai R i) k=0:=λi h3 Z=>by
     refine H.lead i k (by omega) ?_;by_cases e:i=t
     ·subst e;omega
     ·have:=H.asc t i (by omega) (by omega);omega
    have A:∀d i,d=R.length - i->t<=i->i<=R.length->bd R k i=R.length:=by
     intro d;induction d with
     | zero=>intro i h3 _ h5;rw [jK (by omega)];omega
     | succ d ih =>
      intro i h3 Z h5
      rw [gD (by omega),KX (hz i Z (by omega))]
      exact ih (i+1) (by omega) (by omega) (by omega)
    rw [A _ t rfl (KT _) (by omega),KX rfl];refine ⟨t,ht,rfl,λj U=>by have:=h1 j U;omega,λj h3 Z=>?_⟩;by_cases e:j=t
    ·subst e;omega
    ·have:=H.asc t j (by omega) Z;omega
theorem tg (F:bK O El) {R:Ll} {P:LI} (Z:lh R P m) (Y:ow R P) (hlen:R.length=P.length):aD O R m=(R,P):=by
 obtain ⟨t,ht,he,h1,h2⟩:=yy F Z Y hlen m (KT _);have:t=P.length:=by apply Lr;intro h;have h3:=h2 t (KT _) (by omega);have X:=Z.lt t (by omega);omega
 rw [he,this,N9]
def bI (O:aP) (m:Nat) (L:Ll):Ll:=(aD O L m).1.take (aD O L m).2.length
theorem kQ {L:Ll} {t i:Nat} (h:i<t):ai (L.take t) i=ai L i:=by unfold ai;simp only [KZ,Mo];rw [KX h]
theorem cI (F:bK O El) {L:Ll} (hL:bt El m L):(bI O m L).length=(aD O L m).2.length:=by have h1:=(fV F hL m (KT _)).1.le;unfold bI;rw [Lt];omega
theorem bS (F:bK O El) {L:Ll} (hL:bt El m L):bt El m (bI O m L):=λr Z=>iB F hL m (KT _) r (Mb Z)
theorem bU (F:bK O El) {L:Ll} (hL:bt El m L):lh (bI O m L) (aD O L m).2 m/\ow (bI O m L) (aD O L m).2:=by
 have h1:=(fV F hL m (KT _)).1;have h2:=o8 F hL m (KT _);have U:=cI F hL;refine ⟨⟨by omega,h1.lt,λj i X hi=>?_,λi x V Y _=>by omega⟩,⟨λi x hi Z=>?_,h2.asc⟩⟩
 ·unfold bI;rw [kQ (by omega)];exact h1.one j i X (by have:=h1.le;omega)
 ·unfold bI;rw [kQ hi];exact h2.lead i x hi Z
theorem py (F:bK O El) {L:Ll} (hL:bt El m L):bI O m (bI O m L)=bI O m L:=by
 obtain ⟨h1,h2⟩:=bU F hL;have Z:=cI F hL;have h3:=tg F h1 h2 Z;have e:bI O m (bI O m L)=(bI O m L).take (aD O L m).2.length:=by show (aD O (bI O m L) m).1.take (aD O (bI O m L) m).2.length=_;rw [h3]
 rw [e,K5 (by omega)]
theorem RS.Gb (F:bK O El) {L:Ll} {f:Nat->Int} (h:∀x,x<m->f x=0):RS O El m L f:=by refine ⟨λ_=>0,⟨λ_ _=>F.zero,λv r x X Y Z=>?_,λr x Y Z=>(F.dh Z).symm⟩,λx Z=>h x Z⟩;show (0:Int)=O.add 0 (O.neg (O.mul x 0));rw [F.dh Z,F.fw,F.add_zero 0 F.zero]
theorem dN (F:bK O El) {L:Ll} (hL:bt El m L):eF O El m (bI O m L) L/\eF O El m L (bI O m L):=by
 obtain ⟨h1,h2,h3⟩:=fV F hL m (KT _);have X:=cI F hL;refine ⟨λi hi=>?_,h3.trans λi hi=>?_⟩
 ·have e:ai (bI O m L) i=ai (aD O L m).1 i:=by unfold bI;exact kQ (by omega)
  rw [e];exact h2 i (by have:=h1.le;omega)
 ·by_cases e:i<(aD O L m).2.length
  ·have Y:ai (aD O L m).1 i=ai (bI O m L) i:=by unfold bI;exact (kQ e).symm
   rw [Y];exact RS.row F (by omega)
  ·exact RS.Gb F λx Z=>h1.zero i x (by omega) hi Z
theorem qF (F:bK O El) {L:Ll} (hL:bt El m L):Rk (kB O El (bI O m L).length (ba (bI O m L))) (List.range m) (bI O m L).length:=by have h:=FH F (bS F hL);obtain ⟨h1,h2⟩:=bU F hL;rw [tg F h1 h2 (cI F hL)] at h;rw [cI F hL];rw [cI F hL] at h;exact h
def kerTo (O:aP) (m:Nat) (R:Ll) (P:LI) (c:Nat):Nat->LI
 | 0=>(List.replicate m 0).set c 1
 | i+1=>(kerTo O m R P c i).set (nth P i).toNat (O.neg (nth (ai R i) c))
def dk (O:aP) (m:Nat) (R:Ll) (P:LI):Nat->Ll
 | 0=>[]
 | k+1=>if (k:Int) ∈ P then dk O m R P k else dk O m R P k ++ [kerTo O m R P k P.length]
def eX (P:LI):Nat->LN
 | 0=>[]
 | k+1=>if (k:Int) ∈ P then eX P k else eX P k ++ [k]
theorem gy (O:aP) (m:Nat) (R:Ll) (P:LI) (c:Nat):∀i,(kerTo O m R P c i).length=m
 | 0=>by simp [kerTo]
 | i+1=>by rw [kerTo,LZ,gy O m R P c i]
theorem fR (O:aP) (m:Nat) (R:Ll) (P:LI):∀k,(dk O m R P k).length=(eX P k).length
 | 0=>rfl
 | k+1=>by
  rw [dk,eX];split
  ·exact fR O m R P k
  ·rw [K6,K6,fR O m R P k];rfl
theorem jD {P:LI} {x:Nat}:∀k,x ∈ eX P k ↔ x<k/\¬ (x:Int) ∈ P
 | 0=>by simp [eX]
 | k+1=>by
  rw [eX];split
  ·rename_i h;rw [jD k];constructor
   ·rintro ⟨h1,h2⟩;exact ⟨by omega,h2⟩
   ·rintro ⟨h1,h2⟩;by_cases e:x=k
    ·subst e;exact absurd h h2
    ·exact ⟨by omega,h2⟩
  ·rename_i h;rw [L8,jD k,LQ];constructor
   ·rintro (⟨h1,h2⟩ | rfl)
    ·exact ⟨by omega,h2⟩
    ·exact ⟨by omega,h⟩
   ·rintro ⟨h1,h2⟩;by_cases e:x=k
    ·exact .inr e
    ·exact .inl ⟨by omega,h2⟩
theorem jF (O:aP) (m:Nat) (R:Ll) (P:LI) {j:Nat}:∀k,j<(eX P k).length->ai (dk O m R P k) j=kerTo O m R P ((eX P k).getD j 0) P.length
 | 0,h=>by simp [eX] at h
 | k+1,h=>by
  rw [dk,eX] at *;split
  ·rename_i hc;rw [KX hc] at h;exact jF O m R P k h
  ·rename_i hc;rw [KY hc,K6,Lo] at h;have X:=fR O m R P k;by_cases e:j<(eX P k).length
   ·have e1:ai (dk O m R P k ++ [kerTo O m R P k P.length]) j=ai (dk O m R P k) j:=by unfold ai;simp only [KZ];rw [Lg (by omega)]
    have Z:(eX P k ++ [k]).getD j 0=(eX P k).getD j 0:=by simp only [KZ];rw [Lg e]
    rw [e1,Z];exact jF O m R P k e
   ·have Y:j=(eX P k).length:=by omega
    have e1:ai (dk O m R P k ++ [kerTo O m R P k P.length]) j=kerTo O m R P k P.length:=by unfold ai;simp only [KZ];rw [L4 (by omega)];simp [Y,X]
    have Z:(eX P k ++ [k]).getD j 0=k:=by simp only [KZ];rw [L4 (by omega)];simp [Y]
    rw [e1,Z]
variable {R:Ll} {P:LI}
theorem jJ (Y:lh R P m) {c x:Nat} (X:x<m) (Z:x ≠ c):∀i,i<=P.length->(∀j,j<i->(nth P j).toNat ≠ x)->nth (kerTo O m R P c i) x=0
 | 0,_,_=>by
  by_cases hc:c<m
  ·rw [kerTo,dS _ _ _ _ (by simpa using hc),KY Z];simp [nth,KZ,Ls];split <;> rfl
  ·rw [kerTo,MX (by simp;omega)];simp [nth,KZ,Ls];split <;> rfl
 | i+1,hi,h=>by have hb:=Y.lt i (by omega);rw [kerTo,dS _ _ _ _ (by rw [gy];omega),KY (λe=>h i (by omega) e.symm)];exact jJ Y X Z i (by omega) λj V=>h j (by omega)
theorem je (Z:lh R P m) {c:Nat} (hc:c<m) (Y:¬ (c:Int) ∈ P):∀i,i<=P.length->nth (kerTo O m R P c i) c=1
 | 0,_=>by rw [kerTo,dS _ _ _ _ (by simpa using hc),KX rfl]
 | i+1,hi=>by have hb:=Z.lt i (by omega);have hne:c ≠ (nth P i).toNat:=λe=>Y (by have:nth P i ∈ P:=aG (by omega);rwa [show nth P i=(c:Int) by omega] at this);rw [kerTo,dS _ _ _ _ (by rw [gy];omega),KY hne];exact je Z hc Y i (by omega)
theorem uP (Z:lh R P m) (Y:ow R P) {c j:Nat}:∀i,i<=P.length->j<i->nth (kerTo O m R P c i) (nth P j).toNat=O.neg (nth (ai R j) c)
 | 0,_,h=>by omega
 | i+1,hi,h=>by
  have hb:=Z.lt i (by omega);have X:=Z.lt j (by omega);rw [kerTo,dS _ _ _ _ (by rw [gy];omega)];by_cases e:j=i
  ·subst e;rw [KX rfl]
  ·have:=Y.asc j i (by omega) (by omega);rw [KY (by omega)];exact uP Z Y i (by omega) (by omega)
theorem kq (F:bK O El) (Y:bt El m R) (X:lh R P m) (hlen:R.length=P.length) {c:Nat} (hc:c<m):∀i,i<=P.length->Vc El m (kerTo O m R P c i)
 | 0,_=>⟨gy O m R P c 0,λy Z=>by
  rw [kerTo] at Z;rcases Mj Z with h | rfl
  ·rw [L6 h];exact F.zero
  ·exact F.one⟩
 | i+1,hi=>⟨gy O m R P c (i+1),λy Z=>by
  rw [kerTo] at Z;rcases Mj Z with h | rfl
  ·exact (kq F Y X hlen hc i (by omega)).2 y h
  ·exact F.cl.neg _ (Ps (Y.row (by omega)) hc)⟩
theorem lS {P:LI} {k j:Nat} (h:j<(eX P k).length):(eX P k).getD j 0<k/\¬ (((eX P k).getD j 0:Nat):Int) ∈ P:=by
 have e:(eX P k).getD j 0=(eX P k)[j]:=by simp [KZ,h]
 rw [e];exact (jD k).1 (Ly h)
theorem fY (F:bK O El) (V:bt El m R) (U:lh R P m) (hlen:R.length=P.length):bt El m (dk O m R P m):=λr X=>by
 obtain ⟨j,Y,rfl⟩:=List.mem_iff_getElem.1 X;have Z:j<(eX P m).length:=by rw [<- fR O m R P m];exact Y
 rw [<- aE Y,jF O m R P m Z];exact kq F V U hlen (lS Z).1 P.length (KT _)
theorem od (F:bK O El) (D:bt El m R) (Y:lh R P m) (hl:ow R P) (hlen:R.length=P.length):ou O m R (dk O m R P m):=λi j hi E=>by
 rw [fR] at E;rw [jF O m R P m E];obtain ⟨hc,r⟩:=lS E;generalize (eX P m).getD j 0=c at *;have hb:=Y.lt i (by omega);have hne:c ≠ (nth P i).toNat:=λe=>r (by have:nth P i ∈ P:=aG (by omega);rwa [show nth P i=(c:Int) by omega] at this);have Z:El (nth (ai R i) c):=Ps (D.row hi) hc;have e1:nth (kerTo O m R P c P.length) c=1:=je Y hc r _ (KT _);have A:nth (kerTo O m R P c P.length) (nth P i).toNat=O.neg (nth (ai R i) c):=uP Y hl _ (KT _) (by omega);have z:nth (ai R i) (nth P i).toNat=1:=by rw [Y.one i i (by omega) hi,KX rfl]
 rw [yJ F hne (by rw [e1,F.iV Z];exact Z) (by rw [A,z,F.one_mul _ (F.cl.neg _ Z)];exact F.cl.neg _ Z) m λp V C U=>?_,KX hc,KX (by omega),e1,A,z,F.iV Z,F.one_mul _ (F.cl.neg _ Z),F.add_neg _ Z];show O.mul (nth (ai R i) p) (nth (kerTo O m R P c P.length) p)=0;have N:El (nth (ai R i) p):=Ps (D.row hi) V;by_cases X:∃q,q<P.length/\(nth P q).toNat=p
 ·obtain ⟨q,Q,rfl⟩:=X;have H:i ≠ q:=λe=>U (by rw [e]);rw [Y.one q i Q hi,KY H,F.jw ((kq F D Y hlen hc _ (KT _)).at V)]
 ·rw [jJ Y V C _ (KT _) λq Q e=>X ⟨q,Q,e⟩,F.dh N]
theorem Ca (F:bK O El) (N:lh R P m):∀k,k<=(eX P m).length->Rk (kB O El (dk O m R P m).length (ba (dk O m R P m))) (((eX P m).take k).reverse) k
 | 0,_=>.nil
 | k+1,hk=>by
  have Q:=Ca F N k (by omega);have Z:k<(eX P m).length:=by omega
  have A:∀K,(eX P K).Nodup:=λK=>by
   induction K with
   | zero=>exact OH
   | succ K Q =>
    rw [eX]
    split
    ·exact Q
    ·rw [Mq]
     refine ⟨Q,by simp,λa ha b hb=>?_⟩
     rw [LQ] at hb
     rw [hb]
     have:=(jD K).1 ha
     omega
  have D:((eX P m).take (k+1)).reverse=(eX P m)[k] :: ((eX P m).take k).reverse:=by rw [K4 Z,List.reverse_append];rfl
  rw [D];refine .ind _ (λhc=>?_) Q;have X:k<(dk O m R P m).length:=by rw [fR];exact Z
  have Y:=lS (P:=P) (k:=m) Z;have E:(eX P m).getD k 0=(eX P m)[k]:=by simp [KZ,Z]
  rw [E] at Y;have h1:=hc (λv=>nth v k) (kT.BO F X) λy H=>by
   rw [NI] at H;show nth (ba _ y) k=0;rw [dj _ y k X,jF O m R P m Z,E];have V:=(jD m).1 (Mb H);have C:y ≠ (eX P m)[k]:=λe=>by obtain ⟨q,U,z⟩:=List.mem_iff_getElem.1 H;rw [Lt] at U;rw [N1] at z;have h3:=(O7 (A m)).1 (z.trans e);omega
   refine jJ N V.1 C _ (KT _) λq U e=>V.2 ?_;have r:=N.lt q U;have:nth P q ∈ P:=aG U;rwa [show nth P q=(y:Int) by omega] at this
  have h2:nth (ba (dk O m R P m) (eX P m)[k]) k=0:=h1;rw [dj _ _ k X,jF O m R P m Z,E,je N Y.1 Y.2 _ (KT _)] at h2;exact absurd h2 (by decide)
theorem ej (P:LI) (Q:∀j,j<P.length->0<=nth P j/\nth P j<m) (ha:∀i j,i<j->j<P.length->nth P i<nth P j):(eX P m).length+P.length=m:=by
 have key:∀k,k<=m->∃t,t<=P.length/\(eX P k).length+t=k/\(∀j,j<t->nth P j<k)/\(∀j,t<=j->j<P.length->(k:Int)<=nth P j):=by
  intro k;induction k with
  | zero=>intro _;exact ⟨0,K0 _,rfl,λj X=>by omega,λj _ X=>(Q j X).1⟩
  | succ k D =>
   intro hk
   obtain ⟨t,h1,h2,h3,V⟩:=D (by omega)
   rw [eX]
   by_cases hm:(k:Int) ∈ P
   ·rw [KX hm]
    obtain ⟨q,N,e⟩:=List.mem_iff_getElem.1 hm
    rw [<- aj N] at e
    have U:q=t:=by
     by_cases Y:q<t
     ·have:=h3 q Y;omega
     ·by_cases Z:t<q
      ·have E:=ha t q Z N;have C:=V t (KT _) (by omega);omega
      ·omega
    subst U
    refine ⟨q+1,by omega,by omega,λj X=>?_,λj Y Z=>?_⟩
    ·by_cases H:j=q
     ·subst H;omega
     ·have:=h3 j (by omega);omega
    ·have:=ha q j (by omega) Z;omega
   ·rw [KY hm,K6,Lo]
    refine ⟨t,h1,by omega,λj X=>by have:=h3 j X;omega,λj Y Z=>?_⟩
    have E:=V j Y Z
    have C:nth P j ≠ k:=λe=>hm (by rw [<- e];exact aG Z)
    omega
 obtain ⟨t,h1,h2,h3,V⟩:=key m (KT _);have:t=P.length:=by apply Lr;intro h;have Y:=V t (KT _) (by omega);have Z:=Q t (by omega);omega
 omega
theorem Ds (F:bK O El) (N:bt El m R) (V:lh R P m) (X:ow R P) (hlen:R.length=P.length) :
  R.length+(bI O m (dk O m R P m)).length=m/\ou O m R (bI O m (dk O m R P m)):=by
 have Z:=fY F N V hlen;have D:=ej (m:=m) P V.lt X.asc;have z:=fR O m R P m;obtain ⟨E,r⟩:=dN F Z;have hO:=od F N V X hlen;refine ⟨?_,λi j hi hj=>?_⟩
 ·have h1:=qF F Z;have h2:=Ca F V (O:=O) (El:=El) (R:=R) (eX P m).length (KT _);have hle:=(ei O (dk O m R P m) m).2;have A:=cI F Z;have h3:=Rk.map (cl':=kB O El (bI O m (dk O m R P m)).length (ba (bI O m (dk O m R P m)))) (λy=>y<m) id (λl x X Y=>by rw [NL];exact ⟨E.cl X Y,r.cl X Y⟩) h2 (λy H=>by rw [NI] at H;exact ((jD m).1 (Mb H)).1);have h4:=Rk.le (gg F (bS F Z)) h3 h1 (λx Y=>(gg F (bS F Z)).mem _ _ (by rw [NL,NI] at Y;exact List.mem_range.2 ((jD m).1 (Mb Y)).1));omega
 ·obtain ⟨e,he,Q⟩:=E j hj;rw [eO (a':=λp=>nth (ai R i) p) (b':=λp=>e (ba (dk O m R P m) p)) m λp U=>⟨rfl,Q p U⟩];exact kj F Z he (λp U=>Ps (N.row hi) U) λq C=>hO i q hi C
end
def wb (O:aP) (L:Ll) (Z:Nat):Ll:=(aD O L Z).1.take (aD O L Z).2.length
def q9 (O:aP) (L:Ll) (Z:Nat) (w:World) (e:Ending) (w':World):Prop :=
 ∃a c ap cp,e = .returned (.tuple #[.slice a (aD O L Z).2.length c,.slice ap (aD O L Z).2.length cp])/\cF w.heap.size w' a (aD O L Z).2.length (wb O L Z) /\
  bL w.heap.size w' ap (aD O L Z).2.length (aD O L Z).2/\PY w w'
theorem mY (P:Int) (m:Nat) (am:OA) (E cm:Nat) (mod:LI) (a:OA) (n c Z:Nat) (L:Ll) (w:World) (hf:tK w P m am E mod) (hi:bw w a n L)
  (j:bt (eW P m) Z L) (hlen:Z<=1000000) (hn:n<=1000000) (hinv:∀p,eW P m p->p ≠ 0->(gL P m mod p=1 ↔ p=1)) :
  Calls prog 124 #[.agg #[cG P,cG m,.slice am E cm],.slice a n c,cG Z] w (q9 (kG P m mod) L Z w):=by
 have Hlen:=Z5 hi.len;have z:Hid (∀V,PY w V->Calls prog 179 #[.agg #[cG P,cG m,.slice am E cm],.slice a n c,cG Z] V (j7 (kG P m mod) L Z V)) :=
  λV r=>pF P m am E cm mod a n c Z Z L V (hf.af r) (hi.af r) j (KT _) hlen hn hinv
 obtain ⟨O,hO⟩:∃O,kG P m mod=O:=⟨_,rfl⟩
 rw [hO] at z ⊢;clear hO hinv j;go_enter func124,ntmps124;go_wp2_with fail;obtain ⟨W,A⟩:∃W:World,W=w.alloc (.cells #[cG P,cG m,.slice am E cm] 24):=⟨_,rfl⟩
 rw [<- A];have Y:PY w W:=by rw [A];exact an _ _
 clear A;refine (z W Y).mono ?_;rintro e w1 ⟨a1,c1,R1,ap,cp,rfl,D,H,C⟩;have U:=ei O L Z;have X:=mz D.own;have N:=(PW H).mono Y.size;have Q:=((PT D).take (k:=(aD O L Z).2.length) U.2).mono Y.size;have hF:q9 O L Z w (.returned (.tuple #[.slice a1 (aD O L Z).2.length c1,.slice ap (aD O L Z).2.length cp])) w1:=⟨a1,_,ap,cp,rfl,Q,N,Pm Y C⟩
 have HF:=Z5 hF;have hle:(aD O L Z).2.length<=c1:=K9 U.2 X;clear hF N Q H X U;generalize (aD O L Z).2.length=k at *;go_wp2_with fail;go_ret2;simpa using HF.out
def ga (P M:Int) (mod:LI) (Z:Int) (L:Ll):Int :=
 if fO P M mod Z L=0 then (if wb (kG P M.toNat mod) L Z.toNat=L then 0 else 5) else fO P M mod Z L
theorem dQ {P M:Int} {mod:LI} (h:bF P M mod=true):∃m:Nat,M=m/\RF P m/\(∀(w:World) am Y,Ints w am Y mod->zw w P m am Y mod):=by
 unfold bF cH at h;simp only [Lm,bne_iff_ne,ne_eq] at h;obtain ⟨⟨⟨h1,h2⟩,h3⟩,V⟩:=h;obtain ⟨m,rfl,Z⟩:=RF.of h1;refine ⟨m,rfl,Z,λw am Y hi=>⟨hi,λhm=>?_,?_⟩⟩
 ·rw [KY (by omega)] at h3;simp only [Lm,LM] at h3;have:=hi.len;omega
 ·by_cases hm:(m:Int)=1
  ·rw [KX hm] at h3;have:mod=[]:=Lw (by simpa using h3);subst this;exact PO (by have:=Z.p2;omega) (by simp)
  ·rw [KY hm] at h3;simp only [Lm] at h3;refine PO (by have:=Z.p2;omega) λx X=>?_;have:=List.all_eq_true.1 h3.2 x X;simpa using this
theorem Bi {P M:Int} {mod:LI} {Z:Int} {L:Ll} (h:fO P M mod Z L=0):bF P M mod=true/\fD (aK P M) Z L=0:=by
 unfold fO at h;split at h
 ·rename_i h1;exact ⟨h1,h⟩
 ·omega
theorem qD (P M:Int) (am:OA) (E cm:Nat) (mod:LI) (Z:Int) (a:OA) (n c:Nat) (L:Ll) (w:World) (hmod:Ints w am E mod) (hi:bw w a n L)
  (hinv:bF P M mod=true->∀p,eW P M.toNat p->p ≠ 0->(gL P M.toNat mod p=1 ↔ p=1)) :
  Calls prog 86 #[.agg #[cG P,cG M,.slice am E cm],.agg #[cG Z,.slice a n c]] w λe w'=>e = .returned (cG (ga P M mod Z L))/\PY w w':=by
 have j:=Z5 hi.len;have Hinv:=Z5 hinv;clear hinv;go_enter func86,ntmps86;go_wp2_with fail;obtain ⟨W,hW⟩:∃W:World,W=(w.alloc (.cells #[cG P,cG M,.slice am E cm] 24)).alloc (.cells #[cG Z,.slice a n c] 94):=⟨_,rfl⟩
 rw [<- hW];have D:PY w W:=by rw [hW];exact bY _ _ _
 have x0:aQ W w.heap.size [cG P,cG M,.slice am E cm]:=by rw [hW];exact (Po _ _ _ rfl).alloc _
 have y0:aQ W (w.heap.size+1) [cG Z,.slice a n c]:=by rw [hW];exact Po _ _ _ (by simp)
 have HX:=Z5 (K3 x0 y0);have z:=hi.af D;have hmW:=hmod.af D;clear hW x0 y0;refine (mM P M am E cm mod Z a n c L W hmW z).mono ?_;rintro e w1 ⟨rfl,Y⟩;have U:=Pm D Y;by_cases N:fO P M mod Z L=0
 ·obtain ⟨hB,hm⟩:=Bi N;obtain ⟨m,rfl,hrf,V⟩:=dQ hB;obtain ⟨k,rfl,hk,hl,hR⟩:=me hm;have A:Hid (ga P m mod k L=if wb (kG P m mod) L k=L then 0 else 5):=by show _=_;rw [ga,KX N,KV,KV]
  rw [N];have hinv:=Hinv hB;rw [KV] at hinv;have hRw:bt (eW P m) k L:=λr hr=>⟨(hR r hr).1,λx hx=>by have:=(hR r hr).2 x hx;rw [hrf.order] at this;exact this⟩
  have x1:=HX.1.af Y;have y1:=HX.2.af Y;have d0:=x1.cell 0 rfl;have d1:=x1.cell 1 rfl;have d2:=x1.cell 2 rfl;have d3:=y1.cell 0 rfl;have d4:=y1.cell 1 rfl;have hm1:=hmW.af Y;have hi1:=z.af Y;have hn:n<=1000000:=by rw [<- j.out];omega
  have HC:=Z5 (mY P m am E cm mod a n c k L w1 ⟨hrf,V w1 am E hm1⟩ hi1 hRw (by omega) hn hinv);clear N hB hm V hR hinv hRw x1 y1;obtain ⟨O,hO⟩:∃O,kG P m mod=O:=⟨_,rfl⟩
  rw [hO] at HC A;clear hO;go_wp2_with fail;refine HC.mono ?_;rintro e w2 ⟨a2,c2,ap,cp,rfl,hM2,hp2,H⟩;have Q:=Pm U H;have y2:=(HX.2.af Y).af H;have d3:=y2.cell 0 rfl;have d4:=y2.cell 1 rfl;have hi2:=hi1.af H;have hM3:=hM2.iZ;have HS:=Z5 (gZ a2 (aD O L k).2.length c2 (wb O L k) a n c L hM3 hi2);clear hM2 hp2 y2;generalize (aD O L k).2.length=kk at *;by_cases hc:wb O L k=L
  ·have X:decide (wb O L k=L)=true:=by simpa using hc
   have HF:Hid (ga P m mod k L=0):=by show _=_;rw [A.out,KX hc]
   rw [X] at HS;clear hc X;go_wp2_with fail;refine HS.mono ?_;rintro e w3 ⟨rfl,C⟩;go_wp2_with fail;go_ret;exact ⟨aN HF.symm,Pm Q C.below⟩
  ·have X:decide (wb O L k=L)=false:=by simpa using hc
   have HF:Hid (ga P m mod k L=5):=by show _=_;rw [A.out,KY hc]
   rw [X] at HS;clear hc X;go_wp2_with fail;refine HS.mono ?_;rintro e w3 ⟨rfl,C⟩;go_wp2_with fail;go_ret;exact ⟨aN HF.symm,Pm Q C.below⟩
 ·have A:Hid (ga P M mod Z L=fO P M mod Z L):=by show _=_;rw [ga,KY N]
  have hE':(fO P M mod Z L != 0)=true:=by simpa using N
  clear N;go_wp2_with fail;go_ret;exact ⟨aN A.symm,U⟩
theorem Ir {N:Int} (h:N<1):i7 N=4:=by rw [i7,KX (.inl h)]
theorem Ia {N:Int} (h:64<N):i7 N=4:=by rw [i7,KX (.inr h)]
theorem qN {N:Int} (h1:¬ N<1) (h2:¬ 64<N):i7 N=0:=by rw [i7,KY (by omega)]
def jQ (P M:Int) (mod:LI) (N:Int) (L:Ll):Int :=
 if bF P M mod=true then (if i7 N=0 then ga P M mod N L else 4) else 1
theorem lM (P M:Int) (am:OA) (H cm:Nat) (mod:LI) (N:Int) (a:OA) (n c:Nat) (L:Ll) (w:World) (V:Ints w am H mod) (hi:bw w a n L)
  (hinv:bF P M mod=true->∀p,eW P M.toNat p->p ≠ 0->(gL P M.toNat mod p=1 ↔ p=1)) :
  Calls prog 35 #[.agg #[cG P,cG M,.slice am H cm,cG N,.slice a n c]] w λe w'=>e = .returned (cG (jQ P M mod N L))/\PY w w':=by
 have C:=Z5 hinv;clear hinv;go_enter func35,ntmps35;go_wp2_with fail;obtain ⟨W,z⟩:∃W:World,W=w.alloc (.cells #[cG P,cG M,.slice am H cm,cG N,.slice a n c] 27):=⟨_,rfl⟩
 rw [<- z];have X:PY w W:=by rw [z];exact an _ _
 have x0:aQ W w.heap.size [cG P,cG M,.slice am H cm,cG N,.slice a n c]:=by rw [z];exact Po _ _ _ rfl
 have HX:=Z5 x0;clear z x0;refine (ld P M am H cm mod W (V.af X)).mono ?_;rintro e w1 ⟨rfl,Y⟩;have Z:=Pm X Y;by_cases E:bF P M mod=true
 ·have D:df (bF P M mod)=0:=by rw [E];rfl
  rw [D];have HB:Hid (jQ P M mod N L=if i7 N=0 then ga P M mod N L else 4):=by show _=_;rw [jQ,KX E]
  have Q:=HX.af Y;have c0:=Q.cell 0 rfl;have c1:=Q.cell 1 rfl;have c2:=Q.cell 2 rfl;have c3:=Q.cell 3 rfl;have c4:=Q.cell 4 rfl;have j:=(V.af X).af Y;have hi1:=(hi.af X).af Y;clear D E Q;by_cases h1:N<1
  ·have U:Hid (jQ P M mod N L=4):=by show _=_;rw [HB.out,Ir h1];rfl
   have t1:decide (N<1)=true:=by simpa using h1
   go_wp2_with fail;go_ret;exact ⟨aN U.symm,Z⟩
  ·have t1:decide (N<1)=false:=by simpa using h1
   by_cases h2:64<N
   ·have U:Hid (jQ P M mod N L=4):=by show _=_;rw [HB.out,Ia h2];rfl
    have t2:decide (64<N)=true:=by simpa using h2
    go_wp2_with fail;go_ret;exact ⟨aN U.symm,Z⟩
   ·have t2:decide (64<N)=false:=by simpa using h2
    have U:Hid (jQ P M mod N L=ga P M mod N L):=by show _=_;rw [HB.out,qN h1 h2,KX rfl]
    clear h1 h2;go_wp2_with fail;refine (qD P M am H cm mod N a n c L w1 j hi1 C.out).mono ?_;rintro e w2 ⟨rfl,r⟩;go_wp2_with fail;go_ret;exact ⟨aN U.symm,Pm Z r⟩
 ·have A:bF P M mod=false:=by simpa using E
  have U:Hid (jQ P M mod N L=1):=by show _=_;rw [jQ,KY E]
  have D:df (bF P M mod)=1:=by rw [A];rfl
  rw [D];clear E A D;go_wp2_with fail;go_ret;exact ⟨aN U.symm,Z⟩
def rQ (x:Nat):Nat:=18446744073709551615 ^^^ x
theorem uH (x i:Nat) (hi:i<64):(rQ x).testBit i = !x.testBit i:=by
 have h:(18446744073709551615:Nat).testBit i=true:=by have:=Nat.testBit_two_pow_sub_one 64 i;rw [show (2:Nat) ^ 64 - 1=18446744073709551615 by decide] at this;rw [this];simp [hi]
 rw [rQ,Pb,h];simp
def JX (O:aP) (L:Ll) (N x:Nat):Int:=(mE O L (dr x N)).length+(mE O L (dr (rQ x) N)).length - L.length
section
open Go.RowKit
end
theorem rR (x:Int) (w:World):Calls prog 267 #[cG x] w λe w'=>e = .returned (.bool (x != 0))/\w=w':=by go_enter func267,ntmps267;go_wp2;go_ret;exact ⟨rfl,rfl⟩
theorem eR (a:OA) (n c:Nat) (l:LI) (w:World) (hi:Ints w a n l) :
  Calls prog 111 #[.slice a n c,.func (.func 267) #[] #[]] w λe w'=>e = .returned (cG (wF l))/\w=w':=by
 have Y:=Z5 hi.len;have C:=hi.pl;have U:=hi.max;unfold maxLen at U;go_enter func111,ntmps111;go_wp2_with fail;go_loop [8] (λN=>∃k:Nat,k<=n/\N = cG k/\Hid (∀j,j<k->nth l j=0)) (λN=>n - (intOf N).toNat);case atStart=>exact ⟨0,K0 _,rfl,λj D=>by omega⟩
 case round =>
  obtain ⟨k,hk,rfl,Z⟩:=hrel
  by_cases X:k<n
  ·have A:=hi.cell k X
   by_cases V:nth l k=0
   ·have H:(nth l k != 0)=false:=by simpa using V
    have E:=Z5 V
    clear V
    go_wp2_with fail
    refine (rR _ _).mono ?_
    rintro e w' ⟨rfl,rfl⟩
    go_wp2_with fail
    go_round
    case rel=>exact ⟨k+1,by omega,by go_num,λj D=>by
     rcases LP j k with h | h
     ·exact Z j h
     ·rw [show j=k by omega];exact E⟩
    case measure=>simp [intOf] <;> omega
   ·have H:(nth l k != 0)=true:=by simpa using V
    have Q:Hid (wF l=k):=by show _=_;have:=Fp l k (by rw [Y.out];exact X) Z.out V;rw [wF,this,KX (by rw [Y.out];exact X)]
    clear V
    go_wp2_with fail
    refine (rR _ _).mono ?_
    rintro e w' ⟨rfl,rfl⟩
    go_wp2_with fail
    go_ret
    exact ⟨aN Q.symm,rfl⟩
  ·obtain rfl:k=n:=by omega
   have Q:Hid (wF l = -1):=by show _=_;have:=xw l (by rw [Y.out];exact Z);rw [wF,this,KY (by omega)]
   go_wp2_with fail
   go_ret
   exact ⟨aN Q.symm,rfl⟩
theorem DP {w w0:World} {b:Nat} {G:cZ} (H:Nat) (ar:OA) (cr:Nat) (R:LA) (ap:OA) (cp:Nat) (s:BS) (av:OA) (cv n:Nat) (v:LI)
  (h:dU w0 b G) (hb:PY w0 w) (hB:sA w w0.heap.size H b ar cr R ap cp s) (hs:s.Ok G.El n) (hv:w.ownsRow w0.heap.size 3 1 (.slice av n cv) n (v.map (Value.int .i64)))
  (hav:av ≠ none->¬ Am H ar R ap (ablk av)) (hve:G.Ch v) (hn:n<=1000000) (hk:s.rows.length<=1000000) :
  Calls prog 257 #[.pointer (some ⟨H,0,none⟩),.slice av n cv] w (FD w0 H b ar R ap av G.ops s v w):=by
 have hvl:v.length=n:=by simpa using jB hv
 have hpv:=(Pn hv).1.pl;have hcl:=PL h;have hred:=lH hcl hs.rws hs.plc ⟨hvl,hve⟩;have Hred:=Z5 hred;have Hvl:=Z5 hvl;have Hs:=Z5 hs;have Hve:=Z5 hve;have c1:=hB.c1;have hplr:=hB.om.pl;clear hred hvl hs hve;go_enter func257,ntmps257;go_wp2_with fail;obtain ⟨kk,hkk⟩:∃kk,s.rows.length=kk:=⟨_,rfl⟩
 have Hkk:=Z5 hkk;rw [hkk] at hk hplr c1;rw [hkk];clear hkk;go_loopw [18] (λiv wr=>∃k:Nat,k<=kk/\iv = cG k/\wr.ownsRow w0.heap.size 3 1 (.slice av n cv) n ((redTo G.ops s.rows s.place v k).map (Value.int .i64))/\db av w wr) (λiv _=>kk - (intOf iv).toNat);case atStart=>exact ⟨0,K0 _,rfl,hv,PD _ _⟩
 case round =>
  obtain ⟨k,hkk2,rfl,U,Z⟩:=hrel
  have A:=hB.only Z hav
  by_cases hlt:k<kk
  ·have hkr:k<s.rows.length:=by rw [Hkk.out];exact hlt
   have e0:=A.c0
   have e2:=A.c2
   have er:=A.om.cell hkr
   have ir:=A.om.ints hkr
   have hrow:=Hs.rws.row hkr
   have hplc:=Hs.plc k hkr
   rw [hrow.1] at er ir
   obtain ⟨ip,mp⟩:=Pn A.pl
   have ep:=ip.cell k hkr
   have hpp:=ip.pl
   rw [Hkk.out] at e2 hpp
   obtain ⟨pn,hpn⟩:∃pn:Nat,nth s.place k=pn:=⟨(nth s.place k).toNat,by omega⟩
   rw [hpn] at ep hplc
   have hpnn:pn<n:=by omega
   have hrd:=Hred k (by omega)
   have hrd1:=Hred (k+1) (by omega)
   have hstep:redTo G.ops s.rows s.place v (k+1)=ey G.ops (redTo G.ops s.rows s.place v k) pn (ai s.rows k):=by rw [redTo,hpn]
   have Hstep:=Z5 hstep
   have Hrow:=Z5 hrow
   have Hpn:=Z5 hpn
   clear hstep hpn
   obtain ⟨u,hu⟩:∃u,redTo G.ops s.rows s.place v k=u:=⟨_,rfl⟩
   rw [hu] at U hrd
   have Hu:=Z5 hu
   obtain ⟨iu,mu⟩:=Pn U
   have eu:=iu.cell pn hpnn
   have hpu:=iu.pl
   have Q:=Z5 hrd
   clear hu hrow hrd hrd1
   by_cases hz:nth u pn=0
   ·have hz':(nth u pn != 0)=false:=by simpa using hz
    have Hn:Hid (redTo G.ops s.rows s.place v (k+1)=u):=by show _=_;rw [Hstep.out,Hu.out,ey,KV,KX hz]
    clear hz
    go_wp2_with fail
    go_roundw
    case rel=>exact ⟨k+1,by omega,by go_num,by rw [Hn.out];exact U,Z⟩
    case measure=>simp [intOf] <;> omega
   ·have hz':(nth u pn != 0)=true:=by simpa using hz
    have Hn:Hid (redTo G.ops s.rows s.place v (k+1)=dY G.ops u (nth u pn) (ai s.rows k)):=by show _=_;rw [Hstep.out,Hu.out,ey,KV,KY hz]
    have hxe:G.El (nth u pn):=Q.2 _ (aG (by rw [Q.1];exact hpnn))
    have hSl:(dY G.ops u (nth u pn) (ai s.rows k)).length=u.length:=fi _ _ _ _ (by rw [Hrow.1,Q.1])
    have hSn:=λi hi=>eS G.ops u (nth u pn) (ai s.rows k) i (by rw [Hrow.1,Q.1]) hi
    have HSl:=Z5 hSl
    have HSn:=Z5 hSn
    clear hz hSl hSn
    have hplr2:=ir.pl
    go_wp2_with fail
    generalize nth u pn=x at *
    generalize dY G.ops u x (ai s.rows k)=S at *
    go_loopw [37] (λiv wx=>∃j:Nat,j<=n/\iv = cG j/\wx.ownsRow w0.heap.size 3 1 (.slice av n cv) n ((gv S u j).map (Value.int .i64))/\db av w wx) (λiv _=>n - (intOf iv).toNat)
    case atStart=>exact ⟨0,K0 _,rfl,by rw [fC];exact U,Z⟩
    case round =>
     obtain ⟨j,hj,rfl,C,E⟩:=hrel
     have hBx:=hB.only E hav
     have ix:=hBx.om.ints hkr
     rw [Hrow.1] at ix
     by_cases hjn:j<n
     ·have cj:=ix.cell j hjn
      have f0:=hBx.c0
      obtain ⟨im,mm⟩:=Pn C
      have cm:=im.cell j hjn
      have fm:=(mm (by omega)).2 j hjn
      have hju:j<u.length:=by rw [Q.1];exact hjn
      have hmix:=eA S u j j HSl.out (by omega)
      rw [KY (by omega)] at hmix
      rw [hmix] at cm
      have hset:=fh S u j HSl.out hju
      rw [HSn j hju] at hset
      have Hset:=Z5 hset
      have ely:G.El (nth (ai s.rows k) j):=Hrow.2 _ (aG (by rw [Hrow.1];exact hjn))
      have elv:G.El (nth u j):=Q.2 _ (aG hju)
      have elm:∀x y,G.El (G.mul x y):=λx y=>PQ h x y
      have hbx:PY w0 wr:=L5 hb (E.below (λha=>(aT hv ha).1) hb.size)
      have hGr:dU wr b G:=h.af hbx
      have HG:Hid (dU wr.drew b G/\∀n,dU (wr.drewN n) b G):=⟨hGr.af (KU _ _).drew,λn=>hGr.drewN n⟩
      clear hset hmix
      go_wp2_with fail
      go_region_law ((first
       | (go_simp;go_at_call 57;((with_reducible refine (oh x (nth (ai s.rows k) j) HG.out.1 hxe ely).mono ?_);rintro e w4 ⟨m4,rfl,rfl⟩))
       | (go_simp;go_at_call 57;((with_reducible refine (oh x (nth (ai s.rows k) j) (HG.out.2 _) hxe ely).mono ?_);rintro e w4 ⟨m4,rfl,rfl⟩))
       | (go_simp;go_at_call 199;((with_reducible refine (JR (nth u j) (G.mul x (nth (ai s.rows k) j)) (HG.out.2 _) elv (elm _ _)).mono ?_);rintro e w4 ⟨m5,rfl,rfl⟩))))
      all_goals (
       go_wp2_with fail
       go_roundw
       case rel =>
        have hdr:bg wr (wr.drewN (1+m4+m5)):=⟨_,rfl⟩
        refine ⟨j+1,by omega,by go_num,?_,E.trans ((PA hdr).trans (PF _ j _ (by intro e;have:=hpv (by omega);rw [e] at this;cases this)))⟩
        have h1:=bA (w:=wr.drewN (1+m4+m5)) C j hjn (cG (G.sub (nth u j) (G.mul x (nth (ai s.rows k) j))))
        rw [<- Lq,show G.sub (nth u j) (G.mul x (nth (ai s.rows k) j))=G.ops.add (nth u j) (G.ops.neg (G.ops.mul x (nth (ai s.rows k) j))) from rfl,Hset.out] at h1
        exact h1
       case measure=>simp [intOf] <;> omega)
     ·obtain rfl:j=n:=by omega
      rw [gx S u j (by rw [HSl.out,Q.1]) Q.1] at C
      go_wp2_with fail
      go_roundw
      case rel=>exact ⟨k+1,by omega,by go_num,by rw [Hn.out];exact C,E⟩
      case measure=>simp [intOf] <;> omega
  ·obtain rfl:k=kk:=by omega
   have hrd:=Hred k (by rw [Hkk.out];exact KT _)
   have hurd:redTo G.ops s.rows s.place v k=s.red G.ops v:=by rw [BS.red,Hkk.out]
   rw [hurd] at U hrd
   obtain ⟨iu,mu⟩:=Pn U
   have Q:=Z5 hrd
   clear hurd hrd
   go_wp2_with fail
   refine (eR _ _ _ _ _ iu).mono ?_
   rintro e w' ⟨rfl,rfl⟩
   by_cases hf:fnz (s.red G.ops v)<(s.red G.ops v).length
   ·have hfv:wF (s.red G.ops v)=fnz (s.red G.ops v):=by rw [wF,KX hf]
    have hfn:=mS _ hf
    have Ht:Hid (s.eH G.ops v=true):=by show _=_;simpa [BS.eH] using hf
    have HN:Hid (s.next G.ops v=⟨s.rows ++ [(s.red G.ops v).map (G.mul (G.inv (nth (s.red G.ops v) (fnz (s.red G.ops v)))))],s.place ++ [(fnz (s.red G.ops v):Int)]⟩):=by show _=_;rw [BS.next,KX Ht.out];rfl
    rw [hfv]
    obtain ⟨u,hu⟩:∃u,s.red G.ops v=u:=⟨_,rfl⟩
    rw [hu] at U Q hf hfn iu HN
    rw [hu]
    clear hu hfv
    obtain ⟨f,hff⟩:∃f,fnz u=f:=⟨_,rfl⟩
    rw [hff] at hf hfn HN
    rw [hff]
    have hfn':f<n:=by rw [<- Q.1];exact hf
    have e0:=A.c0
    have eu:=iu.cell f hfn'
    have hpu:=iu.pl
    have elf:G.El (nth u f):=Q.2 _ (aG hf)
    have hbx:PY w0 wr:=L5 hb (Z.below (λha=>(aT hv ha).1) hb.size)
    have hGr:dU wr b G:=h.af hbx
    have HG:Hid (dU wr.drew b G/\∀n,dU (wr.drewN n) b G):=⟨hGr.af (KU _ _).drew,λn=>hGr.drewN n⟩
    have Hfn:=Z5 hfn
    have Hf:=Z5 hf
    clear hff hfn hf
    go_upto_region 15 with fail
    go_cut [11] (λdv wx=>dv = cG (G.inv (nth u f))/\bg wr wx)
    case first =>
     go_region_held3 (λw'=>w'.cell? ⟨H,0,none⟩=some (.pointer (some ⟨b,0,none⟩))/\w'.cell? ⟨ablk av,aJ av+f,none⟩=some (cG (nth u f)))
      (exact ⟨e0,eu⟩)
      (first
      | (go_at_call 201;((with_reducible refine (GM _ HG.out.1 elf Hfn.out).mono ?_);rintro e w4 ⟨m4,rfl,rfl⟩)))
     all_goals (
      go_step;go_step
      go_meet
      exact ⟨rfl,⟨_,rfl⟩⟩)
    obtain ⟨rfl,hdr⟩:=hcut
    generalize wc=V at *
    have Y:sA V w0.heap.size H b ar cr R ap cp s:=A.af hdr.below
    have hownV:=bf U hdr.below
    have hbV:PY w0 V:=hdr.Ag hbx
    have r:db av w V:=Z.trans (PA hdr)
    clear A U hbx hGr HG e0 eu iu mu hdr Z
    obtain ⟨iu,mu⟩:=Pn hownV
    have HGV:Hid (dU V.drew b G/\∀n,dU (V.drewN n) b G):=⟨(h.af hbV).af (KU _ _).drew,λn=>(h.af hbV).drewN n⟩
    have hiel:G.El (G.inv (nth u f)):=cZ.vS h _
    have e0:=Y.c0
    have e1:=Y.c1
    have f1:=Y.fr 1
    have hS:∀W,PY V W->W.cell? ⟨H,0,none⟩=some (.pointer (some ⟨b,0,none⟩))/\W.cell? ⟨H,1,none⟩=some (.slice ar s.rows.length cr)/\W.frozen? ⟨H,1,none⟩=false/\PY V W:=by intro W hW;have hBW:=Y.af hW;exact ⟨hBW.c0,hBW.c1,hBW.fr 1,hW⟩
    have HS:=Z5 hS
    have haptb:eY ar H:=by
     by_cases ha:ar=none
     ·exact .inl ha
     ·exact .inr λe=>Y.d1 (.inl ⟨ha,e.symm⟩)
    have hR:∀W,PY V W->W.ownsRow w0.heap.size 22 1 (.slice ar k cr) k (List.zipWith j8 R s.rows):=λW hW=>by have:=(Y.om.af hW).own;rwa [Hkk.out] at this
    have HR:=Z5 hR
    obtain ⟨N,hN⟩:∃N,u.map (G.mul (G.inv (nth u f)))=N:=⟨_,rfl⟩
    have hsc:Calls prog 66 #[.pointer (some ⟨b,0,none⟩),cG (G.inv (nth u f)),.slice av n cv] V.drew (cQ V.drew N):=by rw [<- hN];exact xb (G.inv (nth u f)) _ _ _ u HGV.1 hiel (iu.af (KU _ _).drew) Q.2 hn
    have Hsc:=Z5 hsc
    have HNe:=Z5 hN
    rw [hN] at HN
    clear hN hsc
    clear hS hR
    go_upto_region 16 with fail
    go_cut [] (λwx=>∃z cr' R',wx.cell? ⟨H,1,none⟩=some (.slice z (k+1) cr')/\aO wx w0.heap.size z (k+1) cr' R' (s.rows ++ [N]) /\
     aC V wx (λx=>x=H\/bQ ar R x) (λx=>x=H\/bQ z R' x)/\¬ bQ z R' H /\
     (∀i v,i ≠ 1->V.cell? ⟨H,i,none⟩=some v->wx.cell? ⟨H,i,none⟩=some v)/\∀i,wx.frozen? ⟨H,i,none⟩=false)
    case first =>
     rw [Hkk.out] at e1 HS
     go_region_law ((first
      | (go_simp;go_at_call 66;((with_reducible refine Hsc.out.mono ?_);rintro e w4 ⟨a4,c4,rfl,hown4,hb4⟩;obtain ⟨q0,q1,q2,q5⟩:=HS.out w4 (Pm (KU _ _).drew hb4);have q6:H<w4.heap.size:=Lb w4 _ q0))
      | (refine eh (by rfl) (.tmp 83) (.tmp 91) 25 22 (by rfl) ds 24 underlying25 dw (by rfl) w0.heap.size ar k cr (List.zipWith j8 R s.rows) (by rfl) (HR _ (Pm q5 (an _ _))) (some ⟨w4.heap.size,0,none⟩) 1 1 [.slice a4 N.length c4] (by rfl) (λ_=>rfl) rfl (by intro j hj;obtain rfl:j=0:=(by omega);exact dB _ _ _ rfl) (by intro y hy;simp at hy;subst hy;rfl) (by omega) (by unfold maxLen;omega) (by have e1:=hbV.size;have e2:=Ml q5;simp;omega) ?_;intro a5 c5 w5 hown5 hgr5 hap5;have p1:=bP hgr5 (br q1 _) haptb;have p2:w5.frozen? ⟨H,1,none⟩=false:=(LK (hgr5.block H (Lb _ _ (br q1 _)) (λe=>haptb.own k cr e.symm))).trans (dP (Lb _ _ q1) q2 _))))
     all_goals (
      go_wp2_with fail
      go_meet
      exact Y.Jw Hkk.out hbV.size (Pm (KU _ _).drew hb4) hown4 hown5 hgr5 hap5 ⟨_,p1⟩)
    obtain ⟨z,cr',R',y1,hOX,D,hdX,hcX,hfX⟩:=hcut
    generalize wc=X at *
    have y0:=hcX 0 _ (by omega) e0
    have y2:=hcX 2 _ (by omega) Y.c2
    have yf:=hfX 2
    have hnI:ap ≠ none->¬ (ablk ap=H\/bQ ar R (ablk ap)):=λh0 hI=>by
     rcases hI with h1 | h1
     ·rcases Y.d2 with h2 | h2
      ·exact h0 h2
      ·exact h2 h1
     ·exact Y.d3 h0 h1
    have hpX:=D.own Y.pl hnI
    have hd3:ap ≠ none->¬ bQ z R' (ablk ap):=λh0 hI=>D.not (aT Y.pl h0).2 (hnI h0) (.inr hI)
    rw [Hkk.out] at y2 hpX
    have hbX:PY w0 X:=hbV.trans (D.below (λx hx=>(Y.lt x (by rcases hx with h1 | h1;exact .inl h1;exact .inr (.inl h1))).1) hbV.size)
    have hz:H<X.heap.size:=Lb X _ y0
    have HfX:=Z5 hfX
    have Hd3:=Z5 hd3
    have HdX:=Z5 hdX
    have hd2:=Y.d2
    have hbB:=Y.bB
    have hcn:=bm X (cG f) 3
    clear hcX hfX hd3 hdX e0 e1 f1
    go_wp2_with (at_builtin;refine aS rfl _ _ 22 3 rfl (cG 0) 8 underlying22 bh rfl w0.heap.size ap k cp _ rfl (hpX.alloc _) ⟨X.heap.size,0,none⟩ 1 (cG f) rfl hcn rfl (by omega) (by unfold maxLen;omega) (by have e1:=hbX.size;simp;omega) ?_;intro a6 c6 w6 hown6 hgr6 hap6;have p1:=bP hgr6 (br y2 _) hd2;have p2:w6.frozen? ⟨H,2,none⟩=false:=(LK (hgr6.block H (Lb _ _ (br y2 _)) (λe=>hd2.own k cp e.symm))).trans (dP hz yf _))
    have hP:=sA.Jn (w6:=w6) hbB y0 y1 ⟨_,y2⟩ HfX.out hOX hpX HdX.out hd2 Hd3.out hown6 hgr6 hap6
    have HP:=Z5 hP
    clear hP
    go_ret
    refine ⟨z,cr',R',a6,c6,aX Ht.symm,by rw [HN.out];exact HP.1,?_⟩
    refine PH (w':=V) (I':=λx=>Am H ar R ap x\/(av ≠ none/\x=ablk av)) ?_ (PH (w':=X) (I':=Am H z R' ap) ?_ HP.2)
    ·exact ⟨r.os,r.tape,r.output,r.size,λx hx hI=>r.block x hx λh2=>hI (.inr h2),λx hx=>.inl hx⟩
    ·refine ⟨D.os,D.tape,D.output,D.size,λx hx hI=>D.block x hx λh2=>hI (.inl (by rcases h2 with h3 | h3;exact .inl h3;exact .inr (.inl h3))),λx hx=>?_⟩
     rcases hx with h1 | h1 | h1
     ·exact .inl (.inl (.inl h1))
     ·rcases D.grow x (.inr h1) with h2 | h2
      ·exact .inl (.inl (by rcases h2 with h3 | h3;exact .inl h3;exact .inr (.inl h3)))
      ·exact .inr h2
     ·exact .inl (.inl (.inr (.inr h1)))
   ·have hfv:wF (s.red G.ops v) = -1:=by rw [wF,KY hf]
    rw [hfv]
    have Ht:Hid (s.eH G.ops v=false):=by show _=_;simp [BS.eH];omega
    have HN:Hid (s.next G.ops v=s):=by show _=_;rw [BS.next,KY (by rw [Ht.out];simp)]
    clear hf hfv
    go_wp2_with fail
    go_ret
    refine ⟨ar,cr,R,ap,cp,aX Ht.symm,by rw [HN.out];exact A,?_⟩
    exact ⟨Z.os,Z.tape,Z.output,Z.size,λx hx hI=>Z.block x hx λh2=>hI (.inr h2),λx hx=>.inl (.inl hx)⟩
def cO (l:LI):LI:=l.mergeSort λx y=>decide (x<=y)
theorem dC (l:LI):(cO l).Perm l:=List.mergeSort_perm l _
theorem eE (l:LI):(cO l).length=l.length:=(dC l).length_eq
theorem AO (l:LI):(cO l).Pairwise λx y=>x<=y:=by have h:=List.pairwise_mergeSort (le:=λx y:Int=>decide (x<=y)) (λa b c h1 h2=>by simp at *;omega) (λa b=>by simp;omega) l;exact h.imp λh=>by simpa using h
theorem lJ:∀ {l Z:LI},l.Pairwise (λx y=>x<=y)->Z.Pairwise (λx y=>x<=y)->l.Perm Z->l=Z
 | [],Z,_,_,h=>by rw [List.nil_perm] at h;exact h.symm
 | x :: l,[],_,_,h=>by rw [List.perm_nil] at h;exact h
 | x :: l,y :: Z,h1,h2,h=>by
  rw [M8] at h1 h2;have Y:x ∈ y :: Z:=h.subset (Nq ..);have X:y ∈ x :: l:=h.symm.subset (Nq ..);have e:x=y:=by
   rcases List.mem_cons.1 Y with e | Y
   ·exact e
   ·rcases List.mem_cons.1 X with e | X
    ·exact e.symm
    ·have:=h1.1 y X;have:=h2.1 x Y;omega
  subst e;rw [lJ h1.2 h2.2 (List.Perm.cons_inv h)]
theorem kP {l Z:LI} (h:Z.Pairwise λx y=>x<=y) (Y:Z.Perm l):Z=cO l:=lJ h (AO l) (Y.trans (dC l).symm)
theorem tJ {l:LI} (h:∀i j,i<j->j<l.length->nth l i ≠ nth l j):l.Nodup:=by unfold List.Nodup;rw [Nn];intro i j hi Y Z;have:=h i j Z Y;rwa [aj hi,aj Y] at this
section
open Go.RowKit Go.Shelf Go.Sort
theorem vK (a:OA) (c:Nat) (w:World):Calls prog 166 #[.slice a 0 c,cG 0,cG 0] w λe w'=>e = .returned (.tuple #[])/\w'=w:=by go_enter func166,ntmps166;go_wp2_with fail;refine wp_loop_rounds 1 ?_;rw [rounds_succ];go_wp2_with fail;go_end0;exact ⟨rfl,rfl⟩
theorem F2 (a:OA) (c:Nat) (w:World):Calls prog 116 #[.slice a 0 c,cG 0,cG 0,cG 0] w λe w'=>e = .returned (.tuple #[])/\w'=w:=by go_enter func116,ntmps116;go_wp2_with fail;refine wp_loop_rounds 1 ?_;rw [rounds_succ];go_wp2_with fail;refine (vK a c w).mono ?_;rintro e w' ⟨rfl,rfl⟩;go_wp2_with fail;(try simp only [Exit.inBlock,Exit.then]);refine bodyPost_ret (results_none rfl _ _ _) rfl ?_;exact ⟨rfl,rfl⟩
theorem wN (w:World):Calls prog 117 #[.int .u64 0] w λe w'=>e = .returned (cG 0)/\w'=w :=
 calls_of_every_depth λD=>AnyS.bits_LenIn { Kf with } D 0 w (by omega) (by omega)
theorem Eb (a:OA) (c:Nat) (w:World):Calls prog 67 #[.slice a 0 c] w λe w'=>e = .returned (.tuple #[])/\w'=w:=by go_enter func67,ntmps67;go_wp2_with fail;refine (wN w).mono ?_;rintro e w' ⟨rfl,rfl⟩;go_wp2_with fail;refine (F2 a c w').mono ?_;rintro e w' ⟨rfl,rfl⟩;go_wp2_with fail;go_end0;exact ⟨rfl,rfl⟩
theorem sN (B:Nat) (a:OA) (n c:Nat) (l:LI) (w:World) (Z:w.ownsRow B 3 1 (.slice a n c) n (l.map (Value.int .i64))) (z:B<=w.heap.size) (r:n<=1000000) :
  Calls prog 67 #[.slice a n c] w λe w'=>e = .returned (.tuple #[])/\w'.ownsRow B 3 1 (.slice a n c) n ((cO l).map (Value.int .i64))/\w.grownBy w' (Value.slice a n c).ownBlock/\Below B w w':=by
 have H:l.length=n:=by simpa using jB Z
 have X:=Z;rcases Z.2 with ⟨U,hz⟩ | ⟨g,cap,cur,U,Y,hb,h1,h2,h3,E⟩
 ·cases U
  have Q:l=[]:=Lw H;subst Q;refine (Eb none 0 w).mono ?_;rintro e w' ⟨rfl,rfl⟩;exact ⟨rfl,by simpa [cO] using X,⟨rfl,rfl,rfl,KT _,λk _ _=>rfl⟩,KU _ _⟩
 ·cases U
  subst H;have D:=holds_of_blockI (ss:=l) hb (by simpa using E);have N:g<w.heap.size:=(Array.getElem?_eq_some_iff.1 hb).1;refine (Any.slices_Sort_int Kf g 0 c l w D N (by omega)).mono ?_;rintro e w' ⟨rfl,C,os,rfl⟩;have V:=grownBy_sortedI (w:=w) (g:=g) (n:=C) (os:=os) (l.mergeSort λx y=>decide (x<=y)).toArray;exact ⟨rfl,ownsRow_sortedI (by simp) Y hb h1 h2 h3,V,(KU B w).grown V z (λj A=>by cases A;exact Y)⟩
theorem Ah (X:Nat) (a:OA) (len cap:Nat) (V:LI) (hlen:len<=1000000) (w:World) (Q:X<w.heap.size) (hc:w.cell? ⟨X,0,none⟩=some (.slice a len cap)) (hI:Ints w a len V) :
  Calls prog 259 #[.func (.func 269) #[] #[.pointer (some ⟨X,0,none⟩)]] w λe N =>
   ∃a2 c2,e = .returned (.slice a2 len c2)/\N.ownsRow w.heap.size 3 1 (.slice a2 len c2) len ((cO V).map (Value.int .i64))/\PY w N:=by go_enter func259,ntmps259;go_wp2_with fail;refine (xL X a len cap V hlen w Q hc hI).mono ?_;rintro e w1 ⟨v,rfl,Z,hb⟩;obtain ⟨a2,c2,rfl,_⟩:=PG Z;have H:=Z5 (sN w.heap.size a2 len c2 V w1 Z hb.size hlen);clear Z;go_wp2_with fail;refine H.mono ?_;rintro e E ⟨rfl,Y,_,U⟩;go_wp2_with fail;go_ret;exact ⟨a2,c2,rfl,Y,hb.trans U⟩
end
section
theorem aO.setOther {w:World} {B:Nat} {a:OA} {n c:Nat} {R:LA} {L:Ll} (h:aO w B a n c R L) {p:Addr} (Z:p.block<B) (v:Value):aO (w.setCell p v) B a n c R L :=
 h.bp λb hb=>Lf _ _ _ _ (by have:=(h.lt b hb).1;omega)
structure mC (w:World) (g:Nat) (x:Value) (a:OA) (k c:Nat) (R:LA) (L:Ll):Prop where
 lt:g<w.heap.size
 c0:w.cell? ⟨g,0,none⟩=some x
 c1:w.cell? ⟨g,1,none⟩=some (.slice a k c)
 fr:∀i,w.frozen? ⟨g,i,none⟩=false
 om:aO w (g+1) a k c R L
namespace mC
variable {w w' w4 w5:World} {g:Nat} {x:Value} {a:OA} {k c:Nat} {R:LA} {L:Ll}
theorem af (h:mC w g x a k c R L) (hb:PY w w'):mC w' g x a k c R L :=
 ⟨Lx h.lt hb.size,aB hb h.c0,aB hb h.c1,λi=>dK hb h.lt (h.fr i),h.om.af hb⟩
theorem tq (h:mC w g x a k c R L):eY a g:=by
 by_cases ha:a=none
 ·exact .inl ha
 ·exact .inr λe=>by have:=(aT h.om.own ha).1;omega
theorem vd {o:Obj} (h:mC w4 g x a k c R L) (Z:(w4.alloc o).grownBy w5 (Value.slice a k c).ownBlock):w5.cell? ⟨g,0,none⟩=some x/\w5.cell? ⟨g,1,none⟩=some (.slice a k c)/\w5.frozen? ⟨g,1,none⟩=false:=by
 have Y:=an w4 o;have X:=h.lt;have V:=Y.size;exact ⟨bP Z (br h.c0 o) h.tq,bP Z (br h.c1 o) h.tq,
  (LK (w:=w4.alloc o) (a:=⟨g,1,none⟩) (Z.block g (by omega) λe=>h.tq.own k c e.symm)).trans (dP h.lt (h.fr 1) _)⟩
theorem push {a4 a5:OA} {H c4 E:Nat} {N:LI} {o:Obj} (h:mC w4 g x a k c R L) (D:N.length=H)
  (X:w4.ownsRow (g+1) 3 1 (.slice a4 H c4) H (N.map (Value.int .i64))) (C:a4 ≠ none->¬ bQ a R (ablk a4))
  (V:w5.ownsRow (g+1) 22 1 (.slice a5 (k+1) E) (k+1) (List.zipWith j8 R L ++ [.slice a4 H c4])) (Z:(w4.alloc o).grownBy w5 (Value.slice a k c).ownBlock)
  (Q:∀x,x<(w4.alloc o).heap.size->eY a x->eY a5 x) :
  mC (w5.setCell ⟨g,1,none⟩ (.slice a5 (k+1) E)) g x a5 (k+1) E (R ++ [(a4,c4)]) (L ++ [N])/\Below g w4 (w5.setCell ⟨g,1,none⟩ (.slice a5 (k+1) E)):=by
 subst D;have Y:=an w4 o;have A:=h.om.af Y;have z:=bf X Y;have hP:=Py A z C V Z Q;have hlt:=h.lt;have r:=Y.size;have U:Below (g+1) w4 w5:=Pp (Y.mono (by omega)) A.own Z (KT _) (by omega);have hs:=U.size;have j:=bP Z (br h.c0 o) h.tq;have k1:=bP Z (br h.c1 o) h.tq;refine ⟨⟨by simp;omega,?_,Lh _ _ _ k1,λi=>?_,hP.setOther (by simp) _⟩,(U.mono (by omega)).setCell (by simp) _⟩
 ·rw [Le _ _ _ _ (by simp)];exact j
 ·rw [L7];exact (LK (w:=w4.alloc o) (a:=⟨g,i,none⟩) (Z.block g (by omega) λe=>h.tq.own k c e.symm)).trans (dP h.lt (h.fr i) _)
theorem start {U:World} {g:Nat} {x:Value} (Z:aQ U g [x,ds]):mC U g x none 0 0 [] [] :=
 ⟨Z.1,Z.cell 0 rfl,Z.cell 1 rfl,Z.frozen,PE _ _⟩
end mC
end
section
theorem pG (f:LI->LI) (L:Ll) {i:Nat} (h:i<L.length):ai (L.map f) i=f (ai L i):=by rw [aE (by simpa using h),aE h,LU]
theorem pD (l:LI) {len k:Nat} (h:k<len):nth (l.take len) k=nth l k:=by unfold nth;simp only [KZ,Mo];rw [KX h]
theorem yW (O:aP) (v u:LI) (s:Int) (len:Nat):(bX O v s u).take len=bX O (v.take len) s (u.take len):=by unfold bX;rw [O2]
def I2 (a:OA) (R:LA) (a2:OA) (S:LA) (b:Nat):Prop:=bQ a R b\/bQ a2 S b
structure nC (w:World) (B:Nat) (a:OA) (n c:Nat) (R:LA) (a2:OA) (c2:Nat) (S:LA) (len:Nat) (J:Ll):Prop where
 om1:aO w B a n c R (J.map (List.take len))
 om2:aO w B a2 n c2 S (J.map (List.drop len))
 dis:∀b,bQ a R b->¬ bQ a2 S b
namespace nC
variable {w w' w1:World} {B:Nat} {a:OA} {n c:Nat} {R R':LA} {a2:OA} {c2:Nat} {S S':LA} {len:Nat} {J J':Ll}
theorem lt (h:nC w B a n c R a2 c2 S len J) (b:Nat) (hb:I2 a R a2 S b):B<=b/\b<w.heap.size:=by
 rcases hb with hb | hb
 ·exact h.om1.lt b hb
 ·exact h.om2.lt b hb
theorem new (h:nC w B a n c R a2 c2 S len J) {b:Nat} (hb:w.heap.size<=b):¬ I2 a R a2 S b:=λZ=>by have:=h.lt b Z;omega
theorem af (h:nC w B a n c R a2 c2 S len J) (hb:PY w w'):nC w' B a n c R a2 c2 S len J:=⟨h.om1.af hb,h.om2.af hb,h.dis⟩
theorem ll (h:nC w B a n c R a2 c2 S len J):J.length=n:=by have:=h.om1.ll;simpa using this
theorem cell (h:nC w B a n c R a2 c2 S len J) {i:Nat} (hi:i<n) (Z:len<=(ai J i).length):w.cell? ⟨ablk a,aJ a+i,none⟩=some (.slice (aM R i).1 len (aM R i).2):=by have h1:=h.om1.cell hi;rw [pG _ J (by rw [h.ll];exact hi),Lt,Pe Z] at h1;exact h1
theorem ints (h:nC w B a n c R a2 c2 S len J) {i:Nat} (hi:i<n) (Z:len<=(ai J i).length):Ints w (aM R i).1 len ((ai J i).take len):=by have h1:=h.om1.ints hi;rw [pG _ J (by rw [h.ll];exact hi),Lt,Pe Z] at h1;exact h1
end nC
variable {w:World} {b:Nat} {G:cZ}
end
section
open Go.RowKit
end
section
variable {w:World} {b:Nat} {G:cZ}
end
section
open Go.RowKit
end
def PB:=@RS.row
end Go.Proofs.YthglbncgemdcbaaGreat
