import Derived.Test.YthglbncgemdcbaaGreatS7
import Derived.Test.YthglbncgemdcbaaGreatS6
namespace Go.Proofs.YthglbncgemdcbaaGreat
set_option linter.all false
set_option maxRecDepth 100000
set_option maxHeartbeats 4000000
open Go.RowKit Go.Proofs.Tryz
def Gw (P : Int) (low : Lz) (v : Nat) (c : Int) (r : Lz) : Nat->Lz
 | 0=>r
 | j+1=>(Gw P low v c r j).set (v+j) ((nth (Gw P low v c r j) (v+j)+(P - c) * nth low j) % P)
def Bm (P : Int) (low : Lz) (n : Nat) (r : Lz) : Nat->Lz
 | 0=>r
 | k+1=>(Gw P low (n - 1 - k - low.length) (nth (Bm P low n r k) (n - 1 - k)) (Bm P low n r k) low.length).set (n - 1 - k) 0
def Ik (P : Int) (low mod : Lz) : Bool:=(Bm P low (mod.length+1) (mod ++ [1]) (mod.length+1 - low.length)).all λx=>x == 0
theorem FJ (P : Int) (low : Lz) (v : Nat) (c : Int) (r : Lz) : ∀j,(Gw P low v c r j).length=r.length
 | 0=>rfl
 | j+1=>by rw [Gw,N9,FJ P low v c r j]
theorem Ff (P : Int) (low : Lz) (n : Nat) (r : Lz) : ∀k,(Bm P low n r k).length=r.length
 | 0=>rfl
 | k+1=>by rw [Bm,N9,FJ,Ff P low n r k]
theorem AU {P : Int} (hP : 0<P) (low : Lz) (v : Nat) (c : Int) {r : Lz} (h : eD P r) : ∀j,eD P (Gw P low v c r j)
 | 0=>h
 | j+1=>eD.D1 hP (AU hP low v c h j) _ _
theorem EK {P : Int} (hP : 0<P) (low : Lz) (n : Nat) {r : Lz} (h : eD P r) : ∀k,eD P (Bm P low n r k)
 | 0=>h
 | k+1=>eD.set (AU hP low _ _ (EK hP low n h k) _) _ (by omega) hP
theorem eD.snoc {P : Int} {l : Lz} (h : eD P l) {x : Int} (h0 : 0<=x) (h1 : x<P) : eD P (l ++ [x]):=by
 intro i;by_cases hi : i<l.length
 ·have e : nth (l ++ [x]) i=nth l i:=by simp only [nth,Ng];rw [Ny hi]
  rw [e];exact h i
 ·by_cases hj : i=l.length
  ·subst hj;have e : nth (l ++ [x]) l.length=x:=by simp [nth]
   rw [e];exact ⟨h0,h1⟩
  ·rw [l9 (by simp;omega)];omega
theorem zq (al : OA) (d cl : Nat) (low : Lz) (am : OA) (mn cm : Nat) (mod : Lz) (P : Int) (w : World) (hl : Ints w al d low) (hm : Ints w am mn mod) (hp2 : 2<=P) (hp256 : P<=256)
  (hdl : eD P low) (hdm : eD P mod) (hd1 : 1<=d) (hdn : d<=mn) (hmn : mn<=8) :
  Calls prog 150 #[.slice al d cl,.slice am mn cm,.int .i64 P] w λe w'=>e = .returned (.bool (Ik P low mod))/\SW w w':=by
 have hP : 0<P:=by omega
 have Hll:=Z5 hl.len;have Hml:=Z5 hm.len;have hpll:=hl.pl;have Hdl:=Z5 hdl;have HDB : Hid (Ik P low mod=(Bm P low (mn+1) (mod ++ [1]) (mn+1 - d)).all λx=>x == 0):=by show _=_;rw [Ik,hm.len,hl.len]
 have HD0 : Hid (eD P (mod ++ [1])):=hdm.snoc (by omega) (by omega);have HL0 : Hid ((mod ++ [1]).length=mn+1):=by show _=_;rw [Nl,hm.len];rfl
 have hO1:=fA w 3;have hbe:=an w (.cells #[] 3);have hme:=hm.ah hbe;have hpm:=hm.pl;clear hdl hdm;go_enter func150,ntmps150;go_wp2_with (at_builtin; first
       | (refine dH (by rfl) (.tmp 15) (.tmp 16) 22 3 (by rfl) (.int .i64 0) 8 underlying22 aU (by rfl) w.heap.size _ 0 0 [] (by rfl) hO1 am mn cm (mod.map (Value.int .i64)) (by rfl) hpm (by simp [Hml.out]) (Si hme) (ints_oneCell _ _) (by omega) (by unfold maxLen;omega) (Om hbe) ?_;intro a3 c3 w3 hown3 hgr3 hap3;have hb3 : SW w w3:=Sa (B:=w.heap.size) (e:=3) (xs:=[]) hbe hO1 hgr3 (Na _) (Om hbe);rw [OI] at hown3 ⊢;rw [N5] at hown3)
       | (refine aO rfl _ _ 22 3 rfl (.int .i64 0) 8 underlying22 aU rfl w.heap.size a3 mn c3 _ rfl (hown3.alloc _) ⟨w3.heap.size,0,none⟩ 1 (.int .i64 1) rfl (ba w3 _ _) rfl (by omega) (by unfold maxLen;omega) (by have h1:=Om hb3;simp;omega) ?_;intro a1 c1 w1 hown1 hgr1 hap1))
 have hb4 : SW w w1:=Sa (RZ hb3 (an _ _)) (hown3.alloc _) hgr1 (Na _) (Nr hb3.size (Om (an _ _)));have hown : w1.ownsRow w.heap.size 3 1 (.slice a1 (mn+1) c1) (mn+1) ((mod ++ [1]).map (Value.int .i64)):=by simpa using hown1
 have ha1 : a1 ≠ none->w.heap.size<=ablk a1:=λh=>(aY hown h).1;obtain ⟨n,hn⟩ : ∃n,mn+1=n:=⟨_,rfl⟩
 have Hn:=Z5 hn;have hn9 : n<=9:=by omega
 have hdn' : d+1<=n:=by omega
 obtain ⟨r0,hr0⟩ : ∃r0,mod ++ [1]=r0:=⟨_,rfl⟩
 rw [hr0,hn] at hown HDB;rw [hr0] at HD0;rw [hr0,hn] at HL0;have hnv : (((mn+1 : Nat) : Int))=n:=by omega
 have hnv2 : (mn : Int)+1=n:=by omega
 have hlw:=hl.ah hb4;have hS : ∀V,SW w V->Ints V al d low:=λV hV=>hl.ah hV;have HS:=Z5 hS;rw [hn];clear hown1 hgr1 hap1 hown3 hgr3 hap3 hr0 hn hS hO1 hbe hme hlw;go_wp2_with fail;clear hnv hnv2;go_loopw [9] (λiv wr=>∃k t : Nat,t+k+1=n/\d<=t+1/\iv = .int .i64 t/\wr.ownsRow w.heap.size 3 1 (.slice a1 n c1) n ((Bm P low n r0 k).map (Value.int .i64))/\dp a1 w1 wr) (λiv _=>(intOf iv).toNat);case atStart=>exact ⟨0,n - 1,by omega,by omega,by have:=Hn.out;congr 1;omega,hown,Sq _ _⟩
 case round =>
  obtain ⟨k,t,htk,hdt,rfl,hownk,honlyk⟩:=hrel
  have hbk : SW w wr:=hb4.trans (honlyk.below ha1 hb4.size)
  by_cases hti : d<=t
  ·have Htk:=Z5 htk
   have Hrk : Hid (Bm P low n r0 (k+1)=(Gw P low (t - d) (nth (Bm P low n r0 k) t) (Bm P low n r0 k) d).set t 0):=by show _=_;rw [Bm,Hll.out,show n - 1 - k=t by omega]
   have Hrd : Hid (eD P (Bm P low n r0 k)):=EK hP low n HD0.out k
   obtain ⟨C2,hC2⟩ : ∃C2,Bm P low n r0 k=C2:=⟨_,rfl⟩
   rw [hC2] at hownk Hrk Hrd
   have htn : t<n:=by omega
   have hti' : (t : Int)<n:=by omega
   obtain ⟨it0,mt0⟩:=R6 hownk
   have c0:=it0.cell t htn
   have hp0:=it0.pl
   have b2:=Hrd.out t
   clear hC2 htk
   go_wp2_with fail
   obtain ⟨cc,hcc⟩ : ∃cc,nth C2 t=cc:=⟨_,rfl⟩
   rw [hcc] at b2 Hrk
   rw [hcc]
   clear hcc c0 it0 mt0
   go_loopw [11] (λiv wr=>∃j : Nat,j<=d/\iv = .int .i64 j/\wr.ownsRow w.heap.size 3 1 (.slice a1 n c1) n ((Gw P low (t - d) cc C2 j).map (Value.int .i64))/\dp a1 w1 wr) (λiv _=>d - (intOf iv).toNat)
   case atStart=>exact ⟨0,Ni _,rfl,hownk,honlyk⟩
   case round =>
    obtain ⟨j,hj,rfl,hown2,honly2⟩:=hrel
    have hbr2 : SW w wr:=hb4.trans (honly2.below ha1 hb4.size)
    have j1:=HS.out wr hbr2
    by_cases hlt2 : j<d
    ·have Hcj : Hid (Gw P low (t - d) cc C2 (j+1)=(Gw P low (t - d) cc C2 j).set (t - d+j) ((nth (Gw P low (t - d) cc C2 j) (t - d+j)+(P - cc) * nth low j) % P)):=rfl
     have hcd:=AU hP low (t - d) cc Hrd.out j
     obtain ⟨T,hT⟩ : ∃T,Gw P low (t - d) cc C2 j=T:=⟨_,rfl⟩
     rw [hT] at hown2 Hcj hcd
     clear hT
     obtain ⟨it,mt⟩:=R6 hown2
     obtain ⟨u,hu⟩ : ∃u,t - d+j=u:=⟨_,rfl⟩
     have hun : u<n:=by omega
     have ct:=it.cell u hun
     have cM:=j1.cell j hlt2
     have ft:=(mt (by omega)).2 u hun
     have hplt:=it.pl
     have b1:=hcd u
     have b3:=Hdl.out j
     have hme:=pX (show 0<=P - cc by omega) (show P - cc<=256 by omega) b3.1 (show nth low j<=256 by omega)
     have hP0 : P ≠ 0:=by omega
     rw [hu] at Hcj
     obtain ⟨Z,hZ⟩ : ∃Z,(nth T u+(P - cc) * nth low j) % P=Z:=⟨_,rfl⟩
     have Hcj2 : Hid (Gw P low (t - d) cc C2 (j+1)=T.set u Z):=by show _=_;rw [Hcj.out,hZ]
     obtain ⟨v,hv⟩ : ∃v,t - d=v:=⟨_,rfl⟩
     have r0' : IntKind.i64.wrap ((t : Int) - d)=(v : Int):=by rw [Ns _ (by omega)];omega
     have r1 : IntKind.i64.wrap ((v : Int)+j)=(u : Int):=by rw [Ns _ (by omega)];omega
     have r2 : IntKind.i64.wrap (P - cc)=P - cc:=Ns _ (by omega)
     have r3 : IntKind.i64.wrap ((P - cc) * nth low j)=(P - cc) * nth low j:=Ns _ (by omega)
     have r4 : IntKind.i64.wrap (nth T u+(P - cc) * nth low j)=nth T u+(P - cc) * nth low j:=Ns _ (by omega)
     have r5 : (nth T u+(P - cc) * nth low j).tmod P=Z:=by rw [<- hZ];exact Ox _ _ (by omega)
     have q1 : (0 : Int)<=u:=by omega
     have q2 : (u : Int)<n:=by omega
     have q4 : (j : Int)<d:=by omega
     clear hZ hu hv Hcj
     go_wp2_with fail
     go_still_tail 26,(by kernel_rfl)
     change wpList _ _ _ _ _ wr.drew
     generalize hwd : wr.drew=wd
     have fd : wd.frozen? ⟨ablk a1,aK a1+u,none⟩=false:=by rw [<- hwd];exact ft
     have cd : wd.cell? ⟨ablk a1,aK a1+u,none⟩=some (.int .i64 (nth T u)):=by rw [<- hwd];exact ct
     have Hwd:=Z5 hwd
     clear hwd r0' r1 r2 r3 r4 r5
     go_wp2_with fail
     go_roundw
     case rel =>
      obtain rfl:=Hwd.out
      have hdr : bf wr wr.drew:=(Sf wr).drew
      refine ⟨j+1,by omega,by go_num,?_,honly2.trans ((Sm hdr).trans (St _ u _ (by intro e;have:=hplt (by omega);rw [e] at this;cases this)))⟩
      have h1:=bK (w:=wr.drew) hown2 u hun (.int .i64 Z)
      rw [<- NF,<- Hcj2.out] at h1
      exact h1
     case measure=>simp [intOf] <;> omega
    ·obtain rfl : j=d:=by omega
     obtain ⟨it,mt⟩:=R6 hown2
     have ct:=it.cell t htn
     have ft:=(mt (by omega)).2 t htn
     have hplt:=it.pl
     go_wp2_with fail
     go_roundw
     case rel =>
      have h1:=bK hown2 t htn (.int .i64 0)
      rw [<- NF,<- Hrk.out] at h1
      exact ⟨k+1,t - 1,by have:=Htk.out;omega,by omega,by congr 1;omega,h1,honly2.trans (St _ t _ (by intro e;have:=hplt (by omega);rw [e] at this;cases this))⟩
     case measure=>simp [intOf] <;> omega
  ·have hkf : k=n - d:=by omega
   have Hfin : Hid (Ik P low mod=(Bm P low n r0 k).all λx=>x == 0):=by show _=_;rw [HDB.out,hkf]
   have HlT : Hid ((Bm P low n r0 k).length=n):=by show _=_;rw [Ff];exact HL0.out
   obtain ⟨C2,hC2⟩ : ∃C2,Bm P low n r0 k=C2:=⟨_,rfl⟩
   rw [hC2] at hownk Hfin HlT
   have iC:=(R6 hownk).1
   have hpC:=iC.pl
   clear hC2 htk hkf hownk
   go_wp2_with fail
   go_loop [12] (λiv=>∃j : Nat,j<=n/\iv = .int .i64 j/\Hid ((C2.take j).all (λx=>x == 0)=true)) (λiv=>n - (intOf iv).toNat)
   case atStart=>exact ⟨0,Ni _,rfl,by show _=_;simp⟩
   case round =>
    obtain ⟨j,hj,rfl,hall⟩:=hrel
    by_cases hlt : j<n
    ·have cj:=iC.cell j hlt
     have hjl : j<C2.length:=by rw [HlT.out];exact hlt
     by_cases hz : nth C2 j=0
     ·have hz' : (nth C2 j != 0)=false:=by simpa using hz
      have Hs : Hid ((C2.take (j+1)).all (λx=>x == 0)=true):=ed hjl hall.out (by rw [<- aj hjl,hz];rfl)
      clear hz
      go_wp2_with fail
      go_round
      case rel=>exact ⟨j+1,by omega,by go_num,Hs.out⟩
      case measure=>simp [intOf] <;> omega
     ·have hz' : (nth C2 j != 0)=true:=by simpa using hz
      have Hs : Hid (Ik P low mod=false):=by show _=_;rw [Hfin.out];exact dZ hjl (by rw [<- aj hjl];simpa using hz)
      clear hz
      go_wp2_with fail
      go_ret
      exact ⟨aZ Hs.out.symm,hbk⟩
    ·obtain rfl : j=n:=by omega
     have Hs : Hid (Ik P low mod=true):=by have:=hall.out;rw [No (by rw [HlT.out];exact Na _)] at this;show _=_;rw [Hfin.out,this]
     go_wp2_with fail
     go_ret
     exact ⟨aZ Hs.out.symm,hbk⟩
def ML (P : Int) (mod : Lz) (d q : Nat) : Bool:=(List.range q).all λv=>!Ik P (digs v P d) mod
def Bk (P : Int) (mod : Lz) (k : Nat) : Bool:=(List.range k).all λd=>ML P mod (d+1) (P ^ (d+1)).toNat
def tO (P : Int) (mod : Lz) : Bool:=Bk P mod (mod.length / 2)
theorem xe {p : Nat->Bool} {k : Nat} (h : (List.range k).all p=true) (hk : p k=true) : (List.range (k+1)).all p=true:=by rw [Ou,Qq,h];simp [hk]
theorem rQ {p : Nat->Bool} {k n : Nat} (hk : k<n) (h : p k=false) : (List.range n).all p=false:=by rw [OU];exact ⟨k,List.mem_range.2 hk,by simp [h]⟩
theorem tD (am : OA) (mn cm : Nat) (mod : Lz) (P : Int) (w : World) (hm : Ints w am mn mod) (hp2 : 2<=P) (hp256 : P<=256) (hdm : eD P mod) (hmn : mn<=8) (hpw : P ^ mn<=256) :
  Calls prog 96 #[.slice am mn cm,.int .i64 P] w λe w'=>e = .returned (.bool (tO P mod))/\SW w w':=by
 have Hml:=Z5 hm.len;have Hdm:=Z5 hdm;have HP : Hid (∀k,k<=mn->1<=P ^ k/\P ^ k<=256):=λk hk=>⟨by have:=dy (show 1<=P by omega) (Ni k);rwa [OT] at this,QQ (dy (show 1<=P by omega) hk) hpw⟩
 have HI : Hid (tO P mod=Bk P mod (mn / 2)):=by show _=_;rw [tO,hm.len]
 clear hdm hpw;go_enter func96,ntmps96;go_wp2_with fail;go_loopw [5,6] (λcv dv wr=>∃d : Nat,1<=d/\2 * d<=mn+2/\dv = .int .i64 d/\cv = .int .i64 (P ^ (d - 1))/\Hid (Bk P mod (d - 1)=true)/\SW w wr) (λ_ dv _=>mn+2 - (intOf dv).toNat);case atStart=>exact ⟨1,by omega,by omega,rfl,by simp,by show _=_;simp [Bk],Nc _ _⟩
 case round =>
  obtain ⟨d,hd1,hd2,rfl,rfl,hir,hbr⟩:=hrel
  by_cases hlt : 2 * d<=mn
  ·have hpe:=HP.out (d - 1) (by omega)
   have hpe1:=HP.out d (by omega)
   have hps : P ^ d=P ^ (d - 1) * P:=by have h1:=N4 P (d - 1);have h2 : (d - 1).succ=d:=P7 hd1;rwa [h2] at h1
   obtain ⟨q,hq⟩ : ∃q : Nat,P ^ d=q:=⟨(P ^ d).toNat,by omega⟩
   have HQ : Hid (Bk P mod d=(Bk P mod (d - 1) && ML P mod d q)):=by
    have e1 : Bk P mod d=(List.range ((d - 1)+1)).all λd=>ML P mod (d+1) (P ^ (d+1)).toNat:=by rw [P7 hd1];rfl
    show _=_;rw [e1,Ou,Qq];simp only [Rj,List.all_nil,Bool.and_true];rw [P7 hd1,hq];rfl
   have Hps : Hid (P ^ (d - 1) * P=(q : Int)):=by show _=_;rw [<- hps,hq]
   have hq256 : q<=256:=by omega
   have Hq:=Z5 hq
   have Hlen : Hid (∀v : Nat,(digs v P d).length=d):=λv=>cO _ _ _
   have Hdd : Hid (∀v : Nat,eD P (digs v P d)):=λv=>SM (by omega) _ _
   have Hf0 : Hid (∀v : Nat,v<q->Ik P (digs v P d) mod=true->tO P mod=false):=λv hv hd=>by rw [HI.out];refine rQ (k:=d - 1) (by omega) ?_;rw [P7 hd1,hq,Nb];exact rQ hv (by rw [hd];rfl)
   clear hps hpe1 hq
   obtain ⟨pe,hpe'⟩ : ∃pe,P ^ (d - 1)=pe:=⟨_,rfl⟩
   rw [hpe'] at Hps hpe
   rw [hpe']
   have hps2:=Hps.out
   have hltd : decide (2 * (d : Int)<=mn)=true:=by simp;omega
   have hltn : decide (2 * d<=mn)=true:=by simp;omega
   clear hpe'
   go_wp2_with fail
   clear hps2
   go_loopw [7] (λvv wx=>∃v : Nat,v<=q/\vv = .int .i64 v/\Hid ((List.range v).all (λv=>!Ik P (digs v P d) mod)=true)/\SW w wx) (λvv _=>q - (intOf vv).toNat)
   case atStart=>exact ⟨0,Ni _,rfl,by show _=_;simp,hbr⟩
   case round =>
    obtain ⟨v,hv,rfl,hall,hbx⟩:=hrel
    by_cases hvq : v<q
    ·obtain ⟨D,hD⟩ : ∃D,digs v P d=D:=⟨_,rfl⟩
     have Hl:=Z5 (Hlen.out v)
     have Hg:=Z5 (Hdd.out v)
     have Hf:=Z5 (Hf0.out v hvq)
     have HDg:=Z5 (uf v P d wr (by omega) (by omega) (by omega) (by omega))
     rw [hD] at Hl Hg Hf HDg
     have HD:=Z5 hD
     clear hD
     go_wp2_with fail
     refine HDg.out.mono ?_
     rintro e1 w1 ⟨a1,c1,rfl,hown1,hb1⟩
     rw [Hl.out] at hown1 ⊢
     have hi1:=(R6 hown1).1
     have hbx1:=RZ hbx hb1
     clear hown1
     go_wp2_with fail
     refine (zq a1 d c1 D am mn cm mod P w1 hi1 (hm.ah hbx1) hp2 hp256 Hg.out Hdm.out hd1 (by omega) hmn).mono ?_
     rintro e2 w2 ⟨rfl,hb2⟩
     have hbx2:=RZ hbx1 hb2
     by_cases hdv : Ik P D mod=true
     ·have Hf2:=Z5 (Hf.out hdv)
      rw [hdv]
      clear hdv
      go_wp2_with fail
      go_ret
      exact ⟨aZ Hf2.out.symm,hbx2⟩
     ·have hdv' : Ik P D mod=false:=by simpa using hdv
      have Hs : Hid ((List.range (v+1)).all (λv=>!Ik P (digs v P d) mod)=true):=xe hall.out (by rw [HD.out,hdv'];rfl)
      rw [hdv']
      clear hdv hdv'
      go_wp2_with fail
      go_roundw
      case rel=>exact ⟨v+1,by omega,by go_num,Hs.out,hbx2⟩
      case measure=>simp [intOf] <;> omega
    ·obtain rfl : v=q:=by omega
     have Hs : Hid (Bk P mod d=true):=by show _=_;rw [HQ.out,hir.out,ML,hall.out];rfl
     go_wp2_with fail
     go_roundw
     case rel=>exact ⟨d+1,by omega,by omega,by go_num,by rw [PB,Hq.out],Hs.out,hbx⟩
     case measure=>simp [intOf] <;> omega
  ·have Hs : Hid (tO P mod=true):=by show _=_;rw [HI.out,show mn / 2=d - 1 by omega];exact hir.out
   go_wp2_with fail
   go_ret
   exact ⟨aZ Hs.out.symm,hbr⟩
def ch (P M : Int) (mod : Lz) : Bool:=dg P M mod && (M == 1 || tO P mod)
theorem Ew {P M : Int} {mod : Lz} (h : aJ P M=0) : dg P M mod=false:=by simp [dg,h]
theorem C5 {P M : Int} {mod : Lz} (h : js P.toNat=false) : dg P M mod=false:=by simp [dg,h]
theorem oM (P M : Int) (am : OA) (mn cm : Nat) (mod : Lz) (w : World) (hmod : Ints w am mn mod) :
  Calls prog 40 #[.agg #[.int .i64 P,.int .i64 M,.slice am mn cm]] w λe w'=>e = .returned (.int .i64 (dF (ch P M mod)))/\SW w w':=by
 have Hml:=Z5 hmod.len;have hplm:=hmod.pl;have hmax:=hmod.max;unfold maxLen at hmax;go_enter func40,ntmps40;go_wp2_with fail;obtain ⟨W,hW⟩ : ∃W : World,W=w.alloc (.cells #[.int .i64 P,.int .i64 M,.slice am mn cm] 24):=⟨_,rfl⟩
 rw [<- hW];have hbW : SW w W:=by rw [hW];exact an _ _
 have x0 : aN W w.heap.size [.int .i64 P,.int .i64 M,.slice am mn cm]:=by rw [hW];exact R9 _ _ _ rfl
 have HX:=Z5 x0;clear hW x0;refine (gK P M am mn cm W).mono ?_;rintro e w1 ⟨rfl,hb1⟩;have hbw1:=RZ hbW hb1;have xU:=HX.out.ah hb1;have d0:=xU.cell 0 rfl;have d1:=xU.cell 1 rfl;have d2:=xU.cell 2 rfl;have hm1:=(hmod.ah hbW).ah hb1;clear xU;by_cases ho : aJ P M=0
 ·have Hf : Hid (dF (ch P M mod)=1):=by show _=_;rw [ch,Ew ho];rfl
  rw [ho];clear ho;go_wp2_with fail;go_ret;exact ⟨aP Hf.out.symm,hbw1⟩
 ·obtain ⟨m,rfl,hrf⟩:=RF.of ho;have hp2:=hrf.p2;have hp256:=hrf.p256;have hm1':=hrf.m1;have hm8:=hrf.m8;have hoo : (aJ P m == 0)=false:=by simpa using ho
  have Ho:=Z5 ho;obtain ⟨p,rfl⟩ : ∃p : Nat,P=p:=⟨P.toNat,by omega⟩
  clear ho;by_cases hpr : js p=true
  ·have Hpr:=Z5 hpr;have Hc:=Z5 (vR p w1 (by omega) (by omega));rw [hpr] at Hc;clear hpr;have hsh : dg p m mod=(if (m : Int)=1 then mod.length == 0 else decide ((mod.length : Int)=m) && mod.all λc=>decide (0<=c) && decide (c<p)):=by
    have h1 : (aJ p m != 0)=true:=by have:=Ho.out;simpa using this
    rw [dg,h1,Nb,Hpr.out];rfl
   have Hsh:=Z5 hsh;clear hsh;by_cases hM : m=1
   ·have hM' : ((m : Int) == 1)=true:=by simp [hM]
    have hMi : (m : Int)=1:=by omega
    have HfR : Hid (ch p m mod=(mod.length == 0)):=by show _=_;rw [ch,Hsh.out,Nd hMi,hM'];simp
    clear hM hMi;by_cases hl : mn=0
    ·have hl' : ((mn : Int) != 0)=false:=by simp [hl]
     have Hf : Hid (dF (ch p m mod)=0):=by show _=_;rw [HfR.out,Hml.out,hl];rfl
     clear hl;go_wp2_with (go_at_call 95;refine Hc.out.mono ?_;rintro e w2 ⟨rfl,rfl⟩);go_ret;exact ⟨aP Hf.out.symm,hbw1⟩
    ·have hl' : ((mn : Int) != 0)=true:=by simp;omega
     have Hf : Hid (dF (ch p m mod)=1):=by
      show _=_;rw [HfR.out,Hml.out];have : (mn == 0)=false:=by simpa using hl
      rw [this];rfl
     clear hl;go_wp2_with (go_at_call 95;refine Hc.out.mono ?_;rintro e w2 ⟨rfl,rfl⟩);go_ret;exact ⟨aP Hf.out.symm,hbw1⟩
   ·have hM' : ((m : Int) == 1)=false:=by simp;omega
    have hMi : ¬ (m : Int)=1:=by omega
    have HfR : Hid (ch p m mod=(decide ((mod.length : Int)=m) && (mod.all λc=>decide (0<=c) && decide (c<p)) && tO p mod)):=by show _=_;rw [ch,Hsh.out,Nf hMi,hM'];simp
    clear hM hMi;by_cases hl : mn=m
    ·have hl' : ((mn : Int) != m)=false:=by simp [hl]
     have HfR2 : Hid (ch p m mod=((mod.all λc=>decide (0<=c) && decide (c<p)) && tO p mod)):=by show _=_;rw [HfR.out,Hml.out,hl];simp
     have Hmn : Hid (mn=m):=hl;have hmnm : (mn : Int)=m:=by omega
     clear hl hmnm;go_wp2_with (go_at_call 95;refine Hc.out.mono ?_;rintro e w2 ⟨rfl,rfl⟩);go_loopw [3] (λiv wr=>∃k : Nat,k<=m/\iv = .int .i64 k/\Hid ((mod.take k).all (λc=>decide (0<=c) && decide (c<p))=true)/\bf w1 wr) (λiv _=>m - (intOf iv).toNat);case atStart=>exact ⟨0,Ni _,rfl,by show _=_;simp,Sf _⟩
     case round =>
      obtain ⟨k,hk,rfl,hall,hd⟩:=hrel
      have e0:=hd.cell d0
      have e1:=hd.cell d1
      have e2:=hd.cell d2
      have hmr:=hm1.drawn hd
      by_cases hlt : k<m
      ·have hkmn : k<mn:=by rw [Hmn.out];exact hlt
       have ck:=hmr.cell k hkmn
       have hkl : k<mod.length:=by rw [Hml.out];exact hkmn
       have hkmn' : (k : Int)<mn:=by omega
       by_cases h0 : 0<=nth mod k
       ·have t0 : decide (nth mod k<0)=false:=by simp;omega
        by_cases h1 : nth mod k<p
        ·have t1 : decide ((p : Int)<=nth mod k)=false:=by simp;omega
         have Hs : Hid ((mod.take (k+1)).all (λc=>decide (0<=c) && decide (c<p))=true):=ed hkl hall.out (by rw [<- aj hkl];simp [h0,h1])
         go_wp2_with fail
         go_quiet (fail)
         go_wp2
         go_roundw
         case rel=>exact ⟨k+1,by omega,by go_num,Hs.out,hd.drewN _⟩
         case measure=>simp [intOf] <;> omega
        ·have t1 : decide ((p : Int)<=nth mod k)=true:=by simp;omega
         have Hf : Hid (dF (ch p m mod)=1):=by show _=_;rw [HfR2.out,dZ hkl (by rw [<- aj hkl];simp [h1])];rfl
         go_wp2_with fail
         go_quiet (fail)
         go_wp2
         go_ret
         exact ⟨aP Hf.out.symm,RZ hbw1 (hd.drewN _).below⟩
       ·have t0 : decide (nth mod k<0)=true:=by simp;omega
        have Hf : Hid (dF (ch p m mod)=1):=by show _=_;rw [HfR2.out,dZ hkl (by rw [<- aj hkl];simp [h0])];rfl
        go_wp2_with fail
        go_quiet (fail)
        go_wp2
        go_ret
        exact ⟨aP Hf.out.symm,RZ hbw1 (hd.drewN _).below⟩
      ·obtain rfl : k=m:=by omega
       have Hall : Hid ((mod.all λc=>decide (0<=c) && decide (c<p))=true):=by have:=hall.out;rwa [No (by rw [Hml.out,Hmn.out];exact Na _)] at this
       have HfR3 : Hid (ch p k mod=tO p mod):=by show _=_;rw [HfR2.out,Hall.out];simp
       have hdig : eD (p : Int) mod:=SI (by omega) λx hx=>by have:=List.all_eq_true.1 Hall.out x hx;simpa using this
       have hpw : (p : Int) ^ mn<=256:=by rw [Hmn.out];exact hrf.pw
       have hmn8 : mn<=8:=by rw [Hmn.out];exact hm8
       go_wp2_with fail
       refine (tD am mn cm mod p wr hmr hp2 hp256 hdig hmn8 hpw).mono ?_
       rintro e w4 ⟨rfl,hb4⟩
       have hbw4:=RZ (RZ hbw1 hd.below) hb4
       by_cases hir : tO p mod=true
       ·have Hf : Hid (dF (ch p k mod)=0):=by show _=_;rw [HfR3.out,hir];rfl
        rw [hir]
        clear hir
        go_wp2_with fail
        go_ret
        exact ⟨aP Hf.out.symm,hbw4⟩
       ·have hir' : tO p mod=false:=by simpa using hir
        have Hf : Hid (dF (ch p k mod)=1):=by show _=_;rw [HfR3.out,hir'];rfl
        rw [hir']
        clear hir hir'
        go_wp2_with fail
        go_ret
        exact ⟨aP Hf.out.symm,hbw4⟩
    ·have hl' : ((mn : Int) != m)=true:=by simp;omega
     have Hf : Hid (dF (ch p m mod)=1):=by
      show _=_;rw [HfR.out,Hml.out];have : decide ((mn : Int)=m)=false:=by simp;omega
      rw [this];rfl
     clear hl;go_wp2_with (go_at_call 95;refine Hc.out.mono ?_;rintro e w2 ⟨rfl,rfl⟩);go_ret;exact ⟨aP Hf.out.symm,hbw1⟩
  ·have hpr' : js p=false:=by simpa using hpr
   have Hf : Hid (dF (ch p m mod)=1):=by show _=_;rw [ch,C5 (by simpa using hpr')];rfl
   have Hc:=Z5 (vR p w1 (by omega) (by omega));rw [hpr'] at Hc;clear hpr hpr';go_wp2_with (go_at_call 95;refine Hc.out.mono ?_;rintro e w2 ⟨rfl,rfl⟩);go_ret;exact ⟨aP Hf.out.symm,hbw1⟩
def kI (q : Int) (k : Nat) : Int:=if q ^ k<=65536 then q ^ k else 0
def iA (q : Int) (k : Nat) : Int:=if q ^ k<=65536 then 0 else 8
theorem ka {q : Int} {k : Nat} (h : q ^ k<=65536) : kI q k=q ^ k/\iA q k=0:=by simp [kI,iA,h]
theorem lR {q : Int} {k : Nat} (h : ¬ q ^ k<=65536) : kI q k=0/\iA q k=8:=by simp [kI,iA,h]
theorem fw {a b c d : Int} {k k' : IntKind} (h : a=b) (h' : c=d) : Ending.returned (.tuple #[.int k a,.int k' c]) = .returned (.tuple #[.int k b,.int k' d]):=by rw [h,h']
theorem Kf (q : Int) (n : Nat) (w : World) (h2 : 2<=q) (h256 : q<=256) (hn : n<=1000000) :
  Calls prog 207 #[.int .i64 q,.int .i64 n,.int .i64 65536] w λe w'=>e = .returned (.tuple #[.int .i64 (kI q n),.int .i64 (iA q n)])/\w=w':=by
 go_enter func207,ntmps207;go_wp2_with fail;go_loop [1,8] (λnv qv=>∃k : Nat,k<=n/\nv = .int .i64 ((n : Int) - k)/\qv = .int .i64 (q ^ k)/\q ^ k<=65536/\1<=q ^ k) (λi _=>(intOf i).toNat);case atStart=>exact ⟨0,Ni _,by simp,by simp,by simp,by simp⟩
 case round =>
  obtain ⟨k,hk,rfl,rfl,hb,hb1⟩:=hrel
  have hP0 : q ≠ 0:=by omega
  by_cases hlt : k<n
  ·have e1 : q ^ (k+1)=q ^ k * q:=N4 _ _
   have hd0 : (0 : Int)<=65536 / q:=OB (by omega) (by omega)
   have hd1 : 65536 / q<=65536:=OC _ (by omega)
   by_cases h5 : 65536 / q<q ^ k
   ·have hbig : ¬ q ^ n<=65536:=by intro h;have h6:=dy (show 1<=q by omega) (show k+1<=n by omega);have h7 : 65536<q ^ k * q:=OZ (by omega) h5;omega
    have Hb:=Z5 (lR hbig)
    clear e1 hbig
    generalize q ^ k=z at *
    go_wp2_with fail
    go_ret2
    exact ⟨fw Hb.out.1.symm Hb.out.2.symm,rfl⟩
   ·have h6 : q ^ k * q<=65536:=by have:=Pj (show (0 : Int)<q by omega) (show q ^ k<=65536 / q by omega);exact this
    have h7 : 1 * 1<=q ^ k * q:=OR hb1 (by omega) (by omega) (by omega)
    have E1:=Z5 e1
    clear e1
    generalize hz : q ^ k=z at *
    have Hz:=Z5 hz
    clear hz
    go_wp2_with fail
    go_round
    case rel=>exact ⟨k+1,by omega,by go_num,by rw [E1.out],by rw [E1.out];exact h6,by rw [E1.out];omega⟩
    case measure=>simp [intOf] <;> omega
  ·obtain rfl : k=n:=by omega
   have Hb:=Z5 (ka hb)
   generalize q ^ k=z at *
   go_wp2_with fail
   go_ret2
   exact ⟨fw Hb.out.1.symm Hb.out.2.symm,rfl⟩
end Go.Proofs.YthglbncgemdcbaaGreat
