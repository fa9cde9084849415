import Derived.Test.YtcfmiocdlcapoaaGreatMCS7
import Derived.Test.YtcfmiocdlcapoaaGreatMCS6
import Derived.Laws.Bits64b
namespace Go.Proofs.YtcfmiocdlcapoaaGreat
set_option linter.all false
set_option maxRecDepth 100000
set_option maxHeartbeats 4000000
open Go.RowKit Go.Proofs.Tryz
def CM (P : Int) (low : Lz) (v : Nat) (c : Int) (r : Lz) : Nat->Lz
 | 0=>r
 | j+1=>(CM P low v c r j).set (v+j) ((nth (CM P low v c r j) (v+j)+(P - c) * nth low j) % P)
def xe (P : Int) (low : Lz) (n : Nat) (r : Lz) : Nat->Lz
 | 0=>r
 | k+1=>(CM P low (n - 1 - k - low.length) (nth (xe P low n r k) (n - 1 - k)) (xe P low n r k) low.length).set (n - 1 - k) 0
def CT (P : Int) (low mod : Lz) : Bool:=(xe P low (mod.length+1) (mod ++ [1]) (mod.length+1 - low.length)).all λx=>x == 0
theorem A0 (P : Int) (low : Lz) (v : Nat) (c : Int) (r : Lz) : ∀j,(CM P low v c r j).length=r.length
 | 0=>rfl
 | j+1=>by rw [CM,KA,A0 P low v c r j]
theorem Ax (P : Int) (low : Lz) (n : Nat) (r : Lz) : ∀k,(xe P low n r k).length=r.length
 | 0=>rfl
 | k+1=>by rw [xe,KA,A0,Ax P low n r k]
theorem uW {P : Int} (hP : 0<P) (low : Lz) (v : Nat) (c : Int) {r : Lz} (h : dC P r) : ∀j,dC P (CM P low v c r j)
 | 0=>h
 | j+1=>dC.zj hP (uW hP low v c h j) _ _
theorem AM {P : Int} (hP : 0<P) (low : Lz) (n : Nat) {r : Lz} (h : dC P r) : ∀k,dC P (xe P low n r k)
 | 0=>h
 | k+1=>dC.set (uW hP low _ _ (AM hP low n h k) _) _ (by omega) hP
theorem dC.snoc {P : Int} {l : Lz} (h : dC P l) {x : Int} (h0 : 0<=x) (h1 : x<P) : dC P (l ++ [x]):=by
 intro i;by_cases hi : i<l.length
 ·have e : nth (l ++ [x]) i=nth l i:=by simp only [nth,Jc];rw [JF hi]
  rw [e];exact h i
 ·by_cases hj : i=l.length
  ·subst hj;have e : nth (l ++ [x]) l.length=x:=by simp [nth]
   rw [e];exact ⟨h0,h1⟩
  ·rw [js (by simp;omega)];omega
theorem uB (al : OA) (d cl : Nat) (low : Lz) (am : OA) (mn cm : Nat) (mod : Lz) (P : Int) (w : World) (hl : Ints w al d low) (hm : Ints w am mn mod) (hp2 : 2<=P) (hp256 : P<=256)
  (hdl : dC P low) (hdm : dC P mod) (hd1 : 1<=d) (hdn : d<=mn) (hmn : mn<=8) :
  Calls prog 181 #[.slice al d cl,.slice am mn cm,.int .i64 P] w λe w'=>e = .returned (.bool (CT P low mod))/\NS w w':=by
 have hP : 0<P:=by omega
 have Hll:=Z5 hl.len;have Hml:=Z5 hm.len;have hpll:=hl.pl;have Hdl:=Z5 hdl;have HDB : Hid (CT P low mod=(xe P low (mn+1) (mod ++ [1]) (mn+1 - d)).all λx=>x == 0):=by show _=_;rw [CT,hm.len,hl.len]
 have HD0 : Hid (dC P (mod ++ [1])):=hdm.snoc (by omega) (by omega);have HL0 : Hid ((mod ++ [1]).length=mn+1):=by show _=_;rw [Jh,hm.len];rfl
 have hO1:=ff w 3;have hbe:=aw w (.cells #[] 3);have hme:=hm.aa hbe;have hpm:=hm.pl;clear hdl hdm;go_enter func181,ntmps181;go_wp2_with (at_builtin; first
       | (refine ee (by rfl) (.tmp 15) (.tmp 16) 22 3 (by rfl) (.int .i64 0) 8 underlying22 ba (by rfl) w.heap.size _ 0 0 [] (by rfl) hO1 am mn cm (mod.map (Value.int .i64)) (by rfl) hpm (by simp [Hml.out]) (Np hme) (ints_oneCell _ _) (by omega) (by unfold maxLen;omega) (J7 hbe) ?_;intro a3 c3 w3 hown3 hgr3 hap3;have hb3 : NS w w3:=Nk (B:=w.heap.size) (e:=3) (xs:=[]) hbe hO1 hgr3 (IZ _) (J7 hbe);rw [Kk] at hown3 ⊢;rw [JL] at hown3)
       | (refine bg rfl _ _ 22 3 rfl (.int .i64 0) 8 underlying22 ba rfl w.heap.size a3 mn c3 _ rfl (hown3.alloc _) ⟨w3.heap.size,0,none⟩ 1 (.int .i64 1) rfl (bk w3 _ _) rfl (by omega) (by unfold maxLen;omega) (by have h1:=J7 hb3;simp;omega) ?_;intro a1 c1 w1 hown1 hgr1 hap1))
 have hb4 : NS w w1:=Nk (Nh hb3 (aw _ _)) (hown3.alloc _) hgr1 (IZ _) (Ji hb3.size (J7 (aw _ _)));have hown : w1.ownsRow w.heap.size 3 1 (.slice a1 (mn+1) c1) (mn+1) ((mod ++ [1]).map (Value.int .i64)):=by simpa using hown1
 have ha1 : a1 ≠ none->w.heap.size<=aj a1:=λh=>(aM hown h).1;obtain ⟨n,hn⟩ : ∃n,mn+1=n:=⟨_,rfl⟩
 have Hn:=Z5 hn;have hn9 : n<=9:=by omega
 have hdn' : d+1<=n:=by omega
 obtain ⟨r0,hr0⟩ : ∃r0,mod ++ [1]=r0:=⟨_,rfl⟩
 rw [hr0,hn] at hown HDB;rw [hr0] at HD0;rw [hr0,hn] at HL0;have hnv : (((mn+1 : Nat) : Int))=n:=by omega
 have hnv2 : (mn : Int)+1=n:=by omega
 have hlw:=hl.aa hb4;have hS : ∀V,NS w V->Ints V al d low:=λV hV=>hl.aa hV;have HS:=Z5 hS;rw [hn];clear hown1 hgr1 hap1 hown3 hgr3 hap3 hr0 hn hS hO1 hbe hme hlw;go_wp2_with fail;clear hnv hnv2;go_loopw [9] (λiv wr=>∃k t : Nat,t+k+1=n/\d<=t+1/\iv = .int .i64 t/\wr.ownsRow w.heap.size 3 1 (.slice a1 n c1) n ((xe P low n r0 k).map (Value.int .i64))/\cP a1 w1 wr) (λiv _=>(intOf iv).toNat);case atStart=>exact ⟨0,n - 1,by omega,by omega,by have:=Hn.out;congr 1;omega,hown,ND _ _⟩
 case round =>
  obtain ⟨k,t,htk,hdt,rfl,hownk,honlyk⟩:=hrel
  have hbk : NS w wr:=hb4.trans (honlyk.below ha1 hb4.size)
  by_cases hti : d<=t
  ·have Htk:=Z5 htk
   have Hrk : Hid (xe P low n r0 (k+1)=(CM P low (t - d) (nth (xe P low n r0 k) t) (xe P low n r0 k) d).set t 0):=by show _=_;rw [xe,Hll.out,show n - 1 - k=t by omega]
   have Hrd : Hid (dC P (xe P low n r0 k)):=AM hP low n HD0.out k
   obtain ⟨C2,hC2⟩ : ∃C2,xe P low n r0 k=C2:=⟨_,rfl⟩
   rw [hC2] at hownk Hrk Hrd
   have htn : t<n:=by omega
   have hti' : (t : Int)<n:=by omega
   obtain ⟨it0,mt0⟩:=Ni hownk
   have c0:=it0.cell t htn
   have hp0:=it0.pl
   have b2:=Hrd.out t
   clear hC2 htk
   go_wp2_with fail
   obtain ⟨cc,hcc⟩ : ∃cc,nth C2 t=cc:=⟨_,rfl⟩
   rw [hcc] at b2 Hrk
   rw [hcc]
   clear hcc c0 it0 mt0
   go_loopw [11] (λiv wr=>∃j : Nat,j<=d/\iv = .int .i64 j/\wr.ownsRow w.heap.size 3 1 (.slice a1 n c1) n ((CM P low (t - d) cc C2 j).map (Value.int .i64))/\cP a1 w1 wr) (λiv _=>d - (intOf iv).toNat)
   case atStart=>exact ⟨0,I7 _,rfl,hownk,honlyk⟩
   case round =>
    obtain ⟨j,hj,rfl,hown2,honly2⟩:=hrel
    have hbr2 : NS w wr:=hb4.trans (honly2.below ha1 hb4.size)
    have j1:=HS.out wr hbr2
    by_cases hlt2 : j<d
    ·have Hcj : Hid (CM P low (t - d) cc C2 (j+1)=(CM P low (t - d) cc C2 j).set (t - d+j) ((nth (CM P low (t - d) cc C2 j) (t - d+j)+(P - cc) * nth low j) % P)):=rfl
     have hcd:=uW hP low (t - d) cc Hrd.out j
     obtain ⟨T,hT⟩ : ∃T,CM P low (t - d) cc C2 j=T:=⟨_,rfl⟩
     rw [hT] at hown2 Hcj hcd
     clear hT
     obtain ⟨it,mt⟩:=Ni hown2
     obtain ⟨u,hu⟩ : ∃u,t - d+j=u:=⟨_,rfl⟩
     have hun : u<n:=by omega
     have ct:=it.cell u hun
     have cM:=j1.cell j hlt2
     have ft:=(mt (by omega)).2 u hun
     have hplt:=it.pl
     have b1:=hcd u
     have b3:=Hdl.out j
     have hme:=kI (show 0<=P - cc by omega) (show P - cc<=256 by omega) b3.1 (show nth low j<=256 by omega)
     have hP0 : P ≠ 0:=by omega
     rw [hu] at Hcj
     obtain ⟨Z,hZ⟩ : ∃Z,(nth T u+(P - cc) * nth low j) % P=Z:=⟨_,rfl⟩
     have Hcj2 : Hid (CM P low (t - d) cc C2 (j+1)=T.set u Z):=by show _=_;rw [Hcj.out,hZ]
     obtain ⟨v,hv⟩ : ∃v,t - d=v:=⟨_,rfl⟩
     have r0' : IntKind.i64.wrap ((t : Int) - d)=(v : Int):=by rw [Jj _ (by omega)];omega
     have r1 : IntKind.i64.wrap ((v : Int)+j)=(u : Int):=by rw [Jj _ (by omega)];omega
     have r2 : IntKind.i64.wrap (P - cc)=P - cc:=Jj _ (by omega)
     have r3 : IntKind.i64.wrap ((P - cc) * nth low j)=(P - cc) * nth low j:=Jj _ (by omega)
     have r4 : IntKind.i64.wrap (nth T u+(P - cc) * nth low j)=nth T u+(P - cc) * nth low j:=Jj _ (by omega)
     have r5 : (nth T u+(P - cc) * nth low j).tmod P=Z:=by rw [<- hZ];exact J0 _ _ (by omega)
     have q1 : (0 : Int)<=u:=by omega
     have q2 : (u : Int)<n:=by omega
     have q4 : (j : Int)<d:=by omega
     clear hZ hu hv Hcj
     go_wp2_with fail
     go_still_tail 26,(by kernel_rfl)
     change wpList _ _ _ _ _ wr.drew
     generalize hwd : wr.drew=wd
     have fd : wd.frozen? ⟨aj a1,aL a1+u,none⟩=false:=by rw [<- hwd];exact ft
     have cd : wd.cell? ⟨aj a1,aL a1+u,none⟩=some (.int .i64 (nth T u)):=by rw [<- hwd];exact ct
     have Hwd:=Z5 hwd
     clear hwd r0' r1 r2 r3 r4 r5
     go_wp2_with fail
     go_roundw
     case rel =>
      obtain rfl:=Hwd.out
      have hdr : bf wr wr.drew:=(No wr).drew
      refine ⟨j+1,by omega,by go_num,?_,honly2.trans ((Nt hdr).trans (Nz _ u _ (by intro e;have:=hplt (by omega);rw [e] at this;cases this)))⟩
      have h1:=bT (w:=wr.drew) hown2 u hun (.int .i64 Z)
      rw [<- Jq,<- Hcj2.out] at h1
      exact h1
     case measure=>simp [intOf] <;> omega
    ·obtain rfl : j=d:=by omega
     obtain ⟨it,mt⟩:=Ni hown2
     have ct:=it.cell t htn
     have ft:=(mt (by omega)).2 t htn
     have hplt:=it.pl
     go_wp2_with fail
     go_roundw
     case rel =>
      have h1:=bT hown2 t htn (.int .i64 0)
      rw [<- Jq,<- Hrk.out] at h1
      exact ⟨k+1,t - 1,by have:=Htk.out;omega,by omega,by congr 1;omega,h1,honly2.trans (Nz _ t _ (by intro e;have:=hplt (by omega);rw [e] at this;cases this))⟩
     case measure=>simp [intOf] <;> omega
  ·have hkf : k=n - d:=by omega
   have Hfin : Hid (CT P low mod=(xe P low n r0 k).all λx=>x == 0):=by show _=_;rw [HDB.out,hkf]
   have HlT : Hid ((xe P low n r0 k).length=n):=by show _=_;rw [Ax];exact HL0.out
   obtain ⟨C2,hC2⟩ : ∃C2,xe P low n r0 k=C2:=⟨_,rfl⟩
   rw [hC2] at hownk Hfin HlT
   have iC:=(Ni hownk).1
   have hpC:=iC.pl
   clear hC2 htk hkf hownk
   go_wp2_with fail
   go_loop [12] (λiv=>∃j : Nat,j<=n/\iv = .int .i64 j/\Hid ((C2.take j).all (λx=>x == 0)=true)) (λiv=>n - (intOf iv).toNat)
   case atStart=>exact ⟨0,I7 _,rfl,by show _=_;simp⟩
   case round =>
    obtain ⟨j,hj,rfl,hall⟩:=hrel
    by_cases hlt : j<n
    ·have cj:=iC.cell j hlt
     have hjl : j<C2.length:=by rw [HlT.out];exact hlt
     by_cases hz : nth C2 j=0
     ·have hz' : (nth C2 j != 0)=false:=by simpa using hz
      have Hs : Hid ((C2.take (j+1)).all (λx=>x == 0)=true):=cX hjl hall.out (by rw [<- ai hjl,hz];rfl)
      clear hz
      go_wp2_with fail
      go_round
      case rel=>exact ⟨j+1,by omega,by go_num,Hs.out⟩
      case measure=>simp [intOf] <;> omega
     ·have hz' : (nth C2 j != 0)=true:=by simpa using hz
      have Hs : Hid (CT P low mod=false):=by show _=_;rw [Hfin.out];exact db hjl (by rw [<- ai hjl];simpa using hz)
      clear hz
      go_wp2_with fail
      go_ret
      exact ⟨bd Hs.out.symm,hbk⟩
    ·obtain rfl : j=n:=by omega
     have Hs : Hid (CT P low mod=true):=by have:=hall.out;rw [I8 (by rw [HlT.out];exact IZ _)] at this;show _=_;rw [Hfin.out,this]
     go_wp2_with fail
     go_ret
     exact ⟨bd Hs.out.symm,hbk⟩
def Iu (P : Int) (mod : Lz) (d q : Nat) : Bool:=(List.range q).all λv=>!CT P (bq v P d) mod
def x9 (P : Int) (mod : Lz) (k : Nat) : Bool:=(List.range k).all λd=>Iu P mod (d+1) (P ^ (d+1)).toNat
def oa (P : Int) (mod : Lz) : Bool:=x9 P mod (mod.length / 2)
theorem qc {p : Nat->Bool} {k : Nat} (h : (List.range k).all p=true) (hk : p k=true) : (List.range (k+1)).all p=true:=by rw [Kz,LD,h];simp [hk]
theorem nd {p : Nat->Bool} {k n : Nat} (hk : k<n) (h : p k=false) : (List.range n).all p=false:=by rw [Kq];exact ⟨k,List.mem_range.2 hk,by simp [h]⟩
theorem ob (am : OA) (mn cm : Nat) (mod : Lz) (P : Int) (w : World) (hm : Ints w am mn mod) (hp2 : 2<=P) (hp256 : P<=256) (hdm : dC P mod) (hmn : mn<=8) (hpw : P ^ mn<=256) :
  Calls prog 118 #[.slice am mn cm,.int .i64 P] w λe w'=>e = .returned (.bool (oa P mod))/\NS w w':=by
 have Hml:=Z5 hm.len;have Hdm:=Z5 hdm;have HP : Hid (∀k,k<=mn->1<=P ^ k/\P ^ k<=256):=λk hk=>⟨by have:=dE (show 1<=P by omega) (I7 k);rwa [KE] at this,Mf (dE (show 1<=P by omega) hk) hpw⟩
 have HI : Hid (oa P mod=x9 P mod (mn / 2)):=by show _=_;rw [oa,hm.len]
 clear hdm hpw;go_enter func118,ntmps118;go_wp2_with fail;go_loopw [5,6] (λcv dv wr=>∃d : Nat,1<=d/\2 * d<=mn+2/\dv = .int .i64 d/\cv = .int .i64 (P ^ (d - 1))/\Hid (x9 P mod (d - 1)=true)/\NS w wr) (λ_ dv _=>mn+2 - (intOf dv).toNat);case atStart=>exact ⟨1,by omega,by omega,rfl,by simp,by show _=_;simp [x9],I1 _ _⟩
 case round =>
  obtain ⟨d,hd1,hd2,rfl,rfl,hir,hbr⟩:=hrel
  by_cases hlt : 2 * d<=mn
  ·have hpe:=HP.out (d - 1) (by omega)
   have hpe1:=HP.out d (by omega)
   have hps : P ^ d=P ^ (d - 1) * P:=by have h1:=JP P (d - 1);have h2 : (d - 1).succ=d:=K9 hd1;rwa [h2] at h1
   obtain ⟨q,hq⟩ : ∃q : Nat,P ^ d=q:=⟨(P ^ d).toNat,by omega⟩
   have HQ : Hid (x9 P mod d=(x9 P mod (d - 1) && Iu P mod d q)):=by
    have e1 : x9 P mod d=(List.range ((d - 1)+1)).all λd=>Iu P mod (d+1) (P ^ (d+1)).toNat:=by rw [K9 hd1];rfl
    show _=_;rw [e1,Kz,LD];simp only [L8,List.all_nil,Bool.and_true];rw [K9 hd1,hq];rfl
   have Hps : Hid (P ^ (d - 1) * P=(q : Int)):=by show _=_;rw [<- hps,hq]
   have hq256 : q<=256:=by omega
   have Hq:=Z5 hq
   have Hlen : Hid (∀v : Nat,(bq v P d).length=d):=λv=>bN _ _ _
   have Hdd : Hid (∀v : Nat,dC P (bq v P d)):=λv=>dC.bq (by omega) _ _
   have Hf0 : Hid (∀v : Nat,v<q->CT P (bq v P d) mod=true->oa P mod=false):=λv hv hd=>by rw [HI.out];refine nd (k:=d - 1) (by omega) ?_;rw [K9 hd1,hq,Jd];exact nd hv (by rw [hd];rfl)
   clear hps hpe1 hq
   obtain ⟨pe,hpe'⟩ : ∃pe,P ^ (d - 1)=pe:=⟨_,rfl⟩
   rw [hpe'] at Hps hpe
   rw [hpe']
   have hps2:=Hps.out
   have hltd : decide (2 * (d : Int)<=mn)=true:=by simp;omega
   have hltn : decide (2 * d<=mn)=true:=by simp;omega
   clear hpe'
   go_wp2_with fail
   clear hps2
   go_loopw [7] (λvv wx=>∃v : Nat,v<=q/\vv = .int .i64 v/\Hid ((List.range v).all (λv=>!CT P (bq v P d) mod)=true)/\NS w wx) (λvv _=>q - (intOf vv).toNat)
   case atStart=>exact ⟨0,I7 _,rfl,by show _=_;simp,hbr⟩
   case round =>
    obtain ⟨v,hv,rfl,hall,hbx⟩:=hrel
    by_cases hvq : v<q
    ·obtain ⟨D,hD⟩ : ∃D,bq v P d=D:=⟨_,rfl⟩
     have Hl:=Z5 (Hlen.out v)
     have Hg:=Z5 (Hdd.out v)
     have Hf:=Z5 (Hf0.out v hvq)
     have HDg:=Z5 (o0 v P d wr (by omega) (by omega) (by omega) (by omega))
     rw [hD] at Hl Hg Hf HDg
     have HD:=Z5 hD
     clear hD
     go_wp2_with fail
     refine HDg.out.mono ?_
     rintro e1 w1 ⟨a1,c1,rfl,hown1,hb1⟩
     rw [Hl.out] at hown1 ⊢
     have hi1:=(Ni hown1).1
     have hbx1:=Nh hbx hb1
     clear hown1
     go_wp2_with fail
     refine (uB a1 d c1 D am mn cm mod P w1 hi1 (hm.aa hbx1) hp2 hp256 Hg.out Hdm.out hd1 (by omega) hmn).mono ?_
     rintro e2 w2 ⟨rfl,hb2⟩
     have hbx2:=Nh hbx1 hb2
     by_cases hdv : CT P D mod=true
     ·have Hf2:=Z5 (Hf.out hdv)
      rw [hdv]
      clear hdv
      go_wp2_with fail
      go_ret
      exact ⟨bd Hf2.out.symm,hbx2⟩
     ·have hdv' : CT P D mod=false:=by simpa using hdv
      have Hs : Hid ((List.range (v+1)).all (λv=>!CT P (bq v P d) mod)=true):=qc hall.out (by rw [HD.out,hdv'];rfl)
      rw [hdv']
      clear hdv hdv'
      go_wp2_with fail
      go_roundw
      case rel=>exact ⟨v+1,by omega,by go_num,Hs.out,hbx2⟩
      case measure=>simp [intOf] <;> omega
    ·obtain rfl : v=q:=by omega
     have Hs : Hid (x9 P mod d=true):=by show _=_;rw [HQ.out,hir.out,Iu,hall.out];rfl
     go_wp2_with fail
     go_roundw
     case rel=>exact ⟨d+1,by omega,by omega,by go_num,by rw [JU,Hq.out],Hs.out,hbx⟩
     case measure=>simp [intOf] <;> omega
  ·have Hs : Hid (oa P mod=true):=by show _=_;rw [HI.out,show mn / 2=d - 1 by omega];exact hir.out
   go_wp2_with fail
   go_ret
   exact ⟨bd Hs.out.symm,hbr⟩
def bG (P M : Int) (mod : Lz) : Bool:=cB P M mod && (M == 1 || oa P mod)
theorem Ac {P M : Int} {mod : Lz} (h : aN P M=0) : cB P M mod=false:=by simp [cB,h]
theorem Af {P M : Int} {mod : Lz} (h : fT P.toNat=false) : cB P M mod=false:=by simp [cB,h]
theorem kt (P M : Int) (am : OA) (mn cm : Nat) (mod : Lz) (w : World) (hmod : Ints w am mn mod) :
  Calls prog 57 #[.agg #[.int .i64 P,.int .i64 M,.slice am mn cm]] w λe w'=>e = .returned (.int .i64 (cK (bG P M mod)))/\NS w w':=by
 have Hml:=Z5 hmod.len;have hplm:=hmod.pl;have hmax:=hmod.max;unfold maxLen at hmax;go_enter func57,ntmps57;go_wp2_with fail;obtain ⟨W,hW⟩ : ∃W : World,W=w.alloc (.cells #[.int .i64 P,.int .i64 M,.slice am mn cm] 24):=⟨_,rfl⟩
 rw [<- hW];have hbW : NS w W:=by rw [hW];exact aw _ _
 have x0 : aZ W w.heap.size [.int .i64 P,.int .i64 M,.slice am mn cm]:=by rw [hW];exact Nj _ _ _ rfl
 have HX:=Z5 x0;clear hW x0;refine (fW P M am mn cm W).mono ?_;rintro e w1 ⟨rfl,hb1⟩;have hbw1:=Nh hbW hb1;have xU:=HX.out.aa hb1;have d0:=xU.cell 0 rfl;have d1:=xU.cell 1 rfl;have d2:=xU.cell 2 rfl;have hm1:=(hmod.aa hbW).aa hb1;clear xU;by_cases ho : aN P M=0
 ·have Hf : Hid (cK (bG P M mod)=1):=by show _=_;rw [bG,Ac ho];rfl
  rw [ho];clear ho;go_wp2_with fail;go_ret;exact ⟨aH Hf.out.symm,hbw1⟩
 ·obtain ⟨m,rfl,hrf⟩:=RF.of ho;have hp2:=hrf.p2;have hp256:=hrf.p256;have hm1':=hrf.m1;have hm8:=hrf.m8;have hoo : (aN P m == 0)=false:=by simpa using ho
  have Ho:=Z5 ho;obtain ⟨p,rfl⟩ : ∃p : Nat,P=p:=⟨P.toNat,by omega⟩
  clear ho;by_cases hpr : fT p=true
  ·have Hpr:=Z5 hpr;have Hc:=Z5 (qz p w1 (by omega) (by omega));rw [hpr] at Hc;clear hpr;have hsh : cB p m mod=(if (m : Int)=1 then mod.length == 0 else decide ((mod.length : Int)=m) && mod.all λc=>decide (0<=c) && decide (c<p)):=by
    have h1 : (aN p m != 0)=true:=by have:=Ho.out;simpa using this
    rw [cB,h1,Jd,Hpr.out];rfl
   have Hsh:=Z5 hsh;clear hsh;by_cases hM : m=1
   ·have hM' : ((m : Int) == 1)=true:=by simp [hM]
    have hMi : (m : Int)=1:=by omega
    have HfR : Hid (bG p m mod=(mod.length == 0)):=by show _=_;rw [bG,Hsh.out,I6 hMi,hM'];simp
    clear hM hMi;by_cases hl : mn=0
    ·have hl' : ((mn : Int) != 0)=false:=by simp [hl]
     have Hf : Hid (cK (bG p m mod)=0):=by show _=_;rw [HfR.out,Hml.out,hl];rfl
     clear hl;go_wp2_with (go_at_call 117;refine Hc.out.mono ?_;rintro e w2 ⟨rfl,rfl⟩);go_ret;exact ⟨aH Hf.out.symm,hbw1⟩
    ·have hl' : ((mn : Int) != 0)=true:=by simp;omega
     have Hf : Hid (cK (bG p m mod)=1):=by
      show _=_;rw [HfR.out,Hml.out];have : (mn == 0)=false:=by simpa using hl
      rw [this];rfl
     clear hl;go_wp2_with (go_at_call 117;refine Hc.out.mono ?_;rintro e w2 ⟨rfl,rfl⟩);go_ret;exact ⟨aH Hf.out.symm,hbw1⟩
   ·have hM' : ((m : Int) == 1)=false:=by simp;omega
    have hMi : ¬ (m : Int)=1:=by omega
    have HfR : Hid (bG p m mod=(decide ((mod.length : Int)=m) && (mod.all λc=>decide (0<=c) && decide (c<p)) && oa p mod)):=by show _=_;rw [bG,Hsh.out,I5 hMi,hM'];simp
    clear hM hMi;by_cases hl : mn=m
    ·have hl' : ((mn : Int) != m)=false:=by simp [hl]
     have HfR2 : Hid (bG p m mod=((mod.all λc=>decide (0<=c) && decide (c<p)) && oa p mod)):=by show _=_;rw [HfR.out,Hml.out,hl];simp
     have Hmn : Hid (mn=m):=hl;have hmnm : (mn : Int)=m:=by omega
     clear hl hmnm;go_wp2_with (go_at_call 117;refine Hc.out.mono ?_;rintro e w2 ⟨rfl,rfl⟩);go_loopw [3] (λiv wr=>∃k : Nat,k<=m/\iv = .int .i64 k/\Hid ((mod.take k).all (λc=>decide (0<=c) && decide (c<p))=true)/\bf w1 wr) (λiv _=>m - (intOf iv).toNat);case atStart=>exact ⟨0,I7 _,rfl,by show _=_;simp,No _⟩
     case round =>
      obtain ⟨k,hk,rfl,hall,hd⟩:=hrel
      have e0:=hd.cell d0
      have e1:=hd.cell d1
      have e2:=hd.cell d2
      have hmr:=hm1.drawn hd
      by_cases hlt : k<m
      ·have hkmn : k<mn:=by rw [Hmn.out];exact hlt
       have ck:=hmr.cell k hkmn
       have hkl : k<mod.length:=by rw [Hml.out];exact hkmn
       have hkmn' : (k : Int)<mn:=by omega
       by_cases h0 : 0<=nth mod k
       ·have t0 : decide (nth mod k<0)=false:=by simp;omega
        by_cases h1 : nth mod k<p
        ·have t1 : decide ((p : Int)<=nth mod k)=false:=by simp;omega
         have Hs : Hid ((mod.take (k+1)).all (λc=>decide (0<=c) && decide (c<p))=true):=cX hkl hall.out (by rw [<- ai hkl];simp [h0,h1])
         go_wp2_with fail
         go_quiet (fail)
         go_wp2
         go_roundw
         case rel=>exact ⟨k+1,by omega,by go_num,Hs.out,hd.drewN _⟩
         case measure=>simp [intOf] <;> omega
        ·have t1 : decide ((p : Int)<=nth mod k)=true:=by simp;omega
         have Hf : Hid (cK (bG p m mod)=1):=by show _=_;rw [HfR2.out,db hkl (by rw [<- ai hkl];simp [h1])];rfl
         go_wp2_with fail
         go_quiet (fail)
         go_wp2
         go_ret
         exact ⟨aH Hf.out.symm,Nh hbw1 (hd.drewN _).below⟩
       ·have t0 : decide (nth mod k<0)=true:=by simp;omega
        have Hf : Hid (cK (bG p m mod)=1):=by show _=_;rw [HfR2.out,db hkl (by rw [<- ai hkl];simp [h0])];rfl
        go_wp2_with fail
        go_quiet (fail)
        go_wp2
        go_ret
        exact ⟨aH Hf.out.symm,Nh hbw1 (hd.drewN _).below⟩
      ·obtain rfl : k=m:=by omega
       have Hall : Hid ((mod.all λc=>decide (0<=c) && decide (c<p))=true):=by have:=hall.out;rwa [I8 (by rw [Hml.out,Hmn.out];exact IZ _)] at this
       have HfR3 : Hid (bG p k mod=oa p mod):=by show _=_;rw [HfR2.out,Hall.out];simp
       have hdig : dC (p : Int) mod:=NM (by omega) λx hx=>by have:=List.all_eq_true.1 Hall.out x hx;simpa using this
       have hpw : (p : Int) ^ mn<=256:=by rw [Hmn.out];exact hrf.pw
       have hmn8 : mn<=8:=by rw [Hmn.out];exact hm8
       go_wp2_with fail
       refine (ob am mn cm mod p wr hmr hp2 hp256 hdig hmn8 hpw).mono ?_
       rintro e w4 ⟨rfl,hb4⟩
       have hbw4:=Nh (Nh hbw1 hd.below) hb4
       by_cases hir : oa p mod=true
       ·have Hf : Hid (cK (bG p k mod)=0):=by show _=_;rw [HfR3.out,hir];rfl
        rw [hir]
        clear hir
        go_wp2_with fail
        go_ret
        exact ⟨aH Hf.out.symm,hbw4⟩
       ·have hir' : oa p mod=false:=by simpa using hir
        have Hf : Hid (cK (bG p k mod)=1):=by show _=_;rw [HfR3.out,hir'];rfl
        rw [hir']
        clear hir hir'
        go_wp2_with fail
        go_ret
        exact ⟨aH Hf.out.symm,hbw4⟩
    ·have hl' : ((mn : Int) != m)=true:=by simp;omega
     have Hf : Hid (cK (bG p m mod)=1):=by
      show _=_;rw [HfR.out,Hml.out];have : decide ((mn : Int)=m)=false:=by simp;omega
      rw [this];rfl
     clear hl;go_wp2_with (go_at_call 117;refine Hc.out.mono ?_;rintro e w2 ⟨rfl,rfl⟩);go_ret;exact ⟨aH Hf.out.symm,hbw1⟩
  ·have hpr' : fT p=false:=by simpa using hpr
   have Hf : Hid (cK (bG p m mod)=1):=by show _=_;rw [bG,Af (by simpa using hpr')];rfl
   have Hc:=Z5 (qz p w1 (by omega) (by omega));rw [hpr'] at Hc;clear hpr hpr';go_wp2_with (go_at_call 117;refine Hc.out.mono ?_;rintro e w2 ⟨rfl,rfl⟩);go_ret;exact ⟨aH Hf.out.symm,hbw1⟩
def lQ (q : Int) (k : Nat) : Int:=if q ^ k<=65536 then q ^ k else 0
def lO (q : Int) (k : Nat) : Int:=if q ^ k<=65536 then 0 else 8
theorem A9 {q : Int} {k : Nat} (h : q ^ k<=65536) : lQ q k=q ^ k/\lO q k=0:=by simp [lQ,lO,h]
theorem ym {q : Int} {k : Nat} (h : ¬ q ^ k<=65536) : lQ q k=0/\lO q k=8:=by simp [lQ,lO,h]
theorem cR {a b c d : Int} {k k' : IntKind} (h : a=b) (h' : c=d) : Ending.returned (.tuple #[.int k a,.int k' c]) = .returned (.tuple #[.int k b,.int k' d]):=by rw [h,h']
theorem FW (q : Int) (n : Nat) (w : World) (h2 : 2<=q) (h256 : q<=256) (hn : n<=1000000) :
  Calls prog 148 #[.int .i64 q,.int .i64 n,.int .i64 65536] w λe w'=>e = .returned (.tuple #[.int .i64 (lQ q n),.int .i64 (lO q n)])/\w=w':=by
 go_enter func148,ntmps148;go_wp2_with fail;go_loop [1,8] (λnv qv=>∃k : Nat,k<=n/\nv = .int .i64 ((n : Int) - k)/\qv = .int .i64 (q ^ k)/\q ^ k<=65536/\1<=q ^ k) (λi _=>(intOf i).toNat);case atStart=>exact ⟨0,I7 _,by simp,by simp,by simp,by simp⟩
 case round =>
  obtain ⟨k,hk,rfl,rfl,hb,hb1⟩:=hrel
  have hP0 : q ≠ 0:=by omega
  by_cases hlt : k<n
  ·have e1 : q ^ (k+1)=q ^ k * q:=JP _ _
   have hd0 : (0 : Int)<=65536 / q:=J5 (by omega) (by omega)
   have hd1 : 65536 / q<=65536:=J6 _ (by omega)
   by_cases h5 : 65536 / q<q ^ k
   ·have hbig : ¬ q ^ n<=65536:=by intro h;have h6:=dE (show 1<=q by omega) (show k+1<=n by omega);have h7 : 65536<q ^ k * q:=Ls (by omega) h5;omega
    have Hb:=Z5 (ym hbig)
    clear e1 hbig
    generalize q ^ k=z at *
    go_wp2_with fail
    go_ret2
    exact ⟨cR Hb.out.1.symm Hb.out.2.symm,rfl⟩
   ·have h6 : q ^ k * q<=65536:=by have:=Mn (show (0 : Int)<q by omega) (show q ^ k<=65536 / q by omega);exact this
    have h7 : 1 * 1<=q ^ k * q:=Ka hb1 (by omega) (by omega) (by omega)
    have E1:=Z5 e1
    clear e1
    generalize hz : q ^ k=z at *
    have Hz:=Z5 hz
    clear hz
    go_wp2_with fail
    go_round
    case rel=>exact ⟨k+1,by omega,by go_num,by rw [E1.out],by rw [E1.out];exact h6,by rw [E1.out];omega⟩
    case measure=>simp [intOf] <;> omega
  ·obtain rfl : k=n:=by omega
   have Hb:=Z5 (A9 hb)
   generalize q ^ k=z at *
   go_wp2_with fail
   go_ret2
   exact ⟨cR Hb.out.1.symm Hb.out.2.symm,rfl⟩
theorem xg (q : Int) (n : Nat) (w : World) (h2 : 2<=q) (h256 : q<=256) (hn : n<=1000000) :
  Calls prog 108 #[.int .i64 q,.int .i64 n,.int .i64 65536] w λe w'=>e = .returned (.tuple #[.int .i64 (lQ q n),.int .i64 (lO q n)])/\w=w':=by
 go_enter func108,ntmps108;go_wp2_with fail;go_loop [8,9] (λqv nv=>∃k : Nat,k<=n/\nv = .int .i64 k/\qv = .int .i64 (q ^ k)/\q ^ k<=65536/\1<=q ^ k) (λ_ i=>n - (intOf i).toNat);case atStart=>exact ⟨0,I7 _,rfl,by simp,by simp,by simp⟩
 case round =>
  obtain ⟨k,hk,rfl,rfl,hb,hb1⟩:=hrel
  have hP0 : q ≠ 0:=by omega
  by_cases hlt : k<n
  ·have e1 : q ^ (k+1)=q ^ k * q:=JP _ _
   have hd0 : (0 : Int)<=65536 / q:=J5 (by omega) (by omega)
   have hd1 : 65536 / q<=65536:=J6 _ (by omega)
   by_cases h5 : 65536 / q<q ^ k
   ·have hbig : ¬ q ^ n<=65536:=by intro h;have h6:=dE (show 1<=q by omega) (show k+1<=n by omega);have h7 : 65536<q ^ k * q:=Ls (by omega) h5;omega
    have Hb:=Z5 (ym hbig)
    clear e1 hbig
    generalize q ^ k=z at *
    go_wp2_with fail
    go_ret2
    exact ⟨cR Hb.out.1.symm Hb.out.2.symm,rfl⟩
   ·have h6 : q ^ k * q<=65536:=by have:=Mn (show (0 : Int)<q by omega) (show q ^ k<=65536 / q by omega);exact this
    have h7 : 1 * 1<=q ^ k * q:=Ka hb1 (by omega) (by omega) (by omega)
    have E1:=Z5 e1
    clear e1
    generalize hz : q ^ k=z at *
    have Hz:=Z5 hz
    clear hz
    go_wp2_with fail
    go_round
    case rel=>exact ⟨k+1,by omega,by go_num,by rw [E1.out],by rw [E1.out];exact h6,by rw [E1.out];omega⟩
    case measure=>simp [intOf] <;> omega
  ·obtain rfl : k=n:=by omega
   have Hb:=Z5 (A9 hb)
   generalize q ^ k=z at *
   go_wp2_with fail
   go_ret2
   exact ⟨cR Hb.out.1.symm Hb.out.2.symm,rfl⟩
theorem Ga (a : Nat) (h : a<4294967296) : bits .and .u64 (a : Int) 4294967295=a:=by have h2:=bits_and_u64_nat a 4294967295 (by omega) (by omega);have e : a &&& 4294967295=a % 4294967296:=Nat.and_two_pow_sub_one_eq_mod a 32;rw [e,Mc h] at h2;exact h2
theorem vS {n : Int} (h : 0<=n) (h2 : n<=10000000) : wrap64 n=n:=by unfold wrap64;omega
theorem CK (x y : Nat) (hx : x<=65536) (hy : y<=100) (w : World) :
  Calls prog 223 #[.int .u64 x,.int .u64 y] w λe w'=>e = .returned (.tuple #[.int .u64 0,.int .u64 ((x : Int) * y)])/\w=w':=by
 have hp : (x : Int) * y<=65536 * 100:=Ka (by omega) (by omega) (by omega) (by omega);have hp0 : 0<=(x : Int) * y:=Kw (by omega) (by omega);obtain ⟨p,hpe⟩ : ∃p : Nat,(x : Int) * y=p:=⟨((x : Int) * y).toNat,by omega⟩
 have e1:=Ga x (by omega);have e2:=Ga y (by omega);have e3 : (x : Int) / 4294967296=0:=by omega
 have e4 : (y : Int) / 4294967296=0:=by omega
 have e5 : (p : Int) / 4294967296=0:=by omega
 have e6 : bits .and .u64 0 4294967295=0:=by decide
 have kw : IntKind.u64.wrap (p : Int)=p:=by rw [KJ];omega
 have Hp:=Z5 hpe;rw [hpe];go_enter func223,ntmps223;go_wp2;go_ret2;first
  | exact ⟨rfl,rfl⟩
  | (refine ⟨?_,rfl⟩;simp)
theorem B3 (x y : Nat) (hx : x<18446744073709551616) (hy : 1<=y) (hy2 : y<=100) (w : World) :
  Calls prog 224 #[.int .u64 0,.int .u64 x,.int .u64 y] w λe w'=>e = .returned (.tuple #[.int .u64 ((x / y : Nat) : Int),.int .u64 ((x % y : Nat) : Int)])/\NS w w':=by
 have h0 : ((y : Int) == 0)=false:=by simp;omega
 have h1 : decide ((y : Int)<=0)=false:=by simp;omega
 have hy0 : ((y : Int)) ≠ 0:=by omega
 have hq : (x : Int).tdiv y=((x / y : Nat) : Int):=by rw [JT (by omega)];simp
 have hr : (x : Int).tmod y=((x % y : Nat) : Int):=by rw [LO (by omega)];simp
 have hd : x / y<=x:=K6 x y;have hm : x % y<y:=LP x (by omega);generalize x / y=q at *;generalize x % y=r at *;have kq : IntKind.u64.wrap (q : Int)=(q : Int):=by rw [KJ];omega
 have kr : IntKind.u64.wrap (r : Int)=(r : Int):=by rw [KJ];omega
 clear hd hm;have hw:=I1 w.heap.size w;have hw2:=(I1 w.heap.size w).drew;go_enter func224,ntmps224;go_upto_region 6 with fail;go_quiet (fail);go_wp2_with fail;go_ret2;exact ⟨rfl,(Nq ⟨_,rfl⟩)⟩
theorem y6 (n k : Nat) (w : World) (hn : n<=64) (hk : k<=n) :
  Calls prog 169 #[.int .i64 n,.int .i64 k,.int .i64 65536] w λe w'=>e = .returned (.tuple #[.int .i64 (pz n k),.int .i64 (ph n k)])/\NS w w':=by
 obtain ⟨t,ht⟩ : ∃t : Nat,min k (n - k)=t:=⟨_,rfl⟩
 have htk : dp n k=dp n t:=by
  rcases Nat.le_total k (n - k) with h | h
  ·rw [<- ht,LF h]
  ·rw [<- ht,MV h];exact nF n k hk
 have hmin : min (k : Int) ((n : Int) - k)=t:=by omega
 have htn : t<=n:=by omega
 have hkn : decide (n<k)=false:=by simp;omega
 have HcE : Hid (¬ dp n t<=65536->pz n k=0/\ph n k=8):=λh=>by unfold pz ph;rw [htk,I5 h,I5 h];exact ⟨rfl,rfl⟩
 have HcO : Hid (dp n t<=65536->pz n k=dp n t/\ph n k=0):=λh=>by unfold pz ph;rw [htk,I6 h,I6 h];exact ⟨rfl,rfl⟩
 clear htk ht;go_enter func169,ntmps169;go_upto_region 7 with fail;go_cut [1] (λv wx=>v = .int .i64 t/\wx=w);case first =>
  by_cases hm : (n : Int) - k<k
  ·have hmd : decide ((n : Int) - k<k)=true:=Jm hm
   have he : (n : Int) - k=t:=by omega
   go_wp2_with fail
   go_meet
   exact ⟨by first | exact congrArg (Value.int .i64) (by omega) | rfl | (simp [he]),rfl⟩
  ·have hmd : decide ((n : Int) - k<k)=false:=Jn hm
   have he : (k : Int)=t:=by omega
   go_wp2_with fail
   go_meet
   exact ⟨by first | exact congrArg (Value.int .i64) (by omega) | rfl | (simp [he]),rfl⟩
 obtain ⟨rfl,hw9⟩:=hcut;obtain rfl:=hw9.symm;clear hw9;go_wp2_with fail;go_loopw [9,8] (λiv ov wr=>∃i : Nat,i<=t/\iv = .int .i64 ((i : Int)+1)/\ov = .int .i64 (dp (n - t+i) i : Nat)/\dp (n - t+i) i<=65536/\NS w wr) (λiv _ _=>t+1 - (intOf iv).toNat);case atStart=>exact ⟨0,I7 _,rfl,by rw [iO];rfl,by rw [iO];omega,I1 _ _⟩
 case round =>
  obtain ⟨i,hi,rfl,rfl,hc,hb⟩:=hrel
  by_cases hlt : i<t
  ·have Hs : Hid (dp (n - t+i) i * (n - t+(i+1)) / (i+1)=dp (n - t+(i+1)) (i+1)):=DC n t i
   have Hle : Hid (dp (n - t+(i+1)) (i+1)<=dp n t):=oL htn (t - (i+1)) (i+1) (by omega)
   obtain ⟨x,hx⟩ : ∃x,dp (n - t+i) i=x:=⟨_,rfl⟩
   rw [hx] at hc Hs ⊢
   obtain ⟨y,hy⟩ : ∃y,n - t+(i+1)=y:=⟨_,rfl⟩
   have hye : ((n : Int) - (t : Int)+((i : Int)+1))=y:=by omega
   rw [hy] at Hs Hle
   have Hy:=Z5 hy
   obtain ⟨u,hu⟩ : ∃u,dp (n - t+(i+1)) (i+1)=u:=⟨_,rfl⟩
   rw [hy] at hu
   rw [hu] at Hs Hle
   have hx1 : 1<=x:=by rw [<- hx];exact j8 _ _ (by omega)
   obtain ⟨j,hj⟩ : ∃j,i+1=j:=⟨_,rfl⟩
   have hji : (i : Int)+1=j:=by omega
   obtain ⟨p,hp⟩ : ∃p,x * y=p:=⟨_,rfl⟩
   have hpe : (x : Int) * (y : Int)=p:=by rw [<- hp];simp
   have hpl : p<=65536 * 64:=by rw [<- hp];have h1:=Mt hc (show y<=64 by omega);omega
   rw [hp,hj] at Hs
   have hup : u<=p:=by rw [<- Hs.out];exact K6 p j
   have Hu:=Z5 hu
   have Hj:=Z5 hj
   have d2 : decide ((j : Int)<=0)=false:=by simp;omega
   have k1 : IntKind.u64.wrap (x : Int)=x:=by rw [KJ];omega
   have k2 : IntKind.u64.wrap (y : Int)=y:=by rw [KJ];omega
   have k3 : IntKind.u64.wrap (j : Int)=j:=by rw [KJ];omega
   have k4 : IntKind.i64.wrap (u : Int)=u:=Jj _ (by omega)
   have K5 : Hid (wrap64 (y : Int)=y):=vS (by omega) (by omega)
   have Hm:=Z5 (CK x y hc (by omega))
   rw [hpe] at Hm
   have Hd:=Z5 (B3 p j (by omega) (by omega) (by omega))
   rw [Hs.out] at Hd
   have Hji:=Z5 hji
   rw [hji] at hye ⊢
   have d1 : decide (j<=t)=true:=by simp;omega
   have d2' : decide (j=0)=false:=by simp;omega
   clear hx hy hu hp hup hpl hji hj Hs hpe
   go_wp2_with fail
   rw [K5.out,k2]
   with_reducible refine (Hm.out wr).mono ?_
   rintro e w' ⟨rfl,rfl⟩
   go_wp2_with fail
   with_reducible refine (Hd.out wr).mono ?_
   rintro e w5 ⟨rfl,hb5⟩
   have hb6:=Nh hb hb5
   by_cases hbig : u<=65536
   ·have d3 : decide ((65536 : Int)<(u : Int))=false:=by simp;omega
    have d3' : decide (65536<u)=false:=by simp;omega
    go_wp2_with fail
    have h2 : wrap64 ((j : Int)+1)=(j : Int)+1:=vS (by omega) (by have:=Hj.out;omega)
    have H2:=Z5 h2
    clear h2 k1 k2 k3 k4
    go_roundw
    case rel=>exact ⟨i+1,by omega,by rw [H2.out];have:=Hji.out;congr 1;omega,by rw [Hy.out,Hu.out],by rw [Hy.out,Hu.out];exact hbig,hb6⟩
    case measure=>have:=Hj.out;rw [H2.out];simp [intOf] <;> omega
   ·have d3 : decide ((65536 : Int)<(u : Int))=true:=by simp;omega
    have d3' : decide (65536<u)=true:=by simp;omega
    have Hb:=Z5 (HcE.out λh=>by have:=Hle.out;omega)
    clear hbig
    go_wp2_with fail
    go_ret2
    exact ⟨cR Hb.out.1.symm Hb.out.2.symm,hb6⟩
  ·obtain rfl : i=t:=by omega
   have d1 : decide ((i : Int)+1<=(i : Int))=false:=by simp;omega
   rw [show n - i+i=n by omega] at hc ⊢
   have Hb:=Z5 (HcO.out hc)
   generalize dp n i=z at *
   go_wp2_with fail
   go_ret2
   exact ⟨cR Hb.out.1.symm Hb.out.2.symm,hb⟩
end Go.Proofs.YtcfmiocdlcapoaaGreat
