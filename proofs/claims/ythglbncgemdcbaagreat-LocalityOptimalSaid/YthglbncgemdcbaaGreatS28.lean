import Derived.Test.YthglbncgemdcbaaGreatS26
import Derived.Test.YthglbncgemdcbaaGreatS25
import Derived.Test.YthglbncgemdcbaaGreatS24
namespace Go.Proofs.YthglbncgemdcbaaGreat
set_option linter.all false
set_option maxRecDepth 100000
set_option maxHeartbeats 8000000
open Go.RowKit Go.Proofs.Tryz
def mb (q : Nat) (l : Lz) : List Bool:=(List.range q).map λ(y : Nat)=>decide ((y : Int) ∈ l)
theorem GH (q : Nat) (l : Lz) : (mb q l).length=q:=by simp [mb]
theorem Du {q y : Nat} (l : Lz) (h : y<q) : uJ (mb q l) y=decide ((y : Int) ∈ l):=by rw [sD (by rw [GH];exact h)];simp [mb]
theorem GC {q y : Nat} (l : Lz) : (mb q l).set y true=mb q (l ++ [(y : Int)]):=by
 refine Ov (by simp [mb]) λi h1 h2=>?_;rw [RE];simp only [mb,NZ,O0,Ol,N6];split
 ·rename_i h;subst h;simp
 ·rename_i h;have : ¬ (i : Int)=y:=by omega
  simp [this]
theorem Gd (q : Nat) : mb q []=List.replicate q false:=by refine Ov (by simp [mb]) λi h1 h2=>?_;simp [mb]
section
variable {O : aL} {El : Int->Prop} {q : Nat} {g : Int}
def FG (O : aL) (n x : Nat) : Lz:=rtTo O n (x - 1)
def Fg (O : aL) (U : Lz) (N x : Nat) : Lz:=iK O U N (x - 1)
theorem K8 (n : Nat) : FG O n 1=[]:=rfl
theorem Cj {n x : Nat} (h1 : 1<=x) (h : iE O (x : Int) n=1) : FG O n (x+1)=FG O n x ++ [(x : Int)]:=by
 obtain ⟨j,rfl⟩ : ∃j,x=j+1:=⟨x - 1,by omega⟩
 have e : ((j+1 : Nat) : Int)=(j : Int)+1:=by omega
 rw [e] at h ⊢;show rtTo O n (j+1)=rtTo O n j ++ _;rw [rtTo,Nd h]
theorem BC {n x : Nat} (h1 : 1<=x) (h : iE O (x : Int) n ≠ 1) : FG O n (x+1)=FG O n x:=by
 obtain ⟨j,rfl⟩ : ∃j,x=j+1:=⟨x - 1,by omega⟩
 have e : ((j+1 : Nat) : Int)=(j : Int)+1:=by omega
 rw [e] at h;show rtTo O n (j+1)=rtTo O n j;rw [rtTo,Nf h]
theorem An (n : Nat) : ∀x,(FG O n x).length<=x
 | 0=>by simp [FG,rtTo]
 | 1=>by simp [FG,rtTo]
 | x+2=>by
  by_cases h : iE O ((x+1 : Nat) : Int) n=1
  ·rw [Cj (by omega) h,Nl];have:=An n (x+1);simp;omega
  ·rw [BC (by omega) h];have:=An n (x+1);omega
theorem K0 (U : Lz) (N : Nat) : Fg O U N 1=[]:=rfl
theorem IA {U : Lz} {N x : Nat} (h1 : 1<=x) (h : (Fg O U N x).length<N) (h2 : ¬ (x : Int) ∈ Fg O U N x) : Fg O U N (x+1)=Fg O U N x ++ dt (U.map (O.mul (x : Int))):=by
 obtain ⟨j,rfl⟩ : ∃j,x=j+1:=⟨x - 1,by omega⟩
 have e : ((j+1 : Nat) : Int)=(j : Int)+1:=by omega
 rw [e] at h2 ⊢;show iK O U N (j+1)=iK O U N j ++ _;rw [iK,Nd ⟨h,h2⟩]
theorem I8 {U : Lz} {N x : Nat} (h1 : 1<=x) (h2 : (x : Int) ∈ Fg O U N x) : Fg O U N (x+1)=Fg O U N x:=by
 obtain ⟨j,rfl⟩ : ∃j,x=j+1:=⟨x - 1,by omega⟩
 have e : ((j+1 : Nat) : Int)=(j : Int)+1:=by omega
 rw [e] at h2;show iK O U N (j+1)=iK O U N j;rw [iK,Nf λh=>h.2 h2]
theorem Ir {U : Lz} {N x : Nat} (hx : x<=q) (h : N<=(Fg O U N x).length) : Fg O U N x=Fg O U N q:=by have h1:=Fi (O:=O) U N (k:=x - 1) h (q - 1 - (x - 1));show iK O U N (x - 1)=iK O U N (q - 1);rw [<- h1];congr 1;omega
end
section
variable {P M : Int} {mod : Lz} {c r k : Int}
theorem MH (h : bA P M mod=false) : Fh P M mod c r k=1:=by unfold Fh;rw [Nd h]
theorem Mp (h : bA P M mod=true) (h1 : c<1\/64<c\/r<1\/64<r\/k<1\/64<k) : Fh P M mod c r k=6:=by unfold Fh;rw [Nf (by rw [h];simp),Nd h1]
theorem LU (h : bA P M mod=true) {Q c r k : Nat} (hQ : (af P M.toNat mod).q=Q+1) (h1 : 1<=c/\c<=64) (h2 : 1<=r/\r<=64) (h3 : 1<=k/\k<=64) :
  Fh P M mod c r k=if Q % (r+1) ≠ 0\/Q / (r+1)<c then 10 else if 64<c * (r+1) then 4 else if c * r<k then 9 else 0:=by
 unfold Fh;rw [Nf (by rw [h];simp),Nf (by omega),hQ];have e1 : (((Q+1 : Nat) : Int) - 1) % ((r : Int)+1)=((Q % (r+1) : Nat) : Int):=by rw [show ((Q+1 : Nat) : Int) - 1=(Q : Int) by omega,Pc];rfl
 have e2 : (((Q+1 : Nat) : Int) - 1) / ((r : Int)+1)=((Q / (r+1) : Nat) : Int):=by rw [show ((Q+1 : Nat) : Int) - 1=(Q : Int) by omega,Int.natCast_ediv];rfl
 rw [e1,e2];have e3 : (c : Int) * ((r : Int)+1)=((c * (r+1) : Nat) : Int):=by simp
 have e4 : (c : Int) * (r : Int)=((c * r : Nat) : Int):=by simp
 rw [e3,e4];have c1 : ((Q % (r+1) : Nat) : Int) ≠ 0\/((Q / (r+1) : Nat) : Int)<(c : Int) ↔ Q % (r+1) ≠ 0\/Q / (r+1)<c:=by omega
 have c2 : (64 : Int)<((c * (r+1) : Nat) : Int) ↔ 64<c * (r+1):=by omega
 have c3 : ((c * r : Nat) : Int)<(k : Int) ↔ c * r<k:=by omega
 simp only [c1,c2,c3]
end
def J6 (P M : Int) (mod : Lz) (c r k : Nat) : ZZ:=bZ (af P M.toNat mod).ops ((r+1) * c) (L6 (af P M.toNat mod).ops (af P M.toNat mod).q r c k)
theorem KZ {P M : Int} {mod : Lz} (hB : bA P M mod=true) {Q c r k : Nat} (hQ : (af P M.toNat mod).q=Q+1) (hr : 1<=r) (hd : Q % (r+1)=0) (hc : c<=Q / (r+1)) :
  let G:=af P M.toNat mod
  (FG G.ops (r+1) (Q+1)).length=r+1/\(∀x ∈ FG G.ops (r+1) (Q+1),G.El x)/\(Fg G.ops (FG G.ops (r+1) (Q+1)) ((r+1) * c) (Q+1))=CZ G.ops G.q r c /\
  (CZ G.ops G.q r c).length=(r+1) * c/\(∀x ∈ CZ G.ops G.q r c,G.El x/\x ≠ 0)/\(r+1) * c<=Q:=by
 intro G;have F:=dM hB;obtain ⟨g,hG⟩:=uD hB;have hq1 : G.q - 1=Q:=by show (af P M.toNat mod).q - 1=Q;omega
 have hdv : (r+1) ∣ G.q - 1:=by rw [hq1];exact QU hd
 have hcq : (r+1) * c<=Q:=by have h1:=OW (r+1) hc;have h2:=Nat.mul_div_le Q (r+1);omega
 obtain ⟨hI,hl⟩:=IM F hG (s:=r+1) (c:=c) (by omega) hdv (by rw [show (af P M.toNat mod).q - 1=Q from hq1];exact hcq);refine ⟨?_,?_,?_,hl,λx hx=>hI.el x hx,hcq⟩
 ·have:=Fz F hG (n:=r+1) (by omega) hdv;rw [show (af P M.toNat mod).q - 1=Q from hq1] at this;exact this
 ·intro x hx;have hx' : x ∈ rtTo G.ops (r+1) Q:=hx;obtain ⟨h1,h2,_⟩:=kj.1 hx';show 0<=x/\x<_;rw [show (((af P M.toNat mod).q : Nat) : Int)=(Q : Int)+1 by rw [hQ];simp];omega
 ·unfold CZ Fg FG;rw [show (af P M.toNat mod).q - 1=Q from hq1];simp
theorem Gr {w : World} {b : Nat} {P : Int} {M q : Nat} {ex lg : Lz} (xn n : Nat) (h : A7 w b P M q ex lg) (hx0 : xn ≠ 0) (hx1 : xn<q) (hn : n<=1000000) :
  Calls prog 65 #[.pointer (some ⟨b,0,none⟩),.int .i64 xn,.int .i64 n] w λe w'=>∃k,e = .returned (.tuple #[.int .i64 (if n=0 then 1 else nth ex ((nth lg xn * ((n : Int) % ((q : Int) - 1))) % ((q : Int) - 1)).toNat),.int .i64 0])/\w'=w.drewN k:=by
 obtain ⟨ae,ce,hce,hie⟩:=h.ce;obtain ⟨al,cl,hcl,hil⟩:=h.cl;have hcq:=h.cq;have hx' : ((xn : Int) == 0)=false:=by rw [beq_eq_false_iff_ne];omega
 have lx:=h.lb xn (by omega);have cx:=hil.cell xn (by omega);have hpe:=hie.pl;have hpl:=hil.pl;have hq2:=h.q2;have hq256:=h.q256;have HIn:=Z5 (gx xn h (by omega) (by omega));obtain ⟨k,rfl⟩ : ∃k,q=k+1:=⟨q - 1,by omega⟩
 rw [PB] at hce hie hpe;have hk1 : 1<=k:=by omega
 have e1 : ((k+1 : Nat) : Int) - 1=(k : Int):=by omega
 rw [e1] at lx ⊢;by_cases hn0 : n=0
 ·subst hn0;rw [Nd rfl];clear e1 lx;go_enter func65,ntmps65;go_wp2_with fail;refine HIn.out.mono ?_;rintro e w' ⟨rfl,rfl⟩;go_wp2_with fail;go_ret2;exact ⟨0,rfl,rfl⟩
 rw [Nf hn0];have d0 : ((n : Int) == 0)=false:=by simpa using hn0
 obtain ⟨l,hl⟩ : ∃l : Nat,nth lg xn=l:=⟨(nth lg xn).toNat,by omega⟩
 obtain ⟨y,hy⟩ : ∃y : Nat,n % k=y:=⟨_,rfl⟩
 have hyk : y<k:=by rw [<- hy];exact O1 _ (by omega)
 obtain ⟨z,hz⟩ : ∃z : Nat,(l * y) % k=z:=⟨_,rfl⟩
 have hzk : z<k:=by rw [<- hz];exact O1 _ (by omega)
 rw [hl] at cx lx ⊢;have hlb : l<k:=by omega
 have hly : l * y<=255 * 255:=PU (by omega) (by omega);have hV : ((l : Int) * ((n : Int) % (k : Int)) % (k : Int)).toNat=z:=by
  have e2 : (l : Int) * ((n : Int) % (k : Int)) % (k : Int)=((l * (n % k) % k : Nat) : Int):=by rw [Pc,QW,Pc]
  rw [e2,Nb,hy,hz]
 rw [hV];have ck:=hie.cell z hzk;have e1' : (k : Int)+1 - 1=(k : Int):=by omega
 have w1' : IntKind.i64.wrap (((k+1 : Nat) : Int) - 1)=(k : Int):=by rw [e1];exact Ns _ (by omega)
 have w1'' : IntKind.i64.wrap ((k : Int) + 1 - 1) = (k : Int) := by rw [e1']; exact Ns _ (by omega)
 have r1 : ((n : Nat) : Int).tmod (k : Nat)=((y : Nat) : Int):=by rw [Ow (by omega),<- hy];simp
 have w2' : IntKind.i64.wrap ((y : Int)+(k : Int))=(y : Int)+(k : Int):=Ns _ (by omega);have r2 : ((y : Int)+(k : Int)).tmod (k : Nat)=((y : Nat) : Int):=by rw [Ow (by omega),Int.add_emod_right];exact QF (by omega) (by omega)
 obtain ⟨p,hp⟩ : ∃p : Nat,l * y=p:=⟨_,rfl⟩
 have hpi : (l : Int) * (y : Int)=(p : Int):=by rw [<- hp];simp
 have hp2 : p<=255 * 255:=by omega
 have w3 : IntKind.i64.wrap ((l : Int) * (y : Int))=(p : Int):=by rw [hpi];exact Ns _ (by omega)
 rw [hp] at hz;have r3 : ((p : Nat) : Int).tmod (k : Nat)=((z : Nat) : Int):=by rw [Ow (by omega),<- hz];simp
 have hkk : (k : Int) ≠ 0:=by omega
 have hkb : ((k : Int) == 0)=false:=by simpa using hkk
 have hzi : (z : Int)<k:=by omega
 have hxi : (xn : Int)<((k+1 : Nat) : Int):=by omega
 have hxi2 : (xn : Int)<(k : Int)+1:=by omega
 clear hp hpi hz hV hy hl hly e1 e1' hn0;go_enter func65,ntmps65;go_wp2_with fail;refine HIn.out.mono ?_;rintro e w' ⟨rfl,rfl⟩;go_wp2_with fail;go_quiet (fail);go_wp2;go_ret2;exact ⟨_,rfl,rfl⟩
theorem MX {w : World} {b : Nat} {P M : Int} {mod : Lz} (hB : bA P M mod=true) {x : Int} (n : Nat) (h : ew w b (af P M.toNat mod)) (hx : (af P M.toNat mod).El x) (h0 : x ≠ 0) (hn : n<=1000000) :
  Calls prog 65 #[.pointer (some ⟨b,0,none⟩),.int .i64 x,.int .i64 n] w λe w'=>∃k,e = .returned (.tuple #[.int .i64 (iE (af P M.toNat mod).ops x n),.int .i64 0])/\w'=w.drewN k:=by
 have ht:=J7 hB hx h0 n;have hx':=hx;unfold dn.El at hx';obtain ⟨xn,rfl⟩ : ∃xn : Nat,x=xn:=⟨x.toNat,by omega⟩
 have h1:=Gr xn n h (by omega) (by omega) hn;have e : (if n=0 then 1 else nth (af P M.toNat mod).ex ((nth (af P M.toNat mod).lg xn * ((n : Int) % (((af P M.toNat mod).q : Int) - 1))) % (((af P M.toNat mod).q : Int) - 1)).toNat)=iE (af P M.toNat mod).ops xn n:=by
  by_cases hn0 : n=0
  ·subst hn0;rw [Nd rfl];rfl
  ·rw [Nf hn0,<- ht];unfold LW;rw [Nb]
 rw [e] at h1;exact h1
def mw (l : Lz) : Bool:=l.all λy=>y == 0
theorem Ky (l : Lz) : l.any (λy=>y != 0) = !(mw l):=by
 unfold mw;induction l with
 | nil=>rfl
 | cons x l ih =>
  rw [List.any_cons,Rj,ih,Bool.not_and];rfl
theorem GN (x : Int) (w : World) : Calls prog 265 #[.int .i64 x] w λe w'=>e = .returned (.bool (x != 0))/\w=w':=by go_enter func265,ntmps265;go_wp2;go_ret;exact ⟨rfl,rfl⟩
theorem CJ (p : Int->Bool) (a : OA) (n c : Nat) (l : Lz) (w : World) (hi : Ints w a n l) (hf : ∀k,k<n->Calls prog 265 #[.int .i64 (nth l k)] w λe w'=>e = .returned (.bool (p (nth l k)))/\w=w') :
  Calls prog 111 #[.slice a n c,.func (.func 265) #[] #[]] w λe w'=>∃z : Int,e = .returned (.int .i64 z)/\(0<=z ↔ l.any p=true)/\w=w':=by
 have hpl:=hi.pl;have hmax:=hi.max;have HF:=Z5 hf;have Hl:=Z5 hi.len;unfold maxLen at hmax;clear hf;go_enter func111,ntmps111;go_wp2_with fail;go_loop [8] (λiv=>∃k : Nat,k<=n/\iv = .int .i64 k/\Hid (∀j,j<k->p (nth l j)=false)) (λiv=>n - (intOf iv).toNat);case atStart=>exact ⟨0,Ni _,rfl,λj hj=>by omega⟩
 case round =>
  obtain ⟨k,hk,rfl,hno⟩:=hrel
  by_cases hlt : k<n
  ·have ck:=hi.cell k hlt
   have hfk:=HF.out k hlt
   obtain ⟨z,hz⟩ : ∃z,p (nth l k)=z:=⟨_,rfl⟩
   rw [hz] at hfk
   have Hk:=Z5 hfk
   cases z
   ·have Hn : Hid (∀j,j<k+1->p (nth l j)=false):=λj hj=>by
     by_cases e : j=k
     ·subst e;exact hz
     ·exact hno.out j (by omega)
    clear hz hfk hno
    go_wp2_with fail
    refine Hk.out.mono ?_
    rintro e w' ⟨rfl,rfl⟩
    go_wp2_with fail
    go_round
    case rel=>exact ⟨k+1,by omega,by go_num,Hn.out⟩
    case measure=>simp [intOf] <;> omega
   ·have Hy : Hid (l.any p=true):=by show _=_;rw [P0];exact ⟨nth l k,aH (by rw [Hl.out];exact hlt),hz⟩
    clear hz hfk hno
    go_wp2_with fail
    refine Hk.out.mono ?_
    rintro e w' ⟨rfl,rfl⟩
    go_wp2_with fail
    go_ret
    exact ⟨k,rfl,⟨λ_=>by first | exact Hy.out | exact List.any_eq_true.1 Hy.out,λ_=>PD _⟩,rfl⟩
  ·obtain rfl : k=n:=by omega
   have Hy : Hid (l.any p=false):=by show _=_;rw [Qe];intro x hx;obtain ⟨j,hj,rfl⟩:=List.mem_iff_getElem.1 hx;have:=hno.out j (by rw [<- Hl.out];exact hj);rw [aj hj] at this;rw [this];decide
   go_wp2_with fail
   go_ret
   exact ⟨-1,rfl,⟨λh=>absurd h (by omega),λh=>by have h2 : l.any p=true:=(by first | exact h | exact List.any_eq_true.2 h);rw [Hy.out] at h2;exact absurd h2 (by decide)⟩,rfl⟩
theorem xk (p : Int->Bool) (a : OA) (n c : Nat) (l : Lz) (w : World) (hi : Ints w a n l) (hf : ∀k,k<n->Calls prog 265 #[.int .i64 (nth l k)] w λe w'=>e = .returned (.bool (p (nth l k)))/\w=w') :
  Calls prog 53 #[.slice a n c,.func (.func 265) #[] #[]] w λe w'=>e = .returned (.bool (l.any p))/\w=w':=by
 have Hc:=Z5 (CJ p a n c l w hi hf);clear hf;go_enter func53,ntmps53;go_wp2_with fail;refine Hc.out.mono ?_;rintro e w' ⟨z,rfl,hz,rfl⟩;by_cases h0 : 0<=z
 ·have Hz : Hid (l.any p=true):=hz.1 h0;have h0' : decide (0<=z)=true:=by simpa using h0
  clear hz h0;go_wp2_with fail;go_ret;exact ⟨aZ Hz.out.symm,rfl⟩
 ·have Hz : Hid (l.any p=false):=by
   show _=_;cases h : l.any p
   ·rfl
   ·exact absurd (hz.2 h) h0
  have h0' : decide (0<=z)=false:=by simpa using h0
  clear hz h0;go_wp2_with fail;go_ret;exact ⟨aZ Hz.out.symm,rfl⟩
theorem H6 (a : OA) (n c : Nat) (l : Lz) (w : World) (hi : Ints w a n l) :
  Calls prog 243 #[.slice a n c] w λe w'=>e = .returned (.bool (mw l))/\w=w':=by
 have hcc:=xk (λy=>y != 0) a n c l w hi λk hk=>GN (nth l k) w;rw [Ky] at hcc;obtain ⟨z,hz⟩ : ∃z,mw l=z:=⟨_,rfl⟩
 rw [hz] at hcc ⊢;have Hc:=Z5 hcc;clear hcc hz;go_enter func243,ntmps243;go_wp2_with fail;refine Hc.out.mono ?_;rintro e w' ⟨rfl,rfl⟩;cases z
 ·go_wp2_with fail;go_ret;exact ⟨rfl,rfl⟩
 ·go_wp2_with fail;go_ret;exact ⟨rfl,rfl⟩
theorem zQ {w : World} {b : Nat} {G : dn} (m : Nat) (a : OA) (n c : Nat) (R : ZZ) (ap : OA) (cp : Nat) (Pv : Lz) (ax : OA) (cx : Nat) (x : Lz)
  (h : ew w b G) (hi : br w a n R) (hp : Ints w ap n Pv) (hx : Ints w ax m x) (hOk : BS.Ok G.El m ⟨R,Pv⟩) (hxe : Vc G.El m x) (hn : n<=1000000) (hm : m<=1000000) :
  Calls prog 192 #[.agg #[.pointer (some ⟨b,0,none⟩),.int .i64 m,.slice a n c,.slice ap n cp],.slice ax m cx] w
   λe w'=>e = .returned (.bool (mw (redTo G.ops R Pv x n)))/\SW w w':=by
 obtain ⟨z,hz⟩ : ∃z,mw (redTo G.ops R Pv x n)=z:=⟨_,rfl⟩
 rw [hz];have HZ:=Z5 hz;clear hz;go_enter func192,ntmps192;go_wp2_with fail;obtain ⟨W,hW⟩ : ∃W : World,W=w.alloc (.cells #[.pointer (some ⟨b,0,none⟩),.int .i64 m,.slice a n c,.slice ap n cp] 210):=⟨_,rfl⟩
 rw [<- hW];have hbW : SW w W:=by rw [hW];exact an _ _
 clear hW;refine (Dl m a n c R ap cp Pv ax cx x (h.ah hbW) (hi.ah hbW) (hp.ah hbW) (hx.ah hbW) hOk hxe hn hm).mono ?_;rintro e w1 ⟨a1,c1,v2,rfl,hI1,hb1⟩;have hzz:=H6 a1 m c1 _ w1 hI1;rw [HZ.out] at hzz;have Hz:=Z5 hzz;have hF:=RZ hbW hb1;clear hI1 hOk hxe hzz;go_wp2_with fail;refine Hz.out.mono ?_;rintro e w2 ⟨rfl,rfl⟩;go_wp2_with fail;go_ret;exact ⟨rfl,hF⟩
def hasB (P M : Int) (mod : Lz) (m : Nat) (L : ZZ) (x : Lz) : Bool:=mw (redTo (af P M.toNat mod).ops L (bw (af P M.toNat mod) L m) x L.length)
theorem xI (P M : Int) (am : OA) (mn cm : Nat) (mod : Lz) (m : Nat) (a : OA) (n c : Nat) (L : ZZ) (ax : OA) (cx : Nat) (x : Lz) (w : World) (hmod : Ints w am mn mod) (hi : br w a n L) (hx : Ints w ax m x)
  (hE : aF P M mod m L=0) (hxe : Vc (af P M.toNat mod).El m x) :
  Calls prog 135 #[.agg #[.int .i64 P,.int .i64 M,.slice am mn cm],.agg #[.int .i64 m,.slice a n c],.slice ax m cx] w λe w'=>e = .returned (.tuple #[.bool (hasB P M mod m L x),.int .i64 0])/\SW w w':=by
 obtain ⟨z,hz⟩ : ∃z,hasB P M mod m L x=z:=⟨_,rfl⟩
 rw [hz];unfold hasB at hz;have hil:=hi.len;obtain ⟨m',em,hm1,hm64,F,hR⟩:=aM hE;obtain rfl : m=m':=by omega
 have hn : n<=256:=by rw [<- hil];exact (bJ hE).choose_spec.2.2.2.1
 obtain ⟨h5,h6⟩:=eS (aG hE).2.2.2;rw [Nb] at h6;have hcan : bZ (af P M.toNat mod).ops m L=L:=h6;have hpiv:=(bG F hR).1;have hlen:=bQ F hR;rw [hcan] at hpiv hlen;have hOk : BS.Ok (af P M.toNat mod).El m ⟨L,bw (af P M.toNat mod) L m⟩:=(oE hR hpiv hlen).ok;have hpl : (bw (af P M.toNat mod) L m).length=n:=by rw [<- hil];exact hlen.symm
 rw [hil] at hz;have H0:=Z5 hz;have HOk:=Z5 hOk;have Hsp:=Z5 (aG hE).2.2.2;have Hxe:=Z5 hxe;clear hz hOk h5 h6 hcan hpiv hlen em F hR hE hil hxe;go_enter func135,ntmps135;go_wp2_with fail;obtain ⟨W,hW⟩ : ∃W : World,W=(w.alloc (.cells #[.int .i64 P,.int .i64 M,.slice am mn cm] 24)).alloc (.cells #[.int .i64 m,.slice a n c] 94):=⟨_,rfl⟩
 rw [<- hW];have hbW : SW w W:=by rw [hW];exact bN _ _ _
 clear hW;refine (my P M am mn cm mod m a n c L W (hmod.ah hbW) (hi.ah hbW)).mono ?_;rintro e w1 ⟨hb1,⟨he,_⟩ | ⟨_,m',b,hm',ap,cp,rfl,hG,hbl,hP⟩⟩
 ·exact absurd Hsp.out he
 obtain rfl : m=m':=by omega
 have hbw1:=RZ hbW hb1;have hp1:=hP.ints;rw [hpl] at hp1 ⊢;obtain ⟨Pv,hPv⟩ : ∃Pv,bw (af P M.toNat mod) L m=Pv:=⟨_,rfl⟩
 obtain ⟨G,hGG⟩ : ∃G,af P M.toNat mod=G:=⟨_,rfl⟩
 rw [hGG] at hPv hG H0 HOk Hxe;rw [hPv] at H0 HOk;have hp2 : Ints w1 ap n Pv:=by rw [hGG,hPv] at hp1;exact hp1
 have hb2:=an w1 (.cells #[.pointer (some ⟨b,0,none⟩),.int .i64 m,.slice a n c,.slice ap n cp] 210);have hbw2:=RZ hbw1 hb2;have HWd:=Z5 (AW m a n c ap n cp ax cx x (hG.gf.ah hb2) (hx.ah hbw2) Hxe.out);have HHs : Hid (∀V,SW w1 V->Calls prog 192 #[.agg #[.pointer (some ⟨b,0,none⟩),.int .i64 m,.slice a n c,.slice ap n cp],.slice ax m cx] V λe w'=>e = .returned (.bool z)/\SW V w'):=λV hV=>by rw [<- H0.out];exact zQ m a n c L ap cp Pv ax cx x (hG.gf.ah hV) (hi.ah (RZ hbw1 hV)) (hp2.ah hV) (hx.ah (RZ hbw1 hV)) HOk.out Hxe.out (by omega) (by omega)
 have k0:=R9 w1 [.pointer (some ⟨b,0,none⟩),.int .i64 m,.slice a n c,.slice ap n cp] 210 rfl;have HX:=Z5 k0;clear hpl hPv hGG hG hbl hP hp1 hp2 hm' k0;go_wp2_with fail;refine HWd.out.mono ?_;rintro e w3 ⟨rfl,hb3⟩;have x3:=HX.out.ah hb3;have k0:=x3.cell 0 rfl;have k1:=x3.cell 1 rfl;have k2:=x3.cell 2 rfl;have k3:=x3.cell 3 rfl;have Hh:=Z5 (HHs.out w3 (RZ hb2 hb3));have hbw3:=RZ hbw2 hb3;clear HWd HHs x3;go_wp2_with fail;refine Hh.out.mono ?_;rintro e w4 ⟨rfl,hb4⟩;have hF:=RZ hbw3 hb4;go_wp2_with fail;go_ret2;exact ⟨rfl,hF⟩
theorem xM (P M : Int) (am : OA) (mn cm : Nat) (mod : Lz) (N : Int) (a : OA) (n c : Nat) (L : ZZ) (ax : OA) (nx cx : Nat) (x : Lz) (w : World) (hmod : Ints w am mn mod) (hi : br w a n L) (hx : Ints w ax nx x) :
  Calls prog 134 #[.agg #[.int .i64 P,.int .i64 M,.slice am mn cm,.int .i64 N,.slice a n c],.slice ax nx cx] w λe w'=>e = .returned (.int .i64 (gn P M mod N L x))/\SW w w':=by
 go_enter func134,ntmps134;go_wp2_with fail;obtain ⟨W,hW⟩ : ∃W : World,W=w.alloc (.cells #[.int .i64 P,.int .i64 M,.slice am mn cm,.int .i64 N,.slice a n c] 27):=⟨_,rfl⟩
 rw [<- hW];have hbW : SW w W:=by rw [hW];exact an _ _
 have x0 : aN W w.heap.size [.int .i64 P,.int .i64 M,.slice am mn cm,.int .i64 N,.slice a n c]:=by rw [hW];exact R9 _ _ _ rfl
 clear hW;refine (dr P M am mn cm mod N a n c L W (hmod.ah hbW) (hi.ah hbW)).mono ?_;rintro e w1 ⟨rfl,hb1⟩;have hbw1:=RZ hbW hb1;have x1:=x0.ah hb1;have c0:=x1.cell 0 rfl;have c1:=x1.cell 1 rfl;have c2:=x1.cell 2 rfl;have c3:=x1.cell 3 rfl;by_cases hE : aF P M mod N L=0;rotate_left
 ·have hE2 : (aF P M mod N L != 0)=true:=by simpa using hE
  have HR : Hid (gn P M mod N L x=aF P M mod N L):=Nf hE;clear hE x0 x1;generalize aF P M mod N L=er at *;go_wp2_with fail;go_ret;exact ⟨aP HR.out.symm,hbw1⟩
 obtain ⟨m,rfl,_⟩:=bJ hE;have hq : ((af P M.toNat mod).q : Int)=aJ P M:=by obtain ⟨m1,e1,_,h1,_⟩:=dB (aG hE).1;rw [show M.toNat=m1 by omega];exact h1
 have HR : Hid (gn P M mod m L x=fD (af P M.toNat mod).q x m):=by show _=_;rw [gn,Nd hE,hq,Nb]
 have HL:=Z5 (qQ P M am mn cm mod ax nx cx x m w1 (hmod.ah hbw1) (hx.ah hbw1) (aG hE).1);rw [hE];clear hE x0 x1 hq;go_wp2_with fail;refine HL.out.mono ?_;rintro e w2 ⟨rfl,hb2⟩;have hF:=RZ hbw1 hb2;go_wp2_with fail;go_ret;exact ⟨aP HR.out.symm,hF⟩
theorem qh {P M : Int} {mod : Lz} {N : Int} {L : ZZ} {x : Lz} (h : gn P M mod N L x=0) : aF P M mod N L=0/\Vc (af P M.toNat mod).El N.toNat x:=by
 unfold gn at h;by_cases hE : aF P M mod N L=0
 ·rw [Nd hE] at h;have hq : ((af P M.toNat mod).q : Int)=aJ P M:=by obtain ⟨m1,e1,_,h1,_⟩:=dB (aG hE).1;rw [show M.toNat=m1 by omega];exact h1
  refine ⟨hE,?_⟩;unfold fD at h;by_cases hl : x.length=N.toNat
  ·rw [Nd hl] at h;refine ⟨hl,λy hy=>?_⟩;unfold gU at h;by_cases he : dY (aJ P M) x=true
   ·unfold dY at he;have h1:=List.all_eq_true.1 he y hy;unfold jR at h1;simp at h1;exact ⟨h1.1,by have:=h1.2;omega⟩
   ·rw [Nf he] at h;exact absurd h (by decide)
  ·rw [Nf hl] at h;exact absurd h (by decide)
 ·rw [Nf hE] at h;exact absurd h hE
def mI (P M : Int) (mod : Lz) (N : Int) (L : ZZ) (x : Lz) : Bool:=if gn P M mod N L x=0 then hasB P M mod N.toNat L x else false
theorem zR (P M : Int) (am : OA) (mn cm : Nat) (mod : Lz) (N : Int) (a : OA) (n c : Nat) (L : ZZ) (ax : OA) (nx cx : Nat) (x : Lz) (w : World) (hmod : Ints w am mn mod) (hi : br w a n L) (hx : Ints w ax nx x) :
  Calls prog 81 #[.agg #[.int .i64 P,.int .i64 M,.slice am mn cm,.int .i64 N,.slice a n c],.slice ax nx cx] w λe w'=>e = .returned (.tuple #[.bool (mI P M mod N L x),.int .i64 (gn P M mod N L x)])/\SW w w':=by
 have HSp : Hid (gn P M mod N L x=0->∀V,SW w V->Calls prog 135 #[.agg #[.int .i64 P,.int .i64 M,.slice am mn cm],.agg #[.int .i64 N,.slice a n c],.slice ax nx cx] V λe w'=>e = .returned (.tuple #[.bool (mI P M mod N L x),.int .i64 0])/\SW V w'):=λh V hV=>by
  obtain ⟨hE,hxe⟩:=qh h;rw [mI,Nd h];obtain ⟨m,rfl,_⟩:=bJ hE;rw [Nb] at hxe ⊢;have e1 : nx=m:=by rw [<- hx.len];exact hxe.1
  subst e1;exact xI P M am mn cm mod nx a n c L ax cx x V (hmod.ah hV) (hi.ah hV) (hx.ah hV) hE hxe
 have HWd : Hid (∀V,SW w V->Calls prog 134 #[.agg #[.int .i64 P,.int .i64 M,.slice am mn cm,.int .i64 N,.slice a n c],.slice ax nx cx] V λe w'=>e = .returned (.int .i64 (gn P M mod N L x))/\SW V w'):=λV hV =>
  xM P M am mn cm mod N a n c L ax nx cx x V (hmod.ah hV) (hi.ah hV) (hx.ah hV)
 have HN : Hid (gn P M mod N L x ≠ 0->mI P M mod N L x=false):=λh=>by rw [mI,Nf h]
 clear hmod hi hx;obtain ⟨er,her⟩ : ∃er,gn P M mod N L x=er:=⟨_,rfl⟩
 obtain ⟨z,hz⟩ : ∃z,mI P M mod N L x=z:=⟨_,rfl⟩
 rw [her] at HWd HN HSp ⊢;rw [hz] at HN HSp ⊢;clear her hz;go_enter func81,ntmps81;go_wp2_with fail;obtain ⟨W,hW⟩ : ∃W : World,W=w.alloc (.cells #[.int .i64 P,.int .i64 M,.slice am mn cm,.int .i64 N,.slice a n c] 27):=⟨_,rfl⟩
 rw [<- hW];have hbW : SW w W:=by rw [hW];exact an _ _
 have x0 : aN W w.heap.size [.int .i64 P,.int .i64 M,.slice am mn cm,.int .i64 N,.slice a n c]:=by rw [hW];exact R9 _ _ _ rfl
 have HX:=Z5 x0;have HbW:=Z5 hbW;clear hW x0;refine (HWd.out W hbW).mono ?_;rintro e w1 ⟨rfl,hb1⟩;have hbw1:=RZ HbW.out hb1;by_cases hE : er=0;rotate_left
 ·have hE2 : (er != 0)=true:=by simpa using hE
  have HN2:=Z5 (HN.out hE);clear hE;go_wp2_with fail;go_ret2;exact ⟨by rw [HN2.out];rfl,hbw1⟩
 subst hE;have HSp2:=Z5 (HSp.out rfl);have hS : ∀V,SW w1 V->V.cell? ⟨w.heap.size,0,none⟩=some (.int .i64 P)/\V.cell? ⟨w.heap.size,1,none⟩=some (.int .i64 M)/\V.cell? ⟨w.heap.size,2,none⟩=some (.slice am mn cm)/\V.cell? ⟨w.heap.size,3,none⟩=some (.int .i64 N)/\V.cell? ⟨w.heap.size,4,none⟩=some (.slice a n c)/\SW w1 V:=λV hV=>by have x1:=HX.out.ah (RZ hb1 hV);exact ⟨x1.cell 0 rfl,x1.cell 1 rfl,x1.cell 2 rfl,x1.cell 3 rfl,x1.cell 4 rfl,hV⟩
 have HS:=Z5 hS;have Hbw1:=Z5 hbw1;clear hS HWd hbW hb1 hbw1 HSp HN;go_wp2_with fail;go_region_held3 (λV=>V.cell? ⟨w.heap.size,0,none⟩=some (.int .i64 P)/\V.cell? ⟨w.heap.size,1,none⟩=some (.int .i64 M)/\V.cell? ⟨w.heap.size,2,none⟩=some (.slice am mn cm)/\V.cell? ⟨w.heap.size,3,none⟩=some (.int .i64 N)/\V.cell? ⟨w.heap.size,4,none⟩=some (.slice a n c)/\SW w1 V)
  ((refine HS.out _ ?_;first | exact (Nc _ _).drew | (go_split_ands;exact RZ (by assumption) (by assumption))))
  (first
   | (go_at_call 91;((with_reducible refine (qE P M am mn cm N a n c _).mono ?_);rintro e w6 ⟨rfl,hb6⟩))
   | (go_at_call 135;((with_reducible refine (HSp2.out _ (RZ Hbw1.out (by go_split_ands;assumption))).mono ?_);rintro e w8 ⟨rfl,hb8⟩)))
 all_goals (
  go_wp2_with fail
  go_ret2
  exact ⟨rfl,RZ Hbw1.out (by go_split_ands;assumption)⟩)
def insS (x : Int) : Lz->Lz
 | []=>[x]
 | y :: l=>if x<=y then x :: y :: l else y :: insS x l
def uj : Lz->Lz
 | []=>[]
 | x :: l=>insS x (uj l)
theorem tX (x : Int) : ∀l,(insS x l).Perm (x :: l)
 | []=>Qw _
 | y :: l=>by
  rw [insS];split
  ·exact Qw _
  ·exact ((tX x l).cons y).trans (RR x y l)
theorem yV (x : Int) : ∀ {l : Lz},l.Pairwise (λa b=>a<=b)->(insS x l).Pairwise (λa b=>a<=b)
 | [],_=>by simp [insS]
 | y :: l,h=>by
  rw [insS];rw [PF] at h;split
  ·rename_i hxy;rw [PF,PF];refine ⟨λa ha=>?_,h.1,h.2⟩;rcases List.mem_cons.1 ha with rfl | ha
   ·exact hxy
   ·have:=h.1 a ha;omega
  ·rename_i hxy;rw [PF];refine ⟨λa ha=>?_,yV x h.2⟩;rcases List.mem_cons.1 ((tX x l).mem_iff.1 ha) with rfl | ha
   ·omega
   ·exact h.1 a ha
theorem xC : ∀l,(uj l).Perm l
 | []=>Qw _
 | x :: l=>(tX x (uj l)).trans ((xC l).cons x)
theorem vW : ∀l,(uj l).Pairwise (λa b=>a<=b)
 | []=>by simp [uj]
 | x :: l=>yV x (vW l)
theorem uA (l : Lz) : dt l=uj l:=(nY (vW l) (xC l)).symm
def wG (O : aL) (L : ZZ) (m : Nat) (C : jG) (s z : Lz) : Lz:=uj (xT O L (uj z ++ frTo false (s ++ z) m) (if C.cos=true then m else C.M))
theorem BO (O : aL) (L : ZZ) (m : Nat) (C : jG) (s z : Lz) : gj O L m C s z=wG O L m C s z:=by unfold gj wG jY;rw [uA,uA]
def bldI (O : aL) (L : ZZ) (m : Nat) (C : jG) : Nat->Lz->Lz->ZZ->Int × ZZ
 | 0,s,z,T=>if dI O L m C s (wG O L m C s z)=true then if T.length=65536 then (8,[]) else (0,T ++ [wG O L m C s z]) else (11,[])
 | d+1,s,z,T=>if dI O L m C s (wG O L m C s z)=true then if T.length=65536 then (8,[]) else gW (bldI O L m C d) s z (iy C s z (wG O L m C s z)) (T ++ [wG O L m C s z]) else (11,[])
theorem EV (O : aL) (L : ZZ) (m : Nat) (C : jG) : ∀d,jQ O L m C d=bldI O L m C d
 | 0=>by funext s z T;rw [jQ,bldI,BO]
 | d+1=>by funext s z T;rw [jQ,bldI,BO,EV O L m C d]
theorem ES (O : aL) (L : ZZ) (m : Nat) (C : jG) : vD O L m C=bldI O L m C C.W [] [] []:=by rw [vD,EV]
theorem rE {P M : Int} {mod : Lz} {m : Nat} {L : ZZ} (hE : aF P M mod m L=0) : dc (af P M.toNat mod) (aS (af P M.toNat mod) L m) m=aS (af P M.toNat mod) L m:=by
 obtain ⟨N',e,hm1,hm64,F,hR⟩:=aM hE;obtain rfl : m=N':=by omega
 exact tV F (dz F (bL F hR) (bG F hR).1 (bQ F hR))
theorem mD (P M : Int) (am : OA) (mn cm : Nat) (mod : Lz) (m : Nat) (a : OA) (n c : Nat) (L : ZZ) (w : World) (hmod : Ints w am mn mod) (hi : br w a n L) (hE : aF P M mod m L=0) :
  Calls prog 99 #[.agg #[.int .i64 P,.int .i64 M,.slice am mn cm,.int .i64 m,.slice a n c]] w (iZ (af P M.toNat mod) L m w):=by
 have HN : Hid (∀V,SW w V->Calls prog 157 #[.agg #[.int .i64 P,.int .i64 M,.slice am mn cm],.slice a n c,.int .i64 m] V (iZ (af P M.toNat mod) L m V)):=λV hV=>by
  obtain ⟨N',e,hm1,hm64,F,hR⟩:=aM hE;obtain rfl : m=N':=by omega
  have hn:=hi.len;have hl:=lX hE;exact mQ P M am mn cm mod m a n c L V (hmod.ah hV) (hi.ah hV) (aG hE).1 hR (by omega) (by omega)
 clear hmod hi hE;unfold iZ at HN ⊢;generalize aS (af P M.toNat mod) L m=D at *;go_enter func99,ntmps99;go_upto_region 1 with fail;obtain ⟨W,hW⟩ : ∃W : World,W=w.alloc (.cells #[.int .i64 P,.int .i64 M,.slice am mn cm,.int .i64 m,.slice a n c] 27):=⟨_,rfl⟩
 rw [<- hW];have hbW : SW w W:=by rw [hW];exact an _ _
 have x0 : aN W w.heap.size [.int .i64 P,.int .i64 M,.slice am mn cm,.int .i64 m,.slice a n c]:=by rw [hW];exact R9 _ _ _ rfl
 have c0:=x0.cell 0 rfl;have c1:=x0.cell 1 rfl;have c2:=x0.cell 2 rfl;have c3:=x0.cell 3 rfl;have c4:=x0.cell 4 rfl;clear hW x0;go_wp2_with fail;refine (HN.out W hbW).mono ?_;rintro e w1 ⟨a1,k1,R,rfl,hO,hb1⟩;have hs:=hbW.size;have hF:=RZ hbW hb1;have HO:=Z5 (aT.mono hO hs);clear hO c0 c1 c2 c3 c4;go_wp2_with fail;go_ret;exact ⟨a1,k1,R,rfl,HO.out,hF⟩
def gr (P M : Int) (mod : Lz) (N : Int) (L : ZZ) (w : World) (e : Ending) (w' : World) : Prop :=
 SW w w'/\((aF P M mod N L ≠ 0/\e = .returned (.tuple #[.agg #[.int .i64 0,.int .i64 0,.slice none 0 0,.int .i64 0,.slice none 0 0],.int .i64 (aF P M mod N L)])) \/
  (aF P M mod N L=0/\∃a1 c1 a2 c2,e = .returned (.tuple #[.agg #[.int .i64 P,.int .i64 M,.slice a1 mod.length c1,.int .i64 N,.slice a2 (aS (af P M.toNat mod) L N.toNat).length c2],.int .i64 0])/\Ints w' a1 mod.length mod /\
   br w' a2 (aS (af P M.toNat mod) L N.toNat).length (aS (af P M.toNat mod) L N.toNat)))
theorem Ay {P M : Int} {mod : Lz} {m : Nat} {L : ZZ} (hE : aF P M mod m L=0) : (aS (af P M.toNat mod) L m).length<=m:=lX (gY hE).1
theorem gI (P M : Int) (am : OA) (mn cm : Nat) (mod : Lz) (N : Int) (a : OA) (n c : Nat) (L : ZZ) (w : World) (hmod : Ints w am mn mod) (hi : br w a n L) :
  Calls prog 45 #[.agg #[.int .i64 P,.int .i64 M,.slice am mn cm,.int .i64 N,.slice a n c]] w (gr P M mod N L w):=by
 have HK : Hid (∀V,SW w V->Calls prog 35 #[.agg #[.int .i64 P,.int .i64 M,.slice am mn cm,.int .i64 N,.slice a n c]] V λe w'=>e = .returned (.int .i64 (aF P M mod N L))/\SW V w'):=λV hV=>lh P M am mn cm mod N a n c L V (hmod.ah hV) (hi.ah hV);have HPa : Hid (aF P M mod N L=0->∀V,SW w V->Calls prog 99 #[.agg #[.int .i64 P,.int .i64 M,.slice am mn cm,.int .i64 N,.slice a n c]] V λe w'=>∃a1 k1,e = .returned (.slice a1 (aS (af P M.toNat mod) L N.toNat).length k1)/\br w' a1 (aS (af P M.toNat mod) L N.toNat).length (aS (af P M.toNat mod) L N.toNat)/\SW V w'):=λhE V hV=>by obtain ⟨m,rfl,_⟩:=aM hE;rw [Nb];refine (mD P M am mn cm mod m a n c L V (hmod.ah hV) (hi.ah hV) hE).mono ?_;rintro e w' ⟨a1,k1,R,rfl,hO,hb⟩;exact ⟨a1,k1,rfl,hO.jt,hb⟩
 have HMk : Hid (aF P M mod N L=0->∀V a1 k1,SW w V->br V a1 (aS (af P M.toNat mod) L N.toNat).length (aS (af P M.toNat mod) L N.toNat)->Calls prog 72 #[.agg #[.int .i64 P,.int .i64 M,.slice am mn cm],.slice a1 (aS (af P M.toNat mod) L N.toNat).length k1,.int .i64 N] V λe w' =>
   ∃a2 c2 a3 c3,e = .returned (.agg #[.int .i64 P,.int .i64 M,.slice a2 mod.length c2,.int .i64 N,.slice a3 (aS (af P M.toNat mod) L N.toNat).length c3])/\cR V.heap.size w' a2 mod.length mod/\dq V.heap.size w' a3 (aS (af P M.toNat mod) L N.toNat).length (aS (af P M.toNat mod) L N.toNat)/\SW V w'):=λhE V a1 k1 hV hM=>by
  obtain ⟨m,rfl,hm1,hm64,F,hR⟩:=aM hE;rw [Nb] at hM ⊢;have hmn : mn<=8:=by have:=ke (aG hE).1;rw [<- hmod.len];exact this
  have hRd : bp (af P M.toNat mod).El m (aS (af P M.toNat mod) L m):=by
   obtain ⟨N',e,_,_,_,hR'⟩:=aM (gY hE).1;obtain rfl : m=N':=by omega
   exact hR'
  have h:=pj P M am mn cm mod m a1 (aS (af P M.toNat mod) L m).length k1 (aS (af P M.toNat mod) L m) V (hmod.ah hV) hM (aG hE).1 hRd (by omega) (by have h6:=Ay hE;omega) (by omega);unfold pW at h;rw [rE hE] at h;exact h
 have HFin : Hid (∀a2 c2 a3 c3 w',aF P M mod N L=0->SW w w'->Ints w' a2 mod.length mod->br w' a3 (aS (af P M.toNat mod) L N.toNat).length (aS (af P M.toNat mod) L N.toNat) ->
   gr P M mod N L w (.returned (.tuple #[.agg #[.int .i64 P,.int .i64 M,.slice a2 mod.length c2,.int .i64 N,.slice a3 (aS (af P M.toNat mod) L N.toNat).length c3],.int .i64 0])) w'):=λa2 c2 a3 c3 w' hE hb h1 h2=>⟨hb,.inr ⟨hE,a2,c2,a3,c3,rfl,h1,h2⟩⟩
 have HNo : Hid (∀w',aF P M mod N L ≠ 0->SW w w'->gr P M mod N L w (.returned (.tuple #[.agg #[.int .i64 0,.int .i64 0,.slice none 0 0,.int .i64 0,.slice none 0 0],.int .i64 (aF P M mod N L)])) w'):=λw' h hb=>⟨hb,.inl ⟨h,rfl⟩⟩
 generalize gr P M mod N L w=Post at *;generalize aF P M mod N L=ce at *;obtain ⟨q,hq⟩ : ∃q,(aS (af P M.toNat mod) L N.toNat).length=q:=⟨_,rfl⟩
 rw [hq] at HPa HMk HFin;clear hq;generalize aS (af P M.toNat mod) L N.toNat=D at *;have hHm:=Z5 hmod;clear hmod hi hHm;go_enter func45,ntmps45;go_wp2_with fail;obtain ⟨W,hW⟩ : ∃W : World,W=(w.alloc (.cells #[.int .i64 P,.int .i64 M,.slice am mn cm,.int .i64 N,.slice a n c] 27)).alloc (.cells #[.int .i64 0,.int .i64 0,.slice none 0 0,.int .i64 0,.slice none 0 0] 27):=⟨_,rfl⟩
 rw [<- hW];have hbW : SW w W:=by rw [hW];exact bN _ _ _
 have hsW : W.heap.size=w.heap.size+2:=by rw [hW];simp
 have x0 : aN W w.heap.size [.int .i64 P,.int .i64 M,.slice am mn cm,.int .i64 N,.slice a n c]:=by rw [hW];exact (R9 _ _ _ rfl).alloc _
 have z0 : aN W (w.heap.size+1) [.int .i64 0,.int .i64 0,.slice none 0 0,.int .i64 0,.slice none 0 0]:=by rw [hW];exact R9 _ _ _ (by simp)
 clear hW;have hS : ∀V,SW W V->V.cell? ⟨w.heap.size,0,none⟩=some (.int .i64 P)/\V.cell? ⟨w.heap.size,1,none⟩=some (.int .i64 M)/\V.cell? ⟨w.heap.size,2,none⟩=some (.slice am mn cm)/\V.cell? ⟨w.heap.size,3,none⟩=some (.int .i64 N)/\V.cell? ⟨w.heap.size,4,none⟩=some (.slice a n c) /\
   aN V (w.heap.size+1) [.int .i64 0,.int .i64 0,.slice none 0 0,.int .i64 0,.slice none 0 0]:=λV hV=>by have x1:=x0.ah hV;exact ⟨x1.cell 0 rfl,x1.cell 1 rfl,x1.cell 2 rfl,x1.cell 3 rfl,x1.cell 4 rfl,z0.ah hV⟩
 have HS:=Z5 hS;have HbW:=Z5 hbW;have HsW:=Z5 hsW;refine (HK.out W hbW).mono ?_;rintro e w1 ⟨rfl,hb1⟩;have hF1:=RZ hbW hb1;have hs1 : w.heap.size+2<=w1.heap.size:=by rw [<- hsW];exact hb1.size
 have Hs1:=Z5 hs1;clear hS x0 z0 hbW hsW hs1;have HS5 : Hid (∀(V : World) (v0 v1 v2 v3 v4 : Value),SW w V->SW w (((((V.setCell ⟨w.heap.size+1,0,none⟩ v0).setCell ⟨w.heap.size+1,1,none⟩ v1).setCell ⟨w.heap.size+1,2,none⟩ v2).setCell ⟨w.heap.size+1,3,none⟩ v3).setCell ⟨w.heap.size+1,4,none⟩ v4)):=λV v0 v1 v2 v3 v4 h =>
  (((((h.setCell (p:=⟨w.heap.size+1,0,none⟩) (by simp) _).setCell (p:=⟨w.heap.size+1,1,none⟩) (by simp) _).setCell (p:=⟨w.heap.size+1,2,none⟩) (by simp) _).setCell (p:=⟨w.heap.size+1,3,none⟩) (by simp) _).setCell (p:=⟨w.heap.size+1,4,none⟩) (by simp) _)
 by_cases h0 : ce=0;rotate_left
 ·have d0 : (ce != 0)=true:=by simpa using h0
  obtain ⟨_,_,_,_,_,zz6⟩:=HS.out w1 hb1;have z0:=zz6.cell 0 rfl;have z1:=zz6.cell 1 rfl;have z2:=zz6.cell 2 rfl;have z3:=zz6.cell 3 rfl;have z4:=zz6.cell 4 rfl;have f0:=zz6.frozen 0;have f1:=zz6.frozen 1;have f2:=zz6.frozen 2;have f3:=zz6.frozen 3;have f4:=zz6.frozen 4;have HF:=Z5 (HNo.out _ h0 (HS5.out w1 (.int .i64 0) (.int .i64 0) (.slice none 0 0) (.int .i64 0) (.slice none 0 0) hF1));clear h0 zz6;go_wp2_with fail;exact bodyPost_ret (v:=.tuple #[.agg #[.int .i64 0,.int .i64 0,.slice none 0 0,.int .i64 0,.slice none 0 0],.int .i64 ce]) (by simp [results,results45,go_sem,z0,z1,z2,z3,z4]) rfl HF.out
 have d0 : (ce != 0)=false:=by simp [h0]
 have HPa1:=Z5 (HPa.out h0);have HMk1:=Z5 (HMk.out h0);have HSet : Hid (∀(V : World) (a2 : OA) (c2 : Nat) (a3 : OA) (c3 : Nat),SW w1 V->cR w1.heap.size V a2 mod.length mod->dq w1.heap.size V a3 q D->Post (.returned (.tuple #[.agg #[.int .i64 P,.int .i64 M,.slice a2 mod.length c2,.int .i64 N,.slice a3 q c3],.int .i64 0])) (((((V.setCell ⟨w.heap.size+1,0,none⟩ (.int .i64 P)).setCell ⟨w.heap.size+1,1,none⟩ (.int .i64 M)).setCell ⟨w.heap.size+1,2,none⟩ (.slice a2 mod.length c2)).setCell ⟨w.heap.size+1,3,none⟩ (.int .i64 N)).setCell ⟨w.heap.size+1,4,none⟩ (.slice a3 q c3))):=λV a2 c2 a3 c3 hV hN hM=>by
  have h1:=Hs1.out;refine HFin.out a2 c2 a3 c3 _ h0 (HS5.out V _ _ _ _ _ (RZ hF1 hV)) ?_ ?_
  ·exact (((((hN.setCell (p:=⟨w.heap.size+1,0,none⟩) (by simp;omega) _).setCell (p:=⟨w.heap.size+1,1,none⟩) (by simp;omega) _).setCell (p:=⟨w.heap.size+1,2,none⟩) (by simp;omega) _).setCell (p:=⟨w.heap.size+1,3,none⟩) (by simp;omega) _).setCell (p:=⟨w.heap.size+1,4,none⟩) (by simp;omega) _).ints
  ·exact (((((hM.setCell (p:=⟨w.heap.size+1,0,none⟩) (by simp;omega) _).setCell (p:=⟨w.heap.size+1,1,none⟩) (by simp;omega) _).setCell (p:=⟨w.heap.size+1,2,none⟩) (by simp;omega) _).setCell (p:=⟨w.heap.size+1,3,none⟩) (by simp;omega) _).setCell (p:=⟨w.heap.size+1,4,none⟩) (by simp;omega) _).jt
 obtain ⟨c0,c1,c2,c3,c4,_⟩:=HS.out w1 hb1;clear h0 HPa HMk HFin HNo HK;go_upto_region 4 with fail;go_region_law ((first
  | (go_simp;go_at_call 99;((with_reducible refine (HPa1.out _ (by first | exact hF1.drew | exact hF1)).mono ?_);rintro e w3 ⟨a3,k3,rfl,hM3,hb3⟩;have hb3w : SW w1 w3:=(by first | exact RZ (Nc _ _).drew hb3 | exact hb3);obtain ⟨g0,g1,g2,g3,g4,_⟩:=HS.out w3 (RZ hb1 hb3w)))
  | (go_simp;go_at_call 72;((with_reducible refine (HMk1.out _ a3 k3 (by first | exact RZ hF1 hb3w | exact (RZ hF1 hb3w).drew) (by first | exact hM3 | exact hM3.ah (Nc _ _).drew)).mono ?_);rintro e w5 ⟨a5,k5,a6,k6,rfl,hN5,hN6,hb5⟩;have hb5w : SW w1 w5:=(by first | exact RZ hb3w hb5 | exact RZ hb3w.drew hb5);have HFi:=Z5 (HSet.out w5 a5 k5 a6 k6 hb5w (by first | exact hN5.mono hb3w.size | exact hN5.mono hb3w.drew.size) (by first | exact hN6.mono hb3w.size | exact hN6.mono hb3w.drew.size));obtain ⟨_,_,_,_,_,zz6⟩:=HS.out w5 (RZ hb1 hb5w);have z0:=zz6.cell 0 rfl;have z1:=zz6.cell 1 rfl;have z2:=zz6.cell 2 rfl;have z3:=zz6.cell 3 rfl;have z4:=zz6.cell 4 rfl;have f0:=zz6.frozen 0;have f1:=zz6.frozen 1;have f2:=zz6.frozen 2;have f3:=zz6.frozen 3;have f4:=zz6.frozen 4;clear zz6 hN5 hN6))))
 all_goals (
  go_wp2_with fail
  exact bodyPost_ret (v:=.tuple #[.agg #[.int .i64 P,.int .i64 M,.slice a5 mod.length k5,.int .i64 N,.slice a6 q k6],.int .i64 0]) (by simp [results,results45,go_sem,z0,z1,z2,z3,z4]) rfl HFi.out)
section
variable {O : aL} {El : Int->Prop} {m : Nat} {R : ZZ} {Q : Lz}
end
section
variable {P M : Int} {mod : Lz} {m : Nat} {L : ZZ}
end
section
open Go.RowKit
end
end Go.Proofs.YthglbncgemdcbaaGreat
