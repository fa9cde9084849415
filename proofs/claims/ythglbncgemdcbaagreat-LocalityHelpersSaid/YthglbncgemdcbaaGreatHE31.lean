import Derived.Test.YthglbncgemdcbaaGreatHE28
import Derived.Test.YthglbncgemdcbaaGreatHE25
namespace Go.Proofs.YthglbncgemdcbaaGreat
set_option linter.all false
set_option maxRecDepth 100000
set_option maxHeartbeats 8000000
open Go.RowKit Go.Proofs.Tryz
def yJ (l : LI) : Bool:=l.all λy=>y == 0
theorem EJ (l : LI) : l.any (λy=>y != 0) = !(yJ l):=by
 unfold yJ;induction l with
 | nil=>rfl
 | cons x l ih =>
  rw [List.any_cons,Lf,ih,Bool.not_and];rfl
theorem Bz (x : Int) (w : World) : Calls prog 265 #[.int .i64 x] w λe w'=>e = .returned (.bool (x != 0))/\w=w':=by go_enter func265,ntmps265;go_wp2;go_ret;exact ⟨rfl,rfl⟩
theorem wq (p : Int->Bool) (a : OA) (n c : Nat) (l : LI) (w : World) (hi : Ints w a n l) (hf : ∀k,k<n->Calls prog 265 #[.int .i64 (nth l k)] w λe w'=>e = .returned (.bool (p (nth l k)))/\w=w') :
  Calls prog 111 #[.slice a n c,.func (.func 265) #[] #[]] w λe w'=>∃z : Int,e = .returned (.int .i64 z)/\(0<=z ↔ l.any p=true)/\w=w':=by
 have hpl:=hi.pl;have hmax:=hi.max;have HF:=Z5 hf;have Hl:=Z5 hi.len;unfold maxLen at hmax;clear hf;go_enter func111,ntmps111;go_wp2_with fail;go_loop [8] (λiv=>∃k : Nat,k<=n/\iv = .int .i64 k/\Hid (∀j,j<k->p (nth l j)=false)) (λiv=>n - (intOf iv).toNat);case atStart=>exact ⟨0,G0 _,rfl,λj hj=>by omega⟩
 case round =>
  obtain ⟨k,hk,rfl,hno⟩:=hrel
  by_cases hlt : k<n
  ·have ck:=hi.cell k hlt
   have hfk:=HF.out k hlt
   obtain ⟨z,hz⟩ : ∃z,p (nth l k)=z:=⟨_,rfl⟩
   rw [hz] at hfk
   have Hk:=Z5 hfk
   cases z
   ·have Hn : Hid (∀j,j<k+1->p (nth l j)=false):=λj hj=>by
     by_cases e : j=k
     ·subst e;exact hz
     ·exact hno.out j (by omega)
    clear hz hfk hno
    go_wp2_with fail
    refine Hk.out.mono ?_
    rintro e w' ⟨rfl,rfl⟩
    go_wp2_with fail
    go_round
    case rel=>exact ⟨k+1,by omega,by go_num,Hn.out⟩
    case measure=>simp [intOf] <;> omega
   ·have Hy : Hid (l.any p=true):=by show _=_;rw [JV];exact ⟨nth l k,aH (by rw [Hl.out];exact hlt),hz⟩
    clear hz hfk hno
    go_wp2_with fail
    refine Hk.out.mono ?_
    rintro e w' ⟨rfl,rfl⟩
    go_wp2_with fail
    go_ret
    exact ⟨k,rfl,⟨λ_=>by first | exact Hy.out | exact List.any_eq_true.1 Hy.out,λ_=>JG _⟩,rfl⟩
  ·obtain rfl : k=n:=by omega
   have Hy : Hid (l.any p=false):=by show _=_;rw [J5];intro x hx;obtain ⟨j,hj,rfl⟩:=List.mem_iff_getElem.1 hx;have:=hno.out j (by rw [<- Hl.out];exact hj);rw [aj hj] at this;rw [this];decide
   go_wp2_with fail
   go_ret
   exact ⟨-1,rfl,⟨λh=>absurd h (by omega),λh=>by have h2 : l.any p=true:=(by first | exact h | exact List.any_eq_true.2 h);rw [Hy.out] at h2;exact absurd h2 (by decide)⟩,rfl⟩
theorem pD (p : Int->Bool) (a : OA) (n c : Nat) (l : LI) (w : World) (hi : Ints w a n l) (hf : ∀k,k<n->Calls prog 265 #[.int .i64 (nth l k)] w λe w'=>e = .returned (.bool (p (nth l k)))/\w=w') :
  Calls prog 53 #[.slice a n c,.func (.func 265) #[] #[]] w λe w'=>e = .returned (.bool (l.any p))/\w=w':=by
 have Hc:=Z5 (wq p a n c l w hi hf);clear hf;go_enter func53,ntmps53;go_wp2_with fail;refine Hc.out.mono ?_;rintro e w' ⟨z,rfl,hz,rfl⟩;by_cases h0 : 0<=z
 ·have Hz : Hid (l.any p=true):=hz.1 h0;have h0' : decide (0<=z)=true:=by simpa using h0
  clear hz h0;go_wp2_with fail;go_ret;exact ⟨aR Hz.out.symm,rfl⟩
 ·have Hz : Hid (l.any p=false):=by
   show _=_;cases h : l.any p
   ·rfl
   ·exact absurd (hz.2 h) h0
  have h0' : decide (0<=z)=false:=by simpa using h0
  clear hz h0;go_wp2_with fail;go_ret;exact ⟨aR Hz.out.symm,rfl⟩
theorem AY (a : OA) (n c : Nat) (l : LI) (w : World) (hi : Ints w a n l) :
  Calls prog 243 #[.slice a n c] w λe w'=>e = .returned (.bool (yJ l))/\w=w':=by
 have hcc:=pD (λy=>y != 0) a n c l w hi λk hk=>Bz (nth l k) w;rw [EJ] at hcc;obtain ⟨z,hz⟩ : ∃z,yJ l=z:=⟨_,rfl⟩
 rw [hz] at hcc ⊢;have Hc:=Z5 hcc;clear hcc hz;go_enter func243,ntmps243;go_wp2_with fail;refine Hc.out.mono ?_;rintro e w' ⟨rfl,rfl⟩;cases z
 ·go_wp2_with fail;go_ret;exact ⟨rfl,rfl⟩
 ·go_wp2_with fail;go_ret;exact ⟨rfl,rfl⟩
theorem uz {w : World} {b : Nat} {G : bX} (m : Nat) (a : OA) (n c : Nat) (R : Ll) (ap : OA) (cp : Nat) (Pv : LI) (ax : OA) (cx : Nat) (x : LI)
  (h : dz w b G) (hi : bC w a n R) (hp : Ints w ap n Pv) (hx : Ints w ax m x) (hOk : BS.Ok G.El m ⟨R,Pv⟩) (hxe : Vc G.El m x) (hn : n<=1000000) (hm : m<=1000000) :
  Calls prog 192 #[.agg #[.pointer (some ⟨b,0,none⟩),.int .i64 m,.slice a n c,.slice ap n cp],.slice ax m cx] w
   λe w'=>e = .returned (.bool (yJ (redTo G.ops R Pv x n)))/\Mv w w':=by
 obtain ⟨z,hz⟩ : ∃z,yJ (redTo G.ops R Pv x n)=z:=⟨_,rfl⟩
 rw [hz];have HZ:=Z5 hz;clear hz;go_enter func192,ntmps192;go_wp2_with fail;obtain ⟨W,hW⟩ : ∃W : World,W=w.alloc (.cells #[.pointer (some ⟨b,0,none⟩),.int .i64 m,.slice a n c,.slice ap n cp] 210):=⟨_,rfl⟩
 rw [<- hW];have hbW : Mv w W:=by rw [hW];exact an _ _
 clear hW;refine (yE m a n c R ap cp Pv ax cx x (h.af hbW) (hi.af hbW) (hp.af hbW) (hx.af hbW) hOk hxe hn hm).mono ?_;rintro e w1 ⟨a1,c1,v2,rfl,hI1,hb1⟩;have hzz:=AY a1 m c1 _ w1 hI1;rw [HZ.out] at hzz;have Hz:=Z5 hzz;have hF:=LY hbW hb1;clear hI1 hOk hxe hzz;go_wp2_with fail;refine Hz.out.mono ?_;rintro e w2 ⟨rfl,rfl⟩;go_wp2_with fail;go_ret;exact ⟨rfl,hF⟩
def hasB (P M : Int) (mod : LI) (m : Nat) (L : Ll) (x : LI) : Bool:=yJ (redTo (ah P M.toNat mod).ops L (bh (ah P M.toNat mod) L m) x L.length)
theorem rL (P M : Int) (am : OA) (mn cm : Nat) (mod : LI) (m : Nat) (a : OA) (n c : Nat) (L : Ll) (ax : OA) (cx : Nat) (x : LI) (w : World) (hmod : Ints w am mn mod) (hi : bC w a n L) (hx : Ints w ax m x)
  (hE : aG P M mod m L=0) (hxe : Vc (ah P M.toNat mod).El m x) :
  Calls prog 135 #[.agg #[.int .i64 P,.int .i64 M,.slice am mn cm],.agg #[.int .i64 m,.slice a n c],.slice ax m cx] w λe w'=>e = .returned (.tuple #[.bool (hasB P M mod m L x),.int .i64 0])/\Mv w w':=by
 obtain ⟨z,hz⟩ : ∃z,hasB P M mod m L x=z:=⟨_,rfl⟩
 rw [hz];unfold hasB at hz;have hil:=hi.len;obtain ⟨m',em,hm1,hm64,F,hR⟩:=bf hE;obtain rfl : m=m':=by omega
 have hn : n<=256:=by rw [<- hil];exact (dT hE).choose_spec.2.2.2.1
 obtain ⟨h5,h6⟩:=fA (aQ hE).2.2.2;rw [GW] at h6;have hcan : bz (ah P M.toNat mod).ops m L=L:=h6;have hpiv:=(dI F hR).1;have hlen:=dw F hR;rw [hcan] at hpiv hlen;have hOk : BS.Ok (ah P M.toNat mod).El m ⟨L,bh (ah P M.toNat mod) L m⟩:=(ue hR hpiv hlen).ok;have hpl : (bh (ah P M.toNat mod) L m).length=n:=by rw [<- hil];exact hlen.symm
 rw [hil] at hz;have H0:=Z5 hz;have HOk:=Z5 hOk;have Hsp:=Z5 (aQ hE).2.2.2;have Hxe:=Z5 hxe;clear hz hOk h5 h6 hcan hpiv hlen em F hR hE hil hxe;go_enter func135,ntmps135;go_wp2_with fail;obtain ⟨W,hW⟩ : ∃W : World,W=(w.alloc (.cells #[.int .i64 P,.int .i64 M,.slice am mn cm] 24)).alloc (.cells #[.int .i64 m,.slice a n c] 94):=⟨_,rfl⟩
 rw [<- hW];have hbW : Mv w W:=by rw [hW];exact du _ _ _
 clear hW;refine (iY P M am mn cm mod m a n c L W (hmod.af hbW) (hi.af hbW)).mono ?_;rintro e w1 ⟨hb1,⟨he,_⟩ | ⟨_,m',b,hm',ap,cp,rfl,hG,hbl,hP⟩⟩
 ·exact absurd Hsp.out he
 obtain rfl : m=m':=by omega
 have hbw1:=LY hbW hb1;have hp1:=hP.ints;rw [hpl] at hp1 ⊢;obtain ⟨Pv,hPv⟩ : ∃Pv,bh (ah P M.toNat mod) L m=Pv:=⟨_,rfl⟩
 obtain ⟨G,hGG⟩ : ∃G,ah P M.toNat mod=G:=⟨_,rfl⟩
 rw [hGG] at hPv hG H0 HOk Hxe;rw [hPv] at H0 HOk;have hp2 : Ints w1 ap n Pv:=by rw [hGG,hPv] at hp1;exact hp1
 have hb2:=an w1 (.cells #[.pointer (some ⟨b,0,none⟩),.int .i64 m,.slice a n c,.slice ap n cp] 210);have hbw2:=LY hbw1 hb2;have HWd:=Z5 (ui m a n c ap n cp ax cx x (hG.gf.af hb2) (hx.af hbw2) Hxe.out);have HHs : Hid (∀V,Mv w1 V->Calls prog 192 #[.agg #[.pointer (some ⟨b,0,none⟩),.int .i64 m,.slice a n c,.slice ap n cp],.slice ax m cx] V λe w'=>e = .returned (.bool z)/\Mv V w'):=λV hV=>by rw [<- H0.out];exact uz m a n c L ap cp Pv ax cx x (hG.gf.af hV) (hi.af (LY hbw1 hV)) (hp2.af hV) (hx.af (LY hbw1 hV)) HOk.out Hxe.out (by omega) (by omega)
 have k0:=LZ w1 [.pointer (some ⟨b,0,none⟩),.int .i64 m,.slice a n c,.slice ap n cp] 210 rfl;have HX:=Z5 k0;clear hpl hPv hGG hG hbl hP hp1 hp2 hm' k0;go_wp2_with fail;refine HWd.out.mono ?_;rintro e w3 ⟨rfl,hb3⟩;have x3:=HX.out.af hb3;have k0:=x3.cell 0 rfl;have k1:=x3.cell 1 rfl;have k2:=x3.cell 2 rfl;have k3:=x3.cell 3 rfl;have Hh:=Z5 (HHs.out w3 (LY hb2 hb3));have hbw3:=LY hbw2 hb3;clear HWd HHs x3;go_wp2_with fail;refine Hh.out.mono ?_;rintro e w4 ⟨rfl,hb4⟩;have hF:=LY hbw3 hb4;go_wp2_with fail;go_ret2;exact ⟨rfl,hF⟩
theorem ry (P M : Int) (am : OA) (mn cm : Nat) (mod : LI) (N : Int) (a : OA) (n c : Nat) (L : Ll) (ax : OA) (nx cx : Nat) (x : LI) (w : World) (hmod : Ints w am mn mod) (hi : bC w a n L) (hx : Ints w ax nx x) :
  Calls prog 134 #[.agg #[.int .i64 P,.int .i64 M,.slice am mn cm,.int .i64 N,.slice a n c],.slice ax nx cx] w λe w'=>e = .returned (.int .i64 (kb P M mod N L x))/\Mv w w':=by
 go_enter func134,ntmps134;go_wp2_with fail;obtain ⟨W,hW⟩ : ∃W : World,W=w.alloc (.cells #[.int .i64 P,.int .i64 M,.slice am mn cm,.int .i64 N,.slice a n c] 27):=⟨_,rfl⟩
 rw [<- hW];have hbW : Mv w W:=by rw [hW];exact an _ _
 have x0 : aO W w.heap.size [.int .i64 P,.int .i64 M,.slice am mn cm,.int .i64 N,.slice a n c]:=by rw [hW];exact LZ _ _ _ rfl
 clear hW;refine (b8 P M am mn cm mod N a n c L W (hmod.af hbW) (hi.af hbW)).mono ?_;rintro e w1 ⟨rfl,hb1⟩;have hbw1:=LY hbW hb1;have x1:=x0.af hb1;have c0:=x1.cell 0 rfl;have c1:=x1.cell 1 rfl;have c2:=x1.cell 2 rfl;have c3:=x1.cell 3 rfl;by_cases hE : aG P M mod N L=0;rotate_left
 ·have hE2 : (aG P M mod N L != 0)=true:=by simpa using hE
  have HR : Hid (kb P M mod N L x=aG P M mod N L):=GU hE;clear hE x0 x1;generalize aG P M mod N L=er at *;go_wp2_with fail;go_ret;exact ⟨aK HR.out.symm,hbw1⟩
 obtain ⟨m,rfl,_⟩:=dT hE;have hq : ((ah P M.toNat mod).q : Int)=aI P M:=by obtain ⟨m1,e1,_,h1,_⟩:=fK (aQ hE).1;rw [show M.toNat=m1 by omega];exact h1
 have HR : Hid (kb P M mod m L x=kd (ah P M.toNat mod).q x m):=by show _=_;rw [kb,GV hE,hq,GW]
 have HL:=Z5 (rz P M am mn cm mod ax nx cx x m w1 (hmod.af hbw1) (hx.af hbw1) (aQ hE).1);rw [hE];clear hE x0 x1 hq;go_wp2_with fail;refine HL.out.mono ?_;rintro e w2 ⟨rfl,hb2⟩;have hF:=LY hbw1 hb2;go_wp2_with fail;go_ret;exact ⟨aK HR.out.symm,hF⟩
theorem sS {P M : Int} {mod : LI} {N : Int} {L : Ll} {x : LI} (h : kb P M mod N L x=0) : aG P M mod N L=0/\Vc (ah P M.toNat mod).El N.toNat x:=by
 unfold kb at h;by_cases hE : aG P M mod N L=0
 ·rw [GV hE] at h;have hq : ((ah P M.toNat mod).q : Int)=aI P M:=by obtain ⟨m1,e1,_,h1,_⟩:=fK (aQ hE).1;rw [show M.toNat=m1 by omega];exact h1
  refine ⟨hE,?_⟩;unfold kd at h;by_cases hl : x.length=N.toNat
  ·rw [GV hl] at h;refine ⟨hl,λy hy=>?_⟩;unfold iU at h;by_cases he : dR (aI P M) x=true
   ·unfold dR at he;have h1:=List.all_eq_true.1 he y hy;unfold gE at h1;simp at h1;exact ⟨h1.1,by have:=h1.2;omega⟩
   ·rw [GU he] at h;exact absurd h (by decide)
  ·rw [GU hl] at h;exact absurd h (by decide)
 ·rw [GU hE] at h;exact absurd h hE
def rK (P M : Int) (mod : LI) (N : Int) (L : Ll) (x : LI) : Bool:=if kb P M mod N L x=0 then hasB P M mod N.toNat L x else false
theorem tD (P M : Int) (am : OA) (mn cm : Nat) (mod : LI) (N : Int) (a : OA) (n c : Nat) (L : Ll) (ax : OA) (nx cx : Nat) (x : LI) (w : World) (hmod : Ints w am mn mod) (hi : bC w a n L) (hx : Ints w ax nx x) :
  Calls prog 81 #[.agg #[.int .i64 P,.int .i64 M,.slice am mn cm,.int .i64 N,.slice a n c],.slice ax nx cx] w λe w'=>e = .returned (.tuple #[.bool (rK P M mod N L x),.int .i64 (kb P M mod N L x)])/\Mv w w':=by
 have HSp : Hid (kb P M mod N L x=0->∀V,Mv w V->Calls prog 135 #[.agg #[.int .i64 P,.int .i64 M,.slice am mn cm],.agg #[.int .i64 N,.slice a n c],.slice ax nx cx] V λe w'=>e = .returned (.tuple #[.bool (rK P M mod N L x),.int .i64 0])/\Mv V w'):=λh V hV=>by
  obtain ⟨hE,hxe⟩:=sS h;rw [rK,GV h];obtain ⟨m,rfl,_⟩:=dT hE;rw [GW] at hxe ⊢;have e1 : nx=m:=by rw [<- hx.len];exact hxe.1
  subst e1;exact rL P M am mn cm mod nx a n c L ax cx x V (hmod.af hV) (hi.af hV) (hx.af hV) hE hxe
 have HWd : Hid (∀V,Mv w V->Calls prog 134 #[.agg #[.int .i64 P,.int .i64 M,.slice am mn cm,.int .i64 N,.slice a n c],.slice ax nx cx] V λe w'=>e = .returned (.int .i64 (kb P M mod N L x))/\Mv V w'):=λV hV =>
  ry P M am mn cm mod N a n c L ax nx cx x V (hmod.af hV) (hi.af hV) (hx.af hV)
 have HN : Hid (kb P M mod N L x ≠ 0->rK P M mod N L x=false):=λh=>by rw [rK,GU h]
 clear hmod hi hx;obtain ⟨er,her⟩ : ∃er,kb P M mod N L x=er:=⟨_,rfl⟩
 obtain ⟨z,hz⟩ : ∃z,rK P M mod N L x=z:=⟨_,rfl⟩
 rw [her] at HWd HN HSp ⊢;rw [hz] at HN HSp ⊢;clear her hz;go_enter func81,ntmps81;go_wp2_with fail;obtain ⟨W,hW⟩ : ∃W : World,W=w.alloc (.cells #[.int .i64 P,.int .i64 M,.slice am mn cm,.int .i64 N,.slice a n c] 27):=⟨_,rfl⟩
 rw [<- hW];have hbW : Mv w W:=by rw [hW];exact an _ _
 have x0 : aO W w.heap.size [.int .i64 P,.int .i64 M,.slice am mn cm,.int .i64 N,.slice a n c]:=by rw [hW];exact LZ _ _ _ rfl
 have HX:=Z5 x0;have HbW:=Z5 hbW;clear hW x0;refine (HWd.out W hbW).mono ?_;rintro e w1 ⟨rfl,hb1⟩;have hbw1:=LY HbW.out hb1;by_cases hE : er=0;rotate_left
 ·have hE2 : (er != 0)=true:=by simpa using hE
  have HN2:=Z5 (HN.out hE);clear hE;go_wp2_with fail;go_ret2;exact ⟨by rw [HN2.out];rfl,hbw1⟩
 subst hE;have HSp2:=Z5 (HSp.out rfl);have hS : ∀V,Mv w1 V->V.cell? ⟨w.heap.size,0,none⟩=some (.int .i64 P)/\V.cell? ⟨w.heap.size,1,none⟩=some (.int .i64 M)/\V.cell? ⟨w.heap.size,2,none⟩=some (.slice am mn cm)/\V.cell? ⟨w.heap.size,3,none⟩=some (.int .i64 N)/\V.cell? ⟨w.heap.size,4,none⟩=some (.slice a n c)/\Mv w1 V:=λV hV=>by have x1:=HX.out.af (LY hb1 hV);exact ⟨x1.cell 0 rfl,x1.cell 1 rfl,x1.cell 2 rfl,x1.cell 3 rfl,x1.cell 4 rfl,hV⟩
 have HS:=Z5 hS;have Hbw1:=Z5 hbw1;clear hS HWd hbW hb1 hbw1 HSp HN;go_wp2_with fail;go_region_held3 (λV=>V.cell? ⟨w.heap.size,0,none⟩=some (.int .i64 P)/\V.cell? ⟨w.heap.size,1,none⟩=some (.int .i64 M)/\V.cell? ⟨w.heap.size,2,none⟩=some (.slice am mn cm)/\V.cell? ⟨w.heap.size,3,none⟩=some (.int .i64 N)/\V.cell? ⟨w.heap.size,4,none⟩=some (.slice a n c)/\Mv w1 V)
  ((refine HS.out _ ?_;first | exact (GS _ _).drew | (go_split_ands;exact LY (by assumption) (by assumption))))
  (first
   | (go_at_call 91;((with_reducible refine (mL P M am mn cm N a n c _).mono ?_);rintro e w6 ⟨rfl,hb6⟩))
   | (go_at_call 135;((with_reducible refine (HSp2.out _ (LY Hbw1.out (by go_split_ands;assumption))).mono ?_);rintro e w8 ⟨rfl,hb8⟩)))
 all_goals (
  go_wp2_with fail
  go_ret2
  exact ⟨rfl,LY Hbw1.out (by go_split_ands;assumption)⟩)
theorem yL {w : World} {b : Nat} {G : bX} (q : Nat) (x : Int) (hp : w.cell? ⟨q,0,none⟩=some (.pointer (some ⟨b,0,none⟩))) (h : dz w b G) :
  Calls prog 54 #[.int .i64 x,.pointer (some ⟨q,0,none⟩)] w λe w'=>e = .returned (.bool (!(decide (0<=x) && decide (x<G.q))))/\w=w':=by
 go_enter func54,ntmps54;go_wp2_with fail;refine (F9 x h).mono ?_;rintro e w' ⟨rfl,rfl⟩;obtain ⟨z,hz⟩ : ∃z,(decide (0<=x) && decide (x<G.q))=z:=⟨_,rfl⟩
 have Hz:=Z5 hz;rw [hz];clear hz;cases z
 ·go_wp2_with fail;go_ret;exact ⟨aR (by rw [Hz.out];rfl),rfl⟩
 ·go_wp2_with fail;go_ret;exact ⟨aR (by rw [Hz.out];rfl),rfl⟩
theorem sV (p : Int->Bool) (q : Nat) (a : OA) (n c : Nat) (l : LI) (w : World) (hi : Ints w a n l) (hf : ∀k,k<n->Calls prog 54 #[.int .i64 (nth l k),.pointer (some ⟨q,0,none⟩)] w λe w'=>e = .returned (.bool (p (nth l k)))/\w=w') :
  Calls prog 111 #[.slice a n c,.func (.func 54) #[] #[.pointer (some ⟨q,0,none⟩)]] w λe w'=>∃z : Int,e = .returned (.int .i64 z)/\(0<=z ↔ l.any p=true)/\w=w':=by
 have hpl:=hi.pl;have hmax:=hi.max;have HF:=Z5 hf;have Hl:=Z5 hi.len;unfold maxLen at hmax;clear hf;go_enter func111,ntmps111;go_wp2_with fail;go_loop [8] (λiv=>∃k : Nat,k<=n/\iv = .int .i64 k/\Hid (∀j,j<k->p (nth l j)=false)) (λiv=>n - (intOf iv).toNat);case atStart=>exact ⟨0,G0 _,rfl,λj hj=>by omega⟩
 case round =>
  obtain ⟨k,hk,rfl,hno⟩:=hrel
  by_cases hlt : k<n
  ·have ck:=hi.cell k hlt
   have hfk:=HF.out k hlt
   obtain ⟨z,hz⟩ : ∃z,p (nth l k)=z:=⟨_,rfl⟩
   rw [hz] at hfk
   have Hk:=Z5 hfk
   cases z
   ·have Hn : Hid (∀j,j<k+1->p (nth l j)=false):=λj hj=>by
     by_cases e : j=k
     ·subst e;exact hz
     ·exact hno.out j (by omega)
    clear hz hfk hno
    go_wp2_with fail
    refine Hk.out.mono ?_
    rintro e w' ⟨rfl,rfl⟩
    go_wp2_with fail
    go_round
    case rel=>exact ⟨k+1,by omega,by go_num,Hn.out⟩
    case measure=>simp [intOf] <;> omega
   ·have Hy : Hid (l.any p=true):=by show _=_;rw [JV];exact ⟨nth l k,aH (by rw [Hl.out];exact hlt),hz⟩
    clear hz hfk hno
    go_wp2_with fail
    refine Hk.out.mono ?_
    rintro e w' ⟨rfl,rfl⟩
    go_wp2_with fail
    go_ret
    exact ⟨k,rfl,⟨λ_=>by first | exact Hy.out | exact List.any_eq_true.1 Hy.out,λ_=>JG _⟩,rfl⟩
  ·obtain rfl : k=n:=by omega
   have Hy : Hid (l.any p=false):=by show _=_;rw [J5];intro x hx;obtain ⟨j,hj,rfl⟩:=List.mem_iff_getElem.1 hx;have:=hno.out j (by rw [<- Hl.out];exact hj);rw [aj hj] at this;rw [this];decide
   go_wp2_with fail
   go_ret
   exact ⟨-1,rfl,⟨λh=>absurd h (by omega),λh=>by have h2 : l.any p=true:=(by first | exact h | exact List.any_eq_true.2 h);rw [Hy.out] at h2;exact absurd h2 (by decide)⟩,rfl⟩
theorem oz (p : Int->Bool) (q : Nat) (a : OA) (n c : Nat) (l : LI) (w : World) (hi : Ints w a n l) (hf : ∀k,k<n->Calls prog 54 #[.int .i64 (nth l k),.pointer (some ⟨q,0,none⟩)] w λe w'=>e = .returned (.bool (p (nth l k)))/\w=w') :
  Calls prog 53 #[.slice a n c,.func (.func 54) #[] #[.pointer (some ⟨q,0,none⟩)]] w λe w'=>e = .returned (.bool (l.any p))/\w=w':=by
 have Hc:=Z5 (sV p q a n c l w hi hf);clear hf;go_enter func53,ntmps53;go_wp2_with fail;refine Hc.out.mono ?_;rintro e w' ⟨z,rfl,hz,rfl⟩;by_cases h0 : 0<=z
 ·have Hz : Hid (l.any p=true):=hz.1 h0;have h0' : decide (0<=z)=true:=by simpa using h0
  clear hz h0;go_wp2_with fail;go_ret;exact ⟨aR Hz.out.symm,rfl⟩
 ·have Hz : Hid (l.any p=false):=by
   show _=_;cases h : l.any p
   ·rfl
   ·exact absurd (hz.2 h) h0
  have h0' : decide (0<=z)=false:=by simpa using h0
  clear hz h0;go_wp2_with fail;go_ret;exact ⟨aR Hz.out.symm,rfl⟩
def lu (P M : Int) (mod : LI) (N : Int) (L : Ll) (i : Int) (y : LI) : Int :=
 if ie P M mod N L i=0 then (if (y.length : Int) ≠ N then 4 else if dR (ah P M.toNat mod).q y=false then 2 else oD P M mod N.toNat L i) else ie P M mod N L i
def rB (P M : Int) (mod : LI) (N : Int) (L : Ll) (i : Int) (y : LI) : Int :=
 if lu P M mod N L i y=0 then repTo (ah P M.toNat mod).ops (dX P M mod N.toNat L i) y (bW P M mod N.toNat L i) (bW P M mod N.toNat L i).length else 0
theorem rY {P M : Int} {mod : LI} {N : Int} {L : Ll} {i : Int} (h : ie P M mod N L i=0) : aG P M mod N L=0/\0<=i/\i<N:=by
 unfold ie at h;split at h
 ·rename_i hE;split at h
  ·cases h
  ·exact ⟨hE,by omega,by omega⟩
 ·rename_i hE;exact absurd h hE
theorem me (P M : Int) (am : OA) (mn cm : Nat) (mod : LI) (N : Int) (a : OA) (n c : Nat) (L : Ll) (i : Int) (ay : OA) (ny cy : Nat) (y : LI) (w : World) (hmod : Ints w am mn mod) (hi : bC w a n L) (hy : Ints w ay ny y) :
  Calls prog 17 #[.agg #[.int .i64 P,.int .i64 M,.slice am mn cm,.int .i64 N,.slice a n c],.int .i64 i,.slice ay ny cy] w λe w'=>e = .returned (.tuple #[.int .i64 (rB P M mod N L i y),.int .i64 (lu P M mod N L i y)])/\Mv w w':=by
 have HP : Hid (∀V,Mv w V->Calls prog 47 #[.agg #[.int .i64 P,.int .i64 M,.slice am mn cm,.int .i64 N,.slice a n c],.int .i64 i] V λe w'=>e = .returned (.int .i64 (ie P M mod N L i))/\Mv V w'):=λV hV=>kE P M am mn cm mod N a n c L i V (hmod.af hV) (hi.af hV);have HH : Hid (ie P M mod N L i=0->∀V,Mv w V->Calls prog 48 #[.agg #[.int .i64 P,.int .i64 M,.slice am mn cm,.int .i64 N,.slice a n c],.int .i64 i] V (iN (oD P M mod N.toNat L i) (bW P M mod N.toNat L i) (gZ P M mod N.toNat L i) V)):=λh V hV=>by
  obtain ⟨hE,h0,h1⟩:=rY h;obtain ⟨m,rfl,_⟩:=bf hE;obtain ⟨j,rfl⟩ : ∃j : Nat,i=j:=⟨i.toNat,by omega⟩
  rw [GW];exact nM P M am mn cm mod m j a n c L V (hmod.af hV) (hi.af hV) hE (by omega)
 have HNw : Hid (ie P M mod N L i=0->∀V,Mv w V->Calls prog 52 #[.agg #[.int .i64 P,.int .i64 M,.slice am mn cm]] V λe w'=>∃b,e = .returned (.tuple #[.pointer (some ⟨b,0,none⟩),.int .i64 0])/\dz w' b (ah P M.toNat mod)/\Mv V w'):=λh V hV=>by
  obtain ⟨hE,_,_⟩:=rY h;refine (dn P M am mn cm mod V (hmod.af hV)).mono ?_;rintro e w' (⟨h1,_⟩ | ⟨_,b,h2,h3,_,h4⟩)
  ·rw [(aQ hE).1] at h1;cases h1
  ·exact ⟨b,h2,h3.gf,h4⟩
 have HS : Hid (∀k,k<(bW P M mod N.toNat L i).length->0<=nth (bW P M mod N.toNat L i) k/\nth (bW P M mod N.toNat L i) k<N.toNat):=λk hk=>by have h:=aH hk;rw [bW] at h;exact oR h
 have HC : Hid (∀k,k<(bW P M mod N.toNat L i).length->nth (gZ P M mod N.toNat L i) k=(ah P M.toNat mod).neg (nth (dX P M mod N.toNat L i) (nth (bW P M mod N.toNat L i) k).toNat)):=λk hk=>by rw [gZ];rw [aj (by simpa using hk),IF,aj hk]
 have HE : Hid (lu P M mod N L i y=if ie P M mod N L i=0 then (if (ny : Int) ≠ N then 4 else if dR (ah P M.toNat mod).q y=false then 2 else oD P M mod N.toNat L i) else ie P M mod N L i):=by show _=_;rw [lu,hy.len]
 have HV : Hid (rB P M mod N L i y=if lu P M mod N L i y=0 then repTo (ah P M.toNat mod).ops (dX P M mod N.toNat L i) y (bW P M mod N.toNat L i) (bW P M mod N.toNat L i).length else 0):=rfl;have HY : Hid (y.length=ny):=hy.len;have HEl : Hid (dR (ah P M.toNat mod).q y=true->(ah P M.toNat mod).va y):=λh=>po h;have HI : Hid (Ints w ay ny y):=hy;generalize rB P M mod N L i y=v at *;generalize lu P M mod N L i y=er at *;generalize ie P M mod N L i=pe at *;generalize oD P M mod N.toNat L i=he at *;generalize gZ P M mod N.toNat L i=C at *;generalize bW P M mod N.toNat L i=S at *;generalize dX P M mod N.toNat L i=d at *;generalize ah P M.toNat mod=G at *;clear hmod hi hy;go_enter func17,ntmps17;go_upto_region 1 with fail;obtain ⟨W,hW⟩ : ∃W : World,W=w.alloc (.cells #[.int .i64 P,.int .i64 M,.slice am mn cm,.int .i64 N,.slice a n c] 27):=⟨_,rfl⟩
 rw [<- hW];have hbW : Mv w W:=by rw [hW];exact an _ _
 have x0 : aO W w.heap.size [.int .i64 P,.int .i64 M,.slice am mn cm,.int .i64 N,.slice a n c]:=by rw [hW];exact LZ _ _ _ rfl
 have HX:=Z5 x0;have HbW:=Z5 hbW;have c0:=x0.cell 0 rfl;have c1:=x0.cell 1 rfl;have c2:=x0.cell 2 rfl;have c3:=x0.cell 3 rfl;have c4:=x0.cell 4 rfl;clear hW x0 hbW;go_wp2_with fail;refine (HP.out W HbW.out).mono ?_;rintro e w1 ⟨rfl,hb1⟩;have hF1:=LY HbW.out hb1;clear c0 c1 c2 c3 c4;by_cases h0 : pe=0;rotate_left
 ·have d0 : (pe != 0)=true:=by simpa using h0
  have HR : Hid (er=pe):=by show _=_;rw [HE.out,GU h0]
  have HR2 : Hid (v=0):=by show _=_;rw [HV.out,GU (by rw [HR.out];exact h0)]
  clear h0 HH HNw;go_wp2_with fail;go_ret2;exact ⟨by rw [HR.out,HR2.out] <;> rfl,hF1⟩
 have d0 : (pe != 0)=false:=by simp [h0]
 have HR0 : Hid (er=if (ny : Int) ≠ N then 4 else if dR G.q y=false then 2 else he):=by show _=_;rw [HE.out,GV h0]
 have HH1:=Z5 (HH.out h0);have HN1:=Z5 (HNw.out h0);have y1:=HX.out.af hb1;have c0:=y1.cell 0 rfl;have c1:=y1.cell 1 rfl;have c2:=y1.cell 2 rfl;clear y1 h0 HH HNw HE HP;go_wp2_with fail;refine (HN1.out w1 hF1).mono ?_;rintro e w2 ⟨b,rfl,hG2,hb2⟩;have hF2:=LY hF1 hb2;clear c0 c1 c2;have hb3:=an w2 (.cells #[.pointer (some ⟨b,0,none⟩)] 79);have hc3:=bm w2 (.pointer (some ⟨b,0,none⟩)) 79;have hF3:=LY hF2 hb3;obtain ⟨U,hU⟩ : ∃U : World,U=w2.alloc (.cells #[.pointer (some ⟨b,0,none⟩)] 79):=⟨_,rfl⟩
 have hG3:=hG2.af hb3;rw [<- hU] at hb3 hc3 hF3 hG3;have x3:=(HX.out.af hb1).af (LY hb2 hb3);have c3:=x3.cell 3 rfl;have HCo:=Z5 (oz (λx=>!(decide (0<=x) && decide (x<G.q))) w2.heap.size ay ny cy y U (HI.out.af hF3) λk hk=>yL w2.heap.size (nth y k) hc3 hG3);rw [uS] at HCo;have hmf : ∀(fn : Fn) (first cap : Array Value) (w : World),(Instr.makeFunc fn first cap).run prog w = .ok (.func fn first cap) w:=λ_ _ _ _=>rfl;have HU:=Z5 hU;have HG3:=Z5 hG3;have Hc3:=Z5 hc3;have Hx3:=Z5 x3;clear x3 hG2 hG3;go_upto_region 7 with fail;rw [<- hU];clear hU;by_cases h1 : (ny : Int) ≠ N
 ·have HR : Hid (er=4):=by show _=_;rw [HR0.out,GV h1]
  have HR2 : Hid (v=0):=by show _=_;rw [HV.out,GU (by rw [HR.out];decide)]
  have d1 : ((ny : Int) != N)=true:=by simpa using h1
  clear h1;go_wp2_with fail;go_ret2;exact ⟨by rw [HR.out,HR2.out] <;> rfl,hF3⟩
 have HR1 : Hid (er=if dR G.q y=false then 2 else he):=by show _=_;rw [HR0.out,GU h1]
 obtain rfl : (ny : Int)=N:=Classical.not_not.1 h1;have d1 : ((ny : Int) != ny)=false:=by simp
 clear h1;obtain ⟨z,hz⟩ : ∃z,dR G.q y=z:=⟨_,rfl⟩
 rw [hz] at HCo HR1 HEl;clear hz;cases z
 ·have HR : Hid (er=2):=by show _=_;rw [HR1.out];rfl
  have HR2 : Hid (v=0):=by show _=_;rw [HV.out,GU (by rw [HR.out];decide)]
  go_wp2_with fail;refine HCo.out.mono ?_;rintro e w' ⟨rfl,rfl⟩;go_wp2_with fail;go_ret2;exact ⟨by rw [HR.out,HR2.out] <;> rfl,hF3⟩
 have HR : Hid (er=he):=by show _=_;rw [HR1.out];rfl
 have HYe : Hid (G.va y):=HEl.out rfl;have c0:=Hx3.out.cell 0 rfl;have c1:=Hx3.out.cell 1 rfl;have c2:=Hx3.out.cell 2 rfl;have c4:=Hx3.out.cell 4 rfl;go_wp2_with fail;refine HCo.out.mono ?_;rintro e w' ⟨rfl,rfl⟩;go_wp2_with fail;refine (HH1.out _ hF3).mono ?_;rintro e w4 ⟨hb4,⟨h1,rfl⟩ | ⟨h1,a2,k2,a3,k3,rfl,hI2,hI3⟩⟩
 ·have hF4:=LY hF3 hb4;have H1:=Z5 h1;have HR2 : Hid (v=0):=by show _=_;rw [HV.out,GU (by rw [HR.out];exact H1.out)]
  have d2 : (he != 0)=true:=by simpa using h1
  clear c0 c1 c2 c3 c4 h1;go_wp2_with fail;go_ret2;exact ⟨by rw [HR.out,HR2.out] <;> rfl,hF4⟩
 have hF4:=LY hF3 hb4;have HR2 : Hid (v=repTo G.ops d y S S.length):=by show _=_;rw [HV.out,GV (by rw [HR.out];exact h1)]
 have HR3 : Hid (er=0):=by show _=_;rw [HR.out];exact h1
 have hG4:=HG3.out.af hb4;have hc4:=ak hb4 Hc3.out;have HI2:=Z5 hI2;have HI3:=Z5 hI3;have HI4:=Z5 (HI.out.af hF4);have HG4:=Z5 hG4;have hmax2:=hI2.max;unfold maxLen at hmax2;have hp2:=hI2.pl;have hp3:=hI3.pl;have hpy:=(HI.out.af hF4).pl;obtain ⟨q,hq⟩ : ∃q,S.length=q:=⟨_,rfl⟩
 rw [hq] at HI2 HI3 hmax2 hp2 hp3 HS HC HR2 ⊢;clear c0 c1 c2 c3 c4 hI2 hI3 hG4 hq h1;go_wp2_with fail;go_loopw [13,54] (λvv iv wr=>∃k : Nat,k<=q/\iv = .int .i64 k/\vv = .int .i64 (repTo G.ops d y S k)/\aY w4 wr) (λ_ iv _=>q - (intOf iv).toNat);case atStart=>exact ⟨0,G0 _,rfl,rfl,L7 _⟩
 case round =>
  obtain ⟨k,hk,rfl,rfl,hdr⟩:=hrel
  generalize wr=V at *
  by_cases hlt : k<q
  ·have hbV:=hdr.below
   have cS:=(HI2.out.af hbV).cell k hlt
   have cC:=(HI3.out.af hbV).cell k hlt
   obtain ⟨hs0,hs1⟩:=HS.out k hlt
   obtain ⟨j,hj⟩ : ∃j : Nat,nth S k=j:=⟨(nth S k).toNat,by omega⟩
   have hjn : j<ny:=by omega
   have Hk : Hid (repTo G.ops d y S (k+1)=G.add (repTo G.ops d y S k) (G.mul (nth C k) (nth y j))):=by show _=_;rw [HC.out k hlt,repTo,hj,GW];rfl
   rw [hj] at cS
   have cY:=(HI4.out.af hbV).cell j hjn
   have cP:=ak hbV hc4
   have hGV : dz V b G:=HG4.out.af hbV
   have elC : G.El (nth C k):=by rw [HC.out k hlt];exact bX.tq hGV _
   have elY : G.El (nth y j):=HYe.out _ (aH (by rw [HY.out];exact hjn))
   have elV : G.El (repTo G.ops d y S k):=by
    cases k with
    | zero=>exact ⟨K1 _,by have:=hGV.q2;show (0 : Int)<_;omega⟩
    | succ k=>exact bX.B9 hGV _ _
   generalize repTo G.ops d y S k=rv at *
   generalize nth C k=cv at *
   generalize nth y j=yv at *
   have elm : ∀x y,G.El (G.mul x y):=λx y=>Mk hGV x y
   have HG : Hid (dz V.drew b G/\∀n,dz (V.drewN n) b G):=⟨hGV.af (GS _ _).drew,λn=>hGV.drewN n⟩
   have Hdr:=Z5 hdr
   clear hs0 hs1 hj hGV hbV
   go_wp2_with fail
   go_region_law ((first
    | (go_simp;go_at_call 57;((with_reducible refine (mG cv yv HG.out.1 elC elY).mono ?_);rintro e w5 ⟨m5,rfl,rfl⟩))
    | (go_simp;go_at_call 57;((with_reducible refine (mG cv yv (HG.out.2 _) elC elY).mono ?_);rintro e w5 ⟨m5,rfl,rfl⟩))
    | (go_simp;go_at_call 56;((with_reducible refine (FE rv (G.mul cv yv) (HG.out.2 _) elV (elm _ _)).mono ?_);rintro e w6 ⟨m6,rfl,rfl⟩))))
   all_goals (
    go_wp2_with fail
    go_roundw
    case rel=>exact ⟨k+1,by omega,by go_num,by rw [Hk.out],Hdr.out.trans ⟨_,rfl⟩⟩
    case measure=>simp [intOf] <;> omega)
  ·obtain rfl : k=q:=by omega
   have hF:=LY hF4 hdr.below
   go_wp2_with fail
   go_ret2
   exact ⟨by rw [HR2.out,HR3.out] <;> rfl,hF⟩
section
variable {O : aM} {El : Int->Prop} {m : Nat} {R : Ll} {Q : LI}
end
section
variable {P M : Int} {mod : LI} {m : Nat} {L : Ll}
end
theorem BB {P M : Int} {am : OA} {mn cm : Nat} {mod : LI} (hE : ba P M mod=true) (x : Int) (w : World) (hx : (ah P M.toNat mod).El x) :
  Calls prog 107 #[.agg #[.int .i64 P,.int .i64 M,.slice am mn cm],.int .i64 x] w λe w'=>e = .returned (.int .i64 ((ah P M.toNat mod).ops.neg x))/\Mv w w':=by
 obtain ⟨k,hk,hel,hq,hF,hA,_⟩:=fK hE;subst hk;obtain ⟨k',e2,hrf,_⟩:=en (P:=P) (M:=(k : Int)) (mod:=mod) (by rw [cU];exact hE);obtain rfl : k=k':=by omega
 rw [GW] at hx ⊢;rw [<- hel] at hx;rw [hA.neg x hx];exact qx P k am mn cm x w hrf (hrf.gE hx)
end Go.Proofs.YthglbncgemdcbaaGreat
