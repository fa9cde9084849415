import Derived.Test.YtjfiflldinnhmaaGreatHSO20
import Derived.Test.YtjfiflldinnhmaaGreatHSO22
namespace Go.Proofs.YtjfiflldinnhmaaGreat
set_option linter.all false
set_option maxRecDepth 100000
set_option maxHeartbeats 8000000
open Go.RowKit Go.Proofs.Tryz
theorem Eg (a b : Nat) (ha : a<131072) (hb : b<131072) : bits .or .i64 (a : Int) (b : Int)=((a ||| b : Nat) : Int):=by
 have hx : a ||| b<2 ^ 17:=IG (by omega) (by omega)
 have h1 : (BitVec.ofInt 64 (a : Int)).toNat=a:=by rw [F7,Gh];exact Ga (by omega)
 have h2 : (BitVec.ofInt 64 (b : Int)).toNat=b:=by rw [F7,Gh];exact Ga (by omega)
 show IntKind.i64.wrap ((BitVec.ofInt 64 (a : Int) ||| BitVec.ofInt 64 (b : Int)).toNat : Int)=_;rw [BitVec.toNat_or,h1,h2];exact EU _ (by omega)
theorem CK {p : Nat} (hp : p<17) : IntKind.i64.wrap ((2 : Int) ^ p)=((2 ^ p : Nat) : Int):=by
 have h1 : 2 ^ p<2 ^ 17:=GM (by omega) hp;have : (2 : Int) ^ p=((2 ^ p : Nat) : Int):=by simp
 rw [this];generalize 2 ^ p=q at *;exact EU _ (by omega)
theorem Ch {x k : Nat} (hx : x<2 ^ k) (hk : k<16) : bits .or .i64 (x : Int) (IntKind.i64.wrap ((2 : Int) ^ k))=((x+2 ^ k : Nat) : Int):=by have h1 : 2 ^ k<2 ^ 16:=GM (by omega) hk;rw [CK (by omega),Eg x (2 ^ k) (by omega) (by omega)];congr 1;have h:=Nat.two_pow_add_eq_or_of_lt hx 1;rw [Nat.mul_one] at h;rw [Nat.or_comm,<- h,ID]
structure Ci (V : World) (b : Nat) (G : cC) (Bc Bo Bf Bg n : Nat) (ao : OA) (n2 co : Nat) : Prop where
 cn : V.cell? ⟨Bc,3,none⟩=some (.int .i64 n)
 out : V.cell? ⟨Bo,0,none⟩=some (.slice ao n2 co)
 fr : V.cell? ⟨Bf,0,none⟩=some (.func (.func 181) #[] #[.pointer (some ⟨Bc,0,none⟩),.pointer (some ⟨Bo,0,none⟩),.pointer (some ⟨Bf,0,none⟩),.pointer (some ⟨Bg,0,none⟩)])
 gp : V.cell? ⟨Bg,0,none⟩=some (.pointer (some ⟨b,0,none⟩))
 gf : dY V b G
def nD (B : Nat) (W0 : World) (G : cC) (m n Bc Bo Bf Bg : Nat) (ao : OA) (n2 co d : Nat) : Prop :=
 ∀(a : OA) (n1 c1 : Nat) (R : LL) (x : Nat) (o : LI) (W : World),aw W0 W (λy=>y=ah ao) (λy=>y=ah ao)->fZ (λy=>y=ah ao) W a n1 R->bx G.El m R->n1<=1000000 ->
  W.ownsRow B 3 1 (.slice ao n2 co) n2 (o.map (Value.int .i64))->x<2 ^ (n - d) ->
  Calls prog 181 #[.slice a n1 c1,.int .i64 x,.int .i64 ((n - d : Nat) : Int),.pointer (some ⟨Bc,0,none⟩),.pointer (some ⟨Bo,0,none⟩),.pointer (some ⟨Bf,0,none⟩),.pointer (some ⟨Bg,0,none⟩)] W
   λe V=>e = .returned (.tuple #[])/\V.ownsRow B 3 1 (.slice ao n2 co) n2 ((dA G.ops n d R x o).map (Value.int .i64))/\aw W V (λy=>y=ah ao) (λy=>y=ah ao)
theorem aw.sP (w : World) {I : Nat->Prop} {p : Addr} (hB : I p.block) (v : Value) : aw w (w.setCell p v) I I:=by have hb0 : Below 0 w (w.setCell p v):=(EI 0 w).setCell (EL _) v;exact ⟨hb0.os,hb0.tape,hb0.output,hb0.size,λb hb hI=>EZ _ _ _ _ λe=>hI (e ▸ hB),λb hb=>.inl hb⟩
theorem pS {B : Nat} {W0 : World} {b : Nat} {G : cC} {m n Bc Bo Bf Bg : Nat} {ao : OA} {co : Nat} (HE : ∀V,aw W0 V (λy=>y=ah ao) (λy=>y=ah ao)->Ci V b G Bc Bo Bf Bg n ao (2 ^ n) co) (hn : n<=16) :
  nD B W0 G m n Bc Bo Bf Bg ao (2 ^ n) co 0:=by
 intro a n1 c1 R x o W hW hM hR hn1 hown hx;obtain ⟨ccn,cout,cfr,cgp,cgf⟩:=HE W hW;have hRl:=hM.len;clear cgf;by_cases h0 : n1=0
 ·subst h0;have Hf : Hid (dA G.ops n 0 R x o=o):=by show _=_;rw [dA,EH hRl]
  clear hRl;go_enter func181,ntmps181;go_wp2_with fail;refine bodyPost_ret (results_none rfl _ _ _) rfl ?_;exact ⟨rfl,by rw [Hf.out];exact hown,Ji _ _⟩
 ·have Hf : Hid (dA G.ops n 0 R x o=o.set x n1):=by show _=_;rw [dA,EG (by omega),hRl]
  have hd : ((n1 : Int) == 0)=false:=by simp;omega
  rw [H7] at hx ⊢;obtain ⟨q,hq⟩ : ∃q,2 ^ n=q:=⟨_,rfl⟩
  rw [hq] at hown cout hx;obtain ⟨iv0,mv0⟩:=I9 hown;have hpv:=iv0.pl;have cx:=iv0.cell x hx;have fx:=(mv0 (by omega)).2 x hx;clear hRl h0;go_enter func181,ntmps181;go_wp2_with fail;refine bodyPost_ret (results_none rfl _ _ _) rfl ?_;refine ⟨rfl,?_,aw.sP (I:=λy=>y=ah ao) (p:=⟨ah ao,aG ao+x,none⟩) _ rfl _⟩;rw [Hf.out,hq,Ff];exact bz hown x hx _
theorem pK {B : Nat} {W0 : World} {b : Nat} {G : cC} {m n Bc Bo Bf Bg : Nat} {ao : OA} {n2 co : Nat} (HE : ∀V,aw W0 V (λy=>y=ah ao) (λy=>y=ah ao)->Ci V b G Bc Bo Bf Bg n ao n2 co) (hao : ah ao<W0.heap.size) (hn : n<=16) (hnm : n<=m) (hm : m<=1000000) (d : Nat) (hd : d+1<=n)
  (hI : nD B W0 G m n Bc Bo Bf Bg ao n2 co d) : nD B W0 G m n Bc Bo Bf Bg ao n2 co (d+1):=by
 intro a n1 c1 R x o W hW hM hR hn1 hown hx;obtain ⟨k,hk⟩ : ∃k,n - (d+1)=k:=⟨_,rfl⟩
 have E:=HE W hW;obtain ⟨ccn,cout,cfr,cgp,cgf⟩:=E;have hRl:=hM.len;by_cases h0 : n1=0
 ·subst h0;have Hf : Hid (dA G.ops n (d+1) R x o=o):=by show _=_;rw [dA,EH hRl]
  clear hRl cgf hI;go_enter func181,ntmps181;go_wp2_with fail;refine bodyPost_ret (results_none rfl _ _ _) rfl ?_;exact ⟨rfl,by rw [Hf.out];exact hown,Ji _ _⟩
 have Hf : Hid (dA G.ops n (d+1) R x o=dA G.ops n d (pB G.ops R k) x (dA G.ops n d R (x+2 ^ k) o)):=by show _=_;rw [dA,EG (by omega),hk]
 have hd0 : ((n1 : Int) == 0)=false:=by simp;omega
 have hnd : n - d=k+1:=by omega
 rw [hk] at hx ⊢;have h2k : 2 ^ (k+1)=2 ^ k+2 ^ k:=by rw [Gy];omega
 have hor:=Ch hx (by omega);obtain ⟨y,hy⟩ : ∃y,x+2 ^ k=y:=⟨_,rfl⟩
 rw [hy] at hor;have hkw : IntKind.i64.wrap ((k : Int)+1)=(k : Int)+1:=EU _ (by omega);have hkn : ((k : Int) == (n : Int))=false:=by simp;omega
 have hkb : k<16:=by omega
 have H1 : Hid (∀V,JA W V->Calls prog 181 #[.slice a n1 c1,.int .i64 y,.int .i64 ((k : Int)+1),.pointer (some ⟨Bc,0,none⟩),.pointer (some ⟨Bo,0,none⟩),.pointer (some ⟨Bf,0,none⟩),.pointer (some ⟨Bg,0,none⟩)] V
   λe V'=>e = .returned (.tuple #[])/\V'.ownsRow B 3 1 (.slice ao n2 co) n2 ((dA G.ops n d R y o).map (Value.int .i64))/\aw V V' (λy=>y=ah ao) (λy=>y=ah ao)):=λV hV=>by have h:=hI a n1 c1 R y o V (hW.trans (Jc hV _)) (hM.aa hV) hR hn1 (aY hown hV) (by rw [hnd,h2k];omega);rw [hnd] at h;exact h
 have HWo : Hid (∀V,aw W V (λy=>y=ah ao) (λy=>y=ah ao)->Calls prog 182 #[.pointer (some ⟨b,0,none⟩),.slice a n1 c1,.int .i64 k] V λe V'=>∃a2 n2 c2,e = .returned (.slice a2 n2 c2)/\fZ (λy=>y=ah ao) V' a2 n2 (pB G.ops R k)/\JA V V'):=λV hV =>
  uM (λy=>y=ah ao) a n1 c1 R m k (HE V (hW.trans hV)).gf (λy hy=>by have h1:=hW.size;have h2:=hV.size;omega) (hM.dm hV) hR (by omega) hn1 hm
 have H2 : Hid (∀V a2 n3 c2 o2,aw W V (λy=>y=ah ao) (λy=>y=ah ao)->fZ (λy=>y=ah ao) V a2 n3 (pB G.ops R k)->V.ownsRow B 3 1 (.slice ao n2 co) n2 (o2.map (Value.int .i64))->Calls prog 181 #[.slice a2 n3 c2,.int .i64 x,.int .i64 ((k : Int)+1),.pointer (some ⟨Bc,0,none⟩),.pointer (some ⟨Bo,0,none⟩),.pointer (some ⟨Bf,0,none⟩),.pointer (some ⟨Bg,0,none⟩)] V
   λe V'=>e = .returned (.tuple #[])/\V'.ownsRow B 3 1 (.slice ao n2 co) n2 ((dA G.ops n d (pB G.ops R k) x o2).map (Value.int .i64))/\aw V V' (λy=>y=ah ao) (λy=>y=ah ao)):=λV a2 n3 c2 o2 hV hM2 ho2=>by have h:=hI a2 n3 c2 (pB G.ops R k) x o2 V (hW.trans hV) hM2 (BH (Js cgf) hR (by omega)) (by have h1:=vA G.ops R k;have h2:=hM2.len;omega) ho2 (by rw [hnd,h2k];omega);rw [hnd] at h;exact h
 have HCell : Hid (∀V,aw W V (λy=>y=ah ao) (λy=>y=ah ao)->V.cell? ⟨Bf,0,none⟩=some (.func (.func 181) #[] #[.pointer (some ⟨Bc,0,none⟩),.pointer (some ⟨Bo,0,none⟩),.pointer (some ⟨Bf,0,none⟩),.pointer (some ⟨Bg,0,none⟩)])/\V.cell? ⟨Bg,0,none⟩=some (.pointer (some ⟨b,0,none⟩))):=λV hV=>⟨(HE V (hW.trans hV)).fr,(HE V (hW.trans hV)).gp⟩
 have Hown:=Z5 hown;rw [hy] at Hf;clear hRl cgf hI HE hM hR hW hown hk hnd h2k h0 hy hx;go_enter func181,ntmps181;go_wp2_with fail;go_cut [30] (λv wx=>v = .tuple #[]/\wx.ownsRow B 3 1 (.slice ao n2 co) n2 ((dA G.ops n d R y o).map (Value.int .i64))/\aw W wx (λy=>y=ah ao) (λy=>y=ah ao));case first =>
  go_region_law ((first
   | (go_simp;go_at_call 181;((with_reducible refine (H1.out _ (EI _ _).drew).mono ?_);rintro e W5 ⟨rfl,hown5,hm5⟩))
   | (go_simp;go_at_call 181;((with_reducible refine (H1.out _ (Jk ⟨_,rfl⟩)).mono ?_);rintro e W5 ⟨rfl,hown5,hm5⟩))))
  all_goals (go_wp2_with fail;go_meet;exact ⟨rfl,hown5,(Jc (EI _ _).drew _).trans hm5⟩)
 obtain ⟨rfl,hown5,hm5⟩:=hcut;generalize wc=X at *;obtain ⟨o2,ho2⟩ : ∃o2,dA G.ops n d R y o=o2:=⟨_,rfl⟩
 rw [ho2] at hown5 Hf;have HM : Hid (aw W X.drew (λy=>y=ah ao) (λy=>y=ah ao)):=hm5.trans (Jc (EI _ _).drew _);have Ho : Hid (X.drew.ownsRow B 3 1 (.slice ao n2 co) n2 (o2.map (Value.int .i64))):=aY hown5 (EI _ _).drew;obtain ⟨q1,q2⟩:=HCell.out X hm5;clear ho2 hown5 hm5 cfr cgp ccn cout H1 Hown hor;go_wp2_with fail;go_region_law ((first
  | (go_simp;go_at_call 182;((with_reducible refine (HWo.out _ HM.out).mono ?_);rintro e w6 ⟨a2,n3,c2,rfl,hM6,hb6⟩;have hm6 : aw W w6 (λy=>y=ah ao) (λy=>y=ah ao):=HM.out.trans (Jc hb6 _);obtain ⟨q3,q4⟩:=HCell.out w6 hm6;have ho6:=aY Ho.out hb6;have Hc2:=Z5 (H2.out w6 a2 n3 c2 o2 hm6 hM6 ho6);clear hM6 ho6))
  | (go_simp;go_at_call 181;((with_reducible refine Hc2.out.mono ?_);rintro e w7 ⟨rfl,hown7,hm7⟩))))
 all_goals (
  have HF : Hid (w7.ownsRow B 3 1 (.slice ao n2 co) n2 ((dA G.ops n d (pB G.ops R k) x o2).map (Value.int .i64))/\aw W w7 (λy=>y=ah ao) (λy=>y=ah ao)):=⟨hown7,hm6.trans hm7⟩
  clear hown7 hm7 hm6
  go_wp2_with fail
  go_end0
  exact ⟨rfl,by rw [Hf.out];exact HF.out.1,HF.out.2⟩)
def vV (P M : Int) (am : OA) (mn cm : Nat) (mod : LI) (N : Int) (a : OA) (n c : Nat) (L : LL) (W : Int) (w : World) (e : Ending) (w' : World) : Prop :=
 JA w w'/\((aZ P M mod N L ≠ 0/\e = .returned (.tuple #[.pointer none,.int .i64 (aZ P M mod N L)])) \/
 (aZ P M mod N L=0/\∃(b : Nat) (w2 : World),e = .returned (.tuple #[.pointer (some ⟨w2.heap.size,0,none⟩),.int .i64 0])/\JA w w2/\dY w2 b (an P M.toNat mod)/\JA w2 w' /\
  ba w' w2.heap.size [.pointer (some ⟨b,0,none⟩),.int .i64 P,.int .i64 M,.slice am mn cm,.int .i64 N,.slice a n c,.slice none 0 0,.bool false,.int .i64 0,.int .i64 W,.slice none 0 0,.int .i64 0]))
theorem wm (P M : Int) (am : OA) (mn cm : Nat) (mod : LI) (N : Int) (a : OA) (n c : Nat) (L : LL) (W : Int) (w : World) (hmod : Ints w am mn mod) (hi : bY w a n L) :
  Calls prog 185 #[.agg #[.int .i64 P,.int .i64 M,.slice am mn cm,.int .i64 N,.slice a n c],.int .i64 W] w (vV P M am mn cm mod N a n c L W w):=by
 go_enter func185,ntmps185;go_wp2_with fail;obtain ⟨U,hU⟩ : ∃U : World,U=w.alloc (.cells #[.int .i64 P,.int .i64 M,.slice am mn cm,.int .i64 N,.slice a n c] 27):=⟨_,rfl⟩
 rw [<- hU];have hbU : JA w U:=by rw [hU];exact aA _ _
 have x0 : ba U w.heap.size [.int .i64 P,.int .i64 M,.slice am mn cm,.int .i64 N,.slice a n c]:=by rw [hU];exact Ja _ _ _ rfl
 have HX:=Z5 x0;clear hU x0;refine (dU P M am mn cm mod N a n c L U (hmod.aa hbU) (hi.aa hbU)).mono ?_;rintro e w1 ⟨rfl,hb1⟩;have hbw1:=I8 hbU hb1;by_cases hE : aZ P M mod N L=0
 ·obtain ⟨hf,_⟩:=dq hE;have HE:=Z5 hE;have Hf:=Z5 hf;rw [hE];have x1:=HX.out.aa hb1;have c0:=x1.cell 0 rfl;have c1:=x1.cell 1 rfl;have c2:=x1.cell 2 rfl;have hm1:=(hmod.aa hbU).aa hb1;clear hE x1 hf;go_wp2_with fail;refine (fD P M am mn cm mod w1 hm1).mono ?_;rintro e w2 (⟨hB,rfl,hb2⟩ | ⟨hB,b,rfl,hG,hbl,hb2⟩)
  ·rw [Hf.out] at hB;cases hB
  ·clear hB;have hg:=hG.gf;have x2:=(HX.out.aa hb1).aa hb2;have e0:=x2.cell 0 rfl;have e1:=x2.cell 1 rfl;have e2:=x2.cell 2 rfl;have e3:=x2.cell 3 rfl;have e4:=x2.cell 4 rfl;clear x2 c0 c1 c2;go_wp2_with fail;go_ret2;exact ⟨I8 (I8 hbw1 hb2) (aA _ _),.inr ⟨HE.out,b,w2,rfl,I8 hbw1 hb2,hg,aA _ _,Ja w2 [.pointer (some ⟨b,0,none⟩),.int .i64 P,.int .i64 M,.slice am mn cm,.int .i64 N,.slice a n c,.slice none 0 0,.bool false,.int .i64 0,.int .i64 W,.slice none 0 0,.int .i64 0] _ rfl⟩⟩
 ·have HE:=Z5 hE;have hE' : (aZ P M mod N L != 0)=true:=by simpa using hE
  clear hE;go_wp2_with fail;go_ret2;exact ⟨hbw1,.inl ⟨HE.out,rfl⟩⟩
def fW (P M : Int) (mod : LI) (N : Int) (L : LL) (mm W : Int) : Int :=
 if aZ P M mod N L=0 then (if mm<0\/(L.length : Int)<mm\/W<0\/N<W then 6 else 0) else aZ P M mod N L
def xN (P M : Int) (am : OA) (mn cm : Nat) (mod : LI) (m : Nat) (a : OA) (n c : Nat) (L : LL) (ay : OA) (ny cy : Nat) (C : iV) (w w' : World) (pb : Nat) : Prop :=
 ∃(b : Nat) (w2 : World),pb=w2.heap.size/\JA w w2/\vj w2 b (an P M.toNat mod) a n L m ay ny C/\JA w2 w'/\ba w' pb (kG b P M am mn cm m a n c ay ny cy C (.slice none 0 0) 0)
def vQ (P M : Int) (am : OA) (mn cm : Nat) (mod : LI) (N : Int) (a : OA) (n c : Nat) (L : LL) (mm W : Int) (w : World) (e : Ending) (w' : World) : Prop :=
 JA w w'/\((fW P M mod N L mm W ≠ 0/\e = .returned (.tuple #[.pointer none,.int .i64 (fW P M mod N L mm W)])) \/
 (fW P M mod N L mm W=0/\∃pb,e = .returned (.tuple #[.pointer (some ⟨pb,0,none⟩),.int .i64 0])/\xN P M am mn cm mod N.toNat a n c L none 0 0 ⟨mm.toNat,W.toNat,false,[]⟩ w w' pb))
theorem oe (P M : Int) (am : OA) (mn cm : Nat) (mod : LI) (N : Int) (a : OA) (n c : Nat) (L : LL) (mm W : Int) (w : World) (hmod : Ints w am mn mod) (hi : bY w a n L) :
  Calls prog 124 #[.agg #[.int .i64 P,.int .i64 M,.slice am mn cm,.int .i64 N,.slice a n c],.int .i64 mm,.int .i64 W] w (vQ P M am mn cm mod N a n c L mm W w):=by
 have Hil:=Z5 hi.len;go_enter func124,ntmps124;go_wp2_with fail;obtain ⟨U,hU⟩ : ∃U : World,U=w.alloc (.cells #[.int .i64 P,.int .i64 M,.slice am mn cm,.int .i64 N,.slice a n c] 27):=⟨_,rfl⟩
 rw [<- hU];have hbU : JA w U:=by rw [hU];exact aA _ _
 have x0 : ba U w.heap.size [.int .i64 P,.int .i64 M,.slice am mn cm,.int .i64 N,.slice a n c]:=by rw [hU];exact Ja _ _ _ rfl
 have HX:=Z5 x0;clear hU x0;refine (wm P M am mn cm mod N a n c L W U (hmod.aa hbU) (hi.aa hbU)).mono ?_;rintro e w1 ⟨hb1,⟨hE,rfl⟩ | ⟨hE,b,w2,rfl,hb2,hG,hb3,hB⟩⟩
 ·have HE : Hid (fW P M mod N L mm W=aZ P M mod N L):=EG hE;have Hne:=Z5 hE;have hE1 : (aZ P M mod N L == 0)=false:=by simpa using hE
  have hE2 : (aZ P M mod N L != 0)=true:=by simpa using hE
  have hbF:=I8 hbU hb1;clear hE;go_wp2_with fail;go_ret2;exact ⟨hbF,.inl ⟨by rw [HE.out];exact Hne.out,by rw [HE.out];rfl⟩⟩
 ·have hbF:=I8 hbU hb1;have x1:=HX.out.aa hb1;have c3:=x1.cell 3 rfl;have c4:=x1.cell 4 rfl;have HE : Hid (fW P M mod N L mm W=if mm<0\/(n : Int)<mm\/W<0\/N<W then 6 else 0):=by show _=_;rw [fW,EH hE,Hil.out]
  have Hrw:=Z5 (eE hE);have HB:=Z5 hB;have hf8:=hB.frozen 8;have h8:=hB.cell 8 rfl;clear x1 hB hE;by_cases h1 : mm<0
  ·have HE2 : Hid (fW P M mod N L mm W=6):=by show _=_;rw [HE.out,EH (.inl h1)]
   have d1 : decide (mm<0)=true:=by simpa using h1
   clear h1;go_wp2_with fail;go_ret2;exact ⟨hbF,.inl ⟨by rw [HE2.out];decide,by rw [HE2.out];rfl⟩⟩
  have d1 : decide (mm<0)=false:=by simpa using h1
  by_cases h2 : (n : Int)<mm
  ·have HE2 : Hid (fW P M mod N L mm W=6):=by show _=_;rw [HE.out,EH (.inr (.inl h2))]
   have d2 : decide ((n : Int)<mm)=true:=by simpa using h2
   clear h1 h2;go_wp2_with fail;go_ret2;exact ⟨hbF,.inl ⟨by rw [HE2.out];decide,by rw [HE2.out];rfl⟩⟩
  have d2 : decide ((n : Int)<mm)=false:=by simpa using h2
  by_cases h3 : W<0
  ·have HE2 : Hid (fW P M mod N L mm W=6):=by show _=_;rw [HE.out,EH (.inr (.inr (.inl h3)))]
   have d3 : decide (W<0)=true:=by simpa using h3
   clear h1 h2 h3;go_wp2_with fail;go_ret2;exact ⟨hbF,.inl ⟨by rw [HE2.out];decide,by rw [HE2.out];rfl⟩⟩
  have d3 : decide (W<0)=false:=by simpa using h3
  by_cases h4 : N<W
  ·have HE2 : Hid (fW P M mod N L mm W=6):=by show _=_;rw [HE.out,EH (.inr (.inr (.inr h4)))]
   have d4 : decide (N<W)=true:=by simpa using h4
   clear h1 h2 h3 h4;go_wp2_with fail;go_ret2;exact ⟨hbF,.inl ⟨by rw [HE2.out];decide,by rw [HE2.out];rfl⟩⟩
  have d4 : decide (N<W)=false:=by simpa using h4
  have HE2 : Hid (fW P M mod N L mm W=0):=by
   show _=_;rw [HE.out,EG];rintro (h | h | h | h)
   ·exact h1 h
   ·exact h2 h
   ·exact h3 h
   ·exact h4 h
  obtain ⟨m,hm,hm1,hm2,hLl,hRw⟩:=Hrw.out;have HCl : Hid (xN P M am mn cm mod N.toNat a n c L none 0 0 ⟨mm.toNat,W.toNat,false,[]⟩ w (w1.setCell ⟨w2.heap.size,8,none⟩ (.int .i64 mm)) w2.heap.size):=by
   have hn256 : n<=1000000:=by rw [<- Hil.out];omega
   have hPE : vj w2 b (an P M.toNat mod) a n L N.toNat none 0 ⟨mm.toNat,W.toNat,false,[]⟩ :=
    { g:=hG,pA:=(hi.aa hbU).aa hb2,rws:=by rw [hm,EM];exact hRw,n6:=hn256,m6:=by omega,w6:=by show W.toNat<=64;omega,c0:=rfl }
   refine ⟨b,w2,rfl,I8 hbU hb2,hPE,hb3.setCell (by simp) _,?_⟩;have h5:=HB.out.setCell 8 (.int .i64 mm);rw [kG];dsimp only;rw [FX (show 0<=N by omega),FX (show 0<=mm by omega),FX (show 0<=W by omega)];exact h5
  have hbF2:=hbF.setCell (p:=⟨w2.heap.size,8,none⟩) (ET hbU.size hb2.size) (.int .i64 mm);clear h1 h2 h3 h4 hm hm1 hm2;go_wp2_with fail;go_ret2;exact ⟨hbF2,.inr ⟨HE2.out,w2.heap.size,rfl,HCl.out⟩⟩
theorem yH (x i : Nat) (hx : x<131072) : bits .and .i64 ((x : Int) / 2 ^ i) 1=((x / 2 ^ i % 2 : Nat) : Int):=by
 have h0 : x / 2 ^ i<=x:=Nat.div_le_self _ _;have e : ((x : Int) / 2 ^ i)=((x / 2 ^ i : Nat) : Int):=by simp
 rw [e];generalize x / 2 ^ i=y at *;have h1 : (BitVec.ofInt 64 (y : Int)).toNat=y:=by rw [F7,Gh];exact Ga (by omega)
 have h2 : (BitVec.ofInt 64 1).toNat=1:=by decide
 show IntKind.i64.wrap ((BitVec.ofInt 64 (y : Int) &&& BitVec.ofInt 64 1).toNat : Int)=_;rw [BitVec.toNat_and,h1,h2,Nat.and_one_is_mod];exact EU _ (by omega)
theorem qQ {x k : Nat} (h : x / 2 ^ k=0) : ∀d,aR x (k+d)=aR x k
 | 0=>rfl
 | d+1=>by
  have ih:=qQ h d;have hx : x<2 ^ k:=by
   rcases Fm x (2 ^ k) with h1 | h1
   ·exact h1
   ·have:=Nat.div_pos h1 (IX k);omega
  have hb : x.testBit (k+d)=false:=Nat.testBit_lt_two_pow (Fc hx (FP (by omega) (by omega)));rw [show k+(d+1)=(k+d)+1 by omega,aR,EG (by rw [hb];decide),ih]
theorem qF (x n : Nat) (hx : x<2 ^ n) (hn : n<=16) (w : World) : Calls prog 116 #[.int .i64 x] w (cB w (aR x n)):=by
 have hx17 : x<131072:=by have : 2 ^ n<=2 ^ 16:=FP (by omega) hn;omega
 have Hend : Hid (x / 2 ^ n=0):=Nat.div_eq_of_lt hx;clear hx;go_enter func116,ntmps116;go_wp2_with fail;go_loopw [3,4] (λsv iv wr=>∃(k : Nat) (aq : OA) (cq : Nat),k<=n/\iv = .int .i64 k/\sv = .slice aq (aR x k).length cq/\wr.ownsRow w.heap.size 3 1 (.slice aq (aR x k).length cq) (aR x k).length ((aR x k).map (Value.int .i64))/\JA w wr)
  (λ_ iv _=>n - (intOf iv).toNat)
 case atStart=>exact ⟨0,none,0,EL _,rfl,rfl,bG,EI _ _⟩
 case round =>
  obtain ⟨k,aq,cq,hk,rfl,rfl,hop,hbr⟩:=hrel
  have hlen:=kB x k
  by_cases hz : x / 2 ^ k=0
  ·have hz' : decide ((0 : Int)<(x : Int) / 2 ^ k)=false:=by
    have e : ((x : Int) / 2 ^ k)=((x / 2 ^ k : Nat) : Int):=by simp
    rw [e,hz];simp
   have Hb : Hid (aR x n=aR x k):=by
    show _=_;obtain ⟨d,rfl⟩ : ∃d,n=k+d:=⟨n - k,by omega⟩
    exact qQ hz d
   clear hz
   go_wp2_with fail
   go_ret
   exact ⟨aq,cq,by rw [Hb.out];rfl,by rw [Hb.out];exact hop,hbr⟩
  ·have hlt : k<n:=by
    rcases Fm k n with h | h
    ·exact h
    ·exact absurd (by rw [show k=n by omega];exact Hend.out) hz
   have hz' : decide ((0 : Int)<(x : Int) / 2 ^ k)=true:=by
    have e : ((x : Int) / 2 ^ k)=((x / 2 ^ k : Nat) : Int):=by simp
    rw [e];have h0 : 0<x / 2 ^ k:=Nat.pos_of_ne_zero hz;exact Fz (Int.natCast_pos.2 h0)
   have hand:=yH x k hx17
   have htb:=mJ x k
   by_cases ht : x.testBit k=true
   ·have hb : Hid (aR x (k+1)=aR x k ++ [(k : Int)]):=by show _=_;rw [aR,EH ht]
    have h1 : x / 2 ^ k % 2=1:=by rw [ht] at htb;simpa using htb.symm
    rw [h1] at hand
    clear ht htb h1 hz
    generalize aR x k=out at *
    have hcn:=bk wr (.int .i64 k) 3
    have hbn:=aA wr (.cells #[.int .i64 k] 3)
    have hsz:=hbr.size
    go_wp2_with (at_builtin;refine aX rfl _ _ 22 3 rfl (.int .i64 0) 8 underlying22 bh rfl w.heap.size aq out.length cq _ rfl (hop.alloc _) ⟨wr.heap.size,0,none⟩ 1 (.int .i64 k) rfl hcn rfl (by omega) (by unfold maxLen;omega) (by simp;omega) ?_;intro a5 c5 w5 hown5 hgr5 hap5)
    go_roundw
    case rel =>
     refine ⟨k+1,a5,c5,by omega,by go_num,by rw [hb.out];simp,?_,Jb (Ft hbr (hbn.mono hsz)) (hop.alloc _) hgr5 (EF _) (ET hsz hbn.size)⟩
     rw [hb.out];simpa using hown5
    case measure=>simp [intOf] <;> omega
   ·have hb : Hid (aR x (k+1)=aR x k):=by show _=_;rw [aR,EG ht]
    have h1 : x / 2 ^ k % 2=0:=by
     have h2:=FA (x / 2 ^ k);have h3 : ¬ x / 2 ^ k % 2=1:=λh=>by rw [h] at htb;simp at htb;exact ht htb
     omega
    rw [h1] at hand
    clear ht htb h1 hz
    generalize aR x k=out at *
    go_wp2_with fail
    go_roundw
    case rel=>exact ⟨k+1,aq,cq,by omega,by go_num,by rw [hb.out],by rw [hb.out];exact hop,hbr⟩
    case measure=>simp [intOf] <;> omega
theorem l0 (x : Int) (w : World) : Calls prog 256 #[.int .i64 x] w λe w'=>e = .returned (.bool false)/\w=w':=by go_enter func256,ntmps256;go_wp2;go_ret;exact ⟨by simp,rfl⟩
def pF (x y : Int) : Int:=if x<y then -1 else if y<x then 1 else 0
theorem oy (x y : Int) (w : World) : Calls prog 237 #[.int .i64 x,.int .i64 y] w λe w'=>e = .returned (.int .i64 (pF x y))/\w=w':=by
 obtain ⟨r,hr⟩ : ∃r,pF x y=r:=⟨_,rfl⟩
 rw [hr];go_enter func237,ntmps237;unfold pF at hr;by_cases h1 : x<y
 ·have d1 : decide (x<y)=true:=by simpa using h1
  rw [EH h1] at hr;clear h1;go_wp2_with (go_at_call 256;refine (l0 _ _).mono ?_;rintro e w' ⟨rfl,rfl⟩);go_ret;exact ⟨by rw [<- hr];rfl,rfl⟩
 ·have d1 : decide (x<y)=false:=by simpa using h1
  rw [EG h1] at hr;by_cases h2 : y<x
  ·have d2 : decide (y<x)=true:=by simpa using h2
   rw [EH h2] at hr;clear h1 h2;go_wp2_with (go_at_call 256;refine (l0 _ _).mono ?_;rintro e w' ⟨rfl,rfl⟩);go_ret;exact ⟨by rw [<- hr];rfl,rfl⟩
  ·have d2 : decide (y<x)=false:=by simpa using h2
   rw [EG h2] at hr;clear h1 h2;go_wp2_with (go_at_call 256;refine (l0 _ _).mono ?_;rintro e w' ⟨rfl,rfl⟩);go_ret;exact ⟨by rw [<- hr];rfl,rfl⟩
theorem xA : ∀ {a b : LI} {k : Nat},(∀j,j<k->nth a j=nth b j)->k<a.length->k<b.length->pF (nth a k) (nth b k) ≠ 0->eY a b=pF (nth a k) (nth b k)
 | [],_,k,_,h,_,_=>by simp at h
 | x :: a,[],k,_,_,h,_=>by simp at h
 | x :: a,y :: b,0,_,_,_,hne=>by
  have e1 : nth (x :: a) 0=x:=rfl;have e2 : nth (y :: b) 0=y:=rfl;rw [e1,e2] at hne ⊢;rw [eY];unfold pF at hne ⊢;split
  ·rfl
  ·split
   ·rfl
   ·rename_i h1 h2;rw [EG h1,EG h2] at hne;exact absurd rfl hne
 | x :: a,y :: b,k+1,h0,ha,hb,hne=>by
  have e : x=y:=by simpa [nth] using h0 0 (by omega)
  rw [eY,EG (by omega),EG (by omega)];have h1:=xA (a:=a) (b:=b) (k:=k) (λj hj=>by simpa [nth] using h0 (j+1) (by omega)) (by simpa using ha) (by simpa using hb) (by simpa [nth] using hne);simpa [nth] using h1
theorem o8 : ∀ {a b : LI} {k : Nat},(∀j,j<k->nth a j=nth b j)->(k=a.length\/k=b.length)->k<=a.length->k<=b.length->eY a b=if a.length<b.length then -1 else if b.length<a.length then 1 else 0
 | [],[],_,_,_,_,_=>by simp [eY]
 | [],y :: b,_,_,_,_,_=>by simp [eY]
 | x :: a,[],_,_,_,_,_=>by simp [eY]
 | x :: a,y :: b,0,_,h,_,_=>by simp at h
 | x :: a,y :: b,k+1,h0,h,ha,hb=>by
  have e : x=y:=by simpa [nth] using h0 0 (by omega)
  rw [eY,EG (by omega),EG (by omega)];have h1:=o8 (a:=a) (b:=b) (k:=k) (λj hj=>by simpa [nth] using h0 (j+1) (by omega)) (by simpa using h) (by simpa using ha) (by simpa using hb);rw [h1];simp
theorem uw (a : OA) (n c : Nat) (l : LI) (a2 : OA) (n2 c2 : Nat) (l2 : LI) (w : World) (hi : Ints w a n l) (hi2 : Ints w a2 n2 l2) :
  Calls prog 183 #[.slice a n c,.slice a2 n2 c2] w λe w'=>e = .returned (.int .i64 (eY l l2))/\w=w':=by
 have Hl:=Z5 hi.len;have Hl2:=Z5 hi2.len;have hpl:=hi.pl;have hpl2:=hi2.pl;have hmax:=hi.max;have hmax2:=hi2.max;unfold maxLen at hmax hmax2;go_enter func183,ntmps183;go_wp2_with fail;go_loop [11] (λiv=>∃k : Nat,k<=n/\k<=n2/\iv = .int .i64 k/\Hid (∀j,j<k->nth l j=nth l2 j)) (λiv=>n - (intOf iv).toNat);case atStart=>exact ⟨0,EL _,EL _,rfl,λj hj=>by omega⟩
 case round =>
  obtain ⟨k,hk,hk2,rfl,hall⟩:=hrel
  by_cases hlt : k<n
  ·have ck:=hi.cell k hlt
   by_cases hlt2 : k<n2
   ·have ck2:=hi2.cell k hlt2
    have hge : decide ((n2 : Int)<=(k : Int))=false:=by simp;omega
    by_cases he : pF (nth l k) (nth l2 k)=0
    ·have hEq : Hid (nth l k=nth l2 k):=by
      show _=_;unfold pF at he;split at he
      ·omega
      ·split at he
       ·omega
       ·omega
     have hc:=oy (nth l k) (nth l2 k)
     rw [he] at hc
     have Hc:=Z5 hc
     clear he hc
     go_wp2_with (go_at_call 237;refine (Hc.out _).mono ?_;rintro e w' ⟨rfl,rfl⟩)
     go_round
     case rel=>exact ⟨k+1,by omega,by omega,by go_num,λj hj=>by
      rcases Fm j k with h | h
      ·exact hall.out j h
      ·rw [show j=k by omega];exact hEq.out⟩
     case measure=>simp [intOf] <;> omega
    ·have Hv:=Z5 (xA hall.out (by rw [Hl.out];exact hlt) (by rw [Hl2.out];exact hlt2) he)
     have Hc:=Z5 (oy (nth l k) (nth l2 k))
     have hne : (pF (nth l k) (nth l2 k) != 0)=true:=by simpa using he
     clear he
     generalize pF (nth l k) (nth l2 k)=r at *
     go_wp2_with (go_at_call 237;refine (Hc.out _).mono ?_;rintro e w' ⟨rfl,rfl⟩)
     go_ret
     exact ⟨aF Hv.out.symm,rfl⟩
   ·have hge : decide ((n2 : Int)<=(k : Int))=true:=by simp;omega
    have Hv : Hid (eY l l2=1):=by show _=_;rw [o8 hall.out (.inr (by rw [Hl2.out];omega)) (by rw [Hl.out];exact hk) (by rw [Hl2.out];exact hk2),Hl.out,Hl2.out,EG (by omega),EH (by omega)]
    go_wp2_with fail
    go_ret
    exact ⟨aF Hv.out.symm,rfl⟩
  ·have Hv : Hid (eY l l2=if n<n2 then -1 else 0):=by show _=_;rw [o8 hall.out (.inl (by rw [Hl.out];omega)) (by rw [Hl.out];exact hk) (by rw [Hl2.out];exact hk2),Hl.out,Hl2.out,EG (show ¬ n2<n by omega)]
   obtain rfl : k=n:=by omega
   by_cases h2 : k<n2
   ·rw [EH h2] at Hv
    go_wp2_with fail
    go_ret
    exact ⟨aF Hv.out.symm,rfl⟩
   ·rw [EG h2] at Hv
    go_wp2_with fail
    go_ret
    exact ⟨aF Hv.out.symm,rfl⟩
theorem mK (a : OA) (c n : Nat) (l : LI) (r : Int) (w : World) (hn : n<=16) (hi : Ints w a (2 ^ n) l) :
  Calls prog 113 #[.slice a (2 ^ n) c,.int .i64 r] w (cB w (bS l n r (2 ^ n)).2):=by
 obtain ⟨q,hq⟩ : ∃q,2 ^ n=q:=⟨_,rfl⟩
 have hq17 : q<=65536:=by rw [<- hq];exact FP (by omega) hn
 rw [hq] at hi ⊢;have hpl:=hi.pl;have HL : Hid (∀x,x<q->∀V,Calls prog 116 #[.int .i64 x] V (cB V (aR x n))):=λx hx V=>qF x n (by rw [hq];exact hx) hn V;clear hq;go_enter func113,ntmps113;go_wp2_with fail;go_loopw [5,6,12] (λov fv iv wr=>∃(k : Nat) (z : Bool) (b : LI) (ao : OA) (co : Nat),k<=q/\iv = .int .i64 k/\fv = .bool z/\ov = .slice ao b.length co/\Hid (bS l n r k=(z,b)) /\
   wr.ownsRow w.heap.size 3 1 (.slice ao b.length co) b.length (b.map (Value.int .i64))/\JA w wr) (λ_ _ iv _=>q - (intOf iv).toNat)
 case atStart=>exact ⟨0,false,[],none,0,EL _,rfl,rfl,rfl,rfl,bG,EI _ _⟩
 case round =>
  obtain ⟨k,z,b,ao,co,hk,rfl,rfl,rfl,hst,hown,hbr⟩:=hrel
  by_cases hlt : k<q
  ·have ck:=(hi.aa hbr).cell k hlt
   by_cases hr : nth l k<r
   ·have hr' : decide (nth l k<r)=true:=by simpa using hr
    have Hst : Hid (bS l n r (k+1)=(z,b)):=by show _=_;rw [bS,EH hr,hst.out]
    clear hr
    go_wp2_with fail
    go_roundw
    case rel=>exact ⟨k+1,z,b,ao,co,by omega,by go_num,rfl,rfl,Hst.out,hown,hbr⟩
    case measure=>simp [intOf] <;> omega
   have hr' : decide (nth l k<r)=false:=by simpa using hr
   have Hst : Hid (bS l n r (k+1)=if z=false\/il (aR k n) b=true then (true,aR k n) else (z,b)):=by show _=_;rw [bS,EG hr,hst.out]
   clear hr
   have Hlist:=Z5 (HL.out k hlt wr)
   obtain ⟨s,hs⟩ : ∃s,aR k n=s:=⟨_,rfl⟩
   rw [hs] at Hlist Hst
   clear hs
   go_wp2_with fail
   refine Hlist.out.mono ?_
   rintro e w4 ⟨a4,c4,rfl,hown4,hb4⟩
   have hbr4:=I8 hbr hb4
   have i4:=(I9 hown4).1
   have ib:=(I9 (aY hown hb4)).1
   have Hcmp:=Z5 (uw a4 s.length c4 s ao b.length co b w4 i4 ib)
   cases z
   ·have Hst2 : Hid (bS l n r (k+1)=(true,s)):=by show _=_;rw [Hst.out,EH (.inl rfl)]
    go_wp2_with fail
    go_roundw
    case rel=>exact ⟨k+1,true,s,a4,c4,by omega,by go_num,rfl,rfl,Hst2.out,aW hown4 hbr.size,hbr4⟩
    case measure=>simp [intOf] <;> omega
   ·by_cases h1 : s.length<b.length
    ·have Hst2 : Hid (bS l n r (k+1)=(true,s)):=by show _=_;rw [Hst.out,EH (.inr (fi.2 (.inl h1)))]
     go_wp2_with fail
     go_roundw
     case rel=>exact ⟨k+1,true,s,a4,c4,by omega,by go_num,rfl,rfl,Hst2.out,aW hown4 hbr.size,hbr4⟩
     case measure=>simp [intOf] <;> omega
    ·by_cases h2 : s.length=b.length
     ·have hd2 : ((s.length : Int) == (b.length : Int))=true:=by simp;omega
      by_cases h3 : eY s b<0
      ·have Hst2 : Hid (bS l n r (k+1)=(true,s)):=by show _=_;rw [Hst.out,EH (.inr (fi.2 (.inr ⟨h2,h3⟩)))]
       have hd3 : decide (eY s b<0)=true:=by simpa using h3
       have hle : b.length<=s.length:=by omega
       have Ho4:=Z5 hown4
       clear h1 h2 h3 hown4 i4
       go_wp2_with (go_at_call 183;refine Hcmp.out.mono ?_;rintro e w' ⟨rfl,rfl⟩)
       go_roundw
       case rel=>exact ⟨k+1,true,s,a4,c4,by omega,by go_num,rfl,rfl,Hst2.out,aW Ho4.out hbr.size,hbr4⟩
       case measure=>simp [intOf] <;> omega
      ·have Hst2 : Hid (bS l n r (k+1)=(true,b)):=by
        show _=_;rw [Hst.out,EG λhh=>?_];rcases hh with hh | hh
        ·cases hh
        ·rcases fi.1 hh with hh | hh
         ·exact h1 hh
         ·exact h3 hh.2
       have hd3 : decide (eY s b<0)=false:=by simpa using h3
       have hle : b.length<=s.length:=by omega
       have Ho:=Z5 (aY hown hb4)
       clear h1 h2 h3 hown4 i4 hown
       go_wp2_with (go_at_call 183;refine Hcmp.out.mono ?_;rintro e w' ⟨rfl,rfl⟩)
       go_roundw
       case rel=>exact ⟨k+1,true,b,ao,co,by omega,by go_num,rfl,rfl,Hst2.out,Ho.out,hbr4⟩
       case measure=>simp [intOf] <;> omega
     ·have Hst2 : Hid (bS l n r (k+1)=(true,b)):=by
       show _=_;rw [Hst.out,EG λhh=>?_];rcases hh with hh | hh
       ·cases hh
       ·rcases fi.1 hh with hh | hh
        ·exact h1 hh
        ·exact h2 hh.1
      have hd2 : ((s.length : Int) == (b.length : Int))=false:=by simp;omega
      have hle : b.length<=s.length:=by omega
      have Ho:=Z5 (aY hown hb4)
      clear h1 h2 hown4 i4 hown
      go_wp2_with fail
      go_roundw
      case rel=>exact ⟨k+1,true,b,ao,co,by omega,by go_num,rfl,rfl,Hst2.out,Ho.out,hbr4⟩
      case measure=>simp [intOf] <;> omega
  ·obtain rfl : k=q:=by omega
   have Hb : Hid ((bS l n r k).2=b):=by show _=_;rw [hst.out]
   go_wp2_with fail
   go_ret
   exact ⟨ao,co,by rw [Hb.out];rfl,by rw [Hb.out];exact hown,hbr⟩
def fF (P M : Int) (mod : LI) (N : Int) (L : LL) : Int:=if aZ P M mod N L=0 then (if 16<N then 8 else 0) else aZ P M mod N L
def uL (P M : Int) (mod : LI) (N : Int) (L : LL) (w : World) (e : Ending) (w' : World) : Prop :=
 JA w w'/\((fF P M mod N L ≠ 0/\e = .returned (.tuple #[.slice none 0 0,.int .i64 (fF P M mod N L)])) \/
  (fF P M mod N L=0/\∃a c,e = .returned (.tuple #[.slice a (2 ^ N.toNat) c,.int .i64 0])/\w'.ownsRow w.heap.size 3 1 (.slice a (2 ^ N.toNat) c) (2 ^ N.toNat) ((gj (an P M.toNat mod).ops N.toNat L).map (Value.int .i64))))
theorem qa {B : Nat} {W0 : World} {b : Nat} {G : cC} {m n Bc Bo Bf Bg : Nat} {ao : OA} {co : Nat} (HE : ∀V,aw W0 V (λy=>y=ah ao) (λy=>y=ah ao)->Ci V b G Bc Bo Bf Bg n ao (2 ^ n) co) (hao : ah ao<W0.heap.size) (hn : n<=16) (hnm : n<=m) (hm : m<=1000000) : ∀d,d<=n->nD B W0 G m n Bc Bo Bf Bg ao (2 ^ n) co d
 | 0,_=>pS HE hn
 | d+1,hd=>pK HE hao hn hnm hm d hd (qa HE hao hn hnm hm d (by omega))
theorem oM (P M : Int) (am : OA) (mn cm : Nat) (mod : LI) (N : Int) (a : OA) (n c : Nat) (L : LL) (w : World) (hmod : Ints w am mn mod) (hi : bY w a n L) :
  Calls prog 112 #[.agg #[.int .i64 P,.int .i64 M,.slice am mn cm,.int .i64 N,.slice a n c]] w (uL P M mod N L w):=by
 have hmf : ∀(fn : Fn) (first cap : Array Value) (w : World),(Instr.makeFunc fn first cap).run prog w = .ok (.func fn first cap) w:=λ_ _ _ _=>rfl;go_enter func112,ntmps112;go_wp2_with fail;obtain ⟨U,hU⟩ : ∃U : World,U=w.alloc (.cells #[.int .i64 P,.int .i64 M,.slice am mn cm,.int .i64 N,.slice a n c] 27):=⟨_,rfl⟩
 rw [<- hU];have hbU : JA w U:=by rw [hU];exact aA _ _
 have x0 : ba U w.heap.size [.int .i64 P,.int .i64 M,.slice am mn cm,.int .i64 N,.slice a n c]:=by rw [hU];exact Ja _ _ _ rfl
 have HX:=Z5 x0;clear hU x0;refine (dU P M am mn cm mod N a n c L U (hmod.aa hbU) (hi.aa hbU)).mono ?_;rintro e w1 ⟨rfl,hb1⟩;have hbw1:=I8 hbU hb1;by_cases hE : aZ P M mod N L=0;rotate_left
 ·have HE : Hid (fF P M mod N L=aZ P M mod N L):=EG hE;have Hne:=Z5 hE;have hE' : (aZ P M mod N L != 0)=true:=by simpa using hE
  clear hE;generalize aZ P M mod N L=er at *;go_wp2_with fail;go_ret2;exact ⟨hbw1,.inl ⟨by rw [HE.out];exact Hne.out,by rw [HE.out];rfl⟩⟩
 have x1:=HX.out.aa hb1;have c3:=x1.cell 3 rfl;by_cases h16 : 16<N
 ·have HE : Hid (fF P M mod N L=8):=by show _=_;rw [fF,EH hE,EH h16]
  have hd : decide (16<N)=true:=by simpa using h16
  rw [hE];clear hE h16 x1;go_wp2_with fail;go_ret2;exact ⟨hbw1,.inl ⟨by rw [HE.out];decide,by rw [HE.out];rfl⟩⟩
 have HE : Hid (fF P M mod N L=0):=by show _=_;rw [fF,EH hE,EG h16]
 have hd : decide (16<N)=false:=by simpa using h16
 obtain ⟨m,rfl,hm1,hm64,F,hR⟩:=dk hE;have hf:=(dq hE).1;have Hf:=Z5 hf;have hm16 : m<=16:=by omega
 have hn256 : n<=256:=by rw [<- hi.len];exact (eE hE).choose_spec.2.2.2.1
 rw [hE];have c0:=x1.cell 0 rfl;have c1:=x1.cell 1 rfl;have c2:=x1.cell 2 rfl;have hm1':=(hmod.aa hbU).aa hb1;clear hE x1 hf h16;go_wp2_with fail;refine (fD P M am mn cm mod w1 hm1').mono ?_;rintro e w2 (⟨hB,rfl,hb2⟩ | ⟨hB,b,rfl,hG,hbl,hb2⟩)
 ·rw [Hf.out] at hB;cases hB
 clear hB c0 c1 c2 c3;obtain ⟨G,hGe⟩ : ∃G,an P M.toNat mod=G:=⟨_,rfl⟩
 rw [hGe] at hG F hR;have HGe:=Z5 hGe;have HG:=Z5 hG;have HR:=Z5 hR;have x2:=(HX.out.aa hb1).aa hb2;have e3:=x2.cell 3 rfl;have hbw2:=I8 hbw1 hb2;obtain ⟨q,hq⟩ : ∃q,2 ^ m=q:=⟨_,rfl⟩
 have hq17 : q<=65536:=by rw [<- hq];exact FP (by omega) hm16
 have hq1 : 1<=q:=by rw [<- hq];exact Nat.one_le_two_pow
 have hpw:=CK (p:=m) (by omega);rw [hq] at hpw;have Hq:=Z5 hq;have hk16 : m<64:=by omega
 clear x2 hGe hG hR hq;go_upto_region 9 with fail;obtain ⟨W3,hW3⟩ : ∃W3 : World,W3=w2.alloc (.cells #[.pointer (some ⟨b,0,none⟩)] 90):=⟨_,rfl⟩
 rw [<- hW3];have hb3 : JA w2 W3:=by rw [hW3];exact aA _ _
 have g3 : ba W3 w2.heap.size [.pointer (some ⟨b,0,none⟩)]:=by rw [hW3];exact Ja _ _ _ rfl
 have G3:=Z5 g3;have f3:=aj hb3 e3;clear hW3 g3 e3;go_upto_region 11 with (at_make;refine bZ rfl _ _ 22 3 rfl (.int .i64 0) 8 underlying22 bh rfl q rfl rfl (by omega) (by unfold maxLen;omega) ?_;intro a4 w4 hown4 hb4 hge4 hlt4)
 have hown4w : w4.ownsRow w.heap.size 3 1 (.slice a4 q q) q ((List.replicate q (0 : Int)).map (Value.int .i64)):=by rw [Gg];exact aW hown4 (ET hbw2.size hb3.size)
 obtain ⟨W5,hW5⟩ : ∃W5 : World,W5=(w4.alloc (.cells #[.slice a4 q q] 22)).alloc (.cells #[.nilFunc] 206):=⟨_,rfl⟩
 rw [<- hW5];have hb5 : JA w4 W5:=by rw [hW5];exact fI _ _ _
 have o5 : ba W5 w4.heap.size [.slice a4 q q]:=by rw [hW5];exact (Ja _ _ _ rfl).alloc _
 have f5 : ba W5 (w4.heap.size+1) [.nilFunc]:=by rw [hW5];exact Ja _ _ _ (by simp)
 have hs5 : W5.heap.size=w4.heap.size+2:=by rw [hW5];simp
 clear hW5;have fc:=f5.cell 0 rfl;have ff:=f5.frozen 0;have hst : ∀(fn : Fn) (x y : Array Value),(store (⟨w4.heap.size+1,0,none⟩ : Addr) (.func fn x y)).run prog W5 = .ok () (W5.setCell ⟨w4.heap.size+1,0,none⟩ (.func fn x y)):=λfn x y=>by rw [run_store _ _ _ _ _ rfl,fc];simp [ff]
 have hb34:=I8 hb3 hb4;have hb35:=I8 hb34 hb5;have hb25 : JA w2 W5:=hb35;have hbw5:=I8 hbw2 hb25;have HE5:=Z5 (E6 hown4w (E6 hb5 (E6 o5 (E6 hs5 (E6 hb25 hbw5)))));have Hlt4:=Z5 (E6 hge4 hlt4);have Hg4:=Z5 (G3.out.aa hb4);clear hown4w hb5 o5 f5 hb34 hb35 hb25 hbw5 hown4 hb4 hge4 hlt4 f3;go_upto_region 12 with fail;obtain ⟨W6,hW6⟩ : ∃W6 : World,W6=W5.setCell ⟨w4.heap.size+1,0,none⟩ (.func (.func 181) #[] #[.pointer (some ⟨w.heap.size,0,none⟩),.pointer (some ⟨w4.heap.size,0,none⟩),.pointer (some ⟨w4.heap.size+1,0,none⟩),.pointer (some ⟨w2.heap.size,0,none⟩)]):=⟨_,rfl⟩
 rw [<- hW6];obtain ⟨hown4w,hb5,o5,hs5,hb25,hbw5⟩:=HE5.out;obtain ⟨hge4,hlt4⟩:=Hlt4.out;have hb56 : Below (w4.heap.size+1) W5 W6:=by rw [hW6];exact (EI _ _).setCell (p:=⟨w4.heap.size+1,0,none⟩) (EF _) _
 have fc6 : W6.cell? ⟨w4.heap.size+1,0,none⟩=some (.func (.func 181) #[] #[.pointer (some ⟨w.heap.size,0,none⟩),.pointer (some ⟨w4.heap.size,0,none⟩),.pointer (some ⟨w4.heap.size+1,0,none⟩),.pointer (some ⟨w2.heap.size,0,none⟩)]):=by rw [hW6];exact World.cell?_setCell_same' _ _ _ (by rw [fc];rfl)
 clear hW6 hst fc ff;have hs3 : W3.heap.size<=w4.heap.size:=by omega
 have hsz2:=hb3.size;have hb26 : JA w2 W6:=hb25.trans (hb56.mono (by omega));have hbw6 : JA w W6:=I8 hbw2 hb26;have hb46 : JA w4 W6:=hb5.trans (hb56.mono (by omega));have hs6 : w4.heap.size+2<=W6.heap.size:=by have:=hb56.size;omega
 have oc6 : W6.cell? ⟨w4.heap.size,0,none⟩=some (.slice a4 q q):=(hb56.cell (p:=⟨w4.heap.size,0,none⟩) (by show w4.heap.size<_;omega)).trans (o5.cell 0 rfl);have gc6 : W6.cell? ⟨w2.heap.size,0,none⟩=some (.pointer (some ⟨b,0,none⟩)):=by exact aj hb46 (Hg4.out.cell 0 rfl)
 have cc6 : W6.cell? ⟨w.heap.size,3,none⟩=some (.int .i64 m):=aj hb26 (((HX.out.aa hb1).aa hb2).cell 3 rfl);have cg6 : W6.cell? ⟨w.heap.size,4,none⟩=some (.slice a n c):=aj hb26 (((HX.out.aa hb1).aa hb2).cell 4 rfl);have hxlt : w.heap.size<U.heap.size:=HX.out.1;have hsz1:=hb1.size;have hsw2:=hb2.size;have hw2l : w2.heap.size<W3.heap.size:=G3.out.1;have hE : ∀V,aw W6 V (λy=>y=ah a4) (λy=>y=ah a4)->Ci V b G w.heap.size w4.heap.size (w4.heap.size+1) w2.heap.size m a4 (2 ^ m) q:=λV hV=>by
  refine ⟨hV.cell cc6 (by show ¬ w.heap.size=ah a4;omega),?_,hV.cell fc6 (by show ¬ w4.heap.size+1=ah a4;omega),hV.cell gc6 (by show ¬ w2.heap.size=ah a4;omega),?_⟩
  ·rw [Hq.out];exact hV.cell oc6 (by show ¬ w4.heap.size=ah a4;omega)
  ·refine HG.out V λx h1 h2=>?_;exact (hV.block x (by have:=hb26.size;omega) (by show ¬ x=ah a4;omega)).trans (hb26.block x h2)
 have hown6 : W6.ownsRow w.heap.size 3 1 (.slice a4 q q) q ((List.replicate q (0 : Int)).map (Value.int .i64)):=aY hown4w hb46;have hM6 : fZ (λy=>y=ah a4) W6 a n L:=(fZ.Dn hi λy hy=>by have h9:=hbw2.size;omega).aa hbw6;have hcall:=qa (B:=w.heap.size) (m:=m) hE (by omega) hm16 (EF m) (by omega) m (EF m) a n c L 0 (List.replicate q 0) W6 (Ji _ _) hM6 HR.out (by omega) (by rw [Hq.out];exact hown6) (by rw [Ge];exact Nat.one_pos);rw [Ge,Hq.out] at hcall;have Hcall : Hid (Calls prog 181 #[.slice a n c,.int .i64 0,.int .i64 0,.pointer (some ⟨w.heap.size,0,none⟩),.pointer (some ⟨w4.heap.size,0,none⟩),.pointer (some ⟨w4.heap.size+1,0,none⟩),.pointer (some ⟨w2.heap.size,0,none⟩)] W6
   λe V=>e = .returned (.tuple #[])/\V.ownsRow w.heap.size 3 1 (.slice a4 q q) q ((dA G.ops m m L 0 (List.replicate q 0)).map (Value.int .i64))/\aw W6 V (λy=>y=ah a4) (λy=>y=ah a4)):=hcall
 have Hoc : Hid (∀V,aw W6 V (λy=>y=ah a4) (λy=>y=ah a4)->V.cell? ⟨w4.heap.size,0,none⟩=some (.slice a4 q q)/\JA w V):=λV hV =>
  ⟨hV.cell oc6 (by show ¬ w4.heap.size=ah a4;omega),hbw6.trans (hV.below (λy hy=>by have h9:=hbw2.size;omega) hbw6.size)⟩
 have HP : Hid (∀V,V.ownsRow w.heap.size 3 1 (.slice a4 q q) q ((dA G.ops m m L 0 (List.replicate q 0)).map (Value.int .i64))->JA w V->uL P M mod m L w (.returned (.tuple #[.slice a4 q q,.int .i64 0])) V):=λV h1 h2=>by
  refine ⟨h2,.inr ⟨HE.out,a4,q,?_,?_⟩⟩
  ·rw [EM,Hq.out]
  ·rw [EM,Hq.out,gj,HGe.out,Hq.out];exact h1
 clear hcall hM6 hown6 hE hown4w hb5 o5 hb46 hb26 hbw6 hb56 oc6 gc6 cc6;go_wp2_with fail;refine Hcall.out.mono ?_;rintro e V ⟨rfl,hV1,hV2⟩;obtain ⟨k1,k2⟩:=Hoc.out V hV2;have HF:=Z5 (HP.out V hV1 k2);clear hV1 hV2 Hcall;go_wp2_with fail;go_ret2;exact HF.out
def eK (G : cC) (m : Nat) (L : LL) (S : LI) : LL:=o6 G.ops m L (aP false S m)
def kI (P M : Int) (mod : LI) (m : Nat) (L : LL) (S : LI) (w : World) (e : Ending) (w' : World) : Prop :=
 JA w w'/\((bI m S=false/\e = .returned (.tuple #[.agg #[.int .i64 0,.slice none 0 0],.int .i64 6])) \/
  (bI m S=true/\∃a1 c1,e = .returned (.tuple #[.agg #[.int .i64 m,.slice a1 (eK (an P M.toNat mod) m L S).length c1],.int .i64 0])/\bX w.heap.size w' a1 (eK (an P M.toNat mod) m L S).length (eK (an P M.toNat mod) m L S)))
theorem nI {P M : Int} {mod : LI} {m : Nat} {L : LL} (hB : bA P M mod=true) (hR : bx (an P M.toNat mod).El m L) (hm : m<=256) (hL : L.length<=256) : dC P M mod m L=0:=by
 unfold dC;rw [EH hB];unfold ed;rw [EG (by omega)];have h1 : gR m L=true:=by unfold gR;rw [Fs];intro r hr;have:=(hR r hr).1;simp;omega
 rw [EG (by rw [h1];decide)];have h2 : L.all (jj (an P M.toNat mod).q)=true:=by rw [Fs];intro r hr;unfold jj;rw [Fs];intro x hx;have:=(hR r hr).2 x hx;have h3 : 0<=x/\x<((an P M.toNat mod).q : Int):=this;unfold gZ;simp;exact h3
 rw [EH h2]
theorem Cm {P M : Int} {mod : LI} {m : Nat} {L : LL} (hE : aZ P M mod m L=0) : L.length<=m:=by obtain ⟨_,_,_,h4⟩:=dq hE;obtain ⟨_,h6⟩:=iE h4;rw [EM] at h6;rw [<- h6,fR];exact (e9 _ _ _).1
theorem ba.CS {w : World} {g : Nat} {x y : Value} (h : ba w g [x,y]) (u : Value) : ba (w.setCell ⟨g,0,none⟩ u) g [u,y]:=by
 have hc0:=h.cell 0 rfl;have hc1:=h.cell 1 rfl;refine ⟨by have:=h.1;simpa using this,λi v hv=>?_,λi=>by rw [Fp];exact h.2.2 i⟩;match i,hv with
 | 0,hv=>simp at hv;subst hv;exact EX w _ _ hc0
 | 1,hv=>simp at hv;subst hv;rw [EY _ _ _ _ (by simp)];exact hc1
 | i+2,hv=>simp at hv
theorem ba.DQ {w : World} {g : Nat} {x y : Value} (h : ba w g [x,y]) (u : Value) : ba (w.setCell ⟨g,1,none⟩ u) g [x,u]:=by
 have hc0:=h.cell 0 rfl;have hc1:=h.cell 1 rfl;refine ⟨by have:=h.1;simpa using this,λi v hv=>?_,λi=>by rw [Fp];exact h.2.2 i⟩;match i,hv with
 | 0,hv=>simp at hv;subst hv;rw [EY _ _ _ _ (by simp)];exact hc0
 | 1,hv=>simp at hv;subst hv;exact EX w _ _ hc1
 | i+2,hv=>simp at hv
def lu (m : Int) (D : LL) (w : World) (e : Ending) (w' : World) : Prop :=
 ∃a c,e = .returned (.tuple #[.agg #[.int .i64 m,.slice a D.length c],.int .i64 0])/\bX w.heap.size w' a D.length D/\JA w w'
theorem pX (P M : Int) (am : OA) (mn cm : Nat) (mod : LI) (m : Nat) (a : OA) (n c : Nat) (L : LL) (as' : OA) (ns cs : Nat) (S : LI) (w : World) (hmod : Ints w am mn mod) (hi : bY w a n L) (hs : Ints w as' ns S)
  (hE : aZ P M mod m L=0) :
  Calls prog 63 #[.agg #[.int .i64 P,.int .i64 M,.slice am mn cm],.agg #[.int .i64 m,.slice a n c],.slice as' ns cs] w (kI P M mod m L S w):=by
 obtain ⟨N',em,hm1,hm64,F,hR⟩:=dk hE;obtain rfl : m=N':=by omega
 obtain ⟨hB,_,_,hE4⟩:=dq hE;have hle:=Cm hE;have hnl : L.length=n:=hi.len;have hZl:=fB false S m;have hZm : ∀j,j<(aP false S m).length->0<=nth (aP false S m) j/\nth (aP false S m) j<m:=λj hj=>by obtain ⟨i,h1,h2,_⟩:=(eo m).1 (aO hj);omega
 have hPk : bx (an P M.toNat mod).El (aP false S m).length (L.map (bK (aP false S m))):=zU hR hZm;have hT:=j6 (Z:=aP false S m) F hR;have hK : bx (an P M.toNat mod).El L.length (fT (an P M.toNat mod).ops L.length ((List.range (aP false S m).length).map (aQ (L.map (bK (aP false S m)))))):=gw F hT;have hKl : (fT (an P M.toNat mod).ops L.length ((List.range (aP false S m).length).map (aQ (L.map (bK (aP false S m)))))).length<=L.length:=by unfold fT;have h1:=de F (iZ F (eA F hT) (dK F hT).1 (de F hT));have h2:=(e9 (an P M.toNat mod).ops (ek (an P M.toNat mod).ops L.length (fq (an P M.toNat mod).ops L.length ((List.range (aP false S m).length).map (aQ (L.map (bK (aP false S m)))))) (aB (an P M.toNat mod).ops ((List.range (aP false S m).length).map (aQ (L.map (bK (aP false S m))))) L.length).2 L.length) L.length).1;omega
 have hMr:=j9 F hR hK;have HC : Hid (∀V ao co,JA w V->Ints V ao (aP false S m).length (aP false S m)->Calls prog 129 #[.agg #[.int .i64 P,.int .i64 M,.slice am mn cm],.agg #[.int .i64 m,.slice a n c],.slice ao (aP false S m).length co] V (lu (aP false S m).length (L.map (bK (aP false S m))) V)):=λV ao co hV h1=>by refine (tK P M am mn cm mod m a n c L ao _ co _ V (hmod.aa hV) (hi.aa hV) h1 hE hZm (by omega)).mono ?_;rintro e w' ⟨a1,c1,rfl,h2,h3⟩;exact ⟨a1,c1,by rw [Fo,hnl],by rw [Fo,hnl];exact h2,h3⟩
 have HT : Hid (∀V a1 c1,JA w V->bY V a1 (L.map (bK (aP false S m))).length (L.map (bK (aP false S m)))->Calls prog 130 #[.agg #[.int .i64 P,.int .i64 M,.slice am mn cm],.agg #[.int .i64 ((aP false S m).length : Nat),.slice a1 (L.map (bK (aP false S m))).length c1]] V (lu n ((List.range (aP false S m).length).map (aQ (L.map (bK (aP false S m))))) V)):=λV a1 c1 hV h1=>by refine (pI P M am mn cm mod _ a1 _ c1 _ V (hmod.aa hV) h1 (nI hB hPk (by omega) (by rw [Fo];omega))).mono ?_;rintro e w' ⟨a2,c2,rfl,h2,h3⟩;exact ⟨a2,c2,by rw [Fo,Fo,HU,hnl],by rw [Fo,HU];exact h2,h3⟩
 have HK : Hid (∀V a1 c1,JA w V->bY V a1 ((List.range (aP false S m).length).map (aQ (L.map (bK (aP false S m))))).length ((List.range (aP false S m).length).map (aQ (L.map (bK (aP false S m)))))->Calls prog 131 #[.agg #[.int .i64 P,.int .i64 M,.slice am mn cm],.agg #[.int .i64 n,.slice a1 ((List.range (aP false S m).length).map (aQ (L.map (bK (aP false S m))))).length c1]] V (lu n (fT (an P M.toNat mod).ops L.length ((List.range (aP false S m).length).map (aQ (L.map (bK (aP false S m)))))) V)):=λV a1 c1 hV h1=>by rw [<- hnl];exact tT P M am mn cm mod L.length a1 _ c1 _ V (hmod.aa hV) h1 (nI hB hT (by omega) (by rw [Fo,HU];omega)) (by omega)
 have HM : Hid (∀V a1 c1,JA w V->bY V a1 (fT (an P M.toNat mod).ops L.length ((List.range (aP false S m).length).map (aQ (L.map (bK (aP false S m)))))).length (fT (an P M.toNat mod).ops L.length ((List.range (aP false S m).length).map (aQ (L.map (bK (aP false S m))))))->Calls prog 132 #[.agg #[.int .i64 P,.int .i64 M,.slice am mn cm],.agg #[.int .i64 n,.slice a1 (fT (an P M.toNat mod).ops L.length ((List.range (aP false S m).length).map (aQ (L.map (bK (aP false S m)))))).length c1],.agg #[.int .i64 m,.slice a n c]] V
   (lu m (pM (an P M.toNat mod).ops m (fT (an P M.toNat mod).ops L.length ((List.range (aP false S m).length).map (aQ (L.map (bK (aP false S m)))))) L) V)):=λV a1 c1 hV h1=>by refine (BU P M am mn cm mod n a1 _ c1 _ m a c L V (hmod.aa hV) h1 (hi.aa hV) hB (by rw [<- hnl];exact hK) hR (by omega) hm1 hm64 (by omega)).mono ?_;rintro e w' ⟨a2,c2,rfl,h2,h3⟩;exact ⟨a2,c2,by simp [pM],by simpa [pM] using h2,h3⟩
 have HN : Hid (∀V a1 c1,JA w V->bY V a1 (pM (an P M.toNat mod).ops m (fT (an P M.toNat mod).ops L.length ((List.range (aP false S m).length).map (aQ (L.map (bK (aP false S m)))))) L).length (pM (an P M.toNat mod).ops m (fT (an P M.toNat mod).ops L.length ((List.range (aP false S m).length).map (aQ (L.map (bK (aP false S m)))))) L) ->
   Calls prog 133 #[.agg #[.int .i64 P,.int .i64 M,.slice am mn cm],.agg #[.int .i64 m,.slice a1 (pM (an P M.toNat mod).ops m (fT (an P M.toNat mod).ops L.length ((List.range (aP false S m).length).map (aQ (L.map (bK (aP false S m)))))) L).length c1]] V λe w' =>
    ∃a2 c2 ap cp,e = .returned (.tuple #[.agg #[.int .i64 m,.slice a2 (eK (an P M.toNat mod) m L S).length c2],.slice ap (eK (an P M.toNat mod) m L S).length cp,.int .i64 0])/\bX V.heap.size w' a2 (eK (an P M.toNat mod) m L S).length (eK (an P M.toNat mod) m L S)/\JA V w'):=λV a1 c1 hV h1=>by
  refine (iO P M am mn cm mod m a1 _ c1 _ V (hmod.aa hV) h1).mono ?_;have hf:=nI hB hMr (by omega) (by simp [pM];omega);rintro e w' ⟨hb1,⟨h0,_⟩ | ⟨_,m',hm',a2,c2,ap,cp,rfl,hN1,_⟩⟩
  ·exact absurd hf h0
  ·obtain rfl : m=m':=by omega
   rw [<- fR] at hN1 ⊢;exact ⟨a2,c2,ap,cp,rfl,hN1,hb1⟩
 have HPost : Hid (∀a1 c1 w',bI m S=true->bX w.heap.size w' a1 (eK (an P M.toNat mod) m L S).length (eK (an P M.toNat mod) m L S)->JA w w'->kI P M mod m L S w (.returned (.tuple #[.agg #[.int .i64 m,.slice a1 (eK (an P M.toNat mod) m L S).length c1],.int .i64 0])) w'):=λa1 c1 w' h0 h1 h2=>⟨h2,.inr ⟨h0,a1,c1,rfl,h1⟩⟩
 have HErr : Hid (∀w',bI m S=false->JA w w'->kI P M mod m L S w (.returned (.tuple #[.agg #[.int .i64 0,.slice none 0 0],.int .i64 6])) w'):=λw' h0 h2=>⟨h2,.inl ⟨h0,rfl⟩⟩
 unfold lu at HC HT HK HM;obtain ⟨D5,hD5⟩ : ∃D,eK (an P M.toNat mod) m L S=D:=⟨_,rfl⟩
 rw [hD5] at HN HPost;obtain ⟨D4,hD4⟩ : ∃D,pM (an P M.toNat mod).ops m (fT (an P M.toNat mod).ops L.length ((List.range (aP false S m).length).map (aQ (L.map (bK (aP false S m)))))) L=D:=⟨_,rfl⟩
 rw [hD4] at HM HN;obtain ⟨D3,hD3⟩ : ∃D,fT (an P M.toNat mod).ops L.length ((List.range (aP false S m).length).map (aQ (L.map (bK (aP false S m)))))=D:=⟨_,rfl⟩
 rw [hD3] at HK HM;obtain ⟨D2,hD2⟩ : ∃D,(List.range (aP false S m).length).map (aQ (L.map (bK (aP false S m))))=D:=⟨_,rfl⟩
 rw [hD2] at HT HK;obtain ⟨D1,hD1⟩ : ∃D,L.map (bK (aP false S m))=D:=⟨_,rfl⟩
 rw [hD1] at HC HT;have HG1 : Hid (∀k : Nat,decide ((k : Int) ∈ S)=false->aP false S (k+1)=aP false S k ++ [(k : Int)]):=λk h=>by rw [aP,EH h]
 have HG2 : Hid (∀k : Nat,decide ((k : Int) ∈ S)=true->aP false S (k+1)=aP false S k):=λk h=>by rw [aP,EG (by rw [h];decide)]
 have HGl : Hid (∀k,(aP false S k).length<=k):=λk=>fB _ _ _;obtain ⟨Z,hZ⟩ : ∃Z,aP false S=Z:=⟨_,rfl⟩
 rw [hZ] at HC HT HG1 HG2 HGl;have HZ0 : Hid (Z 0=[]):=by rw [<- hZ];rfl
 clear hD1 hD2 hD3 hD4 hD5 hZ hMr hKl hK hT hPk hZm hZl hB F hR hE;have Hsl:=Z5 hs.len;have hpls:=hs.pl;have hmaxs:=hs.max;unfold maxLen at hmaxs;go_enter func63,ntmps63;go_wp2_with fail;obtain ⟨W,hW⟩ : ∃W : World,W=((w.alloc (.cells #[.int .i64 P,.int .i64 M,.slice am mn cm] 24)).alloc (.cells #[.int .i64 m,.slice a n c] 87)).alloc (.cells #[.int .i64 0,.slice none 0 0] 87):=⟨_,rfl⟩
 rw [<- hW];have hbW : JA w W:=by rw [hW];exact ph _ _ _ _
 have hsW : W.heap.size=w.heap.size+3:=by rw [hW];simp
 have x0 : ba W w.heap.size [.int .i64 P,.int .i64 M,.slice am mn cm]:=by rw [hW];exact ((Ja _ _ _ rfl).alloc _).alloc _
 have y0 : ba W (w.heap.size+1) [.int .i64 m,.slice a n c]:=by rw [hW];exact (Ja _ _ _ (by simp)).alloc _
 have z0 : ba W (w.heap.size+1+1) [.int .i64 0,.slice none 0 0]:=by rw [hW];exact Ja _ _ _ (by simp)
 have HS : Hid (∀V,JA W V->V.cell? ⟨w.heap.size,0,none⟩=some (.int .i64 P)/\V.cell? ⟨w.heap.size,1,none⟩=some (.int .i64 M)/\V.cell? ⟨w.heap.size,2,none⟩=some (.slice am mn cm)/\V.cell? ⟨w.heap.size+1,0,none⟩=some (.int .i64 m)/\V.cell? ⟨w.heap.size+1,1,none⟩=some (.slice a n c) /\
   V.cell? ⟨w.heap.size+1+1,0,none⟩=some (.int .i64 0)/\V.cell? ⟨w.heap.size+1+1,1,none⟩=some (.slice none 0 0)/\V.frozen? ⟨w.heap.size+1+1,0,none⟩=false/\V.frozen? ⟨w.heap.size+1+1,1,none⟩=false):=λV hV=>by have x1:=x0.aa hV;have y1:=y0.aa hV;have z1:=z0.aa hV;exact ⟨x1.cell 0 rfl,x1.cell 1 rfl,x1.cell 2 rfl,y1.cell 0 rfl,y1.cell 1 rfl,z1.cell 0 rfl,z1.cell 1 rfl,z1.frozen 0,z1.frozen 1⟩
 have HbW:=Z5 hbW;have HsW:=Z5 hsW;have HEr2 : Hid (∀V,bI m S=false->JA W V->kI P M mod m L S w (.returned (.tuple #[.agg #[.int .i64 0,.slice none 0 0],.int .i64 6])) ((V.setCell ⟨w.heap.size+1+1,0,none⟩ (.int .i64 0)).setCell ⟨w.heap.size+1+1,1,none⟩ (.slice none 0 0))):=λV h0 hV=>HErr.out _ h0 (((I8 hbW hV).setCell (p:=⟨w.heap.size+1+1,0,none⟩) (by simp;omega) _).setCell (p:=⟨w.heap.size+1+1,1,none⟩) (by simp;omega) _);clear hW x0 y0 z0;refine (kp P M am mn cm mod m a n c L W (hmod.aa hbW) (hi.aa hbW)).mono ?_;rintro e w1 ⟨hb1,⟨h0,_⟩ | ⟨_,m',b,em',ap,cp,rfl,_,_,_⟩⟩
 ·exact absurd hE4 h0
 obtain rfl : m=m':=by omega
 generalize (dD (an P M.toNat mod) L m).length=k9 at *;have HEs:=Z5 hE4;clear hE4;go_upto_region 4 with fail;obtain ⟨X,hX⟩ : ∃X,w1.alloc (.cells #[.pointer (some ⟨b,0,none⟩),.int .i64 m,.slice a n c,.slice ap k9 cp] 153)=X:=⟨_,rfl⟩
 rw [hX];have hbX : JA W X:=by rw [<- hX];exact I8 hb1 (aA _ _)
 clear hX hb1;obtain ⟨q0,q1,q2,q3,q4,z3,z4,f3,f4⟩:=HS.out X hbX;go_wp2_with fail;go_loop [32] (λiv=>∃j : Nat,j<=ns/\iv = .int .i64 j/\Hid (lM m S j=true)) (λiv=>ns - (intOf iv).toNat);case atStart=>exact ⟨0,EL _,rfl,by show _=_;simp [lM]⟩
 case round =>
  obtain ⟨j,hj,rfl,hok⟩:=hrel
  have hsX:=(hs.aa hbW).aa hbX
  by_cases hlt2 : j<ns
  ·have cj:=hsX.cell j hlt2
   have Hbad : Hid (fo m S j=false->bI m S=false):=λhb=>qW (by rw [Hsl.out];exact hlt2) hb
   by_cases h0 : 0<=nth S j
   ·by_cases h1 : nth S j<m
    ·have d1 : decide (nth S j<0)=false:=by simp;omega
     have d2 : decide ((m : Int)<=nth S j)=false:=by simp;omega
     by_cases hj0 : j=0
     ·subst hj0
      have Hgood : Hid (fo m S 0=true):=by show _=_;unfold fo;simp [h0,h1]
      rw [GY] at cj
      go_wp2_with fail
      go_round
      case rel=>exact ⟨1,by omega,by go_num,fK hok.out Hgood.out⟩
      case measure=>simp [intOf] <;> omega
     ·have cp':=hsX.cell (j - 1) (by omega)
      have e1 : ((j : Int) - 1).toNat=j - 1:=by omega
      have d3 : decide (0<(j : Int))=true:=by simp;omega
      have d4 : (0 : Int)<=(j : Int) - 1:=by omega
      have d5 : (1 : Int)<=(j : Int):=by omega
      have d6 : (j : Int) - 1<ns:=by omega
      by_cases h2 : nth S (j - 1)<nth S j
      ·have Hgood : Hid (fo m S j=true):=by show _=_;unfold fo;simp [h0,h1,h2]
       have h2' : decide (nth S j<=nth S (j - 1))=false:=by simp;omega
       clear hj0 e1
       go_wp2_with fail
       go_round
       case rel=>exact ⟨j+1,by omega,by go_num,fK hok.out Hgood.out⟩
       case measure=>simp [intOf] <;> omega
      ·have Hb : Hid (bI m S=false):=Hbad.out (by unfold fo;simp [h2,hj0])
       have h2' : decide (nth S j<=nth S (j - 1))=true:=by simp;omega
       clear hj0 e1
       have HR:=Z5 (HEr2.out X Hb.out hbX)
       go_wp2_with fail
       exact bodyPost_ret (v:=.tuple #[.agg #[.int .i64 0,.slice none 0 0],.int .i64 6]) (by simp [results,results63,go_sem,z3,z4]) rfl HR.out
    ·have Hb : Hid (bI m S=false):=Hbad.out (by unfold fo;simp [h1])
     have d1 : decide (nth S j<0)=false:=by simp;omega
     have d2 : decide ((m : Int)<=nth S j)=true:=by simp;omega
     have HR:=Z5 (HEr2.out X Hb.out hbX)
     go_wp2_with fail
     exact bodyPost_ret (v:=.tuple #[.agg #[.int .i64 0,.slice none 0 0],.int .i64 6]) (by simp [results,results63,go_sem,z3,z4]) rfl HR.out
   ·have Hb : Hid (bI m S=false):=Hbad.out (by unfold fo;simp [h0])
    have d1 : decide (nth S j<0)=true:=by simp;omega
    have HR:=Z5 (HEr2.out X Hb.out hbX)
    go_wp2_with fail
    exact bodyPost_ret (v:=.tuple #[.agg #[.int .i64 0,.slice none 0 0],.int .i64 6]) (by simp [results,results63,go_sem,z3,z4]) rfl HR.out
  ·obtain rfl : j=ns:=by omega
   have Hg : Hid (bI m S=true):=by show _=_;rw [bI,Hsl.out];exact hok.out
   have HP2 : Hid (∀a1 c1 w',bX w.heap.size w' a1 D5.length D5->JA w w'->kI P M mod m L S w (.returned (.tuple #[.agg #[.int .i64 m,.slice a1 D5.length c1],.int .i64 0])) w'):=λa1 c1 w' h1 h2=>HPost.out a1 c1 w' Hg.out h1 h2
   clear HPost HErr HEr2 z3 z4 f3 f4
   go_wp2_with fail
   go_loopw [12,62] (λov iv wr=>∃(k g : Nat) (a1 : OA) (c1 : Nat),k<=m/\iv = .int .i64 k/\Hid ((Z k).length=g)/\ov = .slice a1 g c1/\wr.ownsRow X.heap.size 3 1 (.slice a1 g c1) g ((Z k).map (Value.int .i64))/\JA X wr) (λ_ iv _=>m - (intOf iv).toNat)
   case atStart=>exact ⟨0,0,none,0,EL _,rfl,by show _=_;rw [HZ0.out];rfl,rfl,by rw [HZ0.out];exact bG,EI _ _⟩
   case round =>
    obtain ⟨k,g,a1,c1,hk,rfl,Hg2,rfl,hown,hbr⟩:=hrel
    by_cases hlt : k<m
    ·have hgk : g<=64:=by have h:=HGl.out k;rw [Hg2.out] at h;omega
     have hcont:=bJ as' j cs S k wr (hsX.aa hbr)
     have hG1:=HG1.out k
     have hG2:=HG2.out k
     obtain ⟨b2,hb2⟩ : ∃b2,decide ((k : Int) ∈ S)=b2:=⟨_,rfl⟩
     rw [hb2] at hcont hG1 hG2
     have Hcont:=Z5 hcont
     clear hb2 hcont
     cases b2
     ·have Hn:=Z5 (hG1 rfl)
      clear hG1 hG2
      have hsz:=hbr.size
      have hcn:=bk wr (.int .i64 k) 3
      have hbn:=aA wr (.cells #[.int .i64 k] 3)
      go_wp2_with (first | (go_at_call 58;refine Hcont.out.mono ?_;rintro e w3 ⟨rfl,rfl⟩) | (at_builtin;refine aX rfl _ _ 22 3 rfl (.int .i64 0) 8 underlying22 bh rfl X.heap.size a1 g c1 _ rfl (hown.alloc _) ⟨w3.heap.size,0,none⟩ 1 (.int .i64 k) rfl hcn rfl (by omega) (by unfold maxLen;omega) (by simp;omega) ?_;intro a5 c5 w5 hown5 hgr5 hap5))
      go_roundw
      case rel =>
       refine ⟨k+1,g+1,a5,c5,by omega,by go_num,by show _=_;rw [Hn.out,ER,Hg2.out];rfl,rfl,by rw [Hn.out];simpa using hown5,Jb (Jh hbr _) (hown.alloc _) hgr5 (EF _) (Jh hbr _).size⟩
      case measure=>simp [intOf] <;> omega
     ·have Hn:=Z5 (hG2 rfl)
      clear hG1 hG2
      go_wp2_with (go_at_call 58;refine Hcont.out.mono ?_;rintro e w3 ⟨rfl,rfl⟩)
      go_roundw
      case rel=>exact ⟨k+1,g,a1,c1,by omega,by go_num,by show _=_;rw [Hn.out];exact Hg2.out,rfl,by rw [Hn.out];exact hown,hbr⟩
      case measure=>simp [intOf] <;> omega
    ·obtain rfl : k=m:=by omega
     have HCx:=HC.out wr a1 c1 (I8 hbW (I8 hbX hbr)) (by rw [Hg2.out];exact (I9 hown).1)
     rw [Hg2.out] at HCx
     have HCX:=Z5 HCx
     rw [Hg2.out] at HT
     have hbXr:=I8 hbX hbr
     have HbXr:=Z5 hbXr
     obtain ⟨q0,q1,q2,q3,q4,z3,z4,f3,f4⟩:=HS.out wr hbXr
     generalize wr=Y at *
     obtain ⟨d1,hd1⟩ : ∃d,D1.length=d:=⟨_,rfl⟩
     obtain ⟨d2,hd2⟩ : ∃d,D2.length=d:=⟨_,rfl⟩
     obtain ⟨d3,hd3⟩ : ∃d,D3.length=d:=⟨_,rfl⟩
     obtain ⟨d4,hd4⟩ : ∃d,D4.length=d:=⟨_,rfl⟩
     obtain ⟨d5,hd5⟩ : ∃d,D5.length=d:=⟨_,rfl⟩
     rw [hd1] at HCX HT
     rw [hd2] at HT HK
     rw [hd3] at HK HM
     rw [hd4] at HM HN
     rw [hd5] at HN HP2
     have HYw : Hid (JA w Y):=I8 hbW hbXr
     have HYn : Hid (∀V,JA Y V->V.cell? ⟨w.heap.size,0,none⟩=some (.int .i64 P)/\V.cell? ⟨w.heap.size,1,none⟩=some (.int .i64 M)/\V.cell? ⟨w.heap.size,2,none⟩=some (.slice am mn cm)/\V.cell? ⟨w.heap.size+1,0,none⟩=some (.int .i64 k)/\V.cell? ⟨w.heap.size+1,1,none⟩=some (.slice a n c) /\
       V.cell? ⟨w.heap.size+1+1,0,none⟩=some (.int .i64 0)/\V.cell? ⟨w.heap.size+1+1,1,none⟩=some (.slice none 0 0)/\V.frozen? ⟨w.heap.size+1+1,0,none⟩=false/\V.frozen? ⟨w.heap.size+1+1,1,none⟩=false):=λV hV=>HS.out V (I8 hbXr hV)
     have hsY:=hbXr.size
     clear hown hbr hbXr hd1 hd2 hd3 hd4 hd5 HCx hsX q3 q4 z3 z4 f3 f4 q0 q1 q2 HS hbW HbW hbX
     go_upto_region 17 with fail
     go_cut [14,15] (λv14 v15 wx=>∃(q : Nat) (a5 : OA) (c5 : Nat),v14 = .pointer (some ⟨q,0,none⟩)/\v15 = .int .i64 0/\ba wx q [.int .i64 g,.slice a5 d1 c5]/\bX Y.heap.size wx a5 d1 D1/\Y.heap.size<=q/\JA Y wx)
     case first =>
      obtain ⟨q0,q1,q2,q3,q4,_⟩:=HYn.out Y (EI _ _)
      go_wp2_with fail
      refine HCX.out.mono ?_
      rintro e w3 ⟨a5,c5,rfl,hN5,hb5⟩
      clear q0 q1 q2 q3 q4
      go_wp2_with fail
      go_meet
      exact ⟨_,a5,c5,rfl,rfl,Ja _ _ _ rfl,hN5.aa (aA _ _),hb5.size,I8 hb5 (aA _ _)⟩
     obtain ⟨q,a5,c5,rfl,rfl,hBq,hN5,hq,hb5⟩:=hcut
     generalize wc=V1 at *
     have HT1:=Z5 (HT.out V1 a5 c5 (I8 HYw.out hb5) hN5.pA)
     clear hN5 HT HC HCX
     go_upto_region 20 with fail
     go_cut [14,15] (λv14 v15 wx=>∃(a5 : OA) (c5 : Nat),v14 = .pointer (some ⟨q,0,none⟩)/\ba wx q [.int .i64 n,.slice a5 d2 c5]/\bX V1.heap.size wx a5 d2 D2/\JA Y wx)
     case first =>
      obtain ⟨q0,q1,q2,q3,q4,_⟩:=HYn.out V1 hb5
      have g0:=hBq.cell 0 rfl
      have g1:=hBq.cell 1 rfl
      go_wp2_with fail
      refine HT1.out.mono ?_
      rintro e w3 ⟨a6,c6,rfl,hN6,hb6⟩
      clear q0 q1 q2 q3 q4 g0 g1
      have hBq3:=hBq.aa hb6
      have g0:=hBq3.cell 0 rfl
      have g1:=hBq3.cell 1 rfl
      have g2:=hBq3.frozen 0
      have g3:=hBq3.frozen 1
      obtain ⟨q0,q1,q2,q3,q4,_⟩:=HYn.out w3 (I8 hb5 hb6)
      have HF : Hid (ba ((w3.setCell ⟨q,0,none⟩ (.int .i64 n)).setCell ⟨q,1,none⟩ (.slice a6 d2 c6)) q [.int .i64 n,.slice a6 d2 c6]/\bX V1.heap.size ((w3.setCell ⟨q,0,none⟩ (.int .i64 n)).setCell ⟨q,1,none⟩ (.slice a6 d2 c6)) a6 d2 D2/\JA Y ((w3.setCell ⟨q,0,none⟩ (.int .i64 n)).setCell ⟨q,1,none⟩ (.slice a6 d2 c6))):=by have hqV : q<V1.heap.size:=hBq.1;refine ⟨(hBq3.CS _).DQ _,?_,((I8 hb5 hb6).setCell (p:=⟨q,0,none⟩) hq _).setCell (p:=⟨q,1,none⟩) hq _⟩;exact (hN6.setCell (p:=⟨q,0,none⟩) hqV _).setCell (p:=⟨q,1,none⟩) hqV _
      go_wp2_with fail
      go_meet
      first | exact ⟨a6,c6,rfl,HF.out.1,HF.out.2.1,HF.out.2.2⟩ | exact ⟨a6,c6,rfl,by simpa using HF.out.1,by simpa using HF.out.2.1,by simpa using HF.out.2.2⟩
     have hqV : q<V1.heap.size:=hBq.1
     obtain ⟨a6,c6,rfl,hBq2,hN6,hb6⟩:=hcut
     generalize wc=V2 at *
     have g0:=hBq2.cell 0 rfl
     have g2:=hBq2.frozen 0
     obtain ⟨q0,q1,q2,q3,q4,_⟩:=HYn.out V2 hb6
     have hB3:=hBq2.CS (.int .i64 n)
     have hN3:=(hN6.setCell (p:=⟨q,0,none⟩) hqV (.int .i64 n)).mono hb5.size
     have hb3:=hb6.setCell (p:=⟨q,0,none⟩) hq (.int .i64 n)
     clear hBq hb5 HT1 hN6
     go_upto_region 22 with fail
     clear q0 q1 q2 q3 q4 g0 g2 hBq2 hb6
     obtain ⟨V3,hV3⟩ : ∃V3,V2.setCell ⟨q,0,none⟩ (.int .i64 n)=V3:=⟨_,rfl⟩
     rw [hV3] at hB3 hN3 hb3 ⊢
     clear hV3
     have HK1:=Z5 (HK.out V3 a6 c6 (I8 HYw.out hb3) hN3.pA)
     clear hN3 HK
     go_cut [16,15] (λv16 v15 wx=>∃(q : Nat) (a5 : OA) (c5 : Nat),v16 = .pointer (some ⟨q,0,none⟩)/\v15 = .int .i64 0/\ba wx q [.int .i64 n,.slice a5 d3 c5]/\bX Y.heap.size wx a5 d3 D3/\Y.heap.size<=q/\JA Y wx)
     case first =>
      obtain ⟨q0,q1,q2,q3,q4,_⟩:=HYn.out V3 hb3
      have g0:=hB3.cell 0 rfl
      have g1:=hB3.cell 1 rfl
      go_wp2_with fail
      refine HK1.out.mono ?_
      rintro e w3 ⟨a5,c5,rfl,hN5,hb5⟩
      clear q0 q1 q2 q3 q4 g0 g1
      go_wp2_with fail
      go_meet
      have hs3:=hb3.size
      exact ⟨_,a5,c5,rfl,rfl,Ja _ _ _ rfl,(hN5.aa (aA _ _)).mono hs3,ET hs3 hb5.size,I8 (I8 hb3 hb5) (aA _ _)⟩
     clear hB3 hb3 HK1
     obtain ⟨qk,ak,ck,rfl,rfl,hBk,hNk,hqk,hbk⟩:=hcut
     generalize wc=V4 at *
     have HM1:=Z5 (HM.out V4 ak ck (I8 HYw.out hbk) hNk.pA)
     clear hNk HM
     go_upto_region 25 with fail
     go_cut [17,15] (λv17 v15 wx=>∃(q : Nat) (a5 : OA) (c5 : Nat),v17 = .pointer (some ⟨q,0,none⟩)/\v15 = .int .i64 0/\ba wx q [.int .i64 k,.slice a5 d4 c5]/\bX Y.heap.size wx a5 d4 D4/\Y.heap.size<=q/\JA Y wx)
     case first =>
      obtain ⟨q0,q1,q2,q3,q4,_⟩:=HYn.out V4 hbk
      have g0:=hBk.cell 0 rfl
      have g1:=hBk.cell 1 rfl
      go_wp2_with fail
      refine HM1.out.mono ?_
      rintro e w3 ⟨a5,c5,rfl,hN5,hb5⟩
      clear q0 q1 q2 q3 q4 g0 g1
      go_wp2_with fail
      go_meet
      have hs3:=hbk.size
      exact ⟨_,a5,c5,rfl,rfl,Ja _ _ _ rfl,(hN5.aa (aA _ _)).mono hs3,ET hs3 hb5.size,I8 (I8 hbk hb5) (aA _ _)⟩
     clear hBk hbk HM1
     obtain ⟨qm,am',cm',rfl,rfl,hBm,hNm,hqm,hbm⟩:=hcut
     generalize wc=V5 at *
     have HN1:=Z5 (HN.out V5 am' cm' (I8 HYw.out hbm) hNm.pA)
     clear hNm HN
     go_upto_region 28 with fail
     go_cut [18,15] (λv18 v15 wx=>∃(q : Nat) (a5 : OA) (c5 : Nat),v18 = .pointer (some ⟨q,0,none⟩)/\v15 = .int .i64 0/\ba wx q [.int .i64 k,.slice a5 d5 c5]/\bX Y.heap.size wx a5 d5 D5/\Y.heap.size<=q/\JA Y wx)
     case first =>
      obtain ⟨q0,q1,q2,q3,q4,_⟩:=HYn.out V5 hbm
      have g0:=hBm.cell 0 rfl
      have g1:=hBm.cell 1 rfl
      go_wp2_with fail
      refine HN1.out.mono ?_
      rintro e w3 ⟨a5,c5,apx,cpx,rfl,hN5,hb5⟩
      clear q0 q1 q2 q3 q4 g0 g1
      go_wp2_with fail
      go_meet
      have hs3:=hbm.size
      exact ⟨_,a5,c5,rfl,rfl,Ja _ _ _ rfl,(hN5.aa (aA _ _)).mono hs3,ET hs3 hb5.size,I8 (I8 hbm hb5) (aA _ _)⟩
     clear hBm hbm HN1
     obtain ⟨qc,ac,cc,rfl,rfl,hBc,hNc,hqc,hbc⟩:=hcut
     generalize wc=V6 at *
     have g0:=hBc.cell 0 rfl
     have g1:=hBc.cell 1 rfl
     obtain ⟨q0,q1,q2,q3,q4,z3,z4,f3,f4⟩:=HYn.out V6 hbc
     have hs6:=HsW.out
     have hsY2 : w.heap.size+3<=Y.heap.size:=by omega
     have HF:=Z5 (HP2.out ac cc ((V6.setCell ⟨w.heap.size+1+1,0,none⟩ (.int .i64 k)).setCell ⟨w.heap.size+1+1,1,none⟩ (.slice ac d5 cc))
      (((hNc.setCell (p:=⟨w.heap.size+1+1,0,none⟩) (by simp;omega) _).setCell (p:=⟨w.heap.size+1+1,1,none⟩) (by simp;omega) _).mono (by omega))
      (((I8 HYw.out hbc).setCell (p:=⟨w.heap.size+1+1,0,none⟩) (by simp;omega) _).setCell (p:=⟨w.heap.size+1+1,1,none⟩) (by simp;omega) _))
     clear hNc hBc q0 q1 q2 q3 q4
     go_wp2_with fail
     exact bodyPost_ret (v:=.tuple #[.agg #[.int .i64 k,.slice ac d5 cc],.int .i64 0]) (by simp [results,results63,go_sem,z3,z4]) rfl HF.out
def iP (l : LI) (n : Nat) : Nat->LI
 | 0=>List.replicate (n+1) 0
 | k+1=>(iP l n k).set (aR k n).length (max (nth (iP l n k) (aR k n).length) (nth l k))
def p6 (l : LI) (n : Nat) : LI:=iP l n (2 ^ n)
def zX (P M : Int) (mod : LI) (N : Int) (L : LL) (w : World) (e : Ending) (w' : World) : Prop :=
 JA w w'/\((fF P M mod N L ≠ 0/\e = .returned (.tuple #[.slice none 0 0,.int .i64 (fF P M mod N L)])) \/
  (fF P M mod N L=0/\∃a c,e = .returned (.tuple #[.slice a (N.toNat+1) c,.int .i64 0])/\w'.ownsRow w.heap.size 3 1 (.slice a (N.toNat+1) c) (N.toNat+1) ((p6 (gj (an P M.toNat mod).ops N.toNat L) N.toNat).map (Value.int .i64))))
theorem j7 {P M : Int} {mod : LI} {N : Int} {L : LL} (h : fF P M mod N L=0) : aZ P M mod N L=0/\1<=N/\N<=16:=by
 unfold fF at h;by_cases hE : aZ P M mod N L=0
 ·rw [EH hE] at h;obtain ⟨m,e,h1,_,_⟩:=dk hE;by_cases h2 : 16<N
  ·rw [EH h2] at h;cases h
  ·exact ⟨hE,by omega,by omega⟩
 ·rw [EG hE] at h;exact absurd h hE
theorem mQ (P M : Int) (am : OA) (mn cm : Nat) (mod : LI) (N : Int) (a : OA) (n c : Nat) (L : LL) (w : World) (hmod : Ints w am mn mod) (hi : bY w a n L) :
  Calls prog 51 #[.agg #[.int .i64 P,.int .i64 M,.slice am mn cm,.int .i64 N,.slice a n c]] w (zX P M mod N L w):=by
 go_enter func51,ntmps51;go_wp2_with fail;obtain ⟨U,hU⟩ : ∃U : World,U=w.alloc (.cells #[.int .i64 P,.int .i64 M,.slice am mn cm,.int .i64 N,.slice a n c] 27):=⟨_,rfl⟩
 rw [<- hU];have hbU : JA w U:=by rw [hU];exact aA _ _
 have x0 : ba U w.heap.size [.int .i64 P,.int .i64 M,.slice am mn cm,.int .i64 N,.slice a n c]:=by rw [hU];exact Ja _ _ _ rfl
 have HX:=Z5 x0;clear hU x0;refine (oM P M am mn cm mod N a n c L U (hmod.aa hbU) (hi.aa hbU)).mono ?_;rintro e w1 ⟨hb1,⟨hE,rfl⟩ | ⟨hE,a1,c1,rfl,hown⟩⟩
 ·obtain ⟨er,her⟩ : ∃er,fF P M mod N L=er:=⟨_,rfl⟩
  have Her:=Z5 her;rw [her] at hE ⊢;have Hne:=Z5 hE;have hE' : (er != 0)=true:=by simpa using hE
  have hF:=I8 hbU hb1;clear hE her;go_wp2_with fail;go_ret2;exact ⟨hF,.inl ⟨by rw [Her.out];exact Hne.out,by rw [Her.out];rfl⟩⟩
 obtain ⟨hc0,hN1,hN16⟩:=j7 hE;obtain ⟨m,rfl⟩ : ∃m : Nat,N=m:=⟨N.toNat,by omega⟩
 have hm16 : m<=16:=by omega
 have HE:=Z5 hE;rw [EM] at hown ⊢;obtain ⟨l,hl⟩ : ∃l,gj (an P M.toNat mod).ops m L=l:=⟨_,rfl⟩
 rw [hl] at hown;have Hl:=Z5 hl;obtain ⟨q,hq⟩ : ∃q,2 ^ m=q:=⟨_,rfl⟩
 have hq17 : q<=65536:=by rw [<- hq];exact FP (by omega) hm16
 have HL : Hid (∀x,x<q->∀V,Calls prog 116 #[.int .i64 x] V (cB V (aR x m))):=λx hx V=>qF x m (by rw [hq];exact hx) hm16 V;rw [hq] at hown ⊢;have Hq:=Z5 hq;have x1:=HX.out.aa hb1;have c3:=x1.cell 3 rfl;have hi1:=(I9 hown).1;have hpl1:=hi1.pl;have hbw1:=I8 hbU hb1;have Ho:=Z5 hown;clear hE hc0 x1 hl hq hown;obtain ⟨m1,hm1⟩ : ∃m1,m+1=m1:=⟨_,rfl⟩
 have em : (m : Int)+1=(m1 : Int):=by omega
 have Hm1:=Z5 hm1;have hm1b : m1<=17:=by omega
 have hml : m<m1:=by omega
 clear hm1;go_wp2_with (at_make;refine bZ rfl _ _ 22 3 rfl (.int .i64 0) 8 underlying22 bh rfl m1 rfl rfl (by omega) (by unfold maxLen;omega) ?_;intro a4 w4 hown4 hb4 hge4 hlt4);have hb4w : JA w1 w4:=hb4;have hown4' : w4.ownsRow w1.heap.size 3 1 (.slice a4 m1 m1) m1 (List.replicate m1 (.int .i64 0)):=hown4;clear hown4 hb4;go_loopw [24] (λiv wr=>∃k : Nat,k<=q/\iv = .int .i64 k/\wr.ownsRow w1.heap.size 3 1 (.slice a4 m1 m1) m1 ((iP l m k).map (Value.int .i64))/\JA w1 wr) (λiv _=>q - (intOf iv).toNat);case atStart=>exact ⟨0,EL _,rfl,by rw [iP,Hm1.out,Gg];exact hown4',hb4w⟩
 case round =>
  obtain ⟨k,hk,rfl,hown,hbr⟩:=hrel
  by_cases hlt : k<q
  ·have ck:=(hi1.aa hbr).cell k hlt
   have Hlist:=Z5 (HL.out k hlt wr)
   have hbl:=kB k m
   obtain ⟨s,hs⟩ : ∃s,aR k m=s:=⟨_,rfl⟩
   have Hst : Hid (iP l m (k+1)=(iP l m k).set s.length (max (nth (iP l m k) s.length) (nth l k))):=by show _=_;rw [iP,hs]
   rw [hs] at Hlist hbl
   clear hs
   have hsl : s.length<m1:=by omega
   have hsl' : (s.length : Int)<(m1 : Int):=by omega
   generalize iP l m k=out at *
   have Hown:=Z5 hown
   clear hown
   go_wp2_with (go_at_call 116;refine Hlist.out.mono ?_;rintro e w5 ⟨a5,c5,rfl,hown5,hb5⟩;have hownr:=aY Hown.out hb5;obtain ⟨ir,mr⟩:=I9 hownr;have hplr:=ir.pl;have cir:=ir.cell s.length (by omega);have fir:=(mr (by omega)).2 s.length (by omega);have hBr:=(mr (by omega)).1;clear hown5)
   go_roundw
   case rel =>
    refine ⟨k+1,by omega,by go_num,?_,?_⟩
    ·rw [Hst.out,Ff]
     have h1:=bz hownr s.length (by omega) (.int .i64 (max (nth out s.length) (nth l k)))
     first | exact h1 | simpa using h1
    ·first | exact (I8 hbr hb5).setCell hBr _ | exact ((I8 hbr hb5).setCell (p:=⟨ah a4,aG a4+s.length,none⟩) hBr _)
   case measure=>simp [intOf] <;> omega
  ·obtain rfl : k=q:=by omega
   have hF:=I8 hbw1 hbr
   have Hown:=Z5 hown
   clear hown
   go_wp2_with fail
   go_ret2
   refine ⟨hF,.inr ⟨HE.out,a4,m1,by rw [EM,Hm1.out];rfl,?_⟩⟩
   rw [EM,Hl.out,p6,Hq.out,Hm1.out]
   exact aW Hown.out hbw1.size
def nq (O : aL) (L : LL) (m : Nat) (S : LI) : Int:=(L.length : Int) - (lC O L (aP false S m) : Nat)
def pD (O : aL) (L : LL) (m : Nat) (r : Int) (t : LI) : Bool:=decide (r<=nq O L m t)
def jy (O : aL) (L : LL) (m : Nat) (r : Int) : LI:=((nT m).find? (pD O L m r)).getD []
end Go.Proofs.YtjfiflldinnhmaaGreat
