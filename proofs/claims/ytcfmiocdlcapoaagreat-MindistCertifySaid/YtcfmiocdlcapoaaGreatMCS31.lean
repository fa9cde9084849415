import Derived.Test.YtcfmiocdlcapoaaGreatMCS29
import Derived.Test.YtcfmiocdlcapoaaGreatMCS28
import Derived.Test.YtcfmiocdlcapoaaGreatMCS26
namespace Go.Proofs.YtcfmiocdlcapoaaGreat
set_option linter.all false
set_option maxRecDepth 100000
set_option maxHeartbeats 16000000
open Go.RowKit Go.Proofs.Tryz
theorem yd (P M : Int) (am : OA) (mn cm : Nat) (mod : Lz) (N : Int) (a : OA) (n c : Nat) (L : Ll) (mm W : Int) (w : World) (hmod : Ints w am mn mod) (hi : ch w a n L) :
  Calls prog 186 #[.agg #[.int .i64 P,.int .i64 M,.slice am mn cm,.int .i64 N,.slice a n c],.int .i64 mm,.int .i64 W] w λe w'=>e = .returned (.int .i64 (dB P M mod N L mm W))/\NS w w':=by
 have Hil:=Z5 hi.len;go_enter func186,ntmps186;go_wp2_with fail;obtain ⟨U,hU⟩ : ∃U : World,U=w.alloc (.cells #[.int .i64 P,.int .i64 M,.slice am mn cm,.int .i64 N,.slice a n c] 27):=⟨_,rfl⟩
 rw [<- hU];have hbU : NS w U:=by rw [hU];exact aw _ _
 have x0 : aZ U w.heap.size [.int .i64 P,.int .i64 M,.slice am mn cm,.int .i64 N,.slice a n c]:=by rw [hU];exact Nj _ _ _ rfl
 have HX:=Z5 x0;clear hU x0;refine (gH P M am mn cm mod N a n c L U (hmod.aa hbU) (hi.aa hbU)).mono ?_;rintro e w1 ⟨rfl,hb1⟩;have hbF:=Nh hbU hb1;have x1:=HX.out.aa hb1;have c3:=x1.cell 3 rfl;have c4:=x1.cell 4 rfl;clear x1;by_cases hE : aJ P M mod N L=0
 ·have HE : Hid (dB P M mod N L mm W=if mm<0\/(n : Int)<mm\/W<0\/N<W then 6 else 0):=by show _=_;rw [dB,I6 hE,Hil.out]
  rw [hE];clear hE;by_cases h1 : mm<0
  ·have HE2 : Hid (dB P M mod N L mm W=6):=by show _=_;rw [HE.out,I6 (.inl h1)]
   have d1 : decide (mm<0)=true:=by simpa using h1
   clear h1;go_wp2_with fail;go_ret;exact ⟨by rw [HE2.out];rfl,hbF⟩
  have d1 : decide (mm<0)=false:=by simpa using h1
  by_cases h2 : (n : Int)<mm
  ·have HE2 : Hid (dB P M mod N L mm W=6):=by show _=_;rw [HE.out,I6 (.inr (.inl h2))]
   have d2 : decide ((n : Int)<mm)=true:=by simpa using h2
   clear h1 h2;go_wp2_with fail;go_ret;exact ⟨by rw [HE2.out];rfl,hbF⟩
  have d2 : decide ((n : Int)<mm)=false:=by simpa using h2
  by_cases h3 : W<0
  ·have HE2 : Hid (dB P M mod N L mm W=6):=by show _=_;rw [HE.out,I6 (.inr (.inr (.inl h3)))]
   have d3 : decide (W<0)=true:=by simpa using h3
   clear h1 h2 h3;go_wp2_with fail;go_ret;exact ⟨by rw [HE2.out];rfl,hbF⟩
  have d3 : decide (W<0)=false:=by simpa using h3
  by_cases h4 : N<W
  ·have HE2 : Hid (dB P M mod N L mm W=6):=by show _=_;rw [HE.out,I6 (.inr (.inr (.inr h4)))]
   have d4 : decide (N<W)=true:=by simpa using h4
   clear h1 h2 h3 h4;go_wp2_with fail;go_ret;exact ⟨by rw [HE2.out];rfl,hbF⟩
  have d4 : decide (N<W)=false:=by simpa using h4
  have HE2 : Hid (dB P M mod N L mm W=0):=by
   show _=_;rw [HE.out,I5];rintro (h | h | h | h)
   ·exact h1 h
   ·exact h2 h
   ·exact h3 h
   ·exact h4 h
  clear h1 h2 h3 h4;go_wp2_with fail;go_ret;exact ⟨by rw [HE2.out];rfl,hbF⟩
 ·have HE : Hid (dB P M mod N L mm W=aJ P M mod N L):=I5 hE;have hE1 : (aJ P M mod N L == 0)=false:=by simpa using hE
  clear hE;generalize aJ P M mod N L=er at *;go_wp2_with fail;go_ret;exact ⟨by rw [HE.out];rfl,hbF⟩
theorem FL {P M : Int} {mod : Lz} {N : Int} {L : Ll} {mm W : Int} (h : dB P M mod N L mm W=0) : aJ P M mod N L=0/\1<=N/\N<=64/\0<=mm/\mm<=L.length/\0<=W/\W<=N:=by
 have hE:=lh h;obtain ⟨_,h1,h2,_⟩:=bl hE;unfold dB at h;rw [I6 hE] at h;by_cases hx : mm<0\/(L.length : Int)<mm\/W<0\/N<W
 ·rw [I6 hx] at h;cases h
 ·refine ⟨hE,h1,h2,?_,?_,?_,?_⟩ <;> (refine JE λhh=>hx ?_)
  ·exact .inl (by omega)
  ·exact .inr (.inl (by omega))
  ·exact .inr (.inr (.inl (by omega)))
  ·exact .inr (.inr (.inr (by omega)))
def lR.I (σ : lR) (x : Nat) : Prop:=bS σ.ar σ.R x
def qL (B : Nat) (σ : lR) (V : Int × Ll) (w : World) (e : Ending) (w' : World) : Prop :=
 (V.1=0/\∃σ' : lR,aP w' B σ'.ar σ'.T.length σ'.cr σ'.R σ'.T/\σ'.T=V.2/\σ'.T.length<=65536/\aA w w' σ.I σ'.I/\e = .returned (.tuple #[.slice σ'.ar σ'.T.length σ'.cr,.int .i64 0])) \/
 (V.1 ≠ 0/\∃I',aA w w' σ.I I'/\e = .returned (.tuple #[.slice none 0 0,.int .i64 V.1]))
theorem aP.more {V w5 : World} {B : Nat} {σ : lR} (h : aP V B σ.ar σ.T.length σ.cr σ.R σ.T)
  {a3 : OA} {c3 : Nat} {t : Lz} (hr : V.ownsRow B 3 1 (.slice a3 t.length c3) t.length (t.map (Value.int .i64))) (hra : a3 ≠ none->¬ σ.I (aj a3)) {o : Obj}
  {a5 : OA} {c5 : Nat} (hown : w5.ownsRow B 22 1 (.slice a5 (σ.T.length+1) c5) (σ.T.length+1) (List.zipWith eY σ.R σ.T ++ [.slice a3 t.length c3])) (hg : (V.alloc o).grownBy w5 (Value.slice σ.ar σ.T.length σ.cr).ownBlock)
  (hap : ∀b,b<(V.alloc o).heap.size->cJ σ.ar b->cJ a5 b) :
  aP w5 B a5 (σ.T.length+1) c5 (σ.R ++ [(a3,c3)]) (σ.T ++ [t])/\aA V w5 (λx=>σ.I x\/(a3 ≠ none/\x=aj a3)) (λx=>bS a5 (σ.R ++ [(a3,c3)]) x):=by
 have hal:=aw V o;have hO1 : aP (V.alloc o) B σ.ar σ.T.length σ.cr σ.R σ.T:=h.aa hal;refine ⟨Ny hO1 (aX hr hal) hra hown hg hap,?_⟩;have hM0 : aA V (V.alloc o) (λx=>σ.I x\/(a3 ≠ none/\x=aj a3)) (λx=>σ.I x\/(a3 ≠ none/\x=aj a3)):=Nn hal _;have hM1 : aA (V.alloc o) w5 (λx=>σ.I x\/(a3 ≠ none/\x=aj a3)) (λx=>σ.I x\/(a3 ≠ none/\x=aj a3)):=Nu hg λh0=>.inl (.inl ⟨h0,rfl⟩);have hM2:=hM0.trans hM1;refine ⟨hM2.os,hM2.tape,hM2.output,hM2.size,hM2.block,λx hx=>?_⟩;rcases NO hO1 hap hx with h1 | h1 | h1
 ·exact .inl (.inl h1)
 ·exact .inl (.inr h1)
 ·exact .inr (Ji hal.size h1)
def yF (U V : World) (I : Nat->Prop) : Prop:=∃I',aA U V I I'
theorem yF.below {U V : World} {I : Nat->Prop} (h : NS U V) : yF U V I:=⟨_,Nn h _⟩
def Gm (B : Nat) (σ : lR) (V : Int × Ll) (er : Int) (w : World) (rv : Value) (w' : World) : Prop :=
 (er=0/\∃σ' : lR,aP w' B σ'.ar σ'.T.length σ'.cr σ'.R σ'.T/\σ'.T=V.2/\σ'.T.length<=65536/\aA w w' σ.I σ'.I/\rv = .slice σ'.ar σ'.T.length σ'.cr) \/
 (er ≠ 0/\∃I',aA w w' σ.I I'/\rv = .slice none 0 0)
theorem qL.split {B : Nat} {σ : lR} {V : Int × Ll} {w w' : World} {e : Ending} (h : qL B σ V w e w') : ∃rv,e = .returned (.tuple #[rv,.int .i64 V.1])/\Gm B σ V V.1 w rv w':=by
 rcases h with ⟨h1,σ',g1,g2,g3,g4,rfl⟩ | ⟨h1,I',g4,rfl⟩
 ·exact ⟨_,by rw [h1],.inl ⟨h1,σ',g1,g2,g3,g4,rfl⟩⟩
 ·exact ⟨_,rfl,.inr ⟨h1,I',g4,rfl⟩⟩
theorem Gm.from {B : Nat} {σ : lR} {V : Int × Ll} {er : Int} {U w w' : World} {rv : Value} (h : Gm B σ V er w rv w') (hb : NS U w) : Gm B σ V er U rv w':=by
 rcases h with ⟨h1,σ',g1,g2,g3,g4,rfl⟩ | ⟨h1,I',g4,rfl⟩
 ·exact .inl ⟨h1,σ',g1,g2,g3,(Nn hb _).trans g4,rfl⟩
 ·exact .inr ⟨h1,I',(Nn hb _).trans g4,rfl⟩
theorem Gm.IY {B : Nat} {σ : lR} {V : Int × Ll} {er : Int} {w w' : World} {rv : Value} (h : Gm B σ V er w rv w') : yF w w' σ.I:=by
 rcases h with ⟨h1,σ',g1,g2,g3,g4,rfl⟩ | ⟨h1,I',g4,rfl⟩
 ·exact ⟨_,g4⟩
 ·exact ⟨_,g4⟩
theorem Cc (F : Lz->Lz->Ll->Int × Ll) (s z ks : Lz) {j : Nat} (hj : j<ks.length) (T : Ll) :
  eS F s (z ++ ks.take j) (ks.drop j) T=if (F (s ++ [nth ks j]) (z ++ ks.take j) T).1=0 then eS F s (z ++ ks.take (j+1)) (ks.drop (j+1)) (F (s ++ [nth ks j]) (z ++ ks.take j) T).2 else ((F (s ++ [nth ks j]) (z ++ ks.take j) T).1,[]):=by rw [show ks.drop j=nth ks j :: ks.drop (j+1) by rw [ai hj];exact Jt hj,eS,nN ks hj,JQ]
theorem mW (P M : Int) (am : OA) (mn cm : Nat) (mod : Lz) (m : Nat) (a : OA) (n c : Nat) (L : Ll) (ay : OA) (ny cy : Nat) (C : jg) (w0 : World)
  (hmod : Ints w0 am mn mod) (hi : ch w0 a n L) (hE : aJ P M mod m L=0) (cb : Bool) (hc : C.cos=cb) (hRight : Hid (CX P M am mn cm mod m a n c L ay ny cy C w0)) (hw6 : C.W<=64) (hm6 : m<=64) :
  ∀(d : Nat) (w : World) (σ : lR) (sa : OA) (ns cs : Nat) (s : Lz) (az : OA) (nz cz : Nat) (z : Lz),ns+d=C.W->nz<=64->NS w0 w->aP w w0.heap.size σ.ar σ.T.length σ.cr σ.R σ.T->σ.T.length<=65536 ->
   Ints w sa ns s->Ints w az nz z->(0<ns->¬ σ.I (aj sa))->(0<nz->¬ σ.I (aj az))->z.Nodup->(∀x ∈ z,0<=x/\x<(m : Int)) ->
   Calls prog 187 #[oy P M am mn cm m a n c ay ny cy C,.slice sa ns cs,.slice az nz cz,.slice σ.ar σ.T.length σ.cr] w (qL w0.heap.size σ (gn (ah P M.toNat mod).ops L m C d s z σ.T) w)
 | d,w,σ,sa,ns,cs,s,az,nz,cz,z,hd,hnz,hb,hO,hTl,hs,hz,hsp,hzp,hzn,hzb=>by
  have IH : Hid (∀d',d'+1=d->∀(w : World) (σ : lR) (sa : OA) (ns cs : Nat) (s : Lz) (az : OA) (nz cz : Nat) (z : Lz),ns+d'=C.W->nz<=64->NS w0 w->aP w w0.heap.size σ.ar σ.T.length σ.cr σ.R σ.T->σ.T.length<=65536 ->
   Ints w sa ns s->Ints w az nz z->(0<ns->¬ σ.I (aj sa))->(0<nz->¬ σ.I (aj az))->z.Nodup->(∀x ∈ z,0<=x/\x<(m : Int)) ->
   Calls prog 187 #[oy P M am mn cm m a n c ay ny cy C,.slice sa ns cs,.slice az nz cz,.slice σ.ar σ.T.length σ.cr] w (qL w0.heap.size σ (gn (ah P M.toNat mod).ops L m C d' s z σ.T) w)):=λd' hd'=>by subst hd';exact mW P M am mn cm mod m a n c L ay ny cy C w0 hmod hi hE cb hc hRight hw6 hm6 d'
  have Hsl:=Z5 hs.len;have Hzl:=Z5 hz.len;obtain ⟨RF,hRF⟩ : ∃RF,gn (ah P M.toNat mod).ops L m C d s z σ.T=RF:=⟨_,rfl⟩
  rw [hRF];have HRF:=Z5 hRF;have Hz:=Z5 (Jg hzn hzb);have Hmod:=Z5 hmod;have Hi:=Z5 hi;have HE:=Z5 hE;have HO:=Z5 hO;have Hb:=Z5 hb;have HTl:=Z5 hTl;have HI0:=Z5 (Jg hs hz);have HI1:=Z5 (Jg hsp hzp);have hns : ns<=64:=by omega
  obtain ⟨Ot,hOt⟩ : ∃Ot,iz m s z=Ot:=⟨_,rfl⟩
  have hol:=xp m s z;rw [hOt,Hzl.out] at hol;have hoin : pA m Ot:=λj hj=>by
   have h0:=aK hj;have h00 : nth Ot j ∈ iz m s z:=by rw [hOt];exact h0
   rcases nJ h00 with h1 | h1
   ·exact hzb _ h1
   ·exact ⟨h1.1,h1.2.1⟩
  obtain ⟨mo,hmo⟩ : ∃mo,C.M=mo:=⟨_,rfl⟩
  obtain ⟨t,hte⟩ : ∃t,eg (ah P M.toNat mod).ops L m C s z=t:=⟨_,rfl⟩
  obtain ⟨mt,hmt⟩ : ∃mt,(if C.cos=true then m else C.M)=mt:=⟨_,rfl⟩
  have Hmt : Hid (mt=if cb=true then m else mo):=by show _=_;rw [<- hmt,hc,hmo]
  have htS : bA (sl (ah P M.toNat mod).ops L Ot mt)=t:=by rw [<- hte,eg,hOt,hmt]
  have hcn : t.Nodup/\∀x ∈ t,0<=x/\x<(m : Int):=by
   rw [<- hte];refine ⟨qV hzn,λx hx=>?_⟩;rcases nJ (vh x (wC.1 hx)) with h1 | h1
   ·exact hzb x h1
   ·exact ⟨h1.1,h1.2.1⟩
  have htl : t.length<=64:=Ji (jf hcn.1 hcn.2) hm6;obtain ⟨tl,htle⟩ : ∃tl,t.length=tl:=⟨_,rfl⟩
  have hgl : (sl (ah P M.toNat mod).ops L Ot mt).length=tl:=by rw [<- htle,<- htS,dy]
  have hpk : ∀no,Ot.length=no->gr (pN (ah P M.toNat mod).ops L) Ot mt no=sl (ah P M.toNat mod).ops L Ot mt:=λno h=>by obtain ⟨m',e,_,_,F,hR⟩:=br hE;rw [<- h];exact Gf F hR Ot mt
  have Hte:=Z5 hte;have Hcn:=Z5 hcn;have Hmo:=Z5 hmo;rw [htle] at htl;obtain ⟨ol,hole⟩ : ∃ol,Ot.length=ol:=⟨_,rfl⟩
  rw [hole] at hol;obtain ⟨fl,hfle⟩ : ∃fl,(bz false (s ++ z) m).length=fl:=⟨_,rfl⟩
  have hfo : nz+fl=ol:=by rw [<- hole,<- hOt,iz,Jh,dy,Hzl.out,hfle]
  have HPk : Hid (∀V ao co,NS w V->Ints V ao ol Ot->Calls prog 104 #[.agg #[.int .i64 P,.int .i64 M,.slice am mn cm],.slice a n c,.slice ao ol co,.int .i64 mt] V λe w' =>
    ∃a1 c1,e = .returned (.slice a1 tl c1)/\w'.ownsRow V.heap.size 3 1 (.slice a1 tl c1) tl (t.map (Value.int .i64))/\NS V w'):=λV ao co hV ho=>by have h5:=o5 P M am mn cm mod m a n c L ao ol co Ot mt V (hmod.aa (hb.trans (hV.mono hb.size))) (hi.aa (hb.trans (hV.mono hb.size))) ho hE hoin (by omega);rw [hpk ol hole,hgl,htS] at h5;exact h5
  have HSo : Hid (∀V,NS w V->Calls prog 105 #[.slice az nz cz] V λe w'=>∃a1 c1,e = .returned (.slice a1 nz c1)/\Ints w' a1 nz (bA z)/\NS V w'):=λV hV=>by refine (j9 az nz cz z V (hz.aa hV) (by omega)).mono ?_;rintro e w' ⟨a1,c1,rfl,ho,hbw⟩;exact ⟨a1,c1,rfl,(Ni ho).1,hbw⟩
  have HWi : Hid (∀V,NS w V->Calls prog 236 #[.slice sa ns cs,.slice az nz cz] V λe w'=>∃a1 c1,e = .returned (.slice a1 (ns+nz) c1)/\Ints w' a1 (ns+nz) (s ++ z)/\NS V w'):=λV hV=>by refine (jm sa ns cs s az nz cz z V (hs.aa hV) (hz.aa hV) (by omega) (by omega)).mono ?_;rintro e w' ⟨a1,c1,rfl,ho,hbw⟩;exact ⟨a1,c1,rfl,(Ni ho).1,hbw⟩
  have HOt : Hid (∀V a1 c1,Ints V a1 (ns+nz) (s ++ z)->Calls prog 103 #[.slice a1 (ns+nz) c1,.int .i64 m] V λe w'=>∃a2 c2,e = .returned (.slice a2 fl c2)/\Ints w' a2 fl (bz false (s ++ z) m)/\NS V w'):=λV a1 c1 h1=>by refine (mf a1 (ns+nz) c1 (s ++ z) m V h1 (by omega)).mono ?_;rintro e w' ⟨a2,c2,rfl,ho,hbw⟩;rw [hfle] at ho;exact ⟨a2,c2,by rw [hfle],(Ni ho).1,hbw⟩
  have HW2 : Hid (∀V a1 c1 a2 c2,Ints V a1 nz (bA z)->Ints V a2 fl (bz false (s ++ z) m)->Calls prog 236 #[.slice a1 nz c1,.slice a2 fl c2] V λe w'=>∃a3 c3,e = .returned (.slice a3 ol c3)/\Ints w' a3 ol Ot/\NS V w'):=λV a1 c1 a2 c2 h1 h2=>by refine (jm a1 nz c1 _ a2 fl c2 _ V h1 h2 (by omega) (by omega)).mono ?_;rintro e w' ⟨a3,c3,rfl,ho,hbw⟩;have h5:=(Ni ho).1;rw [hfo,show bA z ++ bz false (s ++ z) m=Ot from hOt] at h5;exact ⟨a3,c3,by rw [hfo],h5,hbw⟩
  obtain ⟨rr,hrr⟩ : ∃rr,dq (ah P M.toNat mod).ops L m C s t=rr:=⟨_,rfl⟩
  have HRt0 : ∀V at' ct,NS w V->Ints V at' tl t->Calls prog 237 #[oy P M am mn cm m a n c ay ny cy C,.slice sa ns cs,.slice at' tl ct] V λe w'=>e = .returned (.bool rr)/\NS V w':=λV at' ct hV ht=>by have hbV:=hb.trans (hV.mono hb.size);rw [<- hrr];exact hRight.out V sa ns cs s at' tl ct t (by omega) hbV (hs.aa hV) ht
  have Hrr:=Z5 hrr;unfold oy at HRt0;rw [hc,hmo] at HRt0;have HRt:=Z5 HRt0;unfold oy;rw [hc,hmo];have Hc:=Z5 hc;have Htle:=Z5 htle;obtain ⟨Tl,hTle⟩ : ∃Tl,σ.T.length=Tl:=⟨_,rfl⟩
  rw [hTle];rw [hTle] at hTl;have HTle:=Z5 hTle;clear hRF hmod hi hE hO hb hs hz hsp hzp hzn hzb hoin hte hcn htS hgl hpk hole hfle hOt hmo hmt hrr HRt0 hc hRight htle hTle;go_enter func187,ntmps187;go_upto_region 1 with fail;obtain ⟨U,hU⟩ : ∃U : World,U=w.alloc (.cells #[.int .i64 P,.int .i64 M,.slice am mn cm,.int .i64 m,.slice a n c,.int .i64 mo,.int .i64 C.W,.slice ay ny cy,.bool cb] 196):=⟨_,rfl⟩
  rw [<- hU];have hbU : NS w U:=by rw [hU];exact aw _ _
  have x0 : aZ U w.heap.size [.int .i64 P,.int .i64 M,.slice am mn cm,.int .i64 m,.slice a n c,.int .i64 mo,.int .i64 C.W,.slice ay ny cy,.bool cb]:=by rw [hU];exact Nj _ _ _ rfl
  have HX:=Z5 x0;have HS : Hid (∀V,NS U V->V.cell? ⟨w.heap.size,0,none⟩=some (.int .i64 P)/\V.cell? ⟨w.heap.size,1,none⟩=some (.int .i64 M)/\V.cell? ⟨w.heap.size,2,none⟩=some (.slice am mn cm)/\V.cell? ⟨w.heap.size,3,none⟩=some (.int .i64 m)/\V.cell? ⟨w.heap.size,4,none⟩=some (.slice a n c) /\
    V.cell? ⟨w.heap.size,5,none⟩=some (.int .i64 mo)/\V.cell? ⟨w.heap.size,6,none⟩=some (.int .i64 C.W)/\V.cell? ⟨w.heap.size,7,none⟩=some (.slice ay ny cy)/\V.cell? ⟨w.heap.size,8,none⟩=some (.bool cb)/\NS U V):=λV hV=>by have x1:=x0.aa hV;exact ⟨x1.cell 0 rfl,x1.cell 1 rfl,x1.cell 2 rfl,x1.cell 3 rfl,x1.cell 4 rfl,x1.cell 5 rfl,x1.cell 6 rfl,x1.cell 7 rfl,x1.cell 8 rfl,hV⟩
  have HbU:=Z5 hbU;obtain ⟨c0,c1,c2,c3,c4,c5,c6,c7,c8,_⟩:=HS.out U (I1 _ _);clear hU x0;go_upto_if 20 with fail;go_cut [10] (λv wx=>v = .int .i64 mt/\wx=U);case first =>
   cases cb
   ·go_wp2_with fail
    go_meet
    exact ⟨by rw [Hmt.out];rfl,rfl⟩
   ·go_wp2_with fail
    go_meet
    exact ⟨by rw [Hmt.out];rfl,rfl⟩
  obtain ⟨rfl,hwc⟩:=hcut;rw [hwc];clear hwc;go_upto_region 4 with fail;go_cut [11] (λv wx=>∃ao co,v = .slice ao ol co/\Ints wx ao ol Ot/\NS U wx);case first =>
   go_region_held3 (λV=>V.cell? ⟨w.heap.size,0,none⟩=some (.int .i64 P)/\V.cell? ⟨w.heap.size,1,none⟩=some (.int .i64 M)/\V.cell? ⟨w.heap.size,2,none⟩=some (.slice am mn cm)/\V.cell? ⟨w.heap.size,3,none⟩=some (.int .i64 m)/\V.cell? ⟨w.heap.size,4,none⟩=some (.slice a n c) /\
     V.cell? ⟨w.heap.size,5,none⟩=some (.int .i64 mo)/\V.cell? ⟨w.heap.size,6,none⟩=some (.int .i64 C.W)/\V.cell? ⟨w.heap.size,7,none⟩=some (.slice ay ny cy)/\V.cell? ⟨w.heap.size,8,none⟩=some (.bool cb)/\NS U V)
    ((refine HS.out _ ?_;first | exact hb9w | exact hb7w | exact hb5w | exact hb3w | exact (I1 _ _).drew | assumption | (go_split_ands;assumption)))
    (first
    | (go_at_call 105;((with_reducible refine (HSo.out _ (Nh HbU.out (by go_split_ands;assumption))).mono ?_);rintro e w3 ⟨a3,c3,rfl,hI3,hb3⟩;have hb3w : NS U w3:=(by go_split_ands;exact Nh (by assumption) hb3)))
    | (go_at_call 236;((with_reducible refine (HWi.out _ (Nh HbU.out (by go_split_ands;assumption))).mono ?_);rintro e w5 ⟨a5,c5,rfl,hI5,hb5⟩;have hb5w : NS U w5:=(by go_split_ands;exact Nh (by assumption) hb5)))
    | (go_at_call 103;((with_reducible refine (HOt.out _ a5 c5 (by first | exact hI5 | exact hI5.aa (I1 _ _).drew | exact hI5.aa hb3 | exact (hI5.aa (I1 _ _).drew).aa hb3)).mono ?_);rintro e w7 ⟨a7,c7,rfl,hI7,hb7⟩;have hb7w : NS U w7:=(by go_split_ands;exact Nh (by assumption) hb7)))
    | (go_at_call 236;((with_reducible refine (HW2.out _ a3 c3 a7 c7 (by first | exact hI3 | exact hI3.aa hb7 | exact (hI3.aa hb5).aa hb7) (by first | exact hI7 | exact hI7.aa hb3)).mono ?_);rintro e w9 ⟨a9,c9,rfl,hI9,hb9⟩;have hb9w : NS U w9:=(by go_split_ands;exact Nh (by assumption) hb9))))
   all_goals (go_wp2_with fail;go_meet;exact ⟨a9,c9,rfl,hI9,hb9w⟩)
  obtain ⟨ao,co,rfl,hIo,hb2⟩:=hcut;generalize wc=w2 at *;obtain ⟨d0,d1,d2,d3,d4,d5,d6,d7,d8,_⟩:=HS.out w2 hb2;clear c0 c1 c2 c3 c4 c5 c6 c7 c8;have hbw2:=Nh HbU.out hb2;have HPk2:=Z5 (HPk.out w2 ao co hbw2 hIo);clear HPk HSo HWi HOt HW2 hIo;go_wp2_with fail;refine HPk2.out.mono ?_;rintro e w3 ⟨a3,c3,rfl,hown3,hb3⟩;have hbU3:=Nh hb2 hb3;have hbw3:=Nh HbU.out hbU3;obtain ⟨e0,e1,e2,e3,e4,e5,e6,e7,e8,_⟩:=HS.out w3 hbU3;have HRt3:=Z5 (HRt.out w3 a3 c3 hbw3 (Ni hown3).1);clear HRt HPk2 d0 d1 d2 d3 d4 d5 d6 d7 d8;go_wp2_with fail;refine HRt3.out.mono ?_;rintro e w4 ⟨rfl,hb4⟩;have hbU4:=Nh hbU3 hb4;have hbw4:=Nh HbU.out hbU4;have hown4:=aX hown3 hb4;clear HRt3 e0 e1 e2 e3 e4 e5 e6 e7 e8;cases rr
  ·have HF : Hid (RF=(11,[])):=by show _=_;rw [<- HRF.out,td _ _ _ _ _ _ _ _ (by rw [Hte.out];exact Hrr.out)]
   go_wp2_with fail;go_ret2;exact .inr ⟨by rw [HF.out];decide,_,Nn hbw4 _,by rw [HF.out];rfl⟩
  by_cases hbig : Tl=65536
  ·have HF : Hid (RF=(8,[])):=by show _=_;rw [<- HRF.out,wb _ _ _ _ _ _ _ _ (by rw [Hte.out];exact Hrr.out) (by rw [HTle.out];exact hbig)]
   have hbg : ((Tl : Int) == 65536)=true:=by simp;omega
   clear hbig;go_wp2_with fail;go_ret2;exact .inr ⟨by rw [HF.out];decide,_,Nn hbw4 _,by rw [HF.out];rfl⟩
  have hbg : ((Tl : Int) == 65536)=false:=by simp;omega
  obtain ⟨F,hFd⟩ : ∃F,gn (ah P M.toNat mod).ops L m C (d - 1)=F:=⟨_,rfl⟩
  have HF : Hid (RF=eS F s z (jr C s z t) (σ.T ++ [t])):=by show _=_;rw [<- HRF.out,AN _ _ _ _ _ _ _ _ (by rw [Hsl.out];exact hd) (by rw [Hte.out];exact Hrr.out) (by rw [HTle.out];exact hbig),<- hFd,Hte.out];rfl
  have HFd:=Z5 hFd;have hTlt : Tl<65536:=by omega
  have hO4:=HO.out.aa hbw4;have hcn:=bk w4 (.slice a3 tl c3) 22;have hbn:=aw w4 (.cells #[.slice a3 tl c3] 22);have hszB : w0.heap.size<=w4.heap.size:=Ji Hb.out.size hbw4.size;have HO4:=Z5 hO4;rw [HTle.out] at hO4;have hown4o:=hO4.own;have HBG : Hid (∀w6,(w4.alloc (.cells #[.slice a3 tl c3] 22)).grownBy w6 (Value.slice σ.ar Tl σ.cr).ownBlock->aZ w6 w.heap.size [.int .i64 P,.int .i64 M,.slice am mn cm,.int .i64 m,.slice a n c,.int .i64 mo,.int .i64 C.W,.slice ay ny cy,.bool cb]):=λw6 hg =>
   ((HX.out.aa hbU4).aa (aw _ _)).bQ (Nu (K:=λx=>σ.ar ≠ none/\x=aj σ.ar) hg λh0=>⟨h0,rfl⟩) λ⟨h0,e⟩=>by have:=(HO.out.lt _ (.inl ⟨h0,rfl⟩)).2;omega
  clear hbig hFd hO4;go_wp2_with (at_builtin;refine bg rfl _ _ 25 22 rfl (.slice none 0 0) 24 underlying25 di rfl w0.heap.size σ.ar Tl σ.cr _ rfl (hown4o.alloc _) ⟨w4.heap.size,0,none⟩ 1 (.slice a3 tl c3) rfl hcn rfl (by omega) (by unfold maxLen;omega) (by simp;omega) ?_;intro a6 c6 w6 hown6 hgr6 hap6;have k0:=(HBG.out w6 hgr6).cell 0 rfl;have k1:=(HBG.out w6 hgr6).cell 1 rfl;have k2:=(HBG.out w6 hgr6).cell 2 rfl;have k3:=(HBG.out w6 hgr6).cell 3 rfl;have k4:=(HBG.out w6 hgr6).cell 4 rfl;have k5:=(HBG.out w6 hgr6).cell 5 rfl;have k6:=(HBG.out w6 hgr6).cell 6 rfl;have k7:=(HBG.out w6 hgr6).cell 7 rfl;have k8:=(HBG.out w6 hgr6).cell 8 rfl);have hbox6:=HBG.out w6 hgr6;have hw24 : w2.heap.size<=w4.heap.size:=Ji hb3.size hb4.size;have hra : a3 ≠ none->¬ σ.I (aj a3):=λh0 hh=>by have h1:=(HO.out.lt _ hh).2;have h2:=(aM hown4 h0).1;have h3:=hbw2.size;omega
  obtain ⟨τ1,hτ1⟩ : ∃τ1 : lR,τ1=⟨a6,c6,σ.R ++ [(a3,c3)],σ.T ++ [t]⟩:=⟨_,rfl⟩
  have hmore : aP w6 w0.heap.size a6 (Tl+1) c6 (σ.R ++ [(a3,c3)]) (σ.T ++ [t])/\aA w4 w6 (λx=>σ.I x\/(a3 ≠ none/\x=aj a3)) (λx=>bS a6 (σ.R ++ [(a3,c3)]) x):=by have e1:=Htle.out;have e2:=HTle.out;subst e1;subst e2;exact aP.more HO4.out (aU hown4 (Ji Hb.out.size hbw2.size)) hra hown6 hgr6 hap6
  have hτl : τ1.T.length=Tl+1:=by rw [hτ1];simp [HTle.out]
  have hO6 : aP w6 w0.heap.size τ1.ar τ1.T.length τ1.cr τ1.R τ1.T:=by rw [hτl,hτ1];exact hmore.1
  have hMw6 : aA w w6 σ.I τ1.I:=by rw [hτ1];refine aA.A6 hbw4 hmore.2 λx hx=>?_;have h2:=(aM hown4 hx.1).1;have h3:=hbw2.size;rw [hx.2];omega
  have ht6 : Ints w6 a3 tl t:=((Ni hown4).1.aa (aw _ _)).bQ (Nu (K:=λx=>σ.ar ≠ none/\x=aj σ.ar) hgr6 λh0=>⟨h0,rfl⟩) λh0 ⟨h1,e⟩=>by
   have h2:=(Ni hown4).1.pl h0;have h3 : a3 ≠ none:=by rw [h2];simp
   exact hra h3 (.inl ⟨h1,e⟩)
  have hs6:=HI0.out.1.bQ hMw6 HI1.out.1;have hz6:=HI0.out.2.bQ hMw6 HI1.out.2;have hok:=(xE Hrr.out).1;obtain ⟨ks,hks⟩ : ∃ks,jr C s z t=ks:=⟨_,rfl⟩
  have hkl : ks.length<=64:=by
   have h1:=gE hok (by omega);have h2 : ks.length<=t.length:=by
    rw [<- hks,jr];split
    ·exact List.length_filter_le _ _
    ·simp
   omega
  have hknd : ks.Nodup/\(∀x ∈ ks,0<=x/\x<(m : Int))/\(∀x ∈ ks,¬ x ∈ z)/\(0<ks.length->ns<C.W):=by
   refine ⟨?_,λx hx=>?_,λx hx=>?_,λh=>?_⟩
   ·rw [<- hks,jr];split
    ·exact Ly _ (kR hok)
    ·simp
   ·rw [<- hks] at hx;obtain ⟨q,hq,rfl⟩:=List.mem_iff_getElem.1 (qo hx).1;rw [<- ai hq];exact lu hok q hq
   ·rw [<- hks] at hx;exact (qo hx).2.1
   ·rw [<- hks] at h;have h1:=qo (JA (n:=0) h);rw [Hsl.out] at h1;exact h1.2.2
  have HKs:=Z5 hknd;rw [hks] at HF;have HKi0:=yr P M am mn cm m a n c ay ny cy C sa ns cs s az nz cz z a3 tl c3 t w6 hs6 hz6 ht6 (by omega);rw [hks] at HKi0;unfold oy at HKi0;rw [Hc.out,Hmo.out] at HKi0;have HKi:=Z5 HKi0;have Hs6:=Z5 (Jg hs6 hz6);have HO6:=Z5 hO6;have HM6:=Z5 hMw6;have Hτ1:=Z5 (Jg hτ1 hτl);have HX6:=Z5 hbox6;have hnI6 : ¬ τ1.I w.heap.size:=by
   rw [hτ1];refine hmore.2.not (by have h1:=HX.out.1;have h2:=hbU4.size;omega) ?_;rintro (h | ⟨h0,e⟩)
   ·have h1:=(HO.out.lt _ h).2;omega
   ·have h2:=(aM hown4 h0).1;have h3:=HX.out.1;have h4:=hb2.size;omega
  have HnI6:=Z5 hnI6;clear hnI6;clear hmore hτ1 hτl hks hknd hok hs6 hz6 ht6 hO6 hMw6 hbox6 HKi0 hown6 hgr6 hap6 hown4 hown3 HBG HRF;refine HKi.out.mono ?_;rintro e w7 ⟨ak,ck,rfl,hownk,hb7⟩;have hO7:=HO6.out.aa hb7;have hM7 : aA w w7 σ.I τ1.I:=HM6.out.trans (Nn hb7 _);have hx7:=HX6.out.aa hb7;have hs7:=Hs6.out.1.aa hb7;have hz7:=Hs6.out.2.aa hb7;have hB7 : NS w0 w7:=Hb.out.trans (hM7.below (λx hx=>(HO.out.lt x hx).1) Hb.out.size);have hsn7 : 0<ns->¬ τ1.I (aj sa):=λh0=>HM6.out.not (HI0.out.1.lt h0) (HI1.out.1 h0);have hzn7 : 0<nz->¬ τ1.I (aj az):=λh0=>HM6.out.not (HI0.out.2.lt h0) (HI1.out.2 h0);have hkn7 : ak ≠ none->¬ τ1.I (aj ak):=λh0 hh=>by have h1:=(HO6.out.lt _ hh).2;have h2:=(aM hownk h0).1;omega
  obtain ⟨ik,_⟩:=Ni hownk;have hplk:=ik.pl;have hckap:=nR hownk;obtain ⟨kl,hkle⟩ : ∃kl,ks.length=kl:=⟨_,rfl⟩
  rw [hkle] at hownk hkl ik hplk hckap;rw [hkle];have Hkl:=Z5 hkle;have hkb7 : 0<kl->aj ak<w7.heap.size:=λh0=>ik.lt h0;have HB7:=Z5 hB7;have HO7:=Z5 hO7;have HM7:=Z5 hM7;have Hx7:=Z5 hx7;have Hsz7:=Z5 (Jg hs7 hz7);have Hn7:=Z5 (Jg hsn7 hzn7);have Hk7:=Z5 (Jg ik (Jg hkn7 hkb7));have HIH : Hid (∀(V : World) (τ : lR) (j : Nat) (a5 : OA) (c5 : Nat) (a7 : OA) (c7 : Nat),j<kl->aP V w0.heap.size τ.ar τ.T.length τ.cr τ.R τ.T->τ.T.length<=65536->NS w0 V->Ints V a5 (ns+1) (s ++ [nth ks j])->Ints V a7 (nz+j) (z ++ ks.take j) ->
    ¬ τ.I (aj a5)->(0<nz+j->¬ τ.I (aj a7)) ->
    Calls prog 187 #[.agg #[.int .i64 P,.int .i64 M,.slice am mn cm,.int .i64 m,.slice a n c,.int .i64 mo,.int .i64 C.W,.slice ay ny cy,.bool cb],.slice a5 (ns+1) c5,.slice a7 (nz+j) c7,.slice τ.ar τ.T.length τ.cr] V (qL w0.heap.size τ (F (s ++ [nth ks j]) (z ++ ks.take j) τ.T) V)):=by
   intro V τ j a5 c5 a7 c7 hj hO hT hV h1 h2 h3 h4;have hjk : j<ks.length:=by rw [Hkl.out];exact hj
   have hnsW:=HKs.out.2.2.2 (by omega);obtain ⟨d',hd'⟩ : ∃d',d'+1=d:=⟨d - 1,by omega⟩
   have hnd : (z ++ ks.take j).Nodup:=by rw [J2];exact ⟨Hz.out.1,KM (KS _ _) HKs.out.1,λx hx y hy e=>HKs.out.2.2.1 y (JY hy) (e ▸ hx)⟩
   have hbd : ∀x ∈ z ++ ks.take j,0<=x/\x<(m : Int):=λx hx=>by
    rcases List.mem_append.1 hx with hx | hx
    ·exact Hz.out.2 x hx
    ·exact HKs.out.2.1 x (JY hx)
   have hle : nz+j<=64:=by have h4:=jf hnd hbd;rw [h2.len] at h4;omega
   have h5:=IH.out d' hd' V τ a5 (ns+1) c5 (s ++ [nth ks j]) a7 (nz+j) c7 (z ++ ks.take j) (by omega) hle hV hO hT h1 h2 (λ_=>h3) h4 hnd hbd;rw [show d'=d - 1 by omega,HFd.out] at h5;unfold oy at h5;rw [Hc.out,Hmo.out] at h5;exact h5
  have ht0 : Value.slice a6 (Tl+1) c6 = .slice τ1.ar τ1.T.length τ1.cr:=by rw [Hτ1.out.2,Hτ1.out.1]
  have hT1 : τ1.T.length<=65536:=by rw [Hτ1.out.2];omega
  have hT1e : τ1.T=σ.T ++ [t]:=by rw [Hτ1.out.1]
  rw [ht0];have HT1:=Z5 (Jg hT1 hT1e);clear IH hkle hO7 hM7 hx7 hs7 hz7 hB7 hsn7 hzn7 hkn7 hkb7 ht0 hT1 hT1e k0 k1 k2 k3 k4 k5 k6 k7 k8 hcn hbn hown4o;go_wp2_with fail;go_loopw [3,14,15,16] (λrv jv xv ev wr=>∃(j : Nat) (τ : lR),j<=kl/\jv = .int .i64 j/\rv = .slice τ.ar τ.T.length τ.cr/\Hid (aP wr w0.heap.size τ.ar τ.T.length τ.cr τ.R τ.T/\τ.T.length<=65536)/\Hid (aA w7 wr τ1.I τ.I) /\
    Hid (RF=eS F s (z ++ ks.take j) (ks.drop j) τ.T))
   (λ_ jv _ _ _=>kl - (intOf jv).toNat)
  case atStart=>exact ⟨0,τ1,I7 _,rfl,rfl,Z5 ⟨HO7.out,HT1.out.1⟩,Z5 (Nn (I1 _ _) _),(show _=_ by rw [List.take_zero,KC,Kx,HT1.out.2];exact HF.out)⟩
  case round =>
   obtain ⟨j,τ,hj,rfl,rfl,hOT,hMv,hst⟩:=hrel
   generalize wr=U1 at *
   have hBU : NS w0 U1:=HB7.out.trans (hMv.out.below (λx hx=>(HO7.out.lt x hx).1) HB7.out.size)
   have HBU:=Z5 hBU
   clear hBU
   by_cases hlt : j<kl
   ·have hjk : j<ks.length:=by rw [Hkl.out];exact hlt
    have hnx : ¬ τ.I w.heap.size:=hMv.out.not Hx7.out.1 HnI6.out
    have hxU:=Hx7.out.bQ hMv.out HnI6.out
    have ikU : Ints U1 ak kl ks:=Hk7.out.1.bQ hMv.out λh0=>Hk7.out.2.1 (by rw [Hk7.out.1.pl h0];simp)
    have hkU : ¬ τ.I (aj ak):=hMv.out.not (Hk7.out.2.2 (by omega)) (Hk7.out.2.1 (by rw [Hk7.out.1.pl (by omega)];simp))
    have hsU:=Hsz7.out.1.bQ hMv.out Hn7.out.1
    have hzU:=Hsz7.out.2.bQ hMv.out Hn7.out.2
    have hsnU : 0<ns->¬ τ.I (aj sa):=λh0=>hMv.out.not (Hsz7.out.1.lt h0) (Hn7.out.1 h0)
    have hznU : 0<nz->¬ τ.I (aj az):=λh0=>hMv.out.not (Hsz7.out.2.lt h0) (Hn7.out.2 h0)
    have HSU : Hid (∀V,yF U1 V τ.I->V.cell? ⟨w.heap.size,0,none⟩=some (.int .i64 P)/\V.cell? ⟨w.heap.size,1,none⟩=some (.int .i64 M)/\V.cell? ⟨w.heap.size,2,none⟩=some (.slice am mn cm)/\V.cell? ⟨w.heap.size,3,none⟩=some (.int .i64 m)/\V.cell? ⟨w.heap.size,4,none⟩=some (.slice a n c) /\
      V.cell? ⟨w.heap.size,5,none⟩=some (.int .i64 mo)/\V.cell? ⟨w.heap.size,6,none⟩=some (.int .i64 C.W)/\V.cell? ⟨w.heap.size,7,none⟩=some (.slice ay ny cy)/\V.cell? ⟨w.heap.size,8,none⟩=some (.bool cb)/\V.cell? ⟨aj ak,aL ak+j,none⟩=some (.int .i64 (nth ks j))/\yF U1 V τ.I):=λV hV=>by have hV2:=hV;obtain ⟨I',hV⟩:=hV;have x1:=hxU.bQ hV hnx;exact ⟨x1.cell 0 rfl,x1.cell 1 rfl,x1.cell 2 rfl,x1.cell 3 rfl,x1.cell 4 rfl,x1.cell 5 rfl,x1.cell 6 rfl,x1.cell 7 rfl,x1.cell 8 rfl,(ikU.bQ hV λ_=>hkU).cell j hlt,hV2⟩
    have HW1 : Hid (∀V g,yF U1 V τ.I->Ints V (some ⟨g,0,none⟩) 1 [nth ks j]->Calls prog 236 #[.slice sa ns cs,.slice (some ⟨g,0,none⟩) 1 1] V λe w'=>∃a2 c2,e = .returned (.slice a2 (ns+1) c2)/\Ints w' a2 (ns+1) (s ++ [nth ks j])/\U1.heap.size<=aj a2/\NS V w'):=λV g hV hg=>by obtain ⟨I',hV⟩:=hV;refine (jm sa ns cs s (some ⟨g,0,none⟩) 1 1 [nth ks j] V (hsU.bQ hV hsnU) hg (by omega) (by omega)).mono ?_;rintro e w' ⟨a2,c2,rfl,ho,hbw⟩;have h1:=(Ni ho).1;exact ⟨a2,c2,rfl,h1,Ji hV.size (aM ho (by rw [h1.pl (by omega)];simp)).1,hbw⟩
    have HW2 : Hid (∀V,yF U1 V τ.I->Calls prog 236 #[.slice az nz cz,.slice ak j ck] V λe w'=>∃a2 c2,e = .returned (.slice a2 (nz+j) c2)/\Ints w' a2 (nz+j) (z ++ ks.take j)/\(0<nz+j->U1.heap.size<=aj a2)/\NS V w'):=λV hV=>by obtain ⟨I',hV⟩:=hV;refine (jm az nz cz z ak j ck (ks.take j) V (hzU.bQ hV hznU) (Ints.take (ikU.bQ hV λ_=>hkU) (Nat.le_of_lt hlt)) (by omega) (by omega)).mono ?_;rintro e w' ⟨a2,c2,rfl,ho,hbw⟩;have h1:=(Ni ho).1;exact ⟨a2,c2,rfl,h1,λh0=>Ji hV.size (aM ho (by rw [h1.pl h0];simp)).1,hbw⟩
    obtain ⟨FR,hFR⟩ : ∃FR,F (s ++ [nth ks j]) (z ++ ks.take j) τ.T=FR:=⟨_,rfl⟩
    obtain ⟨er,her⟩ : ∃er,FR.1=er:=⟨_,rfl⟩
    have HFo : Hid (∀V a5 c5 a7 c7,NS U1 V->Ints V a5 (ns+1) (s ++ [nth ks j])->Ints V a7 (nz+j) (z ++ ks.take j)->U1.heap.size<=aj a5->(0<nz+j->U1.heap.size<=aj a7)->Calls prog 187 #[.agg #[.int .i64 P,.int .i64 M,.slice am mn cm,.int .i64 m,.slice a n c,.int .i64 mo,.int .i64 C.W,.slice ay ny cy,.bool cb],.slice a5 (ns+1) c5,.slice a7 (nz+j) c7,.slice τ.ar τ.T.length τ.cr] V
      λe w'=>∃rv,e = .returned (.tuple #[rv,.int .i64 er])/\Gm w0.heap.size τ FR er U1 rv w'):=λV a5 c5 a7 c7 hV h1 h2 h3 h4=>by
     refine (HIH.out V τ j a5 c5 a7 c7 hlt (hOT.out.1.aa hV) hOT.out.2 (HBU.out.trans (hV.mono HBU.out.size)) h1 h2 (λhh=>?_) (λh0 hh=>?_)).mono ?_
     ·have:=(hOT.out.1.lt _ hh).2;omega
     ·have:=(hOT.out.1.lt _ hh).2;have:=h4 h0;omega
     ·rintro e w' hP;obtain ⟨rv,h5,h6⟩:=hP.split;rw [hFR,her] at h5 h6;exact ⟨rv,h5,h6.from hV⟩
    have Hst2 : Hid (RF=if er=0 then eS F s (z ++ ks.take (j+1)) (ks.drop (j+1)) FR.2 else (er,[])):=by show _=_;rw [hst.out,Cc F s z ks hjk,hFR,her]
    obtain ⟨x,hx⟩ : ∃x,nth ks j=x:=⟨_,rfl⟩
    rw [hx] at HW1 HFo HSU
    have hj0 : (0 : Int)<=(j : Int):=by omega
    have hjc : (j : Int)<=(ck : Int):=by omega
    have hjl : (j : Int)<(kl : Int):=by omega
    obtain ⟨c0,c1,c2,c3,c4,c5,c6,c7,c8,c9,_⟩:=HSU.out U1 (yF.below (I1 _ _))
    clear hx hFR her hjk hnx hxU ikU hkU hsU hzU hsnU hznU hst
    go_upto_region 15 with fail
    go_region_held3 (λV=>V.cell? ⟨w.heap.size,0,none⟩=some (.int .i64 P)/\V.cell? ⟨w.heap.size,1,none⟩=some (.int .i64 M)/\V.cell? ⟨w.heap.size,2,none⟩=some (.slice am mn cm)/\V.cell? ⟨w.heap.size,3,none⟩=some (.int .i64 m)/\V.cell? ⟨w.heap.size,4,none⟩=some (.slice a n c) /\
      V.cell? ⟨w.heap.size,5,none⟩=some (.int .i64 mo)/\V.cell? ⟨w.heap.size,6,none⟩=some (.int .i64 C.W)/\V.cell? ⟨w.heap.size,7,none⟩=some (.slice ay ny cy)/\V.cell? ⟨w.heap.size,8,none⟩=some (.bool cb)/\V.cell? ⟨aj ak,aL ak+j,none⟩=some (.int .i64 x)/\yF U1 V τ.I)
     ((refine HSU.out _ ?_;first | exact hm11 | exact yF.below (I1 _ _).drew | exact yF.below hb5w | exact yF.below hb7w | exact yF.below ((I1 _ _).alloc (IZ _) _).drew | exact yF.below (Nl hb7w _) | assumption | (go_split_ands;assumption) | (go_split_ands;exact yF.bJ (by assumption) _)))
     (first
     | (go_at_call 236;((with_reducible refine (HW1.out _ _ (by go_split_ands;assumption) (by first | exact (n5 _ _ _ rfl).aa (I1 _ _).drew | exact n5 _ _ _ rfl | exact ((n5 _ _ _ rfl).aa (I1 _ _).drew).aa hb7)).mono ?_);rintro e w5 ⟨a5,c5,rfl,hI5,hn5,hb5⟩;have hb5w : NS U1 w5:=(by first | exact Nh ((I1 _ _).alloc (IZ _) _).drew hb5 | exact Nh (Nl hb7w _) hb5 | exact Nh hb7w hb5 | exact Nh (Nl hb7w _).drew hb5 | exact Nh ((I1 _ _).alloc (IZ _) _) hb5)))
     | (go_at_call 236;((with_reducible refine (HW2.out _ (by go_split_ands;assumption)).mono ?_);rintro e w7' ⟨a7,c7,rfl,hI7,hn7,hb7⟩;have hb7w : NS U1 w7':=(by first | exact Nh (I1 _ _).drew hb7 | exact Nh hb5w hb7 | exact Nh ((I1 _ _).alloc (IZ _) _).drew hb7 | exact Nh ((I1 _ _).alloc (IZ _) _) hb7 | exact hb7)))
     | (go_at_call 187;((with_reducible refine (HFo.out _ a5 c5 a7 c7 (by first | exact hb5w | exact hb7w) (by first | exact hI5 | exact hI5.aa hb7) (by first | exact hI7 | exact hI7.aa hb5 | exact (hI7.aa (aw _ _)).aa hb5) hn5 hn7).mono ?_);rintro e w11 ⟨rv,rfl,hFV⟩;have hm11 : yF U1 w11 τ.I:=hFV.IY)))
    all_goals (
     rcases hFV with ⟨h1,σ',g1,g2,g3,g4,rfl⟩ | ⟨h1,I',g4,rfl⟩
     ·have Hn : Hid (RF=eS F s (z ++ ks.take (j+1)) (ks.drop (j+1)) σ'.T):=by show _=_;rw [Hst2.out,I6 h1,g2]
      subst h1
      have G4:=Z5 (Jg g1 (Jg g3 g4))
      clear g1 g2 g3 g4 hm11
      go_wp2_with fail
      go_roundw
      case rel=>exact ⟨j+1,σ',by omega,by go_num,rfl,Z5 ⟨G4.out.1,G4.out.2.1⟩,Z5 (hMv.out.trans G4.out.2.2),Hn⟩
      case measure=>simp [intOf] <;> omega
     ·have Hn : Hid (RF=(er,[])):=by show _=_;rw [Hst2.out,I5 h1]
      have hne : (er != 0)=true:=by simpa using h1
      have G4:=Z5 (Jg h1 g4)
      clear h1 g4 hm11
      go_wp2_with fail
      go_ret2
      exact .inr ⟨by rw [Hn.out];exact G4.out.1,I',HM7.out.trans (hMv.out.trans G4.out.2),by rw [Hn.out];rfl⟩)
   ·have hjl2 : j=kl:=by omega
    subst hjl2
    have Ho : Hid (RF=(0,τ.T)):=by show _=_;rw [hst.out,JD (by rw [Hkl.out];exact IZ _),eS]
    go_wp2_with fail
    go_ret2
    exact .inl ⟨by rw [Ho.out],τ,hOT.out.1,by rw [Ho.out],hOT.out.2,HM7.out.trans hMv.out,rfl⟩
section
open Go.RowKit
end
theorem oB (P M : Int) (am : OA) (mn cm : Nat) (mod : Lz) (N : Int) (a : OA) (n c : Nat) (L : Ll) (mm W : Int) (w : World)
  (hmod : Ints w am mn mod) (hi : ch w a n L) :
  Calls prog 123 #[.agg #[.int .i64 P,.int .i64 M,.slice am mn cm,.int .i64 N,.slice a n c],.int .i64 mm,.int .i64 W] w (fZ (dI P M mod N L mm W) w):=by
 obtain ⟨V0,hV0⟩ : ∃V0,dI P M mod N L mm W=V0:=⟨_,rfl⟩
 have HBd : Hid (dB P M mod N L mm W=0->∀V,NS w V->Calls prog 187 #[.agg #[.int .i64 P,.int .i64 M,.slice am mn cm,.int .i64 N,.slice a n c,.int .i64 mm,.int .i64 W,.slice none 0 0,.bool false],.slice none 0 0,.slice none 0 0,.slice none 0 0] V
   λe w'=>∃av nv cv,e = .returned (.tuple #[.slice av nv cv,.int .i64 V0.1])/\NS V w'/\((V0.1 ≠ 0/\av=none/\nv=0/\cv=0)\/(V0.1=0/\nv=V0.2.length/\∃R,aP w' V.heap.size av V0.2.length cv R V0.2))):=λh V hV=>by
  obtain ⟨hE,h1,h2,h3,h4,h5,h6⟩:=FL h;have h7:=mW P M am mn cm mod N.toNat a n c L none 0 0 ⟨mm.toNat,W.toNat,false,[]⟩ V (hmod.aa hV) (hi.aa hV) (by rw [Kc (by omega)];exact hE) false rfl (Z5 (wA (hmod.aa hV) (hi.aa hV) (by rw [Kc (by omega)];exact hE) rfl)) (by show W.toNat<=64;omega) (by omega)
   W.toNat V ⟨none,0,[],[]⟩ none 0 0 [] none 0 0 [] (by show 0+W.toNat=W.toNat;omega) (by omega) (I1 _ _) (aP.GS _ _) (by simp) (Nr _ _) (Nr _ _) (λh=>by omega) (λh=>by omega) (by simp) (λx hx=>by simp at hx)
  unfold oy at h7;dsimp only at h7;rw [Kc (show 0<=N by omega),Kc h3,Kc h5] at h7;have hb : gn (ah P M.toNat mod).ops L N.toNat ⟨mm.toNat,W.toNat,false,[]⟩ W.toNat [] [] []=V0:=by rw [<- hV0,dI,I6 h];rfl
  rw [hb] at h7;have hI : ∀x,¬ (lR.I ⟨none,0,[],[]⟩ x):=λx hx=>by
   rcases hx with ⟨h0,_⟩ | ⟨i,hi,_⟩
   ·exact h0 rfl
   ·simp at hi
  refine h7.mono ?_;rintro e w' (⟨g1,σ',g2,g3,g4,g5,rfl⟩ | ⟨g1,I',g5,rfl⟩)
  ·refine ⟨_,_,_,by rw [g1],g5.below (λx hx=>absurd hx (hI x)) (IZ _),.inr ⟨g1,by rw [g3],σ'.R,?_⟩⟩;rw [<- g3];exact g2
  ·exact ⟨none,0,0,rfl,g5.below (λx hx=>absurd hx (hI x)) (IZ _),.inl ⟨g1,rfl,rfl,rfl⟩⟩
 have HRk : Hid (∀V,NS w V->Calls prog 186 #[.agg #[.int .i64 P,.int .i64 M,.slice am mn cm,.int .i64 N,.slice a n c],.int .i64 mm,.int .i64 W] V λe w'=>e = .returned (.int .i64 (dB P M mod N L mm W))/\NS V w'):=λV hV =>
  yd P M am mn cm mod N a n c L mm W V (hmod.aa hV) (hi.aa hV)
 have HV1 : Hid (dB P M mod N L mm W ≠ 0->V0=(dB P M mod N L mm W,[])):=λh=>by rw [<- hV0,dI,I5 h]
 rw [hV0];clear hmod hi hV0;go_enter func123,ntmps123;go_wp2_with fail;obtain ⟨U,hU⟩ : ∃U : World,U=(w.alloc (.cells #[.int .i64 P,.int .i64 M,.slice am mn cm,.int .i64 N,.slice a n c] 27)).alloc (.cells #[.slice none 0 0] 47):=⟨_,rfl⟩
 rw [<- hU];have hbU : NS w U:=by rw [hU];exact dA _ _ _
 have x0 : aZ U w.heap.size [.int .i64 P,.int .i64 M,.slice am mn cm,.int .i64 N,.slice a n c]:=by rw [hU];exact (Nj _ _ _ rfl).alloc _
 have y0 : aZ U (w.heap.size+1) [.slice none 0 0]:=by rw [hU];exact Nj _ _ _ (by simp)
 clear hU;refine (HRk.out U hbU).mono ?_;rintro e w1 ⟨rfl,hb1⟩;have hbw1:=Nh hbU hb1;have x1:=x0.aa hb1;have y1:=y0.aa hb1;have HY:=Z5 y1;by_cases hE : dB P M mod N L mm W=0
 ·have HP2:=Z5 (HBd.out hE);have c0:=x1.cell 0 rfl;have c1:=x1.cell 1 rfl;have c2:=x1.cell 2 rfl;have c3:=x1.cell 3 rfl;have c4:=x1.cell 4 rfl;rw [hE];clear hE x0 y0 x1 y1 HBd HRk HV1;go_wp2_with fail;refine (HP2.out _ hbw1).mono ?_;rintro e w3 ⟨av,nv,cv,rfl,hb3,hV3⟩;have y3:=HY.out.aa hb3;have z0:=y3.cell 0 rfl;have f0:=y3.frozen 0;have hF : NS w (w3.setCell ⟨w.heap.size+1,0,none⟩ (.slice av nv cv)):=(Nh hbw1 hb3).setCell (by simp) _;have HV5 : Hid (fZ V0 w (.returned (.tuple #[.agg #[.slice av nv cv],.int .i64 V0.1])) (w3.setCell ⟨w.heap.size+1,0,none⟩ (.slice av nv cv))):=by
   refine ⟨hF,?_⟩;rcases hV3 with ⟨h1,rfl,rfl,rfl⟩ | ⟨h1,rfl,R,hO⟩
   ·exact .inl ⟨h1,rfl⟩
   ·refine .inr ⟨h1,av,cv,R,by rw [h1],?_⟩;have hsU:=hbw1.size;have hy:=HY.out.1;refine (aP.mono hO hsU).bj λx hx=>Jr _ _ _ _ λe=>?_;have h2:=(hO.lt x hx).1;have e' : x=w.heap.size+1:=e;omega
  clear hV3 hF y3;obtain ⟨v1,hv1⟩ : ∃v1,V0.1=v1:=⟨_,rfl⟩
  rw [hv1] at HV5 ⊢;clear hv1;go_wp2_with fail;have z1 : (w3.setCell ⟨w.heap.size+1,0,none⟩ (.slice av nv cv)).cell? ⟨w.heap.size+1,0,none⟩=some (.slice av nv cv):=Jk _ _ _ z0;exact bodyPost_ret (v:=.tuple #[.agg #[.slice av nv cv],.int .i64 v1]) (by simp [results,results123,go_sem,z0,z1]) rfl HV5.out
 ·have HE:=Z5 (HV1.out hE);have hE2 : (dB P M mod N L mm W != 0)=true:=by simpa using hE
  have Hne:=Z5 hE;have z0:=y1.cell 0 rfl;have f0:=y1.frozen 0;have HF:=Z5 (λv : Value=>hbw1.setCell (p:=⟨w.heap.size+1,0,none⟩) (by simp) v);clear hE x0 y0 x1 y1 HBd HRk HV1;generalize dB P M mod N L mm W=er at *;go_wp2_with fail;have z1 : (w1.setCell ⟨w.heap.size+1,0,none⟩ (.slice none 0 0)).cell? ⟨w.heap.size+1,0,none⟩=some (.slice none 0 0):=Jk _ _ _ z0;exact bodyPost_ret (v:=.tuple #[.agg #[.slice none 0 0],.int .i64 er]) (by simp [results,results123,go_sem,z0,z1]) rfl ⟨HF.out _,.inl ⟨by rw [HE.out];exact Hne.out,by rw [HE.out]⟩⟩
theorem kG (P M : Int) (am : OA) (mn cm : Nat) (mod : Lz) (N : Int) (a : OA) (n c : Nat) (L : Ll) (d : Int) (w : World)
  (hmod : Ints w am mn mod) (hi : ch w a n L) :
  Calls prog 60 #[.agg #[.int .i64 P,.int .i64 M,.slice am mn cm,.int .i64 N,.slice a n c],.int .i64 d] w (fZ (dI P M mod N L n (jH N d)) w):=by
 obtain ⟨V0,hV0⟩ : ∃V0,dI P M mod N L n (jH N d)=V0:=⟨_,rfl⟩
 have HBd : Hid (jH N d=d - 1->∀V,NS w V->Calls prog 123 #[.agg #[.int .i64 P,.int .i64 M,.slice am mn cm,.int .i64 N,.slice a n c],.int .i64 n,.int .i64 (d - 1)] V
   λe w'=>∃av nv cv,e = .returned (.tuple #[.agg #[.slice av nv cv],.int .i64 V0.1])/\NS V w'/\((V0.1 ≠ 0/\av=none/\nv=0/\cv=0)\/(V0.1=0/\nv=V0.2.length/\∃R,aP w' V.heap.size av V0.2.length cv R V0.2))):=λh V hV=>by
  have h1:=oB P M am mn cm mod N a n c L n (d - 1) V (hmod.aa hV) (hi.aa hV);rw [<- h,hV0] at h1;rw [<- h];refine h1.mono ?_;rintro e w' ⟨hb,⟨h2,rfl⟩ | ⟨h2,ar,cr,R,rfl,hO⟩⟩
  ·exact ⟨none,0,0,rfl,hb,.inl ⟨h2,rfl,rfl,rfl⟩⟩
  ·exact ⟨ar,_,cr,by rw [h2],hb,.inr ⟨h2,rfl,R,hO⟩⟩
 have HV0:=Z5 hV0;rw [hV0];clear hV0;go_enter func60,ntmps60;go_wp2_with fail;obtain ⟨U,hU⟩ : ∃U : World,U=(w.alloc (.cells #[.int .i64 P,.int .i64 M,.slice am mn cm,.int .i64 N,.slice a n c] 27)).alloc (.cells #[.slice none 0 0] 47):=⟨_,rfl⟩
 rw [<- hU];have hbU : NS w U:=by rw [hU];exact dA _ _ _
 have x0 : aZ U w.heap.size [.int .i64 P,.int .i64 M,.slice am mn cm,.int .i64 N,.slice a n c]:=by rw [hU];exact (Nj _ _ _ rfl).alloc _
 have y0 : aZ U (w.heap.size+1) [.slice none 0 0]:=by rw [hU];exact Nj _ _ _ (by simp)
 have HX:=Z5 (Jg x0 y0);clear hU x0 y0;refine (gH P M am mn cm mod N a n c L U (hmod.aa hbU) (hi.aa hbU)).mono ?_;rintro e w1 ⟨rfl,hb1⟩;have hbF:=Nh hbU hb1;have x1:=HX.out.1.aa hb1;have y1:=HX.out.2.aa hb1;have HY:=Z5 y1;have c0:=x1.cell 0 rfl;have c1:=x1.cell 1 rfl;have c2:=x1.cell 2 rfl;have c3:=x1.cell 3 rfl;have c4:=x1.cell 4 rfl;have z0:=y1.cell 0 rfl;have f0:=y1.frozen 0;have HF:=Z5 (λv : Value=>hbF.setCell (p:=⟨w.heap.size+1,0,none⟩) (by simp) v);have HZ : Hid ((w1.setCell ⟨w.heap.size+1,0,none⟩ (.slice none 0 0)).cell? ⟨w.heap.size+1,0,none⟩=some (.slice none 0 0)):=Jk _ _ _ z0;clear x1 y1;have HR : Hid (∀er : Int,er ≠ 0->V0=(er,[])->fZ V0 w (.returned (.tuple #[.agg #[.slice none 0 0],.int .i64 er])) (w1.setCell ⟨w.heap.size+1,0,none⟩ (.slice none 0 0))):=λer h0 h=>by subst h;exact ⟨HF.out _,.inl ⟨h0,rfl⟩⟩
 by_cases hE : aJ P M mod N L=0
 ·obtain ⟨_,hN1,hN2,_⟩:=bl hE;rw [hE];have hw : wrap64 (N+1)=N+1:=gB (by omega);have HE:=Z5 hE;have HV6 : Hid (jH N d = -1->V0=(6,[])):=λhwd=>by
   have h0 : dB P M mod N L n (jH N d)=6:=by rw [dB,I6 HE.out,hwd,I6 (.inr (.inr (.inl (by decide))))]
   rw [<- HV0.out,dI,I5 (by rw [h0];decide),h0]
  by_cases h1 : d<1
  ·have HP:=Z5 (HR.out 6 (by decide) (HV6.out (by rw [jH,I6 (.inl h1)])));have d1 : decide (d<1)=true:=by simpa using h1
   clear h1 hE hw;go_wp2_with fail;have z1:=HZ.out;exact bodyPost_ret (v:=.tuple #[.agg #[.slice none 0 0],.int .i64 6]) (by simp [results,results60,go_sem,z0,z1]) rfl HP.out
  have d1 : decide (d<1)=false:=by simpa using h1
  by_cases h2 : N+1<d
  ·have HP:=Z5 (HR.out 6 (by decide) (HV6.out (by rw [jH,I6 (.inr h2)])));have d2 : decide (N+1<d)=true:=by simpa using h2
   clear h1 h2 hE;go_wp2_with fail;have z1:=HZ.out;exact bodyPost_ret (v:=.tuple #[.agg #[.slice none 0 0],.int .i64 6]) (by simp [results,results60,go_sem,z0,z1]) rfl HP.out
  have d2 : decide (N+1<d)=false:=by simpa using h2
  have hw2 : wrap64 (d - 1)=d - 1:=gB (by omega);have HC2:=Z5 (HBd.out (by rw [jH,I5 (by omega)]) w1 hbF);clear h1 h2 hE HBd HF HZ HR HV6;go_wp2_with fail;refine HC2.out.mono ?_;rintro e w3 ⟨av,nv,cv,rfl,hb3,hV3⟩;have y3:=HY.out.aa hb3;have z0':=y3.cell 0 rfl;have f0':=y3.frozen 0;have hF : NS w (w3.setCell ⟨w.heap.size+1,0,none⟩ (.slice av nv cv)):=(Nh hbF hb3).setCell (by simp) _;have HV5 : Hid (fZ V0 w (.returned (.tuple #[.agg #[.slice av nv cv],.int .i64 V0.1])) (w3.setCell ⟨w.heap.size+1,0,none⟩ (.slice av nv cv))):=by
   refine ⟨hF,?_⟩;rcases hV3 with ⟨h1,rfl,rfl,rfl⟩ | ⟨h1,rfl,R,hO⟩
   ·exact .inl ⟨h1,rfl⟩
   ·refine .inr ⟨h1,av,cv,R,by rw [h1],?_⟩;have hsU:=hbF.size;have hy:=HY.out.1;refine (aP.mono hO hsU).bj λx hx=>Jr _ _ _ _ λe=>?_;have h2:=(hO.lt x hx).1;have e' : x=w.heap.size+1:=e;omega
  clear hV3 hF y3 c0 c1 c2 c3 c4 z0 f0;obtain ⟨v1,hv1⟩ : ∃v1,V0.1=v1:=⟨_,rfl⟩
  rw [hv1] at HV5 ⊢;clear hv1;go_wp2_with fail;have z1 : (w3.setCell ⟨w.heap.size+1,0,none⟩ (.slice av nv cv)).cell? ⟨w.heap.size+1,0,none⟩=some (.slice av nv cv):=Jk _ _ _ z0';exact bodyPost_ret (v:=.tuple #[.agg #[.slice av nv cv],.int .i64 v1]) (by simp [results,results60,go_sem,z0',z1]) rfl HV5.out
 ·have h0 : dB P M mod N L n (jH N d)=aJ P M mod N L:=I5 hE;have HP:=Z5 (HR.out _ hE (by rw [<- HV0.out,dI,I5 (by rw [h0];exact hE),h0]));have hE2 : (aJ P M mod N L != 0)=true:=by simpa using hE
  clear hE HV0 HBd h0 HR;generalize aJ P M mod N L=er at *;go_wp2_with fail;have z1:=HZ.out;exact bodyPost_ret (v:=.tuple #[.agg #[.slice none 0 0],.int .i64 er]) (by simp [results,results60,go_sem,z0,z1]) rfl HP.out
theorem xa (ax : OA) (nx cx : Nat) (ts : Ll) (ay : OA) (ny cy : Nat) (us : Ll) (w : World) (h : ch w ax nx ts) (h' : ch w ay ny us) :
  Calls prog 26 #[.agg #[.slice ax nx cx],.agg #[.slice ay ny cy]] w λe w'=>e = .returned (.bool (decide (ts=us)))/\NS w w':=by
 have HF:=Z5 (λV (hV : NS w V)=>jD ax nx cx ts ay ny cy us (h.aa hV) (h'.aa hV));clear h h';obtain ⟨bb,hbb⟩ : ∃bb,decide (ts=us)=bb:=⟨_,rfl⟩
 rw [hbb] at HF ⊢;clear hbb;go_enter func26,ntmps26;go_wp2_with fail;refine (HF.out _ (dA _ _ _)).mono ?_;rintro e w1 ⟨rfl,hq⟩;have hF:=Nh (dA w (.cells #[.slice ax nx cx] 47) (.cells #[.slice ay ny cy] 47)) (Nq hq);go_wp2_with fail;go_ret;exact ⟨rfl,hF⟩
def tF (w : World) (e : Ending) (w' : World) : Prop:=∃z,e = .returned (.bool z)/\w'=w
theorem uD (k : Int) (W : Nat) (hW : W<=64) (w : World) : Calls prog 23 #[.int .i64 k,.int .i64 W] w (tF w):=by
 go_enter func23,ntmps23;go_wp2_with fail;go_loopw [5,6] (λvv iv wr=>∃(i : Nat) (v : Int),i<=W/\vv = .int .i64 v/\iv = .int .i64 ((i : Int)+1)/\wr=w) (λ_ iv _=>W+1 - (intOf iv).toNat);case atStart=>exact ⟨0,1,I7 _,rfl,rfl,rfl⟩
 case round =>
  obtain ⟨i,v,hi,rfl,rfl,rfl⟩:=hrel
  have kw : IntKind.i64.wrap ((i : Int)+1+1)=(i : Int)+1+1:=Jj _ (by omega)
  by_cases hlt : i<W
  ·have hl : (i : Int)+1<=W:=by omega
   have hn0 : (i : Int)+1 ≠ 0:=by omega
   have hn1 : (((i : Int)+1) == 0)=false:=by simp;omega
   by_cases hb : 2000<wrap64 ((wrap64 (v * wrap64 (k+((i : Int)+1)))).tdiv ((i : Int)+1))
   ·have hd : decide (2000<wrap64 ((wrap64 (v * wrap64 (k+((i : Int)+1)))).tdiv ((i : Int)+1)))=true:=by simpa using hb
    clear hb
    go_wp2_with fail
    go_ret
    exact ⟨_,rfl,rfl⟩
   ·have hd : decide (2000<wrap64 ((wrap64 (v * wrap64 (k+((i : Int)+1)))).tdiv ((i : Int)+1)))=false:=by simpa using hb
    clear hb
    go_wp2_with fail
    go_roundw
    case rel=>exact ⟨i+1,_,by omega,rfl,by go_num,by simp⟩
    case measure=>simp [intOf] <;> omega
  ·have hl : ¬ (i : Int)+1<=W:=by omega
   have hd : decide ((i : Int)+1<=W)=false:=by simpa using hl
   go_wp2_with fail
   go_ret
   exact ⟨_,rfl,rfl⟩
section
variable {O : aS} {El : Int->Prop} {m : Nat} {L : Ll} {C : jg}
end
section
variable {P M : Int} {mod : Lz} {m : Nat} {L : Ll}
end
section
def iy (O : aS) : Lz->Lz->Ll->Lz
 | u,a :: s,r :: R=>iy O (gz O u a r) s R
 | u,_,_=>u
variable {O : aS} {m : Nat}
theorem ml {v : Lz} {L : Ll} (h : v.length=L.length) : ∀(d j : Nat),j+d=L.length->iy O (bw O m v L j) (v.drop j) (L.drop j)=bw O m v L L.length
 | 0,j,hj=>by
  obtain rfl : j=L.length:=by omega
  rw [JD (IZ _),JD (by omega)];rfl
 | d+1,j,hj=>by rw [Jt (show j<v.length by omega),Jt (show j<L.length by omega),iy];rw [<- ml h d (j+1) (by omega)];congr 1;rw [bw,ai (show j<v.length by omega),aE (show j<L.length by omega)];rfl
end
section
open Go.RowKit
end
def ei (O : aS) (v : Lz) : Lz:=v.map λx=>O.mul (O.inv (nth v (fY v))) x
def cO (O : aS) (b w : Lz) : Lz :=
 if bK w=0\/(bK b ≠ 0/\bK b<bK w) then b else if bK b=0\/bK w<bK b\/dK (ei O w) b<0 then ei O w else b
def ja (O : aS) (f : Ll->Lz->Ll) (cs : Lz) : Ll->Lz->Ll
 | [],_=>[]
 | r :: R,v=>(cs.flatMap λa=>f R (gz O v a r)) ++ ja O f cs R v
def fg (O : aS) (cs : Lz) : Nat->Ll->Lz->Ll
 | 0,_,v=>[v]
 | l+1,R,v=>ja O (fg O cs l) cs R v
def gW (O : aS) (cs c0 : Lz) : Nat->Ll->Lz->Ll
 | 0,_,v=>[v]
 | l+1,R,v=>ja O (fg O cs l) c0 R v
theorem sT (O : aS) (cs : Lz) : ∀(l : Nat) (R : Ll) (v : Lz),gW O cs cs l R v=fg O cs l R v
 | 0,_,_=>rfl
 | _+1,_,_=>rfl
def de (q : Nat) : Lz:=(List.range (q - 1)).map λ(i : Nat)=>(i : Int)+1
theorem jT (q : Nat) : (de q).length=q - 1:=by simp [de]
theorem ta {q a : Nat} (h : a<q - 1) : (de q).drop a=((a : Int)+1) :: (de q).drop (a+1):=by rw [Jt (by rw [jT];exact h)];simp [de]
theorem qa {q : Nat} {x : Int} : x ∈ de q ↔ 1<=x/\x<q:=by
 unfold de;rw [Lj];constructor
 ·rintro ⟨i,hi,rfl⟩;rw [Lm] at hi;omega
 ·intro h;exact ⟨(x - 1).toNat,by rw [Lm];omega,by omega⟩
theorem mJ (O : aS) (cs c0 : Lz) : ∀(l : Nat) (R : Ll) (v : Lz),R.length<=l->ja O (fg O cs l) c0 R v=[]
 | _,[],_,_=>rfl
 | 0,_ :: _,_,h=>by simp at h
 | l+1,r :: R,v,h=>by rw [ja,mJ O cs c0 (l+1) R v (by simp at h;omega),KC];rw [Me];intro a _;exact mJ O cs cs l R _ (by simp at h;omega)
theorem mD (O : aS) (cs c0 : Lz) (l : Nat) (g : Nat->Nat) (hg : ∀R v,(fg O cs l R v).length=g R.length) : ∀(R : Ll) (v : Lz),(ja O (fg O cs l) c0 R v).length=c0.length * ((List.range R.length).map g).sum
 | [],_=>by simp [ja]
 | r :: R,v=>by rw [ja,Jh,mD O cs c0 l g hg R v,List.length_flatMap,Kf,Kz,JR,M6];have h : c0.map (λa=>(fg O cs l R (gz O v a r)).length)=c0.map λ_=>g R.length:=Kb λa _=>hg R _;rw [h,List.map_const',List.sum_replicate_nat,M4];simp;omega
theorem p9 (O : aS) (cs : Lz) : ∀(l : Nat) (R : Ll) (v : Lz),(fg O cs l R v).length=dp R.length l * cs.length ^ l
 | 0,R,v=>by cases R <;> simp [fg,dp]
 | l+1,R,v=>by
  rw [fg,mD O cs cs l (λn=>dp n l * cs.length ^ l) (λR v=>p9 O cs l R v) R v];have e : ((List.range R.length).map λn=>dp n l * cs.length ^ l).sum=dp R.length (l+1) * cs.length ^ l:=by
   rw [<- uR];generalize List.range R.length=X;induction X with
   | nil=>simp
   | cons x X ih=>simp [ih,L3]
  rw [e,Mg,LM (cs.length ^ l),Nat.mul_left_comm]
theorem mH (O : aS) (cs : Lz) (x : Int) (l : Nat) (R : Ll) (v : Lz) : (gW O cs [x] (l+1) R v).length=dp R.length (l+1) * cs.length ^ l:=by
 rw [gW,mD O cs [x] l (λn=>dp n l * cs.length ^ l) (λR v=>p9 O cs l R v) R v];have e : ((List.range R.length).map λn=>dp n l * cs.length ^ l).sum=dp R.length (l+1) * cs.length ^ l:=by
  rw [<- uR];generalize List.range R.length=X;induction X with
  | nil=>simp
  | cons x X ih=>simp [ih,L3]
 rw [e];simp
theorem qC (x : Int) (w : World) : Calls prog 226 #[.int .i64 x] w λe w'=>e = .returned (.bool (x != 0))/\w=w':=by go_enter func226,ntmps226;go_wp2;go_ret;exact ⟨rfl,rfl⟩
theorem zy (a : OA) (n c : Nat) (l : Lz) (w : World) (hi : Ints w a n l) :
  Calls prog 97 #[.slice a n c,.func (.func 226) #[] #[]] w λe w'=>e = .returned (.int .i64 (iD l))/\w=w':=by
 have Hlen:=Z5 hi.len;have hpl:=hi.pl;have hmax:=hi.max;unfold maxLen at hmax;go_enter func97,ntmps97;go_wp2_with fail;go_loop [8] (λiv=>∃k : Nat,k<=n/\iv = .int .i64 k/\Hid (∀j,j<k->nth l j=0)) (λiv=>n - (intOf iv).toNat);case atStart=>exact ⟨0,I7 _,rfl,λj hj=>by omega⟩
 case round =>
  obtain ⟨k,hk,rfl,hall⟩:=hrel
  by_cases hlt : k<n
  ·have ck:=hi.cell k hlt
   by_cases hz : nth l k=0
   ·have hz' : (nth l k != 0)=false:=by simpa using hz
    have Hz:=Z5 hz
    clear hz
    go_wp2_with fail
    refine (qC _ _).mono ?_
    rintro e w' ⟨rfl,rfl⟩
    go_wp2_with fail
    go_round
    case rel=>exact ⟨k+1,by omega,by go_num,λj hj=>by
     rcases JV j k with h | h
     ·exact hall.out j h
     ·rw [show j=k by omega];exact Hz.out⟩
    case measure=>simp [intOf] <;> omega
   ·have hz' : (nth l k != 0)=true:=by simpa using hz
    have Hf : Hid (iD l=k):=by show _=_;have:=uY l k (by rw [Hlen.out];exact hlt) hall.out hz;rw [iD,this,I6 (by rw [Hlen.out];exact hlt)]
    clear hz
    go_wp2_with fail
    refine (qC _ _).mono ?_
    rintro e w' ⟨rfl,rfl⟩
    go_wp2_with fail
    go_ret
    exact ⟨aH Hf.out.symm,rfl⟩
  ·obtain rfl : k=n:=by omega
   have Hf : Hid (iD l = -1):=by show _=_;have:=nh l (by rw [Hlen.out];exact hall.out);rw [iD,this,I5 (by omega)]
   go_wp2_with fail
   go_ret
   exact ⟨aH Hf.out.symm,rfl⟩
theorem fw (a : OA) (n c : Nat) (l : Lz) (w : World) (h : Ints w a n l) :
  Calls prog 55 #[.slice a n c] w λe w'=>e = .returned (.int .i64 (bK l))/\w'=w:=by
 have Hl:=Z5 h.len;have hpl:=h.pl;have hmax:=h.max;unfold maxLen at hmax;have hle : ∀k,k<=n->(bK (l.take k) : Int)<=k:=λk hk=>by have h1 : bK (l.take k)<=(l.take k).length:=Kd;rw [Jy] at h1;omega
 have Hle:=Z5 hle;have HT : Hid (bK (l.take n)=bK l):=by show _=_;rw [I8 (by rw [Hl.out];exact IZ _)]
 clear hle;go_enter func55,ntmps55;go_wp2_with fail;go_loopw [3,8] (λcv iv wr=>∃k : Nat,k<=n/\iv = .int .i64 k/\cv = .int .i64 (bK (l.take k))/\wr=w) (λ_ iv _=>n - (intOf iv).toNat);case atStart=>exact ⟨0,I7 _,rfl,by simp [bK],rfl⟩
 case round =>
  obtain ⟨k,hk,rfl,rfl,rfl⟩:=hrel
  by_cases hlt : k<n
  ·have ck:=h.cell k hlt
   have hkl : k<l.length:=by rw [Hl.out];exact hlt
   have hst : bK (l.take (k+1))=bK (l.take k)+(if nth l k ≠ 0 then 1 else 0):=by unfold bK;rw [Ja hkl,KL,KR,ai hkl];simp
   have hb:=Hle.out k hk
   obtain ⟨t,ht⟩ : ∃t,bK (l.take k)=t:=⟨_,rfl⟩
   obtain ⟨y,hy⟩ : ∃y,nth l k=y:=⟨_,rfl⟩
   rw [ht] at hst hb ⊢
   rw [hy] at hst ck
   clear ht hy hkl
   by_cases h0 : y=0
   ·have hd : (y != 0)=false:=by simpa using h0
    have Hst : Hid (bK (l.take (k+1))=t):=by show _=_;rw [hst,I5 (by simpa using h0)];rfl
    clear h0 hst
    go_wp2_with fail
    go_roundw
    case rel=>exact ⟨k+1,by omega,by go_num,by rw [Hst.out],by simp⟩
    case measure=>simp [intOf] <;> omega
   ·have hd : (y != 0)=true:=by simpa using h0
    have Hst : Hid (bK (l.take (k+1))=t+1):=by show _=_;rw [hst,I6 h0]
    clear h0 hst
    go_wp2_with fail
    go_roundw
    case rel=>exact ⟨k+1,by omega,by go_num,by rw [Hst.out];go_num,by simp⟩
    case measure=>simp [intOf] <;> omega
  ·obtain rfl : k=n:=by omega
   rw [HT.out]
   go_wp2_with fail
   go_ret
   exact ⟨rfl,rfl⟩
structure mR (F : Nat->Prop) (w : World) (a : OA) (n : Nat) (l : Lz) : Prop where
 ints : Ints w a n l
 lo : 0<n->¬ F (aj a)
structure va (F : Nat->Prop) (w : World) (g b : Nat) (P M : Int) (am : OA) (mn cm : Nat) (N : Int) (a : OA) (n c : Nat) (ag : OA) (ng cg : Nat) (ab : OA) (cb : Nat) (B : Lz) (k : Nat) : Prop where
 box : aZ w g [.pointer (some ⟨b,0,none⟩),.int .i64 P,.int .i64 M,.slice am mn cm,.int .i64 N,.slice a n c,.slice ag ng cg,.slice ab B.length cb,.int .i64 k]
 best : mR F w ab B.length B
def One (g : Nat) (x : Nat) : Prop:=x=g
theorem dW.bQ {w w' : World} {g : Nat} {a : OA} {n : Nat} {l : Lz} (h : dW (g+1) w a n l) (hM : aA w w' (One g) (One g)) : dW (g+1) w' a n l :=
 ⟨h.ints.bQ hM λhn e=>by have:=h.lo hn;rw [show aj a=g from e] at this;omega,h.lo⟩
theorem mR.bQ {F : Nat->Prop} {w w' : World} {g : Nat} {a : OA} {n : Nat} {l : Lz} (h : mR F w a n l) (hM : aA w w' (One g) (One g)) (hF : F g) : mR F w' a n l :=
 ⟨h.ints.bQ hM λhn e=>h.lo hn (by rw [show aj a=g from e];exact hF),h.lo⟩
theorem EJ {w0 w : World} {b g : Nat} {G : cW} {P M : Int} {am : OA} {mn cm : Nat} {N : Int} {a : OA} {n c : Nat} {ag : OA} {ng cg : Nat} {ab : OA} {cb : Nat} {B : Lz} {k : Nat} (av : OA) (nv cv : Nat) (v : Lz)
  {F : Nat->Prop} (hF : F g) (hFl : ∀x,F x->x<w.heap.size) (h : dT w0 b G) (hb : NS w0 w) (hg : w0.heap.size<=g) (hs : va F w g b P M am mn cm N a n c ag ng cg ab cb B k) (hv : dW (g+1) w av nv v) (hve : G.Bz v) (hnv : nv<=1000000) (hk : k<=1000000) :
  Calls prog 171 #[.pointer (some ⟨g,0,none⟩),.slice av nv cv] w λe w'=>e = .returned (.tuple #[])/\∃ab' cb',va F w' g b P M am mn cm N a n c ag ng cg ab' cb' (cO G.ops B v) (k+1)/\aA w w' (One g) (One g):=by
 have Hops:=Z5 (show G.ops.mul=G.mul/\G.ops.inv=G.inv from ⟨rfl,rfl⟩);have c0:=hs.box.cell 0 rfl;have c7:=hs.box.cell 7 rfl;have c8:=hs.box.cell 8 rfl;have f8:=hs.box.frozen 8;have kw : IntKind.i64.wrap ((k : Int)+1)=(k : Int)+1:=Jj _ (by omega);go_enter func171,ntmps171;go_upto_region 1 with fail;obtain ⟨V,hV⟩ : ∃V,w.setCell ⟨g,8,none⟩ (.int .i64 ((k : Int)+1))=V:=⟨_,rfl⟩
 rw [hV];have hbV:=hs.box.gv 8 (.int .i64 ((k : Int)+1));rw [hV] at hbV;have hMV : aA w V (One g) (One g):=by rw [<- hV];exact NF w g 8 _
 have hvV:=hv.bQ hMV;have hBV:=hs.best.bQ hMV hF;have HF0:=Z5 (Jg hF hFl);have hVV : NS w0 V:=hb.trans (hMV.below (λx hx=>by rw [show x=g from hx];exact hg) hb.size);clear c0 c7 c8 f8 hV kw;obtain ⟨d,hd⟩ : ∃d,bK B=d:=⟨_,rfl⟩
 have Hd:=Z5 hd;have c0:=hbV.cell 0 rfl;have c7:=hbV.cell 7 rfl;have hdl : d<=B.length:=by rw [<- hd];exact Kd
 have hBmax:=hBV.ints.max;unfold maxLen at hBmax;go_upto_if 23 with fail;go_cut [4] (λdv wx=>dv = .int .i64 (d : Nat)/\wx=V);case first =>
  rcases JS B.length with h0 | h0
  ·have d1 : decide ((0 : Int)<(B.length : Int))=false:=Jn (by omega)
   have d1' : decide (0<B.length)=false:=Jn (by omega)
   obtain rfl : d=0:=by omega
   go_wp2_with fail
   go_meet
   exact ⟨by rw [h0],rfl⟩
  ·have d1 : decide ((0 : Int)<(B.length : Int))=true:=Jm (by omega)
   have d1' : decide (0<B.length)=true:=Jm h0
   go_wp2_with fail
   refine (fw ab B.length cb B V hBV.ints).mono ?_
   rintro e w' ⟨rfl,rfl⟩
   rw [hd]
   go_wp2_with fail
   go_meet
   exact ⟨rfl,rfl⟩
 obtain ⟨rfl,rfl⟩:=hcut;generalize wc=V1 at *;have hb2 : aZ V1 g [.pointer (some ⟨b,0,none⟩),.int .i64 P,.int .i64 M,.slice am mn cm,.int .i64 N,.slice a n c,.slice ag ng cg,.slice ab B.length cb,.int .i64 ((k+1 : Nat) : Int)]:=by rw [show ((k : Int)+1)=((k+1 : Nat) : Int) by omega] at hbV;exact hbV
 have HSea:=Z5 (Jg hb2 hBV);have HMV:=Z5 hMV;have hvl : v.length=nv:=hvV.ints.len;obtain ⟨z,hz⟩ : ∃z,bK v=z:=⟨_,rfl⟩
 have hzv : z<=nv:=by rw [<- hz,<- hvl];exact Kd
 clear hbV hb2 hMV hv hb hs;go_wp2_with fail;refine (fw av nv cv v V1 hvV.ints).mono ?_;rintro e w' ⟨rfl,hw'⟩;obtain rfl:=hw'.symm;rw [hz];by_cases hA : z=0\/(d ≠ 0/\d<z)
 ·have HL : Hid (cO G.ops B v=B):=by show _=_;unfold cO;rw [Hd.out,hz,I6 hA]
  rcases hA with rfl | ⟨h1,h2⟩
  ·clear hz;go_wp2_with fail;(try simp only [Exit.inBlock,Exit.then])
   refine bodyPost_ret (results_none rfl _ _ _) rfl ?_;exact ⟨rfl,ab,cb,by rw [HL.out];exact ⟨HSea.out.1,HSea.out.2⟩,HMV.out⟩
  ·have e0 : ((z : Int) == 0)=false:=by simp;omega
   have e1 : decide (0<d)=true:=Jm (by omega);have e2 : decide (d<z)=true:=Jm h2;clear hz hd h1 h2;go_wp2_with fail;(try simp only [Exit.inBlock,Exit.then])
   refine bodyPost_ret (results_none rfl _ _ _) rfl ?_;exact ⟨rfl,ab,cb,by rw [HL.out];exact ⟨HSea.out.1,HSea.out.2⟩,HMV.out⟩
 have hz0 : z ≠ 0:=λe=>hA (.inl e);have Hz:=Z5 hz;have HA:=Z5 hA;have hvz : bK v ≠ 0:=by rw [hz];exact hz0
 obtain ⟨f,hf⟩ : ∃f,fY v=f:=⟨_,rfl⟩
 have hfl : f<nv:=by rw [<- hf,<- hvl];refine K1 λhn=>hvz ?_;unfold bK;rw [LK];intro y hy;obtain ⟨i,hi,rfl⟩:=List.mem_iff_getElem.1 hy;have:=jS v i (by omega);rw [ai hi] at this;simp [this]
 have hfv : iD v=f:=by unfold iD;rw [hf,hvl,I6 hfl]
 have hfn : nth v f ≠ 0:=by rw [<- hf];exact iY v (by rw [hf,hvl];exact hfl)
 have elf : G.El (nth v f):=hve.nth (by rw [hvl];exact hfl);have Hf:=Z5 hf;have e0 : ((z : Int) == 0)=false:=by simp;omega
 clear hz hf hd;go_upto_region 5 with fail;go_cut [41] (λbv wx=>bv = .bool false/\wx=V1);case first =>
  by_cases h1 : d=0
  ·subst h1
   go_wp2_with fail
   go_meet
   exact ⟨rfl,rfl⟩
  ·have e1 : decide (0<d)=true:=Jm (by omega)
   have e2 : decide (d<z)=false:=by simp;exact Nat.le_of_not_lt λh=>hA (.inr ⟨h1,h⟩)
   clear h1 hA
   go_wp2_with fail
   go_meet
   exact ⟨rfl,rfl⟩
 obtain ⟨rfl,rfl⟩:=hcut;generalize wc=V2 at *;have c0:=HSea.out.1.cell 0 rfl;clear c7 hdl hBmax hA e0;go_wp2_with fail;refine (zy av nv cv v V2 hvV.ints).mono ?_;rintro e w' ⟨rfl,rfl⟩;rw [hfv];have ev:=hvV.ints.cell f hfl;have hplv:=hvV.ints.pl;have HGV : Hid (dT V2.drew b G/\∀n,dT (V2.drewN n) b G):=⟨(h.aa hVV).aa (I1 _ _).drew,λn=>(h.aa hVV).drewN n⟩
 have Hfn:=Z5 hfn;clear hfv hfn;go_upto_region 7 with fail;go_cut [7] (λdv wx=>dv = .int .i64 (G.inv (nth v f))/\bf V2 wx);case first =>
  go_region_held3 (λw'=>w'.cell? ⟨g,0,none⟩=some (.pointer (some ⟨b,0,none⟩))/\w'.cell? ⟨aj av,aL av+f,none⟩=some (.int .i64 (nth v f)))
   (exact ⟨c0,ev⟩)
   (first
   | (go_at_call 193;((with_reducible refine (zB _ HGV.out.1 elf Hfn.out).mono ?_);rintro e w4 ⟨m4,rfl,rfl⟩)))
  all_goals (
   go_step;go_step
   go_meet
   exact ⟨rfl,⟨_,rfl⟩⟩)
 obtain ⟨rfl,hdr⟩:=hcut;generalize wc=V3 at *;have hvV3:=hvV.ints.aa hdr.below;have h3:=HSea.out.1.aa hdr.below;have c0:=h3.cell 0 rfl;have hiel : G.El (G.inv (nth v f)):=NP h _;have hG3:=h.aa (hdr.ue hVV);obtain ⟨N2,hN⟩ : ∃N2,v.map (G.mul (G.inv (nth v f)))=N2:=⟨_,rfl⟩
 have hmon : ei G.ops v=N2:=by show v.map (λx=>G.mul (G.inv (nth v (fY v))) x)=N2;rw [Hf.out];exact hN
 have hNl : N2.length=nv:=by rw [<- hN,Jl];exact hvl
 have Hsc:=Z5 (uE (G.inv (nth v f)) av nv cv v hG3 hiel hvV3 hve hnv);rw [hN] at Hsc;unfold dh at Hsc;rw [hNl] at Hsc;have hsz:=HSea.out.1.1;clear hN hG3 hvV hvV3 ev;go_wp2_with fail;refine Hsc.out.mono ?_;rintro e w4 ⟨a4,c4,rfl,hown4,hb4⟩;have hb34 : NS V2 w4:=Nh hdr.below hb4;have h4:=HSea.out.1.aa hb34;have c0:=h4.cell 0 rfl;have c7:=h4.cell 7 rfl;have f7:=h4.frozen 7;have hB4 : mR F w4 ab B.length B:=⟨HSea.out.2.ints.aa hb34,HSea.out.2.lo⟩
 have hN4 : mR F w4 a4 nv N2:=⟨(Ni hown4).1,λhn hFa=>by have h1:=(aM hown4 (by intro e;have:=((Ni hown4).1).pl hn;rw [e] at this;cases this)).1;have h2:=hdr.below.size;have h3:=HF0.out.2 _ hFa;have h4:=HMV.out.size;omega⟩
 have hM4 : aA w w4 (One g) (One g):=HMV.out.trans (Nn hb34 _);have hput:=h4.gv 7 (.slice a4 nv c4);have hMp : aA w (w4.setCell ⟨g,7,none⟩ (.slice a4 nv c4)) (One g) (One g):=hM4.trans (NF w4 g 7 _);have hNp:=hN4.bQ (NF w4 g 7 (.slice a4 nv c4)) HF0.out.1;have HF : Hid (cO G.ops B v=N2->∃ab' cb',va F (w4.setCell ⟨g,7,none⟩ (.slice a4 nv c4)) g b P M am mn cm N a n c ag ng cg ab' cb' (cO G.ops B v) (k+1)/\aA w (w4.setCell ⟨g,7,none⟩ (.slice a4 nv c4)) (One g) (One g)):=λe=>by rw [e];exact ⟨a4,c4,⟨by rw [hNl];exact hput,by rw [hNl];exact hNp⟩,hMp⟩
 have HF2 : Hid (cO G.ops B v=B->∃ab' cb',va F w4 g b P M am mn cm N a n c ag ng cg ab' cb' (cO G.ops B v) (k+1)/\aA w w4 (One g) (One g)):=λe=>by rw [e];exact ⟨ab,cb,⟨h4,hB4⟩,hM4⟩
 have hcmp:=yq a4 nv c4 N2 ab B.length cb B w4 hN4.ints hB4.ints;have Hcmp:=Z5 hcmp;have hlk : cO G.ops B v=if d=0\/z<d\/dK N2 B<0 then N2 else B:=by unfold cO;rw [hmon,Hd.out,Hz.out,I5 HA.out]
 clear hown4 hb4 hb34 h4 hB4 hN4 hM4 hput hMp hNp hcmp h3 hdr hmon;by_cases h1 : d=0
 ·have hl2 : cO G.ops B v=N2:=by rw [hlk,I6 (.inl h1)]
  have HH:=Z5 (HF.out hl2);subst h1;clear hlk hl2;go_wp2_with fail;go_end0;exact ⟨rfl,HH.out⟩
 have e1 : ((d : Int) == 0)=false:=by simp;exact h1
 by_cases h2 : z<d
 ·have hl2 : cO G.ops B v=N2:=by rw [hlk,I6 (.inr (.inl h2))]
  have HH:=Z5 (HF.out hl2);have e2 : decide (z<d)=true:=by simpa using h2
  clear hlk hl2 h1 h2;go_wp2_with fail;go_end0;exact ⟨rfl,HH.out⟩
 have e2 : decide (z<d)=false:=by simpa using h2
 by_cases h3 : dK N2 B<0
 ·have hl2 : cO G.ops B v=N2:=by rw [hlk,I6 (.inr (.inr h3))]
  have HH:=Z5 (HF.out hl2);have e3 : decide (dK N2 B<0)=true:=by simpa using h3
  clear hlk hl2 h1 h2 h3;generalize dK N2 B=y at *;go_wp2_with fail;refine Hcmp.out.mono ?_;rintro e w5 ⟨rfl,rfl⟩;go_wp2_with fail;go_end0;exact ⟨rfl,HH.out⟩
 ·have hl2 : cO G.ops B v=B:=by rw [hlk,I5 (by rintro (h | h | h);exact h1 h;exact h2 h;exact h3 h)]
  have HH:=Z5 (HF2.out hl2);have e3 : decide (dK N2 B<0)=false:=by simpa using h3
  clear hlk hl2 h1 h2 h3;generalize dK N2 B=y at *;go_wp2_with fail;refine Hcmp.out.mono ?_;rintro e w5 ⟨rfl,rfl⟩;go_wp2_with fail;go_end0;exact ⟨rfl,HH.out⟩
theorem cH.bQ {B : Nat} {w w' : World} {I I' : Nat->Prop} {a : OA} {n : Nat} {L : Ll} (h : cH B w a n L) (hM : aA w w' I I') (hI : ∀b,I b->b<B) : cH B w' a n L :=
 ⟨h.len,h.pl,h.max,h.lo,λi hi=>by obtain ⟨b,m,c,h1,h2⟩:=h.cell i hi;exact ⟨b,m,c,hM.cell h1 (λhc=>K3 _ (Jv (hI _ hc) (h.lo (by omega)))),h2.ints.bQ hM (λhm hc=>K3 _ (Jv (hI _ hc) (h2.lo hm))),h2.lo⟩⟩
section
open Go.RowKit
end
def zF (x : Int) : Lz->Lz
 | []=>[x]
 | y :: l=>if x<=y then x :: y :: l else y :: zF x l
def lX : Lz->Lz
 | []=>[]
 | x :: l=>zF x (lX l)
theorem oH (x : Int) : ∀l,(zF x l).Perm (x :: l)
 | []=>LU _
 | y :: l=>by
  rw [zF];split
  ·exact LU _
  ·exact ((oH x l).cons y).trans (Nc x y l)
theorem tP (x : Int) : ∀ {l : Lz},l.Pairwise (λa b=>a<=b)->(zF x l).Pairwise (λa b=>a<=b)
 | [],_=>by simp [zF]
 | y :: l,h=>by
  rw [zF];rw [KN] at h;split
  ·rename_i hxy;rw [KN,KN];refine ⟨λa ha=>?_,h.1,h.2⟩;rcases List.mem_cons.1 ha with rfl | ha
   ·exact hxy
   ·have:=h.1 a ha;omega
  ·rename_i hxy;rw [KN];refine ⟨λa ha=>?_,tP x h.2⟩;rcases List.mem_cons.1 ((oH x l).mem_iff.1 ha) with rfl | ha
   ·omega
   ·exact h.1 a ha
theorem pZ : ∀l,(lX l).Perm l
 | []=>LU _
 | x :: l=>(oH x (lX l)).trans ((pZ l).cons x)
theorem qx : ∀l,(lX l).Pairwise (λa b=>a<=b)
 | []=>by simp [lX]
 | x :: l=>tP x (qx l)
theorem kO (l : Lz) : bA l=lX l:=(j5 (qx l) (pZ l)).symm
def qX (O : aS) (L : Ll) (m : Nat) (C : jg) (s z : Lz) : Lz:=lX (sl O L (lX z ++ bz false (s ++ z) m) (if C.cos=true then m else C.M))
theorem wS (O : aS) (L : Ll) (m : Nat) (C : jg) (s z : Lz) : eg O L m C s z=qX O L m C s z:=by unfold eg qX iz;rw [kO,kO]
def DT (O : aS) (L : Ll) (m : Nat) (C : jg) : Nat->Lz->Lz->Ll->Int × Ll
 | 0,s,z,T=>if dq O L m C s (qX O L m C s z)=true then if T.length=65536 then (8,[]) else (0,T ++ [qX O L m C s z]) else (11,[])
 | d+1,s,z,T=>if dq O L m C s (qX O L m C s z)=true then if T.length=65536 then (8,[]) else eS (DT O L m C d) s z (jr C s z (qX O L m C s z)) (T ++ [qX O L m C s z]) else (11,[])
theorem AR (O : aS) (L : Ll) (m : Nat) (C : jg) : ∀d,gn O L m C d=DT O L m C d
 | 0=>by funext s z T;rw [gn,DT,wS]
 | d+1=>by funext s z T;rw [gn,DT,wS,AR O L m C d]
theorem Ip (O : aS) (L : Ll) (m : Nat) (C : jg) : qJ O L m C=DT O L m C C.W [] [] []:=by rw [qJ,AR]
theorem lits (V : World) (l : Lz) (cs : Array Value) (h : cs=(l.map (Value.int .i64)).toArray) (hl : l.length<=1000) {g : Nat} (hg : g=V.heap.size) : Ints (V.alloc (.cells cs 3)) (some ⟨g,0,none⟩) l.length l:=by subst h;refine ⟨rfl,λ_=>rfl,by unfold maxLen;omega,λi hi=>?_⟩;have h1:=aG V ((l.map (Value.int .i64)).toArray) 3 hg i;rw [ai hi];simpa [aj,aL,hi] using h1
theorem G7 (V : World) {p : Addr} {n1 c1 : Nat} {l1 : Lz} (h1 : Ints V (some p) n1 l1) {g : Nat} (hg : g=V.heap.size) : ch (V.alloc (.cells #[.slice (some p) n1 c1] 22)) (some ⟨g,0,none⟩) 1 [l1] :=
 ⟨rfl,λ_=>rfl,by unfold maxLen;omega,λk hk=>by
  have h:=aG V #[.slice (some p) n1 c1] 22 hg k;match k,hk with
  | 0,_=>exact ⟨some p,n1,c1,h,h1.aa (aw _ _)⟩⟩
theorem HU (V : World) {p q : Addr} {n1 n2 c1 c2 : Nat} {l1 l2 : Lz} (h1 : Ints V (some p) n1 l1) (h2 : Ints V (some q) n2 l2) {g : Nat} (hg : g=V.heap.size) : ch (V.alloc (.cells #[.slice (some p) n1 c1,.slice (some q) n2 c2] 22)) (some ⟨g,0,none⟩) 2 [l1,l2] :=
 ⟨rfl,λ_=>rfl,by unfold maxLen;omega,λk hk=>by
  have h:=aG V #[.slice (some p) n1 c1,.slice (some q) n2 c2] 22 hg k;match k,hk with
  | 0,_=>exact ⟨some p,n1,c1,h,h1.aa (aw _ _)⟩
  | 1,_=>exact ⟨some q,n2,c2,h,h2.aa (aw _ _)⟩⟩
theorem Iy (V : World) (x1 y1 : Int) : ch ((V.alloc (.cells #[.int .i64 x1,.int .i64 y1] 3)).alloc (.cells #[.slice (some ⟨V.heap.size,0,none⟩) 2 2] 22)) (some ⟨V.heap.size+1,0,none⟩) 1 [[x1,y1]] :=
 G7 _ (lits V [x1,y1] #[.int .i64 x1,.int .i64 y1] rfl (by simp) rfl) (by simp)
section
open Go.RowKit
end
section
open Go.RowKit
end
section
variable {O : aS} {El : Int->Prop} {m : Nat} {L : Ll}
end
section
open Go.RowKit
end
end Go.Proofs.YtcfmiocdlcapoaaGreat
