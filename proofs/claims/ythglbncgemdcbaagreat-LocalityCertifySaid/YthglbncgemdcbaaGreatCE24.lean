import Derived.Test.YthglbncgemdcbaaGreatCE23
namespace Go.Proofs.YthglbncgemdcbaaGreat
set_option linter.all false
set_option maxRecDepth 100000
set_option maxHeartbeats 16000000
open Go.RowKit Go.Proofs.Tryz
section
open Go.RowKit
end
def mD.I (σ:mD) (x:Nat):Prop:=bQ σ.ar σ.R x
def rq (B:Nat) (σ:mD) (V:Int × Ll) (w:World) (e:Ending) (w':World):Prop :=
 (V.1=0/\∃Z:mD,aO w' B Z.ar Z.T.length Z.cr Z.R Z.T/\Z.T=V.2/\Z.T.length<=65536/\aC w w' σ.I Z.I/\e = .returned (.tuple #[.slice Z.ar Z.T.length Z.cr,cG 0])) \/
 (V.1 ≠ 0/\∃I',aC w w' σ.I I'/\e = .returned (.tuple #[ds,cG V.1]))
theorem aO.more {V Q:World} {B:Nat} {σ:mD} (h:aO V B σ.ar σ.T.length σ.cr σ.R σ.T)
  {a3:OA} {O:Nat} {t:LI} (F:V.ownsRow B 3 1 (.slice a3 t.length O) t.length (t.map (Value.int .i64))) (K:a3 ≠ none->¬ σ.I (ablk a3)) {o:Obj}
  {a5:OA} {G:Nat} (X:Q.ownsRow B 22 1 (.slice a5 (σ.T.length+1) G) (σ.T.length+1) (List.zipWith j8 σ.R σ.T ++ [.slice a3 t.length O])) (H:(V.alloc o).grownBy Q (Value.slice σ.ar σ.T.length σ.cr).ownBlock)
  (U:∀b,b<(V.alloc o).heap.size->eY σ.ar b->eY a5 b) :
  aO Q B a5 (σ.T.length+1) G (σ.R ++ [(a3,O)]) (σ.T ++ [t])/\aC V Q (λx=>σ.I x\/(a3 ≠ none/\x=ablk a3)) (λx=>bQ a5 (σ.R ++ [(a3,O)]) x):=by
 have Y:=an V o;have S:aO (V.alloc o) B σ.ar σ.T.length σ.cr σ.R σ.T:=h.af Y;refine ⟨Py S (bf F Y) K X H U,?_⟩;have L:aC V (V.alloc o) (λx=>σ.I x\/(a3 ≠ none/\x=ablk a3)) (λx=>σ.I x\/(a3 ≠ none/\x=ablk a3)):=Pr Y _;have N:aC (V.alloc o) Q (λx=>σ.I x\/(a3 ≠ none/\x=ablk a3)) (λx=>σ.I x\/(a3 ≠ none/\x=ablk a3)):=PC H λh0=>.inl (.inl ⟨h0,rfl⟩);have Z:=L.trans N;refine ⟨Z.os,Z.tape,Z.output,Z.size,Z.block,λx E=>?_⟩;rcases bQ.push S U E with h1 | h1 | h1
 ·exact .inl (.inl h1)
 ·exact .inl (.inr h1)
 ·exact .inr (K9 Y.size h1)
def zS (U V:World) (I:Nat->Prop):Prop:=∃I',aC U V I I'
theorem zS.below {U V:World} {I:Nat->Prop} (h:PY U V):zS U V I:=⟨_,Pr h _⟩
def JI (B:Nat) (σ:mD) (V:Int × Ll) (X:Int) (w:World) (Y:Value) (w':World):Prop :=
 (X=0/\∃Z:mD,aO w' B Z.ar Z.T.length Z.cr Z.R Z.T/\Z.T=V.2/\Z.T.length<=65536/\aC w w' σ.I Z.I/\Y = .slice Z.ar Z.T.length Z.cr) \/
 (X ≠ 0/\∃I',aC w w' σ.I I'/\Y = ds)
theorem rq.split {B:Nat} {σ:mD} {V:Int × Ll} {w w':World} {e:Ending} (h:rq B σ V w e w'):∃Y,e = .returned (.tuple #[Y,cG V.1])/\JI B σ V V.1 w Y w':=by
 rcases h with ⟨h1,Z,g1,g2,g3,g4,rfl⟩ | ⟨h1,I',g4,rfl⟩
 ·exact ⟨_,by rw [h1],.inl ⟨h1,Z,g1,g2,g3,g4,rfl⟩⟩
 ·exact ⟨_,rfl,.inr ⟨h1,I',g4,rfl⟩⟩
theorem JI.from {B:Nat} {σ:mD} {V:Int × Ll} {X:Int} {U w w':World} {Y:Value} (h:JI B σ V X w Y w') (hb:PY U w):JI B σ V X U Y w':=by
 rcases h with ⟨h1,Z,g1,g2,g3,g4,rfl⟩ | ⟨h1,I',g4,rfl⟩
 ·exact .inl ⟨h1,Z,g1,g2,g3,(Pr hb _).trans g4,rfl⟩
 ·exact .inr ⟨h1,I',(Pr hb _).trans g4,rfl⟩
theorem JI.KQ {B:Nat} {σ:mD} {V:Int × Ll} {X:Int} {w w':World} {Z:Value} (h:JI B σ V X w Z w'):zS w w' σ.I:=by
 rcases h with ⟨h1,Y,g1,g2,g3,g4,rfl⟩ | ⟨h1,I',g4,rfl⟩
 ·exact ⟨_,g4⟩
 ·exact ⟨_,g4⟩
theorem Dp (F:LI->LI->Ll->Int × Ll) (s z Z:LI) {j:Nat} (Y:j<Z.length) (T:Ll) :
  e9 F s (z ++ Z.take j) (Z.drop j) T=if (F (s ++ [nth Z j]) (z ++ Z.take j) T).1=0 then e9 F s (z ++ Z.take (j+1)) (Z.drop (j+1)) (F (s ++ [nth Z j]) (z ++ Z.take j) T).2 else ((F (s ++ [nth Z j]) (z ++ Z.take j) T).1,[]):=by rw [show Z.drop j=nth Z j :: Z.drop (j+1) by rw [aj Y];exact LH Y,e9,oe Z Y,LW]
theorem oR (P M:Int) (am:OA) (mn cm:Nat) (mod:LI) (m:Nat) (a:OA) (n c:Nat) (L:Ll) (ay:OA) (ny cy:Nat) (C:js) (A:World)
  (hmod:Ints A am mn mod) (hi:bw A a n L) (hE:aI P M mod m L=0) (cb:Bool) (hc:C.cos=cb) (hRight:Hid (Fl P M am mn cm mod m a n c L ay ny cy C A)) (hw6:C.W<=64) (hm6:m<=64) :
  ∀(d:Nat) (w:World) (σ:mD) (sa:OA) (ns cs:Nat) (s:LI) (az:OA) (nz cz:Nat) (z:LI),ns+d=C.W->nz<=64->PY A w->aO w A.heap.size σ.ar σ.T.length σ.cr σ.R σ.T->σ.T.length<=65536 ->
   Ints w sa ns s->Ints w az nz z->(0<ns->¬ σ.I (ablk sa))->(0<nz->¬ σ.I (ablk az))->z.Nodup->(∀x ∈ z,0<=x/\x<(m:Int)) ->
   Calls prog 130 #[oZ P M am mn cm m a n c ay ny cy C,.slice sa ns cs,.slice az nz cz,.slice σ.ar σ.T.length σ.cr] w (rq A.heap.size σ (gH (ah P M.toNat mod).ops L m C d s z σ.T) w)
 | d,w,σ,sa,ns,cs,s,az,nz,cz,z,hd,hnz,hb,hO,hTl,hs,hz,hsp,hzp,hzn,hzb=>by
  have IH:Hid (∀d',d'+1=d->∀(w:World) (σ:mD) (sa:OA) (ns cs:Nat) (s:LI) (az:OA) (nz cz:Nat) (z:LI),ns+d'=C.W->nz<=64->PY A w->aO w A.heap.size σ.ar σ.T.length σ.cr σ.R σ.T->σ.T.length<=65536 ->
   Ints w sa ns s->Ints w az nz z->(0<ns->¬ σ.I (ablk sa))->(0<nz->¬ σ.I (ablk az))->z.Nodup->(∀x ∈ z,0<=x/\x<(m:Int)) ->
   Calls prog 130 #[oZ P M am mn cm m a n c ay ny cy C,.slice sa ns cs,.slice az nz cz,.slice σ.ar σ.T.length σ.cr] w (rq A.heap.size σ (gH (ah P M.toNat mod).ops L m C d' s z σ.T) w)):=λd' hd'=>by subst hd';exact oR P M am mn cm mod m a n c L ay ny cy C A hmod hi hE cb hc hRight hw6 hm6 d'
  have Hsl:=Z5 hs.len;have Hzl:=Z5 hz.len;obtain ⟨RF,hRF⟩:∃RF,gH (ah P M.toNat mod).ops L m C d s z σ.T=RF:=⟨_,rfl⟩
  rw [hRF];have HRF:=Z5 hRF;have Hz:=Z5 (K3 hzn hzb);have Hmod:=Z5 hmod;have Hi:=Z5 hi;have HE:=Z5 hE;have HO:=Z5 hO;have Hb:=Z5 hb;have HTl:=Z5 hTl;have HI0:=Z5 (K3 hs hz);have HI1:=Z5 (K3 hsp hzp);have hns:ns<=64:=by omega
  obtain ⟨Ot,hOt⟩:∃Ot,gU m s z=Ot:=⟨_,rfl⟩
  have hol:=zt m s z;rw [hOt,Hzl.out] at hol;have hoin:tu m Ot:=λj hj=>by
   have h0:=aG hj;have h00:nth Ot j ∈ gU m s z:=by rw [hOt];exact h0
   rcases nf h00 with h1 | h1
   ·exact hzb _ h1
   ·exact ⟨h1.1,h1.2.1⟩
  obtain ⟨mo,hmo⟩:∃mo,C.M=mo:=⟨_,rfl⟩
  obtain ⟨t,hte⟩:∃t,et (ah P M.toNat mod).ops L m C s z=t:=⟨_,rfl⟩
  obtain ⟨mt,hmt⟩:∃mt,(if C.cos=true then m else C.M)=mt:=⟨_,rfl⟩
  have Hmt:Hid (mt=if cb=true then m else mo):=by show _=_;rw [<- hmt,hc,hmo]
  have htS:cO (tD (ah P M.toNat mod).ops L Ot mt)=t:=by rw [<- hte,et,hOt,hmt]
  have hcn:t.Nodup/\∀x ∈ t,0<=x/\x<(m:Int):=by
   rw [<- hte];refine ⟨sU hzn,λx G=>?_⟩;rcases nf (vz x (yK.1 G)) with h1 | h1
   ·exact hzb x h1
   ·exact ⟨h1.1,h1.2.1⟩
  have htl:t.length<=64:=K9 (lI hcn.1 hcn.2) hm6;obtain ⟨tl,htle⟩:∃tl,t.length=tl:=⟨_,rfl⟩
  have hgl:(tD (ah P M.toNat mod).ops L Ot mt).length=tl:=by rw [<- htle,<- htS,eE]
  have hpk:∀no,Ot.length=no->iA (kC (ah P M.toNat mod).ops L) Ot mt no=tD (ah P M.toNat mod).ops L Ot mt:=λno h=>by obtain ⟨m',e,_,_,F,hR⟩:=aZ hE;rw [<- h];exact Jl F hR Ot mt
  have Hte:=Z5 hte;have Hcn:=Z5 hcn;have Hmo:=Z5 hmo;rw [htle] at htl;obtain ⟨ol,hole⟩:∃ol,Ot.length=ol:=⟨_,rfl⟩
  rw [hole] at hol;obtain ⟨fl,hfle⟩:∃fl,(frTo false (s ++ z) m).length=fl:=⟨_,rfl⟩
  have hfo:nz+fl=ol:=by rw [<- hole,<- hOt,gU,K6,eE,Hzl.out,hfle]
  have HPk:Hid (∀V ao co,PY w V->Ints V ao ol Ot->Calls prog 186 #[.agg #[cG P,cG M,.slice am mn cm],.slice a n c,.slice ao ol co,cG mt] V λe w' =>
    ∃a1 c1,e = .returned (.slice a1 tl c1)/\w'.ownsRow V.heap.size 3 1 (.slice a1 tl c1) tl (t.map (Value.int .i64))/\PY V w'):=λV ao co Q ho=>by have h5:=zP P M am mn cm mod m a n c L ao ol co Ot mt V (hmod.af (hb.trans (Q.mono hb.size))) (hi.af (hb.trans (Q.mono hb.size))) ho hE hoin (by omega);rw [hpk ol hole,hgl,htS] at h5;exact h5
  have HSo:Hid (∀V,PY w V->Calls prog 122 #[.slice az nz cz] V λe w'=>∃a1 c1,e = .returned (.slice a1 nz c1)/\Ints w' a1 nz (cO z)/\PY V w'):=λV Q=>by refine (ot az nz cz z V (hz.af Q) (by omega)).mono ?_;rintro e w' ⟨a1,c1,rfl,ho,D⟩;exact ⟨a1,c1,rfl,(Pn ho).1,D⟩
  have HWi:Hid (∀V,PY w V->Calls prog 185 #[.slice sa ns cs,.slice az nz cz] V λe w'=>∃a1 c1,e = .returned (.slice a1 (ns+nz) c1)/\Ints w' a1 (ns+nz) (s ++ z)/\PY V w'):=λV Q=>by refine (jz sa ns cs s az nz cz z V (hs.af Q) (hz.af Q) (by omega) (by omega)).mono ?_;rintro e w' ⟨a1,c1,rfl,ho,D⟩;exact ⟨a1,c1,rfl,(Pn ho).1,D⟩
  have HOt:Hid (∀V a1 c1,Ints V a1 (ns+nz) (s ++ z)->Calls prog 132 #[.slice a1 (ns+nz) c1,cG m] V λe w'=>∃a2 c2,e = .returned (.slice a2 fl c2)/\Ints w' a2 fl (frTo false (s ++ z) m)/\PY V w'):=λV a1 c1 h1=>by refine (gX a1 (ns+nz) c1 (s ++ z) m V h1 (by omega)).mono ?_;rintro e w' ⟨a2,c2,rfl,ho,D⟩;rw [hfle] at ho;exact ⟨a2,c2,by rw [hfle],(Pn ho).1,D⟩
  have HW2:Hid (∀V a1 c1 a2 c2,Ints V a1 nz (cO z)->Ints V a2 fl (frTo false (s ++ z) m)->Calls prog 185 #[.slice a1 nz c1,.slice a2 fl c2] V λe w'=>∃a3 c3,e = .returned (.slice a3 ol c3)/\Ints w' a3 ol Ot/\PY V w'):=λV a1 c1 a2 c2 h1 h2=>by refine (jz a1 nz c1 _ a2 fl c2 _ V h1 h2 (by omega) (by omega)).mono ?_;rintro e w' ⟨a3,c3,rfl,ho,D⟩;have h5:=(Pn ho).1;rw [hfo,show cO z ++ frTo false (s ++ z) m=Ot from hOt] at h5;exact ⟨a3,c3,by rw [hfo],h5,D⟩
  obtain ⟨rr,hrr⟩:∃rr,dx (ah P M.toNat mod).ops L m C s t=rr:=⟨_,rfl⟩
  have HRt0:∀V at' ct,PY w V->Ints V at' tl t->Calls prog 187 #[oZ P M am mn cm m a n c ay ny cy C,.slice sa ns cs,.slice at' tl ct] V λe w'=>e = .returned (.bool rr)/\PY V w':=λV at' ct Q ht=>by have hbV:=hb.trans (Q.mono hb.size);rw [<- hrr];exact hRight V sa ns cs s at' tl ct t (by omega) hbV (hs.af Q) ht
  have Hrr:=Z5 hrr;unfold oZ at HRt0;rw [hc,hmo] at HRt0;have HRt:=Z5 HRt0;unfold oZ;rw [hc,hmo];have Hc:=Z5 hc;have Htle:=Z5 htle;obtain ⟨Tl,hTle⟩:∃Tl,σ.T.length=Tl:=⟨_,rfl⟩
  rw [hTle];rw [hTle] at hTl;have HTle:=Z5 hTle;clear hRF hmod hi hE hO hb hs hz hsp hzp hzn hzb hoin hte hcn htS hgl hpk hole hfle hOt hmo hmt hrr HRt0 hc hRight htle hTle;go_enter func130,ntmps130;go_upto_region 1 with fail;obtain ⟨U,hU⟩:∃U:World,U=w.alloc (.cells #[cG P,cG M,.slice am mn cm,cG m,.slice a n c,cG mo,cG C.W,.slice ay ny cy,.bool cb] 149):=⟨_,rfl⟩
  rw [<- hU];have hbU:PY w U:=by rw [hU];exact an _ _
  have x0:aQ U w.heap.size [cG P,cG M,.slice am mn cm,cG m,.slice a n c,cG mo,cG C.W,.slice ay ny cy,.bool cb]:=by rw [hU];exact Po _ _ _ rfl
  have HX:=Z5 x0;have HS:Hid (∀V,PY U V->V.cell? ⟨w.heap.size,0,none⟩=some (cG P)/\V.cell? ⟨w.heap.size,1,none⟩=some (cG M)/\V.cell? ⟨w.heap.size,2,none⟩=some (.slice am mn cm)/\V.cell? ⟨w.heap.size,3,none⟩=some (cG m)/\V.cell? ⟨w.heap.size,4,none⟩=some (.slice a n c) /\
    V.cell? ⟨w.heap.size,5,none⟩=some (cG mo)/\V.cell? ⟨w.heap.size,6,none⟩=some (cG C.W)/\V.cell? ⟨w.heap.size,7,none⟩=some (.slice ay ny cy)/\V.cell? ⟨w.heap.size,8,none⟩=some (.bool cb)/\PY U V):=λV Q=>by have x1:=x0.af Q;exact ⟨x1.cell 0 rfl,x1.cell 1 rfl,x1.cell 2 rfl,x1.cell 3 rfl,x1.cell 4 rfl,x1.cell 5 rfl,x1.cell 6 rfl,x1.cell 7 rfl,x1.cell 8 rfl,Q⟩
  have HbU:=Z5 hbU;obtain ⟨c0,c1,c2,c3,c4,c5,c6,c7,c8,_⟩:=HS U (KU _ _);clear hU x0;go_upto_if 20 with fail;go_cut [10] (λv wx=>v = cG mt/\wx=U);case first =>
   cases cb
   ·go_wp2_with fail
    go_meet
    exact ⟨by rw [Hmt.out];rfl,rfl⟩
   ·go_wp2_with fail
    go_meet
    exact ⟨by rw [Hmt.out];rfl,rfl⟩
  obtain ⟨rfl,hwc⟩:=hcut;rw [hwc];clear hwc;go_upto_region 4 with fail;go_cut [11] (λv wx=>∃ao co,v = .slice ao ol co/\Ints wx ao ol Ot/\PY U wx);case first =>
   go_region_held3 (λV=>V.cell? ⟨w.heap.size,0,none⟩=some (cG P)/\V.cell? ⟨w.heap.size,1,none⟩=some (cG M)/\V.cell? ⟨w.heap.size,2,none⟩=some (.slice am mn cm)/\V.cell? ⟨w.heap.size,3,none⟩=some (cG m)/\V.cell? ⟨w.heap.size,4,none⟩=some (.slice a n c) /\
     V.cell? ⟨w.heap.size,5,none⟩=some (cG mo)/\V.cell? ⟨w.heap.size,6,none⟩=some (cG C.W)/\V.cell? ⟨w.heap.size,7,none⟩=some (.slice ay ny cy)/\V.cell? ⟨w.heap.size,8,none⟩=some (.bool cb)/\PY U V)
    ((refine HS _ ?_;first | exact hb9w | exact H | exact hb5w | exact hb3w | exact (KU _ _).drew | assumption | (go_split_ands;assumption)))
    (first
    | (go_at_call 122;((with_reducible refine (HSo.out _ (Pm HbU.out (by go_split_ands;assumption))).mono ?_);rintro e w3 ⟨a3,c3,rfl,hI3,hb3⟩;have hb3w:PY U w3:=(by go_split_ands;exact Pm (by assumption) hb3)))
    | (go_at_call 185;((with_reducible refine (HWi.out _ (Pm HbU.out (by go_split_ands;assumption))).mono ?_);rintro e w5 ⟨a5,c5,rfl,hI5,r⟩;have hb5w:PY U w5:=(by go_split_ands;exact Pm (by assumption) r)))
    | (go_at_call 132;((with_reducible refine (HOt.out _ a5 c5 (by first | exact hI5 | exact hI5.af (KU _ _).drew | exact hI5.af hb3 | exact (hI5.af (KU _ _).drew).af hb3)).mono ?_);rintro e w7 ⟨a7,c7,rfl,hI7,O⟩;have H:PY U w7:=(by go_split_ands;exact Pm (by assumption) O)))
    | (go_at_call 185;((with_reducible refine (HW2.out _ a3 c3 a7 c7 (by first | exact hI3 | exact hI3.af O | exact (hI3.af r).af O) (by first | exact hI7 | exact hI7.af hb3)).mono ?_);rintro e w9 ⟨a9,c9,rfl,hI9,hb9⟩;have hb9w:PY U w9:=(by go_split_ands;exact Pm (by assumption) hb9))))
   all_goals (go_wp2_with fail;go_meet;exact ⟨a9,c9,rfl,hI9,hb9w⟩)
  obtain ⟨ao,co,rfl,hIo,hb2⟩:=hcut;generalize wc=w2 at *;obtain ⟨d0,d1,d2,d3,d4,d5,d6,d7,d8,_⟩:=HS w2 hb2;clear c0 c1 c2 c3 c4 c5 c6 c7 c8;have hbw2:=Pm HbU.out hb2;have HPk2:=Z5 (HPk w2 ao co hbw2 hIo);clear HPk HSo HWi HOt HW2 hIo;go_wp2_with fail;refine HPk2.mono ?_;rintro e w3 ⟨a3,c3,rfl,hown3,hb3⟩;have hbU3:=Pm hb2 hb3;have hbw3:=Pm HbU.out hbU3;obtain ⟨e0,e1,e2,e3,e4,e5,e6,e7,e8,_⟩:=HS w3 hbU3;have HRt3:=Z5 (HRt w3 a3 c3 hbw3 (Pn hown3).1);clear HRt HPk2 d0 d1 d2 d3 d4 d5 d6 d7 d8;go_wp2_with fail;refine HRt3.mono ?_;rintro e w4 ⟨rfl,hb4⟩;have hbU4:=Pm hbU3 hb4;have hbw4:=Pm HbU.out hbU4;have N:=bf hown3 hb4;clear HRt3 e0 e1 e2 e3 e4 e5 e6 e7 e8;cases rr
  ·have HF:Hid (RF=(11,[])):=by show _=_;rw [<- HRF.out,ua _ _ _ _ _ _ _ _ (by rw [Hte.out];exact Hrr)]
   go_wp2_with fail;go_ret2;exact .inr ⟨by rw [HF.out];decide,_,Pr hbw4 _,by rw [HF.out];rfl⟩
  by_cases hbig:Tl=65536
  ·have HF:Hid (RF=(8,[])):=by show _=_;rw [<- HRF.out,yo _ _ _ _ _ _ _ _ (by rw [Hte.out];exact Hrr) (by rw [HTle.out];exact hbig)]
   have hbg:((Tl:Int) == 65536)=true:=by simp;omega
   clear hbig;go_wp2_with fail;go_ret2;exact .inr ⟨by rw [HF.out];decide,_,Pr hbw4 _,by rw [HF.out];rfl⟩
  have hbg:((Tl:Int) == 65536)=false:=by simp;omega
  obtain ⟨F,hFd⟩:∃F,gH (ah P M.toNat mod).ops L m C (d - 1)=F:=⟨_,rfl⟩
  have HF:Hid (RF=e9 F s z (jL C s z t) (σ.T ++ [t])):=by show _=_;rw [<- HRF.out,CS _ _ _ _ _ _ _ _ (by rw [Hsl.out];exact hd) (by rw [Hte.out];exact Hrr) (by rw [HTle.out];exact hbig),<- hFd,Hte.out];rfl
  have HFd:=Z5 hFd;have hTlt:Tl<65536:=by omega
  have hO4:=HO.af hbw4;have hcn:=bm w4 (.slice a3 tl c3) 22;have hbn:=an w4 (.cells #[.slice a3 tl c3] 22);have hszB:A.heap.size<=w4.heap.size:=K9 Hb.size hbw4.size;have HO4:=Z5 hO4;rw [HTle.out] at hO4;have hown4o:=hO4.own;have B:Hid (∀w6,(w4.alloc (.cells #[.slice a3 tl c3] 22)).grownBy w6 (Value.slice σ.ar Tl σ.cr).ownBlock->aQ w6 w.heap.size [cG P,cG M,.slice am mn cm,cG m,.slice a n c,cG mo,cG C.W,.slice ay ny cy,.bool cb]):=λw6 hg =>
   ((HX.af hbU4).af (an _ _)).dc (PC (K:=λx=>σ.ar ≠ none/\x=ablk σ.ar) hg λh0=>⟨h0,rfl⟩) λ⟨h0,e⟩=>by have:=(HO.lt _ (.inl ⟨h0,rfl⟩)).2;omega
  clear hbig hFd hO4;go_wp2_with (at_builtin;refine aS rfl _ _ 25 22 rfl ds 24 underlying25 dw rfl A.heap.size σ.ar Tl σ.cr _ rfl (hown4o.alloc _) ⟨w4.heap.size,0,none⟩ 1 (.slice a3 tl c3) rfl hcn rfl (by omega) (by unfold maxLen;omega) (by simp;omega) ?_;intro a6 c6 w6 hown6 X hap6;have k0:=(B w6 X).cell 0 rfl;have k1:=(B w6 X).cell 1 rfl;have k2:=(B w6 X).cell 2 rfl;have k3:=(B w6 X).cell 3 rfl;have k4:=(B w6 X).cell 4 rfl;have k5:=(B w6 X).cell 5 rfl;have k6:=(B w6 X).cell 6 rfl;have k7:=(B w6 X).cell 7 rfl;have k8:=(B w6 X).cell 8 rfl);have hbox6:=B w6 X;have hw24:w2.heap.size<=w4.heap.size:=K9 hb3.size hb4.size;have hra:a3 ≠ none->¬ σ.I (ablk a3):=λh0 hh=>by have h1:=(HO.lt _ hh).2;have h2:=(aT N h0).1;have h3:=hbw2.size;omega
  obtain ⟨Y,hτ1⟩:∃Y:mD,Y=⟨a6,c6,σ.R ++ [(a3,c3)],σ.T ++ [t]⟩:=⟨_,rfl⟩
  have hmore:aO w6 A.heap.size a6 (Tl+1) c6 (σ.R ++ [(a3,c3)]) (σ.T ++ [t])/\aC w4 w6 (λx=>σ.I x\/(a3 ≠ none/\x=ablk a3)) (λx=>bQ a6 (σ.R ++ [(a3,c3)]) x):=by have e1:=Htle.out;have e2:=HTle.out;subst e1;subst e2;exact aO.more HO4.out (aY N (K9 Hb.size hbw2.size)) hra hown6 X hap6
  have hτl:Y.T.length=Tl+1:=by rw [hτ1];simp [HTle.out]
  have hO6:aO w6 A.heap.size Y.ar Y.T.length Y.cr Y.R Y.T:=by rw [hτl,hτ1];exact hmore.1
  have hMw6:aC w w6 σ.I Y.I:=by rw [hτ1];refine aC.Cx hbw4 hmore.2 λx G=>?_;have h2:=(aT N G.1).1;have h3:=hbw2.size;rw [G.2];omega
  have ht6:Ints w6 a3 tl t:=((Pn N).1.af (an _ _)).dc (PC (K:=λx=>σ.ar ≠ none/\x=ablk σ.ar) X λh0=>⟨h0,rfl⟩) λh0 ⟨h1,e⟩=>by
   have h2:=(Pn N).1.pl h0;have h3:a3 ≠ none:=by rw [h2];simp
   exact hra h3 (.inl ⟨h1,e⟩)
  have hs6:=HI0.1.dc hMw6 HI1.1;have hz6:=HI0.2.dc hMw6 HI1.2;have hok:=(yS Hrr.out).1;obtain ⟨S,hks⟩:∃S,jL C s z t=S:=⟨_,rfl⟩
  have hkl:S.length<=64:=by
   have h1:=mx hok (by omega);have h2:S.length<=t.length:=by
    rw [<- hks,jL];split
    ·exact NC _ _
    ·simp
   omega
  have hknd:S.Nodup/\(∀x ∈ S,0<=x/\x<(m:Int))/\(∀x ∈ S,¬ x ∈ z)/\(0<S.length->ns<C.W):=by
   refine ⟨?_,λx G=>?_,λx G=>?_,λh=>?_⟩
   ·rw [<- hks,jL];split
    ·exact Nh _ (qs hok)
    ·simp
   ·rw [<- hks] at G;obtain ⟨q,hq,rfl⟩:=List.mem_iff_getElem.1 (rE G).1;rw [<- aj hq];exact pL hok q hq
   ·rw [<- hks] at G;exact (rE G).2.1
   ·rw [<- hks] at h;have h1:=rE (Ly (n:=0) h);rw [Hsl.out] at h1;exact h1.2.2
  have HKs:=Z5 hknd;rw [hks] at HF;have HKi0:=za P M am mn cm m a n c ay ny cy C sa ns cs s az nz cz z a3 tl c3 t w6 hs6 hz6 ht6 (by omega);rw [hks] at HKi0;unfold oZ at HKi0;rw [Hc.out,Hmo.out] at HKi0;have HKi:=Z5 HKi0;have Hs6:=Z5 (K3 hs6 hz6);have HO6:=Z5 hO6;have HM6:=Z5 hMw6;have Hτ1:=Z5 (K3 hτ1 hτl);have HX6:=Z5 hbox6;have hnI6:¬ Y.I w.heap.size:=by
   rw [hτ1];refine hmore.2.not (by have h1:=HX.1;have h2:=hbU4.size;omega) ?_;rintro (h | ⟨h0,e⟩)
   ·have h1:=(HO.lt _ h).2;omega
   ·have h2:=(aT N h0).1;have h3:=HX.1;have h4:=hb2.size;omega
  have HnI6:=Z5 hnI6;clear hnI6;clear hmore hτ1 hτl hks hknd hok hs6 hz6 ht6 hO6 hMw6 hbox6 HKi0 hown6 X hap6 N hown3 B HRF;refine HKi.mono ?_;rintro e w7 ⟨ak,ck,rfl,hownk,O⟩;have hO7:=HO6.af O;have hM7:aC w w7 σ.I Y.I:=HM6.trans (Pr O _);have hx7:=HX6.af O;have hs7:=Hs6.1.af O;have hz7:=Hs6.2.af O;have hB7:PY A w7:=Hb.trans (hM7.below (λx G=>(HO.lt x G).1) Hb.size);have hsn7:0<ns->¬ Y.I (ablk sa):=λh0=>HM6.not (HI0.1.lt h0) (HI1.1 h0);have hzn7:0<nz->¬ Y.I (ablk az):=λh0=>HM6.not (HI0.2.lt h0) (HI1.2 h0);have hkn7:ak ≠ none->¬ Y.I (ablk ak):=λh0 hh=>by have h1:=(HO6.lt _ hh).2;have h2:=(aT hownk h0).1;omega
  obtain ⟨ik,_⟩:=Pn hownk;have hplk:=ik.pl;have hckap:=mz hownk;obtain ⟨kl,hkle⟩:∃kl,S.length=kl:=⟨_,rfl⟩
  rw [hkle] at hownk hkl ik hplk hckap;rw [hkle];have Hkl:=Z5 hkle;have hkb7:0<kl->ablk ak<w7.heap.size:=λh0=>ik.lt h0;have HB7:=Z5 hB7;have HO7:=Z5 hO7;have HM7:=Z5 hM7;have Hx7:=Z5 hx7;have Hsz7:=Z5 (K3 hs7 hz7);have Hn7:=Z5 (K3 hsn7 hzn7);have Hk7:=Z5 (K3 ik (K3 hkn7 hkb7));have HIH:Hid (∀(V:World) (Z:mD) (j:Nat) (a5:OA) (c5:Nat) (a7:OA) (c7:Nat),j<kl->aO V A.heap.size Z.ar Z.T.length Z.cr Z.R Z.T->Z.T.length<=65536->PY A V->Ints V a5 (ns+1) (s ++ [nth S j])->Ints V a7 (nz+j) (z ++ S.take j) ->
    ¬ Z.I (ablk a5)->(0<nz+j->¬ Z.I (ablk a7)) ->
    Calls prog 130 #[.agg #[cG P,cG M,.slice am mn cm,cG m,.slice a n c,cG mo,cG C.W,.slice ay ny cy,.bool cb],.slice a5 (ns+1) c5,.slice a7 (nz+j) c7,.slice Z.ar Z.T.length Z.cr] V (rq A.heap.size Z (F (s ++ [nth S j]) (z ++ S.take j) Z.T) V)):=by
   intro V Z j a5 c5 a7 c7 hj hO hT Q h1 h2 h3 h4;have hjk:j<S.length:=by rw [Hkl.out];exact hj
   have hnsW:=HKs.2.2.2 (by omega);obtain ⟨d',hd'⟩:∃d',d'+1=d:=⟨d - 1,by omega⟩
   have hnd:(z ++ S.take j).Nodup:=by rw [Mq];exact ⟨Hz.1,M4 (Nx _ _) HKs.1,λx G y hy e=>HKs.2.2.1 y (Mb hy) (e ▸ G)⟩
   have hbd:∀x ∈ z ++ S.take j,0<=x/\x<(m:Int):=λx G=>by
    rcases List.mem_append.1 G with G | G
    ·exact Hz.2 x G
    ·exact HKs.2.1 x (Mb G)
   have hle:nz+j<=64:=by have h4:=lI hnd hbd;rw [h2.len] at h4;omega
   have h5:=IH d' hd' V Z a5 (ns+1) c5 (s ++ [nth S j]) a7 (nz+j) c7 (z ++ S.take j) (by omega) hle Q hO hT h1 h2 (λ_=>h3) h4 hnd hbd;rw [show d'=d - 1 by omega,HFd.out] at h5;unfold oZ at h5;rw [Hc.out,Hmo.out] at h5;exact h5
  have ht0:Value.slice a6 (Tl+1) c6 = .slice Y.ar Y.T.length Y.cr:=by rw [Hτ1.2,Hτ1.1]
  have hT1:Y.T.length<=65536:=by rw [Hτ1.2];omega
  have hT1e:Y.T=σ.T ++ [t]:=by rw [Hτ1.1]
  rw [ht0];have HT1:=Z5 (K3 hT1 hT1e);clear IH hkle hO7 hM7 hx7 hs7 hz7 hB7 hsn7 hzn7 hkn7 hkb7 ht0 hT1 hT1e k0 k1 k2 k3 k4 k5 k6 k7 k8 hcn hbn hown4o;go_wp2_with fail;go_loopw [3,14,15,16] (λrv jv xv ev wr=>∃(j:Nat) (Z:mD),j<=kl/\jv = cG j/\rv = .slice Z.ar Z.T.length Z.cr/\Hid (aO wr A.heap.size Z.ar Z.T.length Z.cr Z.R Z.T/\Z.T.length<=65536)/\Hid (aC w7 wr Y.I Z.I) /\
    Hid (RF=e9 F s (z ++ S.take j) (S.drop j) Z.T))
   (λ_ jv _ _ _=>kl - (intOf jv).toNat)
  case atStart=>exact ⟨0,Y,K0 _,rfl,rfl,Z5 ⟨HO7,HT1.1⟩,Z5 (Pr (KU _ _) _),(show _=_ by rw [List.take_zero,Mh,MK,HT1.2];exact HF)⟩
  case round =>
   obtain ⟨j,Z,hj,rfl,rfl,hOT,E,hst⟩:=hrel
   generalize wr=U1 at *
   have hBU:PY A U1:=HB7.trans (E.below (λx G=>(HO7.lt x G).1) HB7.size)
   have HBU:=Z5 hBU
   clear hBU
   by_cases hlt:j<kl
   ·have hjk:j<S.length:=by rw [Hkl.out];exact hlt
    have hnx:¬ Z.I w.heap.size:=E.not Hx7.1 HnI6.out
    have hxU:=Hx7.dc E.out HnI6.out
    have ikU:Ints U1 ak kl S:=Hk7.1.dc E.out λh0=>Hk7.2.1 (by rw [Hk7.1.pl h0];simp)
    have hkU:¬ Z.I (ablk ak):=E.not (Hk7.2.2 (by omega)) (Hk7.2.1 (by rw [Hk7.1.pl (by omega)];simp))
    have hsU:=Hsz7.1.dc E.out Hn7.1
    have hzU:=Hsz7.2.dc E.out Hn7.2
    have hsnU:0<ns->¬ Z.I (ablk sa):=λh0=>E.not (Hsz7.1.lt h0) (Hn7.1 h0)
    have hznU:0<nz->¬ Z.I (ablk az):=λh0=>E.not (Hsz7.2.lt h0) (Hn7.2 h0)
    have HSU:Hid (∀V,zS U1 V Z.I->V.cell? ⟨w.heap.size,0,none⟩=some (cG P)/\V.cell? ⟨w.heap.size,1,none⟩=some (cG M)/\V.cell? ⟨w.heap.size,2,none⟩=some (.slice am mn cm)/\V.cell? ⟨w.heap.size,3,none⟩=some (cG m)/\V.cell? ⟨w.heap.size,4,none⟩=some (.slice a n c) /\
      V.cell? ⟨w.heap.size,5,none⟩=some (cG mo)/\V.cell? ⟨w.heap.size,6,none⟩=some (cG C.W)/\V.cell? ⟨w.heap.size,7,none⟩=some (.slice ay ny cy)/\V.cell? ⟨w.heap.size,8,none⟩=some (.bool cb)/\V.cell? ⟨ablk ak,aJ ak+j,none⟩=some (cG (nth S j))/\zS U1 V Z.I):=λV Q=>by have hV2:=Q;obtain ⟨I',Q⟩:=Q;have x1:=hxU.dc Q hnx;exact ⟨x1.cell 0 rfl,x1.cell 1 rfl,x1.cell 2 rfl,x1.cell 3 rfl,x1.cell 4 rfl,x1.cell 5 rfl,x1.cell 6 rfl,x1.cell 7 rfl,x1.cell 8 rfl,(ikU.dc Q λ_=>hkU).cell j hlt,hV2⟩
    have HW1:Hid (∀V g,zS U1 V Z.I->Ints V (some ⟨g,0,none⟩) 1 [nth S j]->Calls prog 185 #[.slice sa ns cs,.slice (some ⟨g,0,none⟩) 1 1] V λe w'=>∃a2 c2,e = .returned (.slice a2 (ns+1) c2)/\Ints w' a2 (ns+1) (s ++ [nth S j])/\U1.heap.size<=ablk a2/\PY V w'):=λV g Q hg=>by obtain ⟨I',Q⟩:=Q;refine (jz sa ns cs s (some ⟨g,0,none⟩) 1 1 [nth S j] V (hsU.dc Q hsnU) hg (by omega) (by omega)).mono ?_;rintro e w' ⟨a2,c2,rfl,ho,D⟩;have h1:=(Pn ho).1;exact ⟨a2,c2,rfl,h1,K9 Q.size (aT ho (by rw [h1.pl (by omega)];simp)).1,D⟩
    have HW2:Hid (∀V,zS U1 V Z.I->Calls prog 185 #[.slice az nz cz,.slice ak j ck] V λe w'=>∃a2 c2,e = .returned (.slice a2 (nz+j) c2)/\Ints w' a2 (nz+j) (z ++ S.take j)/\(0<nz+j->U1.heap.size<=ablk a2)/\PY V w'):=λV Q=>by obtain ⟨I',Q⟩:=Q;refine (jz az nz cz z ak j ck (S.take j) V (hzU.dc Q hznU) (Ints.take (ikU.dc Q λ_=>hkU) (Nat.le_of_lt hlt)) (by omega) (by omega)).mono ?_;rintro e w' ⟨a2,c2,rfl,ho,D⟩;have h1:=(Pn ho).1;exact ⟨a2,c2,rfl,h1,λh0=>K9 Q.size (aT ho (by rw [h1.pl h0];simp)).1,D⟩
    obtain ⟨FR,hFR⟩:∃FR,F (s ++ [nth S j]) (z ++ S.take j) Z.T=FR:=⟨_,rfl⟩
    obtain ⟨er,her⟩:∃er,FR.1=er:=⟨_,rfl⟩
    have HFo:Hid (∀V a5 c5 a7 c7,PY U1 V->Ints V a5 (ns+1) (s ++ [nth S j])->Ints V a7 (nz+j) (z ++ S.take j)->U1.heap.size<=ablk a5->(0<nz+j->U1.heap.size<=ablk a7)->Calls prog 130 #[.agg #[cG P,cG M,.slice am mn cm,cG m,.slice a n c,cG mo,cG C.W,.slice ay ny cy,.bool cb],.slice a5 (ns+1) c5,.slice a7 (nz+j) c7,.slice Z.ar Z.T.length Z.cr] V
      λe w'=>∃rv,e = .returned (.tuple #[rv,cG er])/\JI A.heap.size Z FR er U1 rv w'):=λV a5 c5 a7 c7 Q h1 h2 h3 h4=>by
     refine (HIH V Z j a5 c5 a7 c7 hlt (hOT.1.af Q) hOT.2 (HBU.trans (Q.mono HBU.size)) h1 h2 (λhh=>?_) (λh0 hh=>?_)).mono ?_
     ·have:=(hOT.1.lt _ hh).2;omega
     ·have:=(hOT.1.lt _ hh).2;have:=h4 h0;omega
     ·rintro e w' hP;obtain ⟨rv,h5,h6⟩:=hP.split;rw [hFR,her] at h5 h6;exact ⟨rv,h5,h6.from Q⟩
    have Hst2:Hid (RF=if er=0 then e9 F s (z ++ S.take (j+1)) (S.drop (j+1)) FR.2 else (er,[])):=by show _=_;rw [hst.out,Dp F s z S hjk,hFR,her]
    obtain ⟨x,G⟩:∃x,nth S j=x:=⟨_,rfl⟩
    rw [G] at HW1 HFo HSU
    have hj0:(0:Int)<=(j:Int):=by omega
    have hjc:(j:Int)<=(ck:Int):=by omega
    have hjl:(j:Int)<(kl:Int):=by omega
    obtain ⟨c0,c1,c2,c3,c4,c5,c6,c7,c8,c9,_⟩:=HSU U1 (zS.below (KU _ _))
    clear G hFR her hjk hnx hxU ikU hkU hsU hzU hsnU hznU hst
    go_upto_region 15 with fail
    go_region_held3 (λV=>V.cell? ⟨w.heap.size,0,none⟩=some (cG P)/\V.cell? ⟨w.heap.size,1,none⟩=some (cG M)/\V.cell? ⟨w.heap.size,2,none⟩=some (.slice am mn cm)/\V.cell? ⟨w.heap.size,3,none⟩=some (cG m)/\V.cell? ⟨w.heap.size,4,none⟩=some (.slice a n c) /\
      V.cell? ⟨w.heap.size,5,none⟩=some (cG mo)/\V.cell? ⟨w.heap.size,6,none⟩=some (cG C.W)/\V.cell? ⟨w.heap.size,7,none⟩=some (.slice ay ny cy)/\V.cell? ⟨w.heap.size,8,none⟩=some (.bool cb)/\V.cell? ⟨ablk ak,aJ ak+j,none⟩=some (cG x)/\zS U1 V Z.I)
     ((refine HSU _ ?_;first | exact hm11 | exact zS.below (KU _ _).drew | exact zS.below hb5w | exact zS.below H | exact zS.below ((KU _ _).alloc (KT _) _).drew | exact zS.below (Pq H _) | assumption | (go_split_ands;assumption) | (go_split_ands;exact zS.bJ (by assumption) _)))
     (first
     | (go_at_call 185;((with_reducible refine (HW1.out _ _ (by go_split_ands;assumption) (by first | exact (o6 _ _ _ rfl).af (KU _ _).drew | exact o6 _ _ _ rfl | exact ((o6 _ _ _ rfl).af (KU _ _).drew).af O)).mono ?_);rintro e w5 ⟨a5,c5,rfl,hI5,hn5,r⟩;have hb5w:PY U1 w5:=(by first | exact Pm ((KU _ _).alloc (KT _) _).drew r | exact Pm (Pq H _) r | exact Pm H r | exact Pm (Pq H _).drew r | exact Pm ((KU _ _).alloc (KT _) _) r)))
     | (go_at_call 185;((with_reducible refine (HW2.out _ (by go_split_ands;assumption)).mono ?_);rintro e w7' ⟨a7,c7,rfl,hI7,hn7,O⟩;have H:PY U1 w7':=(by first | exact Pm (KU _ _).drew O | exact Pm hb5w O | exact Pm ((KU _ _).alloc (KT _) _).drew O | exact Pm ((KU _ _).alloc (KT _) _) O | exact O)))
     | (go_at_call 130;((with_reducible refine (HFo.out _ a5 c5 a7 c7 (by first | exact hb5w | exact H) (by first | exact hI5 | exact hI5.af O) (by first | exact hI7 | exact hI7.af r | exact (hI7.af (an _ _)).af r) hn5 hn7).mono ?_);rintro e w11 ⟨rv,rfl,hFV⟩;have hm11:zS U1 w11 Z.I:=hFV.KQ)))
    all_goals (
     rcases hFV with ⟨h1,σ',g1,g2,g3,g4,rfl⟩ | ⟨h1,I',g4,rfl⟩
     ·have Hn:Hid (RF=e9 F s (z ++ S.take (j+1)) (S.drop (j+1)) σ'.T):=by show _=_;rw [Hst2.out,KX h1,g2]
      subst h1
      have G4:=Z5 (K3 g1 (K3 g3 g4))
      clear g1 g2 g3 g4 hm11
      go_wp2_with fail
      go_roundw
      case rel=>exact ⟨j+1,σ',by omega,by go_num,rfl,Z5 ⟨G4.1,G4.2.1⟩,Z5 (E.trans G4.2.2),Hn⟩
      case measure=>simp [intOf] <;> omega
     ·have Hn:Hid (RF=(er,[])):=by show _=_;rw [Hst2.out,KY h1]
      have hne:(er != 0)=true:=by simpa using h1
      have G4:=Z5 (K3 h1 g4)
      clear h1 g4 hm11
      go_wp2_with fail
      go_ret2
      exact .inr ⟨by rw [Hn.out];exact G4.1,I',HM7.trans (E.trans G4.2),by rw [Hn.out];rfl⟩)
   ·have hjl2:j=kl:=by omega
    subst hjl2
    have Ho:Hid (RF=(0,Z.T)):=by show _=_;rw [hst.out,L0 (by rw [Hkl.out];exact KT _),e9]
    go_wp2_with fail
    go_ret2
    exact .inl ⟨by rw [Ho.out],Z,hOT.1,by rw [Ho.out],hOT.2,HM7.trans E.out,rfl⟩
theorem BE {w:World} {b:Nat} {G:cZ} (q:Nat) (x:Int) (X:w.cell? ⟨q,0,none⟩=some (.pointer (some ⟨b,0,none⟩))) (h:dU w b G) :
  Calls prog 54 #[cG x,.pointer (some ⟨q,0,none⟩)] w λe w'=>e = .returned (.bool (!(decide (0<=x) && decide (x<G.q))))/\w=w':=by
 go_enter func54,ntmps54;go_wp2_with fail;refine (J9 x h).mono ?_;rintro e w' ⟨rfl,rfl⟩;obtain ⟨z,Z⟩:∃z,(decide (0<=x) && decide (x<G.q))=z:=⟨_,rfl⟩
 have Y:=Z5 Z;rw [Z];clear Z;cases z
 ·go_wp2_with fail;go_ret;exact ⟨aX (by rw [Y.out];rfl),rfl⟩
 ·go_wp2_with fail;go_ret;exact ⟨aX (by rw [Y.out];rfl),rfl⟩
theorem vl (p:Int->Bool) (q:Nat) (a:OA) (n c:Nat) (l:LI) (w:World) (hi:Ints w a n l) (K:∀k,k<n->Calls prog 54 #[cG (nth l k),.pointer (some ⟨q,0,none⟩)] w λe w'=>e = .returned (.bool (p (nth l k)))/\w=w') :
  Calls prog 111 #[.slice a n c,.func (.func 54) #[] #[.pointer (some ⟨q,0,none⟩)]] w λe w'=>∃z:Int,e = .returned (cG z)/\(0<=z ↔ l.any p=true)/\w=w':=by
 have E:=hi.pl;have U:=hi.max;have G:=Z5 K;have N:=Z5 hi.len;unfold maxLen at U;clear K;go_enter func111,ntmps111;go_wp2_with fail;go_loop [8] (λO=>∃k:Nat,k<=n/\O = cG k/\Hid (∀j,j<k->p (nth l j)=false)) (λO=>n - (intOf O).toNat);case atStart=>exact ⟨0,K0 _,rfl,λj S=>by omega⟩
 case round =>
  obtain ⟨k,C,rfl,Z⟩:=hrel
  by_cases X:k<n
  ·have D:=hi.cell k X
   have Y:=G k X
   obtain ⟨z,V⟩:∃z,p (nth l k)=z:=⟨_,rfl⟩
   rw [V] at Y
   have L:=Z5 Y
   cases z
   ·have F:Hid (∀j,j<k+1->p (nth l j)=false):=λj S=>by
     by_cases e:j=k
     ·subst e;exact V
     ·exact Z j (by omega)
    clear V Y Z
    go_wp2_with fail
    refine L.mono ?_
    rintro e w' ⟨rfl,rfl⟩
    go_wp2_with fail
    go_round
    case rel=>exact ⟨k+1,by omega,by go_num,F⟩
    case measure=>simp [intOf] <;> omega
   ·have Q:Hid (l.any p=true):=by show _=_;rw [Nk];exact ⟨nth l k,aG (by rw [N.out];exact X),V⟩
    clear V Y Z
    go_wp2_with fail
    refine L.mono ?_
    rintro e w' ⟨rfl,rfl⟩
    go_wp2_with fail
    go_ret
    exact ⟨k,rfl,⟨λ_=>by first | exact Q.out | exact List.any_eq_true.1 Q.out,λ_=>M3 _⟩,rfl⟩
  ·obtain rfl:k=n:=by omega
   have Q:Hid (l.any p=false):=by show _=_;rw [Ny];intro x H;obtain ⟨j,S,rfl⟩:=List.mem_iff_getElem.1 H;have:=Z j (by rw [<- N.out];exact S);rw [aj S] at this;rw [this];decide
   go_wp2_with fail
   go_ret
   exact ⟨-1,rfl,⟨λh=>absurd h (by omega),λh=>by have h2:l.any p=true:=(by first | exact h | exact List.any_eq_true.2 h);rw [Q.out] at h2;exact absurd h2 (by decide)⟩,rfl⟩
theorem qz (p:Int->Bool) (q:Nat) (a:OA) (n c:Nat) (l:LI) (w:World) (hi:Ints w a n l) (V:∀k,k<n->Calls prog 54 #[cG (nth l k),.pointer (some ⟨q,0,none⟩)] w λe w'=>e = .returned (.bool (p (nth l k)))/\w=w') :
  Calls prog 53 #[.slice a n c,.func (.func 54) #[] #[.pointer (some ⟨q,0,none⟩)]] w λe w'=>e = .returned (.bool (l.any p))/\w=w':=by
 have U:=Z5 (vl p q a n c l w hi V);clear V;go_enter func53,ntmps53;go_wp2_with fail;refine U.mono ?_;rintro e w' ⟨z,rfl,Z,rfl⟩;by_cases h0:0<=z
 ·have Y:Hid (l.any p=true):=Z.1 h0;have X:decide (0<=z)=true:=by simpa using h0
  clear Z h0;go_wp2_with fail;go_ret;exact ⟨aX Y.symm,rfl⟩
 ·have Y:Hid (l.any p=false):=by
   show _=_;cases h:l.any p
   ·rfl
   ·exact absurd (Z.2 h) h0
  have X:decide (0<=z)=false:=by simpa using h0
  clear Z h0;go_wp2_with fail;go_ret;exact ⟨aX Y.symm,rfl⟩
def An (P M:Int) (mod:LI) (N:Int) (L:Ll) (i:Int) (y:LI):Int :=
 if jT P M mod N L i=0 then (if (y.length:Int) ≠ N then 4 else if ez (ah P M.toNat mod).q y=false then 2 else rh P M mod N.toNat L i) else jT P M mod N L i
def Ip (P M:Int) (mod:LI) (N:Int) (L:Ll) (i:Int) (y:LI):Int :=
 if An P M mod N L i y=0 then repTo (ah P M.toNat mod).ops (gE P M mod N.toNat L i) y (i5 P M mod N.toNat L i) (i5 P M mod N.toNat L i).length else 0
theorem uq {P M:Int} {mod:LI} {N:Int} {L:Ll} {i:Int} (h:jT P M mod N L i=0):aI P M mod N L=0/\0<=i/\i<N:=by
 unfold jT at h;split at h
 ·rename_i Z;split at h
  ·cases h
  ·exact ⟨Z,by omega,by omega⟩
 ·rename_i Z;exact absurd h Z
theorem wK (P M:Int) (am:OA) (B cm:Nat) (mod:LI) (N:Int) (a:OA) (n c:Nat) (L:Ll) (i:Int) (ay:OA) (O cy:Nat) (y:LI) (w:World) (Q:Ints w am B mod) (hi:bw w a n L) (hy:Ints w ay O y) :
  Calls prog 17 #[.agg #[cG P,cG M,.slice am B cm,cG N,.slice a n c],cG i,.slice ay O cy] w λe w'=>e = .returned (.tuple #[cG (Ip P M mod N L i y),cG (An P M mod N L i y)])/\PY w w':=by
 have HP:Hid (∀V,PY w V->Calls prog 47 #[.agg #[cG P,cG M,.slice am B cm,cG N,.slice a n c],cG i] V λe w'=>e = .returned (cG (jT P M mod N L i))/\PY V w'):=λV hV=>lY P M am B cm mod N a n c L i V (Q.af hV) (hi.af hV);have HH:Hid (jT P M mod N L i=0->∀V,PY w V->Calls prog 48 #[.agg #[cG P,cG M,.slice am B cm,cG N,.slice a n c],cG i] V (nZ (rh P M mod N.toNat L i) (i5 P M mod N.toNat L i) (nU P M mod N.toNat L i) V)):=λh V hV=>by
  obtain ⟨hE,h0,h1⟩:=uq h;obtain ⟨m,rfl,_⟩:=aZ hE;obtain ⟨j,rfl⟩:∃j:Nat,i=j:=⟨i.toNat,by omega⟩
  rw [KV];exact qj P M am B cm mod m j a n c L V (Q.af hV) (hi.af hV) hE (by omega)
 have HNw:Hid (jT P M mod N L i=0->∀V,PY w V->Calls prog 52 #[.agg #[cG P,cG M,.slice am B cm]] V λe w'=>∃b,e = .returned (.tuple #[.pointer (some ⟨b,0,none⟩),cG 0])/\dU w' b (ah P M.toNat mod)/\PY V w'):=λh V hV=>by
  obtain ⟨hE,_,_⟩:=uq h;refine (dH P M am B cm mod V (Q.af hV)).mono ?_;rintro e w' (⟨h1,_⟩ | ⟨_,b,h2,h3,_,h4⟩)
  ·rw [(aL hE).1] at h1;cases h1
  ·exact ⟨b,h2,h3.gf,h4⟩
 have HS:Hid (∀k,k<(i5 P M mod N.toNat L i).length->0<=nth (i5 P M mod N.toNat L i) k/\nth (i5 P M mod N.toNat L i) k<N.toNat):=λk hk=>by have h:=aG hk;rw [i5] at h;exact CY h
 have HC:Hid (∀k,k<(i5 P M mod N.toNat L i).length->nth (nU P M mod N.toNat L i) k=(ah P M.toNat mod).neg (nth (gE P M mod N.toNat L i) (nth (i5 P M mod N.toNat L i) k).toNat)):=λk hk=>by rw [nU];rw [aj (by simpa using hk),LU,aj hk]
 have HE:Hid (An P M mod N L i y=if jT P M mod N L i=0 then (if (O:Int) ≠ N then 4 else if ez (ah P M.toNat mod).q y=false then 2 else rh P M mod N.toNat L i) else jT P M mod N L i):=by show _=_;rw [An,hy.len]
 have HV:Hid (Ip P M mod N L i y=if An P M mod N L i y=0 then repTo (ah P M.toNat mod).ops (gE P M mod N.toNat L i) y (i5 P M mod N.toNat L i) (i5 P M mod N.toNat L i).length else 0):=rfl;have HY:Hid (y.length=O):=hy.len;have HEl:Hid (ez (ah P M.toNat mod).q y=true->(ah P M.toNat mod).Ch y):=λh=>rS h;have HI:Hid (Ints w ay O y):=hy;generalize Ip P M mod N L i y=v at *;generalize An P M mod N L i y=er at *;generalize jT P M mod N L i=pe at *;generalize rh P M mod N.toNat L i=he at *;generalize nU P M mod N.toNat L i=C at *;generalize i5 P M mod N.toNat L i=S at *;generalize gE P M mod N.toNat L i=d at *;generalize ah P M.toNat mod=G at *;clear Q hi hy;go_enter func17,ntmps17;go_upto_region 1 with fail;obtain ⟨W,hW⟩:∃W:World,W=w.alloc (.cells #[cG P,cG M,.slice am B cm,cG N,.slice a n c] 27):=⟨_,rfl⟩
 rw [<- hW];have hbW:PY w W:=by rw [hW];exact an _ _
 have x0:aQ W w.heap.size [cG P,cG M,.slice am B cm,cG N,.slice a n c]:=by rw [hW];exact Po _ _ _ rfl
 have HX:=Z5 x0;have HbW:=Z5 hbW;have c0:=x0.cell 0 rfl;have c1:=x0.cell 1 rfl;have c2:=x0.cell 2 rfl;have c3:=x0.cell 3 rfl;have c4:=x0.cell 4 rfl;clear hW x0 hbW;go_wp2_with fail;refine (HP W HbW.out).mono ?_;rintro e w1 ⟨rfl,hb1⟩;have hF1:=Pm HbW.out hb1;clear c0 c1 c2 c3 c4;by_cases h0:pe=0;rotate_left
 ·have d0:(pe != 0)=true:=by simpa using h0
  have K:Hid (er=pe):=by show _=_;rw [HE.out,KY h0]
  have Z:Hid (v=0):=by show _=_;rw [HV.out,KY (by rw [K.out];exact h0)]
  clear h0 HH HNw;go_wp2_with fail;go_ret2;exact ⟨by rw [K.out,Z.out] <;> rfl,hF1⟩
 have d0:(pe != 0)=false:=by simp [h0]
 have HR0:Hid (er=if (O:Int) ≠ N then 4 else if ez G.q y=false then 2 else he):=by show _=_;rw [HE.out,KX h0]
 have HH1:=Z5 (HH h0);have HN1:=Z5 (HNw h0);have y1:=HX.af hb1;have c0:=y1.cell 0 rfl;have c1:=y1.cell 1 rfl;have c2:=y1.cell 2 rfl;clear y1 h0 HH HNw HE HP;go_wp2_with fail;refine (HN1 w1 hF1).mono ?_;rintro e w2 ⟨b,rfl,hG2,hb2⟩;have hF2:=Pm hF1 hb2;clear c0 c1 c2;have r:=an w2 (.cells #[.pointer (some ⟨b,0,none⟩)] 79);have hc3:=bm w2 (.pointer (some ⟨b,0,none⟩)) 79;have Y:=Pm hF2 r;obtain ⟨U,hU⟩:∃U:World,U=w2.alloc (.cells #[.pointer (some ⟨b,0,none⟩)] 79):=⟨_,rfl⟩
 have hG3:=hG2.af r;rw [<- hU] at r hc3 Y hG3;have x3:=(HX.af hb1).af (Pm hb2 r);have c3:=x3.cell 3 rfl;have HCo:=Z5 (qz (λx=>!(decide (0<=x) && decide (x<G.q))) w2.heap.size ay O cy y U (HI.af Y) λk hk=>BE w2.heap.size (nth y k) hc3 hG3);rw [vF] at HCo;have hmf:∀(fn:Fn) (first cap:Array Value) (w:World),(Instr.makeFunc fn first cap).run prog w = .ok (.func fn first cap) w:=λ_ _ _ _=>rfl;have HU:=Z5 hU;have HG3:=Z5 hG3;have Hc3:=Z5 hc3;have Hx3:=Z5 x3;clear x3 hG2 hG3;go_upto_region 7 with fail;rw [<- hU];clear hU;by_cases h1:(O:Int) ≠ N
 ·have K:Hid (er=4):=by show _=_;rw [HR0.out,KX h1]
  have Z:Hid (v=0):=by show _=_;rw [HV.out,KY (by rw [K.out];decide)]
  have d1:((O:Int) != N)=true:=by simpa using h1
  clear h1;go_wp2_with fail;go_ret2;exact ⟨by rw [K.out,Z.out] <;> rfl,Y⟩
 have HR1:Hid (er=if ez G.q y=false then 2 else he):=by show _=_;rw [HR0.out,KY h1]
 obtain rfl:(O:Int)=N:=Classical.not_not.1 h1;have d1:((O:Int) != O)=false:=by simp
 clear h1;obtain ⟨z,hz⟩:∃z,ez G.q y=z:=⟨_,rfl⟩
 rw [hz] at HCo HR1 HEl;clear hz;cases z
 ·have K:Hid (er=2):=by show _=_;rw [HR1.out];rfl
  have Z:Hid (v=0):=by show _=_;rw [HV.out,KY (by rw [K.out];decide)]
  go_wp2_with fail;refine HCo.mono ?_;rintro e w' ⟨rfl,rfl⟩;go_wp2_with fail;go_ret2;exact ⟨by rw [K.out,Z.out] <;> rfl,Y⟩
 have K:Hid (er=he):=by show _=_;rw [HR1.out];rfl
 have HYe:Hid (G.Ch y):=HEl rfl;have c0:=Hx3.cell 0 rfl;have c1:=Hx3.cell 1 rfl;have c2:=Hx3.cell 2 rfl;have c4:=Hx3.cell 4 rfl;go_wp2_with fail;refine HCo.mono ?_;rintro e w' ⟨rfl,rfl⟩;go_wp2_with fail;refine (HH1 _ Y).mono ?_;rintro e w4 ⟨hb4,⟨h1,rfl⟩ | ⟨h1,a2,k2,a3,k3,rfl,A,hI3⟩⟩
 ·have D:=Pm Y hb4;have H1:=Z5 h1;have Z:Hid (v=0):=by show _=_;rw [HV.out,KY (by rw [K.out];exact H1)]
  have d2:(he != 0)=true:=by simpa using h1
  clear c0 c1 c2 c3 c4 h1;go_wp2_with fail;go_ret2;exact ⟨by rw [K.out,Z.out] <;> rfl,D⟩
 have D:=Pm Y hb4;have Z:Hid (v=repTo G.ops d y S S.length):=by show _=_;rw [HV.out,KX (by rw [K.out];exact h1)]
 have HR3:Hid (er=0):=by show _=_;rw [K.out];exact h1
 have hG4:=HG3.af hb4;have hc4:=aB hb4 Hc3.out;have HI2:=Z5 A;have HI3:=Z5 hI3;have HI4:=Z5 (HI.af D);have HG4:=Z5 hG4;have F:=A.max;unfold maxLen at F;have hp2:=A.pl;have hp3:=hI3.pl;have hpy:=(HI.af D).pl;obtain ⟨q,hq⟩:∃q,S.length=q:=⟨_,rfl⟩
 rw [hq] at HI2 HI3 F hp2 hp3 HS HC Z ⊢;clear c0 c1 c2 c3 c4 A hI3 hG4 hq h1;go_wp2_with fail;go_loopw [13,54] (λvv iv wr=>∃k:Nat,k<=q/\iv = cG k/\vv = cG (repTo G.ops d y S k)/\bg w4 wr) (λ_ iv _=>q - (intOf iv).toNat);case atStart=>exact ⟨0,K0 _,rfl,rfl,Pt _⟩
 case round =>
  obtain ⟨k,hk,rfl,rfl,hdr⟩:=hrel
  generalize wr=V at *
  by_cases E:k<q
  ·have H:=hdr.below
   have cS:=(HI2.af H).cell k E
   have cC:=(HI3.af H).cell k E
   obtain ⟨hs0,hs1⟩:=HS k E
   obtain ⟨j,hj⟩:∃j:Nat,nth S k=j:=⟨(nth S k).toNat,by omega⟩
   have hjn:j<O:=by omega
   have Hk:Hid (repTo G.ops d y S (k+1)=G.add (repTo G.ops d y S k) (G.mul (nth C k) (nth y j))):=by show _=_;rw [HC k E,repTo,hj,KV];rfl
   rw [hj] at cS
   have cY:=(HI4.af H).cell j hjn
   have cP:=aB H hc4
   have X:dU V b G:=HG4.af H
   have elC:G.El (nth C k):=by rw [HC k E];exact cZ.u9 X _
   have elY:G.El (nth y j):=HYe _ (aG (by rw [HY.out];exact hjn))
   have elV:G.El (repTo G.ops d y S k):=by
    cases k with
    | zero=>exact ⟨Ox _,by have:=X.q2;show (0:Int)<_;omega⟩
    | succ k=>exact cZ.FG X _ _
   generalize repTo G.ops d y S k=rv at *
   generalize nth C k=cv at *
   generalize nth y j=yv at *
   have elm:∀x y,G.El (G.mul x y):=λx y=>PQ X x y
   have HG:Hid (dU V.drew b G/\∀n,dU (V.drewN n) b G):=⟨X.af (KU _ _).drew,λn=>X.drewN n⟩
   have Hdr:=Z5 hdr
   clear hs0 hs1 hj X H
   go_wp2_with fail
   go_region_law ((first
    | (go_simp;go_at_call 57;((with_reducible refine (oh cv yv HG.out.1 elC elY).mono ?_);rintro e w5 ⟨m5,rfl,rfl⟩))
    | (go_simp;go_at_call 57;((with_reducible refine (oh cv yv (HG.out.2 _) elC elY).mono ?_);rintro e w5 ⟨m5,rfl,rfl⟩))
    | (go_simp;go_at_call 56;((with_reducible refine (J2 rv (G.mul cv yv) (HG.out.2 _) elV (elm _ _)).mono ?_);rintro e w6 ⟨m6,rfl,rfl⟩))))
   all_goals (
    go_wp2_with fail
    go_roundw
    case rel=>exact ⟨k+1,by omega,by go_num,by rw [Hk.out],Hdr.trans ⟨_,rfl⟩⟩
    case measure=>simp [intOf] <;> omega)
  ·obtain rfl:k=q:=by omega
   have hF:=Pm D hdr.below
   go_wp2_with fail
   go_ret2
   exact ⟨by rw [Z.out,HR3.out] <;> rfl,hF⟩
theorem rK:∀ {s t:LI},s.length=t.length->cmpL s t<0->∃i,i<s.length/\(∀j,j<i->nth s j=nth t j)/\nth s i<nth t i
 | [],[],_,h=>by simp [cmpL] at h
 | x :: s,y :: t,Y,h=>by
  rw [cmpL] at h;by_cases h1:x<y
  ·exact ⟨0,by simp,λj Z=>by omega,by simpa [nth] using h1⟩
  ·rw [KY h1] at h;by_cases h2:y<x
   ·rw [KX h2] at h;omega
   ·rw [KY h2] at h;obtain ⟨i,a1,a2,a3⟩:=rK (by simpa using Y) h;refine ⟨i+1,by simpa using a1,λj Z=>?_,by simpa [nth] using a3⟩;match j,Z with
    | 0,_=>show x=y;omega
    | j+1,Z=>simpa [nth] using a2 j (by omega)
theorem yz:∀ {s t:LI} {i:Nat},i<s.length->i<t.length->(∀j,j<i->nth s j=nth t j)->nth s i<nth t i->cmpL s t<0
 | x :: s,y :: t,0,_,_,_,h=>by
  have Z:x<y:=by simpa [nth] using h
  rw [cmpL,KX Z];omega
 | x :: s,y :: t,i+1,h1,h2,h3,Y=>by
  have h0:x=y:=by simpa [nth] using h3 0 (by omega)
  rw [cmpL,KY (by omega),KY (by omega)];exact yz (i:=i) (by simpa using h1) (by simpa using h2) (λj X=>by simpa [nth] using h3 (j+1) (by omega)) (by simpa [nth] using Y)
theorem sx (a:OA) (n c:Nat) (x:LI) (w:World) (h:Ints w a n x) (hn:n<=1000000) :
  Calls prog 106 #[.slice a n c] w (cQ w (b8 x n (-1))):=by
 have H:Hid (∀k:Nat,nth x k ≠ 0->b8 x (k+1) (-1)=b8 x k (-1) ++ [(k:Int)]):=λk h1=>by rw [l6,KX ⟨h1,by omega⟩]
 have G:Hid (∀k:Nat,nth x k=0->b8 x (k+1) (-1)=b8 x k (-1)):=λk h1=>by rw [l6,KY];rintro ⟨h2,_⟩;exact h2 h1
 have L:Hid (∀k,(b8 x k (-1)).length<=k):=λk=>iI _ _ _;have HI:=Z5 h;have hpl:=h.pl;have z:=h.max;unfold maxLen at z;obtain ⟨Z,C⟩:∃Z:Nat->LI,(λk=>b8 x k (-1))=Z:=⟨_,rfl⟩
 have F:∀k,b8 x k (-1)=Z k:=λk=>by rw [<- C]
 simp only [F] at H G L ⊢;have D:Hid (Z 0=[]):=by rw [<- C];rfl
 clear F C h;go_enter func106,ntmps106;go_wp2_with fail;go_loopw [3,4] (λov A wr=>∃(k g:Nat) (a1:OA) (c1:Nat),k<=n/\A = cG k/\Hid ((Z k).length=g)/\ov = .slice a1 g c1/\wr.ownsRow w.heap.size 3 1 (.slice a1 g c1) g ((Z k).map (Value.int .i64))/\PY w wr) (λ_ A _=>n - (intOf A).toNat);case atStart=>exact ⟨0,0,none,0,K0 _,rfl,by show _=_;rw [D.out];rfl,rfl,by rw [D.out];exact cU,KU _ _⟩
 case round =>
  obtain ⟨j,g,a2,c2,hj,rfl,U,rfl,Y,X⟩:=hrel
  by_cases E:j<n
  ·have hgk:g<=j:=by have h:=L j;rw [U.out] at h;omega
   have cj:=(HI.af X).cell j E
   have S:=H j
   have Q:=G j
   obtain ⟨y,r⟩:∃y,nth x j=y:=⟨_,rfl⟩
   rw [r] at cj S Q
   clear r
   by_cases V:y=0
   ·have K:=Z5 (Q V)
    have d1:(y != 0)=false:=by simpa using V
    clear S Q V
    go_wp2_with fail
    go_roundw
    case rel=>exact ⟨j+1,g,a2,c2,by omega,by go_num,by show _=_;rw [K.out];exact U.out,rfl,by rw [K.out];exact Y,X⟩
    case measure=>simp [intOf] <;> omega
   ·have d1:(y != 0)=true:=by simpa using V
    have K:=Z5 (S V)
    clear S Q V
    have hsz:=X.size
    have B:=bm wr (cG j) 3
    go_wp2_with (at_builtin;refine aS rfl _ _ 22 3 rfl (cG 0) 8 underlying22 bh rfl w.heap.size a2 g c2 _ rfl (Y.alloc _) ⟨wr.heap.size,0,none⟩ 1 (cG j) rfl B rfl (by omega) (by unfold maxLen;omega) (by simp;omega) ?_;intro a5 c5 w5 O N hap5)
    go_roundw
    case rel =>
     refine ⟨j+1,g+1,a5,c5,by omega,by go_num,by show _=_;rw [K.out,K6,U.out];rfl,rfl,by rw [K.out];simpa using O,Pp (Pq X _) (Y.alloc _) N (KT _) (Pq X _).size⟩
    case measure=>simp [intOf] <;> omega
  ·obtain rfl:j=n:=by omega
   have HR:Hid (∀e,e=Ending.returned (.slice a2 g c2)->cQ w (Z j) e wr):=λe he=>⟨a2,c2,by rw [U.out];exact he,by rw [U.out];exact Y,X⟩
   clear Y
   go_wp2_with fail
   go_ret
   exact HR _ rfl
theorem vR (a:OA) (n c:Nat) (s:LI) (b:OA) (k d:Nat) (t:LI) (w:World) (h:Ints w a n s) (N:Ints w b k t) :
  Calls prog 105 #[.slice a n c,.slice b k d] w λe w'=>e = .returned (.bool (fu s t))/\PY w w':=by
 have O:=Z5 h.len;have X:=Z5 N.len;have hpl:=h.pl;have hpl':=N.pl;have H:=h.max;have S:=N.max;unfold maxLen at H S;by_cases F:n=k;rotate_left
 ·have d1:((n:Int) != k)=true:=by simp;omega
  have B:Hid (fu s t=decide (n<k)):=by show _=_;rw [fu,O.out,X.out,Lp F,Pj,Bool.or_false]
  go_enter func105,ntmps105;go_wp2_with fail;go_ret;exact ⟨aX B.symm,KU _ _⟩
 subst F;have d1:((n:Int) != n)=false:=by simp
 have D:Hid (∀j,j<n->(∀i,i<j->nth s i=nth t i)->nth s j<nth t j->fu s t=true):=λj E Y Z=>gR.2 (.inr ⟨by rw [O.out,X.out],yz (by rw [O.out];exact E) (by rw [X.out];exact E) Y Z⟩);have r:Hid (∀j,j<n->(∀i,i<j->nth s i=nth t i)->nth t j<nth s j->fu s t=false):=λj E Y Z=>by
  cases C:fu s t
  ·rfl
  ·rcases gR.1 C with h1 | ⟨h1,h2⟩
   ·rw [O.out,X.out] at h1;omega
   ·obtain ⟨i,L,G,Q⟩:=rK h1 h2;by_cases e1:i<j
    ·rw [Y i e1] at Q;omega
    ·by_cases e2:i=j
     ·subst e2;omega
     ·rw [G j (by omega)] at Z;omega
 have HEq:Hid ((∀i,i<n->nth s i=nth t i)->fu s t=false):=λY=>by
  cases C:fu s t
  ·rfl
  ·rcases gR.1 C with h1 | ⟨h1,h2⟩
   ·rw [O.out,X.out] at h1;omega
   ·obtain ⟨i,L,G,Q⟩:=rK h1 h2;rw [Y i (by rw [<- O.out];exact L)] at Q;omega
 generalize fu s t=z at *;go_enter func105,ntmps105;go_wp2_with fail;go_loopw [5] (λiv wr=>∃j:Nat,j<=n/\iv = cG j/\Hid (∀i,i<j->nth s i=nth t i)/\bg w wr) (λi _=>n - (intOf i).toNat);case atStart=>exact ⟨0,K0 _,rfl,λi hi=>by omega,Pt _⟩
 case round =>
  obtain ⟨j,E,rfl,Y,hd⟩:=hrel
  generalize wr=V at *
  by_cases Z:j<n
  ·have c1:=(h.drawn hd).cell j Z
   have c2:=(N.drawn hd).cell j Z
   have HX:Hid (∀U,bg w U->U.cell? ⟨ablk a,aJ a+j,none⟩=some (cG (nth s j))/\U.cell? ⟨ablk b,aJ b+j,none⟩=some (cG (nth t j))):=λU hU=>⟨(h.drawn hU).cell j Z,(N.drawn hU).cell j Z⟩
   by_cases h1:nth s j=nth t j
   ·have K:(nth s j != nth t j)=false:=by simpa using h1
    have Hp:Hid (∀i,i<j+1->nth s i=nth t i):=λi hi=>by
     by_cases e:i=j
     ·subst e;exact h1
     ·exact Y i (by omega)
    clear h1 Y
    go_wp2_with fail
    go_quiet (fail)
    go_wp2
    go_roundw
    case rel=>exact ⟨j+1,by omega,by go_num,Hp,hd.drewN _⟩
    case measure=>simp [intOf] <;> omega
   ·have K:(nth s j != nth t j)=true:=by simpa using h1
    have Hz:Hid (decide (nth s j<nth t j)=z):=by
     show _=_;by_cases h2:nth s j<nth t j
     ·rw [D j Z Y.out h2];simpa using h2
     ·rw [r j Z Y.out (by omega)];simpa using h2
    clear h1 Y
    go_wp2_with fail
    go_cut [30] (λv A=>v = .bool true/\bg w A)
    case first=>go_wp2_with fail;go_quiet (fail);go_wp2_with fail;go_meet;exact ⟨by first | rfl | simp [K],hd.drewN _⟩
    obtain ⟨rfl,hcut⟩:=hcut
    clear c1 c2
    generalize wc=A at *
    obtain ⟨c1,c2⟩:=HX A hcut
    go_wp2_with fail
    go_quiet (fail)
    go_wp2
    go_ret
    exact ⟨aX Hz.out,(hcut.drewN _).below⟩
  ·obtain rfl:j=n:=by omega
   have B:Hid (z=false):=HEq Y.out
   go_wp2_with fail
   go_ret
   exact ⟨aX B.symm,hd.below⟩
theorem Ay (a:OA) (n c:Nat) (W:Ll) (m i:Nat) (w0 w:World) (hW:bw w0 a n W) (O:PY w0 w) (hm:∀r ∈ W,r.length=m) (hi:i<m) (hm64:m<=64) :
  Calls prog 50 #[.slice a n c,cG i] w λe w'=>PY w w'/\∃ar nr cr,e = .returned (.slice ar nr cr)/\lE w0 ar nr (bstL m i W n):=by
 have hln:=hW.len;have HM:=Z5 hW;have Hb0:=Z5 O;have hpl:=hW.pl;have hmx:=hW.max;unfold maxLen at hmx;have Hrow:Hid (∀k,k<n->(ai W k).length=m):=λk hk=>hm _ (eZ (by omega));have HSup:Hid (∀V b k c x,k<=1000000->Ints V b k x->Calls prog 106 #[.slice b k c] V (cQ V (b8 x k (-1)))):=λV b k c x hk h=>sx b k c x V h hk;have Heq:=Z5 (λ(w:World) (a:OA) (l c:Nat)=>Go.run_eql_slice_nil (P:=prog) w 22 3 a l c underlying22);clear hW hm hln O;go_enter func50,ntmps50;go_wp2_with fail;go_loopw [5,6] (λbv iv wr=>∃(k:Nat) (K:OA) (Z cb:Nat) (b:LI),k<=n/\iv = cG k/\bv = .slice K Z cb/\Hid (bstL m i W k=b)/\Hid (b=[]\/(b.length=m/\nth b i=1))/\Hid (lE w0 K Z b)/\PY w wr) (λ_ iv _=>n - (intOf iv).toNat);case atStart=>exact ⟨0,none,0,0,[],K0 _,rfl,rfl,rfl,.inl rfl,⟨Pu _ _,rfl⟩,KU _ _⟩
 case round =>
  obtain ⟨k,K,Z,cb,b,hk,rfl,rfl,Hst,Hbl,Hb,S⟩:=hrel
  generalize wr=V at *
  by_cases hlt:k<n
  ·obtain ⟨ar,L,cr,X,U⟩:=HM.cell k hlt
   have C:=aB (Pm Hb0.out S) X
   have Y:=U.af (Pm Hb0.out S)
   have hmr:L=m:=by rw [<- Y.len];exact Hrow k hlt
   subst hmr
   have hri:=Y.cell i hi
   have hplr:=Y.pl
   have hrn:ar.isNone=false:=by
    cases ar with
    | none=>have:=Y.pl (by omega);cases this
    | some x=>rfl
   obtain ⟨r,hr⟩:∃r,ai W k=r:=⟨_,rfl⟩
   have B:r.length=L:=by rw [<- hr];exact Hrow k hlt
   rw [hr] at Y U hri
   have Hnx:Hid (bstL L i W (k+1)=vX L i b r):=by show _=_;rw [bstL,Hst.out,hr]
   clear hr
   obtain ⟨y,hy⟩:∃y,nth r i=y:=⟨_,rfl⟩
   rw [hy] at hri
   by_cases N:y=1
   rotate_left
   ·have d1:(y == 1)=false:=by simpa using N
    have j:Hid (bstL L i W (k+1)=b):=by show _=_;rw [Hnx.out,vX,KY (by rw [KV,hy];exact N)]
    clear hy N Y U X
    go_wp2_with fail
    go_roundw
    case rel=>exact ⟨k+1,K,Z,cb,b,by omega,by go_num,rfl,j,Hbl,Hb,S⟩
    case measure=>simp [intOf] <;> omega
   have d1:(y == 1)=true:=by simpa using N
   have E:nth r i=1:=by rw [hy];exact N
   have H:=Z5 E
   have j:Hid (bstL L i W (k+1)=if b=[]\/fu (b8 r L i) (b8 b L i)=true then r else b):=by show _=_;rw [Hnx.out,vX,KX (by rw [KV];exact E)]
   have Hr:Hid (lE w0 ar L r):=⟨U,by rw [hrn];exact (Lp λe=>by rw [e] at B;simp at B;omega).symm⟩
   have Hrl:=Z5 B
   have heq:=Heq.out
   clear hy N hrn Hnx B E U X
   rcases Hbl.out with O | ⟨D,Q⟩
   ·have hin:K.isNone=true:=by rw [Hb.2];exact Lj O
    have Hn3:Hid (bstL L i W (k+1)=r):=by show _=_;rw [j.out,KX (.inl O)]
    clear O Y
    go_wp2_with fail
    go_roundw
    case rel=>exact ⟨k+1,ar,L,cr,r,by omega,by go_num,rfl,Hn3,.inr ⟨Hrl,H⟩,Hr,S⟩
    case measure=>simp [intOf] <;> omega
   have hbn:b ≠ []:=λe=>by rw [e] at D;simp at D;omega
   have hin:K.isNone=false:=by rw [Hb.2];exact Lp hbn
   have hnb:Z=L:=by rw [<- Hb.1.len];exact D
   subst hnb
   have A:Hid (bstL Z i W (k+1)=if fu (b8 r Z (-1)) (b8 b Z (-1))=true then r else b):=by
    show _=_;rw [j.out,rU r Z (-1) (.inl (by omega)),rU b Z (-1) (.inl (by omega)),En hi (by rw [H.out];decide) (by rw [Q];decide)];by_cases hl:fu (b8 r Z i) (b8 b Z i)=true
    ·rw [KX (.inr hl),KX hl]
    ·rw [KY (λh=>h.elim hbn hl),KY hl]
   have HS1:=Z5 (HSup V ar Z cr r (by omega) Y)
   have HSt:Hid (∀V',PY V V'->Calls prog 106 #[.slice K Z cb] V' (cQ V' (b8 b Z (-1)))):=λV' hV'=>HSup V' K Z cb b (by omega) (Hb.1.af (Pm (Pm Hb0.out S) hV'))
   have Hbb:Hid (b=[]\/(b.length=Z/\nth b i=1)):=.inr ⟨D,Q⟩
   obtain ⟨s,hs⟩:∃s,b8 r Z (-1)=s:=⟨_,rfl⟩
   obtain ⟨t,ht⟩:∃t,b8 b Z (-1)=t:=⟨_,rfl⟩
   rw [hs] at HS1
   rw [ht] at HSt
   rw [hs,ht] at A
   clear hs ht Y D Q hbn
   go_wp2_with fail
   refine HS1.mono ?_
   rintro e w1 ⟨a1,k1,rfl,F,Q⟩
   have HS2:=Z5 (HSt w1 Q)
   have Ho1:=Z5 F
   clear F
   go_wp2_with fail
   refine HS2.mono ?_
   rintro e w2 ⟨a2,k2,rfl,G,hb2⟩
   have HF:=Z5 (vR a1 s.length k1 s a2 t.length k2 t w2 ((Pn Ho1.out).1.af hb2) (Pn G).1)
   have hb12:=Pm Q hb2
   obtain ⟨z,hz⟩:∃z,fu s t=z:=⟨_,rfl⟩
   rw [hz] at HF A
   clear G hz
   go_wp2_with fail
   refine HF.mono ?_
   rintro e w3 ⟨rfl,hb3⟩
   have hbF:=Pm hb12 hb3
   have hbr3:=Pm S hbF
   have hcell3:=aB hbF C
   clear C hri
   cases z
   ·have Hn5:Hid (bstL Z i W (k+1)=b):=by show _=_;rw [A.out];rfl
    go_wp2_with fail
    go_roundw
    case rel=>exact ⟨k+1,K,Z,cb,b,by omega,by go_num,rfl,Hn5,Hbb,Hb,hbr3⟩
    case measure=>simp [intOf] <;> omega
   ·have Hn5:Hid (bstL Z i W (k+1)=r):=by show _=_;rw [A.out];rfl
    go_wp2_with fail
    go_roundw
    case rel=>exact ⟨k+1,ar,Z,cr,r,by omega,by go_num,rfl,Hn5,.inr ⟨Hrl,H⟩,Hr,hbr3⟩
    case measure=>simp [intOf] <;> omega
  ·obtain rfl:k=n:=by omega
   have HR:Hid (lE w0 K Z (bstL m i W k)):=by show lE w0 K Z _;rw [Hst.out];exact Hb
   go_wp2_with fail
   go_ret
   exact ⟨S,K,Z,cb,rfl,HR⟩
section
open Go.RowKit
end
theorem xS (X:OA) (nx Q:Nat) (U:Ll) (Y:OA) (S cy:Nat) (us:Ll) (w:World) (h:bw w X nx U) (O:bw w Y S us) :
  Calls prog 79 #[.agg #[.slice X nx Q],.agg #[.slice Y S cy]] w λe w'=>e = .returned (.bool (decide (U=us)))/\PY w w':=by
 have N:=Z5 (λV (L:PY w V)=>gZ X nx Q U Y S cy us (h.af L) (O.af L));clear h O;obtain ⟨K,Z⟩:∃K,decide (U=us)=K:=⟨_,rfl⟩
 rw [Z] at N ⊢;clear Z;go_enter func79,ntmps79;go_wp2_with fail;refine (N _ (bY _ _ _)).mono ?_;rintro e G ⟨rfl,H⟩;have hF:=Pm (bY w (.cells #[.slice X nx Q] 103) (.cells #[.slice Y S cy] 103)) (Pw H);go_wp2_with fail;go_ret;exact ⟨rfl,hF⟩
end Go.Proofs.YthglbncgemdcbaaGreat
