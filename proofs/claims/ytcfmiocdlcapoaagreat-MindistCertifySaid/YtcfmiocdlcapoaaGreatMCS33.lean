import Derived.Test.YtcfmiocdlcapoaaGreatMCS32
import Derived.OwnWalk
namespace Go.Proofs.YtcfmiocdlcapoaaGreat
set_option linter.all false
set_option maxRecDepth 100000
set_option maxHeartbeats 16000000
open Go.RowKit Go.Proofs.Tryz
theorem DF : (prog.info? 25).map (λi=>(i.zero,i.size,i.bytes))=some (some (.slice none 0 0),1,24):=by kernel_rfl
theorem wo {P M : Int} {mod : Lz} {m : Nat} {L : Ll} (hE : aJ P M mod m L=0) {Q : Lz} (hQ : cF m Q=true) (hB : pG (ah P M.toNat mod).ops L Q=true) : jB P M mod m L Q=0:=by
 have hr : dD P M mod m L Q=0:=by rw [dD,I6 hE,lz,I6 hQ]
 unfold jB;rw [I5 (by rw [hr];decide),EB hr,I6 hB]
theorem tZ (r : Lz) : ∀l,rW (l ++ [r])=rW l ++ [.int .i64 (nth r 0),.int .i64 (nth r 1),.int .i64 (nth r 2),.int .i64 (nth r 3)]
 | []=>rfl
 | x :: l=>by rw [Kn,rW,tZ r l];rfl
theorem BA {Y Z0 w6 : World} {g b : Nat} {P M : Int} {am : OA} {mn cm : Nat} {N : Int} {a : OA} {n c : Nat} {ag : OA} {ng cg : Nat} {ab : OA} {cb : Nat} {B : Lz} {kk : Nat} {ao a5 : OA} {co k B0 s : Nat} {e : TypeId} {xs : List Value}
  (hs : va (λx=>x=g\/(ao ≠ none/\x=aj ao)) Y g b P M am mn cm N a n c ag ng cg ab cb B kk) (ho : Y.ownsRow B0 e s (.slice ao k co) k xs) (hB : g<B0) (hb0 : NS Y Z0) (hg : Z0.grownBy w6 (Value.slice ao k co).ownBlock) (hap : ∀b,b<Z0.heap.size->cJ ao b->cJ a5 b) :
  va (λx=>x=g\/(a5 ≠ none/\x=aj a5)) w6 g b P M am mn cm N a n c ag ng cg ab cb B kk/\aA Y w6 (λx=>x=g\/B0<=x) (λx=>x=g\/B0<=x):=by
 have hsz:=hb0.size;have hgl:=hs.box.1;have hapg : cJ ao g:=by
  by_cases h1 : ao=none
  ·exact .inl h1
  ·exact .inr λe=>by have:=(fO ho h1).1;omega
 have hapb : 0<B.length->cJ ao (aj ab):=λhn=>by
  by_cases h1 : ao=none
  ·exact .inl h1
  ·exact .inr λe=>hs.best.lo hn (.inr ⟨h1,e.symm⟩)
 have hx:=hs.box.aa hb0;have hb9 : w6.heap[g]? = Z0.heap[g]?:=hg.block g (by omega) λe=>hapg.own _ _ e.symm;refine ⟨⟨⟨Jv hx.1 hg.size,λj v hv=>(JG (w:=Z0) (a:=⟨g,j,none⟩) hb9).trans (hx.2.1 j v hv),λj=>(JJ (w:=Z0) (a:=⟨g,j,none⟩) hb9).trans (hx.2.2 j)⟩,
  ⟨(hs.best.ints.aa hb0).nG hg hapb,λhn h=>?_⟩⟩,(Nn hb0 _).trans (Nu hg λh1=>.inr (fO ho h1).1)⟩
 rcases h with h | ⟨h1,h2⟩
 ·exact hs.best.lo hn (.inl h)
 ·rcases hap _ (by have:=hs.best.ints.lt hn;omega) (hapb hn) with h3 | h3
  ·exact h1 h3
  ·exact h3 h2.symm
def df (P M : Int) (mod : Lz) (N : Int) (L : Ll) : Ll × Lz × Int :=
 if aJ P M mod N L ≠ 0 then ([],[],aJ P M mod N L) else if L.length=0 then ([],[],11) else
  wq (ah P M.toNat mod).ops (ah P M.toNat mod).q N.toNat L.length (gF P M mod N.toNat L) ((eo (ah P M.toNat mod).ops L N.toNat).map (·.2)) L.length 1 [] 0 []
def gq (P M : Int) (mod : Lz) (N : Int) (L : Ll) (w : World) (e : Ending) (w' : World) : Prop :=
 NS w w'/\∃ar nr cr ab nb cb,e = .returned (.tuple #[.slice ar nr cr,.slice ab nb cb,.int .i64 (df P M mod N L).2.2])/\lT w' ar nr (df P M mod N L).1/\Ints w' ab nb (df P M mod N L).2.1
theorem og {P M : Int} {mod : Lz} {N : Int} {L : Ll} {w w' : World} {er : Int} (hR : df P M mod N L=([],[],er)) (hF : NS w w') : gq P M mod N L w (.returned (.tuple #[.slice none 0 0,.slice none 0 0,.int .i64 er])) w':=by
 refine ⟨hF,none,0,0,none,0,0,by rw [hR],?_,?_⟩
 ·rw [hR];exact lT.nil _ _
 ·rw [hR];exact Nr _ _
theorem uf {P M : Int} {mod : Lz} {N : Int} {L : Ll} {w Z Z' : World} {o : Ll} {B : Lz} {k B0 co cb : Nat} {e : TypeId} {ao ab : OA} (hR : df P M mod N L=(o,B,0)) (hF : NS w Z)
  (hk : o.length=k) (ho : Z.ownsRow B0 e 4 (.slice ao k co) k (rW o)) (hb : Ints Z ab B.length B) (hd : NS Z Z') : gq P M mod N L w (.returned (.tuple #[.slice ao k co,.slice ab B.length cb,.int .i64 0])) Z':=by
 refine ⟨Nh hF hd,ao,k,co,ab,B.length,cb,by rw [hR],?_,?_⟩
 ·rw [hR];exact lT.own (iT ho λh1=>hd.block _ (fO ho h1).2) hk
 ·rw [hR];exact hb.aa hd
theorem uH (P M : Int) (am : OA) (mn cm : Nat) (mod : Lz) (N : Int) (a : OA) (n c : Nat) (L : Ll) (w : World) (hmod : Ints w am mn mod) (hi : ch w a n L) :
  Calls prog 47 #[.agg #[.int .i64 P,.int .i64 M,.slice am mn cm,.int .i64 N,.slice a n c]] w (gq P M mod N L w):=by
 have HCk : Hid (∀V,NS w V->Calls prog 61 #[.agg #[.int .i64 P,.int .i64 M,.slice am mn cm,.int .i64 N,.slice a n c]] V λe w'=>e = .returned (.int .i64 (aJ P M mod N L))/\NS V w'):=λV hV=>fN P M am mn cm mod N a n c L V (hmod.aa hV) (hi.aa hV);have HNw0 : Hid (bp P M mod=true->∀V,NS w V->Calls prog 86 #[.agg #[.int .i64 P,.int .i64 M,.slice am mn cm]] V λe w'=>∃b,e = .returned (.tuple #[.pointer (some ⟨b,0,none⟩),.int .i64 0])/\dT w' b (ah P M.toNat mod)/\NS V w'):=λhfB V hV=>by
  refine (fG P M am mn cm mod V (hmod.aa hV)).mono ?_;rintro e w' (⟨h1,_⟩ | ⟨_,b,h2,h3,_,h4⟩)
  ·rw [hfB] at h1;cases h1
  ·exact ⟨b,h2,h3.gf,h4⟩
 have Hln:=Z5 hi.len;have Hmi:=Z5 (Jg hmod hi);clear hmod hi;go_enter func47,ntmps47;go_upto_region 1 with fail;obtain ⟨W,hW⟩ : ∃W : World,W=w.alloc (.cells #[.int .i64 P,.int .i64 M,.slice am mn cm,.int .i64 N,.slice a n c] 27):=⟨_,rfl⟩
 rw [<- hW];have hbW : NS w W:=by rw [hW];exact aw _ _
 have x0 : aZ W w.heap.size [.int .i64 P,.int .i64 M,.slice am mn cm,.int .i64 N,.slice a n c]:=by rw [hW];exact Nj _ _ _ rfl
 have HS : Hid (∀V,NS W V->V.cell? ⟨w.heap.size,0,none⟩=some (.int .i64 P)/\V.cell? ⟨w.heap.size,1,none⟩=some (.int .i64 M)/\V.cell? ⟨w.heap.size,2,none⟩=some (.slice am mn cm)/\V.cell? ⟨w.heap.size,3,none⟩=some (.int .i64 N)/\V.cell? ⟨w.heap.size,4,none⟩=some (.slice a n c)):=λV hV=>by have x1:=x0.aa hV;exact ⟨x1.cell 0 rfl,x1.cell 1 rfl,x1.cell 2 rfl,x1.cell 3 rfl,x1.cell 4 rfl⟩
 have HbW:=Z5 hbW;have Hck:=Z5 (HCk.out W hbW);clear hW x0 hbW HCk;obtain ⟨c0,c1,c2,c3,c4⟩:=HS.out W (I1 _ _);go_wp2_with fail;refine Hck.out.mono ?_;rintro e w1 ⟨rfl,hb1⟩;clear c0 c1 c2 c3 c4 Hck;by_cases hE : aJ P M mod N L=0;rotate_left
 ·have hE2 : (aJ P M mod N L != 0)=true:=by simpa using hE
  have HR : Hid (df P M mod N L=([],[],aJ P M mod N L)):=by show _=_;unfold df;rw [I6 hE]
  have hF:=Nh HbW.out hb1;clear hE;generalize aJ P M mod N L=er at *;go_wp2_with fail;go_ret3;exact og HR.out hF
 rw [hE];obtain ⟨m,rfl,hm1,hm64,F,hR⟩:=br hE;obtain ⟨c0,c1,c2,c3,c4⟩:=HS.out w1 hb1;by_cases hn0 : n=0
 ·subst hn0;have HR : Hid (df P M mod m L=([],[],11)):=by show _=_;unfold df;rw [I5 (by rw [hE];decide),I6 Hln.out]
  have hF:=Nh HbW.out hb1;clear hE F hR;go_wp2_with fail;go_ret3;exact og HR.out hF
 have hfB:=(bl hE).1;have hn64 : n<=64:=by have:=vF hE;have:=Hln.out;omega
 have hL1 : 1<=L.length:=by have:=Hln.out;omega
 have HNw:=Z5 (HNw0.out hfB);have hall:=λt ht=>dQ (eH hE).1 t ht;have hTl:=(eH hE).2;have hne:=vL hE hL1;obtain ⟨T,hT⟩ : ∃T,eo (ah P M.toNat mod).ops L m=T:=⟨_,rfl⟩
 rw [hT] at hall hTl hne;obtain ⟨kf,hkf⟩ : ∃kf,T.length=kf:=⟨_,rfl⟩
 have HFa : Hid (∀V,NS w V->Calls prog 31 #[.agg #[.int .i64 P,.int .i64 M,.slice am mn cm,.int .i64 m,.slice a n c]] V λe w'=>∃a1 c1,e = .returned (.tuple #[.slice a1 kf c1,.int .i64 0])/\Ib w' a1 kf T/\NS V w'):=λV hV=>by
  refine (Ai P M am mn cm mod m a n c L V (Hmi.out.1.aa hV) (Hmi.out.2.aa hV)).mono ?_;rintro e w' ⟨hb,⟨h1,_⟩ | ⟨_,m2,e2,k,a1,c1,R,T2,h3,rfl,hO⟩⟩
  ·exact absurd hE h1
  ·obtain rfl : m=m2:=by omega
   rw [hT] at h3;subst h3;obtain rfl : k=kf:=by rw [<- hkf];exact hO.tl.symm
   exact ⟨a1,c1,rfl,hO.str,hb⟩
 have HSy : Hid (∀t ∈ T,∀V sa Sn sc,NS w V->Ints V sa Sn t.1->Calls prog 99 #[.agg #[.int .i64 P,.int .i64 M,.slice am mn cm,.int .i64 m,.slice a n c],.slice sa Sn sc] V λe w'=>∃a1 c1,e = .returned (.tuple #[.agg #[.int .i64 m,.slice a1 n c1],.int .i64 0])/\cH V.heap.size w' a1 n (dk (ah P M.toNat mod).ops m L t.1)/\NS V w'):=λt ht V sa Sn sc hV hI=>by
  obtain ⟨t1,t2,_,_⟩:=hall t ht;refine (qW P M am mn cm mod m a n c L sa Sn sc t.1 V (Hmi.out.1.aa hV) (Hmi.out.2.aa hV) hI).mono ?_;rintro e w' ⟨hb,⟨h1,_⟩ | ⟨_,m2,e2,a1,c1,rfl,hM⟩⟩
  ·exact absurd (wo hE t1 t2) h1
  ·obtain rfl : m=m2:=by omega
   rw [Hln.out] at hM ⊢;exact ⟨a1,c1,rfl,hM,hb⟩
 have Hall:=Z5 hall;have HE:=Z5 hE;have HT:=Z5 hT;have Hkf:=Z5 hkf;have Hne:=Z5 hne;have hkl : kf<=64:=by omega
 have hn1 : ((n : Int) == 0)=false:=by simp;omega
 clear hall hE hT hkf hne hfB hTl HNw0;go_wp2_with fail;refine (HNw.out w1 (Nh HbW.out hb1)).mono ?_;rintro e w2 ⟨b,rfl,hG2,hb2⟩;have hB2:=Nh hb1 hb2;clear c0 c1 c2 c3 c4 HNw;obtain ⟨c0,c1,c2,c3,c4⟩:=HS.out w2 hB2;go_wp2_with fail;refine (HFa.out w2 (Nh HbW.out hB2)).mono ?_;rintro e w3 ⟨af,cf,rfl,hSt,hb3⟩;have hB3:=Nh hB2 hb3;have HG3:=Z5 (hG2.aa hb3);clear c0 c1 c2 c3 c4 HFa hG2 hb2 hb3;obtain ⟨c0,c1,c2,c3,c4⟩:=HS.out w3 hB3;go_upto_region 13 with fail;obtain ⟨U,hU⟩ : ∃U : World,U=w3.alloc (.cells #[.pointer (some ⟨b,0,none⟩),.int .i64 P,.int .i64 M,.slice am mn cm,.int .i64 m,.slice a n c,.slice none 0 0,.slice none 0 0,.int .i64 0] 132):=⟨_,rfl⟩
 rw [<- hU];obtain ⟨g,hg⟩ : ∃g,w3.heap.size=g:=⟨_,rfl⟩
 rw [hg];have hbU : Below g w3 U:=by rw [hU,<- hg];exact aw _ _
 have hLI0 : LI U g [.pointer (some ⟨b,0,none⟩),.int .i64 P,.int .i64 M,.slice am mn cm,.int .i64 m,.slice a n c] none 0 none 0 [] []:=LI.start rfl (by rw [hU,<- hg];exact Nj w3 _ _ rfl);have Hg:=Z5 hg;have HbU:=Z5 hbU;have hgW : W.heap.size<=g:=by have:=hB3.size;omega
 have HB3:=Z5 hB3;have hplF:=hSt.pl;have HSt:=Z5 hSt;clear hU hg hbU c0 c1 c2 c3 c4 hSt hB3 hB2 hb1;go_wp2_with fail;go_loopw [10,55] (λrv iv wr=>∃(i : Nat) (ag : OA) (cg : Nat) (ak : OA) (ck : Nat) (gs : List TX),i<=kf/\iv = .int .i64 i/\rv = .slice ak i ck/\Hid (LI wr g [.pointer (some ⟨b,0,none⟩),.int .i64 P,.int .i64 M,.slice am mn cm,.int .i64 m,.slice a n c] ag cg ak ck gs ((T.take i).map (·.2))) /\
   Hid (gs.length=i/\gs.map TX.T=(T.take i).map λt=>dk (ah P M.toNat mod).ops m L t.1)/\Below g U wr) (λ_ iv _=>kf - (intOf iv).toNat)
 case atStart=>exact ⟨0,none,0,none,0,[],I7 _,rfl,rfl,hLI0,⟨rfl,by simp⟩,I1 _ _⟩
 case round =>
  clear hLI0
  obtain ⟨i,ag,cg,ak,ck,gs,hik,rfl,rfl,hLI,hgs,hbr⟩:=hrel
  generalize wr=V at *
  obtain ⟨hgl,hgm⟩:=hgs.out
  subst hgl
  have Hgm:=Z5 hgm
  clear hgm hgs
  have hb3V : Below g w3 V:=Ju HbU.out hbr
  have hbWV : NS W V:=Ju HB3.out (hb3V.mono hgW)
  have hgV : g<V.heap.size:=hLI.out.box.1
  by_cases hlt : gs.length<kf
  ·have hiT : gs.length<T.length:=by rw [Hkf.out];exact hlt
   obtain ⟨sa,sc,p0,p1,hIS⟩:=(HSt.out.aa (by have h:=hb3V;rw [<- Hg.out] at h;exact h)).cell gs.length hiT
   have hmem : T[gs.length] ∈ T:=JA hiT
   have htk : T.take (gs.length+1)=T.take gs.length ++ [T[gs.length]]:=Ja hiT
   have Hrk2 : Hid ((T.take (gs.length+1)).map (·.2)=(T.take gs.length).map (·.2) ++ [T[gs.length].2]):=by show _=_;rw [htk,JR];rfl
   have Hsy2 : Hid ((T.take (gs.length+1)).map (λt=>dk (ah P M.toNat mod).ops m L t.1)=(T.take gs.length).map (λt=>dk (ah P M.toNat mod).ops m L t.1) ++ [dk (ah P M.toNat mod).ops m L T[gs.length].1]):=by show _=_;rw [htk,JR];rfl
   have hSyi:=HSy.out _ hmem
   have Hql : Hid (((T.take gs.length).map (·.2)).length=gs.length):=by show _=_;rw [Jl,Jy];omega
   obtain ⟨S,hS⟩ : ∃S,T[gs.length].1=S:=⟨_,rfl⟩
   obtain ⟨r,hr⟩ : ∃r,T[gs.length].2=r:=⟨_,rfl⟩
   rw [hS] at p0 hIS Hsy2 hSyi
   rw [hr] at p1 Hrk2
   obtain ⟨Sn,hSn⟩ : ∃Sn,S.length=Sn:=⟨_,rfl⟩
   rw [hSn] at p0 hIS
   have HIS:=Z5 hIS
   have HSyi:=Z5 hSyi
   clear hS hr hSn hmem htk hIS hSyi hiT
   obtain ⟨V1,hV1⟩ : ∃V1 : World,V1=V.alloc (.cells #[.slice sa Sn sc,.int .i64 r] 64):=⟨_,rfl⟩
   have xV : aZ V1 V.heap.size [.slice sa Sn sc,.int .i64 r]:=by rw [hV1];exact Nj _ _ _ rfl
   have hbV : NS V V1:=by rw [hV1];exact aw _ _
   have hcall:=HSyi.out V1 sa Sn sc (Nh HbW.out (Nh hbWV hbV)) (HIS.out.aa hbV)
   have HV1:=Z5 hV1
   have HxV:=Z5 (Jg xV hbV)
   obtain ⟨c0,c1,c2,c3,c4⟩:=HS.out _ (Nh hbWV hbV)
   have e0:=xV.cell 0 rfl
   rw [hV1] at hcall c0 c1 c2 c3 c4 e0
   have Hcall:=Z5 hcall
   clear hV1 xV hbV hcall HIS HSyi
   go_wp2_with fail
   refine Hcall.out.mono ?_
   rintro e w5 ⟨a1,c1',rfl,hM5,hb5⟩
   rw [<- HV1.out] at hb5 hM5
   have hbV5 : NS V w5:=Nh HxV.out.2 hb5
   have hgl:=HxV.out.2.size
   obtain ⟨Sy,hSy⟩ : ∃Sy,dk (ah P M.toNat mod).ops m L S=Sy:=⟨_,rfl⟩
   rw [hSy] at hM5 Hsy2
   have hSyl : Sy.length=n:=hM5.len
   have hbx:=aw w5 (.cells #[.int .i64 m,.slice a1 n c1'] 82)
   have hMA : kE (LA g ag ak) (w5.alloc (.cells #[.int .i64 m,.slice a1 n c1'] 82)) a1 n Sy:=(hM5.IF λx hx=>Jv (hLI.out.lt x hx) hgl).aa hbx
   have hbV2 : NS V (w5.alloc (.cells #[.int .i64 m,.slice a1 n c1'] 82)):=Nh hbV5 hbx
   have hLI2:=hLI.out.aa hbV2
   have hxb : aZ (w5.alloc (.cells #[.int .i64 m,.slice a1 n c1'] 82)) V.heap.size [.slice sa Sn sc,.int .i64 r]:=(HxV.out.1.aa hb5).aa hbx
   have hmb : aZ (w5.alloc (.cells #[.int .i64 m,.slice a1 n c1'] 82)) w5.heap.size [.int .i64 m,.slice a1 n c1']:=Nj _ _ _ rfl
   clear c0 c1 c2 c3 c4 e0 Hcall hM5 hSy
   go_upto_region 20 with fail
   obtain ⟨V2,hV2⟩ : ∃V2,w5.alloc (.cells #[.int .i64 m,.slice a1 n c1'] 82)=V2:=⟨_,rfl⟩
   rw [hV2] at hMA hbV2 hLI2 hxb hmb ⊢
   have c6:=hLI2.c6
   have f6:=hLI2.box.frozen 6
   have m1:=hmb.cell 1 rfl
   have d6:=aY c6 (.cells #[.slice a1 n c1'] 25)
   have dm1:=aY m1 (.cells #[.slice a1 n c1'] 25)
   have HO : Hid (∀X,NS V2 X->X.ownsRow (g+1) 25 1 (.slice ag gs.length cg) gs.length (gs.map E0)):=λX hX=>aX hLI2.so hX
   have hapG:=hLI2.Is
   have hg2 : g<V2.heap.size:=hLI2.box.1
   have HLI2:=Z5 hLI2
   have HMA:=Z5 hMA
   have Hxb:=Z5 hxb
   have HSl:=Z5 hSyl
   have hgs64 : gs.length<=64:=by omega
   clear hV2 hbx hLI2 hMA hxb hmb hSyl hbV5 hb5
   go_cut [] (λwx=>∃ag' cg',LI wx g [.pointer (some ⟨b,0,none⟩),.int .i64 P,.int .i64 M,.slice am mn cm,.int .i64 m,.slice a n c] ag' cg' ak ck (gs ++ [⟨a1,c1',Sy⟩]) ((T.take gs.length).map (·.2))/\Below g V2 wx/\aZ wx V.heap.size [.slice sa Sn sc,.int .i64 r])
   case first =>
    go_region_law ((first
     | (refine bH (by rfl) (.tmp 73) (.tmp 76) 130 25 (by rfl) (.slice none 0 0) 24 underlying130 DF (by rfl) (g+1) ag gs.length cg (gs.map E0) (by rfl) (HO.out _ (by first | exact (aw _ _).drew | exact aw _ _)) (some ⟨V2.heap.size,0,none⟩) 1 1 [.slice a1 n c1'] (by rfl) (λ_=>rfl) rfl (by intro j hj;obtain rfl : j=0:=(by omega);exact bM _ _ _ rfl) (by intro y hy;simp at hy;subst hy;rfl) (by omega) (by unfold maxLen;omega) (by simp;omega) ?_;intro a5 c5 w6 hown6 hgr6 hap6;have p1:=bC hgr6 (aY c6 _) hapG;have p2 : w6.frozen? ⟨g,6,none⟩=false:=(JJ (hgr6.block g (by simp;omega) (λe=>hapG.own gs.length cg e.symm))).trans (ef hg2 f6 _))))
    all_goals (
     go_wp2_with fail
     go_meet
     have hk:=(HLI2.out.aa (I1 _ _).drew).Ig (o:=.cells #[.slice a1 n c1'] 25) (x:=⟨a1,c1',Sy⟩) (by rw [HSl.out];exact HMA.out.aa (I1 _ _).drew) (by rw [show E0 ⟨a1,c1',Sy⟩ = .slice a1 n c1' by unfold E0;rw [HSl.out]];exact hown6) hgr6 hap6
     exact ⟨a5,c5,hk.1,((I1 g V2).drew).trans hk.2.1,(Hxb.out.aa (I1 _ _).drew).bQ hk.2.2 λh=>K3 _ (hLI.out.lt _ h)⟩)
   obtain ⟨ag',cg',hLI3,hb3',hx3⟩:=hcut
   generalize wc=V3 at *
   have r1:=hx3.cell 1 rfl
   have hrk:=hLI3.rk
   rw [Hql.out] at hrk
   have hg3 : g<V3.heap.size:=hLI3.box.1
   have HLI3:=Z5 hLI3
   clear hx3 hLI3 c6 f6 m1 d6 dm1
   go_wp2_with (at_builtin;refine bg rfl _ _ 22 3 rfl (.int .i64 0) 8 underlying22 ba rfl (g+1) ak gs.length ck _ rfl (hrk.alloc _) ⟨V3.heap.size,0,none⟩ 1 (.int .i64 r) rfl (bk V3 _ _) rfl (by omega) (by unfold maxLen;omega) (by simp;omega) ?_;intro a5 c5 w7 hown7 hgr7 hap7)
   go_roundw
   case rel =>
    obtain ⟨hL4,hb4⟩:=HLI3.out.Ij (r:=r) (o:=.cells #[.int .i64 r] 3) (by rw [Hql.out];exact hown7) (by rw [Hql.out];exact hgr7) hap7
    exact ⟨gs.length+1,ag',cg',a5,c5,gs ++ [⟨a1,c1',Sy⟩],by omega,by go_num,rfl,by rw [Hrk2.out];exact hL4,⟨by simp,by rw [Hsy2.out,JR,Hgm.out];rfl⟩,Ju hbr (Ju (hbV2.mono (by omega)) (Ju hb3' (hb4.mono (Nat.le_succ g))))⟩
   case measure=>simp [intOf] <;> omega
  ·obtain rfl : kf=gs.length:=by omega
   have htk : T.take gs.length=T:=I8 (by rw [Hkf.out];exact IZ _)
   have hLI1:=hLI.out
   rw [htk] at hLI1
   have hfm : gs.map TX.T=gF P M mod m L:=by rw [Hgm.out,htk];unfold gF;rw [HT.out]
   have hgs1 : 1<=gs.length:=by
    rcases JS gs.length with h | h
    ·exact absurd (Jp (by rw [Hkf.out];exact h)) Hne.out
    ·exact h
   have hgs64 : gs.length<=64:=hkl
   have Hfm:=Z5 hfm
   have HL1:=Z5 hLI1
   have hmats : ∀t (ht : t<gs.length),V.cell? ⟨aj ag,aL ag+t,none⟩=some (.slice gs[t].a gs[t].T.length gs[t].c)/\cH (g+1) V gs[t].a gs[t].T.length gs[t].T:=λt ht=>by
    have h1:=(bW hLI1.so t ht).1;have e1 : (gs.map E0)[t]? = some (E0 gs[t]):=by rw [Lg,JI ht];rfl
    rw [e1] at h1;exact ⟨by rw [h1];rfl,(hLI1.gx _ (JA ht)).F0⟩
   have Hmats:=Z5 hmats
   have HGR : Hid (∀t (ht : t<gs.length),gs[t].T.length=n/\cw (ah P M.toNat mod).El m gs[t].T):=λt ht=>by
    have h1 : gs[t].T ∈ gF P M mod m L:=by rw [<- hfm];exact List.mem_map.2 ⟨gs[t],JA ht,rfl⟩
    obtain ⟨s,hs,e⟩:=List.mem_map.1 h1;obtain ⟨q1,q2,_,_⟩:=dQ (eH HE.out).1 s hs;obtain ⟨hI,hl,hgr⟩:=jZ q1 q2;obtain ⟨s1,s2,_,_⟩:=lM HE.out hI hl hgr;rw [<- e];exact ⟨by rw [s2];exact Hln.out,s1⟩
   have hplG : Pl ag gs.length:=by obtain ⟨a',c',hv,hp⟩:=Nx hLI1.so;cases hv;exact hp
   have hbV0 : aZ V g (Ia b P M am mn cm m a n c ag gs.length cg none 0 0 0):=hLI1.box
   have HrkV:=Z5 (Ni hLI1.rk).1
   have HGV : Hid (∀X,aA V X (One g) (λx=>x=g\/V.heap.size<=x)->Below g V X):=λX hX=>hX.below (λx hx=>by rw [show x=g from hx];exact IZ _) (by omega)
   obtain ⟨RES,hRES⟩ : ∃RES,df P M mod m L=RES:=⟨_,rfl⟩
   have hRES2 : wq (ah P M.toNat mod).ops (ah P M.toNat mod).q m n (gF P M mod m L) (T.map (·.2)) n 1 [] 0 []=RES:=by rw [<- hRES];unfold df;rw [I5 (by rw [HE.out];decide),I5 (by rw [Hln.out];omega),Jd,Hln.out,HT.out]
   have HRES:=Z5 hRES
   clear hfm htk hLI1 hmats hRES hLI Hgm
   go_wp2_with fail
   go_loopw [15,16] (λov wv wr=>∃(W1 : Nat) (ao : OA) (co : Nat) (o : Ll) (ab : OA) (cb : Nat) (B : Lz) (kk : Nat),W1<=n/\wv = .int .i64 ((W1 : Int)+1)/\ov = .slice ao o.length co /\
     Hid (wr.ownsRow V.heap.size 62 4 (.slice ao o.length co) o.length (rW o))/\Hid (aZ wr g (Ia b P M am mn cm m a n c ag gs.length cg ab B.length cb kk)) /\
     Hid (Ints wr ab B.length B/\(0<B.length->aj ab ≠ g/\(ao ≠ none->aj ab ≠ aj ao)))/\kk<=65536/\o.length<=W1/\aA V wr (One g) (λx=>x=g\/V.heap.size<=x) /\
     Hid (wq (ah P M.toNat mod).ops (ah P M.toNat mod).q m n (gF P M mod m L) (T.map (·.2)) (n - W1) (W1+1) B kk o=RES)) (λ_ wv _=>n+1 - (intOf wv).toNat)
   case atStart=>exact ⟨0,none,0,[],none,0,[],0,I7 _,rfl,rfl,⟨rfl,.inl ⟨rfl,rfl⟩⟩,hbV0,⟨Nr _ _,λh=>absurd h (by simp)⟩,by omega,IZ _,(Ns V (One g)).Fm λx hx=>hx,hRES2⟩
   case round =>
    clear hbV0 hRES2
    obtain ⟨W1,ao,co,o,ab,cb,B,kk,hW1,rfl,rfl,howo,hbox,hbest,hkk,hol,hMV,hres⟩:=hrel
    generalize wr=X at *
    have hbX:=HGV.out X hMV
    have hbWX:=Ju hbWV (hbX.mono hgW)
    have hb3X : NS w3 X:=by have h:=Ju hb3V hbX;rw [<- Hg.out] at h;exact h
    obtain ⟨c0,c1,c2,c3,c4⟩:=HS.out X hbWX
    have hgX : g<X.heap.size:=hbox.out.1
    by_cases hlt2 : W1<n
    ·have d1 : decide ((W1 : Int)+1<=(n : Int))=true:=by simp;omega
     obtain ⟨f,hf⟩ : ∃f,n - W1=f+1:=⟨n - W1 - 1,by omega⟩
     have hres2:=hres.out
     rw [hf,wq,<- Hfm.out,Jl] at hres2
     have hsea : va (λx=>x=g\/(ao ≠ none/\x=aj ao)) X g b P M am mn cm m a n c ag gs.length cg ab cb B kk:=⟨hbox.out,hbest.out.1,λhn h=>by
      rcases h with h | ⟨h,h'⟩
      ·exact (hbest.out.2 hn).1 h
      ·exact (hbest.out.2 hn).2 h h'⟩
     have hmore:=De (W1+1) HG3.out hb3X hsea hkk hn64 (by omega) (by omega) hgs1 hgs64
     rw [show ((W1+1 : Nat) : Int)=(W1 : Int)+1 by omega] at hmore
     have Hmore:=Z5 hmore
     have Hsea:=Z5 hsea
     clear hmore hsea
     by_cases hm : iH (ah P M.toNat mod).q n gs.length kk (W1+1)=true
     rotate_left
     ·rw [I5 hm] at hres2 Hmore
      have HR : Hid (df P M mod m L=([],[],8)):=by show _=_;rw [HRES.out,<- hres2]
      have hFW:=Nh HbW.out hbWX
      clear hres2 hm
      go_wp2_with fail
      refine Hmore.out.mono ?_
      rintro e X1 ⟨hb1,z,rfl⟩
      have hF:=Nh hFW hb1
      go_wp2_with fail
      go_ret3
      exact og HR.out hF
     rw [I6 hm] at hres2 Hmore
     have Hres2:=Z5 hres2
     have Hm:=Z5 hm
     clear hres2 hm
     go_wp2_with fail
     refine Hmore.out.mono ?_
     rintro e X1 ⟨hb1,z,rfl⟩
     have hbox1:=hbox.out.aa hb1
     have c6:=hbox1.cell 6 rfl
     clear c0 c1 c2 c3 c4
     go_wp2_with fail
     obtain ⟨RB,hRB⟩ : ∃RB,lP (ah P M.toNat mod).ops (ah P M.toNat mod).q m (W1+1) (gs.map TX.T) B=RB:=⟨_,rfl⟩
     obtain ⟨cnt,hcnt⟩ : ∃cnt,dp n (W1+1) * ((ah P M.toNat mod).q - 1) ^ W1=cnt:=⟨_,rfl⟩
     have hrn : kD (ah P M.toNat mod).q n gs.length (W1+1)=gs.length * cnt:=by unfold kD;rw [JU,hcnt]
     have hmb : gs.length * cnt<=65536 - kk:=by have h1:=Hm.out;unfold iH at h1;simp only [Jo,JH] at h1;rw [<- hrn];exact h1.2
     have Hcnt:=Z5 hcnt
     have HRB:=Z5 hRB
     have Hrn:=Z5 hrn
     have hsea1 : va (λx=>x=g\/(ao ≠ none/\x=aj ao)) X1 g b P M am mn cm m a n c ag gs.length cg ab cb B kk:=Hsea.out.aa hb1
     have hgX1 : g<X1.heap.size:=hbox1.1
     have hstart : ((gs.drop 0).map TX.T).foldl (λb G=>(gW (ah P M.toNat mod).ops (de (ah P M.toNat mod).q) [1] (W1+1) G (List.replicate m 0)).foldl (cO (ah P M.toNat mod).ops) b) B=RB:=hRB
     clear hcnt hRB hrn hbox1
     go_loopw [107] (λiv wr=>∃(t : Nat) (ab' : OA) (cb' : Nat) (B' : Lz) (k' : Nat),t<=gs.length/\iv = .int .i64 t/\Hid (va (λx=>x=g\/(ao ≠ none/\x=aj ao)) wr g b P M am mn cm m a n c ag gs.length cg ab' cb' B' k')/\aA X1 wr (One g) (λx=>x=g\/X1.heap.size<=x) /\
       Hid (((gs.drop t).map TX.T).foldl (λb G=>(gW (ah P M.toNat mod).ops (de (ah P M.toNat mod).q) [1] (W1+1) G (List.replicate m 0)).foldl (cO (ah P M.toNat mod).ops) b) B'=RB)/\k'+(gs.length - t) * cnt=kk+gs.length * cnt) (λiv _=>gs.length - (intOf iv).toNat)
     case atStart=>exact ⟨0,ab,cb,B,kk,I7 _,rfl,hsea1,(Ns X1 (One g)).Fm λx hx=>hx,hstart,by simp⟩
     case round =>
      clear hsea1 hstart
      obtain ⟨t,ab',cb',B',k',ht,rfl,hsea,hMt,hfold,hkt⟩:=hrel
      generalize wr=Y at *
      by_cases hltt : t<gs.length
      ·obtain ⟨hc0,hm0⟩:=Hmats.out t hltt
       obtain ⟨hTl,hTr⟩:=HGR.out t hltt
       have hag : ag ≠ none:=λe=>by have:=hplG (by omega);rw [e] at this;cases this
       have hagg : ¬ One g (aj ag):=λe=>by
        rcases HL1.out.Is with h | h
        ·exact hag h
        ·exact h e
       have hcY : Y.cell? ⟨aj ag,aL ag+t,none⟩=some (.slice gs[t].a gs[t].T.length gs[t].c):=hMt.cell (aB hb1 (hMV.cell hc0 hagg)) hagg
       have hmY : cH (g+1) Y gs[t].a gs[t].T.length gs[t].T:=((hm0.bQ hMV λx hx=>by rw [show x=g from hx];omega).aa hb1).bQ hMt λx hx=>by rw [show x=g from hx];omega
       have hdrop : gs.drop t=gs[t] :: gs.drop (t+1):=Jt hltt
       have hfold2:=hfold.out
       rw [hdrop,Ke,KD] at hfold2
       obtain ⟨GT,hGT⟩ : ∃GT,gs[t]=GT:=⟨_,rfl⟩
       rw [hGT] at hcY hmY hTl hTr hfold2
       rw [hTl] at hcY hmY
       have hbY : Below g X1 Y:=hMt.below (λx hx=>by rw [show x=g from hx];exact IZ _) (by omega)
       have hbWY : NS W Y:=Ju (Nh hbWX hb1) (hbY.mono hgW)
       have hb3Y : NS w3 Y:=by have h:=Ju (Ju (by rw [<- Hg.out];exact hb3X) (hb1.mono (by omega))) hbY;rw [<- Hg.out] at h;exact h
       obtain ⟨c0,c1,c2,c3,c4⟩:=HS.out Y hbWY
       have Hfold2:=Z5 hfold2
       have HmY:=Z5 hmY
       have HTr:=Z5 hTr
       have HTl:=Z5 hTl
       clear hc0 hm0 hGT hdrop hfold2 hmY hTr hTl hfold
       go_wp2_with (at_make;refine cC rfl _ _ 22 3 rfl (.int .i64 0) 8 underlying22 ba rfl m rfl rfl (by omega) (by unfold maxLen;omega) ?_;intro a5 w5 hown hbel hge hlt5)
       have hgY : g<Y.heap.size:=hsea.out.box.1
       have hown2 : w5.ownsRow Y.heap.size 3 1 (.slice a5 m m) m ((List.replicate m (0 : Int)).map (Value.int .i64)):=by rw [Lb];exact hown
       have hls : (gW (ah P M.toNat mod).ops (de (ah P M.toNat mod).q) [1] (W1+1) GT.T (List.replicate m 0)).length=cnt:=by rw [mH,HTl.out,jT];exact Hcnt.out
       obtain ⟨d,hd⟩ : ∃d,gs.length - t=d+1:=⟨gs.length - t - 1,by omega⟩
       have hd2 : gs.length - (t+1)=d:=by omega
       rw [hd,Nat.succ_mul] at hkt
       have hbnd : kk+gs.length * cnt<=65536:=by omega
       have hFl : ∀x,(x=g\/(ao ≠ none/\x=aj ao))->x<w5.heap.size:=λx hx=>by
        have h5:=hbel.size;rcases hx with rfl | ⟨h1,rfl⟩
        ·omega
        ·have h2:=(fO howo.out h1).2;have h3:=hb1.size;have h4:=hMt.size;omega
       have hso:=wZ (cr:=GT.c) (F:=λx=>x=g\/(ao ≠ none/\x=aj ao)) (.inl rfl) HG3.out (by rw [Hg.out];exact IZ _) hm64 hm1 HTr.out hn64 (W1+1) (by omega) w5 ab' cb' B' k' a5 m (List.replicate m 0) 0 true hFl (Nh hb3Y hbel) (hsea.out.aa hbel) (HmY.out.aa hbel) ⟨(Ni hown2).1,λ_=>by omega⟩ (λx hx=>by rw [(List.mem_replicate.1 hx).2];exact F.zero) (I7 _) (by rw [I6 rfl];show k'+(gW _ _ _ _ GT.T _).length<=_;rw [hls];omega)
       rw [I6 rfl,Kx,hls,show ((W1+1 : Nat) : Int)=(W1 : Int)+1 by omega] at hso
       have Hso:=Z5 hso
       have Hbel:=Z5 hbel
       clear hso hown hown2 hbel hls
       refine Hso.out.mono ?_
       rintro e w6 ⟨rfl,ab6,cb6,hs6,hM6⟩
       have Hs6:=Z5 (Jg hs6 hM6)
       clear hs6 hM6 c0 c1 c2 c3 c4
       go_wp2_with fail
       go_roundw
       case rel=>exact ⟨t+1,ab6,cb6,_,_,by omega,by go_num,Hs6.out.1,hMt.trans ((Nn Hbel.out _).trans (Hs6.out.2.wide λx hx=>.inl hx)),Hfold2.out,by rw [hd2];omega⟩
       case measure=>simp [intOf] <;> omega
      ·obtain rfl : t=gs.length:=by omega
       have hB' : B'=RB:=by have h1:=hfold.out;rw [List.drop_length] at h1;exact h1
       have hk' : k'=kk+kD (ah P M.toNat mod).q n gs.length (W1+1):=by rw [Hrn.out];rw [KK,MT] at hkt;omega
       have hk'2 : k'<=65536:=by rw [hk',Hrn.out];omega
       have HB':=Z5 hB'
       have Hk':=Z5 hk'
       have hbY : Below g X1 Y:=hMt.below (λx hx=>by rw [show x=g from hx];exact IZ _) (by omega)
       have hbWY : NS W Y:=Ju (Nh hbWX hb1) (hbY.mono hgW)
       have hVY : aA V Y (One g) (λx=>x=g\/V.heap.size<=x):=(hMV.trans (Nn hb1 _)).trans ((hMt.Ih (I:=λx=>x=g\/V.heap.size<=x) (λx hx=>.inl hx) λx hx=>by
        rcases hx with h | h
        ·exact .inl h
        ·have h1:=hMV.size;have h2:=hb1.size;exact .inr (by omega)))
       have hakg : 0<(T.map (·.2)).length->¬ One g (aj ak):=λhn e=>by
        rcases HL1.out.IJ with h | h
        ·have:=HrkV.out.pl hn;rw [h] at this;cases this
        ·exact h e
       have hrkY : Ints Y ak (T.map (·.2)).length (T.map (·.2)):=HrkV.out.bQ hVY hakg
       have hQl : (T.map (·.2)).length=gs.length:=by rw [Jl,Hkf.out]
       obtain ⟨fl,hfl⟩ : ∃fl,dO (n : Int) ((W1 : Int)+1) (T.map (·.2)) (T.map (·.2)).length=fl:=⟨_,rfl⟩
       have hflV : ql (n : Int) (T.map (·.2)) ((W1 : Int)+1)=(fl,0):=by have h1:=EW HE.out (v:=(W1 : Int)+1) (by rw [Hln.out];omega) (by rw [Hln.out];exact hn64);rw [HT.out,Hln.out,hfl] at h1;exact h1
       have hflo:=CD (n : Int) ak gs.length ck (T.map (·.2)) ((W1 : Int)+1) Y (by rw [hQl] at hrkY;exact hrkY)
       rw [hflV] at hflo
       have Hflo:=Z5 hflo
       have Hfl:=Z5 hfl
       have hownY : Y.ownsRow V.heap.size 62 4 (.slice ao o.length co) o.length (rW o):=iT howo.out λh1=>by
        have h2:=(fO howo.out h1)
        have h3:=hb1.size;rw [hMt.block _ (by omega) λe=>by have : aj ao=g:=e;omega,hb1.block _ h2.2]
       obtain ⟨c0,c1,c2,c3,c4⟩:=HS.out Y hbWY
       have c7:=hsea.out.box.cell 7 rfl
       have c8:=hsea.out.box.cell 8 rfl
       have hbI:=hsea.out.best.ints
       have HownY:=Z5 hownY
       have HMY:=Z5 (Jg hbWY hVY)
       clear hB' hk' hfold hkt hflV hflo hfl hrkY hakg hownY hbWY hVY
       go_wp2_with fail
       refine Hflo.out.mono ?_
       rintro e w' ⟨rfl,hw'⟩
       obtain rfl:=hw'.symm
       obtain ⟨zt,hzt⟩ : ∃zt,bK B'=zt:=⟨_,rfl⟩
       have HWt : Hid (∀X,NS Y X->Calls prog 55 #[.slice ab' B'.length cb'] X λe w'=>e = .returned (.int .i64 (zt : Nat))/\w'=X):=λX hX=>by rw [<- hzt];exact fw ab' B'.length cb' B' X (hbI.aa hX)
       have Hzt:=Z5 hzt
       have HO : Hid (∀X,NS Y X->X.ownsRow V.heap.size 62 4 (.slice ao o.length co) o.length (rW o)):=λX hX=>iT HownY.out λh1=>hX.block _ (fO HownY.out h1).2
       have hq4 : aZ ((Y.alloc (.cells #[.int .i64 ((W1 : Int)+1),.int .i64 (k' : Nat),.int .i64 (zt : Nat),.int .i64 fl] 62)).drew) Y.heap.size [.int .i64 ((W1 : Int)+1),.int .i64 (k' : Nat),.int .i64 (zt : Nat),.int .i64 fl]:=(Nj Y _ _ rfl).aa (I1 _ _).drew
       have q0:=hq4.cell 0 rfl
       have q1:=hq4.cell 1 rfl
       have q2:=hq4.cell 2 rfl
       have q3:=hq4.cell 3 rfl
       have ho4:=HO.out _ (aw Y (.cells #[.int .i64 ((W1 : Int)+1),.int .i64 (k' : Nat),.int .i64 (zt : Nat),.int .i64 fl] 62)).drew
       have HQ:=Z5 (Jg q0 (Jg q1 (Jg q2 (Jg q3 ho4))))
       clear hq4 q0 q1 q2 q3 ho4
       have hgVs : V.heap.size<=Y.heap.size:=HMY.out.2.size
       have ho64 : o.length<=64:=by omega
       clear hzt hbI
       go_upto_region 38 with fail
       go_cut [15] (λv wx=>∃a5 c5,v = .slice a5 (o.length+1) c5/\wx.ownsRow V.heap.size 62 4 (.slice a5 (o.length+1) c5) (o.length+1) (rW o ++ [.int .i64 ((W1 : Int)+1),.int .i64 (k' : Nat),.int .i64 (zt : Nat),.int .i64 fl]) /\
        va (λx=>x=g\/(a5 ≠ none/\x=aj a5)) wx g b P M am mn cm m a n c ag gs.length cg ab' cb' B' k'/\aA Y wx (λx=>x=g\/V.heap.size<=x) (λx=>x=g\/V.heap.size<=x))
       case first =>
        go_region_law ((first
         | (go_simp;go_at_call 55;((with_reducible refine (HWt.out _ (by first | exact I1 _ _ | exact (I1 _ _).drew | exact (aw _ _).drew | exact aw _ _)).mono ?_);rintro e w8 ⟨rfl,rfl⟩))
         | (refine z8 (by rfl) (.tmp 131) (.tmp 144) 30 62 (by rfl) (.agg #[.int .i64 0,.int .i64 0,.int .i64 0,.int .i64 0]) 32 underlying30 A5 (by rfl) V.heap.size ao o.length co (rW o) (by rfl) HQ.out.2.2.2.2 Y.heap.size 1 (.int .i64 ((W1 : Int)+1)) (.int .i64 (k' : Nat)) (.int .i64 (zt : Nat)) (.int .i64 fl) (by rfl) HQ.out.1 HQ.out.2.1 HQ.out.2.2.1 HQ.out.2.2.2.1 (by intro u hu;simp at hu;rcases hu with rfl | rfl | rfl | rfl <;> rfl) (by omega) (by unfold maxLen;omega) (by simp;omega) ?_;intro a5 c5 w6 hown6 hgr6 hap6)))
        all_goals (
         go_wp2_with fail
         have hp:=BA hsea.out (HO.out _ (I1 _ _)) hgV (by first | exact (aw _ _).drew | exact aw _ _) hgr6 hap6
         have hQ9:=Jg hown6 hp
         clear hown6 hgr6 hap6 hp
         have HQ9:=Z5 hQ9
         clear hQ9
         simp only [KW,KO,KP,Act.put,I0,I3,I4]
         go_meet
         exact ⟨a5,c5,rfl,HQ9.out.1,HQ9.out.2.1,HQ9.out.2.2⟩)
       obtain ⟨a5,c5,rfl,hown5,hsea5,hM5⟩:=hcut
       generalize wc=Z at *
       have hVZ : aA V Z (One g) (λx=>x=g\/V.heap.size<=x):=HMY.out.2.trans hM5
       have hbYZ : Below g Y Z:=hM5.below (λx hx=>by rcases hx with rfl | h;exact IZ _;omega) (by omega)
       have hbWZ : NS W Z:=Ju HMY.out.1 (hbYZ.mono hgW)
       obtain ⟨d0,d1',d2,d3,d4⟩:=HS.out Z hbWZ
       have e7:=hsea5.box.cell 7 rfl
       have HwZ : Hid (Calls prog 55 #[.slice ab' B'.length cb'] Z λe w'=>e = .returned (.int .i64 (zt : Nat))/\w'=Z):=by rw [<- Hzt.out];exact fw ab' B'.length cb' B' Z hsea5.best.ints
       have hRes : (if fl > (zt : Int) then (o ++ [[(W1 : Int)+1,(k' : Int),(zt : Int),fl]],B',(0 : Int)) else wq (ah P M.toNat mod).ops (ah P M.toNat mod).q m n (gs.map TX.T) (T.map (·.2)) f (W1+1+1) B' k' (o ++ [[(W1 : Int)+1,(k' : Int),(zt : Int),fl]]))=RES:=by have h9:=Hres2.out;rw [HRB.out,<- HB'.out,<- Hk'.out,show ((W1+1 : Nat) : Int)=(W1 : Int)+1 by omega,Hfl.out,Hzt.out] at h9;exact h9
       have HrV : Hid (rW o ++ [.int .i64 ((W1 : Int)+1),.int .i64 (k' : Nat),.int .i64 (zt : Nat),.int .i64 fl]=rW (o ++ [[(W1 : Int)+1,(k' : Int),(zt : Int),fl]])):=by show _=_;rw [tZ];rfl
       have HoL : Hid ((o ++ [[(W1 : Int)+1,(k' : Int),(zt : Int),fl]]).length=o.length+1):=by show _=_;simp
       rw [HrV.out] at hown5
       have HBest : Hid (Ints Z ab' B'.length B'/\(0<B'.length->aj ab' ≠ g/\(a5 ≠ none->aj ab' ≠ aj a5))):=⟨hsea5.best.ints,λhn=>⟨λe=>hsea5.best.lo hn (.inl e),λh1 e=>hsea5.best.lo hn (.inr ⟨h1,e⟩)⟩⟩
       obtain ⟨o2,ho2⟩ : ∃o2,o ++ [[(W1 : Int)+1,(k' : Int),(zt : Int),fl]]=o2:=⟨_,rfl⟩
       rw [ho2] at hRes hown5 HoL HrV
       have Hown5:=Z5 hown5
       have Hsea5:=Z5 hsea5
       have HbZ:=Z5 (Jg hbWZ hVZ)
       clear hown5 hsea5 hM5 hbYZ hbWZ hVZ ho2
       by_cases hst : (zt : Int)<fl
       ·have hd : decide ((zt : Int)<fl)=true:=Jm hst
        rw [I6 hst] at hRes
        have HR9 : Hid (df P M mod m L=(o2,B',0)):=by show _=_;rw [HRES.out,<- hRes]
        have hF:=Nh HbW.out HbZ.out.1
        clear hRes hst
        go_wp2_with fail
        refine HwZ.out.mono ?_
        rintro e w' ⟨rfl,hw'⟩
        obtain rfl:=hw'.symm
        go_wp2_with fail
        go_quiet (fail)
        go_wp2_with fail
        go_ret3
        exact uf HR9.out hF HoL.out Hown5.out HBest.out.1 (Nq ⟨_,rfl⟩)
       ·have hd : decide ((zt : Int)<fl)=false:=Jn hst
        rw [I5 hst] at hRes
        have HRes:=Z5 hRes
        have hfw : n - (W1+1)=f:=by omega
        clear hRes hst
        go_wp2_with fail
        refine HwZ.out.mono ?_
        rintro e w' ⟨rfl,hw'⟩
        obtain rfl:=hw'.symm
        go_wp2_with fail
        go_roundw
        case rel=>exact ⟨W1+1,a5,c5,o2,ab',cb',B',k',by omega,by go_num,by rw [HoL.out],by rw [HoL.out];exact Hown5.out,Hsea5.out.box,HBest.out,hk'2,by rw [HoL.out];omega,HbZ.out.2,by show wq _ _ _ _ _ _ (n - (W1+1)) _ _ _ _=_;rw [hfw,<- Hfm.out];exact HRes.out⟩
        case measure=>simp [intOf] <;> omega
    ·obtain rfl : W1=n:=by omega
     have hres3:=hres.out
     rw [KK,wq] at hres3
     have HR9 : Hid (df P M mod m L=(o,B,0)):=by show _=_;rw [HRES.out,<- hres3]
     have d1 : decide ((W1 : Int)+1<=(W1 : Int))=false:=by simp;omega
     have hF:=Nh HbW.out hbWX
     have e7:=hbox.out.cell 7 rfl
     clear hres3
     go_wp2_with fail
     go_quiet (fail)
     go_wp2_with fail
     go_ret3
     exact uf HR9.out hF rfl howo.out hbest.out.1 (Nq ⟨_,rfl⟩)
theorem AS : ∀(l l' : Lz) (i : Nat),l.length=l'.length->i<l.length->(∀j,j<i->nth l j=nth l' j)->nth l i ≠ nth l' i->decide (dK l l'<0)=decide (nth l i<nth l' i)
 | [],_,i,_,h,_,_=>by simp at h
 | _ :: _,[],_,h,_,_,_=>by simp at h
 | x :: l,y :: l',0,_,_,_,hne=>by
  rw [b8,b8] at hne;rw [b8,b8,dK];by_cases h1 : x<y
  ·rw [I6 h1,Jm h1];rfl
  ·rw [I5 h1,I6 (by omega),Jn h1];rfl
 | x :: l,y :: l',i+1,hl,hi,heq,hne=>by have h0:=heq 0 (by omega);rw [b8,b8] at h0;subst h0;rw [bR,bR] at hne;rw [bR,bR,dK,I5 (by omega),I5 (by omega)];refine AS l l' i (by simpa using hl) (by simpa using hi) (λj hj=>?_) hne;have:=heq (j+1) (by omega);rwa [bR,bR] at this
theorem FY (l l' : Lz) (hl : l.length=l'.length) (h : ∀j,j<l.length->nth l j=nth l' j) : dK l l'=0:=by
 have e : l=l':=KI hl λi h1 h2=>by have:=h i h1;rwa [ai h1,ai h2] at this
 rw [e,oI]
theorem wQ (a : OA) (n c : Nat) (l : Lz) (a' : OA) (c' : Nat) (l' : Lz) (w : World) (hi : Ints w a n l) (hi' : Ints w a' n l') :
  Calls prog 53 #[.slice a n c,.slice a' n c'] w λe w'=>e = .returned (.bool (decide (dK l l'<0)))/\NS w w':=by
 have hpl:=hi.pl;have hpl':=hi'.pl;have hmax:=hi.max;have Hl:=Z5 hi.len;have Hl':=Z5 hi'.len;unfold maxLen at hmax;go_enter func53,ntmps53;go_wp2_with fail;go_loopw [5] (λiv wr=>∃k : Nat,k<=n/\iv = .int .i64 k/\Hid (∀j,j<k->nth l j=nth l' j)/\NS w wr) (λiv _=>n - (intOf iv).toNat);case atStart=>exact ⟨0,I7 _,rfl,λj hj=>by omega,I1 _ _⟩
 case round =>
  obtain ⟨k,hk,rfl,hno,hbr⟩:=hrel
  generalize wr=V at *
  by_cases hlt : k<n
  ·have ck:=(hi.aa hbr).cell k hlt
   have ck':=(hi'.aa hbr).cell k hlt
   by_cases h0 : nth l k=nth l' k
   ·have Hn : Hid (∀j,j<k+1->nth l j=nth l' j):=λj hj=>by
     by_cases e : j=k
     ·subst e;exact h0
     ·exact hno.out j (by omega)
    rw [<- h0] at ck'
    have hd : (nth l k != nth l k)=false:=by simp
    clear h0 hno
    generalize nth l k=x at *
    go_wp2_with fail
    go_quiet (fail)
    go_wp2_with fail
    go_roundw
    case rel=>exact ⟨k+1,by omega,by go_num,Hn.out,Nh hbr (Nq ⟨_,rfl⟩)⟩
    case measure=>simp [intOf] <;> omega
   ·have Hr : Hid (decide (dK l l'<0)=decide (nth l k<nth l' k)):=AS l l' k (by rw [Hl.out,Hl'.out]) (by rw [Hl.out];exact hlt) hno.out h0
    have hd : (nth l k != nth l' k)=true:=by simpa using h0
    clear h0 hno
    generalize nth l k=x at *
    generalize nth l' k=y at *
    go_wp2_with fail
    go_quiet (fail)
    go_wp2_with fail
    have hbx : NS w V.drew:=hbr.drew
    go_quiet (fail)
    go_wp2_with fail
    go_ret
    exact ⟨bd Hr.out.symm,Nh hbr (Nh (Nq ⟨_,rfl⟩) (Nq ⟨_,rfl⟩))⟩
  ·obtain rfl : k=n:=by omega
   have Hr : Hid (decide (dK l l'<0)=false):=by show _=_;rw [FY l l' (by rw [Hl.out,Hl'.out]) (by rw [Hl.out];exact hno.out)];rfl
   clear hno
   go_wp2_with fail
   go_ret
   exact ⟨bd Hr.out.symm,hbr⟩
theorem th {P M : Int} {am : OA} {mn cm : Nat} {mod : Lz} {m : Nat} (hB : bp P M mod=true) (hm64 : m<=1000000) (av : OA) (cv : Nat) (v : Lz) (s : Int) (au : OA) (cu : Nat) (u : Lz) (w : World)
  (hmod : Ints w am mn mod) (hi : Ints w av m v) (hu : Ints w au m u) (hv : Vc (ah P M.toNat mod).El m v) (hs : (ah P M.toNat mod).El s) (hue : Vc (ah P M.toNat mod).El m u) :
  Calls prog 115 #[.agg #[.int .i64 P,.int .i64 M,.slice am mn cm],.slice av m cv,.int .i64 s,.slice au m cu] w λe w'=>∃a1 c1,e = .returned (.slice a1 m c1)/\w'.ownsRow w.heap.size 3 1 (.slice a1 m c1) m ((bP (ah P M.toNat mod).ops v s u).map (Value.int .i64))/\NS w w':=by
 obtain ⟨k,hk,hel,hq,hF,hA,_⟩:=fU hB;subst hk;obtain ⟨k',e2,hrf,hmods⟩:=eK (P:=P) (M:=(k : Int)) (mod:=mod) (by rw [da];exact hB);obtain rfl : k=k':=by omega
 rw [Jd] at hv hs hue ⊢;rw [<- hel] at hv hs hue;have h:=mE P k am mn cm mod av m cv v s au cu u w ⟨hrf,hmods w am mn hmod⟩ hs hi hu hv.2 hue.2 hm64;rw [<- ka hA hF.cl v u s hv.2 hue.2 hs] at h;refine h.mono ?_;rintro e w' ⟨a1,c1,rfl,hown,hb⟩;have hl : (bP (ah P k mod).ops v s u).length=m:=by rw [cA _ _ _ _ (by rw [hue.1,hv.1])];exact hv.1
 rw [hl] at hown ⊢;exact ⟨a1,c1,rfl,hown,hb⟩
theorem BP {P M : Int} {am : OA} {mn cm : Nat} {mod : Lz} (hB : bp P M mod=true) (x : Int) (w : World) (hmod : Ints w am mn mod) (hx : (ah P M.toNat mod).El x) (h0 : x ≠ 0) :
  Calls prog 116 #[.agg #[.int .i64 P,.int .i64 M,.slice am mn cm],.int .i64 x] w λe w'=>e = .returned (.int .i64 ((ah P M.toNat mod).ops.inv x))/\NS w w':=by
 obtain ⟨k,hk,hel,hq,hF,hA,_⟩:=fU hB;subst hk;obtain ⟨k',e2,hrf,hmods⟩:=eK (P:=P) (M:=(k : Int)) (mod:=mod) (by rw [da];exact hB);obtain rfl : k=k':=by omega
 rw [Jd] at hx ⊢;rw [<- hel] at hx;rw [hA.inv x hx h0];exact xR P k am mn cm mod x w ⟨hrf,hmods w am mn hmod⟩ hx
theorem zU {O : aS} {El : Int->Prop} (F : dw O El) {m : Nat} {v : Lz} (hv : Vc El m v) {s : Int} (hs : El s) : bP O (List.replicate m 0) s v=v.map (O.mul s):=by
 have hl : v.length=(List.replicate m (0 : Int)).length:=by simp [hv.1]
 refine KI (by rw [cA _ _ _ _ hl,Jl,JW,hv.1]) λi h1 h2=>?_;have hi : i<m:=by rw [cA _ _ _ _ hl,JW] at h1;exact h1
 have h3:=gK O (List.replicate m (0 : Int)) s v i hl (by simpa using hi);rw [ai h1] at h3;have h4 : nth (List.replicate m (0 : Int)) i=0:=by rw [ai (by simpa using hi)];simp
 rw [h3,Lx,<- ai (by rw [hv.1];exact hi),h4];by_cases h0 : nth v i=0
 ·rw [I6 h0,h0,F.et hs]
 ·rw [I5 h0,F.FT (F.cl.mul _ _ hs (hv.at hi))]
theorem vM {P M : Int} {am : OA} {mn cm : Nat} {mod : Lz} {m : Nat} (hB : bp P M mod=true) (hm64 : m<=64) (av : OA) (cv : Nat) (v : Lz) (w : World)
  (hmod : Ints w am mn mod) (hi : Ints w av m v) (hv : Vc (ah P M.toNat mod).El m v) (h0 : bK v ≠ 0) :
  Calls prog 52 #[.agg #[.int .i64 P,.int .i64 M,.slice am mn cm],.slice av m cv] w λe w'=>∃a1 c1,e = .returned (.slice a1 m c1)/\w'.ownsRow w.heap.size 3 1 (.slice a1 m c1) m ((ei (ah P M.toNat mod).ops v).map (Value.int .i64))/\NS w w':=by
 have F:=fq hB;obtain ⟨G,hG⟩ : ∃G,ah P M.toNat mod=G:=⟨_,rfl⟩
 obtain ⟨f,hf⟩ : ∃f,fY v=f:=⟨_,rfl⟩
 have hfl : f<m:=by rw [<- hf,<- hv.1];exact qk h0
 have hne : nth v f ≠ 0:=by rw [<- hf];exact iY v (by rw [hf,hv.1];exact hfl)
 have hel:=hv.at hfl;have hze : ∀j,j<f->nth v j=0:=λj hj=>jS v j (by rw [hf];exact hj);obtain ⟨x,hx⟩ : ∃x,nth v f=x:=⟨_,rfl⟩
 rw [hx] at hne hel;have Io : Hid (∀V,NS w V->Calls prog 116 #[.agg #[.int .i64 P,.int .i64 M,.slice am mn cm],.int .i64 x] V λe w'=>e = .returned (.int .i64 (G.ops.inv x))/\NS V w'):=λV hV=>by rw [<- hG];exact BP hB x V (hmod.aa hV) hel hne
 have hmo : ei G.ops v=bP G.ops (List.replicate m 0) (G.ops.inv x) v:=by have hie:=(jF F hel hne).1;rw [<- hG,zU F hv hie,ei,hf,hx]
 have HAdd : Hid (∀V a1 c1,NS w V->Ints V a1 m (List.replicate m 0)->Calls prog 115 #[.agg #[.int .i64 P,.int .i64 M,.slice am mn cm],.slice a1 m c1,.int .i64 (G.ops.inv x),.slice av m cv] V λe w'=>∃a1 c1,e = .returned (.slice a1 m c1)/\w'.ownsRow w.heap.size 3 1 (.slice a1 m c1) m ((ei G.ops v).map (Value.int .i64))/\NS V w'):=λV a1 c1 hV h1=>by have hie:=(jF F hel hne).1;rw [hmo,<- hG];refine (th hB (by omega) a1 c1 (List.replicate m 0) _ av cv v V (hmod.aa hV) h1 (hi.aa hV) ⟨by simp,λy hy=>by rw [KG hy];exact F.zero⟩ hie hv).mono ?_;rintro e w' ⟨a1,c1,rfl,h2,h3⟩;exact ⟨a1,c1,rfl,aU h2 hV.size,h3⟩
 rw [hG];have hpl:=hi.pl;have hmk:=run_mk (P:=prog) 22 3 (.int .i64 0) 8 underlying22 ba rfl m (by omega) (by omega);have Hmk:=Z5 hmk;have Hi:=Z5 hi;have Hze:=Z5 hze;have hb0 : (x == 0)=false:=by simpa using hne
 clear hmod hB F hG hf hel hze hmo hmk h0 hv;go_enter func52,ntmps52;go_wp2_with fail;obtain ⟨W,hW⟩ : ∃W : World,W=w.alloc (.cells #[.int .i64 P,.int .i64 M,.slice am mn cm] 24):=⟨_,rfl⟩
 rw [<- hW];have hbW : NS w W:=by rw [hW];exact aw _ _
 have x0 : aZ W w.heap.size [.int .i64 P,.int .i64 M,.slice am mn cm]:=by rw [hW];exact Nj _ _ _ rfl
 have HX:=Z5 x0;have HbW:=Z5 hbW;have HI:=Z5 (hi.aa hbW);clear hW x0 hi;go_loopw [5] (λiv wr=>∃k : Nat,k<=f/\iv = .int .i64 k/\wr=W) (λiv _=>f - (intOf iv).toNat);case atStart=>exact ⟨0,I7 _,rfl,by first | rfl | trivial⟩
 case round =>
  obtain ⟨k,hk,rfl,rfl⟩:=hrel
  by_cases hlt : k<f
  ·have ck:=HI.out.cell k (by omega)
   rw [Hze.out k hlt] at ck
   have hkm : (k : Int)<(m : Int):=by omega
   go_wp2_with fail
   go_roundw
   case rel=>exact ⟨k+1,by omega,by go_num,by first | rfl | trivial⟩
   case measure=>simp [intOf] <;> omega
  ·obtain rfl : f=k:=by omega
   have ck:=HI.out.cell f hfl
   rw [hx] at ck
   have hkm : (f : Int)<(m : Int):=by omega
   have HS : Hid (∀V,NS wr V->V.cell? ⟨w.heap.size,0,none⟩=some (.int .i64 P)/\V.cell? ⟨w.heap.size,1,none⟩=some (.int .i64 M)/\V.cell? ⟨w.heap.size,2,none⟩=some (.slice am mn cm)/\V.cell? ⟨aj av,aL av+f,none⟩=some (.int .i64 x)):=λV hV=>by have x1:=HX.out.aa hV;exact ⟨x1.cell 0 rfl,x1.cell 1 rfl,x1.cell 2 rfl,aB hV ck⟩
   have HZ : Hid (∀V : World,Ints (V.alloc (.cells (Array.replicate m (Value.int .i64 0)) 3)) (some ⟨V.heap.size,0,none⟩) m (List.replicate m 0)):=λV=>by have h1:=jO V 3 (.int .i64 0) m (g:=V.heap.size) (B:=V.heap.size) rfl (IZ _) (by unfold maxLen;omega);rw [show List.replicate m (Value.int .i64 0)=(List.replicate m (0 : Int)).map (Value.int .i64) by simp] at h1;exact (Ni h1).1
   have hmk:=Hmk.out
   obtain ⟨c0,c1,c2,c3⟩:=HS.out wr (I1 _ _)
   clear hne hx ck
   generalize wr=Y at *
   obtain ⟨Z,hZ⟩ : ∃Z : Obj,Z = .cells (Array.replicate m (Value.int .i64 0)) 3:=⟨_,rfl⟩
   rw [<- hZ] at HZ
   obtain ⟨d0,d1,d2,d3⟩:=HS.out _ (aw Y Z)
   rw [hZ] at d0 d1 d2 d3
   have HZe:=Z5 hZ
   have HbY:=HbW
   clear hZ
   go_upto_region 4 with fail
   go_region_law ((first
    | (go_simp;go_at_call 116;((with_reducible refine (Io.out _ (by first | exact HbW.out.drew | exact (Nh HbW.out (aw _ _)).drew)).mono ?_);rintro e w4 ⟨rfl,hb4⟩;have hbY4 : NS Y w4:=(by first | exact Nh (I1 _ _).drew hb4 | exact Nh (aw _ _).drew hb4);obtain ⟨e0,e1,e2,e3⟩:=HS.out w4 hbY4;obtain ⟨g0,g1,g2,g3⟩:=HS.out _ (Nh hbY4 (aw w4 (.cells (Array.replicate m (Value.int .i64 0)) 3)))))
    | (go_simp;go_at_call 115;((with_reducible refine (HAdd.out _ _ _ (by first | exact Nh HbW.out hbY4 | exact Nh HbW.out (Nh hbY4 (aw _ _)) | exact Nh HbW.out (Nh hbY4 (aw _ _).drew)) (by rw [HZe.out] at HZ;first | exact (HZ.out w4).aa (I1 _ _).drew | exact HZ.out w4 | exact (HZ.out Y).aa (Nh (I1 _ _).drew hb4))).mono ?_);rintro e w5 ⟨a5,c5,rfl,hI5,hb5⟩;have HI5:=Z5 hI5;clear hI5))))
   all_goals (
    have hF : NS w w5:=by first | exact Nh (Nh HbW.out hbY4) hb5 | exact Nh (Nh HbW.out (Nh hbY4 (aw _ _))) hb5 | exact Nh (Nh HbW.out (Nh hbY4 (aw _ _).drew)) hb5
    go_wp2_with fail
    go_ret
    exact ⟨a5,c5,rfl,HI5.out,hF⟩)
theorem C4 (a b : Nat) (w : World) (ha : a<=10000000) (hb : b<=10000000) :
  Calls prog 173 #[.int .i64 a,.int .i64 b] w λe w'=>e = .returned (.int .i64 ((Nat.gcd a b : Nat) : Int))/\NS w w':=by
 obtain ⟨G,hG⟩ : ∃G,Nat.gcd a b=G:=⟨_,rfl⟩
 rw [hG];have HG:=Z5 hG;clear hG;go_enter func173,ntmps173;go_wp2_with fail;go_loopw [0,1] (λav bv wr=>∃x y : Nat,av = .int .i64 x/\bv = .int .i64 y/\x<=10000000/\y<=10000000/\Hid (Nat.gcd x y=G)/\NS w wr) (λ_ bv _=>(intOf bv).toNat);case atStart=>exact ⟨a,b,rfl,rfl,ha,hb,HG.out,I1 _ _⟩
 case round =>
  obtain ⟨x,y,rfl,rfl,hx,hy,hg,hbr⟩:=hrel
  generalize wr=V at *
  by_cases h0 : y=0
  ·subst h0
   have Hx : Hid (((x : Nat) : Int)=(G : Nat)):=by show _=_;rw [<- hg.out,Nat.gcd_zero_right]
   clear hg
   go_wp2_with fail
   go_ret
   exact ⟨aH Hx.out,hbr⟩
  ·have hy1 : ((y : Int) != 0)=true:=by simp;omega
   have hy0 : (y : Int) ≠ 0:=by omega
   have hyb : ((y : Int) == 0)=false:=by simp;omega
   have hr : (x : Int).tmod y=((x % y : Nat) : Int):=by rw [LO (by omega)];simp
   have hm : x % y<y:=LP x (by omega)
   have Hn : Hid (Nat.gcd y (x % y)=G):=by show _=_;rw [<- hg.out,Nat.gcd_comm x y,Nat.gcd_rec y x,Nat.gcd_comm (x % y) y]
   obtain ⟨r,hre⟩ : ∃r,x % y=r:=⟨_,rfl⟩
   rw [hre] at hr hm Hn
   have kr : wrap64 (r : Int)=r:=vS (by omega) (by omega)
   clear hg hre
   go_wp2_with fail
   go_quiet (fail)
   go_wp2_with fail
   go_roundw
   case rel=>exact ⟨y,r,rfl,rfl,hy,by omega,Hn.out,Nh hbr (Nq ⟨_,rfl⟩)⟩
   case measure=>simp [intOf] <;> omega
theorem ub (n k : Nat) (w : World) (hn : n<=64) (hk : k<=n) :
  Calls prog 107 #[.int .i64 n,.int .i64 k,.int .i64 65536] w λe w'=>e = .returned (.tuple #[.int .i64 (pz n k),.int .i64 (ph n k)])/\NS w w':=by
 obtain ⟨t,ht⟩ : ∃t : Nat,min k (n - k)=t:=⟨_,rfl⟩
 have htk : dp n k=dp n t:=by
  rcases Nat.le_total k (n - k) with h | h
  ·rw [<- ht,LF h]
  ·rw [<- ht,MV h];exact nF n k hk
 have hmin : min (k : Int) ((n : Int) - k)=t:=by omega
 have htn : t<=n:=by omega
 have hkn : decide (n<k)=false:=by simp;omega
 have hkn2 : decide ((n : Int)<(k : Int))=false:=by simp;omega
 have HcE : Hid (¬ dp n t<=65536->pz n k=0/\ph n k=8):=λh=>by unfold pz ph;rw [htk,I5 h,I5 h];exact ⟨rfl,rfl⟩
 have HcO : Hid (dp n t<=65536->pz n k=dp n t/\ph n k=0):=λh=>by unfold pz ph;rw [htk,I6 h,I6 h];exact ⟨rfl,rfl⟩
 clear htk ht;go_enter func107,ntmps107;go_upto_region 5 with fail;go_cut [1] (λv wx=>v = .int .i64 t/\wx=w);case first =>
  by_cases hm : (n : Int) - k<k
  ·have hmd : decide ((n : Int) - k<k)=true:=Jm hm
   have he : (n : Int) - k=t:=by omega
   go_wp2_with fail
   go_meet
   exact ⟨by first | exact congrArg (Value.int .i64) (by omega) | rfl | (simp [he]),rfl⟩
  ·have hmd : decide ((n : Int) - k<k)=false:=Jn hm
   have he : (k : Int)=t:=by omega
   go_wp2_with fail
   go_meet
   exact ⟨by first | exact congrArg (Value.int .i64) (by omega) | rfl | (simp [he]),rfl⟩
 obtain ⟨rfl,hw9⟩:=hcut;obtain rfl:=hw9.symm;clear hw9;go_wp2_with fail;go_loopw [8,9] (λov iv wr=>∃i : Nat,i<=t/\iv = .int .i64 ((i : Int)+1)/\ov = .int .i64 (dp (n - t+i) i : Nat)/\dp (n - t+i) i<=65536/\NS w wr) (λ_ iv _=>t+1 - (intOf iv).toNat);case atStart=>exact ⟨0,I7 _,rfl,by rw [iO];rfl,by rw [iO];omega,I1 _ _⟩
 case round =>
  obtain ⟨i,hi,rfl,rfl,hc,hb⟩:=hrel
  generalize wr=V at *
  by_cases hlt : i<t
  ·have habs : dp (n - t+i) i * (n - t+(i+1))=(i+1) * dp (n - t+(i+1)) (i+1):=by have h:=mQ (n - t+i) i;rw [<- KF,h,LM]
   have Hle : Hid (dp (n - t+(i+1)) (i+1)<=dp n t):=oL htn (t - (i+1)) (i+1) (by omega)
   obtain ⟨x,hx⟩ : ∃x,dp (n - t+i) i=x:=⟨_,rfl⟩
   rw [hx] at hc habs ⊢
   obtain ⟨y,hy⟩ : ∃y,n - t+(i+1)=y:=⟨_,rfl⟩
   have hye : ((n : Int) - (t : Int)+((i : Int)+1))=y:=by omega
   have hy64 : y<=65:=by omega
   rw [hy] at habs Hle
   have Hy:=Z5 hy
   obtain ⟨u,hu⟩ : ∃u,dp y (i+1)=u:=⟨_,rfl⟩
   have hu1 : 1<=u:=by rw [<- hu];exact j8 _ _ (by omega)
   rw [hu] at Hle habs
   have hx1 : 1<=x:=by rw [<- hx];exact j8 _ _ (by omega)
   obtain ⟨j,hj⟩ : ∃j,i+1=j:=⟨_,rfl⟩
   have hji : (i : Int)+1=j:=by omega
   rw [hj] at habs
   have hj1 : 1<=j:=by omega
   have hj64 : j<=64:=by omega
   obtain ⟨hb1,hau⟩:=Fu hj1 habs hx1
   have Hg:=Z5 (C4 x j V (by omega) (by omega))
   have hgp : 0<Nat.gcd x j:=L6 _ (by omega)
   have hgj : Nat.gcd x j<=j:=Nat.gcd_le_right _ (by omega)
   obtain ⟨g,hg⟩ : ∃g,Nat.gcd x j=g:=⟨_,rfl⟩
   rw [hg] at Hg hb1 hau hgp hgj
   have ha1:=K6 x g
   have ha2:=K6 j g
   have q1 : (j : Int).tdiv (g : Int)=((j / g : Nat) : Int):=by rw [JT (by omega)];simp
   have q2 : (x : Int).tdiv (g : Int)=((x / g : Nat) : Int):=by rw [JT (by omega)];simp
   obtain ⟨a,ha⟩ : ∃a,x / g=a:=⟨_,rfl⟩
   obtain ⟨b,hbb⟩ : ∃b,j / g=b:=⟨_,rfl⟩
   rw [ha] at hau q2 ha1
   rw [hbb] at hb1 hau q1 ha2
   have hv1:=K6 y b
   have q3 : (y : Int).tdiv (b : Int)=((y / b : Nat) : Int):=by rw [JT (by omega)];simp
   obtain ⟨v,hv⟩ : ∃v,y / b=v:=⟨_,rfl⟩
   rw [hv] at hau q3 hv1
   have hvp : 1<=v:=by
    rcases JS v with h | h
    ·rw [h,Nat.mul_zero] at hau;omega
    ·exact h
   have hdv:=div_lt_iff (most:=65536) (x:=(v : Int)) (o:=(a : Int)) (by omega) (by omega) (by omega)
   have q4 : (65536 : Int).tdiv (v : Int)=65536 / (v : Int):=JT (by omega)
   have hprod : (a : Int) * (v : Int)=(u : Int):=by rw [<- hau];simp
   obtain ⟨Q,hQ⟩ : ∃Q,(65536 : Int) / (v : Int)=Q:=⟨_,rfl⟩
   have hQ2 : 0<=Q/\Q<=65536:=by rw [<- hQ];have h1:=J6 (a:=(65536 : Int)) (v : Int) (by omega);have h2:=J5 (show (0 : Int)<=65536 by omega) (show (0 : Int)<=(v : Int) by omega);omega
   rw [hQ] at q4
   rw [q4,hprod] at hdv
   have g0 : (g : Int) ≠ 0:=by omega
   have g0b : ((g : Int) == 0)=false:=by simp;omega
   have b0 : (b : Int) ≠ 0:=by omega
   have b0b : ((b : Int) == 0)=false:=by simp;omega
   have v0 : (v : Int) ≠ 0:=by omega
   have v0b : ((v : Int) == 0)=false:=by simp;omega
   have k1 : wrap64 (b : Int)=b:=vS (by omega) (by omega)
   have k2 : wrap64 (v : Int)=v:=vS (by omega) (by omega)
   have k3 : wrap64 (a : Int)=a:=vS (by omega) (by omega)
   have k4 : wrap64 Q=Q:=vS hQ2.1 (by omega)
   have k5 : wrap64 (y : Int)=y:=vS (by omega) (by omega)
   have Hu:=Z5 hu
   have Hj:=Z5 hj
   have Hji:=Z5 hji
   rw [hji] at hye ⊢
   have d1 : decide (j<=t)=true:=by simp;omega
   have d1' : decide ((j : Int)<=(t : Int))=true:=by simp;omega
   have d2 : decide (x<=65536)=true:=by simp;omega
   have d2' : decide ((x : Int)<=65536)=true:=by simp;omega
   have kj : wrap64 ((j : Int)+1)=(j : Int)+1:=vS (by omega) (by omega)
   by_cases hbig : Q<(a : Int)
   ·have d3 : decide (Q<(a : Int))=true:=Jm hbig
    have h8:=hdv.1 hbig
    have HB:=Z5 (HcE.out λh=>by have:=Hle.out;omega)
    clear hx hy hu hj hg ha hbb hv habs hau hdv hQ hprod hbig h8 hb1 hgp hvp hu1 hx1 hj1 ha1 ha2 hv1 hji kj
    generalize (y : Int)=yI at *
    generalize (b : Int)=bI at *
    generalize (v : Int)=vI at *
    generalize (a : Int)=aI at *
    generalize (g : Int)=gI at *
    go_wp2_with fail
    refine Hg.out.mono ?_
    rintro e w5 ⟨rfl,hb5⟩
    have hb6:=Nh hb hb5
    go_wp2_with fail
    go_ret2
    exact ⟨cR HB.out.1.symm HB.out.2.symm,hb6⟩
   ·have d3 : decide (Q<(a : Int))=false:=Jn hbig
    have h8 : (u : Int)<=65536:=Int.not_lt.1 λh=>hbig (hdv.2 h)
    have hu65 : u<=65536:=by omega
    have k6 : wrap64 (u : Int)=u:=vS (by omega) (by omega)
    have Kj:=Z5 kj
    obtain ⟨uI,huI⟩ : ∃z : Int,(u : Int)=z:=⟨_,rfl⟩
    have HuI:=Z5 huI
    rw [huI] at hprod k6
    clear hx hy hu hj hg ha hbb hv habs hau hdv hQ hbig h8 hb1 hgp hvp hu1 hx1 hj1 ha1 ha2 hv1 hji kj huI
    generalize (y : Int)=yI at *
    generalize (b : Int)=bI at *
    generalize (v : Int)=vI at *
    generalize (a : Int)=aI at *
    generalize (g : Int)=gI at *
    go_wp2_with fail
    refine Hg.out.mono ?_
    rintro e w5 ⟨rfl,hb5⟩
    have hb6:=Nh hb hb5
    go_wp2_with fail
    go_roundw
    case rel=>exact ⟨i+1,by omega,by (try rw [Kj.out]);have:=Hji.out;congr 1;omega,by rw [Hy.out,Hu.out];have hq9:=HuI.out;rw [hq9];(try rw [k6]);(try rfl),by rw [Hy.out,Hu.out];exact hu65,hb6⟩
    case measure=>have:=Hj.out;(try rw [Kj.out]);simp [intOf] <;> omega
  ·obtain rfl : i=t:=by omega
   have d1 : decide ((i : Int)+1<=(i : Int))=false:=by simp;omega
   rw [show n - i+i=n by omega] at hc ⊢
   have Hb:=Z5 (HcO.out hc)
   have d2 : decide (65536<dp n i)=false:=by simp;omega
   have d2' : decide ((65536 : Int)<((dp n i : Nat) : Int))=false:=by simp;omega
   generalize dp n i=z at *
   go_wp2_with fail
   go_ret2
   exact ⟨cR Hb.out.1.symm Hb.out.2.symm,hb⟩
theorem zm (most : Int) (a : OA) (n c : Nat) (l : Lz) (w : World) (hm : 0<=most/\most<=65536) (hi : Ints w a n l) (hl : ∀x ∈ l,1<=x/\x<=65536) :
  Calls prog 109 #[.int .i64 most,.slice a n c] w λe w'=>e = .returned (.tuple #[.int .i64 (pr most l),.int .i64 (nV most l)])/\w=w':=by
 have hlen:=hi.len;have hpl:=hi.pl;have hmax:=hi.max;unfold maxLen at hmax;have hx1 : ∀k,k<n->1<=nth l k/\nth l k<=65536:=λk hk=>hl _ (aK (by omega));have Hx1:=Z5 hx1;have H1:=Z5 (λx hx=>(hl x hx).1);have Hlen:=Z5 hlen;have Hb : Hid (∀k,k<=n->most<bF l k->pr most l=0/\nV most l=8):=λk hk hb=>by have h1:=la H1.out k (n - k) (by omega);rw [show k+(n - k)=l.length by omega] at h1;unfold pr nV;rw [I5 (by omega),I5 (by omega)];exact ⟨rfl,rfl⟩
 have Hg : Hid (bF l n<=most->pr most l=bF l n/\nV most l=0):=λh=>by unfold pr nV;rw [hlen,I6 h,I6 h];exact ⟨rfl,rfl⟩
 have dm : decide (most<0)=false:=Jn (by omega);clear hx1 hl hlen;go_enter func109,ntmps109;go_wp2_with fail;go_loop [6,7] (λzv iv=>∃k : Nat,k<=n/\iv = .int .i64 k/\zv = .bool false) (λ_ iv=>n - (intOf iv).toNat);case atStart=>exact ⟨0,I7 _,rfl,rfl⟩
 case round =>
  obtain ⟨k,hk,rfl,rfl⟩:=hrel
  by_cases hlt : k<n
  ·have ck:=hi.cell k hlt
   have hx:=Hx1.out k hlt
   have e1 : decide (nth l k<0)=false:=Jn (by omega)
   have e2 : (nth l k == 0)=false:=by simp;omega
   generalize nth l k=x at *
   go_wp2_with fail
   go_round
   case rel=>exact ⟨k+1,by omega,by go_num,rfl⟩
   case measure=>simp [intOf] <;> omega
  ·obtain rfl : n=k:=by omega
   go_wp2_with fail
   go_loop [8,9] (λov iv=>∃k : Nat,k<=n/\iv = .int .i64 k/\ov = .int .i64 (bF l k)/\1<=bF l k/\bF l k<=65536) (λ_ iv=>n - (intOf iv).toNat)
   case atStart=>exact ⟨0,I7 _,rfl,rfl,by simp [bF],by simp [bF]⟩
   case round =>
    obtain ⟨k,hk,rfl,rfl,hp1,hp2⟩:=hrel
    by_cases hlt : k<n
    ·have ck:=hi.cell k hlt
     have hx:=Hx1.out k hlt
     have Hst : Hid (bF l (k+1)=bF l k * nth l k):=rfl
     obtain ⟨o,ho⟩ : ∃o,bF l k=o:=⟨_,rfl⟩
     obtain ⟨x,hxe⟩ : ∃x,nth l k=x:=⟨_,rfl⟩
     rw [ho] at hp1 hp2 Hst ⊢
     rw [hxe] at hx Hst ck
     have hdv:=div_lt_iff (most:=most) (x:=x) (o:=o) hx.1 (by omega) hm.1
     have htd : most.tdiv x=most / x:=JT hm.1
     obtain ⟨Q,hQ⟩ : ∃Q,most / x=Q:=⟨_,rfl⟩
     obtain ⟨P2,hP2⟩ : ∃P2,o * x=P2:=⟨_,rfl⟩
     have hQ2 : 0<=Q/\Q<=65536:=by rw [<- hQ];have h1:=J6 (a:=most) x hm.1;have h2:=J5 hm.1 (show 0<=x by omega);omega
     have hx0 : x ≠ 0:=by omega
     have hxb : (x == 0)=false:=by simpa using hx0
     rw [hQ] at htd
     rw [htd,hP2] at hdv
     rw [hP2] at Hst
     have kQ : wrap64 Q=Q:=vS hQ2.1 (by omega)
     clear ho hxe
     by_cases hbig : Q<o
     ·have d1 : decide (Q<o)=true:=Jm hbig
      have HB:=Z5 (Hb.out (k+1) (by omega) (by rw [Hst.out];exact hdv.1 hbig))
      clear hdv hP2 hbig
      go_wp2_with fail
      go_ret2
      exact ⟨cR HB.out.1.symm HB.out.2.symm,rfl⟩
     ·have d1 : decide (Q<o)=false:=Jn hbig
      have hP3 : P2<=most:=Int.not_lt.1 λh=>hbig (hdv.2 h)
      have hP4 : 1<=P2:=by have:=Ka hp1 hx.1 (by omega) (by omega);omega
      have kP : wrap64 P2=P2:=vS (by omega) (by omega)
      clear hdv hbig
      go_wp2_with fail
      go_round
      case rel=>exact ⟨k+1,by omega,by go_num,by rw [Hst.out],by rw [Hst.out];exact hP4,by rw [Hst.out];omega⟩
      case measure=>simp [intOf] <;> omega
    ·obtain rfl : k=n:=by omega
     by_cases hbig : most<bF l k
     ·have HB:=Z5 (Hb.out k (IZ _) hbig)
      obtain ⟨o,ho⟩ : ∃o,bF l k=o:=⟨_,rfl⟩
      rw [ho] at hbig ⊢
      have d1 : decide (most<o)=true:=Jm hbig
      clear ho hbig
      go_wp2_with fail
      go_ret2
      exact ⟨cR HB.out.1.symm HB.out.2.symm,rfl⟩
     ·have HB:=Z5 (Hg.out (by omega))
      obtain ⟨o,ho⟩ : ∃o,bF l k=o:=⟨_,rfl⟩
      rw [ho] at hbig HB ⊢
      have d1 : decide (most<o)=false:=Jn hbig
      clear ho hbig
      go_wp2_with fail
      go_ret2
      exact ⟨cR HB.out.1.symm HB.out.2.symm,rfl⟩
theorem Cj (n : Nat) (w : World) (hn : n<=1000000) :
  Calls prog 108 #[.int .i64 1,.int .i64 n,.int .i64 65536] w λe w'=>e = .returned (.tuple #[.int .i64 1,.int .i64 0])/\w=w':=by
 go_enter func108,ntmps108;go_wp2_with fail;go_loop [8,9] (λqv nv=>qv = .int .i64 1/\nv = .int .i64 0) (λ_ _=>0);case atStart=>exact ⟨rfl,rfl⟩
 case round =>
  obtain ⟨rfl,rfl⟩:=hrel
  rcases JS n with h0 | h0
  ·subst h0
   go_wp2_with fail
   go_ret2
   exact ⟨rfl,rfl⟩
  ·have d1 : decide ((0 : Int)<(n : Int))=true:=by simp;omega
   have d1' : decide (0<n)=true:=by simp;omega
   go_wp2_with fail
   go_ret2
   exact ⟨rfl,rfl⟩
theorem BU (q : Nat) (n : Nat) (w : World) (h1 : 1<=q) (h256 : q<=256) (hn : n<=1000000) :
  Calls prog 108 #[.int .i64 q,.int .i64 n,.int .i64 65536] w λe w'=>e = .returned (.tuple #[.int .i64 (lQ q n),.int .i64 (lO q n)])/\w=w':=by
 by_cases h : q=1
 ·subst h;have e1 : lQ ((1 : Nat) : Int) n=1:=by simp [lQ,Mv]
  have e2 : lO ((1 : Nat) : Int) n=0:=by simp [lO,Mv]
  rw [e1,e2];exact Cj n w hn
 ·exact xg q n w (by omega) (by omega) hn
theorem vf (q n s k W : Nat) (w : World) (hq : 2<=q) (hq2 : q<=256) (hn : n<=64) (hW : 1<=W) (hWn : W<=n) (hs1 : 1<=s) (hs64 : s<=64) (hk : k<=65536) :
  Calls prog 49 #[.int .i64 q,.int .i64 n,.int .i64 s,.int .i64 W,.int .i64 (65536 - (k : Int))] w λe w'=>e = .returned (.tuple #[.int .i64 (if iH q n s k W=true then (kD q n s W : Int) else 0),.int .i64 (if iH q n s k W=true then 0 else 8)])/\NS w w':=by
 obtain ⟨V,rfl⟩ : ∃V,W=V+1:=⟨W - 1,by omega⟩
 obtain ⟨q1,rfl⟩ : ∃q1,q=q1+1:=⟨q - 1,by omega⟩
 have hmB : iH (q1+1) n s k (V+1)=(decide (dp n (V+1)<=65536) && decide (q1 ^ V<=65536) && decide (s * (dp n (V+1) * q1 ^ V)<=65536 - k)):=by unfold iH kD;rw [JU,JU]
 have hrN : kD (q1+1) n s (V+1)=s * (dp n (V+1) * q1 ^ V):=by unfold kD;rw [JU,JU]
 rw [hmB,hrN];have hC1 : 1<=dp n (V+1):=j8 _ _ hWn;have hP1 : 1<=q1 ^ V:=M5 (by omega);have Hcho:=Z5 (λV2 : World=>ub n (V+1) V2 hn hWn);have Hexp:=Z5 (λV2 : World=>BU q1 V V2 (by omega) (by omega) (by omega));have hcp : ((q1 : Int) ^ V)=((q1 ^ V : Nat) : Int):=by simp
 obtain ⟨C,hC⟩ : ∃C,dp n (V+1)=C:=⟨_,rfl⟩
 obtain ⟨Pw,hPw⟩ : ∃Pw,q1 ^ V=Pw:=⟨_,rfl⟩
 unfold pz ph at Hcho;unfold lQ lO at Hexp;rw [hcp,hPw] at Hexp;rw [hC] at Hcho hC1 ⊢;rw [hPw] at hP1 ⊢;have hVW : ((V+1 : Nat) : Int)=(V : Int)+1:=by omega
 rw [hVW] at Hcho;rw [hVW,show ((q1+1 : Nat) : Int)=(q1 : Int)+1 by omega];have kq : wrap64 (q1 : Int)=q1:=vS (by omega) (by omega);have kV : wrap64 (V : Int)=V:=vS (by omega) (by omega);obtain ⟨rv,hrv⟩ : ∃rv : Int,(if (decide (C<=65536) && decide (Pw<=65536) && decide (s * (C * Pw)<=65536 - k))=true then ((s * (C * Pw) : Nat) : Int) else 0)=rv:=⟨_,rfl⟩
 obtain ⟨re,hre⟩ : ∃re : Int,(if (decide (C<=65536) && decide (Pw<=65536) && decide (s * (C * Pw)<=65536 - k))=true then (0 : Int) else 8)=re:=⟨_,rfl⟩
 rw [hrv,hre];have HV:=Z5 (Jg hrv hre);clear hmB hrN hcp hC hPw hrv hre;go_enter func49,ntmps49;by_cases hCb : C<=65536;rotate_left
 ·have hd : (decide (C<=65536) && decide (Pw<=65536) && decide (s * (C * Pw)<=65536 - k))=false:=by rw [Jn hCb];rfl
  have HV2 : Hid (0=rv/\8=re):=by show _/\_;rw [<- HV.out.1,<- HV.out.2,hd];exact ⟨rfl,rfl⟩
  rw [I5 (by omega),I5 (by omega)] at Hcho;have Hc2:=Z5 (Hcho.out w);clear Hcho hCb hd;go_wp2_with fail;refine Hc2.out.mono ?_;rintro e w1 ⟨rfl,hb1⟩;go_wp2_with fail;go_ret2;exact ⟨cR HV2.out.1 HV2.out.2,hb1⟩
 rw [I6 (by omega),I6 (by omega)] at Hcho;have Hc2:=Z5 (Hcho.out w);clear Hcho;go_wp2_with fail;refine Hc2.out.mono ?_;rintro e w1 ⟨rfl,hb1⟩;have He1:=Z5 (Hexp.out w1);clear Hc2 Hexp;by_cases hPb : Pw<=65536;rotate_left
 ·have hd : (decide (C<=65536) && decide (Pw<=65536) && decide (s * (C * Pw)<=65536 - k))=false:=by rw [Jn hPb,Lo,Nd]
  have HV2 : Hid (0=rv/\8=re):=by show _/\_;rw [<- HV.out.1,<- HV.out.2,hd];exact ⟨rfl,rfl⟩
  rw [I5 (by omega),I5 (by omega)] at He1;clear hPb hd;go_wp2_with fail;refine He1.out.mono ?_;rintro e w' ⟨rfl,rfl⟩;go_wp2_with fail;go_ret2;exact ⟨cR HV2.out.1 HV2.out.2,hb1⟩
 rw [I6 (by omega),I6 (by omega)] at He1;have hpr : bF [(s : Int),(C : Int),(Pw : Int)] 3=((s * (C * Pw) : Nat) : Int):=by simp only [bF,nth];simp [J1]
 have HPr : Hid (∀V2 a3 c3,Ints V2 a3 3 [(s : Int),(C : Int),(Pw : Int)]->Calls prog 109 #[.int .i64 (65536 - (k : Int)),.slice a3 3 c3] V2 λe w'=>e = .returned (.tuple #[.int .i64 (if (decide (C<=65536) && decide (Pw<=65536) && decide (s * (C * Pw)<=65536 - k))=true then ((s * (C * Pw) : Nat) : Int) else 0),.int .i64 (if (decide (C<=65536) && decide (Pw<=65536) && decide (s * (C * Pw)<=65536 - k))=true then 0 else 8)])/\V2=w'):=λV2 a3 c3 h3=>by
  refine (zm (65536 - (k : Int)) a3 3 c3 [(s : Int),(C : Int),(Pw : Int)] V2 (by omega) h3 λx hx=>?_).mono ?_
  ·simp at hx;rcases hx with rfl | rfl | rfl <;> omega
  ·rintro e w' ⟨rfl,rfl⟩;refine ⟨?_,rfl⟩;unfold pr nV;show Ending.returned (.tuple #[.int .i64 (if bF [(s : Int),(C : Int),(Pw : Int)] 3<=65536 - (k : Int) then bF [(s : Int),(C : Int),(Pw : Int)] 3 else 0),.int .i64 (if bF [(s : Int),(C : Int),(Pw : Int)] 3<=65536 - (k : Int) then (0 : Int) else 8)])=_;rw [hpr,Jm hCb,Jm hPb,Bool.and_self,Ku];by_cases hz : s * (C * Pw)<=65536 - k
   ·rw [I6 (by omega),I6 (by omega),I6 (Jm hz),I6 (Jm hz)]
   ·rw [I5 (by omega),I5 (by omega),I5 (by simpa using hz),I5 (by simpa using hz)]
 clear hpr;rw [HV.out.1,HV.out.2] at HPr;clear hCb hPb hC1 hP1;go_wp2_with fail;refine He1.out.mono ?_;rintro e w' ⟨rfl,rfl⟩;have hb2:=aw w1 (.cells #[.int .i64 (s : Int),.int .i64 (C : Int),.int .i64 (Pw : Int)] 3);have Hp2:=Z5 (HPr.out _ (some ⟨w1.heap.size,0,none⟩) 3 (mF w1 (s : Int) (C : Int) (Pw : Int) 3 rfl));have hF:=Nh hb1 hb2;clear HPr;go_wp2_with fail;refine Hp2.out.mono ?_;rintro e w' ⟨rfl,rfl⟩;go_wp2_with fail;go_ret2;exact ⟨rfl,hF⟩
def IG (ce N : Int) (w : World) (e : Ending) (w' : World) : Prop:=∃z : Bool,e = .returned (.bool z)/\(z=true->ce=0->N<=14)/\NS w w'
theorem vA (P M : Int) (am : OA) (mn cm : Nat) (mod : Lz) (N : Int) (a : OA) (n c : Nat) (L : Ll) (w : World) (hmod : Ints w am mn mod) (hi : ch w a n L) :
  Calls prog 13 #[.agg #[.int .i64 P,.int .i64 M,.slice am mn cm,.int .i64 N,.slice a n c]] w (IG (aJ P M mod N L) N w):=by
 have HF1 : Hid (∀V,NS w V->Calls prog 28 #[.agg #[.int .i64 P,.int .i64 M,.slice am mn cm,.int .i64 N,.slice a n c],.int .i64 200] V (nm V)):=λV hV=>qe P M am mn cm N a n c 200 L V (hi.aa hV) (by omega);have HF2 : Hid (∀V,NS w V->Calls prog 28 #[.agg #[.int .i64 P,.int .i64 M,.slice am mn cm,.int .i64 N,.slice a n c],.int .i64 100] V (nm V)):=λV hV=>qe P M am mn cm N a n c 100 L V (hi.aa hV) (by omega);have HCk : Hid (∀V,NS w V->Calls prog 22 #[.agg #[.int .i64 P,.int .i64 M,.slice am mn cm,.int .i64 N,.slice a n c]] V λe w'=>e = .returned (.int .i64 (aJ P M mod N L))/\NS V w'):=λV hV=>gH P M am mn cm mod N a n c L V (hmod.aa hV) (hi.aa hV);have HCn : Hid (∀V,NS w V->Calls prog 21 #[.agg #[.int .i64 P,.int .i64 M,.slice am mn cm,.int .i64 N,.slice a n c],.int .i64 1000] V λe w'=>e = .returned (.int .i64 (Cv 1000 P M mod N L))/\NS V w'):=λV hV=>o8 1000 P M am mn cm mod N a n c L V (hmod.aa hV) (hi.aa hV);have HOr : Hid (∀V,Calls prog 45 #[.agg #[.int .i64 P,.int .i64 M,.slice am mn cm]] V λe w'=>e = .returned (.int .i64 (aN P M))/\NS V w'):=λV=>fW P M am mn cm V;generalize aN P M=q at *;generalize Cv 1000 P M mod N L=cn at *;generalize aJ P M mod N L=ce at *;clear hi hmod;go_enter func13,ntmps13;go_upto_region 1 with fail;obtain ⟨W,hW⟩ : ∃W : World,W=w.alloc (.cells #[.int .i64 P,.int .i64 M,.slice am mn cm,.int .i64 N,.slice a n c] 27):=⟨_,rfl⟩
 rw [<- hW];have hbW : NS w W:=by rw [hW];exact aw _ _
 have x0 : aZ W w.heap.size [.int .i64 P,.int .i64 M,.slice am mn cm,.int .i64 N,.slice a n c]:=by rw [hW];exact Nj _ _ _ rfl
 have HS : Hid (∀V,NS W V->V.cell? ⟨w.heap.size,0,none⟩=some (.int .i64 P)/\V.cell? ⟨w.heap.size,1,none⟩=some (.int .i64 M)/\V.cell? ⟨w.heap.size,2,none⟩=some (.slice am mn cm)/\V.cell? ⟨w.heap.size,3,none⟩=some (.int .i64 N)/\V.cell? ⟨w.heap.size,4,none⟩=some (.slice a n c)):=λV hV=>by have x1:=x0.aa hV;exact ⟨x1.cell 0 rfl,x1.cell 1 rfl,x1.cell 2 rfl,x1.cell 3 rfl,x1.cell 4 rfl⟩
 have HbW:=Z5 hbW;clear hW x0 hbW;obtain ⟨c0,c1,c2,c3,c4⟩:=HS.out W (I1 _ _);go_wp2_with fail;refine (HCk.out W HbW.out).mono ?_;rintro e w1 ⟨rfl,hb1⟩;clear c0 c1 c2 c3 c4;obtain ⟨c0,c1,c2,c3,c4⟩:=HS.out w1 hb1;have hF1:=Nh HbW.out hb1;by_cases hE : ce=0;rotate_left
 ·have d0 : (ce != 0)=true:=by simpa using hE
  have HE:=Z5 hE;clear hE;go_wp2_with fail;refine (HF1.out w1 hF1).mono ?_;rintro e w2 ⟨z,rfl,hb2⟩;have hF:=Nh hF1 hb2;go_wp2_with fail;go_ret;exact ⟨_,rfl,λ_ h=>absurd h HE.out,hF⟩
 have d0 : (ce != 0)=false:=by simpa using hE
 clear hE;go_wp2_with fail;refine (HF2.out w1 hF1).mono ?_;rintro e w2 ⟨z,rfl,hb2⟩;have hB2:=Nh hb1 hb2;have hF2:=Nh HbW.out hB2;clear c0 c1 c2 c3 c4;obtain ⟨c0,c1,c2,c3,c4⟩:=HS.out w2 hB2;cases z
 ·go_wp2_with fail;go_ret;exact ⟨_,rfl,λh=>(by cases h),hF2⟩
 by_cases h1 : N<=14;rotate_left
 ·have d1 : decide (N<=14)=false:=by simpa using h1
  clear h1;go_wp2_with fail;go_ret;exact ⟨_,rfl,λh=>(by cases h),hF2⟩
 have d1 : decide (N<=14)=true:=by simpa using h1
 have H14:=Z5 h1;clear h1;go_wp2_with fail;refine (HCn.out w2 hF2).mono ?_;rintro e w3 ⟨rfl,hb3⟩;have hB3:=Nh hB2 hb3;have hF3:=Nh HbW.out hB3;clear c0 c1 c2 c3 c4;obtain ⟨c0,c1,c2,c3,c4⟩:=HS.out w3 hB3;by_cases h2 : 0<cn
 ·have d2 : decide (0<cn)=true:=by simpa using h2
  have d2' : decide (cn > 0)=true:=by simpa using h2
  clear h2;go_wp2_with fail;go_ret;exact ⟨_,rfl,λ_ _=>H14.out,hF3⟩
 have d2 : decide (0<cn)=false:=by simpa using h2
 have d2' : decide (cn > 0)=false:=by simpa using h2
 clear h2;by_cases h3 : n=3;rotate_left
 ·have d3 : ((n : Int) == 3)=false:=by simp;omega
  clear h3;go_wp2_with fail;go_ret;exact ⟨_,rfl,λ_ _=>H14.out,hF3⟩
 have d3 : ((n : Int) == 3)=true:=by simp;omega
 clear h3;by_cases h4 : N<=6;rotate_left
 ·have d4 : decide (N<=6)=false:=by simpa using h4
  clear h4;go_wp2_with fail;go_ret;exact ⟨_,rfl,λ_ _=>H14.out,hF3⟩
 have d4 : decide (N<=6)=true:=by simpa using h4
 clear h4;go_wp2_with fail;refine (HOr.out w3).mono ?_;rintro e w4 ⟨rfl,hb4⟩;have hF4:=Nh hF3 hb4;go_wp2_with fail;go_ret;exact ⟨_,rfl,λ_ _=>H14.out,hF4⟩
section
variable {P M : Int} {mod : Lz} {m : Nat} {L : Ll}
theorem FX (hE : aJ P M mod m L=0) (hk : 1<=L.length) : df P M mod m L=([],[],8)\/∃o b,df P M mod m L=(o,b,0)/\rh P M mod m L b/\(∀x,CW P M mod m L x->qp b (ei (ah P M.toNat mod).ops x))/\(∀r ∈ o,AT P M mod m L r)/\1<=o.length:=by
 obtain ⟨N',e,hm1,hm64,F,hR⟩:=br hE;obtain rfl : m=N':=by omega
 have hkm:=vF hE;obtain ⟨⟨o,b,er⟩,hr⟩ : ∃r,df P M mod m L=r:=⟨_,rfl⟩
 have hr2:=hr;unfold df at hr2;rw [I5 (by rw [hE];decide),I5 (by omega),Jd] at hr2;rcases DQ hE hk (by omega) L.length 0 [] 0 [] (by omega) (.inl ⟨rfl,rfl⟩) (λx hx ht=>by obtain ⟨t,ht,h0⟩:=ht;have hc:=dQ (eH hE).1 t ht;exact absurd (Nat.le_zero.1 h0) (Az hE hc.1 hc.2.1 hx)) (by simp) hr2 with ⟨rfl,rfl,rfl⟩ | ⟨rfl,h2,h3,h4,h5⟩
 ·exact .inl hr
 ·refine .inr ⟨o,b,hr,h2,h3,h4,?_⟩;rw [I5 (by omega)] at h5;simpa using h5
end
end Go.Proofs.YtcfmiocdlcapoaaGreat
