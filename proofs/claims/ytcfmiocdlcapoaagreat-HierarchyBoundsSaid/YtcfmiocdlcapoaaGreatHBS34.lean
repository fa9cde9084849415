import Derived.Test.YtcfmiocdlcapoaaGreatHBS33
import Derived.OwnWalk
namespace Go.Proofs.YtcfmiocdlcapoaaGreat
set_option linter.all false
set_option maxRecDepth 100000
set_option maxHeartbeats 16000000
open Go.RowKit Go.Proofs.Tryz
theorem Io : (prog.info? 25).map (λi=>(i.zero,i.size,i.bytes))=some (some (.slice none 0 0),1,24):=by kernel_rfl
theorem H5 {P M : Int} {mod : Lz} {m : Nat} {L : ZZ} (hE : aH P M mod m L=0) {Q : Lz} (hQ : bG m Q=true) (hB : yp (aa P M.toNat mod).ops L Q=true) : oY P M mod m L Q=0:=by
 have hr : eT P M mod m L Q=0:=by rw [eT,Mg hE,mH,Mg hQ]
 unfold oY;rw [Mh (by rw [hr];decide),KN hr,Mg hB]
theorem C0 (r : Lz) : ∀l,AO (l ++ [r])=AO l ++ [.int .i64 (nth r 0),.int .i64 (nth r 1),.int .i64 (nth r 2),.int .i64 (nth r 3)]
 | []=>rfl
 | x :: l=>by rw [Np,AO,C0 r l];rfl
theorem Ed {Y Z0 w6 : World} {g b : Nat} {P M : Int} {am : OA} {mn cm : Nat} {N : Int} {a : OA} {n c : Nat} {ag : OA} {ng cg : Nat} {ab : OA} {cb : Nat} {B : Lz} {kk : Nat} {ao a5 : OA} {co k B0 s : Nat} {e : TypeId} {xs : List Value}
  (hs : wE (λx=>x=g\/(ao ≠ none/\x=an ao)) Y g b P M am mn cm N a n c ag ng cg ab cb B kk) (ho : Y.ownsRow B0 e s (.slice ao k co) k xs) (hB : g<B0) (hb0 : Rs Y Z0) (hg : Z0.grownBy w6 (Value.slice ao k co).ownBlock) (hap : ∀b,b<Z0.heap.size->cF ao b->cF a5 b) :
  wE (λx=>x=g\/(a5 ≠ none/\x=an a5)) w6 g b P M am mn cm N a n c ag ng cg ab cb B kk/\aw Y w6 (λx=>x=g\/B0<=x) (λx=>x=g\/B0<=x):=by
 have hsz:=hb0.size;have hgl:=hs.box.1;have hapg : cF ao g:=by
  by_cases h1 : ao=none
  ·exact .inl h1
  ·exact .inr λe=>by have:=(ku ho h1).1;omega
 have hapb : 0<B.length->cF ao (an ab):=λhn=>by
  by_cases h1 : ao=none
  ·exact .inl h1
  ·exact .inr λe=>hs.best.lo hn (.inr ⟨h1,e.symm⟩)
 have hx:=hs.box.ah hb0;have hb9 : w6.heap[g]? = Z0.heap[g]?:=hg.block g (by omega) λe=>hapg.own _ _ e.symm;refine ⟨⟨⟨ME hx.1 hg.size,λj v hv=>(MI (w:=Z0) (a:=⟨g,j,none⟩) hb9).trans (hx.2.1 j v hv),λj=>(MD (w:=Z0) (a:=⟨g,j,none⟩) hb9).trans (hx.2.2 j)⟩,
  ⟨(hs.best.ints.ah hb0).oN hg hapb,λhn h=>?_⟩⟩,(QU hb0 _).trans (QZ hg λh1=>.inr (ku ho h1).1)⟩
 rcases h with h | ⟨h1,h2⟩
 ·exact hs.best.lo hn (.inl h)
 ·rcases hap _ (by have:=hs.best.ints.lt hn;omega) (hapb hn) with h3 | h3
  ·exact h1 h3
  ·exact h3 h2.symm
def iw (P M : Int) (mod : Lz) (N : Int) (L : ZZ) : ZZ × Lz × Int :=
 if aH P M mod N L ≠ 0 then ([],[],aH P M mod N L) else if L.length=0 then ([],[],11) else
  DP (aa P M.toNat mod).ops (aa P M.toNat mod).q N.toNat L.length (kS P M mod N.toNat L) ((gN (aa P M.toNat mod).ops L N.toNat).map (·.2)) L.length 1 [] 0 []
def nY (P M : Int) (mod : Lz) (N : Int) (L : ZZ) (w : World) (e : Ending) (w' : World) : Prop :=
 Rs w w'/\∃ar nr cr ab nb cb,e = .returned (.tuple #[.slice ar nr cr,.slice ab nb cb,.int .i64 (iw P M mod N L).2.2])/\yF w' ar nr (iw P M mod N L).1/\Ints w' ab nb (iw P M mod N L).2.1
theorem Bx {P M : Int} {mod : Lz} {N : Int} {L : ZZ} {w w' : World} {er : Int} (hR : iw P M mod N L=([],[],er)) (hF : Rs w w') : nY P M mod N L w (.returned (.tuple #[.slice none 0 0,.slice none 0 0,.int .i64 er])) w':=by
 refine ⟨hF,none,0,0,none,0,0,by rw [hR],?_,?_⟩
 ·rw [hR];exact yF.nil _ _
 ·rw [hR];exact QX _ _
theorem Im {P M : Int} {mod : Lz} {N : Int} {L : ZZ} {w Z Z' : World} {o : ZZ} {B : Lz} {k B0 co cb : Nat} {e : TypeId} {ao ab : OA} (hR : iw P M mod N L=(o,B,0)) (hF : Rs w Z)
  (hk : o.length=k) (ho : Z.ownsRow B0 e 4 (.slice ao k co) k (AO o)) (hb : Ints Z ab B.length B) (hd : Rs Z Z') : nY P M mod N L w (.returned (.tuple #[.slice ao k co,.slice ab B.length cb,.int .i64 0])) Z':=by
 refine ⟨QQ hF hd,ao,k,co,ab,B.length,cb,by rw [hR],?_,?_⟩
 ·rw [hR];exact yF.own (pT ho λh1=>hd.block _ (ku ho h1).2) hk
 ·rw [hR];exact hb.ah hd
theorem Jd (P M : Int) (am : OA) (mn cm : Nat) (mod : Lz) (N : Int) (a : OA) (n c : Nat) (L : ZZ) (w : World) (hmod : Ints w am mn mod) (hi : cU w a n L) :
  Calls prog 47 #[.agg #[.int .i64 P,.int .i64 M,.slice am mn cm,.int .i64 N,.slice a n c]] w (nY P M mod N L w):=by
 have HCk : Hid (∀V,Rs w V->Calls prog 61 #[.agg #[.int .i64 P,.int .i64 M,.slice am mn cm,.int .i64 N,.slice a n c]] V λe w'=>e = .returned (.int .i64 (aH P M mod N L))/\Rs V w'):=λV hV=>ez P M am mn cm mod N a n c L V (hmod.ah hV) (hi.ah hV);have HNw0 : Hid (bQ P M mod=true->∀V,Rs w V->Calls prog 86 #[.agg #[.int .i64 P,.int .i64 M,.slice am mn cm]] V λe w'=>∃b,e = .returned (.tuple #[.pointer (some ⟨b,0,none⟩),.int .i64 0])/\dW w' b (aa P M.toNat mod)/\Rs V w'):=λhfB V hV=>by
  refine (fX P M am mn cm mod V (hmod.ah hV)).mono ?_;rintro e w' (⟨h1,_⟩ | ⟨_,b,h2,h3,_,h4⟩)
  ·rw [hfB] at h1;cases h1
  ·exact ⟨b,h2,h3.gf,h4⟩
 have Hln:=Z5 hi.len;have Hmi:=Z5 (My hmod hi);clear hmod hi;go_enter func47,ntmps47;go_upto_region 1 with fail;obtain ⟨W,hW⟩ : ∃W : World,W=w.alloc (.cells #[.int .i64 P,.int .i64 M,.slice am mn cm,.int .i64 N,.slice a n c] 27):=⟨_,rfl⟩
 rw [<- hW];have hbW : Rs w W:=by rw [hW];exact aB _ _
 have x0 : bf W w.heap.size [.int .i64 P,.int .i64 M,.slice am mn cm,.int .i64 N,.slice a n c]:=by rw [hW];exact QS _ _ _ rfl
 have HS : Hid (∀V,Rs W V->V.cell? ⟨w.heap.size,0,none⟩=some (.int .i64 P)/\V.cell? ⟨w.heap.size,1,none⟩=some (.int .i64 M)/\V.cell? ⟨w.heap.size,2,none⟩=some (.slice am mn cm)/\V.cell? ⟨w.heap.size,3,none⟩=some (.int .i64 N)/\V.cell? ⟨w.heap.size,4,none⟩=some (.slice a n c)):=λV hV=>by have x1:=x0.ah hV;exact ⟨x1.cell 0 rfl,x1.cell 1 rfl,x1.cell 2 rfl,x1.cell 3 rfl,x1.cell 4 rfl⟩
 have HbW:=Z5 hbW;have Hck:=Z5 (HCk.out W hbW);clear hW x0 hbW HCk;obtain ⟨c0,c1,c2,c3,c4⟩:=HS.out W (Mi _ _);go_wp2_with fail;refine Hck.out.mono ?_;rintro e w1 ⟨rfl,hb1⟩;clear c0 c1 c2 c3 c4 Hck;by_cases hE : aH P M mod N L=0;rotate_left
 ·have hE2 : (aH P M mod N L != 0)=true:=by simpa using hE
  have HR : Hid (iw P M mod N L=([],[],aH P M mod N L)):=by show _=_;unfold iw;rw [Mg hE]
  have hF:=QQ HbW.out hb1;clear hE;generalize aH P M mod N L=er at *;go_wp2_with fail;go_ret3;exact Bx HR.out hF
 rw [hE];obtain ⟨m,rfl,hm1,hm64,F,hR⟩:=aS hE;obtain ⟨c0,c1,c2,c3,c4⟩:=HS.out w1 hb1;by_cases hn0 : n=0
 ·subst hn0;have HR : Hid (iw P M mod m L=([],[],11)):=by show _=_;unfold iw;rw [Mh (by rw [hE];decide),Mg Hln.out]
  have hF:=QQ HbW.out hb1;clear hE F hR;go_wp2_with fail;go_ret3;exact Bx HR.out hF
 have hfB:=(bL hE).1;have hn64 : n<=64:=by have:=wh hE;have:=Hln.out;omega
 have hL1 : 1<=L.length:=by have:=Hln.out;omega
 have HNw:=Z5 (HNw0.out hfB);have hall:=λt ht=>fS (gB hE).1 t ht;have hTl:=(gB hE).2;have hne:=xL hE hL1;obtain ⟨T,hT⟩ : ∃T,gN (aa P M.toNat mod).ops L m=T:=⟨_,rfl⟩
 rw [hT] at hall hTl hne;obtain ⟨kf,hkf⟩ : ∃kf,T.length=kf:=⟨_,rfl⟩
 have HFa : Hid (∀V,Rs w V->Calls prog 31 #[.agg #[.int .i64 P,.int .i64 M,.slice am mn cm,.int .i64 m,.slice a n c]] V λe w'=>∃a1 c1,e = .returned (.tuple #[.slice a1 kf c1,.int .i64 0])/\K8 w' a1 kf T/\Rs V w'):=λV hV=>by
  refine (B3 P M am mn cm mod m a n c L V (Hmi.out.1.ah hV) (Hmi.out.2.ah hV)).mono ?_;rintro e w' ⟨hb,⟨h1,_⟩ | ⟨_,m2,e2,k,a1,c1,R,T2,h3,rfl,hO⟩⟩
  ·exact absurd hE h1
  ·obtain rfl : m=m2:=by omega
   rw [hT] at h3;subst h3;obtain rfl : k=kf:=by rw [<- hkf];exact hO.tl.symm
   exact ⟨a1,c1,rfl,hO.str,hb⟩
 have HSy : Hid (∀t ∈ T,∀V sa Sn sc,Rs w V->Ints V sa Sn t.1->Calls prog 99 #[.agg #[.int .i64 P,.int .i64 M,.slice am mn cm,.int .i64 m,.slice a n c],.slice sa Sn sc] V λe w'=>∃a1 c1,e = .returned (.tuple #[.agg #[.int .i64 m,.slice a1 n c1],.int .i64 0])/\bX V.heap.size w' a1 n (ew (aa P M.toNat mod).ops m L t.1)/\Rs V w'):=λt ht V sa Sn sc hV hI=>by
  obtain ⟨t1,t2,_,_⟩:=hall t ht;refine (sS P M am mn cm mod m a n c L sa Sn sc t.1 V (Hmi.out.1.ah hV) (Hmi.out.2.ah hV) hI).mono ?_;rintro e w' ⟨hb,⟨h1,_⟩ | ⟨_,m2,e2,a1,c1,rfl,hM⟩⟩
  ·exact absurd (H5 hE t1 t2) h1
  ·obtain rfl : m=m2:=by omega
   rw [Hln.out] at hM ⊢;exact ⟨a1,c1,rfl,hM,hb⟩
 have Hall:=Z5 hall;have HE:=Z5 hE;have HT:=Z5 hT;have Hkf:=Z5 hkf;have Hne:=Z5 hne;have hkl : kf<=64:=by omega
 have hn1 : ((n : Int) == 0)=false:=by simp;omega
 clear hall hE hT hkf hne hfB hTl HNw0;go_wp2_with fail;refine (HNw.out w1 (QQ HbW.out hb1)).mono ?_;rintro e w2 ⟨b,rfl,hG2,hb2⟩;have hB2:=QQ hb1 hb2;clear c0 c1 c2 c3 c4 HNw;obtain ⟨c0,c1,c2,c3,c4⟩:=HS.out w2 hB2;go_wp2_with fail;refine (HFa.out w2 (QQ HbW.out hB2)).mono ?_;rintro e w3 ⟨af,cf,rfl,hSt,hb3⟩;have hB3:=QQ hB2 hb3;have HG3:=Z5 (hG2.ah hb3);clear c0 c1 c2 c3 c4 HFa hG2 hb2 hb3;obtain ⟨c0,c1,c2,c3,c4⟩:=HS.out w3 hB3;go_upto_region 13 with fail;obtain ⟨U,hU⟩ : ∃U : World,U=w3.alloc (.cells #[.pointer (some ⟨b,0,none⟩),.int .i64 P,.int .i64 M,.slice am mn cm,.int .i64 m,.slice a n c,.slice none 0 0,.slice none 0 0,.int .i64 0] 132):=⟨_,rfl⟩
 rw [<- hU];obtain ⟨g,hg⟩ : ∃g,w3.heap.size=g:=⟨_,rfl⟩
 rw [hg];have hbU : Below g w3 U:=by rw [hU,<- hg];exact aB _ _
 have hLI0 : LI U g [.pointer (some ⟨b,0,none⟩),.int .i64 P,.int .i64 M,.slice am mn cm,.int .i64 m,.slice a n c] none 0 none 0 [] []:=LI.start rfl (by rw [hU,<- hg];exact QS w3 _ _ rfl);have Hg:=Z5 hg;have HbU:=Z5 hbU;have hgW : W.heap.size<=g:=by have:=hB3.size;omega
 have HB3:=Z5 hB3;have hplF:=hSt.pl;have HSt:=Z5 hSt;clear hU hg hbU c0 c1 c2 c3 c4 hSt hB3 hB2 hb1;go_wp2_with fail;go_loopw [10,55] (λrv iv wr=>∃(i : Nat) (ag : OA) (cg : Nat) (ak : OA) (ck : Nat) (gs : List TX),i<=kf/\iv = .int .i64 i/\rv = .slice ak i ck/\Hid (LI wr g [.pointer (some ⟨b,0,none⟩),.int .i64 P,.int .i64 M,.slice am mn cm,.int .i64 m,.slice a n c] ag cg ak ck gs ((T.take i).map (·.2))) /\
   Hid (gs.length=i/\gs.map TX.T=(T.take i).map λt=>ew (aa P M.toNat mod).ops m L t.1)/\Below g U wr) (λ_ iv _=>kf - (intOf iv).toNat)
 case atStart=>exact ⟨0,none,0,none,0,[],Mj _,rfl,rfl,hLI0,⟨rfl,by simp⟩,Mi _ _⟩
 case round =>
  clear hLI0
  obtain ⟨i,ag,cg,ak,ck,gs,hik,rfl,rfl,hLI,hgs,hbr⟩:=hrel
  generalize wr=V at *
  obtain ⟨hgl,hgm⟩:=hgs.out
  subst hgl
  have Hgm:=Z5 hgm
  clear hgm hgs
  have hb3V : Below g w3 V:=MS HbU.out hbr
  have hbWV : Rs W V:=MS HB3.out (hb3V.mono hgW)
  have hgV : g<V.heap.size:=hLI.out.box.1
  by_cases hlt : gs.length<kf
  ·have hiT : gs.length<T.length:=by rw [Hkf.out];exact hlt
   obtain ⟨sa,sc,p0,p1,hIS⟩:=(HSt.out.ah (by have h:=hb3V;rw [<- Hg.out] at h;exact h)).cell gs.length hiT
   have hmem : T[gs.length] ∈ T:=MM hiT
   have htk : T.take (gs.length+1)=T.take gs.length ++ [T[gs.length]]:=Mu hiT
   have Hrk2 : Hid ((T.take (gs.length+1)).map (·.2)=(T.take gs.length).map (·.2) ++ [T[gs.length].2]):=by show _=_;rw [htk,M3];rfl
   have Hsy2 : Hid ((T.take (gs.length+1)).map (λt=>ew (aa P M.toNat mod).ops m L t.1)=(T.take gs.length).map (λt=>ew (aa P M.toNat mod).ops m L t.1) ++ [ew (aa P M.toNat mod).ops m L T[gs.length].1]):=by show _=_;rw [htk,M3];rfl
   have hSyi:=HSy.out _ hmem
   have Hql : Hid (((T.take gs.length).map (·.2)).length=gs.length):=by show _=_;rw [Mx,MJ];omega
   obtain ⟨S,hS⟩ : ∃S,T[gs.length].1=S:=⟨_,rfl⟩
   obtain ⟨r,hr⟩ : ∃r,T[gs.length].2=r:=⟨_,rfl⟩
   rw [hS] at p0 hIS Hsy2 hSyi
   rw [hr] at p1 Hrk2
   obtain ⟨Sn,hSn⟩ : ∃Sn,S.length=Sn:=⟨_,rfl⟩
   rw [hSn] at p0 hIS
   have HIS:=Z5 hIS
   have HSyi:=Z5 hSyi
   clear hS hr hSn hmem htk hIS hSyi hiT
   obtain ⟨V1,hV1⟩ : ∃V1 : World,V1=V.alloc (.cells #[.slice sa Sn sc,.int .i64 r] 64):=⟨_,rfl⟩
   have xV : bf V1 V.heap.size [.slice sa Sn sc,.int .i64 r]:=by rw [hV1];exact QS _ _ _ rfl
   have hbV : Rs V V1:=by rw [hV1];exact aB _ _
   have hcall:=HSyi.out V1 sa Sn sc (QQ HbW.out (QQ hbWV hbV)) (HIS.out.ah hbV)
   have HV1:=Z5 hV1
   have HxV:=Z5 (My xV hbV)
   obtain ⟨c0,c1,c2,c3,c4⟩:=HS.out _ (QQ hbWV hbV)
   have e0:=xV.cell 0 rfl
   rw [hV1] at hcall c0 c1 c2 c3 c4 e0
   have Hcall:=Z5 hcall
   clear hV1 xV hbV hcall HIS HSyi
   go_wp2_with fail
   refine Hcall.out.mono ?_
   rintro e w5 ⟨a1,c1',rfl,hM5,hb5⟩
   rw [<- HV1.out] at hb5 hM5
   have hbV5 : Rs V w5:=QQ HxV.out.2 hb5
   have hgl:=HxV.out.2.size
   obtain ⟨Sy,hSy⟩ : ∃Sy,ew (aa P M.toNat mod).ops m L S=Sy:=⟨_,rfl⟩
   rw [hSy] at hM5 Hsy2
   have hSyl : Sy.length=n:=hM5.len
   have hbx:=aB w5 (.cells #[.int .i64 m,.slice a1 n c1'] 82)
   have hMA : gG (LA g ag ak) (w5.alloc (.cells #[.int .i64 m,.slice a1 n c1'] 82)) a1 n Sy:=(hM5.Lc λx hx=>ME (hLI.out.lt x hx) hgl).ah hbx
   have hbV2 : Rs V (w5.alloc (.cells #[.int .i64 m,.slice a1 n c1'] 82)):=QQ hbV5 hbx
   have hLI2:=hLI.out.ah hbV2
   have hxb : bf (w5.alloc (.cells #[.int .i64 m,.slice a1 n c1'] 82)) V.heap.size [.slice sa Sn sc,.int .i64 r]:=(HxV.out.1.ah hb5).ah hbx
   have hmb : bf (w5.alloc (.cells #[.int .i64 m,.slice a1 n c1'] 82)) w5.heap.size [.int .i64 m,.slice a1 n c1']:=QS _ _ _ rfl
   clear c0 c1 c2 c3 c4 e0 Hcall hM5 hSy
   go_upto_region 20 with fail
   obtain ⟨V2,hV2⟩ : ∃V2,w5.alloc (.cells #[.int .i64 m,.slice a1 n c1'] 82)=V2:=⟨_,rfl⟩
   rw [hV2] at hMA hbV2 hLI2 hxb hmb ⊢
   have c6:=hLI2.c6
   have f6:=hLI2.box.frozen 6
   have m1:=hmb.cell 1 rfl
   have d6:=aM c6 (.cells #[.slice a1 n c1'] 25)
   have dm1:=aM m1 (.cells #[.slice a1 n c1'] 25)
   have HO : Hid (∀X,Rs V2 X->X.ownsRow (g+1) 25 1 (.slice ag gs.length cg) gs.length (gs.map AM)):=λX hX=>ba hLI2.so hX
   have hapG:=hLI2.LC
   have hg2 : g<V2.heap.size:=hLI2.box.1
   have HLI2:=Z5 hLI2
   have HMA:=Z5 hMA
   have Hxb:=Z5 hxb
   have HSl:=Z5 hSyl
   have hgs64 : gs.length<=64:=by omega
   clear hV2 hbx hLI2 hMA hxb hmb hSyl hbV5 hb5
   go_cut [] (λwx=>∃ag' cg',LI wx g [.pointer (some ⟨b,0,none⟩),.int .i64 P,.int .i64 M,.slice am mn cm,.int .i64 m,.slice a n c] ag' cg' ak ck (gs ++ [⟨a1,c1',Sy⟩]) ((T.take gs.length).map (·.2))/\Below g V2 wx/\bf wx V.heap.size [.slice sa Sn sc,.int .i64 r])
   case first =>
    go_region_law ((first
     | (refine iQ (by rfl) (.tmp 73) (.tmp 76) 130 25 (by rfl) (.slice none 0 0) 24 underlying130 Io (by rfl) (g+1) ag gs.length cg (gs.map AM) (by rfl) (HO.out _ (by first | exact (aB _ _).drew | exact aB _ _)) (some ⟨V2.heap.size,0,none⟩) 1 1 [.slice a1 n c1'] (by rfl) (λ_=>rfl) rfl (by intro j hj;obtain rfl : j=0:=(by omega);exact dq _ _ _ rfl) (by intro y hy;simp at hy;subst hy;rfl) (by omega) (by unfold maxLen;omega) (by simp;omega) ?_;intro a5 c5 w6 hown6 hgr6 hap6;have p1:=bA hgr6 (aM c6 _) hapG;have p2 : w6.frozen? ⟨g,6,none⟩=false:=(MD (hgr6.block g (by simp;omega) (λe=>hapG.own gs.length cg e.symm))).trans (cR hg2 f6 _))))
    all_goals (
     go_wp2_with fail
     go_meet
     have hk:=(HLI2.out.ah (Mi _ _).drew).Lw (o:=.cells #[.slice a1 n c1'] 25) (x:=⟨a1,c1',Sy⟩) (by rw [HSl.out];exact HMA.out.ah (Mi _ _).drew) (by rw [show AM ⟨a1,c1',Sy⟩ = .slice a1 n c1' by unfold AM;rw [HSl.out]];exact hown6) hgr6 hap6
     exact ⟨a5,c5,hk.1,((Mi g V2).drew).trans hk.2.1,(Hxb.out.ah (Mi _ _).drew).cQ hk.2.2 λh=>Oj _ (hLI.out.lt _ h)⟩)
   obtain ⟨ag',cg',hLI3,hb3',hx3⟩:=hcut
   generalize wc=V3 at *
   have r1:=hx3.cell 1 rfl
   have hrk:=hLI3.rk
   rw [Hql.out] at hrk
   have hg3 : g<V3.heap.size:=hLI3.box.1
   have HLI3:=Z5 hLI3
   clear hx3 hLI3 c6 f6 m1 d6 dm1
   go_wp2_with (at_builtin;refine bj rfl _ _ 22 3 rfl (.int .i64 0) 8 underlying22 bt rfl (g+1) ak gs.length ck _ rfl (hrk.alloc _) ⟨V3.heap.size,0,none⟩ 1 (.int .i64 r) rfl (bm V3 _ _) rfl (by omega) (by unfold maxLen;omega) (by simp;omega) ?_;intro a5 c5 w7 hown7 hgr7 hap7)
   go_roundw
   case rel =>
    obtain ⟨hL4,hb4⟩:=HLI3.out.Lp (r:=r) (o:=.cells #[.int .i64 r] 3) (by rw [Hql.out];exact hown7) (by rw [Hql.out];exact hgr7) hap7
    exact ⟨gs.length+1,ag',cg',a5,c5,gs ++ [⟨a1,c1',Sy⟩],by omega,by go_num,rfl,by rw [Hrk2.out];exact hL4,⟨by simp,by rw [Hsy2.out,M3,Hgm.out];rfl⟩,MS hbr (MS (hbV2.mono (by omega)) (MS hb3' (hb4.mono (Nat.le_succ g))))⟩
   case measure=>simp [intOf] <;> omega
  ·obtain rfl : kf=gs.length:=by omega
   have htk : T.take gs.length=T:=Ms (by rw [Hkf.out];exact Mf _)
   have hLI1:=hLI.out
   rw [htk] at hLI1
   have hfm : gs.map TX.T=kS P M mod m L:=by rw [Hgm.out,htk];unfold kS;rw [HT.out]
   have hgs1 : 1<=gs.length:=by
    rcases Na gs.length with h | h
    ·exact absurd (MF (by rw [Hkf.out];exact h)) Hne.out
    ·exact h
   have hgs64 : gs.length<=64:=hkl
   have Hfm:=Z5 hfm
   have HL1:=Z5 hLI1
   have hmats : ∀t (ht : t<gs.length),V.cell? ⟨an ag,aP ag+t,none⟩=some (.slice gs[t].a gs[t].T.length gs[t].c)/\bX (g+1) V gs[t].a gs[t].T.length gs[t].T:=λt ht=>by
    have h1:=(bC hLI1.so t ht).1;have e1 : (gs.map AM)[t]? = some (AM gs[t]):=by rw [NV,MP ht];rfl
    rw [e1] at h1;exact ⟨by rw [h1];rfl,(hLI1.gx _ (MM ht)).I8⟩
   have Hmats:=Z5 hmats
   have HGR : Hid (∀t (ht : t<gs.length),gs[t].T.length=n/\bx (aa P M.toNat mod).El m gs[t].T):=λt ht=>by
    have h1 : gs[t].T ∈ kS P M mod m L:=by rw [<- hfm];exact List.mem_map.2 ⟨gs[t],MM ht,rfl⟩
    obtain ⟨s,hs,e⟩:=List.mem_map.1 h1;obtain ⟨q1,q2,_,_⟩:=fS (gB HE.out).1 s hs;obtain ⟨hI,hl,hgr⟩:=mz q1 q2;obtain ⟨s1,s2,_,_⟩:=oM HE.out hI hl hgr;rw [<- e];exact ⟨by rw [s2];exact Hln.out,s1⟩
   have hplG : Pl ag gs.length:=by obtain ⟨a',c',hv,hp⟩:=Q0 hLI1.so;cases hv;exact hp
   have hbV0 : bf V g (Ll b P M am mn cm m a n c ag gs.length cg none 0 0 0):=hLI1.box
   have HrkV:=Z5 (QR hLI1.rk).1
   have HGV : Hid (∀X,aw V X (One g) (λx=>x=g\/V.heap.size<=x)->Below g V X):=λX hX=>hX.below (λx hx=>by rw [show x=g from hx];exact Mf _) (by omega)
   obtain ⟨RES,hRES⟩ : ∃RES,iw P M mod m L=RES:=⟨_,rfl⟩
   have hRES2 : DP (aa P M.toNat mod).ops (aa P M.toNat mod).q m n (kS P M mod m L) (T.map (·.2)) n 1 [] 0 []=RES:=by rw [<- hRES];unfold iw;rw [Mh (by rw [HE.out];decide),Mh (by rw [Hln.out];omega),Mm,Hln.out,HT.out]
   have HRES:=Z5 hRES
   clear hfm htk hLI1 hmats hRES hLI Hgm
   go_wp2_with fail
   go_loopw [15,16] (λov wv wr=>∃(W1 : Nat) (ao : OA) (co : Nat) (o : ZZ) (ab : OA) (cb : Nat) (B : Lz) (kk : Nat),W1<=n/\wv = .int .i64 ((W1 : Int)+1)/\ov = .slice ao o.length co /\
     Hid (wr.ownsRow V.heap.size 62 4 (.slice ao o.length co) o.length (AO o))/\Hid (bf wr g (Ll b P M am mn cm m a n c ag gs.length cg ab B.length cb kk)) /\
     Hid (Ints wr ab B.length B/\(0<B.length->an ab ≠ g/\(ao ≠ none->an ab ≠ an ao)))/\kk<=65536/\o.length<=W1/\aw V wr (One g) (λx=>x=g\/V.heap.size<=x) /\
     Hid (DP (aa P M.toNat mod).ops (aa P M.toNat mod).q m n (kS P M mod m L) (T.map (·.2)) (n - W1) (W1+1) B kk o=RES)) (λ_ wv _=>n+1 - (intOf wv).toNat)
   case atStart=>exact ⟨0,none,0,[],none,0,[],0,Mj _,rfl,rfl,⟨rfl,.inl ⟨rfl,rfl⟩⟩,hbV0,⟨QX _ _,λh=>absurd h (by simp)⟩,by omega,Mf _,(QY V (One g)).Eb λx hx=>hx,hRES2⟩
   case round =>
    clear hbV0 hRES2
    obtain ⟨W1,ao,co,o,ab,cb,B,kk,hW1,rfl,rfl,howo,hbox,hbest,hkk,hol,hMV,hres⟩:=hrel
    generalize wr=X at *
    have hbX:=HGV.out X hMV
    have hbWX:=MS hbWV (hbX.mono hgW)
    have hb3X : Rs w3 X:=by have h:=MS hb3V hbX;rw [<- Hg.out] at h;exact h
    obtain ⟨c0,c1,c2,c3,c4⟩:=HS.out X hbWX
    have hgX : g<X.heap.size:=hbox.out.1
    by_cases hlt2 : W1<n
    ·have d1 : decide ((W1 : Int)+1<=(n : Int))=true:=by simp;omega
     obtain ⟨f,hf⟩ : ∃f,n - W1=f+1:=⟨n - W1 - 1,by omega⟩
     have hres2:=hres.out
     rw [hf,DP,<- Hfm.out,Mx] at hres2
     have hsea : wE (λx=>x=g\/(ao ≠ none/\x=an ao)) X g b P M am mn cm m a n c ag gs.length cg ab cb B kk:=⟨hbox.out,hbest.out.1,λhn h=>by
      rcases h with h | ⟨h,h'⟩
      ·exact (hbest.out.2 hn).1 h
      ·exact (hbest.out.2 hn).2 h h'⟩
     have hmore:=Ir (W1+1) HG3.out hb3X hsea hkk hn64 (by omega) (by omega) hgs1 hgs64
     rw [show ((W1+1 : Nat) : Int)=(W1 : Int)+1 by omega] at hmore
     have Hmore:=Z5 hmore
     have Hsea:=Z5 hsea
     clear hmore hsea
     by_cases hm : mX (aa P M.toNat mod).q n gs.length kk (W1+1)=true
     rotate_left
     ·rw [Mh hm] at hres2 Hmore
      have HR : Hid (iw P M mod m L=([],[],8)):=by show _=_;rw [HRES.out,<- hres2]
      have hFW:=QQ HbW.out hbWX
      clear hres2 hm
      go_wp2_with fail
      refine Hmore.out.mono ?_
      rintro e X1 ⟨hb1,z,rfl⟩
      have hF:=QQ hFW hb1
      go_wp2_with fail
      go_ret3
      exact Bx HR.out hF
     rw [Mg hm] at hres2 Hmore
     have Hres2:=Z5 hres2
     have Hm:=Z5 hm
     clear hres2 hm
     go_wp2_with fail
     refine Hmore.out.mono ?_
     rintro e X1 ⟨hb1,z,rfl⟩
     have hbox1:=hbox.out.ah hb1
     have c6:=hbox1.cell 6 rfl
     clear c0 c1 c2 c3 c4
     go_wp2_with fail
     obtain ⟨RB,hRB⟩ : ∃RB,pH (aa P M.toNat mod).ops (aa P M.toNat mod).q m (W1+1) (gs.map TX.T) B=RB:=⟨_,rfl⟩
     obtain ⟨cnt,hcnt⟩ : ∃cnt,dN n (W1+1) * ((aa P M.toNat mod).q - 1) ^ W1=cnt:=⟨_,rfl⟩
     have hrn : su (aa P M.toNat mod).q n gs.length (W1+1)=gs.length * cnt:=by unfold su;rw [Nu,hcnt]
     have hmb : gs.length * cnt<=65536 - kk:=by have h1:=Hm.out;unfold mX at h1;simp only [MC,MG] at h1;rw [<- hrn];exact h1.2
     have Hcnt:=Z5 hcnt
     have HRB:=Z5 hRB
     have Hrn:=Z5 hrn
     have hsea1 : wE (λx=>x=g\/(ao ≠ none/\x=an ao)) X1 g b P M am mn cm m a n c ag gs.length cg ab cb B kk:=Hsea.out.ah hb1
     have hgX1 : g<X1.heap.size:=hbox1.1
     have hstart : ((gs.drop 0).map TX.T).foldl (λb G=>(lL (aa P M.toNat mod).ops (dY (aa P M.toNat mod).q) [1] (W1+1) G (List.replicate m 0)).foldl (di (aa P M.toNat mod).ops) b) B=RB:=hRB
     clear hcnt hRB hrn hbox1
     go_loopw [107] (λiv wr=>∃(t : Nat) (ab' : OA) (cb' : Nat) (B' : Lz) (k' : Nat),t<=gs.length/\iv = .int .i64 t/\Hid (wE (λx=>x=g\/(ao ≠ none/\x=an ao)) wr g b P M am mn cm m a n c ag gs.length cg ab' cb' B' k')/\aw X1 wr (One g) (λx=>x=g\/X1.heap.size<=x) /\
       Hid (((gs.drop t).map TX.T).foldl (λb G=>(lL (aa P M.toNat mod).ops (dY (aa P M.toNat mod).q) [1] (W1+1) G (List.replicate m 0)).foldl (di (aa P M.toNat mod).ops) b) B'=RB)/\k'+(gs.length - t) * cnt=kk+gs.length * cnt) (λiv _=>gs.length - (intOf iv).toNat)
     case atStart=>exact ⟨0,ab,cb,B,kk,Mj _,rfl,hsea1,(QY X1 (One g)).Eb λx hx=>hx,hstart,by simp⟩
     case round =>
      clear hsea1 hstart
      obtain ⟨t,ab',cb',B',k',ht,rfl,hsea,hMt,hfold,hkt⟩:=hrel
      generalize wr=Y at *
      by_cases hltt : t<gs.length
      ·obtain ⟨hc0,hm0⟩:=Hmats.out t hltt
       obtain ⟨hTl,hTr⟩:=HGR.out t hltt
       have hag : ag ≠ none:=λe=>by have:=hplG (by omega);rw [e] at this;cases this
       have hagg : ¬ One g (an ag):=λe=>by
        rcases HL1.out.LC with h | h
        ·exact hag h
        ·exact h e
       have hcY : Y.cell? ⟨an ag,aP ag+t,none⟩=some (.slice gs[t].a gs[t].T.length gs[t].c):=hMt.cell (aA hb1 (hMV.cell hc0 hagg)) hagg
       have hmY : bX (g+1) Y gs[t].a gs[t].T.length gs[t].T:=((hm0.cQ hMV λx hx=>by rw [show x=g from hx];omega).ah hb1).cQ hMt λx hx=>by rw [show x=g from hx];omega
       have hdrop : gs.drop t=gs[t] :: gs.drop (t+1):=M4 hltt
       have hfold2:=hfold.out
       rw [hdrop,Nc,PY] at hfold2
       obtain ⟨GT,hGT⟩ : ∃GT,gs[t]=GT:=⟨_,rfl⟩
       rw [hGT] at hcY hmY hTl hTr hfold2
       rw [hTl] at hcY hmY
       have hbY : Below g X1 Y:=hMt.below (λx hx=>by rw [show x=g from hx];exact Mf _) (by omega)
       have hbWY : Rs W Y:=MS (QQ hbWX hb1) (hbY.mono hgW)
       have hb3Y : Rs w3 Y:=by have h:=MS (MS (by rw [<- Hg.out];exact hb3X) (hb1.mono (by omega))) hbY;rw [<- Hg.out] at h;exact h
       obtain ⟨c0,c1,c2,c3,c4⟩:=HS.out Y hbWY
       have Hfold2:=Z5 hfold2
       have HmY:=Z5 hmY
       have HTr:=Z5 hTr
       have HTl:=Z5 hTl
       clear hc0 hm0 hGT hdrop hfold2 hmY hTr hTl hfold
       go_wp2_with (at_make;refine b9 rfl _ _ 22 3 rfl (.int .i64 0) 8 underlying22 bt rfl m rfl rfl (by omega) (by unfold maxLen;omega) ?_;intro a5 w5 hown hbel hge hlt5)
       have hgY : g<Y.heap.size:=hsea.out.box.1
       have hown2 : w5.ownsRow Y.heap.size 3 1 (.slice a5 m m) m ((List.replicate m (0 : Int)).map (Value.int .i64)):=by rw [NR];exact hown
       have hls : (lL (aa P M.toNat mod).ops (dY (aa P M.toNat mod).q) [1] (W1+1) GT.T (List.replicate m 0)).length=cnt:=by rw [th,HTl.out,l9];exact Hcnt.out
       obtain ⟨d,hd⟩ : ∃d,gs.length - t=d+1:=⟨gs.length - t - 1,by omega⟩
       have hd2 : gs.length - (t+1)=d:=by omega
       rw [hd,Nat.succ_mul] at hkt
       have hbnd : kk+gs.length * cnt<=65536:=by omega
       have hFl : ∀x,(x=g\/(ao ≠ none/\x=an ao))->x<w5.heap.size:=λx hx=>by
        have h5:=hbel.size;rcases hx with rfl | ⟨h1,rfl⟩
        ·omega
        ·have h2:=(ku howo.out h1).2;have h3:=hb1.size;have h4:=hMt.size;omega
       have hso:=zg (cr:=GT.c) (F:=λx=>x=g\/(ao ≠ none/\x=an ao)) (.inl rfl) HG3.out (by rw [Hg.out];exact Mf _) hm64 hm1 HTr.out hn64 (W1+1) (by omega) w5 ab' cb' B' k' a5 m (List.replicate m 0) 0 true hFl (QQ hb3Y hbel) (hsea.out.ah hbel) (HmY.out.ah hbel) ⟨(QR hown2).1,λ_=>by omega⟩ (λx hx=>by rw [(List.mem_replicate.1 hx).2];exact F.zero) (Mj _) (by rw [Mg rfl];show k'+(lL _ _ _ _ GT.T _).length<=_;rw [hls];omega)
       rw [Mg rfl,Ps,hls,show ((W1+1 : Nat) : Int)=(W1 : Int)+1 by omega] at hso
       have Hso:=Z5 hso
       have Hbel:=Z5 hbel
       clear hso hown hown2 hbel hls
       refine Hso.out.mono ?_
       rintro e w6 ⟨rfl,ab6,cb6,hs6,hM6⟩
       have Hs6:=Z5 (My hs6 hM6)
       clear hs6 hM6 c0 c1 c2 c3 c4
       go_wp2_with fail
       go_roundw
       case rel=>exact ⟨t+1,ab6,cb6,_,_,by omega,by go_num,Hs6.out.1,hMt.trans ((QU Hbel.out _).trans (Hs6.out.2.wide λx hx=>.inl hx)),Hfold2.out,by rw [hd2];omega⟩
       case measure=>simp [intOf] <;> omega
      ·obtain rfl : t=gs.length:=by omega
       have hB' : B'=RB:=by have h1:=hfold.out;rw [List.drop_length] at h1;exact h1
       have hk' : k'=kk+su (aa P M.toNat mod).q n gs.length (W1+1):=by rw [Hrn.out];rw [NS,PS] at hkt;omega
       have hk'2 : k'<=65536:=by rw [hk',Hrn.out];omega
       have HB':=Z5 hB'
       have Hk':=Z5 hk'
       have hbY : Below g X1 Y:=hMt.below (λx hx=>by rw [show x=g from hx];exact Mf _) (by omega)
       have hbWY : Rs W Y:=MS (QQ hbWX hb1) (hbY.mono hgW)
       have hVY : aw V Y (One g) (λx=>x=g\/V.heap.size<=x):=(hMV.trans (QU hb1 _)).trans ((hMt.Lf (I:=λx=>x=g\/V.heap.size<=x) (λx hx=>.inl hx) λx hx=>by
        rcases hx with h | h
        ·exact .inl h
        ·have h1:=hMV.size;have h2:=hb1.size;exact .inr (by omega)))
       have hakg : 0<(T.map (·.2)).length->¬ One g (an ak):=λhn e=>by
        rcases HL1.out.L4 with h | h
        ·have:=HrkV.out.pl hn;rw [h] at this;cases this
        ·exact h e
       have hrkY : Ints Y ak (T.map (·.2)).length (T.map (·.2)):=HrkV.out.cQ hVY hakg
       have hQl : (T.map (·.2)).length=gs.length:=by rw [Mx,Hkf.out]
       obtain ⟨fl,hfl⟩ : ∃fl,fU (n : Int) ((W1 : Int)+1) (T.map (·.2)) (T.map (·.2)).length=fl:=⟨_,rfl⟩
       have hflV : CG (n : Int) (T.map (·.2)) ((W1 : Int)+1)=(fl,0):=by have h1:=Kd HE.out (v:=(W1 : Int)+1) (by rw [Hln.out];omega) (by rw [Hln.out];exact hn64);rw [HT.out,Hln.out,hfl] at h1;exact h1
       have hflo:=EG (n : Int) ak gs.length ck (T.map (·.2)) ((W1 : Int)+1) Y (by rw [hQl] at hrkY;exact hrkY)
       rw [hflV] at hflo
       have Hflo:=Z5 hflo
       have Hfl:=Z5 hfl
       have hownY : Y.ownsRow V.heap.size 62 4 (.slice ao o.length co) o.length (AO o):=pT howo.out λh1=>by
        have h2:=(ku howo.out h1)
        have h3:=hb1.size;rw [hMt.block _ (by omega) λe=>by have : an ao=g:=e;omega,hb1.block _ h2.2]
       obtain ⟨c0,c1,c2,c3,c4⟩:=HS.out Y hbWY
       have c7:=hsea.out.box.cell 7 rfl
       have c8:=hsea.out.box.cell 8 rfl
       have hbI:=hsea.out.best.ints
       have HownY:=Z5 hownY
       have HMY:=Z5 (My hbWY hVY)
       clear hB' hk' hfold hkt hflV hflo hfl hrkY hakg hownY hbWY hVY
       go_wp2_with fail
       refine Hflo.out.mono ?_
       rintro e w' ⟨rfl,hw'⟩
       obtain rfl:=hw'.symm
       obtain ⟨zt,hzt⟩ : ∃zt,cw B'=zt:=⟨_,rfl⟩
       have HWt : Hid (∀X,Rs Y X->Calls prog 55 #[.slice ab' B'.length cb'] X λe w'=>e = .returned (.int .i64 (zt : Nat))/\w'=X):=λX hX=>by rw [<- hzt];exact iV ab' B'.length cb' B' X (hbI.ah hX)
       have Hzt:=Z5 hzt
       have HO : Hid (∀X,Rs Y X->X.ownsRow V.heap.size 62 4 (.slice ao o.length co) o.length (AO o)):=λX hX=>pT HownY.out λh1=>hX.block _ (ku HownY.out h1).2
       have hq4 : bf ((Y.alloc (.cells #[.int .i64 ((W1 : Int)+1),.int .i64 (k' : Nat),.int .i64 (zt : Nat),.int .i64 fl] 62)).drew) Y.heap.size [.int .i64 ((W1 : Int)+1),.int .i64 (k' : Nat),.int .i64 (zt : Nat),.int .i64 fl]:=(QS Y _ _ rfl).ah (Mi _ _).drew
       have q0:=hq4.cell 0 rfl
       have q1:=hq4.cell 1 rfl
       have q2:=hq4.cell 2 rfl
       have q3:=hq4.cell 3 rfl
       have ho4:=HO.out _ (aB Y (.cells #[.int .i64 ((W1 : Int)+1),.int .i64 (k' : Nat),.int .i64 (zt : Nat),.int .i64 fl] 62)).drew
       have HQ:=Z5 (My q0 (My q1 (My q2 (My q3 ho4))))
       clear hq4 q0 q1 q2 q3 ho4
       have hgVs : V.heap.size<=Y.heap.size:=HMY.out.2.size
       have ho64 : o.length<=64:=by omega
       clear hzt hbI
       go_upto_region 38 with fail
       go_cut [15] (λv wx=>∃a5 c5,v = .slice a5 (o.length+1) c5/\wx.ownsRow V.heap.size 62 4 (.slice a5 (o.length+1) c5) (o.length+1) (AO o ++ [.int .i64 ((W1 : Int)+1),.int .i64 (k' : Nat),.int .i64 (zt : Nat),.int .i64 fl]) /\
        wE (λx=>x=g\/(a5 ≠ none/\x=an a5)) wx g b P M am mn cm m a n c ag gs.length cg ab' cb' B' k'/\aw Y wx (λx=>x=g\/V.heap.size<=x) (λx=>x=g\/V.heap.size<=x))
       case first =>
        go_region_law ((first
         | (go_simp;go_at_call 55;((with_reducible refine (HWt.out _ (by first | exact Mi _ _ | exact (Mi _ _).drew | exact (aB _ _).drew | exact aB _ _)).mono ?_);rintro e w8 ⟨rfl,rfl⟩))
         | (refine BW (by rfl) (.tmp 131) (.tmp 144) 30 62 (by rfl) (.agg #[.int .i64 0,.int .i64 0,.int .i64 0,.int .i64 0]) 32 underlying30 Iu (by rfl) V.heap.size ao o.length co (AO o) (by rfl) HQ.out.2.2.2.2 Y.heap.size 1 (.int .i64 ((W1 : Int)+1)) (.int .i64 (k' : Nat)) (.int .i64 (zt : Nat)) (.int .i64 fl) (by rfl) HQ.out.1 HQ.out.2.1 HQ.out.2.2.1 HQ.out.2.2.2.1 (by intro u hu;simp at hu;rcases hu with rfl | rfl | rfl | rfl <;> rfl) (by omega) (by unfold maxLen;omega) (by simp;omega) ?_;intro a5 c5 w6 hown6 hgr6 hap6)))
        all_goals (
         go_wp2_with fail
         have hp:=Ed hsea.out (HO.out _ (Mi _ _)) hgV (by first | exact (aB _ _).drew | exact aB _ _) hgr6 hap6
         have hQ9:=My hown6 hp
         clear hown6 hgr6 hap6 hp
         have HQ9:=Z5 hQ9
         clear hQ9
         simp only [List.getElem_toArray,List.getElem_cons_succ,List.getElem_cons_zero,Act.put,Ml,Mo,Mr]
         go_meet
         exact ⟨a5,c5,rfl,HQ9.out.1,HQ9.out.2.1,HQ9.out.2.2⟩)
       obtain ⟨a5,c5,rfl,hown5,hsea5,hM5⟩:=hcut
       generalize wc=Z at *
       have hVZ : aw V Z (One g) (λx=>x=g\/V.heap.size<=x):=HMY.out.2.trans hM5
       have hbYZ : Below g Y Z:=hM5.below (λx hx=>by rcases hx with rfl | h;exact Mf _;omega) (by omega)
       have hbWZ : Rs W Z:=MS HMY.out.1 (hbYZ.mono hgW)
       obtain ⟨d0,d1',d2,d3,d4⟩:=HS.out Z hbWZ
       have e7:=hsea5.box.cell 7 rfl
       have HwZ : Hid (Calls prog 55 #[.slice ab' B'.length cb'] Z λe w'=>e = .returned (.int .i64 (zt : Nat))/\w'=Z):=by rw [<- Hzt.out];exact iV ab' B'.length cb' B' Z hsea5.best.ints
       have hRes : (if fl > (zt : Int) then (o ++ [[(W1 : Int)+1,(k' : Int),(zt : Int),fl]],B',(0 : Int)) else DP (aa P M.toNat mod).ops (aa P M.toNat mod).q m n (gs.map TX.T) (T.map (·.2)) f (W1+1+1) B' k' (o ++ [[(W1 : Int)+1,(k' : Int),(zt : Int),fl]]))=RES:=by have h9:=Hres2.out;rw [HRB.out,<- HB'.out,<- Hk'.out,show ((W1+1 : Nat) : Int)=(W1 : Int)+1 by omega,Hfl.out,Hzt.out] at h9;exact h9
       have HrV : Hid (AO o ++ [.int .i64 ((W1 : Int)+1),.int .i64 (k' : Nat),.int .i64 (zt : Nat),.int .i64 fl]=AO (o ++ [[(W1 : Int)+1,(k' : Int),(zt : Int),fl]])):=by show _=_;rw [C0];rfl
       have HoL : Hid ((o ++ [[(W1 : Int)+1,(k' : Int),(zt : Int),fl]]).length=o.length+1):=by show _=_;simp
       rw [HrV.out] at hown5
       have HBest : Hid (Ints Z ab' B'.length B'/\(0<B'.length->an ab' ≠ g/\(a5 ≠ none->an ab' ≠ an a5))):=⟨hsea5.best.ints,λhn=>⟨λe=>hsea5.best.lo hn (.inl e),λh1 e=>hsea5.best.lo hn (.inr ⟨h1,e⟩)⟩⟩
       obtain ⟨o2,ho2⟩ : ∃o2,o ++ [[(W1 : Int)+1,(k' : Int),(zt : Int),fl]]=o2:=⟨_,rfl⟩
       rw [ho2] at hRes hown5 HoL HrV
       have Hown5:=Z5 hown5
       have Hsea5:=Z5 hsea5
       have HbZ:=Z5 (My hbWZ hVZ)
       clear hown5 hsea5 hM5 hbYZ hbWZ hVZ ho2
       by_cases hst : (zt : Int)<fl
       ·have hd : decide ((zt : Int)<fl)=true:=MO hst
        rw [Mg hst] at hRes
        have HR9 : Hid (iw P M mod m L=(o2,B',0)):=by show _=_;rw [HRES.out,<- hRes]
        have hF:=QQ HbW.out HbZ.out.1
        clear hRes hst
        go_wp2_with fail
        refine HwZ.out.mono ?_
        rintro e w' ⟨rfl,hw'⟩
        obtain rfl:=hw'.symm
        go_wp2_with fail
        go_quiet (fail)
        go_wp2_with fail
        go_ret3
        exact Im HR9.out hF HoL.out Hown5.out HBest.out.1 (Q1 ⟨_,rfl⟩)
       ·have hd : decide ((zt : Int)<fl)=false:=M1 hst
        rw [Mh hst] at hRes
        have HRes:=Z5 hRes
        have hfw : n - (W1+1)=f:=by omega
        clear hRes hst
        go_wp2_with fail
        refine HwZ.out.mono ?_
        rintro e w' ⟨rfl,hw'⟩
        obtain rfl:=hw'.symm
        go_wp2_with fail
        go_roundw
        case rel=>exact ⟨W1+1,a5,c5,o2,ab',cb',B',k',by omega,by go_num,by rw [HoL.out],by rw [HoL.out];exact Hown5.out,Hsea5.out.box,HBest.out,hk'2,by rw [HoL.out];omega,HbZ.out.2,by show DP _ _ _ _ _ _ (n - (W1+1)) _ _ _ _=_;rw [hfw,<- Hfm.out];exact HRes.out⟩
        case measure=>simp [intOf] <;> omega
    ·obtain rfl : W1=n:=by omega
     have hres3:=hres.out
     rw [NS,DP] at hres3
     have HR9 : Hid (iw P M mod m L=(o,B,0)):=by show _=_;rw [HRES.out,<- hres3]
     have d1 : decide ((W1 : Int)+1<=(W1 : Int))=false:=by simp;omega
     have hF:=QQ HbW.out hbWX
     have e7:=hbox.out.cell 7 rfl
     clear hres3
     go_wp2_with fail
     go_quiet (fail)
     go_wp2_with fail
     go_ret3
     exact Im HR9.out hF rfl howo.out hbest.out.1 (Q1 ⟨_,rfl⟩)
def vL (x k : Nat) : Nat->Nat
 | 0=>0
 | w+1=>vL x k w+dN k w * x ^ w
theorem yB (x k : Nat) : ∀w,vL x (k+1) (w+1)=vL x k (w+1)+x * vL x k w
 | 0=>by simp [vL,jk]
 | w+1=>by
  show vL x (k+1) (w+1)+dN (k+1) (w+1) * x ^ (w+1)=(vL x k (w+1)+dN k (w+1) * x ^ (w+1))+x * (vL x k w+dN k w * x ^ w);have e : dN k w * x ^ (w+1)=x * (dN k w * x ^ w):=by rw [NJ];ac_rfl
  rw [yB x k w,Al,Ou,O6,e];omega
theorem xc (x : Nat) : ∀k w,vL x k w<=(x+1) ^ k
 | 0,0=>by simp [vL]
 | 0,1=>by simp [vL,jk]
 | 0,w+2=>by have h:=xc x 0 (w+1);show vL x 0 (w+1)+dN 0 (w+1) * x ^ (w+1)<=_;rw [oU 0 (w+1) (by omega),PS];exact h
 | k+1,0=>by simp [vL]
 | k+1,w+1=>by rw [yB,NJ,O6,QF];have h1:=xc x k (w+1);have h2:=N6 x (xc x k w);rw [Pn x ((x+1) ^ k)] at h2;omega
theorem zC (O : aJ) {q m k : Nat} {sys : List ZZ} (rks : Lz) (hq : 2<=q) (hs : sys.length * q ^ k<=65536) (hs1 : 1<=sys.length) : ∀(f w : Nat) (b : Lz) (n : Nat) (o : ZZ),w+f=k->n<=sys.length * vL (q - 1) k (w+1) ->
  (DP O q m k sys rks f (w+1) b n o).2.2=0
 | 0,_,_,_,_,_,_=>rfl
 | f+1,w,b,n,o,hw,hn=>by
  obtain ⟨x,hx⟩ : ∃x,q - 1=x+1:=⟨q - 2,by omega⟩
  have hle : vL (q - 1) k (w+2)<=q ^ k:=by have h:=xc (q - 1) k (w+2);rwa [show q - 1+1=q by omega] at h
  have hbs : vL (q - 1) k (w+2)=vL (q - 1) k (w+1)+dN k (w+1) * (q - 1) ^ (w+1):=rfl;have hC:=oc k (w+1) (by omega);have hX : 1<=(q - 1) ^ (w+1):=Qe (by omega);have h1 : dN k (w+1)<=dN k (w+1) * (q - 1) ^ (w+1):=Nat.le_mul_of_pos_right _ hX;have h2 : (q - 1) ^ (w+1)<=dN k (w+1) * (q - 1) ^ (w+1):=OU _ hC;have h3 : (q - 1) ^ w<=(q - 1) ^ (w+1):=Ns (by omega) (by omega);have h4 : q ^ k<=sys.length * q ^ k:=OU _ hs1;have h5 : su q k sys.length (w+1)<=sys.length * (dN k (w+1) * (q - 1) ^ (w+1)):=by unfold su;rw [Nu];exact N6 _ (N6 _ h3)
  have h6 : sys.length * vL (q - 1) k (w+2)<=sys.length * q ^ k:=N6 _ hle;have h7 : sys.length * vL (q - 1) k (w+2)=sys.length * vL (q - 1) k (w+1)+sys.length * (dN k (w+1) * (q - 1) ^ (w+1)):=by rw [hbs,O6]
  have hm : mX q k sys.length n (w+1)=true:=by unfold mX;simp only [MC,MG];rw [Nu];refine ⟨⟨?_,?_⟩,?_⟩ <;> omega
  rw [DP,Mg hm];split
  ·rfl
  ·exact zC O rks hq hs hs1 f (w+1) _ _ _ (by omega) (by rw [h7];omega)
section
variable {P M : Int} {mod : Lz} {m : Nat} {L : ZZ}
theorem GG (hE : aH P M mod m L=0) (hk : 1<=L.length) : 1<=(kS P M mod m L).length/\(kS P M mod m L).length<=m:=by unfold kS;rw [Mx];refine ⟨?_,(gB hE).2⟩;exact List.length_pos_iff.2 (xL hE hk)
theorem JH (hE : aH P M mod m L=0) (hk : 1<=L.length) : iw P M mod m L=([],[],8)\/∃o b,iw P M mod m L=(o,b,0)/\nK P M mod m L b/\(∀x,CW P M mod m L x->qy b (gv (aa P M.toNat mod).ops x))/\(∀r ∈ o,yL P M mod m L r)/\1<=o.length:=by
 obtain ⟨N',e,hm1,hm64,F,hR⟩:=aS hE;obtain rfl : m=N':=by omega
 have hkm:=wh hE;obtain ⟨⟨o,b,er⟩,hr⟩ : ∃r,iw P M mod m L=r:=⟨_,rfl⟩
 have hr2:=hr;unfold iw at hr2;rw [Mh (by rw [hE];decide),Mh (by omega),Mm] at hr2;rcases F2 hE hk (by omega) L.length 0 [] 0 [] (by omega) (.inl ⟨rfl,rfl⟩) (λx hx ht=>by obtain ⟨t,ht,h0⟩:=ht;have hc:=fS (gB hE).1 t ht;exact absurd (Nat.le_zero.1 h0) (C3 hE hc.1 hc.2.1 hx)) (by simp) hr2 with ⟨rfl,rfl,rfl⟩ | ⟨rfl,h2,h3,h4,h5⟩
 ·exact .inl hr
 ·refine .inr ⟨o,b,hr,h2,h3,h4,?_⟩;rw [Mh (by omega)] at h5;simpa using h5
theorem Gk (hE : aH P M mod m L=0) (hk : 1<=L.length) (hf : m * (aa P M.toNat mod).q ^ L.length<=65536) : ∃o b,iw P M mod m L=(o,b,0)/\nK P M mod m L b/\(∀x,CW P M mod m L x->qy b (gv (aa P M.toNat mod).ops x))/\(∀r ∈ o,yL P M mod m L r)/\1<=o.length:=by
 obtain ⟨N',e,hm1,hm64,F,hR⟩:=aS hE;obtain rfl : m=N':=by omega
 obtain ⟨h1,h2⟩:=GG hE hk;have h0 : (iw P M mod m L).2.2=0:=by unfold iw;rw [Mh (by rw [hE];decide),Mh (by omega),Mm];have hq : (1 : Int)<(aa P M.toNat mod).q:=F.one.2;exact zC _ _ (by omega) (Mt (Nat.mul_le_mul_right _ h2) hf) h1 L.length 0 [] 0 [] (by omega) (Mj _)
 rcases JH hE hk with h | h
 ·rw [h] at h0;cases h0
 ·exact h
theorem GJ (hE : aH P M mod m L=0) {b : Lz} (h : ∀x,CW P M mod m L x->qy b (gv (aa P M.toNat mod).ops x)) {x : Lz} (hx : CW P M mod m L x) : cw b<=cw x:=by
 obtain ⟨N',e,hm1,hm64,F,hR⟩:=aS hE;obtain rfl : m=N':=by omega
 have h1:=(h x hx).wt;rwa [rp F hx.1 hx.2.2] at h1
end
theorem wj (P M : Int) (am : OA) (mn cm : Nat) (mod : Lz) (N : Int) (a : OA) (n c : Nat) (L : ZZ) (w : World) (hmod : Ints w am mn mod) (hi : cU w a n L) :
  Calls prog 43 #[.agg #[.int .i64 P,.int .i64 M,.slice am mn cm,.int .i64 N,.slice a n c]] w (lX w):=by
 have H : Hid (∀V,Rs w V->Calls prog 28 #[.agg #[.int .i64 P,.int .i64 M,.slice am mn cm,.int .i64 N,.slice a n c],.int .i64 120] V (lX V)):=λV hV=>Ce P M am mn cm N a n c 120 L V (hi.ah hV) (by omega);have H2 : Hid (∀V,Rs w V->Calls prog 22 #[.agg #[.int .i64 P,.int .i64 M,.slice am mn cm,.int .i64 N,.slice a n c]] V λe w'=>e = .returned (.int .i64 (aH P M mod N L))/\Rs V w'):=λV hV=>Be P M am mn cm mod N a n c L V (hmod.ah hV) (hi.ah hV);clear hi hmod;go_enter func43,ntmps43;go_upto_region 1 with fail;obtain ⟨W,hW⟩ : ∃W : World,W=w.alloc (.cells #[.int .i64 P,.int .i64 M,.slice am mn cm,.int .i64 N,.slice a n c] 27):=⟨_,rfl⟩
 rw [<- hW];have hbW : Rs w W:=by rw [hW];exact aB _ _
 have x0 : bf W w.heap.size [.int .i64 P,.int .i64 M,.slice am mn cm,.int .i64 N,.slice a n c]:=by rw [hW];exact QS _ _ _ rfl
 have HX:=Z5 x0;have c0:=x0.cell 0 rfl;have c1:=x0.cell 1 rfl;have c2:=x0.cell 2 rfl;have c3:=x0.cell 3 rfl;have c4:=x0.cell 4 rfl;clear hW x0;have Hf:=Z5 (H.out W hbW);generalize aH P M mod N L=er at *;clear H;go_wp2_with fail;refine Hf.out.mono ?_;rintro e w1 ⟨z,rfl,hb1⟩;have hF:=QQ hbW hb1;clear c0 c1 c2 c3 c4;cases z
 ·go_wp2_with fail;go_ret;exact ⟨_,rfl,hF⟩
 have x1:=HX.out.ah hb1;have c0:=x1.cell 0 rfl;have c1:=x1.cell 1 rfl;have c2:=x1.cell 2 rfl;have c3:=x1.cell 3 rfl;have c4:=x1.cell 4 rfl;clear x1;go_wp2_with fail;refine (H2.out w1 hF).mono ?_;rintro e w2 ⟨rfl,hb2⟩;have hF2:=QQ hF hb2;have q3:=(HX.out.ah (QQ hb1 hb2)).cell 3 rfl;clear c0 c1 c2 c3 c4;by_cases hE : er=0
 ·have d0 : (er != 0)=false:=by simpa using hE
  clear hE;by_cases h1 : 16<N
  ·have d1 : decide (16<N)=true:=by simpa using h1
   clear h1;go_wp2_with fail;go_ret;exact ⟨_,rfl,hF2⟩
  ·have d1 : decide (16<N)=false:=by simpa using h1
   clear h1;go_wp2_with fail;go_ret;exact ⟨_,rfl,hF2⟩
 ·have d0 : (er != 0)=true:=by simpa using hE
  clear hE;go_wp2_with fail;go_ret;exact ⟨_,rfl,hF2⟩
def Df (er : Int) (X : Lz) (w : World) (e : Ending) (w' : World) : Prop :=
 Rs w w'/\∃a n c,e = .returned (.tuple #[.slice a n c,.int .i64 er])/\Ints w' a n X
theorem Jk {w w' : World} {er : Int} {X : Lz} (hb : Rs w w') (h : er ≠ 0) : Df er (if er=0 then X else []) w (.returned (.tuple #[.slice none 0 0,.int .i64 er])) w':=by rw [Mh h];exact ⟨hb,none,0,0,rfl,QX _ _⟩
theorem IB {w w' : World} {er : Int} {X : Lz} {a : OA} {n c : Nat} (hb : Rs w w') (h : er=0) (hX : Ints w' a n X) : Df er (if er=0 then X else []) w (.returned (.tuple #[.slice a n c,.int .i64 0])) w':=by rw [Mg h];exact ⟨hb,a,n,c,by rw [h],hX⟩
def KF (P M : Int) (mod : Lz) (N : Int) (L : ZZ) : Lz:=if gh P M mod N L=0 then lu (aa P M.toNat mod).ops L N.toNat L.length else []
theorem Fy {P M : Int} {mod : Lz} {N : Int} {L : ZZ} (h : gh P M mod N L=0) : ∃(m : Nat),N=m/\1<=m/\m<=16/\bR (aa P M.toNat mod).ops (aa P M.toNat mod).El/\bx (aa P M.toNat mod).El m L:=by obtain ⟨hE,h1,h16⟩:=kL h;obtain ⟨m,hm,hm1,hm64,F,hR⟩:=aS hE;exact ⟨m,hm,hm1,by omega,F,hR⟩
section
variable (P M : Int) (am : OA) (mn cm : Nat) (mod : Lz) (N : Int) (a : OA) (n c : Nat) (L : ZZ) (w : World)
theorem DB (hmod : Ints w am mn mod) (hi : cU w a n L) :
  Calls prog 44 #[.agg #[.int .i64 P,.int .i64 M,.slice am mn cm,.int .i64 N,.slice a n c]] w (Df (gh P M mod N L) (KF P M mod N L) w):=by
 refine (qJ P M am mn cm mod N a n c L w hmod hi).mono ?_;rintro e w' ⟨hb,⟨h0,rfl⟩ | ⟨h0,a',c',rfl,h⟩⟩
 ·exact Jk hb h0
 ·refine IB hb h0 ?_;obtain ⟨m,rfl,hm1,hm16,F,hR⟩:=Fy h0;rw [Mm] at h ⊢;rw [<- Ko F hR (by omega)];exact (QR h).1
end
section
variable {O : aJ} {El : Int->Prop} {m : Nat} {A L : ZZ}
theorem DC (F : bR O El) (hA : bx El m A) (hL : bx El m L) {Z : Z6} (hZ : ∀z ∈ Z,z<m) (hiff : ∀f,(∀x,x<m->El (f x))->(RS O El m A f ↔ RS O El m L f/\∀z ∈ Z,f z=0)) {z : Nat} (hz : Rk (ie O El L.length (aK L)) Z z) :
  ∀ {l : Z6} {s : Nat},(∀y ∈ l,y<m)->Rk (ie O El A.length (aK A)) l s->∀ {n},Rk (ie O El L.length (aK L)) (l ++ Z) n->s+z=n:=by
 intro l s hl hr;have hstep : ∀ {l : Z6} {x : Nat},(∀y ∈ l,y<m)->x<m->(ie O El L.length (aK L) (l ++ Z) x ↔ ie O El A.length (aK A) l x):=λ{l x} hl hx=>by
  rw [kW (m:=m) hl hx,kW (m:=m) (λy hy=>by rcases List.mem_append.1 hy with h | h;exact hl y h;exact hZ y h) hx];constructor
  ·intro hc f hf hf0;obtain ⟨g1,g2⟩:=(hiff f λx hx=>hf.el F hA hx).1 hf;refine hc f g1 λy hy=>?_;rcases List.mem_append.1 hy with h | h
   ·exact hf0 y h
   ·exact g2 y h
  ·intro hc f hf hf0;exact hc f ((hiff f λx hx=>hf.el F hL hx).2 ⟨hf,λz hz=>hf0 z (by simp [hz])⟩) λy hy=>hf0 y (by simp [hy])
 induction hr with
 | nil=>intro n hn;rw [Nv] at hn;rw [hz.uniq hn];omega
 | dep x hx _ ih =>
  intro n hn
  rw [Np] at hn
  cases hn with
  | dep _ _ h2=>exact ih (λy hy=>hl y (by simp [hy])) h2
  | ind _ h1 h2=>exact absurd ((hstep (λy hy=>hl y (by simp [hy])) (hl x (by simp))).2 hx) h1
 | ind x hx _ ih =>
  intro n hn
  rw [Np] at hn
  cases hn with
  | dep _ h1 h2=>exact absurd ((hstep (λy hy=>hl y (by simp [hy])) (hl x (by simp))).1 h1) hx
  | ind _ _ h2=>have:=ih (λy hy=>hl y (by simp [hy])) h2;omega
end
section
variable {P M : Int} {mod : Lz} {m : Nat} {L : ZZ}
theorem JI (hE : aH P M mod m L=0) (S : Lz) : ((fI (aa P M.toNat mod) m L S).length : Int)=fQ (aa P M.toNat mod).ops L m S:=by
 obtain ⟨N',em,hm1,hm64,F,hR⟩:=aS hE;obtain rfl : m=N':=by omega
 have hT:=mO (Z:=aL false S m) F hR;have hMr:=my (O:=(aa P M.toNat mod).ops) F hR (jn F hT);have hrk:=mB F hMr;have hin : Lg m (aL false S m):=λz hz=>by obtain ⟨i,h1,h2,_⟩:=(bh m).1 hz;omega
 have hZ : ∀z ∈ gA (aL false S m),z<m:=λx hx=>by obtain ⟨y,hy,rfl⟩:=dp.1 hx;have:=hin y hy;omega
 have hA:=(pc hE S).1;obtain ⟨n,hn⟩:=Rq (ie (aa P M.toNat mod).ops (aa P M.toNat mod).El L.length (aK L)) (List.range m ++ gA (aL false S m));have hnk : L.length=n:=Q9 (da F hR) (gg hE) hn λx=>by rw [M0,M8];exact ⟨λh=>.inl h,λh=>by rcases h with h | h;exact h;exact hZ x h⟩
 have h:=DC F hA hR hZ (λf hf=>by
  refine (oE F hR hin hf).trans ?_;constructor
  ·rintro ⟨h1,h2⟩;refine ⟨h1,λz hz=>?_⟩;obtain ⟨y,hy,rfl⟩:=dp.1 hz;exact h2 y hy
  ·rintro ⟨h1,h2⟩;exact ⟨h1,λz hz=>h2 _ (dp.2 ⟨z,hz,rfl⟩)⟩) (dP F hR (aL false S m)) (λy hy=>List.mem_range.1 hy) hrk hn
 have h2 : (fI (aa P M.toNat mod) m L S).length+jI (aa P M.toNat mod).ops L (aL false S m)=n:=h;unfold fQ;omega
end
theorem Ca (x : Lz) (m : Nat) : (uy x m).Nodup:=by unfold uy List.Nodup;rw [Nr];exact NA (λh e=>h (Int.ofNat.inj e)) (Ot _ (PJ (n:=m)))
theorem JN {x s : Lz} {m : Nat} (h : x.length=m) (hs : ∀j : Nat,j<m->¬ (j : Int) ∈ s->nth x j=0) : cw x<=s.length:=by rw [<- te h];refine kc (Ca x m) λy hy=>?_;obtain ⟨j,hj,hn,rfl⟩:=rD.1 hy;exact Mv λhc=>hn (hs j hj hc)
theorem zG (x : Lz) (m : Nat) : ue 0 m (uy x m):=by
 refine ⟨?_,λy hy=>?_⟩
 ·unfold uy;rw [Nr];exact NA (λh=>Int.ofNat_lt.2 h) (Ot _ PQ)
 ·obtain ⟨j,hj,_,rfl⟩:=rD.1 hy;omega
section
variable {P M : Int} {mod : Lz} {m : Nat} {L : ZZ}
theorem Kk (hE : aH P M mod m L=0) {v : Lz} (hl : v.length=L.length) (hv : ∀k,k<L.length->(aa P M.toNat mod).El (nth v k)) (h0 : cw v ≠ 0) : CW P M mod m L (bK (aa P M.toNat mod).ops m v L L.length):=by
 obtain ⟨N',e,hm1,hm64,F,hR⟩:=aS hE;obtain rfl : m=N':=by omega
 obtain ⟨c1,c2⟩:=gH F hR hv L.length (Mf _);refine ⟨c1,c2,λhz=>h0 (oB.2 λk hk=>?_)⟩;obtain ⟨p,hp,hpl⟩:=y7 hE;have hpk:=hp.lt k (by omega);rw [<- CE hE hp hpl hv (by omega : k<L.length)];exact oB.1 hz _ (by rw [c1.1];omega)
theorem Kb (hE : aH P M mod m L=0) {x : Lz} (hx : CW P M mod m L x) : ∃v : Lz,v.length=L.length/\(∀k,k<L.length->(aa P M.toNat mod).El (nth v k))/\x=bK (aa P M.toNat mod).ops m v L L.length/\cw v ≠ 0:=by
 obtain ⟨N',e,hm1,hm64,F,hR⟩:=aS hE;obtain rfl : m=N':=by omega
 obtain ⟨v,hv,h2⟩:=RS.LB F hR hx.2.1;have hve : ∀k,k<L.length->(aa P M.toNat mod).El (nth v k):=λk hk=>hv.at hk;have c1:=(gH F hR hve L.length (Mf _)).1;have hxe : x=bK (aa P M.toNat mod).ops m v L L.length:=fR (by rw [hx.1.1,c1.1]) λi hi=>h2 i (by rw [<- hx.1.1];exact hi);refine ⟨v,hv.1,hve,hxe,λh0=>hx.2.2 ?_⟩;rw [hxe,tQ _ _ (gQ.1 h0) _ (by rw [hv.1];exact Mf _)];exact gQ.2 zr
theorem Jf (hE : aH P M mod m L=0) {i : Nat} (hi : i<=m) : 1<=gT (aa P M.toNat mod).ops L m i ↔ ∃x,CW P M mod m L x/\cw x<=i:=by
 obtain ⟨N',e,hm1,hm64,F,hR⟩:=aS hE;obtain rfl : m=N':=by omega
 constructor
 ·intro h;obtain ⟨_,t,ht,hl,he⟩:=en F hR hm64 hi;rw [he] at h;unfold fQ at h;obtain ⟨v,hvl,hve,hv0,hz⟩:=GQ hE (Q:=aL false t m) (by omega) λx hx=>by obtain ⟨j,hj,rfl,_⟩:=(bh m).1 hx;omega
  have hc:=Kk hE hvl (λk hk=>hve _ (aN (by omega))) hv0;refine ⟨_,hc,?_⟩;rw [<- hl];refine JN hc.1.1 λj hj hjt=>?_;have:=hz (j : Int) ((bh m).2 ⟨j,hj,rfl,by simpa using hjt⟩);simpa using this
 ·rintro ⟨x,hx,hw⟩;have hs:=te hx.1.1;have h1:=kO hE (i - cw x) (cw x) (by omega);rw [show cw x+(i - cw x)=i by omega] at h1;have h2:=(en F hR hm64 (show cw x<=m by omega)).1 _ (zG x m) hs;refine OM (OM ?_ h2) h1;refine Mv λhn=>?_;unfold fQ at hn;obtain ⟨v,hvl,hve,rfl,hv0⟩:=Kb hE hx;refine hv0 (oB.2 λk hk=>Gs hE (Q:=aL false (uy (bK (aa P M.toNat mod).ops m v L L.length) m) m) (by omega) (λx hx=>?_) hve (λx hx=>?_) k (by omega))
  ·obtain ⟨j,hj,rfl,_⟩:=(bh m).1 hx;omega
  ·obtain ⟨j,hj,rfl,hdj⟩:=(bh m).1 hx;refine Mv λhne=>?_;have hn : ¬ (j : Int) ∈ uy (bK (aa P M.toNat mod).ops m v L L.length) m:=by simpa using hdj
   exact hn (rD.2 ⟨j,hj,by simpa using hne,rfl⟩)
theorem zY (hE : aH P M mod m L=0) {b : Lz} (hb : nK P M mod m L b) (h : ∀x,CW P M mod m L x->qy b (gv (aa P M.toNat mod).ops x)) {i : Nat} (hi : i<=m) : 1<=gT (aa P M.toNat mod).ops L m i ↔ cw b<=i:=by
 rw [Jf hE hi];constructor
 ·rintro ⟨x,hx,hw⟩;exact Mt (GJ hE h hx) hw
 ·intro hw;exact ⟨b,hb.1,hw⟩
end
def uD (R : ZZ) (i : Nat) : Bool:=R.any λr=>nth r i != 0
def eC (R : ZZ) : Nat->Lz
 | 0=>[]
 | k+1=>if uD R k=true then eC R k ++ [(k : Int)] else eC R k
theorem mF {R : ZZ} {y : Int} : ∀ {k : Nat},y ∈ eC R k ↔ ∃j : Nat,j<k/\y=j/\uD R j=true
 | 0=>by simp [eC]
 | k+1=>by
  have ih:=mF (R:=R) (y:=y) (k:=k);rw [eC];by_cases h : uD R k=true
  ·rw [Mg h,M0,MK,ih];constructor
   ·rintro (⟨j,h1,h2,h3⟩ | rfl)
    ·exact ⟨j,by omega,h2,h3⟩
    ·exact ⟨k,by omega,rfl,h⟩
   ·rintro ⟨j,h1,h2,h3⟩;by_cases e : j=k
    ·exact .inr (by rw [h2,e])
    ·exact .inl ⟨j,by omega,h2,h3⟩
  ·rw [Mh h,ih];constructor
   ·rintro ⟨j,h1,h2,h3⟩;exact ⟨j,by omega,h2,h3⟩
   ·rintro ⟨j,h1,h2,h3⟩;by_cases e : j=k
    ·rw [e] at h3;exact absurd h3 h
    ·exact ⟨j,by omega,h2,h3⟩
theorem py (R : ZZ) (m : Nat) : ∀k,k<=m->ue 0 m (eC R k)
 | 0,_=>⟨by simp [eC],by simp [eC]⟩
 | k+1,hk=>by
  obtain ⟨h1,h2⟩:=py R m k (by omega);rw [eC];by_cases h : uD R k=true
  ·rw [Mg h];refine ⟨List.pairwise_append.2 ⟨h1,by simp,λa ha b hb=>?_⟩,λx hx=>?_⟩
   ·obtain ⟨j,g1,g2,_⟩:=mF.1 ha;rw [List.mem_singleton.1 hb];omega
   ·rcases List.mem_append.1 hx with hx | hx
    ·exact h2 x hx
    ·rw [List.mem_singleton.1 hx];omega
  ·rw [Mh h];exact ⟨h1,h2⟩
theorem vo (R : ZZ) : ∀k,(eC R k).length<=k
 | 0=>by simp [eC]
 | k+1=>by
  have ih:=vo R k;rw [eC];split
  ·rw [Mp,Mz];omega
  ·omega
section
variable {P M : Int} {mod : Lz} {m : Nat} {L : ZZ}
theorem It (hE : aH P M mod m L=0) {D : ZZ} (hD : bx (aa P M.toNat mod).El m D) (hs : gF (aa P M.toNat mod).ops (aa P M.toNat mod).El m D L)
  (hrk : Rk (ie (aa P M.toNat mod).ops (aa P M.toNat mod).El D.length (aK D)) (List.range m) D.length) : (D.length : Int)<=fQ (aa P M.toNat mod).ops L m (eC D m):=by
 obtain ⟨N',em,hm1,hm64,F,hR⟩:=aS hE;obtain rfl : m=N':=by omega
 have hZ : ∀z ∈ gA (aL false (eC D m) m),z<m:=λx hx=>by obtain ⟨y,hy,rfl⟩:=dp.1 hx;obtain ⟨i,h1,h2,_⟩:=(bh m).1 hy;omega
 have h0 : ∀r ∈ D,∀z ∈ gA (aL false (eC D m) m),nth r z=0:=λr hr z hz=>by obtain ⟨y,hy,rfl⟩:=dp.1 hz;obtain ⟨i,h1,h2,h3⟩:=(bh m).1 hy;subst h2;rw [Mm];refine Oy λh=>?_;refine (of_decide_eq_false h3) (mF.2 ⟨i,h1,rfl,?_⟩);unfold uD;exact List.any_eq_true.2 ⟨r,hr,by simpa using h⟩
 obtain ⟨n,hn⟩:=Rq (ie (aa P M.toNat mod).ops (aa P M.toNat mod).El L.length (aK L)) (List.range m ++ gA (aL false (eC D m) m));have hnk : L.length=n:=Q9 (da F hR) (gg hE) hn λx=>by rw [M0,M8];exact ⟨λh=>.inl h,λh=>by rcases h with h | h;exact h;exact hZ x h⟩
 have h:=J7 F hD hR hs hZ h0 (dP F hR (aL false (eC D m) m)) (λy hy=>List.mem_range.1 hy) hrk hn;have h2 : D.length+jI (aa P M.toNat mod).ops L (aL false (eC D m) m)<=n:=h;unfold fQ;omega
end
theorem uH {α : Type} [DecidableEq α] : ∀ {s T : List α},s.Nodup->(∀x ∈ s,x ∈ T)->s.length<=T.length
 | [],_,_,_=>Mj _
 | x :: s,T,hn,h=>by have hx : x ∈ T:=h x (by simp);have hn':=List.nodup_cons.1 hn;have h1 : ∀y ∈ s,y ∈ T.erase x:=λy hy=>(Qa (λ(e : y=x)=>hn'.1 (by rw [<- e];exact hy))).2 (h y (by simp [hy]));have h2:=uH hn'.2 h1;rw [PD hx] at h2;have : 0<T.length:=PM hx;simp only [MT];omega
theorem rT {α β : Type} (p : α->β->Bool) : ∀(A : List α) (B : List β),(A.map λu=>B.countP (p u)).sum=(B.map λi=>A.countP λu=>p u i).sum
 | [],B=>by
  simp only [Pj,List.sum_nil,List.countP_nil];induction B with
  | nil=>rfl
  | cons b B ih=>simpa using ih
 | u :: A,B=>by
  rw [Nc,PF,rT p A B];clear rT;induction B with
  | nil=>rfl
  | cons b B ih =>
   simp only [Oa,Nc,PF] at ih ⊢
   split <;> omega
theorem GR {α : Type} {f : α->Nat} {e : Nat} : ∀ {A : List α},(∀x ∈ A,f x<=e)->(A.map f).sum<=A.length * e
 | [],_=>by simp
 | x :: A,h=>by have h1:=GR (A:=A) λy hy=>h y (by simp [hy]);have h2:=h x (by simp);rw [Nc,PF,MT,Ou,Qg];omega
theorem F8 {α : Type} {f : α->Nat} {e : Nat} : ∀ {A : List α},(∀x ∈ A,e<=f x)->A.length * e<=(A.map f).sum
 | [],_=>by simp
 | x :: A,h=>by have h1:=F8 (A:=A) λy hy=>h y (by simp [hy]);have h2:=h x (by simp);rw [Nc,PF,MT,Ou,Qg];omega
theorem xF {l : Lz} (h : l.Pairwise (· < ·)) : ∀(d i : Nat),i+d<l.length->nth l i+d<=nth l (i+d)
 | 0,i,_=>by simp
 | d+1,i,hi=>by have h1:=xF h d i (by omega);have h2:=List.pairwise_iff_getElem.1 h (i+d) (i+d+1) (by omega) (by omega) (by omega);rw [<- aj (by omega),<- aj (by omega)] at h2;rw [<- N5];omega
section
variable {O : aJ} {El : Int->Prop} {m : Nat} {L : ZZ}
theorem Cr (F : bR O El) {a s t : Int} (ha : El a) (hs : El s) (ht : El t) (h0 : a ≠ 0) (h : O.mul s a=O.mul t a) : s=t:=by
 have hi:=F.cl.inv a ha h0;have h1 : O.mul (O.mul s a) (O.inv a)=O.mul (O.mul t a) (O.inv a):=by rw [h]
 rw [F.mul_assoc s a _ hs ha hi,F.mul_assoc t a _ ht ha hi,F.mul_inv a ha h0,F.iE hs,F.iE ht] at h1;exact h1
theorem Fl (F : bR O El) (hL : bx El m L) {Q Q' : Lz} (h : ∀x ∈ Q,ie O El L.length (aK L) (gA Q') x.toNat) : jI O L Q<=jI O L Q' :=
 Rm (da F hL) (dP F hL Q) (dP F hL Q') λx hx=>by obtain ⟨y,hy,rfl⟩:=dp.1 hx;exact h y hy
end
section
variable {P M : Int} {mod : Lz} {m : Nat} {L : ZZ}
theorem DD (hE : aH P M mod m L=0) (hk : 1<=L.length) {b : Lz} (hb : nK P M mod m L b) (h : ∀x,CW P M mod m L x->qy b (gv (aa P M.toNat mod).ops x)) : (dM (aa P M.toNat mod).ops L m 1).length=cw b:=by
 obtain ⟨N',e,hm1,hm64,F,hR⟩:=aS hE;obtain rfl : m=N':=by omega
 obtain ⟨a1,a2,a3⟩:=iP F hR hm64 (r:=1) (by omega);have hl:=kb a1 (Mj m);have hbm : cw b<=m:=by rw [<- te hb.1.1.1];exact kb (zG b m) (Mj m) |> λh=>by omega
 refine O9 ?_ ?_
 ·obtain ⟨_,t,t1,t2,t3⟩:=en F hR hm64 hbm;have h1:=(zY hE hb h hbm).2 (Mf _);rw [<- t2];exact a3 t t1 (by rw [<- t3];exact h1)
 ·have h1:=(en F hR hm64 (show (dM (aa P M.toNat mod).ops L m 1).length<=m by omega)).1 _ a1 rfl;exact (zY hE hb h (by omega)).1 (by omega)
theorem GV (hE : aH P M mod m L=0) : (dM (aa P M.toNat mod).ops L m L.length).length=(eC L m).length:=by
 obtain ⟨N',e,hm1,hm64,F,hR⟩:=aS hE;obtain rfl : m=N':=by omega
 obtain ⟨a1,a2,a3⟩:=iP F hR hm64 (r:=(L.length : Int)) (Ob _);refine O9 ?_ ?_
 ·exact a3 _ (py L m m (Mf _)) (It hE hR (λi hi=>Q5 F hi) (gg hE))
 ·have hn : (eC L m).Nodup:=by unfold List.Nodup;exact NA (λh e=>by omega) (py L m m (Mf _)).1
  refine kc hn λy hy=>?_;obtain ⟨j,hj,rfl,hany⟩:=mF.1 hy;refine Mv λhc=>?_;unfold fQ at a2;have h1:=sH F hR (Q:=[(j : Int)]) (Q':=aL false (dM (aa P M.toNat mod).ops L m L.length) m) λx hx=>by rw [MK] at hx;subst hx;exact (bh m).2 ⟨j,hj,rfl,by simpa using hc⟩
  have h2 : ie (aa P M.toNat mod).ops (aa P M.toNat mod).El L.length (aK L) [] j:=by refine Mv λhn=>?_;have h3:=ru F hR (Q:=[]) (x:=(j : Int)) (by simpa [gA,kT] using hn);simp only [Nv] at h3;omega
  unfold uD at hany;obtain ⟨r,hr,h4⟩:=List.any_eq_true.1 hany;obtain ⟨i,hi,rfl⟩:=fJ hr;have:=qo F h2 i hi;rw [this] at h4;simp at h4
theorem Eg (hE : aH P M mod m L=0) {r : Nat} (hr1 : 2<=r) (hrk : r<=L.length) :
  (((aa P M.toNat mod).q : Int) ^ r - 1) * (dM (aa P M.toNat mod).ops L m ((r : Int) - 1)).length<=(((aa P M.toNat mod).q : Int) ^ r - (aa P M.toNat mod).q) * (dM (aa P M.toNat mod).ops L m r).length:=by
 obtain ⟨N',e,hm1,hm64,F,hR⟩:=aS hE;obtain rfl : m=N':=by omega
 obtain ⟨a1,a2,a3⟩:=iP F hR hm64 (r:=(r : Int)) (by omega);obtain ⟨_,_,b3⟩:=iP F hR hm64 (r:=(r : Int) - 1) (by omega);obtain ⟨T,hT⟩ : ∃T,dM (aa P M.toNat mod).ops L m r=T:=⟨_,rfl⟩
 rw [hT] at a1 a2 a3 ⊢;have hTn : T.Nodup:=by unfold List.Nodup;exact NA (λh e=>by omega) a1.1
 have hrmv : ∀p : Int->Bool,ue 0 m (T.filter p):=λp=>⟨a1.1.filter p,λx hx=>a1.2 x (List.mem_filter.1 hx).1⟩
 have hrk2:=dP F hR (aL false T m);have hZm : ∀x ∈ gA (aL false T m),x<m:=λx hx=>by obtain ⟨y,hy,rfl⟩:=dp.1 hx;obtain ⟨j,hj,rfl,_⟩:=(bh m).1 hy;simpa using hj
 have hZi : Lg m (aL false T m):=λz hz=>by obtain ⟨i,h1,h2,_⟩:=(bh m).1 hz;omega
 obtain ⟨hD,_,_,_⟩:=pc hE T;have hDl:=JI hE T;have hiff:=λ{f : Nat->Int} (hf : ∀x,x<m->(aa P M.toNat mod).El (f x))=>oE F hR hZi hf;change ∀ {f : Nat->Int},(∀x,x<m->(aa P M.toNat mod).El (f x))->(RS _ _ m (fI (aa P M.toNat mod) m L T) f ↔ _) at hiff;obtain ⟨D,hDD⟩ : ∃D,fI (aa P M.toNat mod) m L T=D:=⟨_,rfl⟩
 rw [hDD] at hD hDl hiff;have hcl : ∀ {l : Z6} {x : Nat},(∀y ∈ l,y<m)->x<m->ie (aa P M.toNat mod).ops (aa P M.toNat mod).El D.length (aK D) l x->ie (aa P M.toNat mod).ops (aa P M.toNat mod).El L.length (aK L) (l ++ gA (aL false T m)) x:=λ{l x} hl hx h=>by rw [kW (m:=m) hl hx] at h;rw [kW (m:=m) (λy hy=>by rcases List.mem_append.1 hy with h | h;exact hl y h;exact hZm y h) hx];intro f hf h0;refine h f ((hiff λx hx=>hf.el F hR hx).2 ⟨hf,λz hz=>h0 _ ?_⟩) λy hy=>h0 y (by simp [hy]);exact List.mem_append.2 (.inr (dp.2 ⟨z,hz,rfl⟩))
 have hdim : ∀(p : Int->Bool),fQ (aa P M.toNat mod).ops L m (T.filter p)=(L.length : Int) - (jI (aa P M.toNat mod).ops L (aL false (T.filter p) m) : Nat):=λp=>rfl;have hdT : fQ (aa P M.toNat mod).ops L m T=(L.length : Int) - (jI (aa P M.toNat mod).ops L (aL false T m) : Nat):=rfl;have hne : ∀i ∈ T,∃t,t<D.length/\nth (ai D t) i.toNat ≠ 0:=λi hi=>by
  refine Mv λhno=>?_;have him:=a1.2 i hi;have hci : ie (aa P M.toNat mod).ops (aa P M.toNat mod).El L.length (aK L) (gA (aL false T m)) i.toNat:=by have:=hcl (l:=[]) (x:=i.toNat) (by simp) (by omega) (by rw [kW (m:=m) (by simp) (by omega)];intro f hf _;exact hf.Lr F hD (by omega) λd hd=>by obtain ⟨t,ht,rfl⟩:=fJ hd;exact Mv λh=>hno ⟨t,ht,h⟩);simpa using this
  have h1 : jI (aa P M.toNat mod).ops L (aL false (T.filter λx=>decide (x ≠ i)) m)<=jI (aa P M.toNat mod).ops L (aL false T m):=Fl F hR λx hx=>by
   obtain ⟨j,hj,rfl,hj2⟩:=(bh m).1 hx;rw [decide_eq_false_iff_not] at hj2;by_cases hji : (j : Int)=i
   ·rw [hji];exact hci
   ·refine (da F hR).mem _ _ (dp.2 ⟨(j : Int),(bh m).2 ⟨j,hj,rfl,?_⟩,rfl⟩);rw [decide_eq_false_iff_not];exact λh=>hj2 (List.mem_filter.2 ⟨h,by simpa using hji⟩)
  have h2:=a3 _ (hrmv λx=>decide (x ≠ i)) (by rw [hdim];omega);have h3 : (T.filter λx=>decide (x ≠ i)).length<T.length:=by exact List.length_filter_lt_length_iff_exists.2 ⟨i,hi,by simp⟩
  omega
 have hrD : D.length=r:=by
  refine O9 ?_ (by omega);refine Mv λhgt=>?_;obtain ⟨i,hi⟩ : ∃i,i ∈ T:=by
   cases hTT : T with
   | nil =>
    rw [hTT] at hdT hDl
    have h1:=(en F hR hm64 (Mj m)).1 [] ⟨by simp,by simp⟩ rfl
    rw [xZ hE] at h1
    omega
   | cons x _=>exact ⟨x,by simp⟩
  have him:=a1.2 i hi;have h1 : jI (aa P M.toNat mod).ops L (aL false (T.filter λx=>decide (x ≠ i)) m)<=jI (aa P M.toNat mod).ops L (aL false T m ++ [i]):=sH F hR λx hx=>by
   obtain ⟨j,hj,rfl,hj2⟩:=(bh m).1 hx;rw [decide_eq_false_iff_not] at hj2;by_cases hji : (j : Int)=i
   ·simp [hji]
   ·refine List.mem_append.2 (.inl ((bh m).2 ⟨j,hj,rfl,?_⟩));rw [decide_eq_false_iff_not];exact λh=>hj2 (List.mem_filter.2 ⟨h,by simpa using hji⟩)
  have h0:=ma F hR (aL false T m) i;have h2:=a3 _ (hrmv λx=>decide (x ≠ i)) (by rw [hdim];omega);have h3 : (T.filter λx=>decide (x ≠ i)).length<T.length:=by exact List.length_filter_lt_length_iff_exists.2 ⟨i,hi,by simp⟩
  omega
 have hce : ∀i : Int,Vc (aa P M.toNat mod).El D.length (aK D i.toNat):=λi=>ch hD F.zero _;obtain ⟨par,hpar⟩ : ∃par : Lz->Int->Bool,par=λu i=>(dY (aa P M.toNat mod).q).any λs=>decide (u=(aK D i.toNat).map ((aa P M.toNat mod).ops.mul s)):=⟨_,rfl⟩
 have hpi : ∀u i,par u i=true ↔ ∃s ∈ dY (aa P M.toNat mod).q,u=(aK D i.toNat).map ((aa P M.toNat mod).ops.mul s):=λu i=>by rw [hpar];simp [Qz]
 have hse : ∀s ∈ dY (aa P M.toNat mod).q,(aa P M.toNat mod).El s/\s ≠ 0:=λs hs=>by have:=oP.1 hs;exact ⟨⟨by omega,by omega⟩,by omega⟩
 have hcls : ∀u,T.countP (par u)+(dM (aa P M.toNat mod).ops L m ((r : Int) - 1)).length<=T.length:=λu=>by
  by_cases hz : ∃i ∈ T,par u i=true
  ·obtain ⟨i,hi,hpu⟩:=hz;have him:=a1.2 i hi;obtain ⟨s,hs,hu⟩:=(hpi u i).1 hpu;obtain ⟨s1,s2⟩:=hse s hs;have h1 : jI (aa P M.toNat mod).ops L (aL false (T.filter λx=>!par u x) m)<=jI (aa P M.toNat mod).ops L (aL false T m ++ [i]):=Fl F hR λx hx=>by
    obtain ⟨j,hj,rfl,hj2⟩:=(bh m).1 hx;rw [decide_eq_false_iff_not] at hj2;by_cases hjT : (j : Int) ∈ T
    ·have hpj : par u (j : Int)=true:=Mv λh=>hj2 (List.mem_filter.2 ⟨hjT,by simpa using h⟩);obtain ⟨t,ht,hu2⟩:=(hpi u j).1 hpj;obtain ⟨t1,t2⟩:=hse t ht;have hc:=hcl (l:=[i.toNat]) (x:=j) (by intro y hy;rw [MK] at hy;omega) hj (by intro φ hφ h0;have h4:=h0 i.toNat (by simp);have h5:=hφ.yy _ t (hce (j : Int)) t1;have h6:=hφ.yy _ s (hce i) s1;rw [Mm] at hu2 h5;rw [<- hu2,hu,h6,h4,F.dt s1] at h5;have hel : (aa P M.toNat mod).El (φ (aK D j)):=hφ.el _ (by simpa using hce (j : Int));exact (nZ F t1 t2 hel).1 h5.symm);have e1 : gA (aL false T m ++ [i])=[i.toNat] ++ gA (aL false T m):=nX _ _;rw [e1];simpa using hc
    ·refine (da F hR).mem _ _ (dp.2 ⟨(j : Int),List.mem_append.2 (.inl ((bh m).2 ⟨j,hj,rfl,by simpa using hjT⟩)),rfl⟩)
   have h0:=ma F hR (aL false T m) i;have h2:=b3 _ (hrmv λx=>!par u x) (by rw [hdim];omega);have h3:=List.length_eq_countP_add_countP (par u) (l:=T);rw [<- Oi] at h2;simp only [decide_not] at h3;have e2 : (T.countP λa=>!decide (par u a=true))=T.countP λx=>!par u x:=Qv λx _=>by simp
   omega
  ·have : T.countP (par u)=0:=List.countP_eq_zero.2 λi hi h=>hz ⟨i,hi,h⟩;have h2:=b3 T a1 (by omega);omega
 obtain ⟨ms,hms⟩ : ∃ms,msgs (aa P M.toNat mod).q r=ms:=⟨_,rfl⟩
 have hml : ms.length=(aa P M.toNat mod).q ^ r:=by have h1:=qE (aa P M.toNat mod).ops (aa P M.toNat mod).q (List.replicate r []) [];rw [zF,Mx,Nb,hms] at h1;exact h1
 have hq : (1 : Int)<(aa P M.toNat mod).q:=F.one.2;obtain ⟨m0,hm0⟩:=uU (q:=(aa P M.toNat mod).q) (by omega) r;rw [hms] at hm0;have hmnd : ms.Nodup:=by rw [<- hms];exact tB _ _
 have hper : ∀i ∈ T,(aa P M.toNat mod).q - 1<=m0.countP λu=>par u i:=λi hi=>by
  obtain ⟨t,ht,hne0⟩:=hne i hi;have hct : nth (aK D i.toNat) t ≠ 0:=by rw [bM _ _ _ ht];exact hne0
  have hcl2 : (aK D i.toNat).length=D.length:=(hce i).1;have hn2 : ((dY (aa P M.toNat mod).q).map λs=>(aK D i.toNat).map ((aa P M.toNat mod).ops.mul s)).Nodup:=by
   unfold List.Nodup;rw [Nr];have hen : (dY (aa P M.toNat mod).q).Nodup:=by unfold dY List.Nodup;rw [Nr];exact NA (λh e=>by omega) (PJ (n:=(aa P M.toNat mod).q - 1))
   refine PE (λ{s s'} hs hs' hss h=>hss ?_) hen;have h5 : nth ((aK D i.toNat).map ((aa P M.toNat mod).ops.mul s)) t=nth ((aK D i.toNat).map ((aa P M.toNat mod).ops.mul s')) t:=by rw [h]
   rw [fZ _ _ _ (by omega),fZ _ _ _ (by omega)] at h5;exact Cr F ((hce i).at ht) (hse s hs).1 (hse s' hs').1 hct h5
  have h6:=uH (T:=m0.filter λu=>par u i) hn2 λu hu=>by
   obtain ⟨s,hs,rfl⟩:=List.mem_map.1 hu;have hv : Vc (aa P M.toNat mod).El D.length ((aK D i.toNat).map ((aa P M.toNat mod).ops.mul s)):=(hce i).yy F (hse s hs).1;have hmem : (aK D i.toNat).map ((aa P M.toNat mod).ops.mul s) ∈ ms:=by rw [<- hms];exact sE.2 ⟨by rw [hv.1,hrD],λx hx=>hv.2 x hx⟩
   rw [hm0] at hmem;refine List.mem_filter.2 ⟨?_,(hpi _ _).2 ⟨s,hs,rfl⟩⟩;refine (List.mem_cons.1 hmem).resolve_left λh=>?_;have h7 : nth ((aK D i.toNat).map ((aa P M.toNat mod).ops.mul s)) t=0:=by rw [h,aj (by rw [Nb];omega)];simp
   rw [fZ _ _ _ (by omega)] at h7;exact hct ((nZ F (hse s hs).1 (hse s hs).2 ((hce i).at ht)).1 h7)
  rw [Mx,l9] at h6;rwa [Oi]
 have hsw:=rT par m0 T;have hge:=F8 hper;have hle:=GR (A:=m0) (f:=λu=>T.countP (par u)) (e:=T.length - (dM (aa P M.toNat mod).ops L m ((r : Int) - 1)).length) λu _=>by have:=hcls u;omega
 rw [hsw] at hle;have hfin:=Mt hge hle;have hm0l : m0.length+1=(aa P M.toNat mod).q ^ r:=by rw [<- hml,hm0];simp
 have h9:=hcls [];obtain ⟨d1,hd1⟩ : ∃d1,(dM (aa P M.toNat mod).ops L m ((r : Int) - 1)).length=d1:=⟨_,rfl⟩
 rw [hd1] at hfin h9 ⊢;have hpw : ((aa P M.toNat mod).q : Int) ^ r=(m0.length : Int)+1:=by
  have : (((aa P M.toNat mod).q ^ r : Nat) : Int)=(m0.length : Int)+1:=by rw [<- hm0l];simp
  rw [<- this];simp
 rw [hpw];obtain ⟨q1,hq1⟩ : ∃q1,(aa P M.toNat mod).q=q1+1:=⟨(aa P M.toNat mod).q - 1,by omega⟩
 rw [hq1] at hfin ⊢;rw [Nu] at hfin;obtain ⟨x,hx⟩ : ∃x,T.length=d1+x:=⟨T.length - d1,by omega⟩
 rw [hx] at hfin ⊢;rw [Nat.add_sub_cancel_left] at hfin;have hf2 : ((d1 : Int)+x) * q1<=(m0.length : Int) * x:=by have:=Int.ofNat_le.2 hfin;simpa using this
 have e3 : ((m0.length : Int)+1 - ((q1+1 : Nat) : Int)) * ((d1+x : Nat) : Int)=(m0.length : Int) * d1+((m0.length : Int) * x - ((d1 : Int)+x) * q1):=by
  have e4 : ((q1+1 : Nat) : Int)=(q1 : Int)+1:=by omega
  have e5 : ((d1+x : Nat) : Int)=(d1 : Int)+x:=by omega
  rw [e4,e5,show (m0.length : Int)+1 - ((q1 : Int)+1)=(m0.length : Int) - q1 by omega,Px,NM,NF (q1 : Int)];omega
 rw [e3,show (m0.length : Int)+1 - 1=(m0.length : Int) by omega];omega
end
theorem uB (P M : Int) (am : OA) (mn cm : Nat) (mod : Lz) (N : Int) (a : OA) (n c : Nat) (L : ZZ) (w : World) (hmod : Ints w am mn mod) (hi : cU w a n L) :
  Calls prog 16 #[.agg #[.int .i64 P,.int .i64 M,.slice am mn cm,.int .i64 N,.slice a n c]] w λe w'=>e = .returned (.tuple #[.int .i64 (cw (iw P M mod N L).2.1 : Nat),.int .i64 (iw P M mod N L).2.2])/\Rs w w':=by
 have HRun : Hid (∀V,Rs w V->Calls prog 47 #[.agg #[.int .i64 P,.int .i64 M,.slice am mn cm,.int .i64 N,.slice a n c]] V (nY P M mod N L V)):=λV hV=>Jd P M am mn cm mod N a n c L V (hmod.ah hV) (hi.ah hV);obtain ⟨R,hR⟩ : ∃R,iw P M mod N L=R:=⟨_,rfl⟩
 unfold nY at HRun;rw [hR] at HRun ⊢;obtain ⟨er,her⟩ : ∃er,R.2.2=er:=⟨_,rfl⟩
 rw [her] at HRun ⊢;obtain ⟨z,hz⟩ : ∃z,cw R.2.1=z:=⟨_,rfl⟩
 rw [hz];have Hz:=Z5 hz;clear hmod hi hR her hz;go_enter func16,ntmps16;go_wp2_with fail;obtain ⟨U,hU⟩ : ∃U : World,U=w.alloc (.cells #[.int .i64 P,.int .i64 M,.slice am mn cm,.int .i64 N,.slice a n c] 27):=⟨_,rfl⟩
 rw [<- hU];have hbU : Rs w U:=by rw [hU];exact aB _ _
 clear hU;refine (HRun.out U hbU).mono ?_;rintro e w1 ⟨hb1,ar,nr,cr,ab,nb,cb,rfl,h1,h2⟩;have hF:=QQ hbU hb1;have hwt:=iV ab nb cb R.2.1 w1 h2;rw [Hz.out] at hwt;have Hwt:=Z5 hwt;clear hwt;clear h1 h2;go_wp2_with fail;refine Hwt.out.mono ?_;rintro e w' ⟨rfl,hw'⟩;obtain rfl:=hw'.symm;go_wp2_with fail;go_ret2;exact ⟨rfl,hF⟩
end Go.Proofs.YtcfmiocdlcapoaaGreat
