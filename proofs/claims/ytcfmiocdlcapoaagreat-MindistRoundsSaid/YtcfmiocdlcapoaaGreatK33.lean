import Derived.Test.YtcfmiocdlcapoaaGreatK32
import Derived.Test.YtcfmiocdlcapoaaGreatK18
import Derived.Test.YtcfmiocdlcapoaaGreatK25
import Derived.Test.YtcfmiocdlcapoaaGreatK22
import Derived.OwnWalk
import Derived.Test.YtcfmiocdlcapoaaGreatK29
namespace Go.Proofs.YtcfmiocdlcapoaaGreat
set_option linter.unusedVariables false
set_option linter.unusedSimpArgs false
set_option linter.unusedSectionVars false
set_option maxRecDepth 100000
set_option maxHeartbeats 16000000
open Go.RowKit
theorem EH : (Tryz.prog.info? 25).map (λi=>(i.zero,i.size,i.bytes))=some (some (.slice none 0 0),1,24):=by kernel_rfl
theorem yF {P M : Int} {mod : Lz} {m : Nat} {L : Ll} (hE : aL P M mod m L=0) {Q : Lz} (hQ : bF m Q=true) (hB : rh (aa P M.toNat mod).ops L Q=true) : kW P M mod m L Q=0:=by
 have hr : dR P M mod m L Q=0:=by rw [dR,if_pos hE,nO,if_pos hQ]
 unfold kW
 rw [if_neg (by rw [hr];decide),F4 hr,if_pos hB]
theorem yo (r : Lz) : ∀l,rdV (l ++ [r])=rdV l ++ [.int .i64 (nth r 0),.int .i64 (nth r 1),.int .i64 (nth r 2),.int .i64 (nth r 3)]
 | []=>rfl
 | x :: l=>by rw [List.cons_append,rdV,yo r l];rfl
theorem Eg {Y Z0 w6 : World} {g b : Nat} {P M : Int} {am : OA} {mn cm : Nat} {N : Int} {a : OA} {n c : Nat} {ag : OA} {ng cg : Nat} {ab : OA} {cb : Nat} {B : Lz} {kk : Nat} {ao a5 : OA} {co k B0 s : Nat} {e : TypeId} {xs : List Value}
  (hs : xg (λx=>x=g\/(ao ≠ none/\x=ablk ao)) Y g b P M am mn cm N a n c ag ng cg ab cb B kk) (ho : Y.ownsRow B0 e s (.slice ao k co) k xs) (hB : g<B0) (hb0 : Below Y.heap.size Y Z0) (hg : Z0.grownBy w6 (Value.slice ao k co).ownBlock) (hap : ∀b,b<Z0.heap.size->db ao b->db a5 b) :
  xg (λx=>x=g\/(a5 ≠ none/\x=ablk a5)) w6 g b P M am mn cm N a n c ag ng cg ab cb B kk/\aB Y w6 (λx=>x=g\/B0<=x) (λx=>x=g\/B0<=x):=by
 have hsz:=hb0.size
 have hgl:=hs.box.1
 have hapg : db ao g:=by
  by_cases h1 : ao=none
  ·exact .inl h1
  ·exact .inr λe=>by have:=(gz ho h1).1;omega
 have hapb : 0<B.length->db ao (ablk ab):=λhn=>by
  by_cases h1 : ao=none
  ·exact .inl h1
  ·exact .inr λe=>hs.best.lo hn (.inr ⟨h1,e.symm⟩)
 have hx:=hs.box.ah hb0
 have hb9 : w6.heap[g]? = Z0.heap[g]?:=hg.block g (by omega) λe=>hapg.own _ _ e.symm
 refine ⟨⟨⟨Nat.lt_of_lt_of_le hx.1 hg.size,λj v hv=>(World.cell?_of_block (w:=Z0) (a:=⟨g,j,none⟩) hb9).trans (hx.2.1 j v hv),λj=>(World.frozen?_of_block (w:=Z0) (a:=⟨g,j,none⟩) hb9).trans (hx.2.2 j)⟩,
  ⟨(hs.best.ints.ah hb0).pc hg hapb,λhn h=>?_⟩⟩,(aB.bq hb0 _).trans (aB.grown hg λh1=>.inr (gz ho h1).1)⟩
 rcases h with h | ⟨h1,h2⟩
 ·exact hs.best.lo hn (.inl h)
 ·rcases hap _ (by have:=hs.best.ints.lt hn;omega) (hapb hn) with h3 | h3
  ·exact h1 h3
  ·exact h3 h2.symm
def dq (P M : Int) (mod : Lz) (N : Int) (L : Ll) : Ll × Lz × Int :=
 if aL P M mod N L ≠ 0 then ([],[],aL P M mod N L) else if L.length=0 then ([],[],11) else
  srS (aa P M.toNat mod).ops (aa P M.toNat mod).q N.toNat L.length (gR P M mod N.toNat L) ((fu (aa P M.toNat mod).ops L N.toNat).map (·.2)) L.length 1 [] 0 []
def gY (P M : Int) (mod : Lz) (N : Int) (L : Ll) (w : World) (e : Ending) (w' : World) : Prop :=
 Below w.heap.size w w'/\∃ar nr cr ab nb cb,e = .returned (.tuple #[.slice ar nr cr,.slice ab nb cb,.int .i64 (dq P M mod N L).2.2])/\nY w' ar nr (dq P M mod N L).1/\Ints w' ab nb (dq P M mod N L).2.1
theorem qU {P M : Int} {mod : Lz} {N : Int} {L : Ll} {w w' : World} {er : Int} (hR : dq P M mod N L=([],[],er)) (hF : Below w.heap.size w w') : gY P M mod N L w (.returned (.tuple #[.slice none 0 0,.slice none 0 0,.int .i64 er])) w':=by
 refine ⟨hF,none,0,0,none,0,0,by rw [hR],?_,?_⟩
 ·rw [hR];exact nY.nil _ _
 ·rw [hR];exact Ints.nil _ _
theorem xI {P M : Int} {mod : Lz} {N : Int} {L : Ll} {w Z Z' : World} {o : Ll} {B : Lz} {k B0 co cb : Nat} {e : TypeId} {ao ab : OA} (hR : dq P M mod N L=(o,B,0)) (hF : Below w.heap.size w Z)
  (hk : o.length=k) (ho : Z.ownsRow B0 e 4 (.slice ao k co) k (rdV o)) (hb : Ints Z ab B.length B) (hd : Below Z.heap.size Z Z') : gY P M mod N L w (.returned (.tuple #[.slice ao k co,.slice ab B.length cb,.int .i64 0])) Z':=by
 refine ⟨Below.next hF hd,ao,k,co,ab,B.length,cb,by rw [hR],?_,?_⟩
 ·rw [hR];exact nY.own (jF ho λh1=>hd.block _ (gz ho h1).2) hk
 ·rw [hR];exact hb.ah hd
theorem wH (P M : Int) (am : OA) (mn cm : Nat) (mod : Lz) (N : Int) (a : OA) (n c : Nat) (L : Ll) (w : World) (hmod : Ints w am mn mod) (hi : bZ w a n L) :
  Calls Tryz.prog 47 #[.agg #[.int .i64 P,.int .i64 M,.slice am mn cm,.int .i64 N,.slice a n c]] w (gY P M mod N L w):=by
 have HCk : Hid (∀V,Below w.heap.size w V->Calls Tryz.prog 61 #[.agg #[.int .i64 P,.int .i64 M,.slice am mn cm,.int .i64 N,.slice a n c]] V λe w'=>e = .returned (.int .i64 (aL P M mod N L))/\Below V.heap.size V w'):=λV hV=>fb P M am mn cm mod N a n c L V (hmod.ah hV) (hi.ah hV)
 have HNw0 : Hid (bA P M mod=true->∀V,Below w.heap.size w V->Calls Tryz.prog 86 #[.agg #[.int .i64 P,.int .i64 M,.slice am mn cm]] V λe w'=>∃b,e = .returned (.tuple #[.pointer (some ⟨b,0,none⟩),.int .i64 0])/\eD w' b (aa P M.toNat mod)/\Below V.heap.size V w'):=λhfB V hV=>by
  refine (fH P M am mn cm mod V (hmod.ah hV)).mono ?_
  rintro e w' (⟨h1,_⟩ | ⟨_,b,h2,h3,_,h4⟩)
  ·rw [hfB] at h1;cases h1
  ·exact ⟨b,h2,h3.gf,h4⟩
 have Hln:=Z5 hi.len
 have Hmi:=Z5 (And.intro hmod hi)
 clear hmod hi
 go_enter Tryz.func47,Tryz.ntmps47
 go_upto_region 1 with fail
 obtain ⟨W,hW⟩ : ∃W : World,W=w.alloc (.cells #[.int .i64 P,.int .i64 M,.slice am mn cm,.int .i64 N,.slice a n c] 27):=⟨_,rfl⟩
 rw [<- hW]
 have hbW : Below w.heap.size w W:=by rw [hW];exact an _ _
 have x0 : aV W w.heap.size [.int .i64 P,.int .i64 M,.slice am mn cm,.int .i64 N,.slice a n c]:=by rw [hW];exact aV.new _ _ _ rfl
 have HS : Hid (∀V,Below W.heap.size W V->V.cell? ⟨w.heap.size,0,none⟩=some (.int .i64 P)/\V.cell? ⟨w.heap.size,1,none⟩=some (.int .i64 M)/\V.cell? ⟨w.heap.size,2,none⟩=some (.slice am mn cm)/\V.cell? ⟨w.heap.size,3,none⟩=some (.int .i64 N)/\V.cell? ⟨w.heap.size,4,none⟩=some (.slice a n c)):=λV hV=>by
  have x1:=x0.ah hV
  exact ⟨x1.cell 0 rfl,x1.cell 1 rfl,x1.cell 2 rfl,x1.cell 3 rfl,x1.cell 4 rfl⟩
 have HbW:=Z5 hbW
 have Hck:=Z5 (HCk.out W hbW)
 clear hW x0 hbW HCk
 obtain ⟨c0,c1,c2,c3,c4⟩:=HS.out W (Below.refl _ _)
 go_wp2_with fail
 refine Hck.out.mono ?_
 rintro e w1 ⟨rfl,hb1⟩
 clear c0 c1 c2 c3 c4 Hck
 by_cases hE : aL P M mod N L=0
 rotate_left
 ·have hE2 : (aL P M mod N L != 0)=true:=by simpa using hE
  have HR : Hid (dq P M mod N L=([],[],aL P M mod N L)):=by show _=_;unfold dq;rw [if_pos hE]
  have hF:=Below.next HbW.out hb1
  clear hE
  generalize aL P M mod N L=er at *
  go_wp2_with fail
  go_ret3
  exact qU HR.out hF
 rw [hE]
 obtain ⟨m,rfl,hm1,hm64,F,hR⟩:=ba hE
 obtain ⟨c0,c1,c2,c3,c4⟩:=HS.out w1 hb1
 by_cases hn0 : n=0
 ·subst hn0
  have HR : Hid (dq P M mod m L=([],[],11)):=by show _=_;unfold dq;rw [if_neg (by rw [hE];decide),if_pos Hln.out]
  have hF:=Below.next HbW.out hb1
  clear hE F hR
  go_wp2_with fail
  go_ret3
  exact qU HR.out hF
 have hfB:=(bh hE).1
 have hn64 : n<=64:=by have:=kt hE;have:=Hln.out;omega
 have hL1 : 1<=L.length:=by have:=Hln.out;omega
 have HNw:=Z5 (HNw0.out hfB)
 have hall:=λt ht=>eH (fg hE).1 t ht
 have hTl:=(fg hE).2
 have hne:=sI hE hL1
 obtain ⟨T,hT⟩ : ∃T,fu (aa P M.toNat mod).ops L m=T:=⟨_,rfl⟩
 rw [hT] at hall hTl hne
 obtain ⟨kf,hkf⟩ : ∃kf,T.length=kf:=⟨_,rfl⟩
 have HFa : Hid (∀V,Below w.heap.size w V->Calls Tryz.prog 31 #[.agg #[.int .i64 P,.int .i64 M,.slice am mn cm,.int .i64 m,.slice a n c]] V λe w'=>∃a1 c1,e = .returned (.tuple #[.slice a1 kf c1,.int .i64 0])/\JL w' a1 kf T/\Below V.heap.size V w'):=λV hV=>by
  refine (A2 P M am mn cm mod m a n c L V (Hmi.out.1.ah hV) (Hmi.out.2.ah hV)).mono ?_
  rintro e w' ⟨hb,⟨h1,_⟩ | ⟨_,m2,e2,k,a1,c1,R,T2,h3,rfl,hO⟩⟩
  ·exact absurd hE h1
  ·obtain rfl : m=m2:=by omega
   rw [hT] at h3
   subst h3
   obtain rfl : k=kf:=by rw [<- hkf];exact hO.tl.symm
   exact ⟨a1,c1,rfl,hO.str,hb⟩
 have HSy : Hid (∀t ∈ T,∀V sa Sn sc,Below w.heap.size w V->Ints V sa Sn t.1->Calls Tryz.prog 99 #[.agg #[.int .i64 P,.int .i64 M,.slice am mn cm,.int .i64 m,.slice a n c],.slice sa Sn sc] V λe w'=>∃a1 c1,e = .returned (.tuple #[.agg #[.int .i64 m,.slice a1 n c1],.int .i64 0])/\bN V.heap.size w' a1 n (cQ (aa P M.toNat mod).ops m L t.1)/\Below V.heap.size V w'):=λt ht V sa Sn sc hV hI=>by
  obtain ⟨t1,t2,_,_⟩:=hall t ht
  refine (sX P M am mn cm mod m a n c L sa Sn sc t.1 V (Hmi.out.1.ah hV) (Hmi.out.2.ah hV) hI).mono ?_
  rintro e w' ⟨hb,⟨h1,_⟩ | ⟨_,m2,e2,a1,c1,rfl,hM⟩⟩
  ·exact absurd (yF hE t1 t2) h1
  ·obtain rfl : m=m2:=by omega
   rw [Hln.out] at hM ⊢
   exact ⟨a1,c1,rfl,hM,hb⟩
 have Hall:=Z5 hall
 have HE:=Z5 hE
 have HT:=Z5 hT
 have Hkf:=Z5 hkf
 have Hne:=Z5 hne
 have hkl : kf<=64:=by omega
 have hn1 : ((n : Int) == 0)=false:=by simp;omega
 clear hall hE hT hkf hne hfB hTl HNw0
 go_wp2_with fail
 refine (HNw.out w1 (Below.next HbW.out hb1)).mono ?_
 rintro e w2 ⟨b,rfl,hG2,hb2⟩
 have hB2:=Below.next hb1 hb2
 clear c0 c1 c2 c3 c4 HNw
 obtain ⟨c0,c1,c2,c3,c4⟩:=HS.out w2 hB2
 go_wp2_with fail
 refine (HFa.out w2 (Below.next HbW.out hB2)).mono ?_
 rintro e w3 ⟨af,cf,rfl,hSt,hb3⟩
 have hB3:=Below.next hB2 hb3
 have HG3:=Z5 (hG2.ah hb3)
 clear c0 c1 c2 c3 c4 HFa hG2 hb2 hb3
 obtain ⟨c0,c1,c2,c3,c4⟩:=HS.out w3 hB3
 go_upto_region 13 with fail
 obtain ⟨U,hU⟩ : ∃U : World,U=w3.alloc (.cells #[.pointer (some ⟨b,0,none⟩),.int .i64 P,.int .i64 M,.slice am mn cm,.int .i64 m,.slice a n c,.slice none 0 0,.slice none 0 0,.int .i64 0] 132):=⟨_,rfl⟩
 rw [<- hU]
 obtain ⟨g,hg⟩ : ∃g,w3.heap.size=g:=⟨_,rfl⟩
 rw [hg]
 have hbU : Below g w3 U:=by rw [hU,<- hg];exact an _ _
 have hLI0 : LI U g [.pointer (some ⟨b,0,none⟩),.int .i64 P,.int .i64 M,.slice am mn cm,.int .i64 m,.slice a n c] none 0 none 0 [] []:=LI.start rfl (by rw [hU,<- hg];exact aV.new w3 _ _ rfl)
 have Hg:=Z5 hg
 have HbU:=Z5 hbU
 have hgW : W.heap.size<=g:=by have:=hB3.size;omega
 have HB3:=Z5 hB3
 have hplF:=hSt.pl
 have HSt:=Z5 hSt
 clear hU hg hbU c0 c1 c2 c3 c4 hSt hB3 hB2 hb1
 go_wp2_with fail
 go_loopw [10,55] (λrv iv wr=>∃(i : Nat) (ag : OA) (cg : Nat) (ak : OA) (ck : Nat) (gs : List TX),i<=kf/\iv = .int .i64 i/\rv = .slice ak i ck/\Hid (LI wr g [.pointer (some ⟨b,0,none⟩),.int .i64 P,.int .i64 M,.slice am mn cm,.int .i64 m,.slice a n c] ag cg ak ck gs ((T.take i).map (·.2))) /\
   Hid (gs.length=i/\gs.map TX.T=(T.take i).map λt=>cQ (aa P M.toNat mod).ops m L t.1)/\Below g U wr) (λ_ iv _=>kf - (intOf iv).toNat)
 case atStart=>exact ⟨0,none,0,none,0,[],Nat.zero_le _,rfl,rfl,hLI0,⟨rfl,by simp⟩,Below.refl _ _⟩
 case round =>
  clear hLI0
  obtain ⟨i,ag,cg,ak,ck,gs,hik,rfl,rfl,hLI,hgs,hbr⟩:=hrel
  generalize wr=V at *
  obtain ⟨hgl,hgm⟩:=hgs.out
  subst hgl
  have Hgm:=Z5 hgm
  clear hgm hgs
  have hb3V : Below g w3 V:=Below.trans HbU.out hbr
  have hbWV : Below W.heap.size W V:=Below.trans HB3.out (hb3V.mono hgW)
  have hgV : g<V.heap.size:=hLI.out.box.1
  by_cases hlt : gs.length<kf
  ·have hiT : gs.length<T.length:=by rw [Hkf.out];exact hlt
   obtain ⟨sa,sc,p0,p1,hIS⟩:=(HSt.out.ah (by rw [Hg.out];exact hb3V)).cell gs.length hiT
   have hmem : T[gs.length] ∈ T:=List.getElem_mem hiT
   have htk : T.take (gs.length+1)=T.take gs.length ++ [T[gs.length]]:=List.take_succ_eq_append_getElem hiT
   have Hrk2 : Hid ((T.take (gs.length+1)).map (·.2)=(T.take gs.length).map (·.2) ++ [T[gs.length].2]):=by show _=_;rw [htk,List.map_append];rfl
   have Hsy2 : Hid ((T.take (gs.length+1)).map (λt=>cQ (aa P M.toNat mod).ops m L t.1)=(T.take gs.length).map (λt=>cQ (aa P M.toNat mod).ops m L t.1) ++ [cQ (aa P M.toNat mod).ops m L T[gs.length].1]):=by show _=_;rw [htk,List.map_append];rfl
   have hSyi:=HSy.out _ hmem
   have Hql : Hid (((T.take gs.length).map (·.2)).length=gs.length):=by show _=_;rw [List.length_map,List.length_take];omega
   obtain ⟨S,hS⟩ : ∃S,T[gs.length].1=S:=⟨_,rfl⟩
   obtain ⟨r,hr⟩ : ∃r,T[gs.length].2=r:=⟨_,rfl⟩
   rw [hS] at p0 hIS Hsy2 hSyi
   rw [hr] at p1 Hrk2
   obtain ⟨Sn,hSn⟩ : ∃Sn,S.length=Sn:=⟨_,rfl⟩
   rw [hSn] at p0 hIS
   have HIS:=Z5 hIS
   have HSyi:=Z5 hSyi
   clear hS hr hSn hmem htk hIS hSyi hiT
   obtain ⟨V1,hV1⟩ : ∃V1 : World,V1=V.alloc (.cells #[.slice sa Sn sc,.int .i64 r] 64):=⟨_,rfl⟩
   have xV : aV V1 V.heap.size [.slice sa Sn sc,.int .i64 r]:=by rw [hV1];exact aV.new _ _ _ rfl
   have hbV : Below V.heap.size V V1:=by rw [hV1];exact an _ _
   have hcall:=HSyi.out V1 sa Sn sc (Below.next HbW.out (Below.next hbWV hbV)) (HIS.out.ah hbV)
   have HV1:=Z5 hV1
   have HxV:=Z5 (And.intro xV hbV)
   obtain ⟨c0,c1,c2,c3,c4⟩:=HS.out _ (Below.next hbWV hbV)
   have e0:=xV.cell 0 rfl
   rw [hV1] at hcall c0 c1 c2 c3 c4 e0
   have Hcall:=Z5 hcall
   clear hV1 xV hbV hcall HIS HSyi
   go_wp2_with fail
   refine Hcall.out.mono ?_
   rintro e w5 ⟨a1,c1',rfl,hM5,hb5⟩
   rw [<- HV1.out] at hb5 hM5
   have hbV5 : Below V.heap.size V w5:=Below.next HxV.out.2 hb5
   have hgl:=HxV.out.2.size
   obtain ⟨Sy,hSy⟩ : ∃Sy,cQ (aa P M.toNat mod).ops m L S=Sy:=⟨_,rfl⟩
   rw [hSy] at hM5 Hsy2
   have hSyl : Sy.length=n:=hM5.len
   have hbx:=an w5 (.cells #[.int .i64 m,.slice a1 n c1'] 82)
   have hMA : my (LA g ag ak) (w5.alloc (.cells #[.int .i64 m,.slice a1 n c1'] 82)) a1 n Sy:=(hM5.J8 λx hx=>Nat.lt_of_lt_of_le (hLI.out.lt x hx) hgl).ah hbx
   have hbV2 : Below V.heap.size V (w5.alloc (.cells #[.int .i64 m,.slice a1 n c1'] 82)):=Below.next hbV5 hbx
   have hLI2:=hLI.out.ah hbV2
   have hxb : aV (w5.alloc (.cells #[.int .i64 m,.slice a1 n c1'] 82)) V.heap.size [.slice sa Sn sc,.int .i64 r]:=(HxV.out.1.ah hb5).ah hbx
   have hmb : aV (w5.alloc (.cells #[.int .i64 m,.slice a1 n c1'] 82)) w5.heap.size [.int .i64 m,.slice a1 n c1']:=aV.new _ _ _ rfl
   clear c0 c1 c2 c3 c4 e0 Hcall hM5 hSy
   go_upto_region 20 with fail
   obtain ⟨V2,hV2⟩ : ∃V2,w5.alloc (.cells #[.int .i64 m,.slice a1 n c1'] 82)=V2:=⟨_,rfl⟩
   rw [hV2] at hMA hbV2 hLI2 hxb hmb ⊢
   have c6:=hLI2.c6
   have f6:=hLI2.box.frozen 6
   have m1:=hmb.cell 1 rfl
   have d6:=aS c6 (.cells #[.slice a1 n c1'] 25)
   have dm1:=aS m1 (.cells #[.slice a1 n c1'] 25)
   have HO : Hid (∀X,Below V2.heap.size V2 X->X.ownsRow (g+1) 25 1 (.slice ag gs.length cg) gs.length (gs.map GI)):=λX hX=>aW hLI2.so hX
   have hapG:=hLI2.J6
   have hg2 : g<V2.heap.size:=hLI2.box.1
   have HLI2:=Z5 hLI2
   have HMA:=Z5 hMA
   have Hxb:=Z5 hxb
   have HSl:=Z5 hSyl
   have hgs64 : gs.length<=64:=by omega
   clear hV2 hbx hLI2 hMA hxb hmb hSyl hbV5 hb5
   go_cut [] (λwx=>∃ag' cg',LI wx g [.pointer (some ⟨b,0,none⟩),.int .i64 P,.int .i64 M,.slice am mn cm,.int .i64 m,.slice a n c] ag' cg' ak ck (gs ++ [⟨a1,c1',Sy⟩]) ((T.take gs.length).map (·.2))/\Below g V2 wx/\aV wx V.heap.size [.slice sa Sn sc,.int .i64 r])
   case first =>
    go_region_law ((first
     | (refine bg (by rfl) (.tmp 73) (.tmp 76) 130 25 (by rfl) (.slice none 0 0) 24 Tryz.underlying130 EH (by rfl) (g+1) ag gs.length cg (gs.map GI) (by rfl) (HO.out _ (by first | exact (an _ _).drew | exact an _ _)) (some ⟨V2.heap.size,0,none⟩) 1 1 [.slice a1 n c1'] (by rfl) (λ_=>rfl) rfl (by intro j hj;obtain rfl : j=0:=(by omega);exact bs _ _ _ rfl) (by intro y hy;simp at hy;subst hy;rfl) (by omega) (by unfold maxLen;omega) (by simp;omega) ?_;intro a5 c5 w6 hown6 hgr6 hap6;have p1:=bK hgr6 (aS c6 _) hapG;have p2 : w6.frozen? ⟨g,6,none⟩=false:=(World.frozen?_of_block (hgr6.block g (by simp;omega) (λe=>hapG.own gs.length cg e.symm))).trans (dG hg2 f6 _))))
    all_goals (
     go_wp2_with fail
     go_meet
     have hk:=(HLI2.out.ah (Below.refl _ _).drew).J1 (o:=.cells #[.slice a1 n c1'] 25) (x:=⟨a1,c1',Sy⟩) (by rw [HSl.out];exact HMA.out.ah (Below.refl _ _).drew) (by rw [show GI ⟨a1,c1',Sy⟩ = .slice a1 n c1' by unfold GI;rw [HSl.out]];exact hown6) hgr6 hap6
     exact ⟨a5,c5,hk.1,((Below.refl g V2).drew).trans hk.2.1,(Hxb.out.ah (Below.refl _ _).drew).dt hk.2.2 λh=>Nat.lt_irrefl _ (hLI.out.lt _ h)⟩)
   obtain ⟨ag',cg',hLI3,hb3',hx3⟩:=hcut
   generalize wc=V3 at *
   have r1:=hx3.cell 1 rfl
   have hrk:=hLI3.rk
   rw [Hql.out] at hrk
   have hg3 : g<V3.heap.size:=hLI3.box.1
   have HLI3:=Z5 hLI3
   clear hx3 hLI3 c6 f6 m1 d6 dm1
   go_wp2_with (at_builtin;refine bk rfl _ _ 22 3 rfl (.int .i64 0) 8 Tryz.underlying22 aX rfl (g+1) ak gs.length ck _ rfl (hrk.alloc _) ⟨V3.heap.size,0,none⟩ 1 (.int .i64 r) rfl (br V3 _ _) rfl (by omega) (by unfold maxLen;omega) (by simp;omega) ?_;intro a5 c5 w7 hown7 hgr7 hap7)
   go_roundw
   case rel =>
    obtain ⟨hL4,hb4⟩:=HLI3.out.JT (r:=r) (o:=.cells #[.int .i64 r] 3) (by rw [Hql.out];exact hown7) (by rw [Hql.out];exact hgr7) hap7
    exact ⟨gs.length+1,ag',cg',a5,c5,gs ++ [⟨a1,c1',Sy⟩],by omega,by go_num,rfl,by rw [Hrk2.out];exact hL4,⟨by simp,by rw [Hsy2.out,List.map_append,Hgm.out];rfl⟩,Below.trans hbr (Below.trans (hbV2.mono (by omega)) (Below.trans hb3' (hb4.mono (Nat.le_succ g))))⟩
   case measure=>simp [intOf] <;> omega
  ·obtain rfl : kf=gs.length:=by omega
   have htk : T.take gs.length=T:=List.take_of_length_le (by rw [Hkf.out];exact Nat.le_refl _)
   have hLI1:=hLI.out
   rw [htk] at hLI1
   have hfm : gs.map TX.T=gR P M mod m L:=by
    rw [Hgm.out,htk];unfold gR;rw [HT.out]
   have hgs1 : 1<=gs.length:=by
    rcases Nat.eq_zero_or_pos gs.length with h | h
    ·exact absurd (List.eq_nil_of_length_eq_zero (by rw [Hkf.out];exact h)) Hne.out
    ·exact h
   have hgs64 : gs.length<=64:=hkl
   have Hfm:=Z5 hfm
   have HL1:=Z5 hLI1
   have hmats : ∀t (ht : t<gs.length),V.cell? ⟨ablk ag,aJ ag+t,none⟩=some (.slice gs[t].a gs[t].T.length gs[t].c)/\bN (g+1) V gs[t].a gs[t].T.length gs[t].T:=λt ht=>by
    have h1:=(b9 hLI1.so t ht).1
    have e1 : (gs.map GI)[t]? = some (GI gs[t]):=by rw [List.getElem?_map,List.getElem?_eq_getElem ht];rfl
    rw [e1] at h1
    exact ⟨by rw [h1];rfl,(hLI1.gx _ (List.getElem_mem ht)).GU⟩
   have Hmats:=Z5 hmats
   have HGR : Hid (∀t (ht : t<gs.length),gs[t].T.length=n/\bH (aa P M.toNat mod).El m gs[t].T):=λt ht=>by
    have h1 : gs[t].T ∈ gR P M mod m L:=by rw [<- hfm];exact List.mem_map.2 ⟨gs[t],List.getElem_mem ht,rfl⟩
    obtain ⟨s,hs,e⟩:=List.mem_map.1 h1
    obtain ⟨q1,q2,_,_⟩:=eH (fg HE.out).1 s hs
    obtain ⟨hI,hl,hgr⟩:=ju q1 q2
    obtain ⟨s1,s2,_,_⟩:=jz HE.out hI hl hgr
    rw [<- e]
    exact ⟨by rw [s2];exact Hln.out,s1⟩
   have hplG : Pl ag gs.length:=by
    obtain ⟨a',c',hv,hp⟩:=Pl.own hLI1.so
    cases hv;exact hp
   have hbV0 : aV V g (JV b P M am mn cm m a n c ag gs.length cg none 0 0 0):=hLI1.box
   have HrkV:=Z5 (Ints.own hLI1.rk).1
   have HGV : Hid (∀X,aB V X (One g) (λx=>x=g\/V.heap.size<=x)->Below g V X):=λX hX=>hX.below (λx hx=>by rw [show x=g from hx];exact Nat.le_refl _) (by omega)
   obtain ⟨RES,hRES⟩ : ∃RES,dq P M mod m L=RES:=⟨_,rfl⟩
   have hRES2 : srS (aa P M.toNat mod).ops (aa P M.toNat mod).q m n (gR P M mod m L) (T.map (·.2)) n 1 [] 0 []=RES:=by
    rw [<- hRES];unfold dq
    rw [if_neg (by rw [HE.out];decide),if_neg (by rw [Hln.out];omega),Int.toNat_natCast,Hln.out,HT.out]
   have HRES:=Z5 hRES
   clear hfm htk hLI1 hmats hRES hLI Hgm
   go_wp2_with fail
   go_loopw [15,16] (λov wv wr=>∃(W1 : Nat) (ao : OA) (co : Nat) (o : Ll) (ab : OA) (cb : Nat) (B : Lz) (kk : Nat),W1<=n/\wv = .int .i64 ((W1 : Int)+1)/\ov = .slice ao o.length co /\
     Hid (wr.ownsRow V.heap.size 62 4 (.slice ao o.length co) o.length (rdV o))/\Hid (aV wr g (JV b P M am mn cm m a n c ag gs.length cg ab B.length cb kk)) /\
     Hid (Ints wr ab B.length B/\(0<B.length->ablk ab ≠ g/\(ao ≠ none->ablk ab ≠ ablk ao)))/\kk<=65536/\o.length<=W1/\aB V wr (One g) (λx=>x=g\/V.heap.size<=x) /\
     Hid (srS (aa P M.toNat mod).ops (aa P M.toNat mod).q m n (gR P M mod m L) (T.map (·.2)) (n - W1) (W1+1) B kk o=RES)) (λ_ wv _=>n+1 - (intOf wv).toNat)
   case atStart=>exact ⟨0,none,0,[],none,0,[],0,Nat.zero_le _,rfl,rfl,⟨rfl,.inl ⟨rfl,rfl⟩⟩,hbV0,⟨Ints.nil _ _,λh=>absurd h (by simp)⟩,by omega,Nat.le_refl _,(aB.refl V (One g)).H6 λx hx=>hx,hRES2⟩
   case round =>
    clear hbV0 hRES2
    obtain ⟨W1,ao,co,o,ab,cb,B,kk,hW1,rfl,rfl,howo,hbox,hbest,hkk,hol,hMV,hres⟩:=hrel
    generalize wr=X at *
    have hbX:=HGV.out X hMV
    have hbWX:=Below.trans hbWV (hbX.mono hgW)
    have hb3X : Below w3.heap.size w3 X:=by rw [Hg.out];exact Below.trans hb3V hbX
    obtain ⟨c0,c1,c2,c3,c4⟩:=HS.out X hbWX
    have hgX : g<X.heap.size:=hbox.out.1
    by_cases hlt2 : W1<n
    ·have d1 : decide ((W1 : Int)+1<=(n : Int))=true:=by simp;omega
     obtain ⟨f,hf⟩ : ∃f,n - W1=f+1:=⟨n - W1 - 1,by omega⟩
     have hres2:=hres.out
     rw [hf,srS,<- Hfm.out,List.length_map] at hres2
     have hsea : xg (λx=>x=g\/(ao ≠ none/\x=ablk ao)) X g b P M am mn cm m a n c ag gs.length cg ab cb B kk:=⟨hbox.out,hbest.out.1,λhn h=>by
      rcases h with h | ⟨h,h'⟩
      ·exact (hbest.out.2 hn).1 h
      ·exact (hbest.out.2 hn).2 h h'⟩
     have hmore:=FQ (W1+1) HG3.out hb3X hsea hkk hn64 (by omega) (by omega) hgs1 hgs64
     rw [show ((W1+1 : Nat) : Int)=(W1 : Int)+1 by omega] at hmore
     have Hmore:=Z5 hmore
     have Hsea:=Z5 hsea
     clear hmore hsea
     by_cases hm : il (aa P M.toNat mod).q n gs.length kk (W1+1)=true
     rotate_left
     ·rw [if_neg hm] at hres2 Hmore
      have HR : Hid (dq P M mod m L=([],[],8)):=by show _=_;rw [HRES.out,<- hres2]
      have hFW:=Below.next HbW.out hbWX
      clear hres2 hm
      go_wp2_with fail
      refine Hmore.out.mono ?_
      rintro e X1 ⟨hb1,z,rfl⟩
      have hF:=Below.next hFW hb1
      go_wp2_with fail
      go_ret3
      exact qU HR.out hF
     rw [if_pos hm] at hres2 Hmore
     have Hres2:=Z5 hres2
     have Hm:=Z5 hm
     clear hres2 hm
     go_wp2_with fail
     refine Hmore.out.mono ?_
     rintro e X1 ⟨hb1,z,rfl⟩
     have hbox1:=hbox.out.ah hb1
     have c6:=hbox1.cell 6 rfl
     clear c0 c1 c2 c3 c4
     go_wp2_with fail
     obtain ⟨RB,hRB⟩ : ∃RB,nU (aa P M.toNat mod).ops (aa P M.toNat mod).q m (W1+1) (gs.map TX.T) B=RB:=⟨_,rfl⟩
     obtain ⟨cnt,hcnt⟩ : ∃cnt,chN n (W1+1) * ((aa P M.toNat mod).q - 1) ^ W1=cnt:=⟨_,rfl⟩
     have hrn : kZ (aa P M.toNat mod).q n gs.length (W1+1)=gs.length * cnt:=by unfold kZ;rw [Nat.add_sub_cancel,hcnt]
     have hmb : gs.length * cnt<=65536 - kk:=by
      have h1:=Hm.out
      unfold il at h1
      simp only [Bool.and_eq_true,decide_eq_true_eq] at h1
      rw [<- hrn];exact h1.2
     have Hcnt:=Z5 hcnt
     have HRB:=Z5 hRB
     have Hrn:=Z5 hrn
     have hsea1 : xg (λx=>x=g\/(ao ≠ none/\x=ablk ao)) X1 g b P M am mn cm m a n c ag gs.length cg ab cb B kk:=Hsea.out.ah hb1
     have hgX1 : g<X1.heap.size:=hbox1.1
     have hstart : ((gs.drop 0).map TX.T).foldl (λb G=>(ik (aa P M.toNat mod).ops (dn (aa P M.toNat mod).q) [1] (W1+1) G (List.replicate m 0)).foldl (cN (aa P M.toNat mod).ops) b) B=RB:=hRB
     clear hcnt hRB hrn hbox1
     go_loopw [107] (λiv wr=>∃(t : Nat) (ab' : OA) (cb' : Nat) (B' : Lz) (k' : Nat),t<=gs.length/\iv = .int .i64 t/\Hid (xg (λx=>x=g\/(ao ≠ none/\x=ablk ao)) wr g b P M am mn cm m a n c ag gs.length cg ab' cb' B' k')/\aB X1 wr (One g) (λx=>x=g\/X1.heap.size<=x) /\
       Hid (((gs.drop t).map TX.T).foldl (λb G=>(ik (aa P M.toNat mod).ops (dn (aa P M.toNat mod).q) [1] (W1+1) G (List.replicate m 0)).foldl (cN (aa P M.toNat mod).ops) b) B'=RB)/\k'+(gs.length - t) * cnt=kk+gs.length * cnt) (λiv _=>gs.length - (intOf iv).toNat)
     case atStart=>exact ⟨0,ab,cb,B,kk,Nat.zero_le _,rfl,hsea1,(aB.refl X1 (One g)).H6 λx hx=>hx,hstart,by simp⟩
     case round =>
      clear hsea1 hstart
      obtain ⟨t,ab',cb',B',k',ht,rfl,hsea,hMt,hfold,hkt⟩:=hrel
      generalize wr=Y at *
      by_cases hltt : t<gs.length
      ·obtain ⟨hc0,hm0⟩:=Hmats.out t hltt
       obtain ⟨hTl,hTr⟩:=HGR.out t hltt
       have hag : ag ≠ none:=λe=>by
        have:=hplG (by omega)
        rw [e] at this;cases this
       have hagg : ¬ One g (ablk ag):=λe=>by
        rcases HL1.out.J6 with h | h
        ·exact hag h
        ·exact h e
       have hcY : Y.cell? ⟨ablk ag,aJ ag+t,none⟩=some (.slice gs[t].a gs[t].T.length gs[t].c):=hMt.cell (aw hb1 (hMV.cell hc0 hagg)) hagg
       have hmY : bN (g+1) Y gs[t].a gs[t].T.length gs[t].T:=((hm0.dt hMV λx hx=>by rw [show x=g from hx];omega).ah hb1).dt hMt λx hx=>by rw [show x=g from hx];omega
       have hdrop : gs.drop t=gs[t] :: gs.drop (t+1):=List.drop_eq_getElem_cons hltt
       have hfold2:=hfold.out
       rw [hdrop,List.map_cons,List.foldl_cons] at hfold2
       obtain ⟨GT,hGT⟩ : ∃GT,gs[t]=GT:=⟨_,rfl⟩
       rw [hGT] at hcY hmY hTl hTr hfold2
       rw [hTl] at hcY hmY
       have hbY : Below g X1 Y:=hMt.below (λx hx=>by rw [show x=g from hx];exact Nat.le_refl _) (by omega)
       have hbWY : Below W.heap.size W Y:=Below.trans (Below.next hbWX hb1) (hbY.mono hgW)
       have hb3Y : Below w3.heap.size w3 Y:=by rw [Hg.out];exact Below.trans (Below.trans (by rw [<- Hg.out];exact hb3X) (hb1.mono (by omega))) hbY
       obtain ⟨c0,c1,c2,c3,c4⟩:=HS.out Y hbWY
       have Hfold2:=Z5 hfold2
       have HmY:=Z5 hmY
       have HTr:=Z5 hTr
       have HTl:=Z5 hTl
       clear hc0 hm0 hGT hdrop hfold2 hmY hTr hTl hfold
       go_wp2_with (at_make;refine bV rfl _ _ 22 3 rfl (.int .i64 0) 8 Tryz.underlying22 aX rfl m rfl rfl (by omega) (by unfold maxLen;omega) ?_;intro a5 w5 hown hbel hge hlt5)
       have hgY : g<Y.heap.size:=hsea.out.box.1
       have hown2 : w5.ownsRow Y.heap.size 3 1 (.slice a5 m m) m ((List.replicate m (0 : Int)).map (Value.int .i64)):=by rw [List.map_replicate];exact hown
       have hls : (ik (aa P M.toNat mod).ops (dn (aa P M.toNat mod).q) [1] (W1+1) GT.T (List.replicate m 0)).length=cnt:=by rw [oH,HTl.out,lE];exact Hcnt.out
       obtain ⟨d,hd⟩ : ∃d,gs.length - t=d+1:=⟨gs.length - t - 1,by omega⟩
       have hd2 : gs.length - (t+1)=d:=by omega
       rw [hd,Nat.succ_mul] at hkt
       have hbnd : kk+gs.length * cnt<=65536:=by omega
       have hFl : ∀x,(x=g\/(ao ≠ none/\x=ablk ao))->x<w5.heap.size:=λx hx=>by
        have h5:=hbel.size
        rcases hx with rfl | ⟨h1,rfl⟩
        ·omega
        ·have h2:=(gz howo.out h1).2
         have h3:=hb1.size
         have h4:=hMt.size
         omega
       have hso:=yW (cr:=GT.c) (F:=λx=>x=g\/(ao ≠ none/\x=ablk ao)) (.inl rfl) HG3.out (by rw [Hg.out];exact Nat.le_refl _) hm64 hm1 HTr.out hn64 (W1+1) (by omega) w5 ab' cb' B' k' a5 m (List.replicate m 0) 0 true hFl (Below.next hb3Y hbel) (hsea.out.ah hbel) (HmY.out.ah hbel) ⟨(Ints.own hown2).1,λ_=>by omega⟩ (λx hx=>by rw [(List.mem_replicate.1 hx).2];exact F.zero) (Nat.zero_le _) (by rw [if_pos rfl];show k'+(ik _ _ _ _ GT.T _).length<=_;rw [hls];omega)
       rw [if_pos rfl,List.drop_zero,hls,show ((W1+1 : Nat) : Int)=(W1 : Int)+1 by omega] at hso
       have Hso:=Z5 hso
       have Hbel:=Z5 hbel
       clear hso hown hown2 hbel hls
       refine Hso.out.mono ?_
       rintro e w6 ⟨rfl,ab6,cb6,hs6,hM6⟩
       have Hs6:=Z5 (And.intro hs6 hM6)
       clear hs6 hM6 c0 c1 c2 c3 c4
       go_wp2_with fail
       go_roundw
       case rel=>exact ⟨t+1,ab6,cb6,_,_,by omega,by go_num,Hs6.out.1,hMt.trans ((aB.bq Hbel.out _).trans (Hs6.out.2.wide λx hx=>.inl hx)),Hfold2.out,by rw [hd2];omega⟩
       case measure=>simp [intOf] <;> omega
      ·obtain rfl : t=gs.length:=by omega
       have hB' : B'=RB:=by have h1:=hfold.out;rw [List.drop_length] at h1;exact h1
       have hk' : k'=kk+kZ (aa P M.toNat mod).q n gs.length (W1+1):=by rw [Hrn.out];rw [Nat.sub_self,Nat.zero_mul] at hkt;omega
       have hk'2 : k'<=65536:=by rw [hk',Hrn.out];omega
       have HB':=Z5 hB'
       have Hk':=Z5 hk'
       have hbY : Below g X1 Y:=hMt.below (λx hx=>by rw [show x=g from hx];exact Nat.le_refl _) (by omega)
       have hbWY : Below W.heap.size W Y:=Below.trans (Below.next hbWX hb1) (hbY.mono hgW)
       have hVY : aB V Y (One g) (λx=>x=g\/V.heap.size<=x):=(hMV.trans (aB.bq hb1 _)).trans ((hMt.J0 (I:=λx=>x=g\/V.heap.size<=x) (λx hx=>.inl hx) λx hx=>by
        rcases hx with h | h
        ·exact .inl h
        ·have h1:=hMV.size;have h2:=hb1.size;exact .inr (by omega)))
       have hakg : 0<(T.map (·.2)).length->¬ One g (ablk ak):=λhn e=>by
        rcases HL1.out.Kn with h | h
        ·have:=HrkV.out.pl hn
         rw [h] at this;cases this
        ·exact h e
       have hrkY : Ints Y ak (T.map (·.2)).length (T.map (·.2)):=HrkV.out.dt hVY hakg
       have hQl : (T.map (·.2)).length=gs.length:=by rw [List.length_map,Hkf.out]
       obtain ⟨fl,hfl⟩ : ∃fl,flTo (n : Int) ((W1 : Int)+1) (T.map (·.2)) (T.map (·.2)).length=fl:=⟨_,rfl⟩
       have hflV : uE (n : Int) (T.map (·.2)) ((W1 : Int)+1)=(fl,0):=by
        have h1:=EJ HE.out (v:=(W1 : Int)+1) (by rw [Hln.out];omega) (by rw [Hln.out];exact hn64)
        rw [HT.out,Hln.out,hfl] at h1;exact h1
       have hflo:=Dh (n : Int) ak gs.length ck (T.map (·.2)) ((W1 : Int)+1) Y (by rw [hQl] at hrkY;exact hrkY)
       rw [hflV] at hflo
       have Hflo:=Z5 hflo
       have Hfl:=Z5 hfl
       have hownY : Y.ownsRow V.heap.size 62 4 (.slice ao o.length co) o.length (rdV o):=jF howo.out λh1=>by
        have h2:=(gz howo.out h1)
        have h3:=hb1.size
        rw [hMt.block _ (by omega) λe=>by have : ablk ao=g:=e;omega,hb1.block _ h2.2]
       obtain ⟨c0,c1,c2,c3,c4⟩:=HS.out Y hbWY
       have c7:=hsea.out.box.cell 7 rfl
       have c8:=hsea.out.box.cell 8 rfl
       have hbI:=hsea.out.best.ints
       have HownY:=Z5 hownY
       have HMY:=Z5 (And.intro hbWY hVY)
       clear hB' hk' hfold hkt hflV hflo hfl hrkY hakg hownY hbWY hVY
       go_wp2_with fail
       refine Hflo.out.mono ?_
       rintro e w' ⟨rfl,hw'⟩
       obtain rfl:=hw'.symm
       obtain ⟨zt,hzt⟩ : ∃zt,bw B'=zt:=⟨_,rfl⟩
       have HWt : Hid (∀X,Below Y.heap.size Y X->Calls Tryz.prog 55 #[.slice ab' B'.length cb'] X λe w'=>e = .returned (.int .i64 (zt : Nat))/\w'=X):=λX hX=>by
        rw [<- hzt];exact gj ab' B'.length cb' B' X (hbI.ah hX)
       have Hzt:=Z5 hzt
       have HO : Hid (∀X,Below Y.heap.size Y X->X.ownsRow V.heap.size 62 4 (.slice ao o.length co) o.length (rdV o)):=λX hX=>jF HownY.out λh1=>hX.block _ (gz HownY.out h1).2
       have hq4 : aV ((Y.alloc (.cells #[.int .i64 ((W1 : Int)+1),.int .i64 (k' : Nat),.int .i64 (zt : Nat),.int .i64 fl] 62)).drew) Y.heap.size [.int .i64 ((W1 : Int)+1),.int .i64 (k' : Nat),.int .i64 (zt : Nat),.int .i64 fl]:=(aV.new Y _ _ rfl).ah (Below.refl _ _).drew
       have q0:=hq4.cell 0 rfl
       have q1:=hq4.cell 1 rfl
       have q2:=hq4.cell 2 rfl
       have q3:=hq4.cell 3 rfl
       have ho4:=HO.out _ (an Y (.cells #[.int .i64 ((W1 : Int)+1),.int .i64 (k' : Nat),.int .i64 (zt : Nat),.int .i64 fl] 62)).drew
       have HQ:=Z5 (And.intro q0 (And.intro q1 (And.intro q2 (And.intro q3 ho4))))
       clear hq4 q0 q1 q2 q3 ho4
       have hgVs : V.heap.size<=Y.heap.size:=HMY.out.2.size
       have ho64 : o.length<=64:=by omega
       clear hzt hbI
       go_upto_region 38 with fail
       go_cut [15] (λv wx=>∃a5 c5,v = .slice a5 (o.length+1) c5/\wx.ownsRow V.heap.size 62 4 (.slice a5 (o.length+1) c5) (o.length+1) (rdV o ++ [.int .i64 ((W1 : Int)+1),.int .i64 (k' : Nat),.int .i64 (zt : Nat),.int .i64 fl]) /\
        xg (λx=>x=g\/(a5 ≠ none/\x=ablk a5)) wx g b P M am mn cm m a n c ag gs.length cg ab' cb' B' k'/\aB Y wx (λx=>x=g\/V.heap.size<=x) (λx=>x=g\/V.heap.size<=x))
       case first =>
        go_region_law ((first
         | (go_simp;go_at_call 55;((with_reducible refine (HWt.out _ (by first | exact Below.refl _ _ | exact (Below.refl _ _).drew | exact (an _ _).drew | exact an _ _)).mono ?_);rintro e w8 ⟨rfl,rfl⟩))
         | (refine AD (by rfl) (.tmp 131) (.tmp 144) 30 62 (by rfl) (.agg #[.int .i64 0,.int .i64 0,.int .i64 0,.int .i64 0]) 32 Tryz.underlying30 CS (by rfl) V.heap.size ao o.length co (rdV o) (by rfl) HQ.out.2.2.2.2 Y.heap.size 1 (.int .i64 ((W1 : Int)+1)) (.int .i64 (k' : Nat)) (.int .i64 (zt : Nat)) (.int .i64 fl) (by rfl) HQ.out.1 HQ.out.2.1 HQ.out.2.2.1 HQ.out.2.2.2.1 (by intro u hu;simp at hu;rcases hu with rfl | rfl | rfl | rfl <;> rfl) (by omega) (by unfold maxLen;omega) (by simp;omega) ?_;intro a5 c5 w6 hown6 hgr6 hap6)))
        all_goals (
         go_wp2_with fail
         have hp:=Eg hsea.out (HO.out _ (Below.refl _ _)) hgV (by first | exact (an _ _).drew | exact an _ _) hgr6 hap6
         have hQ9:=And.intro hown6 hp
         clear hown6 hgr6 hap6 hp
         have HQ9:=Z5 hQ9
         clear hQ9
         simp only [List.getElem_toArray,List.getElem_cons_succ,List.getElem_cons_zero,Act.put,List.setIfInBounds_toArray,List.set_cons_zero,List.set_cons_succ]
         go_meet
         exact ⟨a5,c5,rfl,HQ9.out.1,HQ9.out.2.1,HQ9.out.2.2⟩)
       obtain ⟨a5,c5,rfl,hown5,hsea5,hM5⟩:=hcut
       generalize wc=Z at *
       have hVZ : aB V Z (One g) (λx=>x=g\/V.heap.size<=x):=HMY.out.2.trans hM5
       have hbYZ : Below g Y Z:=hM5.below (λx hx=>by rcases hx with rfl | h;exact Nat.le_refl _;omega) (by omega)
       have hbWZ : Below W.heap.size W Z:=Below.trans HMY.out.1 (hbYZ.mono hgW)
       obtain ⟨d0,d1',d2,d3,d4⟩:=HS.out Z hbWZ
       have e7:=hsea5.box.cell 7 rfl
       have HwZ : Hid (Calls Tryz.prog 55 #[.slice ab' B'.length cb'] Z λe w'=>e = .returned (.int .i64 (zt : Nat))/\w'=Z):=by
        rw [<- Hzt.out];exact gj ab' B'.length cb' B' Z hsea5.best.ints
       have hRes : (if fl > (zt : Int) then (o ++ [[(W1 : Int)+1,(k' : Int),(zt : Int),fl]],B',(0 : Int)) else srS (aa P M.toNat mod).ops (aa P M.toNat mod).q m n (gs.map TX.T) (T.map (·.2)) f (W1+1+1) B' k' (o ++ [[(W1 : Int)+1,(k' : Int),(zt : Int),fl]]))=RES:=by
        have h9:=Hres2.out
        rw [HRB.out,<- HB'.out,<- Hk'.out,show ((W1+1 : Nat) : Int)=(W1 : Int)+1 by omega,Hfl.out,Hzt.out] at h9
        exact h9
       have HrV : Hid (rdV o ++ [.int .i64 ((W1 : Int)+1),.int .i64 (k' : Nat),.int .i64 (zt : Nat),.int .i64 fl]=rdV (o ++ [[(W1 : Int)+1,(k' : Int),(zt : Int),fl]])):=by
        show _=_
        rw [yo];rfl
       have HoL : Hid ((o ++ [[(W1 : Int)+1,(k' : Int),(zt : Int),fl]]).length=o.length+1):=by show _=_;simp
       rw [HrV.out] at hown5
       have HBest : Hid (Ints Z ab' B'.length B'/\(0<B'.length->ablk ab' ≠ g/\(a5 ≠ none->ablk ab' ≠ ablk a5))):=⟨hsea5.best.ints,λhn=>⟨λe=>hsea5.best.lo hn (.inl e),λh1 e=>hsea5.best.lo hn (.inr ⟨h1,e⟩)⟩⟩
       obtain ⟨o2,ho2⟩ : ∃o2,o ++ [[(W1 : Int)+1,(k' : Int),(zt : Int),fl]]=o2:=⟨_,rfl⟩
       rw [ho2] at hRes hown5 HoL HrV
       have Hown5:=Z5 hown5
       have Hsea5:=Z5 hsea5
       have HbZ:=Z5 (And.intro hbWZ hVZ)
       clear hown5 hsea5 hM5 hbYZ hbWZ hVZ ho2
       by_cases hst : (zt : Int)<fl
       ·have hd : decide ((zt : Int)<fl)=true:=decide_eq_true hst
        rw [if_pos hst] at hRes
        have HR9 : Hid (dq P M mod m L=(o2,B',0)):=by show _=_;rw [HRES.out,<- hRes]
        have hF:=Below.next HbW.out HbZ.out.1
        clear hRes hst
        go_wp2_with fail
        refine HwZ.out.mono ?_
        rintro e w' ⟨rfl,hw'⟩
        obtain rfl:=hw'.symm
        go_wp2_with fail
        go_quiet (fail)
        go_wp2_with fail
        go_ret3
        exact xI HR9.out hF HoL.out Hown5.out HBest.out.1 (bd.below ⟨_,rfl⟩)
       ·have hd : decide ((zt : Int)<fl)=false:=decide_eq_false hst
        rw [if_neg hst] at hRes
        have HRes:=Z5 hRes
        have hfw : n - (W1+1)=f:=by omega
        clear hRes hst
        go_wp2_with fail
        refine HwZ.out.mono ?_
        rintro e w' ⟨rfl,hw'⟩
        obtain rfl:=hw'.symm
        go_wp2_with fail
        go_roundw
        case rel=>exact ⟨W1+1,a5,c5,o2,ab',cb',B',k',by omega,by go_num,by rw [HoL.out],by rw [HoL.out];exact Hown5.out,Hsea5.out.box,HBest.out,hk'2,by rw [HoL.out];omega,HbZ.out.2,by show srS _ _ _ _ _ _ (n - (W1+1)) _ _ _ _=_;rw [hfw,<- Hfm.out];exact HRes.out⟩
        case measure=>simp [intOf] <;> omega
    ·obtain rfl : W1=n:=by omega
     have hres3:=hres.out
     rw [Nat.sub_self,srS] at hres3
     have HR9 : Hid (dq P M mod m L=(o,B,0)):=by show _=_;rw [HRES.out,<- hres3]
     have d1 : decide ((W1 : Int)+1<=(W1 : Int))=false:=by simp;omega
     have hF:=Below.next HbW.out hbWX
     have e7:=hbox.out.cell 7 rfl
     clear hres3
     go_wp2_with fail
     go_quiet (fail)
     go_wp2_with fail
     go_ret3
     exact xI HR9.out hF rfl howo.out hbest.out.1 (bd.below ⟨_,rfl⟩)
theorem rD (P M : Int) (am : OA) (mn cm : Nat) (mod : Lz) (N : Int) (a : OA) (n c : Nat) (L : Ll) (w : World) (hmod : Ints w am mn mod) (hi : bZ w a n L) :
  Calls Tryz.prog 14 #[.agg #[.int .i64 P,.int .i64 M,.slice am mn cm,.int .i64 N,.slice a n c]] w λe w'=>∃ar nr cr,e = .returned (.tuple #[.slice ar nr cr,.int .i64 (dq P M mod N L).2.2])/\nY w' ar nr (dq P M mod N L).1/\Below w.heap.size w w':=by
 have HRun : Hid (∀V,Below w.heap.size w V->Calls Tryz.prog 47 #[.agg #[.int .i64 P,.int .i64 M,.slice am mn cm,.int .i64 N,.slice a n c]] V (gY P M mod N L V)):=λV hV=>wH P M am mn cm mod N a n c L V (hmod.ah hV) (hi.ah hV)
 obtain ⟨R,hR⟩ : ∃R,dq P M mod N L=R:=⟨_,rfl⟩
 unfold gY at HRun
 rw [hR] at HRun ⊢
 obtain ⟨er,her⟩ : ∃er,R.2.2=er:=⟨_,rfl⟩
 rw [her] at HRun ⊢
 clear hmod hi hR her
 go_enter Tryz.func14,Tryz.ntmps14
 go_wp2_with fail
 obtain ⟨U,hU⟩ : ∃U : World,U=w.alloc (.cells #[.int .i64 P,.int .i64 M,.slice am mn cm,.int .i64 N,.slice a n c] 27):=⟨_,rfl⟩
 rw [<- hU]
 have hbU : Below w.heap.size w U:=by rw [hU];exact an _ _
 clear hU
 refine (HRun.out U hbU).mono ?_
 rintro e w1 ⟨hb1,ar,nr,cr,ab,nb,cb,rfl,h1,h2⟩
 have hF:=Below.next hbU hb1
 have H1:=Z5 h1
 clear h1 h2
 go_wp2_with fail
 go_ret2
 exact ⟨ar,nr,cr,rfl,H1.out,hF⟩
theorem kX (P M : Int) (am : OA) (mn cm : Nat) (mod : Lz) (N : Int) (a : OA) (n c : Nat) (L : Ll) (w : World) (hmod : Ints w am mn mod) (hi : bZ w a n L) :
  Calls Tryz.prog 17 #[.agg #[.int .i64 P,.int .i64 M,.slice am mn cm,.int .i64 N,.slice a n c]] w λe w'=>∃ar nr cr,e = .returned (.tuple #[.slice ar nr cr,.int .i64 (dq P M mod N L).2.2])/\Ints w' ar nr (dq P M mod N L).2.1/\Below w.heap.size w w':=by
 have HRun : Hid (∀V,Below w.heap.size w V->Calls Tryz.prog 47 #[.agg #[.int .i64 P,.int .i64 M,.slice am mn cm,.int .i64 N,.slice a n c]] V (gY P M mod N L V)):=λV hV=>wH P M am mn cm mod N a n c L V (hmod.ah hV) (hi.ah hV)
 obtain ⟨R,hR⟩ : ∃R,dq P M mod N L=R:=⟨_,rfl⟩
 unfold gY at HRun
 rw [hR] at HRun ⊢
 obtain ⟨er,her⟩ : ∃er,R.2.2=er:=⟨_,rfl⟩
 rw [her] at HRun ⊢
 clear hmod hi hR her
 go_enter Tryz.func17,Tryz.ntmps17
 go_wp2_with fail
 obtain ⟨U,hU⟩ : ∃U : World,U=w.alloc (.cells #[.int .i64 P,.int .i64 M,.slice am mn cm,.int .i64 N,.slice a n c] 27):=⟨_,rfl⟩
 rw [<- hU]
 have hbU : Below w.heap.size w U:=by rw [hU];exact an _ _
 clear hU
 refine (HRun.out U hbU).mono ?_
 rintro e w1 ⟨hb1,ar,nr,cr,ab,nb,cb,rfl,h1,h2⟩
 have hF:=Below.next hbU hb1
 have H2:=Z5 h2
 clear h1 h2
 go_wp2_with fail
 go_ret2
 exact ⟨ab,nb,cb,rfl,H2.out,hF⟩
theorem gE (P M : Int) (am : OA) (mn cm : Nat) (mod : Lz) (N : Int) (a : OA) (n c : Nat) (L : Ll) (w : World) (hmod : Ints w am mn mod) (hi : bZ w a n L) :
  Calls Tryz.prog 16 #[.agg #[.int .i64 P,.int .i64 M,.slice am mn cm,.int .i64 N,.slice a n c]] w λe w'=>e = .returned (.tuple #[.int .i64 (bw (dq P M mod N L).2.1 : Nat),.int .i64 (dq P M mod N L).2.2])/\Below w.heap.size w w':=by
 have HRun : Hid (∀V,Below w.heap.size w V->Calls Tryz.prog 47 #[.agg #[.int .i64 P,.int .i64 M,.slice am mn cm,.int .i64 N,.slice a n c]] V (gY P M mod N L V)):=λV hV=>wH P M am mn cm mod N a n c L V (hmod.ah hV) (hi.ah hV)
 obtain ⟨R,hR⟩ : ∃R,dq P M mod N L=R:=⟨_,rfl⟩
 unfold gY at HRun
 rw [hR] at HRun ⊢
 obtain ⟨er,her⟩ : ∃er,R.2.2=er:=⟨_,rfl⟩
 rw [her] at HRun ⊢
 obtain ⟨z,hz⟩ : ∃z,bw R.2.1=z:=⟨_,rfl⟩
 rw [hz]
 have Hz:=Z5 hz
 clear hmod hi hR her hz
 go_enter Tryz.func16,Tryz.ntmps16
 go_wp2_with fail
 obtain ⟨U,hU⟩ : ∃U : World,U=w.alloc (.cells #[.int .i64 P,.int .i64 M,.slice am mn cm,.int .i64 N,.slice a n c] 27):=⟨_,rfl⟩
 rw [<- hU]
 have hbU : Below w.heap.size w U:=by rw [hU];exact an _ _
 clear hU
 refine (HRun.out U hbU).mono ?_
 rintro e w1 ⟨hb1,ar,nr,cr,ab,nb,cb,rfl,h1,h2⟩
 have hF:=Below.next hbU hb1
 have hwt:=gj ab nb cb R.2.1 w1 h2
 rw [Hz.out] at hwt
 have Hwt:=Z5 hwt
 clear hwt
 clear h1 h2
 go_wp2_with fail
 refine Hwt.out.mono ?_
 rintro e w' ⟨rfl,hw'⟩
 obtain rfl:=hw'.symm
 go_wp2_with fail
 go_ret2
 exact ⟨rfl,hF⟩
def Gc (P M : Int) (mod : Lz) (N : Int) (L : Ll) (x : Lz) (ts : Ll) : Int :=
 if aL P M mod N L=0 then (if pJ P M mod N L x=0/\yH P M mod N L x=true/\bw x ≠ 0/\n7 P M mod N L L.length (ry N (bw x)) ts=0 then 0 else 13) else aL P M mod N L
def Fl (P M : Int) (mod : Lz) (N : Int) (L : Ll) (x : Lz) (ts : Ll) : Int:=if Gc P M mod N L x ts=0 then bw x else 0
theorem Ay (P M : Int) (am : OA) (mn cm : Nat) (mod : Lz) (N : Int) (a : OA) (n c : Nat) (L : Ll) (ax : OA) (nx cx : Nat) (x : Lz) (at' : OA) (nt ct : Nat) (ts : Ll) (w : World)
  (hmod : Ints w am mn mod) (hi : bZ w a n L) (hx : Ints w ax nx x) (hts : bZ w at' nt ts) :
  Calls Tryz.prog 27 #[.agg #[.int .i64 P,.int .i64 M,.slice am mn cm,.int .i64 N,.slice a n c],.agg #[.slice ax nx cx,.slice at' nt ct]] w λe w'=>e = .returned (.tuple #[.int .i64 (Fl P M mod N L x ts),.int .i64 (Gc P M mod N L x ts)])/\Below w.heap.size w w':=by
 have hn : L.length=n:=hi.len
 obtain ⟨ce,hce⟩ : ∃ce,aL P M mod N L=ce:=⟨_,rfl⟩
 obtain ⟨we,hwe⟩ : ∃we,pJ P M mod N L x=we:=⟨_,rfl⟩
 obtain ⟨hv,hhv⟩ : ∃hv,yH P M mod N L x=hv:=⟨_,rfl⟩
 obtain ⟨d,hd⟩ : ∃d,bw x=d:=⟨_,rfl⟩
 obtain ⟨ke,hke⟩ : ∃ke,n7 P M mod N L L.length (ry N d) ts=ke:=⟨_,rfl⟩
 obtain ⟨me,hme⟩ : ∃me,Gc P M mod N L x ts=me:=⟨_,rfl⟩
 obtain ⟨mv,hmv⟩ : ∃mv,Fl P M mod N L x ts=mv:=⟨_,rfl⟩
 have HCk : Hid (∀V,Below w.heap.size w V->Calls Tryz.prog 61 #[.agg #[.int .i64 P,.int .i64 M,.slice am mn cm,.int .i64 N,.slice a n c]] V λe w'=>e = .returned (.int .i64 ce)/\Below V.heap.size V w'):=λV hV=>by
  rw [<- hce];exact fb P M am mn cm mod N a n c L V (hmod.ah hV) (hi.ah hV)
 have HHs : Hid (∀V,Below w.heap.size w V->Calls Tryz.prog 35 #[.agg #[.int .i64 P,.int .i64 M,.slice am mn cm,.int .i64 N,.slice a n c],.slice ax nx cx] V λe w'=>e = .returned (.tuple #[.bool hv,.int .i64 we])/\Below V.heap.size V w'):=λV hV=>by
  rw [<- hhv,<- hwe];exact wE P M am mn cm mod N a n c L ax nx cx x V (hmod.ah hV) (hi.ah hV) (hx.ah hV)
 have HWt : Hid (∀V,Below w.heap.size w V->Calls Tryz.prog 55 #[.slice ax nx cx] V λe w'=>e = .returned (.int .i64 (d : Nat))/\w'=V):=λV hV=>by
  rw [<- hd];exact gj ax nx cx x V (hx.ah hV)
 have HCd : Hid (∀V,Below w.heap.size w V->Calls Tryz.prog 62 #[.agg #[.int .i64 P,.int .i64 M,.slice am mn cm,.int .i64 N,.slice a n c],.int .i64 (d : Nat),.agg #[.slice at' nt ct]] V λe w'=>e = .returned (.int .i64 ke)/\Below V.heap.size V w'):=λV hV=>by
  rw [<- hke,hn];exact nW P M am mn cm mod N a n c L (d : Nat) at' nt ct ts V (hmod.ah hV) (hi.ah hV) (hts.ah hV)
 have HME : Hid (me=(if ce=0 then (if we=0/\hv=true/\d ≠ 0/\ke=0 then 0 else 13) else ce)):=by
  show _=_
  rw [<- hme,Gc,hce,hwe,hhv,hd,hke]
 have HMV : Hid (mv=if me=0 then (d : Int) else 0):=by
  show _=_
  rw [<- hmv,Fl,hme,hd]
 rw [hme,hmv]
 clear hmod hi hx hts hce hwe hhv hd hke hme hmv hn
 go_enter Tryz.func27,Tryz.ntmps27
 go_upto_region 1 with fail
 obtain ⟨U,hU⟩ : ∃U : World,U=(w.alloc (.cells #[.int .i64 P,.int .i64 M,.slice am mn cm,.int .i64 N,.slice a n c] 27)).alloc (.cells #[.slice ax nx cx,.slice at' nt ct] 49):=⟨_,rfl⟩
 rw [<- hU]
 have hbU : Below w.heap.size w U:=by rw [hU];exact dH _ _ _
 have x0 : aV U w.heap.size [.int .i64 P,.int .i64 M,.slice am mn cm,.int .i64 N,.slice a n c]:=by rw [hU];exact (aV.new _ _ _ rfl).alloc _
 have y0 : aV U (w.heap.size+1) [.slice ax nx cx,.slice at' nt ct]:=by rw [hU];exact aV.new _ _ _ (by simp)
 have HS : Hid (∀V,Below U.heap.size U V->V.cell? ⟨w.heap.size,0,none⟩=some (.int .i64 P)/\V.cell? ⟨w.heap.size,1,none⟩=some (.int .i64 M)/\V.cell? ⟨w.heap.size,2,none⟩=some (.slice am mn cm)/\V.cell? ⟨w.heap.size,3,none⟩=some (.int .i64 N)/\V.cell? ⟨w.heap.size,4,none⟩=some (.slice a n c) /\
   V.cell? ⟨w.heap.size+1,0,none⟩=some (.slice ax nx cx)/\V.cell? ⟨w.heap.size+1,1,none⟩=some (.slice at' nt ct)):=λV hV=>by
  have x1:=x0.ah hV
  have y1:=y0.ah hV
  exact ⟨x1.cell 0 rfl,x1.cell 1 rfl,x1.cell 2 rfl,x1.cell 3 rfl,x1.cell 4 rfl,y1.cell 0 rfl,y1.cell 1 rfl⟩
 have HbU:=Z5 hbU
 obtain ⟨c0,c1,c2,c3,c4,c5,c6⟩:=HS.out U (Below.refl _ _)
 clear hU hbU x0 y0
 go_wp2_with fail
 refine (HCk.out U HbU.out).mono ?_
 rintro e w1 ⟨rfl,hb1⟩
 have hF1:=Below.next HbU.out hb1
 by_cases h1 : ce=0
 rotate_left
 ·have hE2 : (ce != 0)=true:=by simpa using h1
  have H9 : Hid (mv=0/\me=ce):=by
   have e1 : me=ce:=by rw [HME.out,if_neg h1]
   exact ⟨by rw [HMV.out,e1,if_neg h1],e1⟩
  clear h1
  go_wp2_with fail
  go_ret2
  exact ⟨cO H9.out.1.symm H9.out.2.symm,hF1⟩
 subst h1
 obtain ⟨d0,d1,d2,d3,d4,d5,d6⟩:=HS.out w1 hb1
 clear c0 c1 c2 c3 c4 c5 c6
 go_wp2_with fail
 refine (HHs.out w1 hF1).mono ?_
 rintro e w2 ⟨rfl,hb2⟩
 have hF2:=Below.next hF1 hb2
 obtain ⟨c0,c1,c2,c3,c4,c5,c6⟩:=HS.out w2 (Below.next hb1 hb2)
 clear d0 d1 d2 d3 d4 d5 d6
 go_wp2_with fail
 refine (HWt.out w2 hF2).mono ?_
 rintro e w' ⟨rfl,hw'⟩
 obtain rfl:=hw'.symm
 have H13 : Hid (¬ (we=0/\hv=true/\d ≠ 0/\ke=0)->mv=0/\me=13):=λh=>by
  have e1 : me=13:=by rw [HME.out];first | rw [if_pos trivial,if_neg h] | rw [if_pos rfl,if_neg h]
  exact ⟨by rw [HMV.out,e1,if_neg (by decide)],e1⟩
 by_cases h2 : we=0
 rotate_left
 ·have hE2 : (we != 0)=true:=by simpa using h2
  have H9:=Z5 (H13.out λh=>h2 h.1)
  clear h2
  go_wp2_with fail
  go_ret2
  exact ⟨cO H9.out.1.symm H9.out.2.symm,hF2⟩
 subst h2
 cases hv
 ·have H9:=Z5 (H13.out λh=>by cases h.2.1)
  go_wp2_with fail
  go_ret2
  exact ⟨cO H9.out.1.symm H9.out.2.symm,hF2⟩
 by_cases h3 : d=0
 ·have H9:=Z5 (H13.out λh=>h.2.2.1 h3)
  have e3 : ((d : Int) == 0)=true:=by simp;omega
  clear h3
  go_wp2_with fail
  go_ret2
  exact ⟨cO H9.out.1.symm H9.out.2.symm,hF2⟩
 have e3 : ((d : Int) == 0)=false:=by simp;omega
 go_wp2_with fail
 refine (HCd.out _ hF2).mono ?_
 rintro e w4 ⟨rfl,hb4⟩
 have hF4:=Below.next hF2 hb4
 by_cases h4 : ke=0
 ·subst h4
  have H9 : Hid (mv=(d : Int)/\me=0):=by
   have e1 : me=0:=by rw [HME.out];simp [h3]
   exact ⟨by rw [HMV.out,e1];rfl,e1⟩
  clear h3
  go_wp2_with fail
  go_ret2
  exact ⟨cO H9.out.1.symm H9.out.2.symm,hF4⟩
 ·have H9:=Z5 (H13.out λh=>h4 h.2.2.2)
  have e4 : (ke != 0)=true:=by simpa using h4
  clear h3 h4
  go_wp2_with fail
  go_ret2
  exact ⟨cO H9.out.1.symm H9.out.2.symm,hF4⟩
end Go.Proofs.YtcfmiocdlcapoaaGreat
