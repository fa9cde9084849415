import Derived.Test.YtcfmiocdlcapoaaGreatMCS24
import Derived.Test.YtcfmiocdlcapoaaGreatMCS22
namespace Go.Proofs.YtcfmiocdlcapoaaGreat
set_option linter.all false
set_option maxRecDepth 100000
set_option maxHeartbeats 8000000
open Go.RowKit Go.Proofs.Tryz
theorem zl (P M : Int) (am : OA) (mn cm : Nat) (mod : Lz) (k : Nat) (a : OA) (n c : Nat) (A : Ll) (m : Nat) (ab : OA) (cb : Nat) (B : Ll) (w : World) (hmod : Ints w am mn mod) (hi : ch w a n A) (hb : ch w ab k B)
  (hfB : bp P M mod=true) (hA : cw (ah P M.toNat mod).El k A) (hBr : cw (ah P M.toNat mod).El m B) (hk : k<=64) (hm1 : 1<=m) (hm : m<=64) (hn : n<=64) :
  Calls prog 114 #[.agg #[.int .i64 P,.int .i64 M,.slice am mn cm],.agg #[.int .i64 k,.slice a n c],.agg #[.int .i64 m,.slice ab k cb]] w
   λe w'=>∃a1 c1,e = .returned (.tuple #[.agg #[.int .i64 m,.slice a1 n c1],.int .i64 0])/\cH w.heap.size w' a1 n (yE (ah P M.toNat mod).ops m A B)/\NS w w':=by
 have hAl:=hi.len;have hBl:=hb.len;have F:=fq hfB;have hmE1 : eW (ah P M.toNat mod).q k A=0:=(fo (jP hfB (show k<=256 by omega) (show A.length<=256 by omega) hA)).2;have hmE2 : eW (ah P M.toNat mod).q m B=0:=(fo (jP hfB (show m<=256 by omega) (show B.length<=256 by omega) hBr)).2;have hpla:=hi.pl;have HTw:=Z5 (λV (hV : NS w V)=>Et P M am mn cm mod k a n c A m ab k cb B V (hmod.aa hV) (hi.aa hV) (hb.aa hV) hfB hA hBr (by omega) (by omega) (by omega) (by omega));have HCo : Hid (∀V ra rc (l : Lz),NS w V->Ints V ra k l->l.length=k->(∀x ∈ l,(ah P M.toNat mod).El x)->Calls prog 178 #[.agg #[.int .i64 P,.int .i64 M,.slice am mn cm],.slice ra k rc,.slice ab k cb,.int .i64 m] V λe w' =>
   ∃a1 c1,e = .returned (.slice a1 m c1)/\w'.ownsRow V.heap.size 3 1 (.slice a1 m c1) m ((bw (ah P M.toNat mod).ops m l B k).map (Value.int .i64))/\NS V w'):=λV ra rc l hV hl hll hle=>by
  obtain ⟨M',rfl,hel,_,hF,hAg,_⟩:=fU hfB;obtain ⟨M2,e2,hrf,hmods⟩:=eK (by rw [da];exact hfB);obtain rfl : M'=M2:=by omega
  rw [Jd] at hBr hle ⊢;rw [<- hel] at hBr hle;have hxe : ∀t,t<B.length->e9 P M' (nth l t):=λt ht=>hle _ (aK (by rw [hll];omega));have hag:=te hF hAg hBr hxe;rw [hag k (by omega)];exact uK P M' am mn cm mod ra rc l ab k cb B m V ⟨hrf,hmods V am mn (hmod.aa hV)⟩ hl (hb.aa hV) (λt ht=>hxe t (by omega)) hBr (λt ht=>by rw [<- hag t (by omega)];exact (jc hF hBr hxe t (by omega)).1) (by omega) (by omega)
 obtain ⟨G,hGG⟩ : ∃G,ah P M.toNat mod=G:=⟨_,rfl⟩
 rw [hGG] at hA hBr F hmE1 hmE2 HCo ⊢;obtain ⟨L2,hL2⟩ : ∃L2,yE G.ops m A B=L2:=⟨_,rfl⟩
 have HL2l : Hid (L2.length=n):=by show _=_;rw [<- hL2,yE,Jl];exact hAl
 have HLk : Hid (∀j,j<n->L2.take (j+1)=L2.take j ++ [bw G.ops m (an A j) B k]):=λj hj=>by
  have hj' : j<L2.length:=by rw [HL2l.out];exact hj
  rw [Ja hj',<- aE hj',<- hL2,yE,nL _ A (by omega),hBl]
 rw [hL2];have HAr : Hid (∀j,j<n->(an A j).length=k/\∀x ∈ an A j,G.El x):=λj hj=>hA.row (by omega);have HBr:=Z5 hBr;have HFl:=Z5 F;have HBl:=Z5 hBl;have HB:=Z5 hfB;have HmE:=Z5 (Jg hmE1 hmE2);have HGG:=Z5 hGG;clear hA hBr F hAl hBl hfB hmE1 hmE2 hGG hL2;go_enter func114,ntmps114;go_wp2_with fail;obtain ⟨W,hW⟩ : ∃W : World,W=((((w.alloc (.cells #[.int .i64 P,.int .i64 M,.slice am mn cm] 24)).alloc (.cells #[.int .i64 k,.slice a n c] 82)).alloc (.cells #[.int .i64 m,.slice ab k cb] 82)).alloc (.cells #[.int .i64 0,.slice none 0 0] 82)):=⟨_,rfl⟩
 rw [<- hW];have hbW : NS w W:=by rw [hW];exact ((((I1 _ _).alloc (IZ _) _).alloc (by simp) _).alloc (by simp;omega) _).alloc (by simp;omega) _
 have hsW : W.heap.size=w.heap.size+4:=by rw [hW];simp
 have x0 : aZ W w.heap.size [.int .i64 P,.int .i64 M,.slice am mn cm]:=by rw [hW];exact (((Nj _ _ _ rfl).alloc _).alloc _).alloc _
 have x1 : aZ W (w.heap.size+1) [.int .i64 k,.slice a n c]:=by rw [hW];exact ((Nj _ _ _ (by simp)).alloc _).alloc _
 have x2 : aZ W (w.heap.size+1+1) [.int .i64 m,.slice ab k cb]:=by rw [hW];exact (Nj _ _ _ (by simp)).alloc _
 have x3 : aZ W (w.heap.size+1+1+1) [.int .i64 0,.slice none 0 0]:=by rw [hW];exact Nj _ _ _ (by simp)
 have HX:=Z5 (Jg x1 (Jg x2 x3));have HX0:=Z5 x0;have HsW:=Z5 hsW;have HbW:=Z5 hbW;clear hW hsW x0 x1 x2 x3 hmod;refine (HTw.out W hbW).mono ?_;rintro e w1 ⟨rfl,hb1⟩;have hbw1:=Nh hbW hb1;have r1:=HX.out.1.aa hb1;have r2:=HX.out.2.1.aa hb1;have m0:=r1.cell 0 rfl;have m1:=r1.cell 1 rfl;have p0:=r2.cell 0 rfl;have p1:=r2.cell 1 rfl;have hkk : ((k : Int) != k)=false:=by simp
 clear hbW r1 r2 HTw;go_upto_region 6 with fail;obtain ⟨g,hg⟩ : ∃g,w1.heap.size=g:=⟨_,rfl⟩
 have HGs:=Z5 hg;clear hg;go_cut [9] (λv wx=>v = .pointer (some ⟨w1.heap.size,0,none⟩)/\kB wx w1.heap.size (.int .i64 m) none 0 0 [] []/\NS w1 wx);case first =>
  go_wp2_with fail
  go_meet
  exact ⟨rfl,kB.start (Nj w1 [.int .i64 m,.slice none 0 0] _ rfl),aw _ _⟩
 obtain ⟨rfl,hO0,hbc⟩:=hcut;generalize wc=U at *;have hs3:=HGs.out;rw [hs3] at hO0 ⊢;have HbU:=Z5 (Nh hb1 hbc);have HbU1:=Z5 hbc;have HS : Hid (∀V,NS W V->V.cell? ⟨w.heap.size+1,0,none⟩=some (.int .i64 k)/\V.cell? ⟨w.heap.size+1,1,none⟩=some (.slice a n c)/\V.cell? ⟨w.heap.size+1+1,0,none⟩=some (.int .i64 m)/\V.cell? ⟨w.heap.size+1+1,1,none⟩=some (.slice ab k cb)/\V.cell? ⟨w.heap.size,0,none⟩=some (.int .i64 P)/\V.cell? ⟨w.heap.size,1,none⟩=some (.int .i64 M)/\V.cell? ⟨w.heap.size,2,none⟩=some (.slice am mn cm)):=λV hV=>by have r1:=HX.out.1.aa hV;have r2:=HX.out.2.1.aa hV;have r0:=HX0.out.aa hV;exact ⟨r1.cell 0 rfl,r1.cell 1 rfl,r2.cell 0 rfl,r2.cell 1 rfl,r0.cell 0 rfl,r0.cell 1 rfl,r0.cell 2 rfl⟩
 clear m0 m1 p0 p1;obtain ⟨m0,m1,p0,p1,_,_,_⟩:=HS.out U HbU.out;have hgU:=hO0.lt;have hgW : W.heap.size<=g:=by have:=hb1.size;omega
 have hw1g : w1.heap.size<=g:=by omega
 clear hbc hs3;go_wp2_with fail;clear m0 m1 p0 p1;go_loopw [10] (λiv wr=>∃(j : Nat) (a1 : OA) (c1 : Nat) (Rr : La),j<=n/\iv = .int .i64 j/\kB wr g (.int .i64 m) a1 j c1 Rr (L2.take j)/\Below g U wr) (λiv _=>n - (intOf iv).toNat);case atStart=>exact ⟨0,none,0,[],I7 _,rfl,by simpa using hO0,I1 _ _⟩
 case round =>
  clear hO0
  obtain ⟨j,a1,c1,Rr,hj,rfl,hO,hbr⟩:=hrel
  have hbWr:=Ju HbU.out (hbr.mono hgW)
  have hbwr:=Nh HbW.out hbWr
  have hgr:=hO.lt
  by_cases hltj : j<n
  ·obtain ⟨ra,rn,rc,hcell0,hrow0⟩:=hi.cell j hltj
   have hcell:=aB hbwr hcell0
   have hrow:=hrow0.aa hbwr
   have hA:=HAr.out j hltj
   have hrn : rn=k:=by rw [<- hrow.len];exact hA.1
   rw [hrn] at hcell hrow hcell0
   have Htk:=Z5 (HLk.out j hltj)
   obtain ⟨l,hl⟩ : ∃l,an A j=l:=⟨_,rfl⟩
   rw [hl] at Htk hrow hA
   have Hvec : Hid (∀V,NS wr V->Calls prog 178 #[.agg #[.int .i64 P,.int .i64 M,.slice am mn cm],.slice ra k rc,.slice ab k cb,.int .i64 m] V λe w' =>
     ∃a1 c1,e = .returned (.slice a1 m c1)/\w'.ownsRow V.heap.size 3 1 (.slice a1 m c1) m ((bw G.ops m l B k).map (Value.int .i64))/\NS V w'):=λV hV =>
    HCo.out V ra rc l (Nh hbwr hV) (hrow.aa hV) hA.1 hA.2
   have hvl : (bw G.ops m l B k).length=m:=(jc HFl.out HBr.out (x:=l) (λt ht=>hA.2 _ (aK (by rw [hA.1,<- HBl.out];exact ht))) k (by rw [HBl.out];exact IZ _)).1.1
   obtain ⟨pk,hpk⟩ : ∃pk,bw G.ops m l B k=pk:=⟨_,rfl⟩
   rw [hpk] at Hvec hvl Htk
   have Hvl:=Z5 hvl
   have Hbr:=Z5 hbr
   have HbWr:=Z5 hbWr
   have HO:=Z5 hO
   have g1:=hO.c1
   have HSj : Hid (∀V,NS W V->V.cell? ⟨w.heap.size+1,0,none⟩=some (.int .i64 k)/\V.cell? ⟨w.heap.size+1,1,none⟩=some (.slice a n c)/\V.cell? ⟨w.heap.size+1+1,0,none⟩=some (.int .i64 m)/\V.cell? ⟨w.heap.size+1+1,1,none⟩=some (.slice ab k cb)/\V.cell? ⟨w.heap.size,0,none⟩=some (.int .i64 P)/\V.cell? ⟨w.heap.size,1,none⟩=some (.int .i64 M)/\V.cell? ⟨w.heap.size,2,none⟩=some (.slice am mn cm)/\V.cell? ⟨aj a,aL a+j,none⟩=some (.slice ra k rc)):=λV hV=>by obtain ⟨q1,q2,q3,q4,q5,q6,q7⟩:=HS.out V hV;exact ⟨q1,q2,q3,q4,q5,q6,q7,aB (Nh HbW.out hV) hcell0⟩
   obtain ⟨q0,q1,p0,p1,f0,f1,f2⟩:=HS.out wr hbWr
   clear hl hrn hpk hvl hA hrow hrow0 hcell0 hbr hbWr hbwr hO
   go_wp2_with fail
   refine wp_region_held_drew (S:=(λV=>V.cell? ⟨w.heap.size+1,0,none⟩=some (.int .i64 k)/\V.cell? ⟨w.heap.size+1,1,none⟩=some (.slice a n c)/\V.cell? ⟨w.heap.size+1+1,0,none⟩=some (.int .i64 m)/\V.cell? ⟨w.heap.size+1+1,1,none⟩=some (.slice ab k cb)/\V.cell? ⟨w.heap.size,0,none⟩=some (.int .i64 P)/\V.cell? ⟨w.heap.size,1,none⟩=some (.int .i64 M)/\V.cell? ⟨w.heap.size,2,none⟩=some (.slice am mn cm)/\V.cell? ⟨aj a,aL a+j,none⟩=some (.slice ra k rc))) (by kernel_rfl) ?_ (λhHeld=>?_)
   ·exact HSj.out _ HbWr.out.drew
   refine wpAnyH_take (i:=0) (v:=?_) (by simp only [Je,I9,Jb];rfl) (by kernel_rfl) (by kernel_rfl) (by kernel_rfl) (by exact λ_ _ _ h=>h) (JC ⟨by rfl,?_⟩) (by assumption) ?_
   rotate_left
   ·(intro w hSw;(try dsimp only at hSw);go_split_ands;go_simp;first | done | with_reducible rfl)
   try simp only [Act.put,I0,I3,I4]
   refine wpAnyH_take (i:=2) (v:=?_) (by simp only [Je,I9,Jb];rfl) (by kernel_rfl) (by kernel_rfl) (by kernel_rfl) (by exact λ_ _ _ h=>h) (JC ⟨by rfl,?_⟩) (by assumption) ?_
   rotate_left
   ·(intro w hSw;(try dsimp only at hSw);go_split_ands;go_simp;first | done | with_reducible rfl)
   try simp only [Act.put,I0,I3,I4]
   refine wpAnyH_take (i:=3) (v:=?_) (by simp only [Je,I9,Jb];rfl) (by kernel_rfl) (by kernel_rfl) (by kernel_rfl) (by exact λ_ _ _ h=>h) (JC ⟨by rfl,?_⟩) (by assumption) ?_
   rotate_left
   ·(intro w hSw;(try dsimp only at hSw);go_split_ands;go_simp;first | done | with_reducible rfl)
   try simp only [Act.put,I0,I3,I4]
   refine wpAnyH_take (i:=4) (v:=?_) (by simp only [Je,I9,Jb];rfl) (by kernel_rfl) (by kernel_rfl) (by kernel_rfl) (by exact λ_ _ _ h=>h) (JC ⟨by rfl,?_⟩) (by assumption) ?_
   rotate_left
   ·(intro w hSw;(try dsimp only at hSw);go_split_ands;go_simp;first | done | with_reducible rfl)
   try simp only [Act.put,I0,I3,I4]
   refine wpAnyH_take (i:=5) (v:=?_) (by simp only [Je,I9,Jb];rfl) (by kernel_rfl) (by kernel_rfl) (by kernel_rfl) (by exact λ_ _ _ h=>h) (JC ⟨by rfl,?_⟩) (by assumption) ?_
   rotate_left
   ·(intro w hSw;(try dsimp only at hSw);go_split_ands;go_simp;first | done | with_reducible rfl)
   try simp only [Act.put,I0,I3,I4]
   refine wpAnyH_take (i:=6) (v:=?_) (by simp only [Je,I9,Jb];rfl) (by kernel_rfl) (by kernel_rfl) (by kernel_rfl) (by exact λ_ _ _ h=>h) (JC ⟨by rfl,?_⟩) (by assumption) ?_
   rotate_left
   ·(intro w hSw;(try dsimp only at hSw);go_split_ands;go_simp;first | done | with_reducible rfl)
   try simp only [Act.put,I0,I3,I4]
   refine wpAnyH_take (i:=7) (v:=?_) (by simp only [Je,I9,Jb];rfl) (by kernel_rfl) (by kernel_rfl) (by kernel_rfl) (by exact λ_ _ _ h=>h) (JC ⟨by rfl,?_⟩) (by assumption) ?_
   rotate_left
   ·(intro w hSw;(try dsimp only at hSw);go_split_ands;go_simp;first | done | with_reducible rfl)
   try simp only [Act.put,I0,I3,I4]
   refine wpAnyH_take (i:=8) (v:=?_) (by simp only [Je,I9,Jb];rfl) (by kernel_rfl) (by kernel_rfl) (by kernel_rfl) (by exact λ_ _ _ h=>h) (JC ⟨by rfl,?_⟩) (by assumption) ?_
   rotate_left
   ·(intro w hSw;(try dsimp only at hSw);go_split_ands;go_simp;first | done | with_reducible rfl)
   try simp only [Act.put,I0,I3,I4]
   refine wpAnyH_take (i:=9) (v:=?_) (by simp only [Je,I9,Jb];rfl) (by kernel_rfl) (by kernel_rfl) (by kernel_rfl) (by exact λ_ _ _ h=>h) (JC ⟨by rfl,?_⟩) (by assumption) ?_
   rotate_left
   ·(intro w hSw;(try dsimp only at hSw);go_split_ands;go_simp;first | done | with_reducible rfl)
   try simp only [Act.put,I0,I3,I4]
   refine wpAnyH_take (i:=10) (v:=?_) (by simp only [Je,I9,Jb];rfl) (by kernel_rfl) (by kernel_rfl) (by kernel_rfl) (by exact λ_ _ _ h=>h) (JC ⟨by rfl,?_⟩) (by assumption) ?_
   rotate_left
   ·(intro w hSw;(try dsimp only at hSw);go_split_ands;go_simp;first | done | with_reducible rfl)
   try simp only [Act.put,I0,I3,I4]
   refine wpAnyH_take (i:=11) (v:=?_) (by simp only [Je,I9,Jb];rfl) (by kernel_rfl) (by kernel_rfl) (by kernel_rfl) (by exact λ_ _ _ h=>h) (JC ⟨by rfl,?_⟩) (by assumption) ?_
   rotate_left
   ·(intro w hSw;(try dsimp only at hSw);go_split_ands;go_simp;first | done | with_reducible rfl)
   try simp only [Act.put,I0,I3,I4]
   refine wpAnyH_ready (rs:=[1,12]) (by kernel_rfl) (by simp) ?_
   refine AllReadyH.cons rfl (λK hK=>?_) (AllReadyH.cons rfl (λK hK=>?_) (AllReadyH.nil))
   ·go_simp
    try go_wp2_with fail
    refine hK.out _ _ ?_ (λhHeld=>?_)
    ·exact HSj.out _ (by first | exact HbWr.out | exact HbWr.out.drew | exact hbA | exact hbB)
    clear hK K
    try simp only [Act.put,I0,I3,I4]
    refine wpAnyH_ready (rs:=[12]) (by kernel_rfl) (by simp) ?_
    refine AllReadyH.cons rfl (λK hK=>?_) (AllReadyH.nil)
    ·go_simp
     refine (Hvec.out _ (I1 _ _).drew).mono ?_;rintro e w4 ⟨a4,c4,rfl,hown4,hb4⟩
     go_wp2_with fail
     have hb4':=Nh (I1 wr.heap.size wr).drew hb4
     have hs4:=HO.out.aa hb4'
     have g2:=hs4.c1
     have g3:=aY hs4.c1 (.cells #[.slice a4 m c4] 22)
     have hbA:=Ju HbWr.out (hb4'.mono HbWr.out.size)
     have hbB:=Nl hbA (.cells #[.slice a4 m c4] 22)
     refine hK.out _ _ ?_ (λhHeld=>?_)
     ·exact HSj.out _ hbA
     clear hK K
     try simp only [Act.put,I0,I3,I4]
     refine wpAnyH_ready (rs:=[13]) (by kernel_rfl) (by simp) ?_
     refine AllReadyH.cons rfl (λK hK=>?_) (AllReadyH.nil)
     ·go_simp
      try go_wp2_with fail
      refine hK.out _ _ ?_ (λhHeld=>?_)
      ·exact HSj.out _ hbB
      clear hK K
      try simp only [Act.put,I0,I3,I4]
      refine wpAnyH_ready (rs:=[14]) (by kernel_rfl) (by simp) ?_
      refine AllReadyH.cons rfl (λK hK=>?_) (AllReadyH.nil)
      ·skip
       refine bH (by rfl) (.tmp 37) (.tmp 49) 25 22 (by rfl) (.slice none 0 0) 24 underlying25 di (by rfl) (g+1) a1 j c1 (List.zipWith eY Rr (L2.take j)) (by rfl) ((hs4.om.aa (aw _ _)).own) (some ⟨w4.heap.size,0,none⟩) 1 1 [.slice a4 m c4] (by rfl) (λ_=>rfl) rfl (by intro y hy;obtain rfl : y=0:=(by omega);exact bM _ _ _ rfl) (by intro y hy;simp at hy;subst hy;rfl) (by omega) (by unfold maxLen;omega) (by have e2:=hs4.lt;simp;omega) ?_;intro a5 c5 w5 hown5 hgr5 hap5
       have k5:=(hs4.jz hgr5).2.1
       have f5:=(hs4.jz hgr5).2.2
       have hb5 : NS W w5:=Nk hbB ((hs4.om.aa (aw _ _)).own) hgr5 (by omega) (by have e2:=hs4.lt;simp;omega)
       refine hK.out _ _ ?_ (λhHeld=>?_)
       ·exact HSj.out _ hb5
       clear hK K
       try simp only [Act.put,I0,I3,I4]
       refine wpAnyH_take (i:=15) (v:=?_) (by simp only [Je,I9,Jb];rfl) (by kernel_rfl) (by kernel_rfl) (by kernel_rfl) (by exact λ_ _ _ h=>h) (JC ⟨by rfl,?_⟩) (by assumption) ?_
       rotate_left
       ·(intro w hSw;(try dsimp only at hSw);go_split_ands;go_simp;first | done | with_reducible rfl)
       try simp only [Act.put,I0,I3,I4]
       refine wpAnyH_ready (rs:=[16]) (by kernel_rfl) (by simp) ?_
       refine AllReadyH.cons rfl (λK hK=>?_) (AllReadyH.nil)
       ·go_simp
        try go_wp2_with fail
        refine hK.out _ _ ?_ (λhHeld=>?_)
        ·exact HSj.out _ (hb5.setCell (by simp;omega) _)
        clear hK K
        try simp only [Act.put,I0,I3,I4]
        refine wpAnyH_done (by kernel_rfl) ?_ _
        go_wp2_with fail
        go_roundw
        case rel =>
         have hra : a4 ≠ none->¬ bS a1 Rr (aj a4):=λh0 hI=>by have h1:=(aM hown4 h0).1;have h2:=(HO.out.om.lt _ hI).2;have h3 : wr.drew.heap.size=wr.heap.size:=rfl;omega
         obtain ⟨hP,hbP⟩:=hs4.push Hvl.out (aU hown4 (show g+1<=wr.drew.heap.size from hgr)) hra hown5 hgr5 hap5
         exact ⟨j+1,a5,c5,_,by omega,by go_num,by rw [Htk.out];exact hP,Ju Hbr.out ((hb4'.mono (by omega)).trans hbP)⟩
        case measure=>simp [intOf] <;> omega
   ·go_simp
    refine (Hvec.out _ (I1 _ _).drew).mono ?_;rintro e w4 ⟨a4,c4,rfl,hown4,hb4⟩
    go_wp2_with fail
    have hb4':=Nh (I1 wr.heap.size wr).drew hb4
    have hs4:=HO.out.aa hb4'
    have g2:=hs4.c1
    have g3:=aY hs4.c1 (.cells #[.slice a4 m c4] 22)
    have hbA:=Ju HbWr.out (hb4'.mono HbWr.out.size)
    have hbB:=Nl hbA (.cells #[.slice a4 m c4] 22)
    refine hK.out _ _ ?_ (λhHeld=>?_)
    ·exact HSj.out _ hbA
    clear hK K
    try simp only [Act.put,I0,I3,I4]
    refine wpAnyH_ready (rs:=[1,13]) (by kernel_rfl) (by simp) ?_
    refine AllReadyH.cons rfl (λK hK=>?_) (AllReadyH.cons rfl (λK hK=>?_) (AllReadyH.nil))
    ·go_simp
     try go_wp2_with fail
     refine hK.out _ _ ?_ (λhHeld=>?_)
     ·exact HSj.out _ (by first | exact HbWr.out | exact HbWr.out.drew | exact hbA | exact hbB)
     clear hK K
     try simp only [Act.put,I0,I3,I4]
     refine wpAnyH_ready (rs:=[13]) (by kernel_rfl) (by simp) ?_
     refine AllReadyH.cons rfl (λK hK=>?_) (AllReadyH.nil)
     ·go_simp
      try go_wp2_with fail
      refine hK.out _ _ ?_ (λhHeld=>?_)
      ·exact HSj.out _ hbB
      clear hK K
      try simp only [Act.put,I0,I3,I4]
      refine wpAnyH_ready (rs:=[14]) (by kernel_rfl) (by simp) ?_
      refine AllReadyH.cons rfl (λK hK=>?_) (AllReadyH.nil)
      ·skip
       refine bH (by rfl) (.tmp 37) (.tmp 49) 25 22 (by rfl) (.slice none 0 0) 24 underlying25 di (by rfl) (g+1) a1 j c1 (List.zipWith eY Rr (L2.take j)) (by rfl) ((hs4.om.aa (aw _ _)).own) (some ⟨w4.heap.size,0,none⟩) 1 1 [.slice a4 m c4] (by rfl) (λ_=>rfl) rfl (by intro y hy;obtain rfl : y=0:=(by omega);exact bM _ _ _ rfl) (by intro y hy;simp at hy;subst hy;rfl) (by omega) (by unfold maxLen;omega) (by have e2:=hs4.lt;simp;omega) ?_;intro a5 c5 w5 hown5 hgr5 hap5
       have k5:=(hs4.jz hgr5).2.1
       have f5:=(hs4.jz hgr5).2.2
       have hb5 : NS W w5:=Nk hbB ((hs4.om.aa (aw _ _)).own) hgr5 (by omega) (by have e2:=hs4.lt;simp;omega)
       refine hK.out _ _ ?_ (λhHeld=>?_)
       ·exact HSj.out _ hb5
       clear hK K
       try simp only [Act.put,I0,I3,I4]
       refine wpAnyH_take (i:=15) (v:=?_) (by simp only [Je,I9,Jb];rfl) (by kernel_rfl) (by kernel_rfl) (by kernel_rfl) (by exact λ_ _ _ h=>h) (JC ⟨by rfl,?_⟩) (by assumption) ?_
       rotate_left
       ·(intro w hSw;(try dsimp only at hSw);go_split_ands;go_simp;first | done | with_reducible rfl)
       try simp only [Act.put,I0,I3,I4]
       refine wpAnyH_ready (rs:=[16]) (by kernel_rfl) (by simp) ?_
       refine AllReadyH.cons rfl (λK hK=>?_) (AllReadyH.nil)
       ·go_simp
        try go_wp2_with fail
        refine hK.out _ _ ?_ (λhHeld=>?_)
        ·exact HSj.out _ (hb5.setCell (by simp;omega) _)
        clear hK K
        try simp only [Act.put,I0,I3,I4]
        refine wpAnyH_done (by kernel_rfl) ?_ _
        go_wp2_with fail
        go_roundw
        case rel =>
         have hra : a4 ≠ none->¬ bS a1 Rr (aj a4):=λh0 hI=>by have h1:=(aM hown4 h0).1;have h2:=(HO.out.om.lt _ hI).2;have h3 : wr.drew.heap.size=wr.heap.size:=rfl;omega
         obtain ⟨hP,hbP⟩:=hs4.push Hvl.out (aU hown4 (show g+1<=wr.drew.heap.size from hgr)) hra hown5 hgr5 hap5
         exact ⟨j+1,a5,c5,_,by omega,by go_num,by rw [Htk.out];exact hP,Ju Hbr.out ((hb4'.mono (by omega)).trans hbP)⟩
        case measure=>simp [intOf] <;> omega
    ·go_simp
     try go_wp2_with fail
     refine hK.out _ _ ?_ (λhHeld=>?_)
     ·exact HSj.out _ hbB
     clear hK K
     try simp only [Act.put,I0,I3,I4]
     refine wpAnyH_ready (rs:=[1]) (by kernel_rfl) (by simp) ?_
     refine AllReadyH.cons rfl (λK hK=>?_) (AllReadyH.nil)
     ·go_simp
      try go_wp2_with fail
      refine hK.out _ _ ?_ (λhHeld=>?_)
      ·exact HSj.out _ (by first | exact HbWr.out | exact HbWr.out.drew | exact hbA | exact hbB)
      clear hK K
      try simp only [Act.put,I0,I3,I4]
      refine wpAnyH_ready (rs:=[14]) (by kernel_rfl) (by simp) ?_
      refine AllReadyH.cons rfl (λK hK=>?_) (AllReadyH.nil)
      ·skip
       refine bH (by rfl) (.tmp 37) (.tmp 49) 25 22 (by rfl) (.slice none 0 0) 24 underlying25 di (by rfl) (g+1) a1 j c1 (List.zipWith eY Rr (L2.take j)) (by rfl) ((hs4.om.aa (aw _ _)).own) (some ⟨w4.heap.size,0,none⟩) 1 1 [.slice a4 m c4] (by rfl) (λ_=>rfl) rfl (by intro y hy;obtain rfl : y=0:=(by omega);exact bM _ _ _ rfl) (by intro y hy;simp at hy;subst hy;rfl) (by omega) (by unfold maxLen;omega) (by have e2:=hs4.lt;simp;omega) ?_;intro a5 c5 w5 hown5 hgr5 hap5
       have k5:=(hs4.jz hgr5).2.1
       have f5:=(hs4.jz hgr5).2.2
       have hb5 : NS W w5:=Nk hbB ((hs4.om.aa (aw _ _)).own) hgr5 (by omega) (by have e2:=hs4.lt;simp;omega)
       refine hK.out _ _ ?_ (λhHeld=>?_)
       ·exact HSj.out _ hb5
       clear hK K
       try simp only [Act.put,I0,I3,I4]
       refine wpAnyH_take (i:=15) (v:=?_) (by simp only [Je,I9,Jb];rfl) (by kernel_rfl) (by kernel_rfl) (by kernel_rfl) (by exact λ_ _ _ h=>h) (JC ⟨by rfl,?_⟩) (by assumption) ?_
       rotate_left
       ·(intro w hSw;(try dsimp only at hSw);go_split_ands;go_simp;first | done | with_reducible rfl)
       try simp only [Act.put,I0,I3,I4]
       refine wpAnyH_ready (rs:=[16]) (by kernel_rfl) (by simp) ?_
       refine AllReadyH.cons rfl (λK hK=>?_) (AllReadyH.nil)
       ·go_simp
        try go_wp2_with fail
        refine hK.out _ _ ?_ (λhHeld=>?_)
        ·exact HSj.out _ (hb5.setCell (by simp;omega) _)
        clear hK K
        try simp only [Act.put,I0,I3,I4]
        refine wpAnyH_done (by kernel_rfl) ?_ _
        go_wp2_with fail
        go_roundw
        case rel =>
         have hra : a4 ≠ none->¬ bS a1 Rr (aj a4):=λh0 hI=>by have h1:=(aM hown4 h0).1;have h2:=(HO.out.om.lt _ hI).2;have h3 : wr.drew.heap.size=wr.heap.size:=rfl;omega
         obtain ⟨hP,hbP⟩:=hs4.push Hvl.out (aU hown4 (show g+1<=wr.drew.heap.size from hgr)) hra hown5 hgr5 hap5
         exact ⟨j+1,a5,c5,_,by omega,by go_num,by rw [Htk.out];exact hP,Ju Hbr.out ((hb4'.mono (by omega)).trans hbP)⟩
        case measure=>simp [intOf] <;> omega
  ·obtain rfl : j=n:=by omega
   rw [I8 (by rw [HL2l.out];exact IZ _)] at hO
   obtain ⟨q0,q1,p0,p1,_,_,_⟩:=HS.out wr hbWr
   have g0:=hO.c0
   have g1:=hO.c1
   have z6:=HX.out.2.2.aa hbWr
   have z0:=z6.cell 0 rfl
   have z1:=z6.cell 1 rfl
   have f0:=z6.frozen 0
   have f1:=z6.frozen 1
   have hs:=HsW.out
   have hMN : cH (g+1) wr a1 j L2:=NG hO.om
   have HF:=Z5 (Jg (((hMN.setCell (p:=⟨w.heap.size+1+1+1,0,none⟩) (by simp;omega) (.int .i64 m)).setCell (p:=⟨w.heap.size+1+1+1,1,none⟩) (by simp;omega) (.slice a1 j c1)).mono (show w.heap.size<=g+1 by omega))
    ((hbwr.setCell (p:=⟨w.heap.size+1+1+1,0,none⟩) (by simp;omega) (.int .i64 m)).setCell (p:=⟨w.heap.size+1+1+1,1,none⟩) (by simp;omega) (.slice a1 j c1)))
   clear hMN z6 hO
   go_wp2_with fail
   exact bodyPost_ret (v:=.tuple #[.agg #[.int .i64 m,.slice a1 j c1],.int .i64 0]) (by simp [results,results114,go_sem,z0,z1]) rfl ⟨a1,c1,rfl,HF.out.1,HF.out.2⟩
end Go.Proofs.YtcfmiocdlcapoaaGreat
