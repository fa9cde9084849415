import Derived.Test.YtcfmiocdlcapoaaGreatK33
import Derived.Test.YtcfmiocdlcapoaaGreatK31
import Derived.Test.YtcfmiocdlcapoaaGreatK32
namespace Go.Proofs.YtcfmiocdlcapoaaGreat
set_option linter.unusedVariables false
set_option linter.unusedSimpArgs false
set_option linter.unusedSectionVars false
set_option maxRecDepth 100000
set_option maxHeartbeats 16000000
open Go.RowKit
def Gj (P M : Int) (mod : Lz) (N : Int) (L : Ll) : Lz × Ll × Int :=
 if (dq P M mod N L).2.2=0 then
  (if (kF P M mod N L L.length (ry N (bw (dq P M mod N L).2.1 : Nat))).1=0 then ((dq P M mod N L).2.1,(kF P M mod N L L.length (ry N (bw (dq P M mod N L).2.1 : Nat))).2,0) else ([],[],(kF P M mod N L L.length (ry N (bw (dq P M mod N L).2.1 : Nat))).1))
 else ([],[],(dq P M mod N L).2.2)
def sQ (V : Lz × Ll × Int) (w : World) (e : Ending) (w' : World) : Prop :=
 Below w.heap.size w w'/\∃ax nx cx at' nt ct,e = .returned (.tuple #[.agg #[.slice ax nx cx,.slice at' nt ct],.int .i64 V.2.2])/\Ints w' ax nx V.1/\bZ w' at' nt V.2.1
theorem Cx {V : Lz × Ll × Int} {w w' : World} {er : Int} (h : V=([],[],er)) (hb : Below w.heap.size w w') : sQ V w (.returned (.tuple #[.agg #[.slice none 0 0,.slice none 0 0],.int .i64 er])) w':=by
 subst h
 exact ⟨hb,none,0,0,none,0,0,rfl,Ints.nil _ _,⟨rfl,λh=>by omega,by unfold maxLen;omega,λi h=>by omega⟩⟩
theorem CQ {X : World} {g : Nat} {t : TypeId} (hg : X.heap[g]? = some (.cells #[.slice none 0 0,.slice none 0 0] t)) {a : OA} {n : Nat} {l : Lz} (h : Ints X a n l) : 0<n->ablk a ≠ g:=λhn e=>by
 have h1:=h.cell 0 hn
 rw [e] at h1
 obtain ⟨k,hk⟩ : ∃k,aJ a+0=k:=⟨_,rfl⟩
 rw [hk] at h1
 simp only [World.cell?,hg] at h1
 match k with
 | 0=>simp at h1
 | 1=>simp at h1
 | k+2=>simp at h1
theorem wB (P M : Int) (am : OA) (mn cm : Nat) (mod : Lz) (N : Int) (a : OA) (n c : Nat) (L : Ll) (w : World) (hmod : Ints w am mn mod) (hi : bZ w a n L) :
  Calls Tryz.prog 24 #[.agg #[.int .i64 P,.int .i64 M,.slice am mn cm,.int .i64 N,.slice a n c]] w (sQ (Gj P M mod N L) w):=by
 have hn : L.length=n:=hi.len
 obtain ⟨V,hV⟩ : ∃V,Gj P M mod N L=V:=⟨_,rfl⟩
 rw [hV]
 unfold Gj at hV
 obtain ⟨R,hR⟩ : ∃R,dq P M mod N L=R:=⟨_,rfl⟩
 rw [hR,hn] at hV
 obtain ⟨er,her⟩ : ∃er,R.2.2=er:=⟨_,rfl⟩
 obtain ⟨b,hb⟩ : ∃b,R.2.1=b:=⟨_,rfl⟩
 obtain ⟨d,hd⟩ : ∃d,bw b=d:=⟨_,rfl⟩
 obtain ⟨BD,hBD⟩ : ∃BD,kF P M mod N L n (ry N (d : Nat))=BD:=⟨_,rfl⟩
 obtain ⟨be,hbe⟩ : ∃be,BD.1=be:=⟨_,rfl⟩
 obtain ⟨bt,hbt⟩ : ∃bt,BD.2=bt:=⟨_,rfl⟩
 rw [her,hb,hd,hBD,hbe,hbt] at hV
 have HLi : Hid (∀V,Below w.heap.size w V->Calls Tryz.prog 17 #[.agg #[.int .i64 P,.int .i64 M,.slice am mn cm,.int .i64 N,.slice a n c]] V λe w'=>∃ar nr cr,e = .returned (.tuple #[.slice ar nr cr,.int .i64 er])/\Ints w' ar nr b/\Below V.heap.size V w'):=λV hV=>by
  have h:=kX P M am mn cm mod N a n c L V (hmod.ah hV) (hi.ah hV)
  rw [hR,her,hb] at h
  exact h
 have HBd : Hid (∀V,Below w.heap.size w V->Calls Tryz.prog 59 #[.agg #[.int .i64 P,.int .i64 M,.slice am mn cm,.int .i64 N,.slice a n c],.int .i64 (d : Nat)] V λe w'=>∃av nv cv,e = .returned (.tuple #[.agg #[.slice av nv cv],.int .i64 be])/\(be=0->bN V.heap.size w' av nv bt)/\Below V.heap.size V w'):=λV hV=>by
  have h:=nV P M am mn cm mod N a n c L (d : Nat) V (hmod.ah hV) (hi.ah hV)
  rw [hBD] at h
  refine h.mono ?_
  rintro e w' ⟨hb1,⟨h2,rfl⟩ | ⟨h2,ar,cr,R,rfl,hO⟩⟩
  ·exact ⟨none,0,0,by rw [hbe],λh=>absurd (hbe.trans h) h2,hb1⟩
  ·exact ⟨ar,_,cr,by rw [<- hbe,h2],λ_=>by rw [<- hbt];exact hO.GU,hb1⟩
 have HV:=Z5 hV
 have Hd:=Z5 hd
 clear hV hR her hb hd hBD hbe hbt hmod hi hn
 go_enter Tryz.func24,Tryz.ntmps24
 go_wp2_with fail
 obtain ⟨U,hU⟩ : ∃U : World,U=(w.alloc (.cells #[.int .i64 P,.int .i64 M,.slice am mn cm,.int .i64 N,.slice a n c] 27)).alloc (.cells #[.slice none 0 0,.slice none 0 0] 49):=⟨_,rfl⟩
 rw [<- hU]
 have hbU : Below w.heap.size w U:=by rw [hU];exact dH _ _ _
 have x0 : aV U w.heap.size [.int .i64 P,.int .i64 M,.slice am mn cm,.int .i64 N,.slice a n c]:=by rw [hU];exact (aV.new _ _ _ rfl).alloc _
 have z0 : aV U (w.heap.size+1) [.slice none 0 0,.slice none 0 0]:=by rw [hU];exact aV.new _ _ _ (by simp)
 have HS : Hid (∀V,Below U.heap.size U V->V.cell? ⟨w.heap.size,0,none⟩=some (.int .i64 P)/\V.cell? ⟨w.heap.size,1,none⟩=some (.int .i64 M)/\V.cell? ⟨w.heap.size,2,none⟩=some (.slice am mn cm)/\V.cell? ⟨w.heap.size,3,none⟩=some (.int .i64 N)/\V.cell? ⟨w.heap.size,4,none⟩=some (.slice a n c) /\
   V.cell? ⟨w.heap.size+1,0,none⟩=some (.slice none 0 0)/\V.cell? ⟨w.heap.size+1,1,none⟩=some (.slice none 0 0)/\V.frozen? ⟨w.heap.size+1,0,none⟩=false/\V.frozen? ⟨w.heap.size+1,1,none⟩=false):=λV hV=>by
  have x1:=x0.ah hV
  have z1:=z0.ah hV
  exact ⟨x1.cell 0 rfl,x1.cell 1 rfl,x1.cell 2 rfl,x1.cell 3 rfl,x1.cell 4 rfl,z1.cell 0 rfl,z1.cell 1 rfl,z1.frozen 0,z1.frozen 1⟩
 have HSet : Hid (∀V u v,Below U.heap.size U V->Below w.heap.size w ((V.setCell ⟨w.heap.size+1,0,none⟩ u).setCell ⟨w.heap.size+1,1,none⟩ v)):=λV u v hV =>
  ((Below.next hbU hV).setCell (p:=⟨w.heap.size+1,0,none⟩) (by simp) _).setCell (p:=⟨w.heap.size+1,1,none⟩) (by simp) _
 have hz1:=z0.1
 have HBlk : Hid (∀X,Below U.heap.size U X->X.heap[w.heap.size+1]? = some (.cells #[.slice none 0 0,.slice none 0 0] 49)):=λX hX=>by
  rw [hX.block _ hz1,hU]
  obtain ⟨A',hA⟩ : ∃A' : World,w.alloc (.cells #[.int .i64 P,.int .i64 M,.slice am mn cm,.int .i64 N,.slice a n c] 27)=A':=⟨_,rfl⟩
  have hs : A'.heap.size=w.heap.size+1:=by rw [<- hA];simp
  rw [hA,<- hs]
  exact Array.getElem?_push_size
 have HbU:=Z5 hbU
 clear hU hbU x0 z0
 refine (HLi.out U HbU.out).mono ?_
 rintro e w1 ⟨ax,nx,cx,rfl,hIx,hb1⟩
 have HIx:=Z5 hIx
 clear hIx
 by_cases h1 : er=0
 rotate_left
 ·have HR : Hid (V=([],[],er)):=by show _=_;rw [<- HV.out,if_neg h1]
  obtain ⟨_,_,_,_,_,z3,z4,f3,f4⟩:=HS.out w1 hb1
  have HF:=Z5 (Cx HR.out (HSet.out w1 (.slice none 0 0) (.slice none 0 0) hb1))
  have hE' : (er != 0)=true:=by simpa using h1
  clear h1
  go_wp2_with fail
  exact bodyPost_ret (v:=.tuple #[.agg #[.slice none 0 0,.slice none 0 0],.int .i64 er]) (by simp [results,Tryz.results24,go_sem,z3,z4]) rfl HF.out
 subst h1
 have hF1:=Below.next HbU.out hb1
 obtain ⟨c0,c1,c2,c3,c4,z3,z4,f3,f4⟩:=HS.out w1 hb1
 have HWt : Hid (∀X,Below w1.heap.size w1 X->Calls Tryz.prog 55 #[.slice ax nx cx] X λe w'=>e = .returned (.int .i64 (d : Nat))/\w'=X):=λX hX=>by
  rw [<- Hd.out];exact gj ax nx cx b X (HIx.out.ah hX)
 go_upto_region 4 with fail
 go_cut [5,6] (λev pv wx=>∃q av nv cv,ev = .int .i64 be/\pv = .pointer (some ⟨q,0,none⟩)/\wx.cell? ⟨q,0,none⟩=some (.slice av nv cv)/\(be=0->bN w1.heap.size wx av nv bt)/\Below w1.heap.size w1 wx)
 case first =>
  have ha1:=an w1 (.cells #[.slice none 0 0] 47)
  obtain ⟨g0,g1,g2,g3,g4,y3,y4,j3,j4⟩:=HS.out _ (Below.next hb1 ha1)
  have xq:=aV.new w1 [.slice none 0 0] 47 rfl
  have HXq:=Z5 xq
  clear xq
  go_region_law ((first
   | (go_simp;go_at_call 55;((with_reducible refine (HWt.out _ (by first | exact (Below.refl _ _).drew | exact Below.refl _ _ | exact ha1.drew | exact ha1)).mono ?_);rintro e w3 ⟨rfl,hw3⟩;obtain rfl:=hw3.symm))
   | (go_simp;go_at_call 59;((with_reducible refine (HBd.out _ (by first | exact hF1.drew | exact hF1 | exact (Below.next hF1 ha1).drew | exact Below.next hF1 ha1)).mono ?_);rintro e w5 ⟨av,nv,cv,rfl,hMv,hb5⟩;have HMv:=Z5 hMv;clear hMv;have hb15 : Below w1.heap.size w1 w5:=(by first | exact Below.next (Below.refl _ _).drew hb5 | exact Below.next ha1.drew hb5 | exact hb5);(try (have xq5:=HXq.out.ah (show Below _ _ w5 from (by first | exact Below.next (Below.refl _ _).drew hb5 | exact hb5));have q5:=xq5.cell 0 rfl;have qf5:=xq5.frozen 0))))))
  all_goals (
   (try simp only [List.getElem_toArray,List.getElem_cons_succ,List.getElem_cons_zero,Act.put,List.setIfInBounds_toArray,List.set_cons_zero,List.set_cons_succ])
   go_wp2_with fail
   go_meet
   first
    | exact ⟨w5.heap.size,av,nv,cv,rfl,rfl,br w5 _ _,λh=>((HMv.out h).mono (by first | exact Nat.le_refl _ | simp)).ah (an _ _),Below.next hb15 (an _ _)⟩
    | exact ⟨w1.heap.size,av,nv,cv,rfl,rfl,World.cell?_setCell_same _ _ _ q5,λh=>((HMv.out h).setCell (p:=⟨w1.heap.size,0,none⟩) (by simp) _).mono (by first | exact Nat.le_refl _ | simp),hb15.setCell (p:=⟨w1.heap.size,0,none⟩) (Nat.le_refl _) _⟩)
 obtain ⟨q,av,nv,cv,rfl,rfl,hq,hM,hb2⟩:=hcut
 generalize wc=X at *
 have hbX:=Below.next hb1 hb2
 obtain ⟨d0,d1,d2,d3,d4,z5,z6,f5,f6⟩:=HS.out X hbX
 clear c0 c1 c2 c3 c4 z3 z4 f3 f4
 by_cases h2 : be=0
 rotate_left
 ·have HR : Hid (V=([],[],be)):=by show _=_;rw [<- HV.out,if_pos (by first | trivial | rfl),if_neg h2]
  have HF:=Z5 (Cx HR.out (HSet.out X (.slice none 0 0) (.slice none 0 0) hbX))
  have hE' : (be != 0)=true:=by simpa using h2
  clear h2 hM
  go_wp2_with fail
  exact bodyPost_ret (v:=.tuple #[.agg #[.slice none 0 0,.slice none 0 0],.int .i64 be]) (by simp [results,Tryz.results24,go_sem,z5,z6]) rfl HF.out
 subst h2
 have HR : Hid (V=(b,bt,0)):=by show _=_;rw [<- HV.out,if_pos (by first | trivial | rfl),if_pos (by first | trivial | rfl)]
 have hM2:=hM (by first | trivial | rfl)
 have hIX:=HIx.out.ah hb2
 have HF : Hid (sQ V w (.returned (.tuple #[.agg #[.slice ax nx cx,.slice av nv cv],.int .i64 0])) ((X.setCell ⟨w.heap.size+1,0,none⟩ (.slice ax nx cx)).setCell ⟨w.heap.size+1,1,none⟩ (.slice av nv cv))):=by
  refine ⟨HSet.out X _ _ hbX,ax,nx,cx,av,nv,cv,by rw [HR.out],?_,?_⟩
  ·rw [HR.out]
   exact (hIX.dt (aB.put X (w.heap.size+1) 0 _) (λhn e=>CQ (HBlk.out X hbX) hIX hn e)).dt (aB.put _ (w.heap.size+1) 1 _) (λhn e=>CQ (HBlk.out X hbX) hIX hn e)
  ·rw [HR.out]
   have hs1:=hb1.size
   exact ((hM2.setCell (p:=⟨w.heap.size+1,0,none⟩) (by show w.heap.size+1<w1.heap.size;omega) _).setCell (p:=⟨w.heap.size+1,1,none⟩) (by show w.heap.size+1<w1.heap.size;omega) _).kK
 clear hM hM2 hIX
 go_wp2_with fail
 exact bodyPost_ret (v:=.tuple #[.agg #[.slice ax nx cx,.slice av nv cv],.int .i64 0]) (by simp [results,Tryz.results24,go_sem,z5,z6]) rfl HF.out
def famGoI (O : aQ) (L : Ll) (m : Nat) : Nat->Lz->List (Lz × Int)->List (Lz × Int)
 | 0,_,T=>T
 | f+1,U,T=>if dI U (cX O L m U) (cX O L m U).length=0 then T else famGoI O L m f (U ++ oa (cX O L m U)) (T ++ [(oa (cX O L m U),dI U (cX O L m U) (cX O L m U).length)])
theorem qS (O : aQ) (L : Ll) (m : Nat) : ∀f U T,famGo O L m f U T=famGoI O L m f U T
 | 0,_,_=>rfl
 | f+1,U,T=>by rw [famGo,famGoI,mJ,qS O L m f]
def n5 : Ll:=[[1,0,0,0,1,1,0],[0,1,0,0,1,0,1],[0,0,1,0,0,1,1],[0,0,0,1,1,1,1]]
theorem GK : fu (aa 2 (1 : Int).toNat []).ops n5 (7 : Int).toNat=[([0,1,2,3],4),([0,4,5,6],3)]:=by
 rw [fu,qS];decide +kernel
theorem BR : dq 2 1 [] 7 n5=([[1,8,3,3],[2,20,3,5]],[0,0,1,0,0,1,1],0):=by
 unfold dq gR
 rw [GK]
 decide +kernel
theorem Jn : dq 2 1 [] 2 []=([],[],11):=by
 unfold dq
 rw [if_neg (by decide +kernel)];rfl
theorem Im : fu (aa 2 (1 : Int).toNat []).ops [[1,1]] (2 : Int).toNat=[([0],1),([1],1)]:=by
 rw [fu,qS];decide +kernel
theorem Jm : dq 2 1 [] 2 [[1,1]]=([[1,2,2,4]],[1,1],0):=by
 unfold dq gR
 rw [Im]
 decide +kernel
theorem Jb : ij 2 1 [] 2 [[1,1]] 1 1=0:=by decide +kernel
theorem Jy : kF 2 1 [] 2 [[1,1]] 1 1=(0,[[0],[1]]):=by rw [kF,if_pos Jb,JX];decide +kernel
theorem Jg : Gj 2 1 [] 2 [[1,1]]=([1,1],[[0],[1]],0):=by
 unfold Gj
 rw [Jm]
 have h : kF 2 1 [] 2 [[1,1]] (([[1,1]] : Ll).length : Int) (ry 2 ((bw [1,1] : Nat) : Int))=(0,[[0],[1]]):=Jy
 show (if (0 : Int)=0 then _ else _)=_
 rw [if_pos rfl]
 simp only [h,if_true]
theorem Gx : Gc 2 1 [] 2 [[1,1]] [1,1] [[0],[1]]=0:=by decide +kernel
theorem IQ : Fl 2 1 [] 2 [[1,1]] [1,1] [[0],[1]]=2:=by
 unfold Fl
 rw [Gx];rfl
theorem J5 (V : World) {p q r s : Addr} {n1 n2 n3 n4 c1 c2 c3 c4 : Nat} {l1 l2 l3 l4 : Lz} (h1 : Ints V (some p) n1 l1) (h2 : Ints V (some q) n2 l2) (h3 : Ints V (some r) n3 l3) (h4 : Ints V (some s) n4 l4) {g : Nat} (hg : g=V.heap.size) :
  bZ (V.alloc (.cells #[.slice (some p) n1 c1,.slice (some q) n2 c2,.slice (some r) n3 c3,.slice (some s) n4 c4] 22)) (some ⟨g,0,none⟩) 4 [l1,l2,l3,l4] :=
 ⟨rfl,λ_=>rfl,by unfold maxLen;omega,λk hk=>by
  have h:=aH V #[.slice (some p) n1 c1,.slice (some q) n2 c2,.slice (some r) n3 c3,.slice (some s) n4 c4] 22 hg k
  match k,hk with
  | 0,_=>exact ⟨some p,n1,c1,h,h1.ah (an _ _)⟩
  | 1,_=>exact ⟨some q,n2,c2,h,h2.ah (an _ _)⟩
  | 2,_=>exact ⟨some r,n3,c3,h,h3.ah (an _ _)⟩
  | 3,_=>exact ⟨some s,n4,c4,h,h4.ah (an _ _)⟩⟩
theorem JM (V : World) (x0 x1 x2 x3 y0 y1 y2 y3 : Int) {g : Nat} (hg : g=V.heap.size) : nY (V.alloc (.cells #[.int .i64 x0,.int .i64 x1,.int .i64 x2,.int .i64 x3,.int .i64 y0,.int .i64 y1,.int .i64 y2,.int .i64 y3] 62)) (some ⟨g,0,none⟩) 2 [[x0,x1,x2,x3],[y0,y1,y2,y3]] :=
 ⟨rfl,λ_=>rfl,by unfold maxLen;omega,λi hi j hj=>by
  have h:=aH V #[.int .i64 x0,.int .i64 x1,.int .i64 x2,.int .i64 x3,.int .i64 y0,.int .i64 y1,.int .i64 y2,.int .i64 y3] 62 hg (i * 4+j)
  match i,hi,j,hj with
  | 0,_,0,_=>exact h
  | 0,_,1,_=>exact h
  | 0,_,2,_=>exact h
  | 0,_,3,_=>exact h
  | 1,_,0,_=>exact h
  | 1,_,1,_=>exact h
  | 1,_,2,_=>exact h
  | 1,_,3,_=>exact h⟩
theorem Kg (V : World) (x1 x2 : Int) : bZ (((V.alloc (.cells #[.int .i64 x1] 3)).alloc (.cells #[.int .i64 x2] 3)).alloc
  (.cells #[.slice (some ⟨V.heap.size,0,none⟩) 1 1,.slice (some ⟨V.heap.size+1,0,none⟩) 1 1] 22)) (some ⟨V.heap.size+1+1,0,none⟩) 2 [[x1],[x2]]:=by
 have i1:=lits V [x1] #[.int .i64 x1] rfl (by simp) rfl
 have i2:=lits (V.alloc (.cells #[.int .i64 x1] 3)) [x2] #[.int .i64 x2] rfl (by simp) (g:=V.heap.size+1) (by simp)
 exact JU _ (i1.ah (an _ _)) i2 (by simp)
theorem zG {V : World} {gm : Nat} (hM : bZ V (some ⟨gm,0,none⟩) 4 n5) : Calls Tryz.prog 14 #[.agg #[.int .i64 2,.int .i64 1,.slice none 0 0,.int .i64 7,.slice (some ⟨gm,0,none⟩) 4 4]] V
  λe w'=>∃a c,e = .returned (.tuple #[.slice a 2 c,.int .i64 0])/\nY w' a 2 [[1,8,3,3],[2,20,3,5]]/\Below V.heap.size V w':=by
 refine (rD 2 1 none 0 0 [] 7 (some ⟨gm,0,none⟩) 4 4 n5 V (Ints.nil _ _) hM).mono ?_
 rintro e w' ⟨a,n,c,rfl,h,b⟩
 rw [BR] at h ⊢
 obtain rfl : n=2:=h.len.symm
 exact ⟨a,c,rfl,h,b⟩
theorem vh {V : World} {gm : Nat} (hM : bZ V (some ⟨gm,0,none⟩) 4 n5) : Calls Tryz.prog 16 #[.agg #[.int .i64 2,.int .i64 1,.slice none 0 0,.int .i64 7,.slice (some ⟨gm,0,none⟩) 4 4]] V
  λe w'=>e = .returned (.tuple #[.int .i64 3,.int .i64 0])/\Below V.heap.size V w':=by
 refine (gE 2 1 none 0 0 [] 7 (some ⟨gm,0,none⟩) 4 4 n5 V (Ints.nil _ _) hM).mono ?_
 rintro e w' ⟨rfl,b⟩
 rw [BR]
 exact ⟨rfl,b⟩
theorem uN {V : World} {gm : Nat} (hM : bZ V (some ⟨gm,0,none⟩) 4 n5) : Calls Tryz.prog 17 #[.agg #[.int .i64 2,.int .i64 1,.slice none 0 0,.int .i64 7,.slice (some ⟨gm,0,none⟩) 4 4]] V
  λe w'=>∃a c,e = .returned (.tuple #[.slice a 7 c,.int .i64 0])/\Ints w' a 7 [0,0,1,0,0,1,1]/\Below V.heap.size V w':=by
 refine (kX 2 1 none 0 0 [] 7 (some ⟨gm,0,none⟩) 4 4 n5 V (Ints.nil _ _) hM).mono ?_
 rintro e w' ⟨a,n,c,rfl,h,b⟩
 rw [BR] at h ⊢
 obtain rfl : n=7:=h.len.symm
 exact ⟨a,c,rfl,h,b⟩
theorem C0 {V : World} : Calls Tryz.prog 16 #[.agg #[.int .i64 2,.int .i64 1,.slice none 0 0,.int .i64 2,.slice none 0 0]] V
  λe w'=>e = .returned (.tuple #[.int .i64 0,.int .i64 11])/\Below V.heap.size V w':=by
 refine (gE 2 1 none 0 0 [] 2 none 0 0 [] V (Ints.nil _ _) ⟨rfl,λh=>by omega,by unfold maxLen;omega,λi h=>by omega⟩).mono ?_
 rintro e w' ⟨rfl,b⟩
 rw [Jn]
 exact ⟨rfl,b⟩
theorem wu {V : World} {gm : Nat} (hM : bZ V (some ⟨gm,0,none⟩) 1 [[1,1]]) : Calls Tryz.prog 24 #[.agg #[.int .i64 2,.int .i64 1,.slice none 0 0,.int .i64 2,.slice (some ⟨gm,0,none⟩) 1 1]] V
  λe w'=>∃ax cx at' ct,e = .returned (.tuple #[.agg #[.slice ax 2 cx,.slice at' 2 ct],.int .i64 0])/\Ints w' ax 2 [1,1]/\bZ w' at' 2 [[0],[1]]/\Below V.heap.size V w':=by
 refine (wB 2 1 none 0 0 [] 2 (some ⟨gm,0,none⟩) 1 1 [[1,1]] V (Ints.nil _ _) hM).mono ?_
 rintro e w' ⟨b,ax,nx,cx,at',nt,ct,rfl,h1,h2⟩
 rw [Jg] at h1 h2 ⊢
 obtain rfl : nx=2:=h1.len.symm
 obtain rfl : nt=2:=h2.len.symm
 exact ⟨ax,cx,at',ct,rfl,h1,h2,b⟩
theorem Bu {V : World} {gm : Nat} {ax at' : OA} {cx ct : Nat} (hM : bZ V (some ⟨gm,0,none⟩) 1 [[1,1]]) (h1 : Ints V ax 2 [1,1]) (h2 : bZ V at' 2 [[0],[1]]) : Calls Tryz.prog 27 #[.agg #[.int .i64 2,.int .i64 1,.slice none 0 0,.int .i64 2,.slice (some ⟨gm,0,none⟩) 1 1],.agg #[.slice ax 2 cx,.slice at' 2 ct]] V
  λe w'=>e = .returned (.tuple #[.int .i64 2,.int .i64 0])/\Below V.heap.size V w':=by
 refine (Ay 2 1 none 0 0 [] 2 (some ⟨gm,0,none⟩) 1 1 [[1,1]] ax 2 cx [1,1] at' 2 ct [[0],[1]] V (Ints.nil _ _) hM h1 h2).mono ?_
 rintro e w' ⟨rfl,b⟩
 rw [IQ,Gx]
 exact ⟨rfl,b⟩
theorem ky (w : World) : Calls Tryz.prog 12 #[] w λe w'=>e = .returned (.bool true)/\Below w.heap.size w w':=by
 go_enter Tryz.func12,Tryz.ntmps12
 go_upto_region 1 with fail
 go_cut [1] (λv wx=>∃g gm,v = .pointer (some ⟨g,0,none⟩)/\aV wx g [.int .i64 2,.int .i64 1,.slice none 0 0,.int .i64 7,.slice (some ⟨gm,0,none⟩) 4 4]/\bZ wx (some ⟨gm,0,none⟩) 4 n5/\Below w.heap.size w wx)
 case first =>
  go_wp2_with fail
  go_meet
  have i1:=lits w [1,0,0,0,1,1,0] #[.int .i64 1,.int .i64 0,.int .i64 0,.int .i64 0,.int .i64 1,.int .i64 1,.int .i64 0] rfl (by decide) rfl
  have i2:=lits (w.alloc (.cells #[.int .i64 1,.int .i64 0,.int .i64 0,.int .i64 0,.int .i64 1,.int .i64 1,.int .i64 0] 3)) [0,1,0,0,1,0,1] #[.int .i64 0,.int .i64 1,.int .i64 0,.int .i64 0,.int .i64 1,.int .i64 0,.int .i64 1] rfl (by decide) (g:=w.heap.size+1) (by simp)
  generalize h2 : (w.alloc (.cells #[.int .i64 1,.int .i64 0,.int .i64 0,.int .i64 0,.int .i64 1,.int .i64 1,.int .i64 0] 3)).alloc (.cells #[.int .i64 0,.int .i64 1,.int .i64 0,.int .i64 0,.int .i64 1,.int .i64 0,.int .i64 1] 3)=W2 at i2 ⊢
  have s2 : W2.heap.size=w.heap.size+1+1:=by rw [<- h2];simp
  have i1' : Ints W2 (some ⟨w.heap.size,0,none⟩) 7 [1,0,0,0,1,1,0]:=by rw [<- h2];exact i1.ah (an _ _)
  have b2 : Below w.heap.size w W2:=by rw [<- h2];exact dH _ _ _
  have i3:=lits W2 [0,0,1,0,0,1,1] #[.int .i64 0,.int .i64 0,.int .i64 1,.int .i64 0,.int .i64 0,.int .i64 1,.int .i64 1] rfl (by decide) (g:=w.heap.size+1+1) s2.symm
  have i4:=lits (W2.alloc (.cells #[.int .i64 0,.int .i64 0,.int .i64 1,.int .i64 0,.int .i64 0,.int .i64 1,.int .i64 1] 3)) [0,0,0,1,1,1,1] #[.int .i64 0,.int .i64 0,.int .i64 0,.int .i64 1,.int .i64 1,.int .i64 1,.int .i64 1] rfl (by decide) (g:=w.heap.size+1+1+1) (by simp [s2])
  have k2:=dH W2 (.cells #[.int .i64 0,.int .i64 0,.int .i64 1,.int .i64 0,.int .i64 0,.int .i64 1,.int .i64 1] 3) (.cells #[.int .i64 0,.int .i64 0,.int .i64 0,.int .i64 1,.int .i64 1,.int .i64 1,.int .i64 1] 3)
  have hm:=J5 (c1:=7) (c2:=7) (c3:=7) (c4:=7) _ (i1'.ah k2) (i2.ah k2) (i3.ah (an _ (.cells #[.int .i64 0,.int .i64 0,.int .i64 0,.int .i64 1,.int .i64 1,.int .i64 1,.int .i64 1] 3))) i4 (g:=w.heap.size+1+1+1+1) (by simp [s2])
  have hm2:=hm.ah (an _ (.cells #[.int .i64 2,.int .i64 1,.slice none 0 0,.int .i64 7,.slice (some ⟨w.heap.size+1+1+1+1,0,none⟩) 4 4] 27))
  exact ⟨_,w.heap.size+1+1+1+1,rfl,aV.new _ [.int .i64 2,.int .i64 1,.slice none 0 0,.int .i64 7,.slice (some ⟨w.heap.size+1+1+1+1,0,none⟩) 4 4] _ (by simp [s2]),hm2,Below.next b2 (Below.next k2 (dH _ _ _))⟩
 obtain ⟨g,gm,rfl,hx,hM,hbW⟩:=hcut
 generalize wc=W at *
 have HS : Hid (∀V,Below W.heap.size W V->V.cell? ⟨g,0,none⟩=some (.int .i64 2)/\V.cell? ⟨g,1,none⟩=some (.int .i64 1)/\V.cell? ⟨g,2,none⟩=some (.slice none 0 0)/\V.cell? ⟨g,3,none⟩=some (.int .i64 7)/\V.cell? ⟨g,4,none⟩=some (.slice (some ⟨gm,0,none⟩) 4 4)):=λV hV=>by
  have h:=hx.ah hV
  exact ⟨h.cell 0 rfl,h.cell 1 rfl,h.cell 2 rfl,h.cell 3 rfl,h.cell 4 rfl⟩
 have HM : Hid (∀V,Below W.heap.size W V->bZ V (some ⟨gm,0,none⟩) 4 n5):=λV hV=>hM.ah hV
 have HW:=Z5 hbW
 clear hx hM hbW
 have e0:=Below.refl W.heap.size W
 obtain ⟨c0,c1,c2,c3,c4⟩:=HS.out _ e0
 have Hc:=Z5 (zG (HM.out _ e0))
 go_wp2_with fail
 refine Hc.out.mono ?_
 rintro e V1 ⟨a1,k1,rfl,hO1,b1⟩
 have e1:=Below.next e0 b1
 have HO1:=Z5 hO1
 clear c0 c1 c2 c3 c4 Hc hO1
 obtain ⟨c0,c1,c2,c3,c4⟩:=HS.out _ e1
 have Hc:=Z5 (vh (HM.out _ e1))
 go_wp2_with fail
 refine Hc.out.mono ?_
 rintro e V2 ⟨rfl,b2⟩
 have e2:=Below.next e1 b2
 clear c0 c1 c2 c3 c4 Hc
 obtain ⟨c0,c1,c2,c3,c4⟩:=HS.out _ e2
 have Hc:=Z5 (uN (HM.out _ e2))
 go_wp2_with fail
 refine Hc.out.mono ?_
 rintro e V3 ⟨a3,k3,rfl,hO3,b3⟩
 have e3:=Below.next e2 b3
 have HO3:=Z5 hO3
 clear c0 c1 c2 c3 c4 Hc hO3
 obtain ⟨c0,c1,c2,c3,c4⟩:=HS.out _ e3
 have Hc:=Z5 (C0 (V:=V3))
 go_wp2_with fail
 refine Hc.out.mono ?_
 rintro e V4 ⟨rfl,b4⟩
 have e4:=Below.next e3 b4
 clear c0 c1 c2 c3 c4 Hc
 obtain ⟨c0,c1,c2,c3,c4⟩:=HS.out _ e4
 go_upto_region 6 with fail
 go_cut [10] (λv wx=>∃p gp,v = .pointer (some ⟨p,0,none⟩)/\aV wx p [.int .i64 2,.int .i64 1,.slice none 0 0,.int .i64 2,.slice (some ⟨gp,0,none⟩) 1 1]/\bZ wx (some ⟨gp,0,none⟩) 1 [[1,1]]/\Below V4.heap.size V4 wx)
 case first =>
  go_wp2_with fail
  go_meet
  have hm:=Ke V4 1 1
  have hm2:=hm.ah (an _ (.cells #[.int .i64 2,.int .i64 1,.slice none 0 0,.int .i64 2,.slice (some ⟨V4.heap.size+1,0,none⟩) 1 1] 27))
  exact ⟨_,V4.heap.size+1,rfl,aV.new _ [.int .i64 2,.int .i64 1,.slice none 0 0,.int .i64 2,.slice (some ⟨V4.heap.size+1,0,none⟩) 1 1] _ (by simp),hm2,kO _ _ _ _⟩
 obtain ⟨p,gp,rfl,hxp,hMp,b5⟩:=hcut
 generalize wc=V5 at *
 have e5:=Below.next e4 b5
 have HP : Hid (∀V,Below V5.heap.size V5 V->V.cell? ⟨p,0,none⟩=some (.int .i64 2)/\V.cell? ⟨p,1,none⟩=some (.int .i64 1)/\V.cell? ⟨p,2,none⟩=some (.slice none 0 0)/\V.cell? ⟨p,3,none⟩=some (.int .i64 2)/\V.cell? ⟨p,4,none⟩=some (.slice (some ⟨gp,0,none⟩) 1 1)):=λV hV=>by
  have h:=hxp.ah hV
  exact ⟨h.cell 0 rfl,h.cell 1 rfl,h.cell 2 rfl,h.cell 3 rfl,h.cell 4 rfl⟩
 have HMp : Hid (∀V,Below V5.heap.size V5 V->bZ V (some ⟨gp,0,none⟩) 1 [[1,1]]):=λV hV=>hMp.ah hV
 clear hxp hMp c0 c1 c2 c3 c4
 have r0:=Below.refl V5.heap.size V5
 obtain ⟨c0,c1,c2,c3,c4⟩:=HP.out _ r0
 have Hc:=Z5 (wu (HMp.out _ r0))
 go_wp2_with fail
 refine Hc.out.mono ?_
 rintro e V6' ⟨ax,cx,at',ct,rfl,hA6,hT6,b6⟩
 clear c0 c1 c2 c3 c4 Hc
 have n6:=an V6' (.cells #[.slice ax 2 cx,.slice at' 2 ct] 49)
 have r6:=Below.next b6 n6
 have HO6:=Z5 (λV hV=>⟨((aV.new V6' [.slice ax 2 cx,.slice at' 2 ct] 49 rfl).ah hV).cell 0 rfl,((aV.new V6' [.slice ax 2 cx,.slice at' 2 ct] 49 rfl).ah hV).cell 1 rfl,(hA6.ah n6).ah hV,(hT6.ah n6).ah hV⟩ : ∀V,Below (V6'.alloc (.cells #[.slice ax 2 cx,.slice at' 2 ct] 49)).heap.size (V6'.alloc (.cells #[.slice ax 2 cx,.slice at' 2 ct] 49)) V ->
  V.cell? ⟨V6'.heap.size,0,none⟩=some (.slice ax 2 cx)/\V.cell? ⟨V6'.heap.size,1,none⟩=some (.slice at' 2 ct)/\Ints V ax 2 [1,1]/\bZ V at' 2 [[0],[1]])
 clear hA6 hT6
 have t6:=HO6.out _ (Below.refl _ _)
 have Hc:=Z5 (Bu (cx:=cx) (ct:=ct) (HMp.out _ r6) t6.2.2.1 t6.2.2.2)
 obtain ⟨c0,c1,c2,c3,c4⟩:=HP.out _ r6
 have x0:=t6.1
 have x1:=t6.2.1
 clear t6
 go_wp2_with fail
 refine Hc.out.mono ?_
 rintro e V7 ⟨rfl,b7⟩
 have G6:=Z5 b7
 have G3:=Z5 (Below.next b4 (Below.next b5 (Below.next r6 b7)))
 have G1:=Z5 (Below.next b2 (Below.next b3 G3.out))
 have E7:=Z5 (Below.next HW.out (Below.next e5 (Below.next r6 b7)))
 clear c0 c1 c2 c3 c4 x0 x1 Hc b1 b2 b3 b4 b5 b6 b7 n6 r6 e0 e1 e2 e3 e4 e5 r0
 go_upto_region 10 with fail
 have q1:=an V7 (.cells #[.int .i64 1,.int .i64 8,.int .i64 3,.int .i64 3,.int .i64 2,.int .i64 20,.int .i64 3,.int .i64 5] 62)
 have Hc:=Z5 (oc a1 2 k1 [[1,8,3,3],[2,20,3,5]] (some ⟨V7.heap.size,0,none⟩) 2 2 _ (HO1.out.ah (Below.next G1.out q1)) (JM V7 1 8 3 3 2 20 3 5 rfl) (by omega))
 go_wp2_with fail
 refine Hc.out.mono ?_
 rintro e Y1 ⟨rfl,t1⟩
 have s1:=Below.next q1 t1
 clear Hc q1 t1
 have q2:=an Y1 (.cells #[.int .i64 0,.int .i64 0,.int .i64 1,.int .i64 0,.int .i64 0,.int .i64 1,.int .i64 1] 3)
 have s2':=Below.next s1 q2
 have Hc:=Z5 (iJ a3 7 k3 [0,0,1,0,0,1,1] (some ⟨Y1.heap.size,0,none⟩) 7 7 [0,0,1,0,0,1,1] (HO3.out.ah (Below.next G3.out s2')) (lits Y1 [0,0,1,0,0,1,1] #[.int .i64 0,.int .i64 0,.int .i64 1,.int .i64 0,.int .i64 0,.int .i64 1,.int .i64 1] rfl (by decide) rfl))
 rw [decide_eq_true rfl] at Hc
 go_wp2_with fail
 refine Hc.out.mono ?_
 rintro e Y2 ⟨rfl,t2⟩
 have s2:=Below.next s2' t2.below
 clear Hc q2 s2' t2
 obtain ⟨x0,x1,hA,hT⟩:=HO6.out Y2 (Below.next G6.out s2)
 have q3:=an Y2 (.cells #[.int .i64 1,.int .i64 1] 3)
 have s3':=Below.next s2 q3
 have Hc:=Z5 (iJ ax 2 cx [1,1] (some ⟨Y2.heap.size,0,none⟩) 2 2 [1,1] (hA.ah q3) (lits Y2 [1,1] #[.int .i64 1,.int .i64 1] rfl (by decide) rfl))
 rw [decide_eq_true rfl] at Hc
 clear hA hT x1
 go_wp2_with fail
 refine Hc.out.mono ?_
 rintro e Y3 ⟨rfl,t3⟩
 have s3:=Below.next s3' t3.below
 clear Hc q3 s3' t3 x0
 obtain ⟨x0,x1,hA,hT⟩:=HO6.out Y3 (Below.next G6.out s3)
 have q4:=kO Y3 (.cells #[.int .i64 0] 3) (.cells #[.int .i64 1] 3) (.cells #[.slice (some ⟨Y3.heap.size,0,none⟩) 1 1,.slice (some ⟨Y3.heap.size+1,0,none⟩) 1 1] 22)
 have Hc:=Z5 (kJ at' 2 ct [[0],[1]] _ 2 2 [[0],[1]] (hT.ah q4) (Kg Y3 0 1))
 rw [decide_eq_true rfl] at Hc
 clear hA hT x0
 go_wp2_with fail
 refine Hc.out.mono ?_
 rintro e Y4 ⟨rfl,t4⟩
 have hF:=Below.next E7.out (Below.next s3 (Below.next q4 t4.below))
 clear Hc q4 t4
 go_wp2_with fail
 go_ret
 exact ⟨rfl,hF⟩
end Go.Proofs.YtcfmiocdlcapoaaGreat
