import Derived.Test.YthglbncgemdcbaaGreatS30
import Derived.Test.YthglbncgemdcbaaGreatS31
namespace Go.Proofs.YthglbncgemdcbaaGreat
set_option linter.all false
set_option maxRecDepth 100000
set_option maxHeartbeats 16000000
open Go.RowKit Go.Proofs.Tryz
theorem lits (V : World) (l : Lz) (cs : Array Value) (h : cs=(l.map (Value.int .i64)).toArray) (hl : l.length<=1000) {g : Nat} (hg : g=V.heap.size) : Ints (V.alloc (.cells cs 3)) (some ⟨g,0,none⟩) l.length l:=by subst h;refine ⟨rfl,λ_=>rfl,by unfold maxLen;omega,λi hi=>?_⟩;have h1:=aI V ((l.map (Value.int .i64)).toArray) 3 hg i;rw [aj hi];simpa [ablk,aK,hi] using h1
theorem ME (V : World) {p q : Addr} {n1 n2 c1 c2 : Nat} {l1 l2 : Lz} (h1 : Ints V (some p) n1 l1) (h2 : Ints V (some q) n2 l2) {g : Nat} (hg : g=V.heap.size) : br (V.alloc (.cells #[.slice (some p) n1 c1,.slice (some q) n2 c2] 22)) (some ⟨g,0,none⟩) 2 [l1,l2] :=
 ⟨rfl,λ_=>rfl,by unfold maxLen;omega,λk hk=>by
  have h:=aI V #[.slice (some p) n1 c1,.slice (some q) n2 c2] 22 hg k;match k,hk with
  | 0,_=>exact ⟨some p,n1,c1,h,h1.ah (an _ _)⟩
  | 1,_=>exact ⟨some q,n2,c2,h,h2.ah (an _ _)⟩⟩
theorem Iq (w : World) (o1 o2 o3 o4 : Obj) : SW w ((((w.alloc o1).alloc o2).alloc o3).alloc o4):=RZ (mF w o1 o2 o3) (an _ _)
theorem Mz (V : World) {p q r s : Addr} {n1 n2 n3 n4 c1 c2 c3 c4 : Nat} {l1 l2 l3 l4 : Lz} (h1 : Ints V (some p) n1 l1) (h2 : Ints V (some q) n2 l2) (h3 : Ints V (some r) n3 l3) (h4 : Ints V (some s) n4 l4) {g : Nat} (hg : g=V.heap.size) :
  br (V.alloc (.cells #[.slice (some p) n1 c1,.slice (some q) n2 c2,.slice (some r) n3 c3,.slice (some s) n4 c4] 22)) (some ⟨g,0,none⟩) 4 [l1,l2,l3,l4] :=
 ⟨rfl,λ_=>rfl,by unfold maxLen;omega,λk hk=>by
  have h:=aI V #[.slice (some p) n1 c1,.slice (some q) n2 c2,.slice (some r) n3 c3,.slice (some s) n4 c4] 22 hg k;match k,hk with
  | 0,_=>exact ⟨some p,n1,c1,h,h1.ah (an _ _)⟩
  | 1,_=>exact ⟨some q,n2,c2,h,h2.ah (an _ _)⟩
  | 2,_=>exact ⟨some r,n3,c3,h,h3.ah (an _ _)⟩
  | 3,_=>exact ⟨some s,n4,c4,h,h4.ah (an _ _)⟩⟩
theorem LQ (w : World) (o1 o2 o3 o4 o5 : Obj) : SW w (((((w.alloc o1).alloc o2).alloc o3).alloc o4).alloc o5):=RZ (Iq w o1 o2 o3 o4) (an _ _)
theorem gJ.Jm {w w' : World} {a : OA} {n : Nat} {TT : List ZZ} (h : gJ w a n TT) (hb : SW w w') : gJ w' a n TT :=
 ⟨h.len,h.pl,h.max,λi hi=>by obtain ⟨b,m,c,h1,h2,h3⟩:=h.cell i hi;exact ⟨b,m,c,aB hb h1,h2.ah hb,h3⟩⟩
def E8 (V : World) : World:=((((V.alloc (.cells #[.int .i64 1,.int .i64 1,.int .i64 1,.int .i64 0] 3)).alloc (.cells #[.int .i64 0,.int .i64 1,.int .i64 0,.int .i64 1] 3)).alloc (.cells #[.int .i64 1,.int .i64 1,.int .i64 1,.int .i64 0] 3)).alloc (.cells #[.int .i64 0,.int .i64 1,.int .i64 0,.int .i64 1] 3)).alloc
  (.cells #[.slice (some ⟨V.heap.size,0,none⟩) 4 4,.slice (some ⟨V.heap.size+1,0,none⟩) 4 4,.slice (some ⟨V.heap.size+1+1,0,none⟩) 4 4,.slice (some ⟨V.heap.size+1+1+1,0,none⟩) 4 4] 22)
theorem F0 (V : World) : br (E8 V) (some ⟨V.heap.size+1+1+1+1,0,none⟩) 4 pA:=by
 have i1:=lits V [1,1,1,0] #[.int .i64 1,.int .i64 1,.int .i64 1,.int .i64 0] rfl (by decide) rfl;have i2:=lits (V.alloc (.cells #[.int .i64 1,.int .i64 1,.int .i64 1,.int .i64 0] 3)) [0,1,0,1] #[.int .i64 0,.int .i64 1,.int .i64 0,.int .i64 1] rfl (by decide) (g:=V.heap.size+1) (by simp);have i3:=lits ((V.alloc (.cells #[.int .i64 1,.int .i64 1,.int .i64 1,.int .i64 0] 3)).alloc (.cells #[.int .i64 0,.int .i64 1,.int .i64 0,.int .i64 1] 3)) [1,1,1,0] #[.int .i64 1,.int .i64 1,.int .i64 1,.int .i64 0] rfl (by decide) (g:=V.heap.size+1+1) (by simp);have i4:=lits (((V.alloc (.cells #[.int .i64 1,.int .i64 1,.int .i64 1,.int .i64 0] 3)).alloc (.cells #[.int .i64 0,.int .i64 1,.int .i64 0,.int .i64 1] 3)).alloc (.cells #[.int .i64 1,.int .i64 1,.int .i64 1,.int .i64 0] 3)) [0,1,0,1] #[.int .i64 0,.int .i64 1,.int .i64 0,.int .i64 1] rfl (by decide) (g:=V.heap.size+1+1+1) (by simp);unfold E8;generalize hU : (((V.alloc (.cells #[.int .i64 1,.int .i64 1,.int .i64 1,.int .i64 0] 3)).alloc (.cells #[.int .i64 0,.int .i64 1,.int .i64 0,.int .i64 1] 3)).alloc (.cells #[.int .i64 1,.int .i64 1,.int .i64 1,.int .i64 0] 3)).alloc (.cells #[.int .i64 0,.int .i64 1,.int .i64 0,.int .i64 1] 3)=U at i4 ⊢;have k1 : Ints U (some ⟨V.heap.size,0,none⟩) 4 [1,1,1,0]:=by rw [<- hU];exact ((i1.ah (an _ _)).ah (an _ _)).ah (an _ _)
 have k2 : Ints U (some ⟨V.heap.size+1,0,none⟩) 4 [0,1,0,1]:=by rw [<- hU];exact (i2.ah (an _ _)).ah (an _ _)
 have k3 : Ints U (some ⟨V.heap.size+1+1,0,none⟩) 4 [1,1,1,0]:=by rw [<- hU];exact i3.ah (an _ _)
 have hs : V.heap.size+1+1+1+1=U.heap.size:=by rw [<- hU];simp
 exact Mz U k1 k2 k3 i4 hs
theorem uk (V : World) : SW V (E8 V):=LQ _ _ _ _ _ _
theorem sy {V : World} {gm : Nat} (hM : br V (some ⟨gm,0,none⟩) 2 dw) (i : Int) (S D : Lz) (h0 : kL 2 1 [] 4 dw i=0) (h1 : iX 2 1 [] 4 dw i=S) (h2 : qM 2 1 [] 4 dw i=D) :
  Calls prog 15 #[.agg #[.int .i64 2,.int .i64 1,.slice none 0 0,.int .i64 4,.slice (some ⟨gm,0,none⟩) 2 2],.int .i64 i] V λe w'=>SW V w'/\∃a c a2 c2,e = .returned (.tuple #[.slice a S.length c,.slice a2 S.length c2,.int .i64 0])/\Ints w' a S.length S/\Ints w' a2 S.length D:=by
 refine (mG 2 1 none 0 0 [] 4 (some ⟨gm,0,none⟩) 2 2 dw i V (Sd _ _) hM).mono ?_;rintro e w' ⟨b,⟨h,_⟩ | ⟨_,a,c,a2,c2,rfl,h3,h4⟩⟩
 ·exact absurd h0 h
 ·have e1 : iX 2 1 [] (4 : Int).toNat dw i=S:=h1;have e2 : qM 2 1 [] (4 : Int).toNat dw i=D:=h2;rw [e1] at h3 h4;rw [e2] at h4;exact ⟨b,a,c,a2,c2,by rw [e1],h3,h4⟩
theorem AE {V : World} {gm : Nat} (hM : br V (some ⟨gm,0,none⟩) 2 dw) : Calls prog 28 #[.agg #[.int .i64 2,.int .i64 1,.slice none 0 0,.int .i64 4,.slice (some ⟨gm,0,none⟩) 2 2]] V
  λe w'=>SW V w'/\∃as' cs at' ct,e = .returned (.tuple #[.agg #[.slice as' 4 cs,.slice at' 4 ct],.int .i64 0])/\br w' as' 4 pA/\gJ w' at' 4 yw:=by
 refine (qO 2 1 none 0 0 [] 4 (some ⟨gm,0,none⟩) 2 2 dw V (Sd _ _) hM).mono ?_;rintro e w' ⟨b,⟨h0,_⟩ | ⟨_,as',cs,at',ct,rfl,h1,h2⟩⟩
 ·exact absurd Lo h0
 ·have e1 : cF 2 1 [] (4 : Int).toNat dw=pA:=tb;have e2 : jT 2 1 [] (4 : Int).toNat dw (4 : Int).toNat=yw:=Lp;rw [e1] at h1;rw [e2] at h2;exact ⟨b,as',cs,at',ct,rfl,h1,h2⟩
theorem Ey {V : World} {gm : Nat} {as' at' : OA} {cs ct : Nat} (hM : br V (some ⟨gm,0,none⟩) 2 dw) (h1 : br V as' 4 pA) (h2 : gJ V at' 4 yw) :
  Calls prog 31 #[.agg #[.int .i64 2,.int .i64 1,.slice none 0 0,.int .i64 4,.slice (some ⟨gm,0,none⟩) 2 2],.agg #[.slice as' 4 cs,.slice at' 4 ct]] V λe w'=>SW V w'/\∃a c,e = .returned (.tuple #[.slice a 4 c,.int .i64 0])/\Ints w' a 4 [2,1,2,1]:=by
 refine (o6 2 1 none 0 0 [] 4 (some ⟨gm,0,none⟩) 2 2 dw as' 4 cs _ at' 4 ct _ V (Sd _ _) hM h1 h2).mono ?_;rintro e w' ⟨b,⟨h0,_⟩ | ⟨_,a,c,rfl,h⟩⟩
 ·exact absurd Kn h0
 ·have e1 : pP pA (4 : Int).toNat=[2,1,2,1]:=KS;rw [e1] at h;exact ⟨b,a,c,rfl,h⟩
theorem yb {V : World} {gm : Nat} (hM : br V (some ⟨gm,0,none⟩) 2 dw) : Calls prog 20 #[.agg #[.int .i64 2,.int .i64 1,.slice none 0 0,.int .i64 4,.slice (some ⟨gm,0,none⟩) 2 2]] V λe w'=>e = .returned (.tuple #[.int .i64 2,.int .i64 0])/\SW V w':=by have h:=lr 2 1 none 0 0 [] 4 (some ⟨gm,0,none⟩) 2 2 dw V (Sd _ _) hM;rw [Kb,FA] at h;exact h
theorem BF {V : World} {gm : Nat} {p : OA} (hM : br V (some ⟨gm,0,none⟩) 2 dw) (hy : Ints V p 4 [0,1,0,1]) : Calls prog 17 #[.agg #[.int .i64 2,.int .i64 1,.slice none 0 0,.int .i64 4,.slice (some ⟨gm,0,none⟩) 2 2],.int .i64 0,.slice p 4 4] V λe w'=>e = .returned (.tuple #[.int .i64 1,.int .i64 0])/\SW V w':=by have h:=sM 2 1 none 0 0 [] 4 (some ⟨gm,0,none⟩) 2 2 dw 0 p 4 4 [0,1,0,1] V (Sd _ _) hM hy;rw [Ld,J8] at h;exact h
theorem Ei (V : World) : Calls prog 22 #[.int .i64 6,.int .i64 3,.int .i64 2] V λe w'=>e = .returned (.tuple #[.int .i64 3,.int .i64 0])/\w'=V:=by have h:=uq 6 3 2 V;rw [Kc,K5] at h;exact h
theorem Ku (V : World) : Calls prog 25 #[.agg #[.int .i64 7,.int .i64 1,.slice none 0 0],.int .i64 2,.int .i64 2,.int .i64 3] V λe w' =>
  ∃a1 c1 a2 c2,e = .returned (.tuple #[.agg #[.int .i64 7,.int .i64 1,.slice a1 0 c1,.int .i64 6,.slice a2 3 c2],.int .i64 0])/\SW V w':=by
 refine (Jg 7 1 none 0 0 [] 2 2 3 V (Sd _ _) (by omega)).mono ?_;rintro e w' ⟨b,⟨h0,_⟩ | ⟨_,a1,c1,a2,c2,rfl,_,_⟩⟩
 ·exact absurd KY h0
 ·have e1 : (J6 7 1 [] (2 : Int).toNat (2 : Int).toNat (3 : Int).toNat).length=3:=Ks;exact ⟨a1,c1,a2,c2,by rw [e1];rfl,b⟩
theorem bU (w : World) : Calls prog 13 #[] w λe w'=>e = .returned (.bool true)/\SW w w':=by
 go_enter func13,ntmps13;go_upto_region 1 with fail;go_cut [1] (λv wx=>∃g gm,v = .pointer (some ⟨g,0,none⟩)/\aN wx g [.int .i64 2,.int .i64 1,.slice none 0 0,.int .i64 4,.slice (some ⟨gm,0,none⟩) 2 2]/\br wx (some ⟨gm,0,none⟩) 2 dw/\SW w wx);case first =>
  go_wp2_with fail
  go_meet
  have i1:=lits w [1,0,1,0] #[.int .i64 1,.int .i64 0,.int .i64 1,.int .i64 0] rfl (by decide) rfl
  have i2:=lits (w.alloc (.cells #[.int .i64 1,.int .i64 0,.int .i64 1,.int .i64 0] 3)) [0,1,1,1] #[.int .i64 0,.int .i64 1,.int .i64 1,.int .i64 1] rfl (by decide) (g:=w.heap.size+1) (by simp)
  have hm:=ME (c1:=4) (c2:=4) _ (i1.ah (an _ (.cells #[.int .i64 0,.int .i64 1,.int .i64 1,.int .i64 1] 3))) i2 (g:=w.heap.size+1+1) (by simp)
  have hm2:=hm.ah (an _ (.cells #[.int .i64 2,.int .i64 1,.slice none 0 0,.int .i64 4,.slice (some ⟨w.heap.size+1+1,0,none⟩) 2 2] 27))
  exact ⟨_,w.heap.size+1+1,rfl,R9 _ [.int .i64 2,.int .i64 1,.slice none 0 0,.int .i64 4,.slice (some ⟨w.heap.size+1+1,0,none⟩) 2 2] _ (by simp),hm2,Iq _ _ _ _ _⟩
 obtain ⟨g,gm,rfl,hx,hM,hbW⟩:=hcut;generalize wc=W at *;have HS : Hid (∀V,SW W V->V.cell? ⟨g,0,none⟩=some (.int .i64 2)/\V.cell? ⟨g,1,none⟩=some (.int .i64 1)/\V.cell? ⟨g,2,none⟩=some (.slice none 0 0)/\V.cell? ⟨g,3,none⟩=some (.int .i64 4)/\V.cell? ⟨g,4,none⟩=some (.slice (some ⟨gm,0,none⟩) 2 2)):=λV hV=>by have h:=hx.ah hV;exact ⟨h.cell 0 rfl,h.cell 1 rfl,h.cell 2 rfl,h.cell 3 rfl,h.cell 4 rfl⟩
 have HM : Hid (∀V,SW W V->br V (some ⟨gm,0,none⟩) 2 dw):=λV hV=>hM.ah hV;have HW:=Z5 hbW;clear hx hM hbW;have e0:=Nc W.heap.size W;obtain ⟨c0,c1,c2,c3,c4⟩:=HS.out _ e0;have Hc:=Z5 (sy (HM.out _ e0) 0 [1,2] [1,1] Lh Km KX);go_wp2_with fail;refine Hc.out.mono ?_;rintro e V1 ⟨b1,a1,k1,d1,j1,rfl,hO1,hP1⟩;have e1:=RZ e0 b1;have HO1:=Z5 (λV hV=>⟨hO1.ah hV,hP1.ah hV⟩ : ∀V,SW V1 V->Ints V a1 2 [1,2]/\Ints V d1 2 [1,1]);clear c0 c1 c2 c3 c4 Hc hO1 hP1;obtain ⟨c0,c1,c2,c3,c4⟩:=HS.out _ e1;have Hc:=Z5 (sy (HM.out _ e1) 1 [3] [1] KU J9 Kg);go_wp2_with fail;refine Hc.out.mono ?_;rintro e V2 ⟨b2,a2,k2,d2,j2,rfl,hO2,hP2⟩;have e2:=RZ e1 b2;have HO2:=Z5 (λV hV=>⟨hO2.ah hV,hP2.ah hV⟩ : ∀V,SW V2 V->Ints V a2 1 [3]/\Ints V d2 1 [1]);clear c0 c1 c2 c3 c4 Hc hO2 hP2;obtain ⟨c0,c1,c2,c3,c4⟩:=HS.out _ e2;have Hc:=Z5 (yb (HM.out _ e2));go_wp2_with fail;refine Hc.out.mono ?_;rintro e V3 ⟨rfl,b3⟩;have e3:=RZ e2 b3;clear c0 c1 c2 c3 c4 Hc;have n3:=an V3 (.cells #[.int .i64 0,.int .i64 1,.int .i64 0,.int .i64 1] 3);have Hc:=Z5 (BF (HM.out _ (RZ e3 n3)) (lits V3 [0,1,0,1] #[.int .i64 0,.int .i64 1,.int .i64 0,.int .i64 1] rfl (by decide) rfl));obtain ⟨c0,c1,c2,c3,c4⟩:=HS.out _ e3;go_wp2_with fail;refine Hc.out.mono ?_;rintro e V4 ⟨rfl,b4⟩;have e4:=RZ e3 (RZ n3 b4);clear c0 c1 c2 c3 c4 Hc;have Hc:=Z5 (Ei V4);go_wp2_with fail;refine Hc.out.mono ?_;rintro e V4 ⟨rfl,rfl⟩;clear Hc;have Hc:=Z5 (Ku V4);go_wp2_with fail;refine Hc.out.mono ?_;rintro e V5' ⟨p5,q5,a5,k5,rfl,b5⟩;clear Hc;have n5:=an V5' (.cells #[.int .i64 7,.int .i64 1,.slice p5 0 q5,.int .i64 6,.slice a5 3 k5] 27);have f5:=RZ b5 n5;have e5:=RZ e4 f5;have HO5:=Z5 (λV hV=>⟨((R9 V5' [.int .i64 7,.int .i64 1,.slice p5 0 q5,.int .i64 6,.slice a5 3 k5] 27 rfl).ah hV).cell 3 rfl,((R9 V5' [.int .i64 7,.int .i64 1,.slice p5 0 q5,.int .i64 6,.slice a5 3 k5] 27 rfl).ah hV).cell 4 rfl⟩ : ∀V,Below (V5'.alloc (.cells #[.int .i64 7,.int .i64 1,.slice p5 0 q5,.int .i64 6,.slice a5 3 k5] 27)).heap.size (V5'.alloc (.cells #[.int .i64 7,.int .i64 1,.slice p5 0 q5,.int .i64 6,.slice a5 3 k5] 27)) V ->
  V.cell? ⟨V5'.heap.size,3,none⟩=some (.int .i64 6)/\V.cell? ⟨V5'.heap.size,4,none⟩=some (.slice a5 3 k5))
 have Hc:=Z5 (AE (HM.out _ e5));obtain ⟨c0,c1,c2,c3,c4⟩:=HS.out _ e5;go_wp2_with fail;refine Hc.out.mono ?_;rintro e V6' ⟨b6,as',cs,at',ct,rfl,hA6,hT6⟩;clear c0 c1 c2 c3 c4 Hc;have n6:=an V6' (.cells #[.slice as' 4 cs,.slice at' 4 ct] 48);have f6:=RZ b6 n6;have e6:=RZ e5 f6;have HO6:=Z5 (λV hV=>⟨((R9 V6' [.slice as' 4 cs,.slice at' 4 ct] 48 rfl).ah hV).cell 0 rfl,((R9 V6' [.slice as' 4 cs,.slice at' 4 ct] 48 rfl).ah hV).cell 1 rfl,(hA6.ah n6).ah hV,(hT6.Jm n6).Jm hV⟩ : ∀V,Below (V6'.alloc (.cells #[.slice as' 4 cs,.slice at' 4 ct] 48)).heap.size (V6'.alloc (.cells #[.slice as' 4 cs,.slice at' 4 ct] 48)) V ->
  V.cell? ⟨V6'.heap.size,0,none⟩=some (.slice as' 4 cs)/\V.cell? ⟨V6'.heap.size,1,none⟩=some (.slice at' 4 ct)/\br V as' 4 pA/\gJ V at' 4 yw)
 clear hA6 hT6;have t6:=HO6.out _ (Nc _ _);have Hc:=Z5 (Ey (cs:=cs) (ct:=ct) (HM.out _ e6) t6.2.2.1 t6.2.2.2);obtain ⟨c0,c1,c2,c3,c4⟩:=HS.out _ e6;have x0:=t6.1;have x1:=t6.2.1;clear t6;go_wp2_with fail;refine Hc.out.mono ?_;rintro e V7 ⟨b7,a7,k7,rfl,hO7⟩;have e7:=RZ e6 b7;have HO7:=Z5 (λV hV=>hO7.ah hV : ∀V,SW V7 V->Ints V a7 4 [2,1,2,1]);have G6:=Z5 b7;have G5:=Z5 (RZ f6 b7);have G2:=Z5 (RZ b3 (RZ (RZ n3 b4) (RZ f5 (RZ f6 b7))));have G1:=Z5 (RZ b2 G2.out);have E7:=Z5 (RZ HW.out e7);clear c0 c1 c2 c3 c4 x0 x1 Hc hO7 b1 b2 b3 b4 b5 b6 b7 n3 n5 n6 f5 f6 e0 e1 e2 e3 e4 e5 e6 e7;go_upto_region 12 with fail;have q1:=an V7 (.cells #[.int .i64 1,.int .i64 2] 3);have s1':=RZ (Nc V7.heap.size V7) q1;have Hc:=Z5 (fX a1 2 k1 [1,2] (some ⟨V7.heap.size,0,none⟩) 2 2 [1,2] (HO1.out _ (RZ G1.out s1')).1 (lits V7 [1,2] #[.int .i64 1,.int .i64 2] rfl (by decide) rfl));rw [NB rfl] at Hc;go_wp2_with fail;refine Hc.out.mono ?_;rintro e Y1 ⟨rfl,r1⟩;have s1:=RZ s1' r1.below;clear Hc q1 s1' r1;have q2:=an Y1 (.cells #[.int .i64 1,.int .i64 1] 3);have s2':=RZ s1 q2;have Hc:=Z5 (fX d1 2 j1 [1,1] (some ⟨Y1.heap.size,0,none⟩) 2 2 [1,1] (HO1.out _ (RZ G1.out s2')).2 (lits Y1 [1,1] #[.int .i64 1,.int .i64 1] rfl (by decide) rfl));rw [NB rfl] at Hc;go_wp2_with fail;refine Hc.out.mono ?_;rintro e Y2 ⟨rfl,r2⟩;have s2:=RZ s2' r2.below;clear Hc q2 s2' r2;have q3:=an Y2 (.cells #[.int .i64 3] 3);have s3':=RZ s2 q3;have Hc:=Z5 (fX a2 1 k2 [3] (some ⟨Y2.heap.size,0,none⟩) 1 1 [3] (HO2.out _ (RZ G2.out s3')).1 (lits Y2 [3] #[.int .i64 3] rfl (by decide) rfl));rw [NB rfl] at Hc;go_wp2_with fail;refine Hc.out.mono ?_;rintro e Y3 ⟨rfl,r3⟩;have s3:=RZ s3' r3.below;clear Hc q3 s3' r3;have q4:=an Y3 (.cells #[.int .i64 1] 3);have s4':=RZ s3 q4;have Hc:=Z5 (fX d2 1 j2 [1] (some ⟨Y3.heap.size,0,none⟩) 1 1 [1] (HO2.out _ (RZ G2.out s4')).2 (lits Y3 [1] #[.int .i64 1] rfl (by decide) rfl));rw [NB rfl] at Hc;go_wp2_with fail;refine Hc.out.mono ?_;rintro e Y4 ⟨rfl,r4⟩;have s4:=RZ s4' r4.below;clear Hc q4 s4' r4;have q5:=an Y4 (.cells #[.int .i64 2,.int .i64 1,.int .i64 2,.int .i64 1] 3);have s5':=RZ s4 q5;have Hc:=Z5 (fX a7 4 k7 [2,1,2,1] (some ⟨Y4.heap.size,0,none⟩) 4 4 [2,1,2,1] (HO7.out _ s5') (lits Y4 [2,1,2,1] #[.int .i64 2,.int .i64 1,.int .i64 2,.int .i64 1] rfl (by decide) rfl));rw [NB rfl] at Hc;go_wp2_with fail;refine Hc.out.mono ?_;rintro e Y5 ⟨rfl,r5⟩;have s5:=RZ s5' r5.below;clear Hc q5 s5' r5;obtain ⟨y3,y4⟩:=HO5.out _ (RZ G5.out s5);obtain ⟨x0,_,hA,_⟩:=HO6.out _ (RZ G6.out s5);have Hc:=Z5 (kb as' 4 cs pA _ 4 4 pA (hA.ah (uk Y5)) (F0 Y5));rw [NB rfl] at Hc;unfold E8 at Hc;clear hA;go_wp2_with fail;refine Hc.out.mono ?_;rintro e Y6 ⟨rfl,r6⟩;have hF:=RZ E7.out (RZ (RZ s5 (uk Y5)) r6.below);go_wp2_with fail;go_ret;exact ⟨rfl,hF⟩
def qH.I (σ : qH) (x : Nat) : Prop:=cU σ.ar σ.R x
def vh (B : Nat) (σ : qH) (V : Int × ZZ) (w : World) (e : Ending) (w' : World) : Prop :=
 (V.1=0/\∃σ' : qH,aT w' B σ'.ar σ'.T.length σ'.cr σ'.R σ'.T/\σ'.T=V.2/\σ'.T.length<=65536/\aE w w' σ.I σ'.I/\e = .returned (.tuple #[.slice σ'.ar σ'.T.length σ'.cr,.int .i64 0])) \/
 (V.1 ≠ 0/\∃I',aE w w' σ.I I'/\e = .returned (.tuple #[.slice none 0 0,.int .i64 V.1]))
theorem aT.more {V w5 : World} {B : Nat} {σ : qH} (h : aT V B σ.ar σ.T.length σ.cr σ.R σ.T)
  {a3 : OA} {c3 : Nat} {t : Lz} (hr : V.ownsRow B 3 1 (.slice a3 t.length c3) t.length (t.map (Value.int .i64))) (hra : a3 ≠ none->¬ σ.I (ablk a3)) {o : Obj}
  {a5 : OA} {c5 : Nat} (hown : w5.ownsRow B 22 1 (.slice a5 (σ.T.length+1) c5) (σ.T.length+1) (List.zipWith l5 σ.R σ.T ++ [.slice a3 t.length c3])) (hg : (V.alloc o).grownBy w5 (Value.slice σ.ar σ.T.length σ.cr).ownBlock)
  (hap : ∀b,b<(V.alloc o).heap.size->gE σ.ar b->gE a5 b) :
  aT w5 B a5 (σ.T.length+1) c5 (σ.R ++ [(a3,c3)]) (σ.T ++ [t])/\aE V w5 (λx=>σ.I x\/(a3 ≠ none/\x=ablk a3)) (λx=>cU a5 (σ.R ++ [(a3,c3)]) x):=by
 have hal:=an V o;have hO1 : aT (V.alloc o) B σ.ar σ.T.length σ.cr σ.R σ.T:=h.ah hal;refine ⟨Sk hO1 (bd hr hal) hra hown hg hap,?_⟩;have hM0 : aE V (V.alloc o) (λx=>σ.I x\/(a3 ≠ none/\x=ablk a3)) (λx=>σ.I x\/(a3 ≠ none/\x=ablk a3)):=Se hal _;have hM1 : aE (V.alloc o) w5 (λx=>σ.I x\/(a3 ≠ none/\x=ablk a3)) (λx=>σ.I x\/(a3 ≠ none/\x=ablk a3)):=Ss hg λh0=>.inl (.inl ⟨h0,rfl⟩);have hM2:=hM0.trans hM1;refine ⟨hM2.os,hM2.tape,hM2.output,hM2.size,hM2.block,λx hx=>?_⟩;rcases cU.push hO1 hap hx with h1 | h1 | h1
 ·exact .inl (.inl h1)
 ·exact .inl (.inr h1)
 ·exact .inr (Nr hal.size h1)
def C0 (U V : World) (I : Nat->Prop) : Prop:=∃I',aE U V I I'
theorem C0.below {U V : World} {I : Nat->Prop} (h : SW U V) : C0 U V I:=⟨_,Se h _⟩
def LC (B : Nat) (σ : qH) (V : Int × ZZ) (er : Int) (w : World) (rv : Value) (w' : World) : Prop :=
 (er=0/\∃σ' : qH,aT w' B σ'.ar σ'.T.length σ'.cr σ'.R σ'.T/\σ'.T=V.2/\σ'.T.length<=65536/\aE w w' σ.I σ'.I/\rv = .slice σ'.ar σ'.T.length σ'.cr) \/
 (er ≠ 0/\∃I',aE w w' σ.I I'/\rv = .slice none 0 0)
theorem vh.split {B : Nat} {σ : qH} {V : Int × ZZ} {w w' : World} {e : Ending} (h : vh B σ V w e w') : ∃rv,e = .returned (.tuple #[rv,.int .i64 V.1])/\LC B σ V V.1 w rv w':=by
 rcases h with ⟨h1,σ',g1,g2,g3,g4,rfl⟩ | ⟨h1,I',g4,rfl⟩
 ·exact ⟨_,by rw [h1],.inl ⟨h1,σ',g1,g2,g3,g4,rfl⟩⟩
 ·exact ⟨_,rfl,.inr ⟨h1,I',g4,rfl⟩⟩
theorem LC.from {B : Nat} {σ : qH} {V : Int × ZZ} {er : Int} {U w w' : World} {rv : Value} (h : LC B σ V er w rv w') (hb : SW U w) : LC B σ V er U rv w':=by
 rcases h with ⟨h1,σ',g1,g2,g3,g4,rfl⟩ | ⟨h1,I',g4,rfl⟩
 ·exact .inl ⟨h1,σ',g1,g2,g3,(Se hb _).trans g4,rfl⟩
 ·exact .inr ⟨h1,I',(Se hb _).trans g4,rfl⟩
theorem LC.M5 {B : Nat} {σ : qH} {V : Int × ZZ} {er : Int} {w w' : World} {rv : Value} (h : LC B σ V er w rv w') : C0 w w' σ.I:=by
 rcases h with ⟨h1,σ',g1,g2,g3,g4,rfl⟩ | ⟨h1,I',g4,rfl⟩
 ·exact ⟨_,g4⟩
 ·exact ⟨_,g4⟩
structure M6 (B : Nat) (V : World) (a1 : OA) (c1 : Nat) (l1 : Lz) (a2 : OA) (c2 : Nat) (l2 : Lz) : Prop where
 o1 : V.ownsRow B 3 1 (.slice a1 l1.length c1) l1.length (l1.map (Value.int .i64))
 o2 : V.ownsRow B 3 1 (.slice a2 l2.length c2) l2.length (l2.map (Value.int .i64))
 st : a1=none\/a2=none\/ablk a1 ≠ ablk a2
section
variable {B : Nat} {V V' w5 : World} {a1 a2 a5 : OA} {c1 c2 c5 : Nat} {l1 l2 : Lz} {o : Obj} {x : Int}
end
section
open Go.RowKit
end
section
open Go.RowKit
end
def oz (w0 : World) (xs : List Value) (A : ZZ) : Prop:=(∀j,j<xs.length->∃b m c,xs[j]? = some (.slice b m c)/\Ints w0 b m (ai A j))/\xs.length<=A.length
theorem oz.push {w0 : World} {xs : List Value} {A : ZZ} (h : oz w0 xs A) {b : OA} {m c : Nat} (hi : Ints w0 b m (ai A xs.length)) (hl : xs.length<A.length) : oz w0 (xs ++ [.slice b m c]) A:=by
 refine ⟨λj hj=>?_,by rw [Nl];exact hl⟩;by_cases e : j=xs.length
 ·subst e;exact ⟨b,m,c,by rw [PL],hi⟩
 ·rw [Ny (by simp at hj;omega)];exact h.1 j (by simp at hj;omega)
theorem oz.jt {w0 V : World} {xs : List Value} {A : ZZ} {B n : Nat} {a : OA} {c : Nat} (h : oz w0 xs A) (ho : V.ownsRow B 22 1 (.slice a n c) n xs) (hl : A.length=n) (hx : xs.length=n) (hb : SW w0 V) (hm : n<=maxLen) : br V a n A:=by
 obtain ⟨a',c',hv,hp⟩:=Sv ho;cases hv
 refine ⟨hl,hp,hm,λj hj=>?_⟩;obtain ⟨b,m,c2,h1,h2⟩:=h.1 j (by omega);exact ⟨b,m,c2,by rw [(cJ ho j hj).1];exact h1,h2.ah hb⟩
theorem Below.nx {B : Nat} {W V V' : World} (h : Below B W V) (hB : B<=W.heap.size) (hb : SW V V') : Below B W V':=h.trans (hb.mono (Nr hB h.size))
section
variable {m : Nat}
end
section
open Go.RowKit
end
section
open Go.RowKit
end
section
variable {P M : Int} {mod : Lz} {m : Nat} {L : ZZ}
end
section
variable {P M : Int} {mod : Lz} {m : Nat} {L : ZZ}
end
section
variable {P M : Int} {mod : Lz} {m : Nat} {L : ZZ}
end
section
open Go.RowKit
end
section
open Go.RowKit
end
section
variable {P M : Int} {mod : Lz} {m : Nat} {L : ZZ}
end
section
open Go.RowKit
end
section
open Go.RowKit
end
section
open Go.RowKit
end
def Il (a b : OA) : Prop:=a=none\/b=none\/ablk a ≠ ablk b
theorem Il.sL {w : World} {B : Nat} {e : TypeId} {a b : OA} {c n : Nat} {xs : List Value} (h : Il a b) (ho : w.ownsRow B e 1 (.slice a n c) n xs) (hB : 0<B) : gE a (ablk b):=by
 rcases h with rfl | rfl | h
 ·exact .inl rfl
 ·exact mq ho (show ablk none<B from hB)
 ·exact .inr h
theorem Il.symm {a b : OA} (h : Il a b) : Il b a:=by
 rcases h with h | h | h
 ·exact .inr (.inl h)
 ·exact .inl h
 ·exact .inr (.inr λe=>h e.symm)
theorem Il.new {b a5 : OA} (h : b ≠ none->gE a5 (ablk b)) : Il a5 b:=by
 by_cases hb : b=none
 ·exact .inr (.inl hb)
 ·rcases h hb with h | h
  ·exact .inl h
  ·exact .inr (.inr h)
theorem gJ.Js (w : World) : gJ w none 0 []:=⟨rfl,λh=>by omega,by unfold maxLen;omega,λi hi=>by omega⟩
theorem br.Js (w : World) : br w none 0 []:=⟨rfl,λh=>by omega,by unfold maxLen;omega,λi hi=>by omega⟩
def Sl:=@Below.nx
def Sw:=@C0.below
end Go.Proofs.YthglbncgemdcbaaGreat
