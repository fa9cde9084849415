import Derived.Test.YtcfmiocdlcapoaaGreatMCS33
namespace Go.Proofs.YtcfmiocdlcapoaaGreat
set_option linter.all false
set_option maxRecDepth 100000
set_option maxHeartbeats 16000000
open Go.RowKit Go.Proofs.Tryz
theorem vV (O : aS) (u : Lz) {a : Int} (r : Lz) (h : a ≠ 0) : gz O u a r=bP O u a r:=I5 h
theorem EE {R : La} {L : Ll} (j : Nat) (u : Value) (h : (List.zipWith eY R L)[j]? = some u) : u.oneCell'=true:=by obtain ⟨x,y,_,_,rfl⟩:=List.getElem?_zipWith_eq_some.1 h;rfl
theorem aP.Hw {w : World} {B : Nat} {a : OA} {n c : Nat} {R : La} {L : Ll} (h : aP w B a n c R L) : Pl a n/\(List.zipWith eY R L).length=n/\(∀j,j<n->w.cell? ⟨aj a,aL a+j,none⟩=(List.zipWith eY R L)[j]?)/\∀u ∈ List.zipWith eY R L,u.oneCell'=true:=by
 obtain ⟨a',c',hv,hp⟩:=Nx h.own;cases hv
 refine ⟨hp,by simp [h.rl,h.ll],λj hj=>(bW h.own j hj).1,λu hu=>?_⟩;obtain ⟨j,hj,rfl⟩:=List.mem_iff_getElem.1 hu;exact EE j _ (JI hj)
def s9 (B : Nat) (T : Ll) (w : World) (e : Ending) (w' : World) : Prop :=
 ∃a c R,e = .returned (.slice a T.length c)/\aP w' B a T.length c R T/\NS w w'
section
variable {P M : Int} {mod : Lz} {m : Nat} {R : Ll}
theorem yJ (am : OA) (mn cm : Nat) (ar : OA) (nr cr : Nat) (B : Nat) (av : OA) (cv : Nat) (v : Lz) (fs : Nat) (fi : Bool) (w : World) (hB : B<=w.heap.size)
  (hv : w.ownsRow B 3 1 (.slice av m cv) m (v.map (Value.int .i64))) (hvl : v.length=m) :
  Calls prog 51 #[.agg #[.int .i64 P,.int .i64 M,.slice am mn cm],.slice ar nr cr,.int .i64 fs,.int .i64 0,.slice av m cv,.bool fi] w (s9 B [v] w):=by
 have hb2:=dA w (.cells #[.int .i64 P,.int .i64 M,.slice am mn cm] 24) (.cells #[.slice av m cv] 22);have hO : aP ((w.alloc (.cells #[.int .i64 P,.int .i64 M,.slice am mn cm] 24)).alloc (.cells #[.slice av m cv] 22)) B (some ⟨w.heap.size+1,0,none⟩) 1 1 [(av,cv)] [v]:=by
  obtain ⟨U,hU⟩ : ∃U : World,U=w.alloc (.cells #[.int .i64 P,.int .i64 M,.slice am mn cm] 24):=⟨_,rfl⟩
  have hs : U.heap.size=w.heap.size+1:=by rw [hU];simp
  have h0:=Es U 22 (.slice av m cv) 1 (B:=B) (by omega) (by unfold maxLen;omega);rw [<- hU] at hb2 ⊢;have hap : cJ av (w.heap.size+1):=by
   by_cases h1 : av=none
   ·exact .inl h1
   ·have:=(aM hv h1).2;exact .inr (by omega)
  refine ⟨rfl,rfl,?_,λi hi=>?_,λi hi=>?_,λi j hi hj hij=>by omega⟩
  ·have h1 : (U.alloc (.cells #[.slice av m cv] 22)).ownsRow B 22 1 (.slice (some ⟨U.heap.size,0,none⟩) 1 1) 1 [.slice av m cv]:=h0;rw [hs] at h1;show World.ownsRow _ _ _ _ _ _ [.slice av v.length cv];rw [hvl];exact h1
  ·obtain rfl : i=0:=by omega
   show World.ownsRow _ _ _ _ (.slice av v.length cv) v.length _;rw [hvl];exact aX hv hb2
  ·obtain rfl : i=0:=by omega
   exact hap
 go_enter func51,ntmps51;go_wp2_with fail;go_ret;exact ⟨_,_,_,rfl,hO,hb2⟩
def vr (P M : Int) (mod : Lz) (m : Nat) (R : Ll) (am : OA) (mn cm : Nat) (ar : OA) (nr cr : Nat) (l : Nat) : Prop :=
 ∀(w : World) (B : Nat) (av : OA) (cv : Nat) (v : Lz) (fs : Nat) (fi : Bool),Ints w am mn mod->ch w ar nr R->B<=w.heap.size->w.ownsRow B 3 1 (.slice av m cv) m (v.map (Value.int .i64))->Vc (ah P M.toNat mod).El m v->fs<=nr ->
  (gW (ah P M.toNat mod).ops (de (ah P M.toNat mod).q) (if fi=true then [1] else de (ah P M.toNat mod).q) l (R.drop fs) v).length<=1000000 ->
  Calls prog 51 #[.agg #[.int .i64 P,.int .i64 M,.slice am mn cm],.slice ar nr cr,.int .i64 fs,.int .i64 l,.slice av m cv,.bool fi] w
   (s9 B (gW (ah P M.toNat mod).ops (de (ah P M.toNat mod).q) (if fi=true then [1] else de (ah P M.toNat mod).q) l (R.drop fs) v) w)
theorem BX {O : aS} {El : Int->Prop} (F : dw O El) {m : Nat} {v u : Lz} {s : Int} (hv : Vc El m v) (hu : Vc El m u) (hs : El s) : Vc El m (bP O v s u):=by
 have hl : u.length=v.length:=by rw [hu.1,hv.1]
 exact ⟨by rw [cA _ _ _ _ hl];exact hv.1,ow F.cl hv.2 hu.2 hs⟩
theorem zP (am : OA) (mn cm : Nat) (ar : OA) (nr cr : Nat) (hB : bp P M mod=true) (hm : m<=64) (hnr : nr<=64) (hRw : cw (ah P M.toNat mod).El m R) (l : Nat) (hl64 : l<=64) (IH : vr P M mod m R am mn cm ar nr cr l) : vr P M mod m R am mn cm ar nr cr (l+1):=by
 intro w B av cv v fs fi hmod hi hBw hv hve hfs hlen;have F:=fq hB;have hord : aN P M=((ah P M.toNat mod).q : Int):=by obtain ⟨m1,e1,_,h1,_⟩:=fU hB;rw [show M.toNat=m1 by omega];exact h1.symm
 have hq2 : 1<(ah P M.toNat mod).q:=by have h5 : (1 : Int)<(ah P M.toNat mod).q:=F.one.2;omega
 have HOr : Hid (∀V,Calls prog 45 #[.agg #[.int .i64 P,.int .i64 M,.slice am mn cm]] V λe w'=>e = .returned (.int .i64 ((ah P M.toNat mod).q : Nat))/\NS V w'):=λV=>by rw [<- hord];exact fW P M am mn cm V
 have HAd : Hid (∀V Aa ra rc i,NS w V->i<nr->(ah P M.toNat mod).El Aa->Aa ≠ 0->Ints V ra m (an R i)->Calls prog 115 #[.agg #[.int .i64 P,.int .i64 M,.slice am mn cm],.slice av m cv,.int .i64 Aa,.slice ra m rc] V
   λe w'=>∃a1 c1,e = .returned (.slice a1 m c1)/\w'.ownsRow V.heap.size 3 1 (.slice a1 m c1) m ((gz (ah P M.toNat mod).ops v Aa (an R i)).map (Value.int .i64))/\NS V w'):=λV Aa ra rc i hV hin hel h0 hra=>by rw [vV _ _ _ h0];exact th hB (by omega) av cv v Aa ra rc (an R i) V (hmod.aa hV) ((Ni hv).1.aa hV) hra hve hel (hRw.row (by rw [hi.len];exact hin))
 have HIH : Hid (∀V B2 a2 c2 v2 i,NS w V->i<nr->B2<=V.heap.size->V.ownsRow B2 3 1 (.slice a2 m c2) m (v2.map (Value.int .i64))->Vc (ah P M.toNat mod).El m v2 ->
   (fg (ah P M.toNat mod).ops (de (ah P M.toNat mod).q) l (R.drop (i+1)) v2).length<=1000000 ->
   Calls prog 51 #[.agg #[.int .i64 P,.int .i64 M,.slice am mn cm],.slice ar nr cr,.int .i64 ((i : Int)+1),.int .i64 l,.slice a2 m c2,.bool false] V (s9 B2 (fg (ah P M.toNat mod).ops (de (ah P M.toNat mod).q) l (R.drop (i+1)) v2) V)):=λV B2 a2 c2 v2 i hV hin hB2 ho hv2 hl2=>by have h:=IH V B2 a2 c2 v2 (i+1) false (hmod.aa hV) (hi.aa hV) hB2 ho hv2 (by omega);rw [I5 (by decide),sT] at h;exact h hl2
 have HVS : Hid (∀Aa i,i<nr->(ah P M.toNat mod).El Aa->Aa ≠ 0->Vc (ah P M.toNat mod).El m (gz (ah P M.toNat mod).ops v Aa (an R i))):=λAa i hin hel h0=>by rw [vV _ _ _ h0];exact BX F hve (hRw.row (by rw [hi.len];exact hin)) hel
 obtain ⟨G,hG⟩ : ∃G,ah P M.toNat mod=G:=⟨_,rfl⟩
 rw [hG] at hlen hq2 HOr HAd HIH HVS ⊢;obtain ⟨c0,hc0⟩ : ∃c0,(if fi=true then [1] else de G.q)=c0:=⟨_,rfl⟩
 rw [hc0] at hlen ⊢;rw [gW] at hlen ⊢;have Hc0:=Z5 hc0;obtain ⟨TT,hTT⟩ : ∃TT,ja G.ops (fg G.ops (de G.q) l) c0 (R.drop fs) v=TT:=⟨_,rfl⟩
 rw [hTT] at hlen ⊢;have HTT:=Z5 hTT;have hplR:=hi.pl;have HRl:=Z5 hi.len;have Hi:=Z5 hi;have HRw2 : Hid (∀i,i<nr->Vc G.El m (an R i)):=λi hin=>by rw [<- hG];exact hRw.row (by rw [hi.len];exact hin)
 have HBw:=Z5 hBw;have hq256 : G.q<=256:=by
  obtain ⟨k',e2,hrf,_⟩:=eK (P:=P) (M:=M) (mod:=mod) (by rw [da];exact hB);have h1:=hrf.order;have h2:=hrf.pw;have h3 : aN P M=P ^ k':=by rw [e2];exact h1
  have h4 : (G.q : Int)=P ^ k':=by rw [<- hG,<- hord,h3]
  omega
 obtain ⟨LL,hLL⟩ : ∃LL : Int,((l+1 : Nat) : Int)=LL:=⟨_,rfl⟩
 have hL1 : LL - 1=(l : Int):=by omega
 have el0 : (LL == 0)=false:=by simp;omega
 rw [hLL];clear hLL hmod hi hBw hv hve hRw IH F hord hB hG hc0 hTT;go_enter func51,ntmps51;go_upto_region 1 with fail;obtain ⟨W,hW⟩ : ∃W : World,W=w.alloc (.cells #[.int .i64 P,.int .i64 M,.slice am mn cm] 24):=⟨_,rfl⟩
 rw [<- hW];have hbW : NS w W:=by rw [hW];exact aw _ _
 have x0 : aZ W w.heap.size [.int .i64 P,.int .i64 M,.slice am mn cm]:=by rw [hW];exact Nj _ _ _ rfl
 have hsW : W.heap.size=w.heap.size+1:=by rw [hW];simp
 have HX:=Z5 x0;have HbW:=Z5 hbW;clear hW x0;go_wp2_with fail;go_loopw [13,14] (λov iv wr=>∃(i g : Nat) (a1 : OA) (c1 : Nat) (D : Ll),fs<=i/\i<=nr/\iv = .int .i64 i/\ov = .slice a1 g c1/\Hid (D.length=g)/\(∃R',aP wr W.heap.size a1 g c1 R' D)/\Hid (D ++ ja G.ops (fg G.ops (de G.q) l) c0 (R.drop i) v=TT)/\NS W wr) (λ_ iv _=>nr - (intOf iv).toNat);case atStart=>exact ⟨fs,0,none,0,[],IZ _,hfs,rfl,rfl,rfl,⟨[],aP.GS W W.heap.size⟩,by show _=_;rw [JL];exact HTT.out,I1 _ _⟩
 case round =>
  obtain ⟨i,g,a1,c1,D,hfi,hin,rfl,rfl,Hg,⟨R1,hO⟩,Hd,hbr⟩:=hrel
  generalize wr=X at *
  by_cases hlt : i<nr
  ·have hiR : i<R.length:=by rw [HRl.out];exact hlt
   obtain ⟨T2,hT2⟩ : ∃T2,ja G.ops (fg G.ops (de G.q) l) c0 (R.drop (i+1)) v=T2:=⟨_,rfl⟩
   have HT2:=Z5 hT2
   have hd2 : Hid (D ++ ((c0.drop 0).flatMap (λx=>fg G.ops (de G.q) l (R.drop (i+1)) (gz G.ops v x (an R i))) ++ T2)=TT):=by have h1:=Hd.out;rw [lY R hiR,ja,hT2] at h1;exact h1
   have HO1:=Z5 hO
   clear hT2 hO
   go_wp2_with fail
   go_loopw [13,15] (λov av wr=>∃(t g3 : Nat) (a3 : OA) (c3 : Nat) (D3 : Ll),t+1<=G.q/\(fi=true->t<=1)/\av = .int .i64 ((t : Int)+1)/\ov = .slice a3 g3 c3/\Hid (D3.length=g3)/\(∃R',aP wr W.heap.size a3 g3 c3 R' D3) /\
     Hid (D3 ++ ((c0.drop t).flatMap (λx=>fg G.ops (de G.q) l (R.drop (i+1)) (gz G.ops v x (an R i))) ++ T2)=TT)/\NS W wr) (λ_ av _=>G.q+1 - (intOf av).toNat)
   case atStart=>exact ⟨0,g,a1,c1,D,by omega,λ_=>by omega,rfl,rfl,Hg.out,⟨R1,HO1.out⟩,hd2,hbr⟩
   case round =>
    clear hd2 HO1 Hg Hd
    obtain ⟨t,g3,a3,c3,D3,ht,hfit,rfl,rfl,Hg3,⟨R3,hO3⟩,Hd3,hb3⟩:=hrel
    generalize wr=Y at *
    have hbwY:=Nh HbW.out hb3
    have xY:=HX.out.aa hb3
    obtain ⟨A,hA⟩ : ∃A : Int,(t : Int)+1=A:=⟨_,rfl⟩
    have HA:=Z5 hA
    rw [hA]
    obtain ⟨z,hz⟩ : ∃z : Bool,(decide (A<(G.q : Int)) && ((A == 1) || !fi))=z:=⟨_,rfl⟩
    have HS : Hid (∀V,NS Y V->V.cell? ⟨w.heap.size,0,none⟩=some (.int .i64 P)/\V.cell? ⟨w.heap.size,1,none⟩=some (.int .i64 M)/\V.cell? ⟨w.heap.size,2,none⟩=some (.slice am mn cm)):=λV hV=>by have x1:=xY.aa hV;exact ⟨x1.cell 0 rfl,x1.cell 1 rfl,x1.cell 2 rfl⟩
    obtain ⟨k0,k1,k2⟩:=HS.out Y (I1 _ _)
    clear xY hA
    go_upto_region 8 with fail
    go_cut [38] (λzv wx=>zv = .bool z/\NS Y wx)
    case first =>
     go_wp2_with fail
     refine (HOr.out _).mono ?_
     rintro e w4 ⟨rfl,hb4⟩
     have Hz:=Z5 hz
     have hb4' : NS Y w4:=by first | exact hb4 | exact Nh (I1 _ _).drew hb4
     by_cases e1 : A<(G.q : Int)
     ·have d1 : decide (A<(G.q : Int))=true:=Jm e1
      by_cases e2 : A=1
      ·have d2 : (A == 1)=true:=by simpa using e2
       have Hz2 : Hid (z=true):=by show _=_;rw [<- Hz.out,d1,d2];rfl
       clear hz e1 e2
       go_wp2_with fail
       go_meet
       exact ⟨by rw [Hz2.out],hb4'⟩
      ·have d2 : (A == 1)=false:=by simpa using e2
       have Hz2 : Hid (z = !fi):=by show _=_;rw [<- Hz.out,d1,d2];simp
       clear hz e1 e2
       cases fi <;>
       (go_wp2_with fail
        go_meet
        exact ⟨by rw [Hz2.out];rfl,hb4'⟩)
     ·have d1 : decide (A<(G.q : Int))=false:=Jn e1
      have Hz2 : Hid (z=false):=by show _=_;rw [<- Hz.out,d1];rfl
      clear hz e1
      go_wp2_with fail
      go_meet
      exact ⟨by rw [Hz2.out],hb4'⟩
    obtain ⟨rfl,hb5⟩:=hcut
    generalize wc=Y2 at *
    have hb35:=Nh hb3 hb5
    cases z
    ·have hdr : c0.drop t=[]:=by
      rw [<- Hc0.out];have h9:=hz;rw [<- HA.out] at h9;by_cases e : fi=true
      ·rw [I6 e];have h8:=hfit e;rcases JS t with h | h
       ·subst h;rw [e] at h9;have : (1 : Int)<(G.q : Int):=by omega
        simp at h9;omega
       ·exact JD (by simp;omega)
      ·rw [I5 e];refine JD ?_;rw [jT];have e' : fi=false:=by simpa using e
       rw [e'] at h9;simp at h9;omega
     have Hd4 : Hid (D3 ++ T2=TT):=by have h1:=Hd3.out;rw [hdr,List.flatMap_nil,JL] at h1;exact h1
     have hO5 : ∃R',aP Y2 W.heap.size a3 g3 c3 R' D3:=⟨R3,hO3.aa hb5⟩
     clear hz hdr Hd3 hO3
     go_wp2_with fail
     go_roundw
     case rel=>exact ⟨i+1,g3,a3,c3,D3,by omega,by omega,by go_num,rfl,Hg3.out,hO5,by show _=_;rw [HT2.out];exact Hd4.out,hb35⟩
     case measure=>simp [intOf] <;> omega
    ·have hzz : A<(G.q : Int)/\(A=1\/fi=false):=by have h9:=hz;simp only [Jo,JH,Mj,beq_iff_eq,MN] at h9;exact h9
     obtain ⟨hAq,hA1⟩:=hzz
     have hAt:=HA.out
     have htq : t+1<G.q:=by omega
     have hdr : c0.drop t=A :: c0.drop (t+1):=by
      rw [<- Hc0.out];by_cases e : fi=true
      ·rw [I6 e];have : t=0:=by
        rcases hA1 with h | h
        ·omega
        ·rw [e] at h;cases h
       subst this;rw [<- hAt];rfl
      ·rw [I5 e,<- hAt];exact ta (by omega)
     have hfit2 : fi=true->t+1<=1:=λe=>by
      rcases hA1 with h | h
      ·omega
      ·rw [e] at h;cases h
     have hAel : G.El A:=⟨by omega,hAq⟩
     have hA0 : A ≠ 0:=by omega
     obtain ⟨FA,hFA⟩ : ∃FA,fg G.ops (de G.q) l (R.drop (i+1)) (gz G.ops v A (an R i))=FA:=⟨_,rfl⟩
     obtain ⟨n6,hn6⟩ : ∃n6,FA.length=n6:=⟨_,rfl⟩
     have Hd4 : Hid ((D3 ++ FA) ++ ((c0.drop (t+1)).flatMap (λx=>fg G.ops (de G.q) l (R.drop (i+1)) (gz G.ops v x (an R i))) ++ T2)=TT):=by have h1:=Hd3.out;rw [hdr,L4,hFA,JQ,<- JQ] at h1;exact h1
     have hsz6 : g3+n6<=1000000:=by have h1:=congrArg List.length Hd4.out;rw [Jh,Jh,Hg3.out,hn6] at h1;omega
     have hbwY2:=Nh hbwY hb5
     obtain ⟨rb,rn,rc,hcR,hrow⟩:=(Hi.out.aa hbwY2).cell i hlt
     have hrl:=(HVS.out A i hlt hAel hA0)
     have hrm : rn=m:=by rw [<- hrow.len];exact (HRw2.out i hlt).1
     rw [hrm] at hcR hrow
     have HAd2 : Hid (∀V,NS Y2 V->Calls prog 115 #[.agg #[.int .i64 P,.int .i64 M,.slice am mn cm],.slice av m cv,.int .i64 A,.slice rb m rc] V
       λe w'=>∃a1 c1,e = .returned (.slice a1 m c1)/\w'.ownsRow V.heap.size 3 1 (.slice a1 m c1) m ((gz G.ops v A (an R i)).map (Value.int .i64))/\NS V w'):=λV hV=>HAd.out V A rb rc i (Nh hbwY2 hV) hlt hAel hA0 (hrow.aa hV)
     have HIH2 : Hid (∀V B2 a2 c2,NS Y2 V->B2<=V.heap.size->V.ownsRow B2 3 1 (.slice a2 m c2) m ((gz G.ops v A (an R i)).map (Value.int .i64))->Calls prog 51 #[.agg #[.int .i64 P,.int .i64 M,.slice am mn cm],.slice ar nr cr,.int .i64 ((i : Int)+1),.int .i64 l,.slice a2 m c2,.bool false] V
       λe w'=>∃a6 c6 R6,e = .returned (.slice a6 n6 c6)/\aP w' B2 a6 n6 c6 R6 FA/\NS V w'):=λV B2 a2 c2 hV hB2 ho=>by have h:=HIH.out V B2 a2 c2 _ i (Nh hbwY2 hV) hlt hB2 ho (HVS.out A i hlt hAel hA0) (by rw [hFA,hn6];omega);rw [hFA] at h;refine h.mono ?_;rintro e w' ⟨a6,c6,R6,rfl,h1,h2⟩;rw [hn6] at h1 ⊢;exact ⟨a6,c6,R6,rfl,h1,h2⟩
     have hO5:=hO3.aa hb5
     have HO5:=Z5 hO5
     have HgL : Hid ((D3 ++ FA).length=g3+n6):=by show _=_;rw [Jh,Hg3.out,hn6]
     have HS2 : Hid (∀V,NS Y2 V->V.cell? ⟨w.heap.size,0,none⟩=some (.int .i64 P)/\V.cell? ⟨w.heap.size,1,none⟩=some (.int .i64 M)/\V.cell? ⟨w.heap.size,2,none⟩=some (.slice am mn cm)/\V.cell? ⟨aj ar,aL ar+i,none⟩=some (.slice rb m rc)):=λV hV=>by obtain ⟨q0,q1,q2⟩:=HS.out V (Nh hb5 hV);exact ⟨q0,q1,q2,aB hV hcR⟩
     obtain ⟨l0,l1,l2,l3⟩:=HS2.out Y2 (I1 _ _)
     have hin2 : (i : Int)<(nr : Int):=by omega
     have hWY2 : W.heap.size<=Y2.heap.size:=hb35.size
     have Hwi : Hid (IntKind.i64.wrap ((i : Int)+1)=(i : Int)+1/\IntKind.i64.wrap (l : Int)=l):=⟨Jj _ (by omega),Jj _ (by omega)⟩
     clear hz hdr Hd3 hO3 hFA hn6 hA1 hAq hcR hrow hrl hO5 hAt k0 k1 k2 hrm hAel hA0
     go_upto_region 10 with fail
     go_region_law ((first
      | (go_simp;go_at_call 115;((with_reducible refine (HAd2.out _ (I1 _ _).drew).mono ?_);rintro e w5 ⟨a5,c5,rfl,hown5,hb5'⟩;have hbY5 : NS Y2 w5:=Nh (I1 _ _).drew hb5';have hown6:=aU hown5 (show Y2.heap.size<=Y2.drew.heap.size from IZ _);clear hown5;obtain ⟨e0,e1,e2,e3⟩:=HS2.out w5 hbY5))
      | (go_simp;go_at_call 51;rw [Hwi.out.1,Hwi.out.2];((with_reducible refine (HIH2.out _ Y2.heap.size _ _ hbY5 hbY5.size hown6).mono ?_);rintro e w6 ⟨a6,c6,R6,rfl,hO6,hb6⟩;have hbY6 : NS Y2 w6:=Nh hbY5 hb6;obtain ⟨f0,f1,f2,f3⟩:=HS2.out w6 hbY6;have HN6:=Z5 hO6.Hw;have HO7:=Z5 (HO5.out.aa hbY6);have HO6:=Z5 hO6;clear hO6))
      | (refine bH (by rfl) (.tmp 41) (.tmp 56) 25 22 (by rfl) (.slice none 0 0) 24 underlying25 di (by rfl) W.heap.size a3 g3 c3 (List.zipWith eY R3 D3) (by rfl) HO7.out.own a6 n6 c6 (List.zipWith eY R6 FA) (by rfl) HN6.out.1 HN6.out.2.1 HN6.out.2.2.1 HN6.out.2.2.2 (by omega) (by unfold maxLen;omega) (by have:=hbY6.size;omega) ?_;intro a7 c7 w7 hown7 hgr7 hap7)))
     all_goals (
      have hP:=aP.FP HO7.out HO6.out hWY2 (λb hb=>(HO5.out.lt b hb).2) hown7 hgr7 hap7
      have hb7 : NS W w7:=Nk (Nh hb35 hbY6) HO7.out.own hgr7 (IZ _) (by have:=hbY6.size;omega)
      have HP:=Z5 (Jg hP hb7)
      clear hP hb7 hown7 hgr7 hap7
      simp only [KW,KO,KP,Act.put,I0,I3,I4]
      go_wp2_with fail
      go_roundw
      case rel=>exact ⟨t+1,g3+n6,a7,c7,D3 ++ FA,by omega,hfit2,by have h9:=HA.out;exact congrArg (Value.int .i64) (by rw [gB (by omega)];omega),rfl,HgL.out,⟨_,HP.out.1⟩,Hd4.out,HP.out.2⟩
      case measure=>have h9:=HA.out;rw [gB (by omega)];simp [intOf] <;> omega)
  ·obtain rfl : i=nr:=by omega
   have hFin : D=TT:=by have h1:=Hd.out;rw [JD (by rw [HRl.out];exact IZ _),ja,KC] at h1;exact h1
   have HFin : Hid (s9 B TT w (.returned (.slice a1 g c1)) X):=⟨a1,c1,R1,by rw [<- hFin,Hg.out],by rw [<- hFin,Hg.out];exact aP.mono (by rw [hFin] at hO;rw [hFin];exact hO) (by have:=HBw.out;omega),Nh HbW.out hbr⟩
   clear hFin hO Hd
   go_wp2_with fail
   go_ret
   exact HFin.out
theorem tL (am : OA) (mn cm : Nat) (ar : OA) (nr cr : Nat) (hB : bp P M mod=true) (hm : m<=64) (hnr : nr<=64) (hRw : cw (ah P M.toNat mod).El m R) : ∀l,l<=64->vr P M mod m R am mn cm ar nr cr l
 | 0,_=>λw B av cv v fs fi _ _ hBw hv hve _ _=>by show Calls _ _ _ _ (s9 B [v] w);exact yJ am mn cm ar nr cr B av cv v fs fi w hBw hv hve.1
 | l+1,h=>zP am mn cm ar nr cr hB hm hnr hRw l (by omega) (tL am mn cm ar nr cr hB hm hnr hRw l (by omega))
end
def sr (l : Lz) : Bool:=l.all λy=>y == 0
theorem Dh {l : Lz} : sr l=true ↔ ∀y ∈ l,y=0:=by
 unfold sr;rw [JO];constructor
 ·intro h y hy;simpa using h y hy
 ·intro h y hy;simpa using h y hy
theorem FG (l : Lz) : l.any (λy=>y != 0) = !(sr l):=by
 unfold sr;induction l with
 | nil=>rfl
 | cons x l ih =>
  rw [List.any_cons,L8,ih,Bool.not_and];rfl
theorem Ca (x : Int) (w : World) : Calls prog 248 #[.int .i64 x] w λe w'=>e = .returned (.bool (x != 0))/\w=w':=by go_enter func248,ntmps248;go_wp2;go_ret;exact ⟨rfl,rfl⟩
theorem vT (p : Int->Bool) (a : OA) (n c : Nat) (l : Lz) (w : World) (hi : Ints w a n l) (hf : ∀k,k<n->Calls prog 248 #[.int .i64 (nth l k)] w λe w'=>e = .returned (.bool (p (nth l k)))/\w=w') :
  Calls prog 97 #[.slice a n c,.func (.func 248) #[] #[]] w λe w'=>∃z : Int,e = .returned (.int .i64 z)/\(0<=z ↔ l.any p=true)/\w=w':=by
 have hpl:=hi.pl;have hmax:=hi.max;have HF:=Z5 hf;have Hl:=Z5 hi.len;unfold maxLen at hmax;clear hf;go_enter func97,ntmps97;go_wp2_with fail;go_loop [8] (λiv=>∃k : Nat,k<=n/\iv = .int .i64 k/\Hid (∀j,j<k->p (nth l j)=false)) (λiv=>n - (intOf iv).toNat);case atStart=>exact ⟨0,I7 _,rfl,λj hj=>by omega⟩
 case round =>
  obtain ⟨k,hk,rfl,hno⟩:=hrel
  by_cases hlt : k<n
  ·have ck:=hi.cell k hlt
   have hfk:=HF.out k hlt
   obtain ⟨z,hz⟩ : ∃z,p (nth l k)=z:=⟨_,rfl⟩
   rw [hz] at hfk
   have Hk:=Z5 hfk
   cases z
   ·have Hn : Hid (∀j,j<k+1->p (nth l j)=false):=λj hj=>by
     by_cases e : j=k
     ·subst e;exact hz
     ·exact hno.out j (by omega)
    clear hz hfk hno
    go_wp2_with fail
    refine Hk.out.mono ?_
    rintro e w' ⟨rfl,rfl⟩
    go_wp2_with fail
    go_round
    case rel=>exact ⟨k+1,by omega,by go_num,Hn.out⟩
    case measure=>simp [intOf] <;> omega
   ·have Hy : Hid (l.any p=true):=by show _=_;rw [Md];exact ⟨nth l k,aK (by rw [Hl.out];exact hlt),hz⟩
    clear hz hfk hno
    go_wp2_with fail
    refine Hk.out.mono ?_
    rintro e w' ⟨rfl,rfl⟩
    go_wp2_with fail
    go_ret
    exact ⟨k,rfl,⟨λ_=>by first | exact Hy.out | exact List.any_eq_true.1 Hy.out,λ_=>LQ _⟩,rfl⟩
  ·obtain rfl : k=n:=by omega
   have Hy : Hid (l.any p=false):=by show _=_;rw [MR];intro x hx;obtain ⟨j,hj,rfl⟩:=List.mem_iff_getElem.1 hx;have:=hno.out j (by rw [<- Hl.out];exact hj);rw [ai hj] at this;rw [this];decide
   go_wp2_with fail
   go_ret
   exact ⟨-1,rfl,⟨λh=>absurd h (by omega),λh=>by have h2 : l.any p=true:=(by first | exact h | exact List.any_eq_true.2 h);rw [Hy.out] at h2;exact absurd h2 (by decide)⟩,rfl⟩
theorem qh (p : Int->Bool) (a : OA) (n c : Nat) (l : Lz) (w : World) (hi : Ints w a n l) (hf : ∀k,k<n->Calls prog 248 #[.int .i64 (nth l k)] w λe w'=>e = .returned (.bool (p (nth l k)))/\w=w') :
  Calls prog 136 #[.slice a n c,.func (.func 248) #[] #[]] w λe w'=>e = .returned (.bool (l.any p))/\w=w':=by
 have Hc:=Z5 (vT p a n c l w hi hf);clear hf;go_enter func136,ntmps136;go_wp2_with fail;refine Hc.out.mono ?_;rintro e w' ⟨z,rfl,hz,rfl⟩;by_cases h0 : 0<=z
 ·have Hz : Hid (l.any p=true):=hz.1 h0;have h0' : decide (0<=z)=true:=by simpa using h0
  clear hz h0;go_wp2_with fail;go_ret;exact ⟨bd Hz.out.symm,rfl⟩
 ·have Hz : Hid (l.any p=false):=by
   show _=_;cases h : l.any p
   ·rfl
   ·exact absurd (hz.2 h) h0
  have h0' : decide (0<=z)=false:=by simpa using h0
  clear hz h0;go_wp2_with fail;go_ret;exact ⟨bd Hz.out.symm,rfl⟩
theorem B7 (a : OA) (n c : Nat) (l : Lz) (w : World) (hi : Ints w a n l) :
  Calls prog 212 #[.slice a n c] w λe w'=>e = .returned (.bool (sr l))/\w=w':=by
 have hcc:=qh (λy=>y != 0) a n c l w hi λk hk=>Ca (nth l k) w;rw [FG] at hcc;obtain ⟨z,hz⟩ : ∃z,sr l=z:=⟨_,rfl⟩
 rw [hz] at hcc ⊢;have Hc:=Z5 hcc;clear hcc hz;go_enter func212,ntmps212;go_wp2_with fail;refine Hc.out.mono ?_;rintro e w' ⟨rfl,rfl⟩;cases z
 ·go_wp2_with fail;go_ret;exact ⟨rfl,rfl⟩
 ·go_wp2_with fail;go_ret;exact ⟨rfl,rfl⟩
theorem uO {w : World} {b : Nat} {G : cW} (m : Nat) (a : OA) (n c : Nat) (R : Ll) (ap : OA) (cp : Nat) (Pv : Lz) (ax : OA) (cx : Nat) (x : Lz)
  (h : dT w b G) (hi : ch w a n R) (hp : Ints w ap n Pv) (hx : Ints w ax m x) (hOk : BS.Ok G.El m ⟨R,Pv⟩) (hxe : Vc G.El m x) (hn : n<=1000000) (hm : m<=1000000) :
  Calls prog 144 #[.agg #[.pointer (some ⟨b,0,none⟩),.int .i64 m,.slice a n c,.slice ap n cp],.slice ax m cx] w
   λe w'=>e = .returned (.bool (sr (bu G.ops R Pv x n)))/\NS w w':=by
 obtain ⟨z,hz⟩ : ∃z,sr (bu G.ops R Pv x n)=z:=⟨_,rfl⟩
 rw [hz];have HZ:=Z5 hz;clear hz;go_enter func144,ntmps144;go_wp2_with fail;obtain ⟨W,hW⟩ : ∃W : World,W=w.alloc (.cells #[.pointer (some ⟨b,0,none⟩),.int .i64 m,.slice a n c,.slice ap n cp] 162):=⟨_,rfl⟩
 rw [<- hW];have hbW : NS w W:=by rw [hW];exact aw _ _
 clear hW;refine (zC m a n c R ap cp Pv ax cx x (h.aa hbW) (hi.aa hbW) (hp.aa hbW) (hx.aa hbW) hOk hxe hn hm).mono ?_;rintro e w1 ⟨a1,c1,v2,rfl,hI1,hb1⟩;have hzz:=B7 a1 m c1 _ w1 hI1;rw [HZ.out] at hzz;have Hz:=Z5 hzz;have hF:=Nh hbW hb1;clear hI1 hOk hxe hzz;go_wp2_with fail;refine Hz.out.mono ?_;rintro e w2 ⟨rfl,rfl⟩;go_wp2_with fail;go_ret;exact ⟨rfl,hF⟩
def hasB (P M : Int) (mod : Lz) (m : Nat) (L : Ll) (x : Lz) : Bool:=sr (bu (ah P M.toNat mod).ops L (fJ (ah P M.toNat mod) L m) x L.length)
theorem su (P M : Int) (am : OA) (mn cm : Nat) (mod : Lz) (m : Nat) (a : OA) (n c : Nat) (L : Ll) (ax : OA) (cx : Nat) (x : Lz) (w : World) (hmod : Ints w am mn mod) (hi : ch w a n L) (hx : Ints w ax m x)
  (hE : aJ P M mod m L=0) (hxe : Vc (ah P M.toNat mod).El m x) :
  Calls prog 75 #[.agg #[.int .i64 P,.int .i64 M,.slice am mn cm],.agg #[.int .i64 m,.slice a n c],.slice ax m cx] w λe w'=>e = .returned (.tuple #[.bool (hasB P M mod m L x),.int .i64 0])/\NS w w':=by
 obtain ⟨z,hz⟩ : ∃z,hasB P M mod m L x=z:=⟨_,rfl⟩
 rw [hz];unfold hasB at hz;have hil:=hi.len;obtain ⟨m',em,hm1,hm64,F,hR⟩:=br hE;obtain rfl : m=m':=by omega
 have hn : n<=256:=by rw [<- hil];exact (dP hE).choose_spec.2.2.2.1
 obtain ⟨h5,h6⟩:=dR (bl hE).2.2.2;rw [Jd] at h6;have hcan : iE (ah P M.toNat mod).ops m L=L:=h6;have hpiv:=(je F hR).1;have hlen:=fx F hR;rw [hcan] at hpiv hlen;have hOk : BS.Ok (ah P M.toNat mod).El m ⟨L,fJ (ah P M.toNat mod) L m⟩:=(vi hR hpiv hlen).ok;have hpl : (fJ (ah P M.toNat mod) L m).length=n:=by rw [<- hil];exact hlen.symm
 rw [hil] at hz;have H0:=Z5 hz;have HOk:=Z5 hOk;have Hsp:=Z5 (bl hE).2.2.2;have Hxe:=Z5 hxe;clear hz hOk h5 h6 hcan hpiv hlen em F hR hE hil hxe;go_enter func75,ntmps75;go_wp2_with fail;obtain ⟨W,hW⟩ : ∃W : World,W=(w.alloc (.cells #[.int .i64 P,.int .i64 M,.slice am mn cm] 24)).alloc (.cells #[.int .i64 m,.slice a n c] 82):=⟨_,rfl⟩
 rw [<- hW];have hbW : NS w W:=by rw [hW];exact dA _ _ _
 clear hW;refine (ma P M am mn cm mod m a n c L W (hmod.aa hbW) (hi.aa hbW)).mono ?_;rintro e w1 ⟨hb1,⟨he,_⟩ | ⟨_,m',b,hm',ap,cp,rfl,hG,hbl,hP⟩⟩
 ·exact absurd Hsp.out he
 obtain rfl : m=m':=by omega
 have hbw1:=Nh hbW hb1;have hp1:=hP.ints;rw [hpl] at hp1 ⊢;obtain ⟨Pv,hPv⟩ : ∃Pv,fJ (ah P M.toNat mod) L m=Pv:=⟨_,rfl⟩
 obtain ⟨G,hGG⟩ : ∃G,ah P M.toNat mod=G:=⟨_,rfl⟩
 rw [hGG] at hPv hG H0 HOk Hxe;rw [hPv] at H0 HOk;have hp2 : Ints w1 ap n Pv:=by rw [hGG,hPv] at hp1;exact hp1
 have hb2:=aw w1 (.cells #[.pointer (some ⟨b,0,none⟩),.int .i64 m,.slice a n c,.slice ap n cp] 162);have hbw2:=Nh hbw1 hb2;have HWd:=Z5 (uS m a n c ap n cp ax cx x (hG.gf.aa hb2) (hx.aa hbw2) Hxe.out);have HHs : Hid (∀V,NS w1 V->Calls prog 144 #[.agg #[.pointer (some ⟨b,0,none⟩),.int .i64 m,.slice a n c,.slice ap n cp],.slice ax m cx] V λe w'=>e = .returned (.bool z)/\NS V w'):=λV hV=>by rw [<- H0.out];exact uO m a n c L ap cp Pv ax cx x (hG.gf.aa hV) (hi.aa (Nh hbw1 hV)) (hp2.aa hV) (hx.aa (Nh hbw1 hV)) HOk.out Hxe.out (by omega) (by omega)
 have k0:=Nj w1 [.pointer (some ⟨b,0,none⟩),.int .i64 m,.slice a n c,.slice ap n cp] 162 rfl;have HX:=Z5 k0;clear hpl hPv hGG hG hbl hP hp1 hp2 hm' k0;go_wp2_with fail;refine HWd.out.mono ?_;rintro e w3 ⟨rfl,hb3⟩;have x3:=HX.out.aa hb3;have k0:=x3.cell 0 rfl;have k1:=x3.cell 1 rfl;have k2:=x3.cell 2 rfl;have k3:=x3.cell 3 rfl;have Hh:=Z5 (HHs.out w3 (Nh hb2 hb3));have hbw3:=Nh hbw2 hb3;clear HWd HHs x3;go_wp2_with fail;refine Hh.out.mono ?_;rintro e w4 ⟨rfl,hb4⟩;have hF:=Nh hbw3 hb4;go_wp2_with fail;go_ret2;exact ⟨rfl,hF⟩
theorem r9 (P M : Int) (am : OA) (mn cm : Nat) (mod : Lz) (N : Int) (a : OA) (n c : Nat) (L : Ll) (ax : OA) (nx cx : Nat) (x : Lz) (w : World) (hmod : Ints w am mn mod) (hi : ch w a n L) (hx : Ints w ax nx x) :
  Calls prog 74 #[.agg #[.int .i64 P,.int .i64 M,.slice am mn cm,.int .i64 N,.slice a n c],.slice ax nx cx] w λe w'=>e = .returned (.int .i64 (lU P M mod N L x))/\NS w w':=by
 go_enter func74,ntmps74;go_wp2_with fail;obtain ⟨W,hW⟩ : ∃W : World,W=w.alloc (.cells #[.int .i64 P,.int .i64 M,.slice am mn cm,.int .i64 N,.slice a n c] 27):=⟨_,rfl⟩
 rw [<- hW];have hbW : NS w W:=by rw [hW];exact aw _ _
 have x0 : aZ W w.heap.size [.int .i64 P,.int .i64 M,.slice am mn cm,.int .i64 N,.slice a n c]:=by rw [hW];exact Nj _ _ _ rfl
 clear hW;refine (fN P M am mn cm mod N a n c L W (hmod.aa hbW) (hi.aa hbW)).mono ?_;rintro e w1 ⟨rfl,hb1⟩;have hbw1:=Nh hbW hb1;have x1:=x0.aa hb1;have c0:=x1.cell 0 rfl;have c1:=x1.cell 1 rfl;have c2:=x1.cell 2 rfl;have c3:=x1.cell 3 rfl;by_cases hE : aJ P M mod N L=0;rotate_left
 ·have hE2 : (aJ P M mod N L != 0)=true:=by simpa using hE
  have HR : Hid (lU P M mod N L x=aJ P M mod N L):=I5 hE;clear hE x0 x1;generalize aJ P M mod N L=er at *;go_wp2_with fail;go_ret;exact ⟨aH HR.out.symm,hbw1⟩
 obtain ⟨m,rfl,_⟩:=dP hE;have hq : ((ah P M.toNat mod).q : Int)=aN P M:=by obtain ⟨m1,e1,_,h1,_⟩:=fU (bl hE).1;rw [show M.toNat=m1 by omega];exact h1
 have HR : Hid (lU P M mod m L x=rj (ah P M.toNat mod).q x m):=by show _=_;rw [lU,I6 hE,hq,Jd]
 have HL:=Z5 (rY P M am mn cm mod ax nx cx x m w1 (hmod.aa hbw1) (hx.aa hbw1) (bl hE).1);rw [hE];clear hE x0 x1 hq;go_wp2_with fail;refine HL.out.mono ?_;rintro e w2 ⟨rfl,hb2⟩;have hF:=Nh hbw1 hb2;go_wp2_with fail;go_ret;exact ⟨aH HR.out.symm,hF⟩
theorem BQ {P M : Int} {mod : Lz} {N : Int} {L : Ll} {x : Lz} (h : lU P M mod N L x=0) : aJ P M mod N L=0/\Vc (ah P M.toNat mod).El N.toNat x:=by
 unfold lU at h;by_cases hE : aJ P M mod N L=0
 ·rw [I6 hE] at h;have hq : ((ah P M.toNat mod).q : Int)=aN P M:=by obtain ⟨m1,e1,_,h1,_⟩:=fU (bl hE).1;rw [show M.toNat=m1 by omega];exact h1
  refine ⟨hE,?_⟩;unfold rj at h;by_cases hl : x.length=N.toNat
  ·rw [I6 hl] at h;refine ⟨hl,λy hy=>?_⟩;unfold ki at h;by_cases he : iM (aN P M) x=true
   ·unfold iM at he;have h1:=List.all_eq_true.1 he y hy;unfold jj at h1;simp at h1;exact ⟨h1.1,by have:=h1.2;omega⟩
   ·rw [I5 he] at h;exact absurd h (by decide)
  ·rw [I5 hl] at h;exact absurd h (by decide)
 ·rw [I5 hE] at h;exact absurd h hE
def vJ (P M : Int) (mod : Lz) (N : Int) (L : Ll) (x : Lz) : Bool:=if lU P M mod N L x=0 then hasB P M mod N.toNat L x else false
theorem vm (P M : Int) (am : OA) (mn cm : Nat) (mod : Lz) (N : Int) (a : OA) (n c : Nat) (L : Ll) (ax : OA) (nx cx : Nat) (x : Lz) (w : World) (hmod : Ints w am mn mod) (hi : ch w a n L) (hx : Ints w ax nx x) :
  Calls prog 35 #[.agg #[.int .i64 P,.int .i64 M,.slice am mn cm,.int .i64 N,.slice a n c],.slice ax nx cx] w λe w'=>e = .returned (.tuple #[.bool (vJ P M mod N L x),.int .i64 (lU P M mod N L x)])/\NS w w':=by
 have HSp : Hid (lU P M mod N L x=0->∀V,NS w V->Calls prog 75 #[.agg #[.int .i64 P,.int .i64 M,.slice am mn cm],.agg #[.int .i64 N,.slice a n c],.slice ax nx cx] V λe w'=>e = .returned (.tuple #[.bool (vJ P M mod N L x),.int .i64 0])/\NS V w'):=λh V hV=>by
  obtain ⟨hE,hxe⟩:=BQ h;rw [vJ,I6 h];obtain ⟨m,rfl,_⟩:=dP hE;rw [Jd] at hxe ⊢;have e1 : nx=m:=by rw [<- hx.len];exact hxe.1
  subst e1;exact su P M am mn cm mod nx a n c L ax cx x V (hmod.aa hV) (hi.aa hV) (hx.aa hV) hE hxe
 have HWd : Hid (∀V,NS w V->Calls prog 74 #[.agg #[.int .i64 P,.int .i64 M,.slice am mn cm,.int .i64 N,.slice a n c],.slice ax nx cx] V λe w'=>e = .returned (.int .i64 (lU P M mod N L x))/\NS V w'):=λV hV =>
  r9 P M am mn cm mod N a n c L ax nx cx x V (hmod.aa hV) (hi.aa hV) (hx.aa hV)
 have HN : Hid (lU P M mod N L x ≠ 0->vJ P M mod N L x=false):=λh=>by rw [vJ,I5 h]
 clear hmod hi hx;obtain ⟨er,her⟩ : ∃er,lU P M mod N L x=er:=⟨_,rfl⟩
 obtain ⟨z,hz⟩ : ∃z,vJ P M mod N L x=z:=⟨_,rfl⟩
 rw [her] at HWd HN HSp ⊢;rw [hz] at HN HSp ⊢;clear her hz;go_enter func35,ntmps35;go_wp2_with fail;obtain ⟨W,hW⟩ : ∃W : World,W=w.alloc (.cells #[.int .i64 P,.int .i64 M,.slice am mn cm,.int .i64 N,.slice a n c] 27):=⟨_,rfl⟩
 rw [<- hW];have hbW : NS w W:=by rw [hW];exact aw _ _
 have x0 : aZ W w.heap.size [.int .i64 P,.int .i64 M,.slice am mn cm,.int .i64 N,.slice a n c]:=by rw [hW];exact Nj _ _ _ rfl
 have HX:=Z5 x0;have HbW:=Z5 hbW;clear hW x0;refine (HWd.out W hbW).mono ?_;rintro e w1 ⟨rfl,hb1⟩;have hbw1:=Nh HbW.out hb1;by_cases hE : er=0;rotate_left
 ·have hE2 : (er != 0)=true:=by simpa using hE
  have HN2:=Z5 (HN.out hE);clear hE;go_wp2_with fail;go_ret2;exact ⟨by rw [HN2.out];rfl,hbw1⟩
 subst hE;have HSp2:=Z5 (HSp.out rfl);have hS : ∀V,NS w1 V->V.cell? ⟨w.heap.size,0,none⟩=some (.int .i64 P)/\V.cell? ⟨w.heap.size,1,none⟩=some (.int .i64 M)/\V.cell? ⟨w.heap.size,2,none⟩=some (.slice am mn cm)/\V.cell? ⟨w.heap.size,3,none⟩=some (.int .i64 N)/\V.cell? ⟨w.heap.size,4,none⟩=some (.slice a n c)/\NS w1 V:=λV hV=>by have x1:=HX.out.aa (Nh hb1 hV);exact ⟨x1.cell 0 rfl,x1.cell 1 rfl,x1.cell 2 rfl,x1.cell 3 rfl,x1.cell 4 rfl,hV⟩
 have HS:=Z5 hS;have Hbw1:=Z5 hbw1;clear hS HWd hbW hb1 hbw1 HSp HN;go_wp2_with fail;go_region_held3 (λV=>V.cell? ⟨w.heap.size,0,none⟩=some (.int .i64 P)/\V.cell? ⟨w.heap.size,1,none⟩=some (.int .i64 M)/\V.cell? ⟨w.heap.size,2,none⟩=some (.slice am mn cm)/\V.cell? ⟨w.heap.size,3,none⟩=some (.int .i64 N)/\V.cell? ⟨w.heap.size,4,none⟩=some (.slice a n c)/\NS w1 V)
  ((refine HS.out _ ?_;first | exact (I1 _ _).drew | (go_split_ands;exact Nh (by assumption) (by assumption))))
  (first
   | (go_at_call 73;((with_reducible refine (AH P M am mn cm N a n c _).mono ?_);rintro e w6 ⟨rfl,hb6⟩))
   | (go_at_call 75;((with_reducible refine (HSp2.out _ (Nh Hbw1.out (by go_split_ands;assumption))).mono ?_);rintro e w8 ⟨rfl,hb8⟩)))
 all_goals (
  go_wp2_with fail
  go_ret2
  exact ⟨rfl,Nh Hbw1.out (by go_split_ands;assumption)⟩)
theorem wL (P M : Int) (am : OA) (mn cm : Nat) (mod : Lz) (N : Int) (a : OA) (n c : Nat) (L : Ll) (w : World) (hmod : Ints w am mn mod) (hi : ch w a n L) :
  Calls prog 14 #[.agg #[.int .i64 P,.int .i64 M,.slice am mn cm,.int .i64 N,.slice a n c]] w λe w'=>∃ar nr cr,e = .returned (.tuple #[.slice ar nr cr,.int .i64 (df P M mod N L).2.2])/\lT w' ar nr (df P M mod N L).1/\NS w w':=by
 have HRun : Hid (∀V,NS w V->Calls prog 47 #[.agg #[.int .i64 P,.int .i64 M,.slice am mn cm,.int .i64 N,.slice a n c]] V (gq P M mod N L V)):=λV hV=>uH P M am mn cm mod N a n c L V (hmod.aa hV) (hi.aa hV);obtain ⟨R,hR⟩ : ∃R,df P M mod N L=R:=⟨_,rfl⟩
 unfold gq at HRun;rw [hR] at HRun ⊢;obtain ⟨er,her⟩ : ∃er,R.2.2=er:=⟨_,rfl⟩
 rw [her] at HRun ⊢;clear hmod hi hR her;go_enter func14,ntmps14;go_wp2_with fail;obtain ⟨U,hU⟩ : ∃U : World,U=w.alloc (.cells #[.int .i64 P,.int .i64 M,.slice am mn cm,.int .i64 N,.slice a n c] 27):=⟨_,rfl⟩
 rw [<- hU];have hbU : NS w U:=by rw [hU];exact aw _ _
 clear hU;refine (HRun.out U hbU).mono ?_;rintro e w1 ⟨hb1,ar,nr,cr,ab,nb,cb,rfl,h1,h2⟩;have hF:=Nh hbU hb1;have H1:=Z5 h1;clear h1 h2;go_wp2_with fail;go_ret2;exact ⟨ar,nr,cr,rfl,H1.out,hF⟩
theorem l5 (P M : Int) (am : OA) (mn cm : Nat) (mod : Lz) (N : Int) (a : OA) (n c : Nat) (L : Ll) (w : World) (hmod : Ints w am mn mod) (hi : ch w a n L) :
  Calls prog 17 #[.agg #[.int .i64 P,.int .i64 M,.slice am mn cm,.int .i64 N,.slice a n c]] w λe w'=>∃ar nr cr,e = .returned (.tuple #[.slice ar nr cr,.int .i64 (df P M mod N L).2.2])/\Ints w' ar nr (df P M mod N L).2.1/\NS w w':=by
 have HRun : Hid (∀V,NS w V->Calls prog 47 #[.agg #[.int .i64 P,.int .i64 M,.slice am mn cm,.int .i64 N,.slice a n c]] V (gq P M mod N L V)):=λV hV=>uH P M am mn cm mod N a n c L V (hmod.aa hV) (hi.aa hV);obtain ⟨R,hR⟩ : ∃R,df P M mod N L=R:=⟨_,rfl⟩
 unfold gq at HRun;rw [hR] at HRun ⊢;obtain ⟨er,her⟩ : ∃er,R.2.2=er:=⟨_,rfl⟩
 rw [her] at HRun ⊢;clear hmod hi hR her;go_enter func17,ntmps17;go_wp2_with fail;obtain ⟨U,hU⟩ : ∃U : World,U=w.alloc (.cells #[.int .i64 P,.int .i64 M,.slice am mn cm,.int .i64 N,.slice a n c] 27):=⟨_,rfl⟩
 rw [<- hU];have hbU : NS w U:=by rw [hU];exact aw _ _
 clear hU;refine (HRun.out U hbU).mono ?_;rintro e w1 ⟨hb1,ar,nr,cr,ab,nb,cb,rfl,h1,h2⟩;have hF:=Nh hbU hb1;have H2:=Z5 h2;clear h1 h2;go_wp2_with fail;go_ret2;exact ⟨ab,nb,cb,rfl,H2.out,hF⟩
theorem jA (P M : Int) (am : OA) (mn cm : Nat) (mod : Lz) (N : Int) (a : OA) (n c : Nat) (L : Ll) (w : World) (hmod : Ints w am mn mod) (hi : ch w a n L) :
  Calls prog 16 #[.agg #[.int .i64 P,.int .i64 M,.slice am mn cm,.int .i64 N,.slice a n c]] w λe w'=>e = .returned (.tuple #[.int .i64 (bK (df P M mod N L).2.1 : Nat),.int .i64 (df P M mod N L).2.2])/\NS w w':=by
 have HRun : Hid (∀V,NS w V->Calls prog 47 #[.agg #[.int .i64 P,.int .i64 M,.slice am mn cm,.int .i64 N,.slice a n c]] V (gq P M mod N L V)):=λV hV=>uH P M am mn cm mod N a n c L V (hmod.aa hV) (hi.aa hV);obtain ⟨R,hR⟩ : ∃R,df P M mod N L=R:=⟨_,rfl⟩
 unfold gq at HRun;rw [hR] at HRun ⊢;obtain ⟨er,her⟩ : ∃er,R.2.2=er:=⟨_,rfl⟩
 rw [her] at HRun ⊢;obtain ⟨z,hz⟩ : ∃z,bK R.2.1=z:=⟨_,rfl⟩
 rw [hz];have Hz:=Z5 hz;clear hmod hi hR her hz;go_enter func16,ntmps16;go_wp2_with fail;obtain ⟨U,hU⟩ : ∃U : World,U=w.alloc (.cells #[.int .i64 P,.int .i64 M,.slice am mn cm,.int .i64 N,.slice a n c] 27):=⟨_,rfl⟩
 rw [<- hU];have hbU : NS w U:=by rw [hU];exact aw _ _
 clear hU;refine (HRun.out U hbU).mono ?_;rintro e w1 ⟨hb1,ar,nr,cr,ab,nb,cb,rfl,h1,h2⟩;have hF:=Nh hbU hb1;have hwt:=fw ab nb cb R.2.1 w1 h2;rw [Hz.out] at hwt;have Hwt:=Z5 hwt;clear hwt;clear h1 h2;go_wp2_with fail;refine Hwt.out.mono ?_;rintro e w' ⟨rfl,hw'⟩;obtain rfl:=hw'.symm;go_wp2_with fail;go_ret2;exact ⟨rfl,hF⟩
def vD (P M : Int) (mod : Lz) (N : Int) (L : Ll) (x : Lz) (ts : Ll) : Int :=
 if aJ P M mod N L=0 then (if lU P M mod N L x=0/\vJ P M mod N L x=true/\bK x ≠ 0/\ky P M mod N L L.length (jH N (bK x)) ts=0 then 0 else 13) else aJ P M mod N L
def yu (P M : Int) (mod : Lz) (N : Int) (L : Ll) (x : Lz) (ts : Ll) : Int:=if vD P M mod N L x ts=0 then bK x else 0
theorem qu (P M : Int) (am : OA) (mn cm : Nat) (mod : Lz) (N : Int) (a : OA) (n c : Nat) (L : Ll) (ax : OA) (nx cx : Nat) (x : Lz) (at' : OA) (nt ct : Nat) (ts : Ll) (w : World)
  (hmod : Ints w am mn mod) (hi : ch w a n L) (hx : Ints w ax nx x) (hts : ch w at' nt ts) :
  Calls prog 27 #[.agg #[.int .i64 P,.int .i64 M,.slice am mn cm,.int .i64 N,.slice a n c],.agg #[.slice ax nx cx,.slice at' nt ct]] w λe w'=>e = .returned (.tuple #[.int .i64 (yu P M mod N L x ts),.int .i64 (vD P M mod N L x ts)])/\NS w w':=by
 have hn : L.length=n:=hi.len;obtain ⟨ce,hce⟩ : ∃ce,aJ P M mod N L=ce:=⟨_,rfl⟩
 obtain ⟨we,hwe⟩ : ∃we,lU P M mod N L x=we:=⟨_,rfl⟩
 obtain ⟨hv,hhv⟩ : ∃hv,vJ P M mod N L x=hv:=⟨_,rfl⟩
 obtain ⟨d,hd⟩ : ∃d,bK x=d:=⟨_,rfl⟩
 obtain ⟨ke,hke⟩ : ∃ke,ky P M mod N L L.length (jH N d) ts=ke:=⟨_,rfl⟩
 obtain ⟨me,hme⟩ : ∃me,vD P M mod N L x ts=me:=⟨_,rfl⟩
 obtain ⟨mv,hmv⟩ : ∃mv,yu P M mod N L x ts=mv:=⟨_,rfl⟩
 have HCk : Hid (∀V,NS w V->Calls prog 61 #[.agg #[.int .i64 P,.int .i64 M,.slice am mn cm,.int .i64 N,.slice a n c]] V λe w'=>e = .returned (.int .i64 ce)/\NS V w'):=λV hV=>by rw [<- hce];exact fN P M am mn cm mod N a n c L V (hmod.aa hV) (hi.aa hV)
 have HHs : Hid (∀V,NS w V->Calls prog 35 #[.agg #[.int .i64 P,.int .i64 M,.slice am mn cm,.int .i64 N,.slice a n c],.slice ax nx cx] V λe w'=>e = .returned (.tuple #[.bool hv,.int .i64 we])/\NS V w'):=λV hV=>by rw [<- hhv,<- hwe];exact vm P M am mn cm mod N a n c L ax nx cx x V (hmod.aa hV) (hi.aa hV) (hx.aa hV)
 have HWt : Hid (∀V,NS w V->Calls prog 55 #[.slice ax nx cx] V λe w'=>e = .returned (.int .i64 (d : Nat))/\w'=V):=λV hV=>by rw [<- hd];exact fw ax nx cx x V (hx.aa hV)
 have HCd : Hid (∀V,NS w V->Calls prog 62 #[.agg #[.int .i64 P,.int .i64 M,.slice am mn cm,.int .i64 N,.slice a n c],.int .i64 (d : Nat),.agg #[.slice at' nt ct]] V λe w'=>e = .returned (.int .i64 ke)/\NS V w'):=λV hV=>by rw [<- hke,hn];exact lS P M am mn cm mod N a n c L (d : Nat) at' nt ct ts V (hmod.aa hV) (hi.aa hV) (hts.aa hV)
 have HME : Hid (me=(if ce=0 then (if we=0/\hv=true/\d ≠ 0/\ke=0 then 0 else 13) else ce)):=by show _=_;rw [<- hme,vD,hce,hwe,hhv,hd,hke]
 have HMV : Hid (mv=if me=0 then (d : Int) else 0):=by show _=_;rw [<- hmv,yu,hme,hd]
 rw [hme,hmv];clear hmod hi hx hts hce hwe hhv hd hke hme hmv hn;go_enter func27,ntmps27;go_upto_region 1 with fail;obtain ⟨U,hU⟩ : ∃U : World,U=(w.alloc (.cells #[.int .i64 P,.int .i64 M,.slice am mn cm,.int .i64 N,.slice a n c] 27)).alloc (.cells #[.slice ax nx cx,.slice at' nt ct] 49):=⟨_,rfl⟩
 rw [<- hU];have hbU : NS w U:=by rw [hU];exact dA _ _ _
 have x0 : aZ U w.heap.size [.int .i64 P,.int .i64 M,.slice am mn cm,.int .i64 N,.slice a n c]:=by rw [hU];exact (Nj _ _ _ rfl).alloc _
 have y0 : aZ U (w.heap.size+1) [.slice ax nx cx,.slice at' nt ct]:=by rw [hU];exact Nj _ _ _ (by simp)
 have HS : Hid (∀V,NS U V->V.cell? ⟨w.heap.size,0,none⟩=some (.int .i64 P)/\V.cell? ⟨w.heap.size,1,none⟩=some (.int .i64 M)/\V.cell? ⟨w.heap.size,2,none⟩=some (.slice am mn cm)/\V.cell? ⟨w.heap.size,3,none⟩=some (.int .i64 N)/\V.cell? ⟨w.heap.size,4,none⟩=some (.slice a n c) /\
   V.cell? ⟨w.heap.size+1,0,none⟩=some (.slice ax nx cx)/\V.cell? ⟨w.heap.size+1,1,none⟩=some (.slice at' nt ct)):=λV hV=>by have x1:=x0.aa hV;have y1:=y0.aa hV;exact ⟨x1.cell 0 rfl,x1.cell 1 rfl,x1.cell 2 rfl,x1.cell 3 rfl,x1.cell 4 rfl,y1.cell 0 rfl,y1.cell 1 rfl⟩
 have HbU:=Z5 hbU;obtain ⟨c0,c1,c2,c3,c4,c5,c6⟩:=HS.out U (I1 _ _);clear hU hbU x0 y0;go_wp2_with fail;refine (HCk.out U HbU.out).mono ?_;rintro e w1 ⟨rfl,hb1⟩;have hF1:=Nh HbU.out hb1;by_cases h1 : ce=0;rotate_left
 ·have hE2 : (ce != 0)=true:=by simpa using h1
  have H9 : Hid (mv=0/\me=ce):=by
   have e1 : me=ce:=by rw [HME.out,I5 h1]
   exact ⟨by rw [HMV.out,e1,I5 h1],e1⟩
  clear h1;go_wp2_with fail;go_ret2;exact ⟨cR H9.out.1.symm H9.out.2.symm,hF1⟩
 subst h1;obtain ⟨d0,d1,d2,d3,d4,d5,d6⟩:=HS.out w1 hb1;clear c0 c1 c2 c3 c4 c5 c6;go_wp2_with fail;refine (HHs.out w1 hF1).mono ?_;rintro e w2 ⟨rfl,hb2⟩;have hF2:=Nh hF1 hb2;obtain ⟨c0,c1,c2,c3,c4,c5,c6⟩:=HS.out w2 (Nh hb1 hb2);clear d0 d1 d2 d3 d4 d5 d6;go_wp2_with fail;refine (HWt.out w2 hF2).mono ?_;rintro e w' ⟨rfl,hw'⟩;obtain rfl:=hw'.symm;have H13 : Hid (¬ (we=0/\hv=true/\d ≠ 0/\ke=0)->mv=0/\me=13):=λh=>by
  have e1 : me=13:=by rw [HME.out];first | rw [I6 trivial,I5 h] | rw [I6 rfl,I5 h]
  exact ⟨by rw [HMV.out,e1,I5 (by decide)],e1⟩
 by_cases h2 : we=0;rotate_left
 ·have hE2 : (we != 0)=true:=by simpa using h2
  have H9:=Z5 (H13.out λh=>h2 h.1);clear h2;go_wp2_with fail;go_ret2;exact ⟨cR H9.out.1.symm H9.out.2.symm,hF2⟩
 subst h2;cases hv
 ·have H9:=Z5 (H13.out λh=>by cases h.2.1);go_wp2_with fail;go_ret2;exact ⟨cR H9.out.1.symm H9.out.2.symm,hF2⟩
 by_cases h3 : d=0
 ·have H9:=Z5 (H13.out λh=>h.2.2.1 h3);have e3 : ((d : Int) == 0)=true:=by simp;omega
  clear h3;go_wp2_with fail;go_ret2;exact ⟨cR H9.out.1.symm H9.out.2.symm,hF2⟩
 have e3 : ((d : Int) == 0)=false:=by simp;omega
 go_wp2_with fail;refine (HCd.out _ hF2).mono ?_;rintro e w4 ⟨rfl,hb4⟩;have hF4:=Nh hF2 hb4;by_cases h4 : ke=0
 ·subst h4;have H9 : Hid (mv=(d : Int)/\me=0):=by
   have e1 : me=0:=by rw [HME.out];simp [h3]
   exact ⟨by rw [HMV.out,e1];rfl,e1⟩
  clear h3;go_wp2_with fail;go_ret2;exact ⟨cR H9.out.1.symm H9.out.2.symm,hF4⟩
 ·have H9:=Z5 (H13.out λh=>h4 h.2.2.2);have e4 : (ke != 0)=true:=by simpa using h4
  clear h3 h4;go_wp2_with fail;go_ret2;exact ⟨cR H9.out.1.symm H9.out.2.symm,hF4⟩
def mh (P M : Int) (mod : Lz) (N : Int) (L : Ll) : Lz × Ll × Int :=
 if (df P M mod N L).2.2=0 then
  (if (dI P M mod N L L.length (jH N (bK (df P M mod N L).2.1 : Nat))).1=0 then ((df P M mod N L).2.1,(dI P M mod N L L.length (jH N (bK (df P M mod N L).2.1 : Nat))).2,0) else ([],[],(dI P M mod N L L.length (jH N (bK (df P M mod N L).2.1 : Nat))).1))
 else ([],[],(df P M mod N L).2.2)
def jQ (V : Lz × Ll × Int) (w : World) (e : Ending) (w' : World) : Prop :=
 NS w w'/\∃ax nx cx at' nt ct,e = .returned (.tuple #[.agg #[.slice ax nx cx,.slice at' nt ct],.int .i64 V.2.2])/\Ints w' ax nx V.1/\ch w' at' nt V.2.1
theorem pS {V : Lz × Ll × Int} {w w' : World} {er : Int} (h : V=([],[],er)) (hb : NS w w') : jQ V w (.returned (.tuple #[.agg #[.slice none 0 0,.slice none 0 0],.int .i64 er])) w':=by subst h;exact ⟨hb,none,0,0,none,0,0,rfl,Nr _ _,⟨rfl,λh=>by omega,by unfold maxLen;omega,λi h=>by omega⟩⟩
theorem pU {X : World} {g : Nat} {t : TypeId} (hg : X.heap[g]? = some (.cells #[.slice none 0 0,.slice none 0 0] t)) {a : OA} {n : Nat} {l : Lz} (h : Ints X a n l) : 0<n->aj a ≠ g:=λhn e=>by
 have h1:=h.cell 0 hn;rw [e] at h1;obtain ⟨k,hk⟩ : ∃k,aL a+0=k:=⟨_,rfl⟩
 rw [hk] at h1;simp only [World.cell?,hg] at h1;match k with
 | 0=>simp at h1
 | 1=>simp at h1
 | k+2=>simp at h1
theorem nT (P M : Int) (am : OA) (mn cm : Nat) (mod : Lz) (N : Int) (a : OA) (n c : Nat) (L : Ll) (w : World) (hmod : Ints w am mn mod) (hi : ch w a n L) :
  Calls prog 24 #[.agg #[.int .i64 P,.int .i64 M,.slice am mn cm,.int .i64 N,.slice a n c]] w (jQ (mh P M mod N L) w):=by
 have hn : L.length=n:=hi.len;obtain ⟨V,hV⟩ : ∃V,mh P M mod N L=V:=⟨_,rfl⟩
 rw [hV];unfold mh at hV;obtain ⟨R,hR⟩ : ∃R,df P M mod N L=R:=⟨_,rfl⟩
 rw [hR,hn] at hV;obtain ⟨er,her⟩ : ∃er,R.2.2=er:=⟨_,rfl⟩
 obtain ⟨b,hb⟩ : ∃b,R.2.1=b:=⟨_,rfl⟩
 obtain ⟨d,hd⟩ : ∃d,bK b=d:=⟨_,rfl⟩
 obtain ⟨BD,hBD⟩ : ∃BD,dI P M mod N L n (jH N (d : Nat))=BD:=⟨_,rfl⟩
 obtain ⟨be,hbe⟩ : ∃be,BD.1=be:=⟨_,rfl⟩
 obtain ⟨bt,hbt⟩ : ∃bt,BD.2=bt:=⟨_,rfl⟩
 rw [her,hb,hd,hBD,hbe,hbt] at hV;have HLi : Hid (∀V,NS w V->Calls prog 17 #[.agg #[.int .i64 P,.int .i64 M,.slice am mn cm,.int .i64 N,.slice a n c]] V λe w'=>∃ar nr cr,e = .returned (.tuple #[.slice ar nr cr,.int .i64 er])/\Ints w' ar nr b/\NS V w'):=λV hV=>by have h:=l5 P M am mn cm mod N a n c L V (hmod.aa hV) (hi.aa hV);rw [hR,her,hb] at h;exact h
 have HBd : Hid (∀V,NS w V->Calls prog 59 #[.agg #[.int .i64 P,.int .i64 M,.slice am mn cm,.int .i64 N,.slice a n c],.int .i64 (d : Nat)] V λe w'=>∃av nv cv,e = .returned (.tuple #[.agg #[.slice av nv cv],.int .i64 be])/\(be=0->cH V.heap.size w' av nv bt)/\NS V w'):=λV hV=>by
  have h:=lN P M am mn cm mod N a n c L (d : Nat) V (hmod.aa hV) (hi.aa hV);rw [hBD] at h;refine h.mono ?_;rintro e w' ⟨hb1,⟨h2,rfl⟩ | ⟨h2,ar,cr,R,rfl,hO⟩⟩
  ·exact ⟨none,0,0,by rw [hbe],λh=>absurd (hbe.trans h) h2,hb1⟩
  ·exact ⟨ar,_,cr,by rw [<- hbe,h2],λ_=>by rw [<- hbt];exact hO.F0,hb1⟩
 have HV:=Z5 hV;have Hd:=Z5 hd;clear hV hR her hb hd hBD hbe hbt hmod hi hn;go_enter func24,ntmps24;go_wp2_with fail;obtain ⟨U,hU⟩ : ∃U : World,U=(w.alloc (.cells #[.int .i64 P,.int .i64 M,.slice am mn cm,.int .i64 N,.slice a n c] 27)).alloc (.cells #[.slice none 0 0,.slice none 0 0] 49):=⟨_,rfl⟩
 rw [<- hU];have hbU : NS w U:=by rw [hU];exact dA _ _ _
 have x0 : aZ U w.heap.size [.int .i64 P,.int .i64 M,.slice am mn cm,.int .i64 N,.slice a n c]:=by rw [hU];exact (Nj _ _ _ rfl).alloc _
 have z0 : aZ U (w.heap.size+1) [.slice none 0 0,.slice none 0 0]:=by rw [hU];exact Nj _ _ _ (by simp)
 have HS : Hid (∀V,NS U V->V.cell? ⟨w.heap.size,0,none⟩=some (.int .i64 P)/\V.cell? ⟨w.heap.size,1,none⟩=some (.int .i64 M)/\V.cell? ⟨w.heap.size,2,none⟩=some (.slice am mn cm)/\V.cell? ⟨w.heap.size,3,none⟩=some (.int .i64 N)/\V.cell? ⟨w.heap.size,4,none⟩=some (.slice a n c) /\
   V.cell? ⟨w.heap.size+1,0,none⟩=some (.slice none 0 0)/\V.cell? ⟨w.heap.size+1,1,none⟩=some (.slice none 0 0)/\V.frozen? ⟨w.heap.size+1,0,none⟩=false/\V.frozen? ⟨w.heap.size+1,1,none⟩=false):=λV hV=>by have x1:=x0.aa hV;have z1:=z0.aa hV;exact ⟨x1.cell 0 rfl,x1.cell 1 rfl,x1.cell 2 rfl,x1.cell 3 rfl,x1.cell 4 rfl,z1.cell 0 rfl,z1.cell 1 rfl,z1.frozen 0,z1.frozen 1⟩
 have HSet : Hid (∀V u v,NS U V->NS w ((V.setCell ⟨w.heap.size+1,0,none⟩ u).setCell ⟨w.heap.size+1,1,none⟩ v)):=λV u v hV =>
  ((Nh hbU hV).setCell (p:=⟨w.heap.size+1,0,none⟩) (by simp) _).setCell (p:=⟨w.heap.size+1,1,none⟩) (by simp) _
 have hz1:=z0.1;have HBlk : Hid (∀X,NS U X->X.heap[w.heap.size+1]? = some (.cells #[.slice none 0 0,.slice none 0 0] 49)):=λX hX=>by
  rw [hX.block _ hz1,hU];obtain ⟨A',hA⟩ : ∃A' : World,w.alloc (.cells #[.int .i64 P,.int .i64 M,.slice am mn cm,.int .i64 N,.slice a n c] 27)=A':=⟨_,rfl⟩
  have hs : A'.heap.size=w.heap.size+1:=by rw [<- hA];simp
  rw [hA,<- hs];exact Ma
 have HbU:=Z5 hbU;clear hU hbU x0 z0;refine (HLi.out U HbU.out).mono ?_;rintro e w1 ⟨ax,nx,cx,rfl,hIx,hb1⟩;have HIx:=Z5 hIx;clear hIx;by_cases h1 : er=0;rotate_left
 ·have HR : Hid (V=([],[],er)):=by show _=_;rw [<- HV.out,I5 h1]
  obtain ⟨_,_,_,_,_,z3,z4,f3,f4⟩:=HS.out w1 hb1;have HF:=Z5 (pS HR.out (HSet.out w1 (.slice none 0 0) (.slice none 0 0) hb1));have hE' : (er != 0)=true:=by simpa using h1
  clear h1;go_wp2_with fail;exact bodyPost_ret (v:=.tuple #[.agg #[.slice none 0 0,.slice none 0 0],.int .i64 er]) (by simp [results,results24,go_sem,z3,z4]) rfl HF.out
 subst h1;have hF1:=Nh HbU.out hb1;obtain ⟨c0,c1,c2,c3,c4,z3,z4,f3,f4⟩:=HS.out w1 hb1;have HWt : Hid (∀X,NS w1 X->Calls prog 55 #[.slice ax nx cx] X λe w'=>e = .returned (.int .i64 (d : Nat))/\w'=X):=λX hX=>by rw [<- Hd.out];exact fw ax nx cx b X (HIx.out.aa hX)
 go_upto_region 4 with fail;go_cut [5,6] (λev pv wx=>∃q av nv cv,ev = .int .i64 be/\pv = .pointer (some ⟨q,0,none⟩)/\wx.cell? ⟨q,0,none⟩=some (.slice av nv cv)/\(be=0->cH w1.heap.size wx av nv bt)/\NS w1 wx);case first =>
  have ha1:=aw w1 (.cells #[.slice none 0 0] 47)
  obtain ⟨g0,g1,g2,g3,g4,y3,y4,j3,j4⟩:=HS.out _ (Nh hb1 ha1)
  have xq:=Nj w1 [.slice none 0 0] 47 rfl
  have HXq:=Z5 xq
  clear xq
  go_region_law ((first
   | (go_simp;go_at_call 55;((with_reducible refine (HWt.out _ (by first | exact (I1 _ _).drew | exact I1 _ _ | exact ha1.drew | exact ha1)).mono ?_);rintro e w3 ⟨rfl,hw3⟩;obtain rfl:=hw3.symm))
   | (go_simp;go_at_call 59;((with_reducible refine (HBd.out _ (by first | exact hF1.drew | exact hF1 | exact (Nh hF1 ha1).drew | exact Nh hF1 ha1)).mono ?_);rintro e w5 ⟨av,nv,cv,rfl,hMv,hb5⟩;have HMv:=Z5 hMv;clear hMv;have hb15 : NS w1 w5:=(by first | exact Nh (I1 _ _).drew hb5 | exact Nh ha1.drew hb5 | exact hb5);(try (have xq5:=HXq.out.aa (show Below _ _ w5 from (by first | exact Nh (I1 _ _).drew hb5 | exact hb5));have q5:=xq5.cell 0 rfl;have qf5:=xq5.frozen 0))))))
  all_goals (
   (try simp only [KW,KO,KP,Act.put,I0,I3,I4])
   go_wp2_with fail
   go_meet
   first
    | exact ⟨w5.heap.size,av,nv,cv,rfl,rfl,bk w5 _ _,λh=>((HMv.out h).mono (by first | exact IZ _ | simp)).aa (aw _ _),Nh hb15 (aw _ _)⟩
    | exact ⟨w1.heap.size,av,nv,cv,rfl,rfl,Jk _ _ _ q5,λh=>((HMv.out h).setCell (p:=⟨w1.heap.size,0,none⟩) (by simp) _).mono (by first | exact IZ _ | simp),hb15.setCell (p:=⟨w1.heap.size,0,none⟩) (IZ _) _⟩)
 obtain ⟨q,av,nv,cv,rfl,rfl,hq,hM,hb2⟩:=hcut;generalize wc=X at *;have hbX:=Nh hb1 hb2;obtain ⟨d0,d1,d2,d3,d4,z5,z6,f5,f6⟩:=HS.out X hbX;clear c0 c1 c2 c3 c4 z3 z4 f3 f4;by_cases h2 : be=0;rotate_left
 ·have HR : Hid (V=([],[],be)):=by show _=_;rw [<- HV.out,I6 (by first | trivial | rfl),I5 h2]
  have HF:=Z5 (pS HR.out (HSet.out X (.slice none 0 0) (.slice none 0 0) hbX));have hE' : (be != 0)=true:=by simpa using h2
  clear h2 hM;go_wp2_with fail;exact bodyPost_ret (v:=.tuple #[.agg #[.slice none 0 0,.slice none 0 0],.int .i64 be]) (by simp [results,results24,go_sem,z5,z6]) rfl HF.out
 subst h2;have HR : Hid (V=(b,bt,0)):=by show _=_;rw [<- HV.out,I6 (by first | trivial | rfl),I6 (by first | trivial | rfl)]
 have hM2:=hM (by first | trivial | rfl);have hIX:=HIx.out.aa hb2;have HF : Hid (jQ V w (.returned (.tuple #[.agg #[.slice ax nx cx,.slice av nv cv],.int .i64 0])) ((X.setCell ⟨w.heap.size+1,0,none⟩ (.slice ax nx cx)).setCell ⟨w.heap.size+1,1,none⟩ (.slice av nv cv))):=by
  refine ⟨HSet.out X _ _ hbX,ax,nx,cx,av,nv,cv,by rw [HR.out],?_,?_⟩
  ·rw [HR.out];exact (hIX.bQ (NF X (w.heap.size+1) 0 _) (λhn e=>pU (HBlk.out X hbX) hIX hn e)).bQ (NF _ (w.heap.size+1) 1 _) (λhn e=>pU (HBlk.out X hbX) hIX hn e)
  ·rw [HR.out];have hs1:=hb1.size;exact ((hM2.setCell (p:=⟨w.heap.size+1,0,none⟩) (by show w.heap.size+1<w1.heap.size;omega) _).setCell (p:=⟨w.heap.size+1,1,none⟩) (by show w.heap.size+1<w1.heap.size;omega) _).l7
 clear hM hM2 hIX;go_wp2_with fail;exact bodyPost_ret (v:=.tuple #[.agg #[.slice ax nx cx,.slice av nv cv],.int .i64 0]) (by simp [results,results24,go_sem,z5,z6]) rfl HF.out
def Al (O : aS) (L : Ll) (m : Nat) : Nat->Lz->List (Lz × Int)->List (Lz × Int)
 | 0,_,T=>T
 | f+1,U,T=>if dn U (cG O L m U) (cG O L m U).length=0 then T else Al O L m f (U ++ lX (cG O L m U)) (T ++ [(lX (cG O L m U),dn U (cG O L m U) (cG O L m U).length)])
theorem oe (O : aS) (L : Ll) (m : Nat) : ∀f U T,ga O L m f U T=Al O L m f U T
 | 0,_,_=>rfl
 | f+1,U,T=>by rw [ga,Al,kO,oe O L m f]
def mg : Ll:=[[1,0,0,0,1,1,0],[0,1,0,0,1,0,1],[0,0,1,0,0,1,1],[0,0,0,1,1,1,1]]
theorem Ff : eo (ah 2 (1 : Int).toNat []).ops mg (7 : Int).toNat=[([0,1,2,3],4),([0,4,5,6],3)]:=by rw [eo,oe];decide +kernel
theorem y7 : df 2 1 [] 7 mg=([[1,8,3,3],[2,20,3,5]],[0,0,1,0,0,1,1],0):=by unfold df gF;rw [Ff];decide +kernel
theorem GN : df 2 1 [] 2 []=([],[],11):=by unfold df;rw [I5 (by decide +kernel)];rfl
theorem E6 : eo (ah 2 (1 : Int).toNat []).ops [[1,1]] (2 : Int).toNat=[([0],1),([1],1)]:=by rw [eo,oe];decide +kernel
theorem GP : df 2 1 [] 2 [[1,1]]=([[1,2,2,4]],[1,1],0):=by unfold df gF;rw [E6];decide +kernel
theorem GM : dB 2 1 [] 2 [[1,1]] 1 1=0:=by decide +kernel
theorem GY : dI 2 1 [] 2 [[1,1]] 1 1=(0,[[0],[1]]):=by rw [dI,I6 GM,Ip];decide +kernel
theorem GV : mh 2 1 [] 2 [[1,1]]=([1,1],[[0],[1]],0):=by unfold mh;rw [GP];have h : dI 2 1 [] 2 [[1,1]] (([[1,1]] : Ll).length : Int) (jH 2 ((bK [1,1] : Nat) : Int))=(0,[[0],[1]]):=GY;show (if (0 : Int)=0 then _ else _)=_;rw [I6 rfl];simp only [h,if_true]
theorem Dm : vD 2 1 [] 2 [[1,1]] [1,1] [[0],[1]]=0:=by decide +kernel
theorem GD : yu 2 1 [] 2 [[1,1]] [1,1] [[0],[1]]=2:=by unfold yu;rw [Dm];rfl
theorem H8 (V : World) {p q r s : Addr} {n1 n2 n3 n4 c1 c2 c3 c4 : Nat} {l1 l2 l3 l4 : Lz} (h1 : Ints V (some p) n1 l1) (h2 : Ints V (some q) n2 l2) (h3 : Ints V (some r) n3 l3) (h4 : Ints V (some s) n4 l4) {g : Nat} (hg : g=V.heap.size) :
  ch (V.alloc (.cells #[.slice (some p) n1 c1,.slice (some q) n2 c2,.slice (some r) n3 c3,.slice (some s) n4 c4] 22)) (some ⟨g,0,none⟩) 4 [l1,l2,l3,l4] :=
 ⟨rfl,λ_=>rfl,by unfold maxLen;omega,λk hk=>by
  have h:=aG V #[.slice (some p) n1 c1,.slice (some q) n2 c2,.slice (some r) n3 c3,.slice (some s) n4 c4] 22 hg k;match k,hk with
  | 0,_=>exact ⟨some p,n1,c1,h,h1.aa (aw _ _)⟩
  | 1,_=>exact ⟨some q,n2,c2,h,h2.aa (aw _ _)⟩
  | 2,_=>exact ⟨some r,n3,c3,h,h3.aa (aw _ _)⟩
  | 3,_=>exact ⟨some s,n4,c4,h,h4.aa (aw _ _)⟩⟩
theorem Iq (V : World) (x0 x1 x2 x3 y0 y1 y2 y3 : Int) {g : Nat} (hg : g=V.heap.size) : lT (V.alloc (.cells #[.int .i64 x0,.int .i64 x1,.int .i64 x2,.int .i64 x3,.int .i64 y0,.int .i64 y1,.int .i64 y2,.int .i64 y3] 62)) (some ⟨g,0,none⟩) 2 [[x0,x1,x2,x3],[y0,y1,y2,y3]] :=
 ⟨rfl,λ_=>rfl,by unfold maxLen;omega,λi hi j hj=>by
  have h:=aG V #[.int .i64 x0,.int .i64 x1,.int .i64 x2,.int .i64 x3,.int .i64 y0,.int .i64 y1,.int .i64 y2,.int .i64 y3] 62 hg (i * 4+j);match i,hi,j,hj with
  | 0,_,0,_=>exact h
  | 0,_,1,_=>exact h
  | 0,_,2,_=>exact h
  | 0,_,3,_=>exact h
  | 1,_,0,_=>exact h
  | 1,_,1,_=>exact h
  | 1,_,2,_=>exact h
  | 1,_,3,_=>exact h⟩
theorem II (V : World) (x1 x2 : Int) : ch (((V.alloc (.cells #[.int .i64 x1] 3)).alloc (.cells #[.int .i64 x2] 3)).alloc
  (.cells #[.slice (some ⟨V.heap.size,0,none⟩) 1 1,.slice (some ⟨V.heap.size+1,0,none⟩) 1 1] 22)) (some ⟨V.heap.size+1+1,0,none⟩) 2 [[x1],[x2]]:=by have i1:=lits V [x1] #[.int .i64 x1] rfl (by simp) rfl;have i2:=lits (V.alloc (.cells #[.int .i64 x1] 3)) [x2] #[.int .i64 x2] rfl (by simp) (g:=V.heap.size+1) (by simp);exact HU _ (i1.aa (aw _ _)) i2 (by simp)
theorem wk {V : World} {gm : Nat} (hM : ch V (some ⟨gm,0,none⟩) 4 mg) : Calls prog 14 #[.agg #[.int .i64 2,.int .i64 1,.slice none 0 0,.int .i64 7,.slice (some ⟨gm,0,none⟩) 4 4]] V
  λe w'=>∃a c,e = .returned (.tuple #[.slice a 2 c,.int .i64 0])/\lT w' a 2 [[1,8,3,3],[2,20,3,5]]/\NS V w':=by refine (wL 2 1 none 0 0 [] 7 (some ⟨gm,0,none⟩) 4 4 mg V (Nr _ _) hM).mono ?_;rintro e w' ⟨a,n,c,rfl,h,b⟩;rw [y7] at h ⊢;obtain rfl : n=2:=h.len.symm;exact ⟨a,c,rfl,h,b⟩
theorem sH {V : World} {gm : Nat} (hM : ch V (some ⟨gm,0,none⟩) 4 mg) : Calls prog 16 #[.agg #[.int .i64 2,.int .i64 1,.slice none 0 0,.int .i64 7,.slice (some ⟨gm,0,none⟩) 4 4]] V
  λe w'=>e = .returned (.tuple #[.int .i64 3,.int .i64 0])/\NS V w':=by refine (jA 2 1 none 0 0 [] 7 (some ⟨gm,0,none⟩) 4 4 mg V (Nr _ _) hM).mono ?_;rintro e w' ⟨rfl,b⟩;rw [y7];exact ⟨rfl,b⟩
theorem se {V : World} {gm : Nat} (hM : ch V (some ⟨gm,0,none⟩) 4 mg) : Calls prog 17 #[.agg #[.int .i64 2,.int .i64 1,.slice none 0 0,.int .i64 7,.slice (some ⟨gm,0,none⟩) 4 4]] V
  λe w'=>∃a c,e = .returned (.tuple #[.slice a 7 c,.int .i64 0])/\Ints w' a 7 [0,0,1,0,0,1,1]/\NS V w':=by refine (l5 2 1 none 0 0 [] 7 (some ⟨gm,0,none⟩) 4 4 mg V (Nr _ _) hM).mono ?_;rintro e w' ⟨a,n,c,rfl,h,b⟩;rw [y7] at h ⊢;obtain rfl : n=7:=h.len.symm;exact ⟨a,c,rfl,h,b⟩
theorem Bn {V : World} : Calls prog 16 #[.agg #[.int .i64 2,.int .i64 1,.slice none 0 0,.int .i64 2,.slice none 0 0]] V
  λe w'=>e = .returned (.tuple #[.int .i64 0,.int .i64 11])/\NS V w':=by refine (jA 2 1 none 0 0 [] 2 none 0 0 [] V (Nr _ _) ⟨rfl,λh=>by omega,by unfold maxLen;omega,λi h=>by omega⟩).mono ?_;rintro e w' ⟨rfl,b⟩;rw [GN];exact ⟨rfl,b⟩
theorem vo {V : World} {gm : Nat} (hM : ch V (some ⟨gm,0,none⟩) 1 [[1,1]]) : Calls prog 24 #[.agg #[.int .i64 2,.int .i64 1,.slice none 0 0,.int .i64 2,.slice (some ⟨gm,0,none⟩) 1 1]] V
  λe w'=>∃ax cx at' ct,e = .returned (.tuple #[.agg #[.slice ax 2 cx,.slice at' 2 ct],.int .i64 0])/\Ints w' ax 2 [1,1]/\ch w' at' 2 [[0],[1]]/\NS V w':=by refine (nT 2 1 none 0 0 [] 2 (some ⟨gm,0,none⟩) 1 1 [[1,1]] V (Nr _ _) hM).mono ?_;rintro e w' ⟨b,ax,nx,cx,at',nt,ct,rfl,h1,h2⟩;rw [GV] at h1 h2 ⊢;obtain rfl : nx=2:=h1.len.symm;obtain rfl : nt=2:=h2.len.symm;exact ⟨ax,cx,at',ct,rfl,h1,h2,b⟩
theorem Ah {V : World} {gm : Nat} {ax at' : OA} {cx ct : Nat} (hM : ch V (some ⟨gm,0,none⟩) 1 [[1,1]]) (h1 : Ints V ax 2 [1,1]) (h2 : ch V at' 2 [[0],[1]]) : Calls prog 27 #[.agg #[.int .i64 2,.int .i64 1,.slice none 0 0,.int .i64 2,.slice (some ⟨gm,0,none⟩) 1 1],.agg #[.slice ax 2 cx,.slice at' 2 ct]] V
  λe w'=>e = .returned (.tuple #[.int .i64 2,.int .i64 0])/\NS V w':=by refine (qu 2 1 none 0 0 [] 2 (some ⟨gm,0,none⟩) 1 1 [[1,1]] ax 2 cx [1,1] at' 2 ct [[0],[1]] V (Nr _ _) hM h1 h2).mono ?_;rintro e w' ⟨rfl,b⟩;rw [GD,Dm];exact ⟨rfl,b⟩
theorem oO (w : World) : Calls prog 12 #[] w λe w'=>e = .returned (.bool true)/\NS w w':=by
 go_enter func12,ntmps12;go_upto_region 1 with fail;go_cut [1] (λv wx=>∃g gm,v = .pointer (some ⟨g,0,none⟩)/\aZ wx g [.int .i64 2,.int .i64 1,.slice none 0 0,.int .i64 7,.slice (some ⟨gm,0,none⟩) 4 4]/\ch wx (some ⟨gm,0,none⟩) 4 mg/\NS w wx);case first =>
  go_wp2_with fail
  go_meet
  have i1:=lits w [1,0,0,0,1,1,0] #[.int .i64 1,.int .i64 0,.int .i64 0,.int .i64 0,.int .i64 1,.int .i64 1,.int .i64 0] rfl (by decide) rfl
  have i2:=lits (w.alloc (.cells #[.int .i64 1,.int .i64 0,.int .i64 0,.int .i64 0,.int .i64 1,.int .i64 1,.int .i64 0] 3)) [0,1,0,0,1,0,1] #[.int .i64 0,.int .i64 1,.int .i64 0,.int .i64 0,.int .i64 1,.int .i64 0,.int .i64 1] rfl (by decide) (g:=w.heap.size+1) (by simp)
  generalize h2 : (w.alloc (.cells #[.int .i64 1,.int .i64 0,.int .i64 0,.int .i64 0,.int .i64 1,.int .i64 1,.int .i64 0] 3)).alloc (.cells #[.int .i64 0,.int .i64 1,.int .i64 0,.int .i64 0,.int .i64 1,.int .i64 0,.int .i64 1] 3)=W2 at i2 ⊢
  have s2 : W2.heap.size=w.heap.size+1+1:=by rw [<- h2];simp
  have i1' : Ints W2 (some ⟨w.heap.size,0,none⟩) 7 [1,0,0,0,1,1,0]:=by rw [<- h2];exact i1.aa (aw _ _)
  have b2 : NS w W2:=by rw [<- h2];exact dA _ _ _
  have i3:=lits W2 [0,0,1,0,0,1,1] #[.int .i64 0,.int .i64 0,.int .i64 1,.int .i64 0,.int .i64 0,.int .i64 1,.int .i64 1] rfl (by decide) (g:=w.heap.size+1+1) s2.symm
  have i4:=lits (W2.alloc (.cells #[.int .i64 0,.int .i64 0,.int .i64 1,.int .i64 0,.int .i64 0,.int .i64 1,.int .i64 1] 3)) [0,0,0,1,1,1,1] #[.int .i64 0,.int .i64 0,.int .i64 0,.int .i64 1,.int .i64 1,.int .i64 1,.int .i64 1] rfl (by decide) (g:=w.heap.size+1+1+1) (by simp [s2])
  have k2:=dA W2 (.cells #[.int .i64 0,.int .i64 0,.int .i64 1,.int .i64 0,.int .i64 0,.int .i64 1,.int .i64 1] 3) (.cells #[.int .i64 0,.int .i64 0,.int .i64 0,.int .i64 1,.int .i64 1,.int .i64 1,.int .i64 1] 3)
  have hm:=H8 (c1:=7) (c2:=7) (c3:=7) (c4:=7) _ (i1'.aa k2) (i2.aa k2) (i3.aa (aw _ (.cells #[.int .i64 0,.int .i64 0,.int .i64 0,.int .i64 1,.int .i64 1,.int .i64 1,.int .i64 1] 3))) i4 (g:=w.heap.size+1+1+1+1) (by simp [s2])
  have hm2:=hm.aa (aw _ (.cells #[.int .i64 2,.int .i64 1,.slice none 0 0,.int .i64 7,.slice (some ⟨w.heap.size+1+1+1+1,0,none⟩) 4 4] 27))
  exact ⟨_,w.heap.size+1+1+1+1,rfl,Nj _ [.int .i64 2,.int .i64 1,.slice none 0 0,.int .i64 7,.slice (some ⟨w.heap.size+1+1+1+1,0,none⟩) 4 4] _ (by simp [s2]),hm2,Nh b2 (Nh k2 (dA _ _ _))⟩
 obtain ⟨g,gm,rfl,hx,hM,hbW⟩:=hcut;generalize wc=W at *;have HS : Hid (∀V,NS W V->V.cell? ⟨g,0,none⟩=some (.int .i64 2)/\V.cell? ⟨g,1,none⟩=some (.int .i64 1)/\V.cell? ⟨g,2,none⟩=some (.slice none 0 0)/\V.cell? ⟨g,3,none⟩=some (.int .i64 7)/\V.cell? ⟨g,4,none⟩=some (.slice (some ⟨gm,0,none⟩) 4 4)):=λV hV=>by have h:=hx.aa hV;exact ⟨h.cell 0 rfl,h.cell 1 rfl,h.cell 2 rfl,h.cell 3 rfl,h.cell 4 rfl⟩
 have HM : Hid (∀V,NS W V->ch V (some ⟨gm,0,none⟩) 4 mg):=λV hV=>hM.aa hV;have HW:=Z5 hbW;clear hx hM hbW;have e0:=I1 W.heap.size W;obtain ⟨c0,c1,c2,c3,c4⟩:=HS.out _ e0;have Hc:=Z5 (wk (HM.out _ e0));go_wp2_with fail;refine Hc.out.mono ?_;rintro e V1 ⟨a1,k1,rfl,hO1,b1⟩;have e1:=Nh e0 b1;have HO1:=Z5 hO1;clear c0 c1 c2 c3 c4 Hc hO1;obtain ⟨c0,c1,c2,c3,c4⟩:=HS.out _ e1;have Hc:=Z5 (sH (HM.out _ e1));go_wp2_with fail;refine Hc.out.mono ?_;rintro e V2 ⟨rfl,b2⟩;have e2:=Nh e1 b2;clear c0 c1 c2 c3 c4 Hc;obtain ⟨c0,c1,c2,c3,c4⟩:=HS.out _ e2;have Hc:=Z5 (se (HM.out _ e2));go_wp2_with fail;refine Hc.out.mono ?_;rintro e V3 ⟨a3,k3,rfl,hO3,b3⟩;have e3:=Nh e2 b3;have HO3:=Z5 hO3;clear c0 c1 c2 c3 c4 Hc hO3;obtain ⟨c0,c1,c2,c3,c4⟩:=HS.out _ e3;have Hc:=Z5 (Bn (V:=V3));go_wp2_with fail;refine Hc.out.mono ?_;rintro e V4 ⟨rfl,b4⟩;have e4:=Nh e3 b4;clear c0 c1 c2 c3 c4 Hc;obtain ⟨c0,c1,c2,c3,c4⟩:=HS.out _ e4;go_upto_region 6 with fail;go_cut [10] (λv wx=>∃p gp,v = .pointer (some ⟨p,0,none⟩)/\aZ wx p [.int .i64 2,.int .i64 1,.slice none 0 0,.int .i64 2,.slice (some ⟨gp,0,none⟩) 1 1]/\ch wx (some ⟨gp,0,none⟩) 1 [[1,1]]/\NS V4 wx);case first =>
  go_wp2_with fail
  go_meet
  have hm:=Iy V4 1 1
  have hm2:=hm.aa (aw _ (.cells #[.int .i64 2,.int .i64 1,.slice none 0 0,.int .i64 2,.slice (some ⟨V4.heap.size+1,0,none⟩) 1 1] 27))
  exact ⟨_,V4.heap.size+1,rfl,Nj _ [.int .i64 2,.int .i64 1,.slice none 0 0,.int .i64 2,.slice (some ⟨V4.heap.size+1,0,none⟩) 1 1] _ (by simp),hm2,nY _ _ _ _⟩
 obtain ⟨p,gp,rfl,hxp,hMp,b5⟩:=hcut;generalize wc=V5 at *;have e5:=Nh e4 b5;have HP : Hid (∀V,NS V5 V->V.cell? ⟨p,0,none⟩=some (.int .i64 2)/\V.cell? ⟨p,1,none⟩=some (.int .i64 1)/\V.cell? ⟨p,2,none⟩=some (.slice none 0 0)/\V.cell? ⟨p,3,none⟩=some (.int .i64 2)/\V.cell? ⟨p,4,none⟩=some (.slice (some ⟨gp,0,none⟩) 1 1)):=λV hV=>by have h:=hxp.aa hV;exact ⟨h.cell 0 rfl,h.cell 1 rfl,h.cell 2 rfl,h.cell 3 rfl,h.cell 4 rfl⟩
 have HMp : Hid (∀V,NS V5 V->ch V (some ⟨gp,0,none⟩) 1 [[1,1]]):=λV hV=>hMp.aa hV;clear hxp hMp c0 c1 c2 c3 c4;have r0:=I1 V5.heap.size V5;obtain ⟨c0,c1,c2,c3,c4⟩:=HP.out _ r0;have Hc:=Z5 (vo (HMp.out _ r0));go_wp2_with fail;refine Hc.out.mono ?_;rintro e V6' ⟨ax,cx,at',ct,rfl,hA6,hT6,b6⟩;clear c0 c1 c2 c3 c4 Hc;have n6:=aw V6' (.cells #[.slice ax 2 cx,.slice at' 2 ct] 49);have r6:=Nh b6 n6;have HO6:=Z5 (λV hV=>⟨((Nj V6' [.slice ax 2 cx,.slice at' 2 ct] 49 rfl).aa hV).cell 0 rfl,((Nj V6' [.slice ax 2 cx,.slice at' 2 ct] 49 rfl).aa hV).cell 1 rfl,(hA6.aa n6).aa hV,(hT6.aa n6).aa hV⟩ : ∀V,Below (V6'.alloc (.cells #[.slice ax 2 cx,.slice at' 2 ct] 49)).heap.size (V6'.alloc (.cells #[.slice ax 2 cx,.slice at' 2 ct] 49)) V ->
  V.cell? ⟨V6'.heap.size,0,none⟩=some (.slice ax 2 cx)/\V.cell? ⟨V6'.heap.size,1,none⟩=some (.slice at' 2 ct)/\Ints V ax 2 [1,1]/\ch V at' 2 [[0],[1]])
 clear hA6 hT6;have t6:=HO6.out _ (I1 _ _);have Hc:=Z5 (Ah (cx:=cx) (ct:=ct) (HMp.out _ r6) t6.2.2.1 t6.2.2.2);obtain ⟨c0,c1,c2,c3,c4⟩:=HP.out _ r6;have x0:=t6.1;have x1:=t6.2.1;clear t6;go_wp2_with fail;refine Hc.out.mono ?_;rintro e V7 ⟨rfl,b7⟩;have G6:=Z5 b7;have G3:=Z5 (Nh b4 (Nh b5 (Nh r6 b7)));have G1:=Z5 (Nh b2 (Nh b3 G3.out));have E7:=Z5 (Nh HW.out (Nh e5 (Nh r6 b7)));clear c0 c1 c2 c3 c4 x0 x1 Hc b1 b2 b3 b4 b5 b6 b7 n6 r6 e0 e1 e2 e3 e4 e5 r0;go_upto_region 10 with fail;have q1:=aw V7 (.cells #[.int .i64 1,.int .i64 8,.int .i64 3,.int .i64 3,.int .i64 2,.int .i64 20,.int .i64 3,.int .i64 5] 62);have Hc:=Z5 (sD a1 2 k1 [[1,8,3,3],[2,20,3,5]] (some ⟨V7.heap.size,0,none⟩) 2 2 _ (HO1.out.aa (Nh G1.out q1)) (Iq V7 1 8 3 3 2 20 3 5 rfl) (by omega));go_wp2_with fail;refine Hc.out.mono ?_;rintro e Y1 ⟨rfl,t1⟩;have s1:=Nh q1 t1;clear Hc q1 t1;have q2:=aw Y1 (.cells #[.int .i64 0,.int .i64 0,.int .i64 1,.int .i64 0,.int .i64 0,.int .i64 1,.int .i64 1] 3);have s2':=Nh s1 q2;have Hc:=Z5 (gS a3 7 k3 [0,0,1,0,0,1,1] (some ⟨Y1.heap.size,0,none⟩) 7 7 [0,0,1,0,0,1,1] (HO3.out.aa (Nh G3.out s2')) (lits Y1 [0,0,1,0,0,1,1] #[.int .i64 0,.int .i64 0,.int .i64 1,.int .i64 0,.int .i64 0,.int .i64 1,.int .i64 1] rfl (by decide) rfl));rw [Jm rfl] at Hc;go_wp2_with fail;refine Hc.out.mono ?_;rintro e Y2 ⟨rfl,t2⟩;have s2:=Nh s2' t2.below;clear Hc q2 s2' t2;obtain ⟨x0,x1,hA,hT⟩:=HO6.out Y2 (Nh G6.out s2);have q3:=aw Y2 (.cells #[.int .i64 1,.int .i64 1] 3);have s3':=Nh s2 q3;have Hc:=Z5 (gS ax 2 cx [1,1] (some ⟨Y2.heap.size,0,none⟩) 2 2 [1,1] (hA.aa q3) (lits Y2 [1,1] #[.int .i64 1,.int .i64 1] rfl (by decide) rfl));rw [Jm rfl] at Hc;clear hA hT x1;go_wp2_with fail;refine Hc.out.mono ?_;rintro e Y3 ⟨rfl,t3⟩;have s3:=Nh s3' t3.below;clear Hc q3 s3' t3 x0;obtain ⟨x0,x1,hA,hT⟩:=HO6.out Y3 (Nh G6.out s3);have q4:=nY Y3 (.cells #[.int .i64 0] 3) (.cells #[.int .i64 1] 3) (.cells #[.slice (some ⟨Y3.heap.size,0,none⟩) 1 1,.slice (some ⟨Y3.heap.size+1,0,none⟩) 1 1] 22);have Hc:=Z5 (jD at' 2 ct [[0],[1]] _ 2 2 [[0],[1]] (hT.aa q4) (II Y3 0 1));rw [Jm rfl] at Hc;clear hA hT x0;go_wp2_with fail;refine Hc.out.mono ?_;rintro e Y4 ⟨rfl,t4⟩;have hF:=Nh E7.out (Nh s3 (Nh q4 t4.below));clear Hc q4 t4;go_wp2_with fail;go_ret;exact ⟨rfl,hF⟩
end Go.Proofs.YtcfmiocdlcapoaaGreat
