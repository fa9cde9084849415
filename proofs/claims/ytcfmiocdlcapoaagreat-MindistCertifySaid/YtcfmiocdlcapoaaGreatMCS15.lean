import Derived.Test.YtcfmiocdlcapoaaGreatMCS11
import Derived.Test.YtcfmiocdlcapoaaGreatMCS13
import Derived.Test.YtcfmiocdlcapoaaGreatMCS14
import Derived.Laws.Bits64
namespace Go.Proofs.YtcfmiocdlcapoaaGreat
set_option linter.all false
set_option maxRecDepth 100000
set_option maxHeartbeats 4000000
open Go.RowKit Go.Proofs.Tryz
def bU (O : aS) (L : Ll) (Q : Lz) : Nat->BS × Lz
 | 0=>(⟨[],[]⟩,[])
 | k+1=>((bU O L Q k).1.next O (bs L (nth Q k).toNat),if (bU O L Q k).1.dz O (bs L (nth Q k).toNat)=true then (bU O L Q k).2 ++ [nth Q k] else (bU O L Q k).2)
def gD (O : aS) (L : Ll) (Q : Lz) : Lz:=(bU O L Q Q.length).2
theorem BS.vZ (O : aS) (s : BS) (v : Lz) : (s.next O v).rows.length<=s.rows.length+1:=by unfold BS.next;split <;> simp
theorem aP.empty (w : World) (B : Nat) : aP w B none 0 0 [] [] :=
 ⟨rfl,rfl,bX,λi hi=>by omega,λi hi=>by omega,λi j hi=>by omega⟩
theorem mL.start {w : World} {B bb b : Nat} (hB : B<=bb) (h : aZ w bb [.pointer (some ⟨b,0,none⟩),.slice none 0 0,.slice none 0 0]) : mL w B bb b none 0 [] none 0 ⟨[],[]⟩ :=
 ⟨hB,h.cell 0 rfl,h.cell 1 rfl,h.cell 2 rfl,λi=>h.frozen i,aP.empty w B,bX,λhI=>by
  rcases hI with ⟨h1,_⟩ | ⟨i,hi,_⟩
  ·exact h1 rfl
  ·simp at hi,.inl rfl,λh1=>absurd rfl h1⟩
theorem A8 {El : Int->Prop} {m : Nat} {L : Ll} (h : cw El m L) {i : Nat} (hi : i<m) : (bs L i).length=L.length/\∀y ∈ bs L i,El y:=by refine ⟨cQ _ _,λy hy=>?_⟩;unfold bs at hy;obtain ⟨r,hr,rfl⟩:=List.mem_map.1 hy;exact (h r hr).2 _ (aK (by rw [(h r hr).1];exact hi))
theorem q8 {w : World} {b : Nat} {G : cW} (P M : Int) (am : OA) (mn cm : Nat) (N : Int) (a : OA) (n c : Nat) (L : Ll) (m : Nat) (ao : OA) (no co : Nat) (Q : Lz)
  (h : dT w b G) (hi : ch w a n L) (hR : cw G.El m L) (hq : Ints w ao no Q) (hQ : ∀k,k<no->0<=nth Q k/\nth Q k<m) (hn : n<=1000000) (hno : no<=1000000) :
  Calls prog 69 #[.pointer (some ⟨b,0,none⟩),.agg #[.int .i64 P,.int .i64 M,.slice am mn cm,.int .i64 N,.slice a n c],.slice ao no co] w (dh w (gD G.ops L Q)):=by
 have Hlen:=Z5 hi.len;have HR:=Z5 hR;have HQ:=Z5 hQ;have Hql:=Z5 hq.len;have hplq:=hq.pl;have hcl:=Z5 (NA h);clear hR hQ;go_enter func69,ntmps69;go_wp2_with fail;obtain ⟨W,hW⟩ : ∃W : World,W=w.alloc (.cells #[.int .i64 P,.int .i64 M,.slice am mn cm,.int .i64 N,.slice a n c] 27):=⟨_,rfl⟩
 rw [<- hW];have hbW : NS w W:=by rw [hW];exact aw _ _
 have x0 : aZ W w.heap.size [.int .i64 P,.int .i64 M,.slice am mn cm,.int .i64 N,.slice a n c]:=by rw [hW];exact Nj _ _ _ rfl
 have hsW : w.heap.size+1=W.heap.size:=by rw [hW];simp
 rw [hsW];have HX:=Z5 x0;have HsW:=Z5 hsW;have hGW:=h.aa hbW;have hiW:=hi.aa hbW;have hqW:=hq.aa hbW;clear hW x0 hsW;obtain ⟨V,hV⟩ : ∃V : World,V=W.alloc (.cells #[.pointer (some ⟨b,0,none⟩),.slice none 0 0,.slice none 0 0] 152):=⟨_,rfl⟩
 rw [<- hV];have hbV : NS W V:=by rw [hV];exact aw _ _
 have hB0 : mL V W.heap.size W.heap.size b none 0 [] none 0 ⟨[],[]⟩:=mL.start (IZ _) (by rw [hV];exact Nj _ _ _ rfl);clear hV;go_loopw [8,16] (λqv iv wr=>∃(k : Nat) (aq : OA) (cq : Nat) (out : Lz) (s : BS) (ar : OA) (cr : Nat) (R : La) (ap : OA) (cp : Nat),k<=no/\iv = .int .i64 k/\qv = .slice aq out.length cq /\
   Hid (bU G.ops L Q k=(s,out))/\mL wr W.heap.size W.heap.size b ar cr R ap cp s/\wr.ownsRow W.heap.size 3 1 (.slice aq out.length cq) out.length (out.map (Value.int .i64))/\Hid (aq ≠ none->¬ qH W.heap.size ar R ap (aj aq)) /\
   NS W wr/\Hid (s.Ok G.El n)/\s.rows.length<=k/\out.length<=k)
  (λ_ iv _=>no - (intOf iv).toNat)
 case atStart=>exact ⟨0,none,0,[],⟨[],[]⟩,none,0,[],none,0,I7 _,rfl,rfl,rfl,hB0,bX,λh0=>absurd rfl h0,hbV,⟨λr hr=>by simp at hr,rfl,λi hi=>by simp at hi⟩,I7 _,I7 _⟩
 case round =>
  obtain ⟨k,aq,cq,out,s,ar,cr,R,ap,cp,hk,rfl,rfl,hst,hBr,hop,hdq,hbr,hok,hsk,hok2⟩:=hrel
  generalize wr=U at *
  by_cases hlt : k<no
  ·have cq1:=(hqW.aa hbr).cell k hlt
   have hQk:=HQ.out k hlt
   obtain ⟨i,hik⟩ : ∃i : Nat,nth Q k=i:=⟨(nth Q k).toNat,by omega⟩
   rw [hik] at cq1 hQk
   have him : i<m:=by omega
   have xU:=HX.out.aa hbr
   have b0:=xU.cell 0 rfl
   have b1:=xU.cell 1 rfl
   have b2:=xU.cell 2 rfl
   have b3:=xU.cell 3 rfl
   have b4:=xU.cell 4 rfl
   have hcol:=A8 HR.out him
   rw [Hlen.out] at hcol
   have hstep : bU G.ops L Q (k+1)=(s.next G.ops (bs L i),if s.dz G.ops (bs L i)=true then out ++ [(i : Int)] else out):=by rw [bU,hst.out,hik,Jd]
   have Hstep:=Z5 hstep
   have Hcol:=Z5 hcol
   clear xU hstep hcol hik
   go_wp2_with fail
   refine (zp P M am mn cm N a n c L i U (hiW.aa hbr) (λr hr=>by rw [(HR.out r hr).1];exact him) hn).mono ?_
   rintro e w3 ⟨a3,c3,rfl,hown3,hb3⟩
   rw [Hcol.out.1] at hown3
   rw [Hcol.out.1]
   have hB3:=hBr.aa hb3
   have hbw3:=Nh hbr hb3
   have hn3 : a3 ≠ none->¬ qH W.heap.size ar R ap (aj a3):=λh0 hI=>by have h1:=(aM hown3 h0).1;have h2:=(hBr.lt _ hI).2;omega
   go_wp2_with fail
   refine (EH W.heap.size ar cr R ap cp s a3 c3 n (bs L i) hGW hbw3 hB3 hok.out (aU hown3 hbr.size) hn3 Hcol.out.2 hn (by omega)).mono ?_
   rintro e w4 ⟨ar',cr',R',ap',cp',rfl,hB4,hM4⟩
   have hbw4 : NS W w4:=hbw3.trans (hM4.below (λx hx=>by
    rcases hx with h1 | ⟨h1,h2⟩
    ·exact (hB3.lt x h1).1
    ·rw [h2];exact Ji hbr.size (aM hown3 h1).1) hbw3.size)
   have hop3:=aX hop hb3
   have hnI : aq ≠ none->¬ (qH W.heap.size ar R ap (aj aq)\/(a3 ≠ none/\aj aq=aj a3)):=λh0 hI=>by
    rcases hI with h1 | ⟨h1,h2⟩
    ·exact hdq.out h0 h1
    ·have e1:=(aM hop h0).2;have e2:=(aM hown3 h1).1;omega
   have hop4:=hM4.own hop3 hnI
   have hdq4 : aq ≠ none->¬ qH W.heap.size ar' R' ap' (aj aq):=λh0=>hM4.not (aM hop3 h0).2 (hnI h0)
   have hok4 : (s.next G.ops (bs L i)).Ok G.El n:=BS.Ok.next hcl.out hok.out Hcol.out
   have hlen4:=BS.vZ G.ops s (bs L i)
   have Hok4:=Z5 hok4
   have Hdq4:=Z5 hdq4
   clear hnI hdq4 hok4 b0 b1 b2 b3 b4
   by_cases ht : s.dz G.ops (bs L i)=true
   ·rw [ht]
    have Hst : Hid (bU G.ops L Q (k+1)=(s.next G.ops (bs L i),out ++ [(i : Int)])):=by show _=_;rw [Hstep.out,I6 ht]
    clear ht
    generalize s.next G.ops (bs L i)=s' at *
    have hcn:=bk w4 (.int .i64 i) 3
    have hbn:=aw w4 (.cells #[.int .i64 i] 3)
    have hsz4:=hbw4.size
    go_wp2_with (at_builtin;refine bg rfl _ _ 22 3 rfl (.int .i64 0) 8 underlying22 ba rfl W.heap.size aq out.length cq _ rfl (hop4.alloc _) ⟨w4.heap.size,0,none⟩ 1 (.int .i64 i) rfl hcn rfl (by omega) (by unfold maxLen;omega) (by simp;omega) ?_;intro a5 c5 w5 hown5 hgr5 hap5)
    go_roundw
    case rel =>
     have hBn:=hB4.aa hbn
     have haq : ∀x,qH W.heap.size ar' R' ap' x->cJ aq x:=λx hx=>by
      by_cases h0 : aq=none
      ·exact .inl h0
      ·exact .inr λe=>Hdq4.out h0 (e ▸ hx)
     have hB5 : mL w5 W.heap.size W.heap.size b ar' cr' R' ap' cp' s':=hBn.bj λx hx=>hgr5.block x (hBn.lt x hx).2 λe=>(haq x hx).own _ _ e.symm
     have hb5 : NS W w5:=Nk (Ju hbw4 (hbn.mono hsz4)) (hop4.alloc _) hgr5 (IZ _) (Ji hsz4 hbn.size)
     refine ⟨k+1,a5,c5,out ++ [(i : Int)],s',ar',cr',R',ap',cp',by omega,by go_num,by simp,Hst.out,hB5,?_,?_,hb5,Hok4.out,by omega,by simp;omega⟩
     ·simpa using hown5
     ·show a5 ≠ none->_
      intro h0 hI
      rcases hap5 _ (hBn.lt _ hI).2 (haq _ hI) with h1 | h1
      ·exact h0 h1
      ·exact h1 rfl
    case measure=>simp [intOf] <;> omega
   ·have ht' : s.dz G.ops (bs L i)=false:=by simpa using ht
    rw [ht']
    have Hst : Hid (bU G.ops L Q (k+1)=(s.next G.ops (bs L i),out)):=by show _=_;rw [Hstep.out,I5 ht]
    clear ht ht'
    generalize s.next G.ops (bs L i)=s' at *
    go_wp2_with fail
    go_roundw
    case rel=>exact ⟨k+1,aq,cq,out,s',ar',cr',R',ap',cp',by omega,by go_num,rfl,Hst.out,hB4,hop4,Hdq4.out,hbw4,Hok4.out,by omega,by omega⟩
    case measure=>simp [intOf] <;> omega
  ·obtain rfl : k=no:=by omega
   have Ho : Hid (gD G.ops L Q=out):=by show _=_;rw [gD,Hql.out,hst.out]
   go_wp2_with fail
   go_ret
   exact ⟨aq,cq,by rw [Ho.out];rfl,by rw [Ho.out];exact aU hop hbW.size,Nh hbW hbr⟩
section
namespace dw
variable {O : aS} {El : Int->Prop} (F : dw O El)
include F
theorem FT {x : Int} (hx : El x) : O.add 0 x=x:=by rw [F.add_comm _ _ F.zero hx,F.add_zero x hx]
theorem ru {x : Int} (hx : El x) : O.add (O.neg x) x=0:=by rw [F.add_comm _ _ (F.cl.neg x hx) hx,F.add_neg x hx]
theorem Ie {x y : Int} (hx : El x) (hy : El y) : O.add (O.neg x) (O.add x y)=y:=by rw [<- F.add_assoc _ _ _ (F.cl.neg x hx) hx hy,F.ru hx,F.FT hy]
theorem cancel {x y z : Int} (hx : El x) (hy : El y) (hz : El z) (h : O.add x y=O.add x z) : y=z:=by rw [<- F.Ie hx hy,h,F.Ie hx hz]
theorem et {x : Int} (hx : El x) : O.mul x 0=0:=by have h0:=F.cl.mul x 0 hx F.zero;refine F.cancel h0 h0 F.zero ?_;rw [<- F.mul_add x 0 0 hx F.zero F.zero,F.add_zero 0 F.zero,F.add_zero _ h0]
theorem oD {x : Int} (hx : El x) : O.mul 0 x=0:=by rw [F.mul_comm _ _ F.zero hx,F.et hx]
theorem lV {x : Int} (hx : El x) : O.mul x 1=x:=by rw [F.mul_comm _ _ hx F.one,F.one_mul x hx]
theorem oF {x y : Int} (hx : El x) (hy : El y) (h : O.add x y=0) : y=O.neg x :=
 F.cancel hx hy (F.cl.neg x hx) (by rw [h,F.add_neg x hx])
theorem gU : O.neg 0=0:=(F.oF F.zero F.zero (F.add_zero 0 F.zero)).symm
theorem mul_neg {x y : Int} (hx : El x) (hy : El y) : O.mul x (O.neg y)=O.neg (O.mul x y):=by have hn:=F.cl.neg y hy;refine F.oF (F.cl.mul x y hx hy) (F.cl.mul x _ hx hn) ?_;rw [<- F.mul_add x y _ hx hy hn,F.add_neg y hy,F.et hx]
theorem neg_mul {x y : Int} (hx : El x) (hy : El y) : O.mul (O.neg x) y=O.neg (O.mul x y):=by rw [F.mul_comm _ _ (F.cl.neg x hx) hy,F.mul_neg hy hx,F.mul_comm _ _ hy hx]
theorem Fi {a b c d : Int} (ha : El a) (hb : El b) (hc : El c) (hd : El d) : O.add (O.add a b) (O.add c d)=O.add (O.add a c) (O.add b d):=by rw [F.add_assoc a b _ ha hb (F.cl.add c d hc hd),F.add_assoc a c _ ha hc (F.cl.add b d hb hd),<- F.add_assoc b c d hb hc hd,F.add_comm b c hb hc,F.add_assoc c b d hc hb hd]
theorem neg_add {x y : Int} (hx : El x) (hy : El y) : O.neg (O.add x y)=O.add (O.neg x) (O.neg y):=by have hnx:=F.cl.neg x hx;have hny:=F.cl.neg y hy;refine (F.oF (F.cl.add x y hx hy) (F.cl.add _ _ hnx hny) ?_).symm;rw [F.Fi hx hy hnx hny,F.add_neg x hx,F.add_neg y hy,F.add_zero 0 F.zero]
theorem neg_neg {x : Int} (hx : El x) : O.neg (O.neg x)=x:=(F.oF (F.cl.neg x hx) hx (F.ru hx)).symm
theorem vn {x y : Int} (hx : El x) (hy : El y) (h0 : x ≠ 0) (h : O.mul x y=0) : y=0:=by have hi:=F.cl.inv x hx h0;rw [<- F.one_mul y hy,<- F.mul_inv x hx h0,F.mul_comm x _ hx hi,F.mul_assoc _ x y hi hx hy,h,F.et hi]
theorem comb {A B x A' B' R : Int} (hA : El A) (hB : El B) (hx : El x) (hA' : El A') (hB' : El B') (hR : El R) :
  O.add (O.add A (O.neg (O.mul x B))) (O.neg (O.mul (O.add A' (O.neg (O.mul x B'))) R))=O.add (O.add A (O.neg (O.mul A' R))) (O.neg (O.mul x (O.add B (O.neg (O.mul B' R))))):=by
 have m:=F.cl.mul;have n:=F.cl.neg;have h1:=m x B hx hB;have h2:=m A' R hA' hR;have hxB:=m x B' hx hB';have h3:=m _ R hxB hR;have hBR:=m B' R hB' hR;have e1 : O.mul (O.add A' (O.neg (O.mul x B'))) R=O.add (O.mul A' R) (O.neg (O.mul (O.mul x B') R)):=by rw [F.mul_comm _ R (F.cl.add _ _ hA' (n _ hxB)) hR,F.mul_add R _ _ hR hA' (n _ hxB),F.mul_comm R A' hR hA',F.mul_comm R _ hR (n _ hxB),F.neg_mul hxB hR]
 have e2 : O.mul x (O.add B (O.neg (O.mul B' R)))=O.add (O.mul x B) (O.neg (O.mul (O.mul x B') R)):=by rw [F.mul_add x _ _ hx hB (n _ hBR),F.mul_neg hx hBR,F.mul_assoc x B' R hx hB' hR]
 rw [e1,e2,F.neg_add h2 (n _ h3),F.neg_add h1 (n _ h3),F.neg_neg h3,F.Fi hA (n _ h1) (n _ h2) h3,F.Fi hA (n _ h2) (n _ h1) h3]
end dw
def Vc (El : Int->Prop) (n : Nat) (v : Lz) : Prop:=v.length=n/\∀y ∈ v,El y
theorem Vc.at {El : Int->Prop} {n : Nat} {v : Lz} (h : Vc El n v) {i : Nat} (hi : i<n) : El (nth v i):=h.2 _ (aK (by rw [h.1];exact hi))
theorem Vc.sub {O : aS} {El : Int->Prop} (F : dw O El) {n : Nat} {v r : Lz} {x : Int} (hv : Vc El n v) (hr : Vc El n r) (hx : El x) : Vc El n (dF O v x r) :=
 ⟨by rw [dY _ _ _ _ (by rw [hr.1,hv.1])];exact hv.1,sS F.cl hv.2 hr.2 hx⟩
theorem Vc.Ba {O : aS} {El : Int->Prop} (F : dw O El) {n : Nat} {r : Lz} {x : Int} (hr : Vc El n r) (hx : El x) : Vc El n (r.map (O.mul x)) :=
 ⟨by rw [Jl];exact hr.1,λy hy=>by obtain ⟨z,hz,rfl⟩:=List.mem_map.1 hy;exact F.cl.mul _ _ hx (hr.2 z hz)⟩
structure kF (O : aS) (El : Int->Prop) (n : Nat) (φ : Lz->Int) : Prop where
 el : ∀v,Vc El n v->El (φ v)
 sub : ∀v r x,Vc El n v->Vc El n r->El x->φ (dF O v x r)=O.add (φ v) (O.neg (O.mul x (φ r)))
 Ba : ∀r x,Vc El n r->El x->φ (r.map (O.mul x))=O.mul x (φ r)
variable {O : aS} {El : Int->Prop} {n : Nat}
theorem gR (O : aS) (r : Lz) (x : Int) {i : Nat} (hi : i<r.length) : nth (r.map (O.mul x)) i=O.mul x (nth r i):=by rw [ai (by simpa using hi),ai hi];simp
theorem kF.A1 (F : dw O El) {i : Nat} (hi : i<n) : kF O El n (λv=>nth v i) :=
 ⟨λv hv=>hv.at hi,λv r x hv hr hx=>eF O v x r i (by rw [hr.1,hv.1]) (by rw [hv.1];exact hi),λr x hr hx=>gR O r x (by rw [hr.1];exact hi)⟩
theorem kF.congr (F : dw O El) {φ ψ : Lz->Int} (h : kF O El n φ) (e : ∀v,Vc El n v->ψ v=φ v) : kF O El n ψ :=
 ⟨λv hv=>by rw [e v hv];exact h.el v hv,λv r x hv hr hx=>by rw [e _ (hv.sub F hr hx),e v hv,e r hr];exact h.sub v r x hv hr hx,
  λr x hr hx=>by rw [e _ (hr.Ba F hx),e r hr];exact h.Ba r x hr hx⟩
theorem kF.comb (F : dw O El) {φ ψ : Lz->Int} (h : kF O El n φ) (g : kF O El n ψ) {s : Int} (hs : El s) : kF O El n (λv=>O.add (φ v) (O.neg (O.mul (ψ v) s))) :=
 ⟨λv hv=>F.cl.add _ _ (h.el v hv) (F.cl.neg _ (F.cl.mul _ _ (g.el v hv) hs)),
  λv r x hv hr hx=>by show O.add (φ (dF O v x r)) (O.neg (O.mul (ψ (dF O v x r)) s))=_;rw [h.sub v r x hv hr hx,g.sub v r x hv hr hx];exact F.comb (h.el v hv) (h.el r hr) hx (g.el v hv) (g.el r hr) hs,
  λr x hr hx=>by show O.add (φ (r.map (O.mul x))) (O.neg (O.mul (ψ (r.map (O.mul x))) s))=_;rw [h.Ba r x hr hx,g.Ba r x hr hx,F.mul_assoc x _ s hx (g.el r hr) hs,<- F.mul_neg hx (F.cl.mul _ _ (g.el r hr) hs),<- F.mul_add x _ _ hx (h.el r hr) (F.cl.neg _ (F.cl.mul _ _ (g.el r hr) hs))]⟩
def oV (O : aS) (El : Int->Prop) (n : Nat) (c : Nat->Lz) (l : LN) (x : Nat) : Prop:=∀φ,kF O El n φ->(∀y ∈ l,φ (c y)=0)->φ (c x)=0
theorem F1 (F : dw O El) {c : Nat->Lz} (hc : ∀i,Vc El n (c i)) : BM (oV O El n c) where
 mem l x hx φ _ h:=h x hx
 mono l l' h y hy φ hφ h0:=hy φ hφ λx hx=>h x hx φ hφ h0
 exch l x y h hn:=by
  intro b hb h0;apply JE;intro hbx;apply hn;intro a ha ha0;apply JE;intro hay;have hax : a (c x) ≠ 0:=λe=>hay (h a ha λz hz=>by
   rcases List.mem_cons.1 hz with rfl | hz
   ·exact e
   ·exact ha0 z hz)
  have h1:=ha.el _ (hc x);have h2:=hb.el _ (hc x);have hbi:=F.cl.inv _ h2 hbx;have hs:=F.cl.mul _ _ hbi h1;have:=h _ (ha.comb F hb hs) λz hz=>by
   rcases List.mem_cons.1 hz with rfl | hz
   ·show O.add (a (c z)) (O.neg (O.mul (b (c z)) (O.mul (O.inv (b (c z))) (a (c z)))))=0;rw [<- F.mul_assoc _ _ _ h2 hbi h1,F.mul_inv _ h2 hbx,F.one_mul _ h1,F.add_neg _ h1]
   ·show O.add (a (c z)) (O.neg (O.mul (b (c z)) _))=0;rw [ha0 z hz,h0 z (List.mem_cons.2 (.inr hz)),F.oD hs,F.gU,F.add_zero 0 F.zero]
  have h3 : O.add (a (c y)) (O.neg (O.mul (b (c y)) (O.mul (O.inv (b (c x))) (a (c x)))))=0:=this;rw [h0 y (by simp),F.oD hs,F.gU,F.add_zero _ (ha.el _ (hc y))] at h3;exact hay h3
structure BS.Inv (El : Int->Prop) (n : Nat) (s : BS) : Prop where
 ok : s.Ok El n
 one : ∀i,i<s.rows.length->nth (an s.rows i) (nth s.place i).toNat=1
 zero : ∀j i,j<i->i<s.rows.length->nth (an s.rows i) (nth s.place j).toNat=0
theorem BS.Ok.row {s : BS} (h : s.Ok El n) {i : Nat} (hi : i<s.rows.length) : Vc El n (an s.rows i):=h.rws.row hi
theorem BS.Ok.pl {s : BS} (h : s.Ok El n) {i : Nat} (hi : i<s.rows.length) : (nth s.place i).toNat<n:=by have:=h.plc i hi;omega
theorem Vc.dG (F : dw O El) {u r : Lz} {p : Int} (hu : Vc El n u) (hr : Vc El n r) (hp : p.toNat<n) : Vc El n (dG O u p r):=by
 unfold Go.Proofs.YtcfmiocdlcapoaaGreat.dG;split
 ·exact hu
 ·exact hu.sub F hr (hu.at hp)
theorem Vc.bu (F : dw O El) {s : BS} (h : s.Ok El n) {v : Lz} (hv : Vc El n v) : ∀k,k<=s.rows.length->Vc El n (bu O s.rows s.place v k)
 | 0,_=>hv
 | k+1,hk=>(Vc.bu F h hv k (by omega)).dG F (h.row (by omega)) (h.pl (by omega))
theorem ib (F : dw O El) {u r : Lz} {p : Int} (hu : Vc El n u) (hr : Vc El n r) (hp : p.toNat<n) {i : Nat} (hi : i<n) :
  nth (dG O u p r) i=O.add (nth u i) (O.neg (O.mul (nth u p.toNat) (nth r i))):=by
 unfold dG;split
 ·rename_i h0;rw [h0,F.oD (hr.at hi),F.gU,F.add_zero _ (hu.at hi)]
 ·exact eF O u _ r i (by rw [hr.1,hu.1]) (by rw [hu.1];exact hi)
namespace BS.Inv
variable {s : BS}
theorem place (F : dw O El) (h : s.Inv El n) {v : Lz} (hv : Vc El n v) : ∀k,k<=s.rows.length->∀j,j<k->nth (bu O s.rows s.place v k) (nth s.place j).toNat=0
 | 0,_,j,hj=>by omega
 | k+1,hk,j,hj=>by
  have hu:=Vc.bu F h.ok hv k (by omega);have hpk:=h.ok.pl (i:=k) (by omega);have hpj:=h.ok.pl (i:=j) (by omega);rw [bu,ib F hu (h.ok.row (by omega)) hpk hpj];by_cases e : j=k
  ·subst e;rw [h.one j (by omega),F.lV (hu.at hpk),F.add_neg _ (hu.at hpk)]
  ·rw [place F h hv k (by omega) j (by omega),h.zero j k (by omega) (by omega),F.et (hu.at hpk),F.gU,F.add_zero 0 F.zero]
theorem stay (h : s.Inv El n) {i : Nat} (hi : i<s.rows.length) : ∀k,k<=i->bu O s.rows s.place (an s.rows i) k=an s.rows i
 | 0,_=>rfl
 | k+1,hk=>by rw [bu,stay h hi k (by omega),dG,I6 (h.zero k i (by omega) hi)]
theorem gone (F : dw O El) (h : s.Inv El n) {i : Nat} (hi : i<s.rows.length) : ∀k,i<k->k<=s.rows.length->∀t,t<n->nth (bu O s.rows s.place (an s.rows i) k) t=0
 | 0,hk,_,_,_=>by omega
 | k+1,hk,hkl,t,ht=>by
  have hu:=Vc.bu F h.ok (h.ok.row hi) k (by omega);have hr:=h.ok.row (i:=k) (by omega);have hpk:=h.ok.pl (i:=k) (by omega);rw [bu,ib F hu hr hpk ht];by_cases e : k=i
  ·subst e;rw [h.stay hi k (IZ _),h.one k hi,F.one_mul _ (hr.at ht),F.add_neg _ (hr.at ht)]
  ·rw [gone F h hi k (by omega) (by omega) t ht,gone F h hi k (by omega) (by omega) _ hpk,F.oD (hr.at ht),F.gU,F.add_zero 0 F.zero]
theorem Ix (F : dw O El) (h : s.Inv El n) : ∀k,k<=s.rows.length->∀i,i<n->kF O El n (λv=>nth (bu O s.rows s.place v k) i)
 | 0,_,i,hi=>kF.A1 F hi
 | k+1,hk,i,hi=>by have hpk:=h.ok.pl (i:=k) (by omega);have hr:=h.ok.row (i:=k) (by omega);refine kF.congr F ((Ix F h k (by omega) i hi).comb F (Ix F h k (by omega) _ hpk) (hr.at hi)) λv hv=>?_;show nth (bu O s.rows s.place v (k+1)) i=_;rw [bu,ib F (Vc.bu F h.ok hv k (by omega)) hr hpk hi]
theorem form (F : dw O El) (h : s.Inv El n) {φ : Lz->Int} (hφ : kF O El n φ) (h0 : ∀i,i<s.rows.length->φ (an s.rows i)=0) {v : Lz} (hv : Vc El n v) : ∀k,k<=s.rows.length->φ (bu O s.rows s.place v k)=φ v
 | 0,_=>rfl
 | k+1,hk=>by
  have hu:=Vc.bu F h.ok hv k (by omega);have hr:=h.ok.row (i:=k) (by omega);have hpk:=h.ok.pl (i:=k) (by omega);rw [bu,dG];split
  ·exact form F h hφ h0 hv k (by omega)
  ·rw [hφ.sub _ _ _ hu hr (hu.at hpk),h0 k (by omega),F.et (hu.at hpk),F.gU,form F h hφ h0 hv k (by omega),F.add_zero _ (hφ.el v hv)]
end BS.Inv
theorem kF.zero (F : dw O El) {φ : Lz->Int} (h : kF O El n φ) {v : Lz} (hv : Vc El n v) (h0 : ∀i,i<n->nth v i=0) : φ v=0:=by
 have e : v=v.map (O.mul 0):=fQ (by simp) λi hi=>by rw [gR O v 0 hi,F.oD (hv.at (by rw [<- hv.1];exact hi)),h0 i (by rw [<- hv.1];exact hi)]
 rw [e,h.Ba v 0 hv F.zero,F.oD (h.el v hv)]
theorem jk (F : dw O El) {s : BS} (h : s.Inv El n) {v : Lz} (hv : Vc El n v) :
  s.dz O v=false ↔ ∀φ,kF O El n φ->(∀i,i<s.rows.length->φ (an s.rows i)=0)->φ v=0:=by
 have hu : Vc El n (s.red O v):=Vc.bu F h.ok hv _ (IZ _);constructor
 ·intro ht φ hφ h0;rw [<- h.form F hφ h0 hv _ (IZ _)];refine hφ.zero F hu λi hi=>jS (s.red O v) i ?_;have h1 : ¬ fY (s.red O v)<(s.red O v).length:=by simpa [BS.dz] using ht
  have h2:=Dj (s.red O v);have:=hu.1;omega
 ·intro h0;apply JE;intro ht;have h1 : fY (s.red O v)<(s.red O v).length:=by simpa [BS.dz] using ht
  have:=hu.1;exact iY _ h1 (h0 _ (h.Ix F _ (IZ _) _ (by omega)) λi hi=>h.gone F hi _ hi (IZ _) _ (by omega))
theorem jV (L : Ll) (r : Lz) (i : Nat) : an (L ++ [r]) i=if i<L.length then an L i else if i=L.length then r else an [] 0:=by
 unfold an;simp only [Jc];split
 ·rename_i h;rw [JF h]
 ·rename_i h;split
  ·rename_i e;subst e;simp
  ·rename_i e;rw [JZ (by simp;omega)];simp
theorem gY (l : Lz) (r : Int) (i : Nat) : nth (l ++ [r]) i=if i<l.length then nth l i else if i=l.length then r else 0:=by
 unfold nth;simp only [Jc];split
 ·rename_i h;rw [JF h]
 ·rename_i h;split
  ·rename_i e;subst e;simp
  ·rename_i e;rw [JZ (by simp;omega)];simp
theorem BS.Inv.next (F : dw O El) {s : BS} (h : s.Inv El n) {v : Lz} (hv : Vc El n v) : (s.next O v).Inv El n:=by
 refine ⟨h.ok.next F.cl hv,?_,?_⟩
 ·unfold BS.next;split
  ·rename_i ht;have hu : Vc El n (s.red O v):=Vc.bu F h.ok hv _ (IZ _);have hf : fY (s.red O v)<(s.red O v).length:=by simpa [BS.dz] using ht
   have hne:=iY _ hf;have hl:=hu.1;have hel:=hu.at (i:=fY (s.red O v)) (by omega);intro i hi;simp only [Jh,Js] at hi;simp only [jV,gY,h.ok.len];by_cases e : i<s.rows.length
   ·rw [I6 e,I6 e];exact h.one i e
   ·rw [I5 e,I5 e,I6 (by omega),I6 (by omega),Jd,gR O _ _ hf,F.mul_comm _ _ (F.cl.inv _ hel hne) hel,F.mul_inv _ hel hne]
  ·exact h.one
 ·unfold BS.next;split
  ·rename_i ht;have hu : Vc El n (s.red O v):=Vc.bu F h.ok hv _ (IZ _);have hf : fY (s.red O v)<(s.red O v).length:=by simpa [BS.dz] using ht
   have hne:=iY _ hf;have hl:=hu.1;have hel:=hu.at (i:=fY (s.red O v)) (by omega);intro j i hji hi;simp only [Jh,Js] at hi;simp only [jV,gY,h.ok.len];rw [I6 (show j<s.rows.length by omega)];by_cases e : i<s.rows.length
   ·rw [I6 e];exact h.zero j i hji e
   ·have hpj:=h.ok.pl (i:=j) (by omega);rw [I5 e,I6 (by omega),gR O _ _ (by omega),BS.red,h.place F hv _ (IZ _) j (by omega)];exact F.et (F.cl.inv _ hel hne)
  ·exact h.zero
def FQ (O : aS) (El : Int->Prop) (n : Nat) (c : Nat->Lz) (l : LN) (s : BS) : Prop :=
 ∀φ,kF O El n φ->((∀y ∈ l,φ (c y)=0) ↔ ∀i,i<s.rows.length->φ (an s.rows i)=0)
theorem FQ.next (F : dw O El) {c : Nat->Lz} (hc : ∀i,Vc El n (c i)) {l : LN} {s : BS} (h : s.Inv El n) (hs : FQ O El n c l s) (x : Nat) : FQ O El n c (x :: l) (s.next O (c x)):=by
 intro φ hφ;have key : (∀i,i<s.rows.length->φ (an s.rows i)=0)->((φ (c x)=0) ↔ ∀i,i<(s.next O (c x)).rows.length->φ (an (s.next O (c x)).rows i)=0):=by
  intro h0;have hu : Vc El n (s.red O (c x)):=Vc.bu F h.ok (hc x) _ (IZ _);have hform:=h.form F hφ h0 (hc x) _ (IZ _);unfold BS.next;split
  ·rename_i ht;have hf : fY (s.red O (c x))<(s.red O (c x)).length:=by simpa [BS.dz] using ht
   have hne:=iY _ hf;have hl:=hu.1;have hel:=hu.at (i:=fY (s.red O (c x))) (by omega);have hi:=F.cl.inv _ hel hne;have hscl:=hφ.Ba _ _ hu hi;have hine : O.inv (nth (s.red O (c x)) (fY (s.red O (c x)))) ≠ 0:=by intro e;have:=F.mul_inv _ hel hne;rw [e,F.et hel] at this;exact absurd this (by decide)
   constructor
   ·intro hx i hi2;simp only [Jh,Js] at hi2;simp only [jV];by_cases e : i<s.rows.length
    ·rw [I6 e];exact h0 i e
    ·rw [I5 e,I6 (by omega),hscl];show O.mul _ (φ (bu O s.rows s.place (c x) s.rows.length))=0;rw [hform,hx,F.et hi]
   ·intro hall;have:=hall s.rows.length (by simp);simp only [jV] at this;rw [I5 (K3 _),I6 trivial,hscl] at this;rw [<- hform];exact F.vn hi (hφ.el _ hu) hine this
  ·rename_i ht;exact ⟨λ_=>h0,λ_=>(jk F h (hc x)).1 (by simpa using ht) φ hφ h0⟩
 constructor
 ·intro hall;have h1 : ∀i,i<s.rows.length->φ (an s.rows i)=0:=(hs φ hφ).1 λy hy=>hall y (List.mem_cons.2 (.inr hy));exact (key h1).1 (hall x (by simp))
 ·intro hall;have h1 : ∀i,i<s.rows.length->φ (an s.rows i)=0:=by
   intro i hi;have hlen : s.rows.length<=(s.next O (c x)).rows.length:=by unfold BS.next;split <;> simp
   have:=hall i (by omega);unfold BS.next at this;split at this
   ·simp only [jV] at this;rw [I6 hi] at this;exact this
   ·exact this
  intro y hy;rcases List.mem_cons.1 hy with rfl | hy
  ·exact (key h1).2 hall
  ·exact (hs φ hφ).2 h1 y hy
def mw (Q : Lz) : Nat->LN
 | 0=>[]
 | k+1=>(nth Q k).toNat :: mw Q k
theorem gQ (Q : Lz) (x : Nat) : ∀k,x ∈ mw Q k ↔ ∃j,j<k/\(nth Q j).toNat=x
 | 0=>by simp [mw]
 | k+1=>by
  rw [mw,List.mem_cons,gQ Q x k];constructor
  ·rintro (h | ⟨j,hj,h⟩)
   ·exact ⟨k,by omega,h.symm⟩
   ·exact ⟨j,by omega,h⟩
  ·rintro ⟨j,hj,h⟩;by_cases e : j=k
   ·subst e;exact .inl h.symm
   ·exact .inr ⟨j,by omega,h⟩
theorem gu {m : Nat} {L : Ll} (h : cw El m L) (h0 : El 0) (i : Nat) : Vc El L.length (bs L i):=by
 refine ⟨cQ _ _,λy hy=>?_⟩;unfold bs at hy;obtain ⟨r,hr,rfl⟩:=List.mem_map.1 hy;by_cases hi : i<m
 ·exact (h r hr).2 _ (aK (by rw [(h r hr).1];exact hi))
 ·have : nth r i=0:=by unfold nth;rw [Jc,JZ (by rw [(h r hr).1];omega)];rfl
  rw [this];exact h0
theorem vz (F : dw O El) {m : Nat} {L : Ll} (hL : cw El m L) (Q : Lz) : ∀k,(bU O L Q k).1.Inv El L.length/\FQ O El L.length (bs L) (mw Q k) (bU O L Q k).1 /\
  Rk (oV O El L.length (bs L)) (mw Q k) (bU O L Q k).2.length
 | 0=>⟨⟨⟨λr hr=>by simp [bU] at hr,rfl,λi hi=>by simp [bU] at hi⟩,λi hi=>by simp [bU] at hi,λj i _ hi=>by simp [bU] at hi⟩,λφ _=>⟨λ_ i hi=>by simp [bU] at hi,λ_ y hy=>by simp [mw] at hy⟩,.nil⟩
 | k+1=>by
  obtain ⟨h1,h2,h3⟩:=vz F hL Q k;have hc:=gu hL F.zero;refine ⟨h1.next F (hc _),h2.next F hc h1 _,?_⟩;have htk:=jk F h1 (hc (nth Q k).toNat);have hcl : oV O El L.length (bs L) (mw Q k) (nth Q k).toNat ↔ (bU O L Q k).1.dz O (bs L (nth Q k).toNat)=false:=by rw [htk];exact ⟨λh φ hφ h0=>h φ hφ ((h2 φ hφ).2 h0),λh φ hφ h0=>h φ hφ ((h2 φ hφ).1 h0)⟩
  rw [mw,bU];by_cases ht : (bU O L Q k).1.dz O (bs L (nth Q k).toNat)=true
  ·rw [I6 ht];simp only [Jh,Js];exact .ind _ (λh=>by rw [hcl.1 h] at ht;simp at ht) h3
  ·rw [I5 ht];exact .dep _ (hcl.2 (by simpa using ht)) h3
theorem Ds (F : dw O El) {m : Nat} {L : Ll} (hL : cw El m L) (Q : Lz) : Rk (oV O El L.length (bs L)) (mw Q Q.length) (gD O L Q).length:=(vz F hL Q Q.length).2.2
theorem iL (F : dw O El) {m : Nat} {L : Ll} (hL : cw El m L) : BM (oV O El L.length (bs L)):=F1 F (gu hL F.zero)
end
theorem gS (a : OA) (n c : Nat) (l : Lz) (a' : OA) (n' c' : Nat) (l' : Lz) {w : World} (h : Ints w a n l) (h' : Ints w a' n' l') :
  Calls prog 19 #[.slice a n c,.slice a' n' c'] w (jR w (decide (l=l'))):=by
 have Hl:=Z5 h.len;have Hl':=Z5 h'.len;have hpl:=h.pl;have hpl':=h'.pl;have hmax:=h.max;unfold maxLen at hmax;by_cases hn : n=n'
 ·subst hn;have hnn : ((n : Int) != n)=false:=by simp
  go_enter func19,ntmps19;go_wp2_with fail;go_loopw [5] (λiv wr=>∃k : Nat,k<=n/\iv = .int .i64 k/\Hid (l.take k=l'.take k)/\bf w wr) (λi _=>n - (intOf i).toNat);case atStart=>exact ⟨0,I7 _,rfl,rfl,No _⟩
  case round =>
   obtain ⟨k,hk,rfl,htk,hd⟩:=hrel
   by_cases hlt : k<n
   ·have c1:=(h.drawn hd).cell k hlt
    have c2:=(h'.drawn hd).cell k hlt
    by_cases he : nth l k=nth l' k
    ·have he' : (nth l k != nth l' k)=false:=by simpa using he
     have Hs : Hid (l.take (k+1)=l'.take (k+1)):=oZ htk.out (by rw [Hl.out];exact hlt) (by rw [Hl'.out];exact hlt) he
     clear he
     go_wp2_with fail
     go_quiet (fail)
     go_wp2
     go_roundw
     case rel=>exact ⟨k+1,by omega,by go_num,Hs.out,hd.drewN _⟩
     case measure=>simp [intOf] <;> omega
    ·have he' : (nth l k != nth l' k)=true:=by simpa using he
     have Hs : Hid (decide (l=l')=false):=by show _=_;simp;intro e;exact he (by rw [e])
     clear he
     go_wp2_with fail
     go_quiet (fail)
     go_wp2
     go_ret
     exact ⟨bd Hs.out.symm,hd.drewN _⟩
   ·obtain rfl : k=n:=by omega
    have Hs : Hid (decide (l=l')=true):=by show _=_;have:=htk.out;rw [I8 (by rw [Hl.out];exact IZ _),I8 (by rw [Hl'.out];exact IZ _)] at this;simpa using this
    go_wp2_with fail
    go_ret
    exact ⟨bd Hs.out.symm,hd⟩
 ·have hnn : ((n : Int) != n')=true:=by simp;omega
  have Hs : Hid (decide (l=l')=false):=by show _=_;simp;intro e;have e1:=Hl.out;have e2:=Hl'.out;rw [e] at e1;omega
  clear hn;go_enter func19,ntmps19;go_wp2_with fail;go_ret;exact ⟨bd Hs.out.symm,No _⟩
theorem jD (a : OA) (n c : Nat) (l : Ll) (a' : OA) (n' c' : Nat) (l' : Ll) {w : World} (h : ch w a n l) (h' : ch w a' n' l') :
  Calls prog 46 #[.slice a n c,.slice a' n' c'] w (jR w (decide (l=l'))):=by
 have Hl:=Z5 h.len;have Hl':=Z5 h'.len;have hpl:=h.pl;have hpl':=h'.pl;have hmax:=h.max;unfold maxLen at hmax;by_cases hn : n=n'
 ·subst hn;have hnn : ((n : Int) != n)=false:=by simp
  go_enter func46,ntmps46;go_wp2_with fail;go_loopw [5] (λiv wr=>∃k : Nat,k<=n/\iv = .int .i64 k/\Hid (l.take k=l'.take k)/\bf w wr) (λi _=>n - (intOf i).toNat);case atStart=>exact ⟨0,I7 _,rfl,rfl,No _⟩
  case round =>
   obtain ⟨k,hk,rfl,htk,hd⟩:=hrel
   by_cases hlt : k<n
   ·obtain ⟨b1,n1,d1,c1,i1⟩:=(h.drawn hd).cell k hlt
    obtain ⟨b2,n2,d2,c2,i2⟩:=(h'.drawn hd).cell k hlt
    have Hc:=Z5 (gS b1 n1 d1 _ b2 n2 d2 _ (i1.drawn (No wr).drew) (i2.drawn (No wr).drew))
    by_cases he : an l k=an l' k
    ·have he' : decide (an l k=an l' k)=true:=by simpa using he
     have Hs : Hid (l.take (k+1)=l'.take (k+1)):=nP htk.out (by rw [Hl.out];exact hlt) (by rw [Hl'.out];exact hlt) he
     rw [he'] at Hc
     clear he he'
     go_wp2_with fail
     go_region_held3 (λV=>V.cell? ⟨aj a,aL a+k,none⟩=some (.slice b1 n1 d1)/\V.cell? ⟨aj a',aL a'+k,none⟩=some (.slice b2 n2 d2)) (exact ⟨c1,c2⟩)
      (first | (go_at_call 19;((with_reducible refine Hc.out.mono ?_);rintro e w4 ⟨rfl,m4,rfl⟩)))
     go_wp2_with fail
     go_roundw
     case rel=>exact ⟨k+1,by omega,by go_num,Hs.out,hd.drewN (1+m4)⟩
     case measure=>simp [intOf] <;> omega
    ·have he' : decide (an l k=an l' k)=false:=by simpa using he
     have Hs : Hid (decide (l=l')=false):=by show _=_;simp;intro e;exact he (by rw [e])
     rw [he'] at Hc
     clear he he'
     go_wp2_with fail
     go_region_held3 (λV=>V.cell? ⟨aj a,aL a+k,none⟩=some (.slice b1 n1 d1)/\V.cell? ⟨aj a',aL a'+k,none⟩=some (.slice b2 n2 d2)) (exact ⟨c1,c2⟩)
      (first | (go_at_call 19;((with_reducible refine Hc.out.mono ?_);rintro e w4 ⟨rfl,m4,rfl⟩)))
     go_wp2_with fail
     go_ret
     exact ⟨bd Hs.out.symm,hd.drewN (1+m4)⟩
   ·obtain rfl : k=n:=by omega
    have Hs : Hid (decide (l=l')=true):=by show _=_;have:=htk.out;rw [I8 (by rw [Hl.out];exact IZ _),I8 (by rw [Hl'.out];exact IZ _)] at this;simpa using this
    go_wp2_with fail
    go_ret
    exact ⟨bd Hs.out.symm,hd⟩
 ·have hnn : ((n : Int) != n')=true:=by simp;omega
  have Hs : Hid (decide (l=l')=false):=by show _=_;simp;intro e;have e1:=Hl.out;have e2:=Hl'.out;rw [e] at e1;omega
  clear hn;go_enter func46,ntmps46;go_wp2_with fail;go_ret;exact ⟨bd Hs.out.symm,No _⟩
theorem vd (P M : Int) (am : OA) (mn cm : Nat) (a : OA) (n c : Nat) (l : Lz) (w : World) (hi : Ints w a n l) :
  Calls prog 76 #[.agg #[.int .i64 P,.int .i64 M,.slice am mn cm],.slice a n c] w λe w'=>e = .returned (.int .i64 (ki (aN P M) l))/\NS w w':=by
 have Hlen:=Z5 hi.len;have hpl:=hi.pl;have hmax:=hi.max;unfold maxLen at hmax;go_enter func76,ntmps76;go_wp2_with fail;obtain ⟨W,hW⟩ : ∃W : World,W=w.alloc (.cells #[.int .i64 P,.int .i64 M,.slice am mn cm] 24):=⟨_,rfl⟩
 rw [<- hW];have hbW : NS w W:=by rw [hW];exact aw _ _
 have x0 : aZ W w.heap.size [.int .i64 P,.int .i64 M,.slice am mn cm]:=by rw [hW];exact Nj _ _ _ rfl
 have hiW:=hi.aa hbW;have hS : ∀k,k<n->∀V,NS W V->V.cell? ⟨w.heap.size,0,none⟩=some (.int .i64 P)/\V.cell? ⟨w.heap.size,1,none⟩=some (.int .i64 M)/\V.cell? ⟨w.heap.size,2,none⟩=some (.slice am mn cm)/\V.cell? ⟨aj a,aL a+k,none⟩=some (.int .i64 (nth l k))/\NS W V:=by intro k hk V hV;have x1:=x0.aa hV;exact ⟨x1.cell 0 rfl,x1.cell 1 rfl,x1.cell 2 rfl,(hiW.aa hV).cell k hk,hV⟩
 have HS:=Z5 hS;clear hW x0 hS;go_loopw [5] (λiv wr=>∃k : Nat,k<=n/\iv = .int .i64 k/\Hid ((l.take k).all (jj (aN P M))=true)/\NS W wr) (λiv _=>n - (intOf iv).toNat);case atStart=>exact ⟨0,I7 _,rfl,by show _=_;simp,I1 _ _⟩
 case round =>
  obtain ⟨k,hk,rfl,hall,hbr⟩:=hrel
  by_cases hlt : k<n
  ·have HSk : Hid (∀V,NS W V->V.cell? ⟨w.heap.size,0,none⟩=some (.int .i64 P)/\V.cell? ⟨w.heap.size,1,none⟩=some (.int .i64 M)/\V.cell? ⟨w.heap.size,2,none⟩=some (.slice am mn cm)/\V.cell? ⟨aj a,aL a+k,none⟩=some (.int .i64 (nth l k))/\NS W V):=HS.out k hlt
   have hkl : k<l.length:=by rw [Hlen.out];exact hlt
   have Hbr:=Z5 hbr
   have Hq:=Z5 (AU P M am mn cm (nth l k))
   clear hbr
   by_cases hq : jj (aN P M) (nth l k)=true
   ·have Hs : Hid ((l.take (k+1)).all (jj (aN P M))=true):=cX hkl hall.out (by rw [<- ai hkl];exact hq)
    rw [hq] at Hq
    clear hq
    go_wp2_with fail
    go_region_held3 (λV=>V.cell? ⟨w.heap.size,0,none⟩=some (.int .i64 P)/\V.cell? ⟨w.heap.size,1,none⟩=some (.int .i64 M)/\V.cell? ⟨w.heap.size,2,none⟩=some (.slice am mn cm)/\V.cell? ⟨aj a,aL a+k,none⟩=some (.int .i64 (nth l k))/\NS W V)
     ((refine HSk.out _ ?_;first | exact Hbr.out.drew | exact Nh Hbr.out.drew hb4))
     (first | (go_at_call 145;((with_reducible refine (Hq.out _).mono ?_);rintro e w4 ⟨rfl,hb4⟩)))
    go_wp2_with fail
    go_roundw
    case rel=>exact ⟨k+1,by omega,by go_num,Hs.out,Nh Hbr.out.drew hb4⟩
    case measure=>simp [intOf] <;> omega
   ·have hq' : jj (aN P M) (nth l k)=false:=by simpa using hq
    have Hs : Hid (ki (aN P M) l=2):=by show _=_;rw [ki,iM,db hkl (by rw [<- ai hkl];exact hq')];rfl
    rw [hq'] at Hq
    clear hq hq'
    go_wp2_with fail
    go_region_held3 (λV=>V.cell? ⟨w.heap.size,0,none⟩=some (.int .i64 P)/\V.cell? ⟨w.heap.size,1,none⟩=some (.int .i64 M)/\V.cell? ⟨w.heap.size,2,none⟩=some (.slice am mn cm)/\V.cell? ⟨aj a,aL a+k,none⟩=some (.int .i64 (nth l k))/\NS W V)
     ((refine HSk.out _ ?_;first | exact Hbr.out.drew | exact Nh Hbr.out.drew hb4))
     (first | (go_at_call 145;((with_reducible refine (Hq.out _).mono ?_);rintro e w4 ⟨rfl,hb4⟩)))
    go_wp2_with fail
    go_ret
    exact ⟨aH Hs.out.symm,Nh hbW (Nh Hbr.out.drew hb4)⟩
  ·obtain rfl : k=n:=by omega
   have Hs : Hid (ki (aN P M) l=0):=by have:=hall.out;rw [I8 (by rw [Hlen.out];exact IZ _)] at this;show _=_;rw [ki,iM,this];rfl
   go_wp2_with fail
   go_ret
   exact ⟨aH Hs.out.symm,Nh hbW hbr⟩
section
variable {O : aS} {El : Int->Prop} {m n : Nat}
theorem kF.smul (F : dw O El) {φ : Lz->Int} (h : kF O El n φ) {s : Int} (hs : El s) : kF O El n (λv=>O.mul s (φ v)) :=
 ⟨λv hv=>F.cl.mul _ _ hs (h.el v hv),
  λv r x hv hr hx=>by show O.mul s (φ (dF O v x r))=O.add (O.mul s (φ v)) (O.neg (O.mul x (O.mul s (φ r))));have h1:=h.el v hv;have h2:=h.el r hr;rw [h.sub v r x hv hr hx,F.mul_add s _ _ hs h1 (F.cl.neg _ (F.cl.mul _ _ hx h2)),F.mul_neg hs (F.cl.mul _ _ hx h2),<- F.mul_assoc s x _ hs hx h2,F.mul_comm s x hs hx,F.mul_assoc x s _ hx hs h2],
  λr x hr hx=>by show O.mul s (φ (r.map (O.mul x)))=O.mul x (O.mul s (φ r));have h2:=h.el r hr;rw [h.Ba r x hr hx,<- F.mul_assoc s x _ hs hx h2,F.mul_comm s x hs hx,F.mul_assoc x s _ hx hs h2]⟩
theorem eE (g : Nat->Int) (k i : Nat) (hi : i<k) : nth ((List.range k).map g) i=g i:=by rw [ai (by simpa using hi)];simp
theorem kF.vec {k : Nat} {e : Lz->Int} (he : kF O El k e) (g : Nat->Lz->Int) (hg : ∀i,i<k->kF O El n (g i)) : kF O El n (λv=>e ((List.range k).map λi=>g i v)):=by
 have hv' : ∀v,Vc El n v->Vc El k ((List.range k).map λi=>g i v):=λv hv=>⟨by simp,λy hy=>by obtain ⟨i,hi,rfl⟩:=List.mem_map.1 hy;exact (hg i (List.mem_range.1 hi)).el v hv⟩
 refine ⟨λv hv=>he.el _ (hv' v hv),λv r x hv hr hx=>?_,λr x hr hx=>?_⟩
 ·show e _=_;rw [<- he.sub _ _ x (hv' v hv) (hv' r hr) hx];congr 1;refine fQ (by rw [dY _ _ _ _ (by simp)];simp) λi hi=>?_;have hi' : i<k:=by simpa using hi
  rw [eF O _ x _ i (by simp) (by simpa using hi'),eE _ _ _ hi',eE _ _ _ hi',eE _ _ _ hi'];exact (hg i hi').sub v r x hv hr hx
 ·show e _=_;rw [<- he.Ba _ x (hv' r hr) hx];congr 1;refine fQ (by simp) λi hi=>?_;have hi' : i<k:=by simpa using hi
  rw [gR O _ x (by simpa using hi'),eE _ _ _ hi',eE _ _ _ hi'];exact (hg i hi').Ba r x hr hx
def RS (O : aS) (El : Int->Prop) (m : Nat) (L : Ll) (f : Nat->Int) : Prop:=∃e,kF O El L.length e/\∀x,x<m->f x=e (bs L x)
theorem RS.row (F : dw O El) {L : Ll} {i : Nat} (hi : i<L.length) : RS O El m L (λx=>nth (an L i) x) :=
 ⟨λv=>nth v i,kF.A1 F hi,λx _=>(dX L x i hi).symm⟩
theorem RS.comb (F : dw O El) {L : Ll} {f g : Nat->Int} (hf : RS O El m L f) (hg : RS O El m L g) {s : Int} (hs : El s) : RS O El m L (λx=>O.add (f x) (O.neg (O.mul (g x) s))):=by obtain ⟨a,ha,ha2⟩:=hf;obtain ⟨b,hb,hb2⟩:=hg;exact ⟨_,ha.comb F hb hs,λx hx=>by show O.add (f x) _=_;rw [ha2 x hx,hb2 x hx]⟩
theorem RS.smul (F : dw O El) {L : Ll} {f : Nat->Int} (hf : RS O El m L f) {s : Int} (hs : El s) : RS O El m L (λx=>O.mul s (f x)):=by obtain ⟨a,ha,ha2⟩:=hf;exact ⟨_,ha.smul F hs,λx hx=>by show O.mul s (f x)=_;rw [ha2 x hx]⟩
theorem RS.congr {L : Ll} {f g : Nat->Int} (hf : RS O El m L f) (h : ∀x,x<m->g x=f x) : RS O El m L g:=by obtain ⟨a,ha,ha2⟩:=hf;exact ⟨a,ha,λx hx=>by rw [h x hx,ha2 x hx]⟩
def iB (O : aS) (El : Int->Prop) (m : Nat) (A B : Ll) : Prop:=∀i,i<A.length->RS O El m B (λx=>nth (an A i) x)
theorem iB.refl (F : dw O El) (L : Ll) : iB O El m L L:=λ_ hi=>.row F hi
theorem iB.rs {A B : Ll} (h : iB O El m A B) {f : Nat->Int} (hf : RS O El m A f) : RS O El m B f:=by
 obtain ⟨e,he,he2⟩:=hf;obtain ⟨g,hg⟩ : ∃g : Nat->Lz->Int,∀i,i<A.length->kF O El B.length (g i)/\∀x,x<m->nth (an A i) x=g i (bs B x):=by
  have h2 : ∀i,∃g : Lz->Int,i<A.length->kF O El B.length g/\∀x,x<m->nth (an A i) x=g (bs B x):=λi=>by
   by_cases hi : i<A.length
   ·obtain ⟨g,h1,h2⟩:=h i hi;exact ⟨g,λ_=>⟨h1,h2⟩⟩
   ·exact ⟨λ_=>0,λh=>absurd h hi⟩
  exact ⟨λi=>Classical.choose (h2 i),λi hi=>Classical.choose_spec (h2 i) hi⟩
 refine ⟨_,he.vec g λi hi=>(hg i hi).1,λx hx=>?_⟩;rw [he2 x hx];congr 1;refine fQ (by simp [cQ]) λi hi=>?_;rw [cQ] at hi;rw [eE _ _ _ hi,dX A x i hi];exact (hg i hi).2 x hx
theorem iB.trans {A B C : Ll} (h : iB O El m A B) (h2 : iB O El m B C) : iB O El m A C:=λi hi=>h2.rs (h i hi)
theorem iB.cl {A B : Ll} (h : iB O El m A B) {l : LN} {x : Nat} (hl : ∀y ∈ l,y<m) (hx : x<m) (hc : oV O El B.length (bs B) l x) : oV O El A.length (bs A) l x:=by intro φ hφ h0;obtain ⟨e,he,he2⟩:=h.rs (f:=λx=>φ (bs A x)) ⟨φ,hφ,λ_ _=>rfl⟩;have e1 : φ (bs A x)=e (bs B x):=he2 x hx;rw [e1];refine hc e he λy hy=>?_;rw [<- he2 y (hl y hy)];exact h0 y hy
structure pM (L : Ll) (P : Lz) (c : Nat) : Prop where
 le : P.length<=L.length
 lt : ∀j,j<P.length->0<=nth P j/\nth P j<c
 one : ∀j i,j<P.length->i<L.length->nth (an L i) (nth P j).toNat=if i=j then 1 else 0
 zero : ∀i x,P.length<=i->i<L.length->x<c->nth (an L i) x=0
def sw (t k i : Nat) : Nat:=if i=t then k else if i=k then t else i
theorem G9 {t k n i : Nat} (ht : t<n) (hk : k<n) (hi : i<n) : sw t k i<n:=by unfold sw;split;exact hk;split;exact ht;exact hi
theorem Fp {L : Ll} {t k : Nat} (ht : t<L.length) (hk : k<L.length) (i : Nat) : an (if k=t then L else bh L t k) i=an L (sw t k i):=by
 unfold sw bh;split
 ·rename_i e;subst e;split
  ·rename_i e;rw [e]
  ·rfl
 ·rename_i hne;rw [fA _ _ _ _ (by simpa using hk),fA _ _ _ _ ht];by_cases h1 : i=t
  ·rw [I5 (by omega),I6 h1,I6 h1]
  ·rw [I5 h1,I5 h1];by_cases h2 : i=k
   ·rw [I6 h2,I6 h2]
   ·rw [I5 h2,I5 h2]
theorem EM (F : dw O El) {L : Ll} (hL : cw El m L) {t c : Nat} (ht : t<L.length) {i x : Nat} (hx : x<m) :
  nth (an (bm O L t c) i) x=if i=t then O.mul (O.inv (nth (an L t) c)) (nth (an L t) x) else nth (an L i) x:=by
 have hr:=hL.row ht;have he : El (nth (an L t) x):=hr.2 _ (aK (by rw [hr.1];exact hx));unfold bm;split
 ·rename_i h1;split
  ·rename_i e;rw [e,h1,F.one_mul _ he]
  ·rfl
 ·rw [fA _ _ _ _ ht];split
  ·exact gR O _ _ (by rw [hr.1];exact hx)
  ·rfl
theorem qP (O : aS) (t c : Nat) (L : Ll) : ∀i,i<=L.length->∀j,an (aR O t c L i) j=if j<i/\j ≠ t then bY O (an L t) c (an L j) else an L j
 | 0,_,j=>by rw [I5 (by omega)];rfl
 | i+1,hi,j=>by
  have ih:=qP O t c L i (by omega);unfold aR;split
  ·rename_i e;rw [ih j];by_cases h : j<i/\j ≠ t
   ·rw [I6 h,I6 ⟨by omega,h.2⟩]
   ·rw [I5 h,I5 (by omega)]
  ·rename_i e;have e1 : an (aR O t c L i) t=an L t:=by rw [ih t,I5 (by omega)]
   have e2 : an (aR O t c L i) i=an L i:=by rw [ih i,I5 (by omega)]
   rw [fA _ _ _ _ (by rw [cY];omega),e1,e2];by_cases h : j=i
   ·subst h;rw [I6 rfl,I6 ⟨by omega,e⟩]
   ·rw [I5 h,ih j];by_cases h2 : j<i/\j ≠ t
    ·rw [I6 h2,I6 ⟨by omega,h2.2⟩]
    ·rw [I5 h2,I5 (by omega)]
theorem uA (F : dw O El) {pv r : Lz} {c x : Nat} (hp : Vc El m pv) (hr : Vc El m r) (hc : c<m) (hx : x<m) :
  nth (bY O pv c r) x=O.add (nth r x) (O.neg (O.mul (nth pv x) (nth r c))):=by
 have h1:=hp.at hx;have h2:=hr.at hx;have h3:=hr.at hc;unfold bY;split
 ·rename_i h0;rw [h0,F.et h1,F.gU,F.add_zero _ h2]
 ·rw [gK O r _ pv x (by rw [hp.1,hr.1]) (by rw [hr.1];exact hx)];split
  ·rename_i h0;rw [h0,F.oD h3,F.gU,F.add_zero _ h2]
  ·rw [F.neg_mul h3 h1,F.mul_comm _ _ h3 h1]
section
variable {L : Ll} {t k c : Nat}
theorem eJ (F : dw O El) (hL : cw El m L) (ht : t<L.length) (hk : k<L.length) (hc : c<m) (h0 : nth (an L k) c ≠ 0) {i x : Nat} (hi : i<L.length) (hx : x<m) :
  nth (an (ed O L t k c) i) x=if i=t then O.mul (O.inv (nth (an L k) c)) (nth (an L k) x) else
   O.add (nth (an L (sw t k i)) x) (O.neg (O.mul (O.mul (O.inv (nth (an L k) c)) (nth (an L k) x)) (nth (an L (sw t k i)) c))):=by
 rw [gN];obtain ⟨L1,hL1⟩ : ∃L1,(if k=t then L else bh L t k)=L1:=⟨_,rfl⟩
 have hn1 : ∀i,an L1 i=an L (sw t k i):=λi=>by rw [<- hL1];exact Fp ht hk i
 have hl1 : L1.length=L.length:=by rw [<- hL1];split <;> simp [dJ]
 have hR1 : cw El m L1:=by
  rw [<- hL1];split
  ·exact hL
  ·exact hL.swap ht hk
 have hswt : sw t k t=k:=by simp [sw]
 have h01 : nth (an L1 t) c ≠ 0:=by rw [hn1,hswt];exact h0
 rw [hL1];have hR2 : cw El m (bm O L1 t c):=hR1.norm F.cl (by omega) hc h01;have hN : ∀ {i x : Nat},x<m->nth (an (bm O L1 t c) i) x=if i=t then O.mul (O.inv (nth (an L1 t) c)) (nth (an L1 t) x) else nth (an L1 i) x:=λhx=>EM F hR1 (by omega) hx
 rw [qP O t c _ L.length (by rw [cZ];omega)];by_cases e : i=t
 ·rw [I5 (by omega),I6 e,hN hx,I6 e,hn1,hswt]
 ·rw [I6 ⟨hi,e⟩,I5 e,uA F (hR2.row (by rw [cZ];omega)) (hR2.row (by rw [cZ];omega)) hc hx,hN hx,hN hx,hN hc,I5 e,I5 e,I6 rfl,hn1,hn1,hswt]
variable (F : dw O El) (hL : cw El m L) (ht : t<L.length) (hk : k<L.length) (hc : c<m) (h0 : nth (an L k) c ≠ 0)
include F hL ht hk hc h0
theorem yX : iB O El m (ed O L t k c) L:=by
 intro i hi;rw [dZ] at hi;have hp : El (nth (an L k) c):=Vc.at (hL.row hk) hc;have hpi:=F.cl.inv _ hp h0;by_cases e : i=t
 ·exact ((RS.row F hk).smul F hpi).congr λx hx=>by rw [eJ F hL ht hk hc h0 hi hx,I6 e]
 ·have hs:=G9 ht hk hi;exact ((RS.row F hs).comb F ((RS.row F hk).smul F hpi) (s:=nth (an L (sw t k i)) c) (Vc.at (hL.row hs) hc)).congr λx hx=>by rw [eJ F hL ht hk hc h0 hi hx,I5 e]
theorem ze : iB O El m L (ed O L t k c):=by
 intro i hi;have hp : El (nth (an L k) c):=Vc.at (hL.row hk) hc;have hpi:=F.cl.inv _ hp h0;have htB : t<(ed O L t k c).length:=by rw [dZ];exact ht
 by_cases e : i=k
 ·refine ((RS.row F htB).smul F hp).congr λx hx=>?_;have hx1 : El (nth (an L k) x):=Vc.at (hL.row hk) hx;rw [eJ F hL ht hk hc h0 ht hx,I6 rfl,<- F.mul_assoc _ _ _ hp hpi hx1,F.mul_inv _ hp h0,F.one_mul _ hx1,e]
 ·have hj : ∃j,j<L.length/\j ≠ t/\sw t k j=i:=by
   by_cases e2 : i=t
   ·exact ⟨k,hk,by omega,by unfold sw;rw [I5 (by omega),I6 rfl,e2]⟩
   ·exact ⟨i,hi,e2,by unfold sw;rw [I5 e2,I5 e]⟩
  obtain ⟨j,hj,hjt,hsw⟩:=hj;have hs : El (nth (an L i) c):=Vc.at (hL.row hi) hc;refine ((RS.row F (i:=j) (by rw [dZ];exact hj)).comb F (RS.row F htB) (s:=O.neg (nth (an L i) c)) (F.cl.neg _ hs)).congr λx hx=>?_;have hx1 : El (nth (an L k) x):=Vc.at (hL.row hk) hx;have hx2 : El (nth (an L i) x):=Vc.at (hL.row hi) hx;have hy:=F.cl.mul _ _ hpi hx1;have hq:=F.cl.mul _ _ hy hs;rw [eJ F hL ht hk hc h0 ht hx,I6 rfl,eJ F hL ht hk hc h0 hj hx,I5 hjt,hsw,F.mul_neg hy hs,F.neg_neg hq,F.add_assoc _ _ _ hx2 (F.cl.neg _ hq) hq,F.ru hq,F.add_zero _ hx2]
end
theorem pM.next (F : dw O El) {L : Ll} {P : Lz} {c k : Nat} (h : pM L P c) (hL : cw El m L) (hc : c<m) (ht : P.length<L.length) (hk : k<L.length) (htk : P.length<=k) (h0 : nth (an L k) c ≠ 0) :
  pM (ed O L P.length k c) (P ++ [(c : Int)]) (c+1):=by
 have hp : El (nth (an L k) c):=Vc.at (hL.row hk) hc;have hpi:=F.cl.inv _ hp h0;have hsw : ∀i,P.length<=i->i<L.length->P.length<=sw P.length k i/\sw P.length k i<L.length:=λi h1 h2=>by unfold sw;split;omega;split <;> omega
 have hswl : ∀i,i<P.length->sw P.length k i=i:=λi h1=>by unfold sw;rw [I5 (by omega),I5 (by omega)]
 refine ⟨by rw [dZ,Jh];simp;omega,λj hj=>?_,λj i hj hi=>?_,λi x h1 h2 hx=>?_⟩
 ·rw [gY];rw [Jh,Js] at hj;by_cases e : j<P.length
  ·rw [I6 e];have:=h.lt j e;omega
  ·rw [I5 e,I6 (by omega)];omega
 ·rw [Jh,Js] at hj;rw [dZ] at hi;rw [gY];by_cases e : j<P.length
  ·rw [I6 e];have hb:=h.lt j e;have hx : (nth P j).toNat<m:=by omega
   have hk0:=h.one j k e hk;rw [I5 (by omega)] at hk0;rw [eJ F hL ht hk hc h0 hi hx,hk0,F.et hpi];by_cases e2 : i=P.length
   ·rw [I6 e2,I5 (by omega)]
   ·rw [I5 e2];have hsl : sw P.length k i<L.length:=by unfold sw;split;omega;split <;> omega
    rw [F.oD (Vc.at (hL.row hsl) hc),F.gU,F.add_zero _ (Vc.at (hL.row hsl) hx),h.one j _ e hsl];by_cases e3 : i<P.length
    ·rw [hswl i e3]
    ·have:=(hsw i (by omega) hi).1;rw [I5 (by omega),I5 (by omega)]
  ·have ej : j=P.length:=by omega
   rw [I5 e,I6 ej,Jd,eJ F hL ht hk hc h0 hi hc,ej];by_cases e2 : i=P.length
   ·rw [I6 e2,I6 e2,F.mul_comm _ _ hpi hp,F.mul_inv _ hp h0]
   ·rw [I5 e2,I5 e2];have hsl : sw P.length k i<L.length:=by unfold sw;split;omega;split <;> omega
    have hq : El (nth (an L (sw P.length k i)) c):=Vc.at (hL.row hsl) hc;rw [F.mul_comm _ _ hpi hp,F.mul_inv _ hp h0,F.one_mul _ hq,F.add_neg _ hq]
 ·rw [Jh,Js] at h1;rw [dZ] at h2;have hxm : x<m:=by omega
  have hs:=hsw i (by omega) h2;have hq : El (nth (an L (sw P.length k i)) c):=Vc.at (hL.row hs.2) hc;rw [eJ F hL ht hk hc h0 h2 hxm,I5 (by omega)];by_cases e : x=c
  ·subst e;rw [F.mul_comm _ _ hpi hp,F.mul_inv _ hp h0,F.one_mul _ hq,F.add_neg _ hq]
  ·rw [h.zero _ x hs.1 hs.2 (by omega),h.zero k x htk hk (by omega),F.et hpi,F.oD hq,F.gU,F.add_zero 0 F.zero]
theorem jI (F : dw O El) {L : Ll} (hL : cw El m L) (k : Nat) (hk : k<=m) : cw El m (aD O L k).1 :=
 (fV (O':=O) ⟨λ_ _ _ _=>rfl,λ_ _ _ _=>rfl,λ_ _=>rfl,λ_ _ _=>rfl⟩ F.cl hL k hk).2
theorem i5 (F : dw O El) {L : Ll} (hL : cw El m L) : ∀k,k<=m->pM (aD O L k).1 (aD O L k).2 k/\iB O El m (aD O L k).1 L/\iB O El m L (aD O L k).1
 | 0,_=>⟨⟨I7 _,λj hj=>by simp [aD] at hj,λj i hj=>by simp [aD] at hj,λi x _ _ hx=>by omega⟩,.refl F L,.refl F L⟩
 | k+1,hk=>by
  obtain ⟨h1,h2,h3⟩:=i5 F hL k (by omega);have hR:=jI F hL k (by omega);have hb:=my (L:=(aD O L k).1) (c:=k) (k:=(aD O L k).2.length) h1.le;by_cases hlt : (aD O L k).2.length<(aD O L k).1.length
  ·rw [du (Lk:=(aD O L k).1) (P:=(aD O L k).2) rfl hlt];split
   ·rename_i hf;refine ⟨⟨h1.le,λj hj=>⟨(h1.lt j hj).1,Int.lt_trans (h1.lt j hj).2 (by omega)⟩,h1.one,λi x hi1 hi2 hx=>?_⟩,h2,h3⟩;by_cases e : x=k
    ·subst e;exact pf _ x ((aD O L x).1.length - (aD O L x).2.length) _ i hi1 (by show i<bn _ x _;rw [hf];exact hi2)
    ·exact h1.zero i x hi1 hi2 (by omega)
   ·rename_i hf;have hfl : bn (aD O L k).1 k (aD O L k).2.length<(aD O L k).1.length:=by omega
    have hne : nth (an (aD O L k).1 (bn (aD O L k).1 k (aD O L k).2.length)) k ≠ 0:=jw _ k _ _ (by show bn _ k _<_;omega);exact ⟨h1.next F hR (by omega) hlt hfl hb.1 hne,(yX F hR hlt hfl (by omega) hne).trans h2,h3.trans (ze F hR hlt hfl (by omega) hne)⟩
  ·have hfull : (aD O L k).2.length=L.length:=by have:=b9 O L k;have:=h1.le;omega
   rw [fu hfull 1];have hl:=b9 O L k;exact ⟨⟨h1.le,λj hj=>by have:=h1.lt j hj;omega,h1.one,λi x hi1 hi2 hx=>by omega⟩,h2,h3⟩
theorem pM.ind (F : dw O El) {L : Ll} {P : Lz} {c : Nat} (h : pM L P c) : ∀k,k<=P.length->Rk (oV O El L.length (bs L)) (mw P k) k
 | 0,_=>.nil
 | k+1,hk=>by
  rw [mw];refine .ind _ (λhc=>?_) (h.ind F k (by omega));have hkl:=h.le;have h1:=hc (λv=>nth v k) (kF.A1 F (by omega)) λy hy=>by obtain ⟨j,hj,rfl⟩:=(gQ P y k).1 hy;show nth (bs L _) k=0;rw [dX L _ k (by omega),h.one j k (by omega) (by omega),I5 (by omega)]
  have h2 : nth (bs L (nth P k).toNat) k=0:=h1;rw [dX L _ k (by omega),h.one k k (by omega) (by omega),I6 rfl] at h2;exact absurd h2 (by decide)
def iw (O : aS) (L : Ll) (P : Lz) (v : Lz) : Nat->Lz
 | 0=>v
 | k+1=>dF O (iw O L P v k) (nth (iw O L P v k) k) (bs L (nth P k).toNat)
theorem pM.less (F : dw O El) {L : Ll} {P : Lz} {c : Nat} (h : pM L P c) (hL : cw El m L) {v : Lz} (hv : Vc El L.length v) {φ : Lz->Int} (hφ : kF O El L.length φ)
  (h0 : ∀j,j<P.length->φ (bs L (nth P j).toNat)=0) : ∀k,k<=P.length->Vc El L.length (iw O L P v k)/\φ (iw O L P v k)=φ v/\∀i,i<L.length->nth (iw O L P v k) i=if i<k then 0 else nth v i
 | 0,_=>⟨hv,rfl,λi _=>by rw [I5 (by omega)];rfl⟩
 | k+1,hk=>by
  obtain ⟨h1,h2,h3⟩:=h.less F hL hv hφ h0 k (by omega);have hle:=h.le;have hcol:=gu hL F.zero (nth P k).toNat;have hx:=h1.at (i:=k) (by omega);refine ⟨h1.sub F hcol hx,?_,λi hi=>?_⟩
  ·rw [iw,hφ.sub _ _ _ h1 hcol hx,h0 k (by omega),F.et hx,F.gU,F.add_zero _ (hφ.el _ h1),h2]
  ·rw [iw,eF O _ _ _ i (by rw [hcol.1,h1.1]) (by rw [h1.1];exact hi),dX L _ i hi,h.one k i (by omega) hi];by_cases e : i=k
   ·subst e;rw [I6 rfl,F.lV hx,F.add_neg _ hx,I6 (by omega)]
   ·rw [I5 e,F.et hx,F.gU,F.add_zero _ (h1.at hi),h3 i hi];by_cases e2 : i<k
    ·rw [I6 e2,I6 (by omega)]
    ·rw [I5 e2,I5 (by omega)]
theorem pM.all (F : dw O El) {L : Ll} {P : Lz} (h : pM L P m) (hL : cw El m L) {x : Nat} (hx : x<m) : oV O El L.length (bs L) (mw P P.length) x:=by
 intro φ hφ h0;obtain ⟨h1,h2,h3⟩:=h.less F hL (gu hL F.zero x) hφ (λj hj=>h0 _ ((gQ P _ _).2 ⟨j,hj,rfl⟩)) _ (IZ _);rw [<- h2];refine hφ.zero F h1 λi hi=>?_;rw [h3 i hi];split
 ·rfl
 ·rw [dX L x i hi];exact h.zero i x (by omega) hi hx
theorem Rk.map {cl cl' : LN->Nat->Prop} (D : Nat->Prop) (f : Nat->Nat) (hc : ∀l x,(∀y ∈ l,D y)->D x->(cl l x ↔ cl' (l.map f) (f x))) {l : LN} {r : Nat} (h : Rk cl l r) : (∀y ∈ l,D y)->Rk cl' (l.map f) r:=by
 induction h with
 | nil=>intro _;exact .nil
 | dep x hx _ ih =>
  intro hD
  exact .dep _ ((hc _ _ (λy hy=>hD y (List.mem_cons.2 (.inr hy))) (hD x (by simp))).1 hx) (ih λy hy=>hD y (List.mem_cons.2 (.inr hy)))
 | ind x hx _ ih =>
  intro hD
  exact .ind _ (λh=>hx ((hc _ _ (λy hy=>hD y (List.mem_cons.2 (.inr hy))) (hD x (by simp))).2 h)) (ih λy hy=>hD y (List.mem_cons.2 (.inr hy)))
theorem Dc (F : dw O El) {L : Ll} (hL : cw El m L) : Rk (oV O El L.length (bs L)) (List.range m) (aD O L m).2.length:=by
 obtain ⟨h1,h2,h3⟩:=i5 F hL m (IZ _);have hR:=jI F hL m (IZ _);have hC:=iL F hR;have k1:=(h1.ind F _ (IZ _)).yM hC (List.range m) λx hx=>h1.all F hR (List.mem_range.1 hx);have k2:=Rk.map (cl':=oV O El L.length (bs L)) (λy=>y<m) id (λl x hl hx=>by rw [List.map_id];exact ⟨h3.cl hl hx,h2.cl hl hx⟩) k1 λy hy=>by
  rcases List.mem_append.1 hy with hy | hy
  ·exact List.mem_range.1 hy
  ·obtain ⟨j,hj,rfl⟩:=(gQ _ _ _).1 hy;have:=h1.lt j hj;omega
 obtain ⟨r,hr⟩:=Rk.ex (oV O El L.length (bs L)) (List.range m);have e:=Rk.same (iL F hL) k2 hr λx=>by
  rw [List.map_id,JM];constructor
  ·rintro (h | h)
   ·exact h
   ·obtain ⟨j,hj,rfl⟩:=(gQ _ _ _).1 h;have:=h1.lt j hj;exact List.mem_range.2 (by omega)
  ·exact .inl
 rw [e];exact hr
def aQ (Q : Lz) (r : Lz) : Lz:=Q.map λq=>nth r q.toNat
theorem eX (Q r : Lz) {i : Nat} (hi : i<Q.length) : nth (aQ Q r) i=nth r (nth Q i).toNat:=by rw [ai (show i<(aQ Q r).length by simpa [aQ] using hi),ai hi];simp [aQ]
theorem jY {L : Ll} (hL : cw El n L) {Q : Lz} (hQ : ∀j,j<Q.length->0<=nth Q j/\nth Q j<n) : cw El Q.length (L.map (aQ Q)):=by intro r hr;obtain ⟨r0,h0,rfl⟩:=List.mem_map.1 hr;refine ⟨by simp [aQ],λx hx=>?_⟩;obtain ⟨q,hq,rfl⟩:=List.mem_map.1 hx;obtain ⟨j,hj,rfl⟩:=List.mem_iff_getElem.1 hq;have:=hQ j hj;rw [ai hj] at this;exact (hL r0 h0).2 _ (aK (by rw [(hL r0 h0).1];omega))
theorem F4 (F : dw O El) {L : Ll} (hL : cw El n L) {Q : Lz} (hQ : ∀j,j<Q.length->0<=nth Q j/\nth Q j<n) :
  Rk (oV O El L.length (bs L)) ((List.range Q.length).map λj=>(nth Q j).toNat) (aD O (L.map (aQ Q)) Q.length).2.length:=by
 have hR:=jY hL hQ;have hcol : ∀j,j<Q.length->bs (L.map (aQ Q)) j=bs L (nth Q j).toNat:=λj hj=>by unfold bs;rw [Lh];exact Kb λr _=>eX Q r hj
 refine Rk.map (λj=>j<Q.length) _ (λl x hl hx=>?_) (Dc F hR) λy hy=>List.mem_range.1 hy;unfold oV;rw [Jl];constructor
 ·intro h φ hφ h0;rw [<- hcol x hx];refine h φ hφ λy hy=>?_;rw [hcol y (hl y hy)];exact h0 _ (List.mem_map.2 ⟨y,hy,rfl⟩)
 ·intro h φ hφ h0;rw [hcol x hx];refine h φ hφ λy hy=>?_;obtain ⟨j,hj,rfl⟩:=List.mem_map.1 hy;rw [<- hcol j (hl j hj)];exact h0 j hj
end
def fH (P M : Int) (mod : Lz) (cols : Int) (L : Ll) : Int:=if bG P M mod=true then eW (aN P M) cols L else 1
theorem l9 (P M : Int) (am : OA) (mn cm : Nat) (mod : Lz) (cols : Int) (a : OA) (n c : Nat) (L : Ll) (w : World) (hmod : Ints w am mn mod) (hi : ch w a n L) :
  Calls prog 119 #[.agg #[.int .i64 P,.int .i64 M,.slice am mn cm],.agg #[.int .i64 cols,.slice a n c]] w λe w'=>e = .returned (.int .i64 (fH P M mod cols L))/\NS w w':=by
 have Hlen:=Z5 hi.len;have hpl:=hi.pl;have hmax:=hi.max;unfold maxLen at hmax;go_enter func119,ntmps119;go_wp2_with fail;obtain ⟨W,hW⟩ : ∃W : World,W=(w.alloc (.cells #[.int .i64 P,.int .i64 M,.slice am mn cm] 24)).alloc (.cells #[.int .i64 cols,.slice a n c] 82):=⟨_,rfl⟩
 rw [<- hW];have hbW : NS w W:=by rw [hW];exact dA _ _ _
 have x0 : aZ W w.heap.size [.int .i64 P,.int .i64 M,.slice am mn cm]:=by rw [hW];exact (Nj _ _ _ rfl).alloc _
 have y0 : aZ W (w.heap.size+1) [.int .i64 cols,.slice a n c]:=by rw [hW];exact Nj _ _ _ (by simp)
 have hS : ∀V,NS W V->V.cell? ⟨w.heap.size,0,none⟩=some (.int .i64 P)/\V.cell? ⟨w.heap.size,1,none⟩=some (.int .i64 M)/\V.cell? ⟨w.heap.size,2,none⟩=some (.slice am mn cm) /\
   V.cell? ⟨w.heap.size+1,0,none⟩=some (.int .i64 cols)/\V.cell? ⟨w.heap.size+1,1,none⟩=some (.slice a n c)/\NS W V:=by intro V hV;have x1:=x0.aa hV;have y1:=y0.aa hV;exact ⟨x1.cell 0 rfl,x1.cell 1 rfl,x1.cell 2 rfl,y1.cell 0 rfl,y1.cell 1 rfl,hV⟩
 have HS:=Z5 hS;have hiW:=hi.aa hbW;clear hW x0 y0 hS;refine (kt P M am mn cm mod W (hmod.aa hbW)).mono ?_;rintro e w1 ⟨rfl,hb1⟩;have hbw1:=Nh hbW hb1;by_cases hB : bG P M mod=true
 ·have HB : Hid (fH P M mod cols L=eW (aN P M) cols L):=by show _=_;rw [fH,I6 hB]
  have hE : cK (bG P M mod)=0:=by rw [hB];rfl
  rw [hE];obtain ⟨q,hq⟩ : ∃q,aN P M=q:=⟨_,rfl⟩
  have Hq:=Z5 hq;rw [hq] at HB;obtain ⟨d0,d1,d2,d3,d4,_⟩:=HS.out w1 hb1;clear hB hE hq;by_cases b1 : cols<0
  ·have Hf : Hid (fH P M mod cols L=3):=by show _=_;rw [HB.out,eW,I6 (.inl b1)]
   have t1 : decide (cols<0)=true:=by simpa using b1
   go_wp2_with fail;go_ret;exact ⟨aH Hf.out.symm,hbw1⟩
  have t1 : decide (cols<0)=false:=by simpa using b1
  by_cases b2 : 256<cols
  ·have Hf : Hid (fH P M mod cols L=3):=by show _=_;rw [HB.out,eW,I6 (.inr (.inl b2))]
   have t2 : decide (256<cols)=true:=by simpa using b2
   go_wp2_with fail;go_ret;exact ⟨aH Hf.out.symm,hbw1⟩
  have t2 : decide (256<cols)=false:=by simpa using b2
  by_cases b3 : 256<n
  ·have Hf : Hid (fH P M mod cols L=3):=by show _=_;rw [HB.out,eW,I6 (.inr (.inr (by rw [Hlen.out];exact b3)))]
   have t3 : decide (256<(n : Int))=true:=by simp;omega
   go_wp2_with fail;go_ret;exact ⟨aH Hf.out.symm,hbw1⟩
  have t3 : decide (256<(n : Int))=false:=by simp;omega
  have Hm : Hid (fH P M mod cols L=if kg cols L=false then 3 else if L.all (iM q) then 0 else 2):=by show _=_;rw [HB.out,eW,I5 (by rw [Hlen.out];omega)]
  have hi1:=hiW.aa hb1;clear b1 b2;go_wp2_with fail;go_loopw [6] (λiv wr=>∃k : Nat,k<=n/\iv = .int .i64 k/\Hid ((L.take k).all (λr=>decide ((r.length : Int)=cols))=true)/\bf w1 wr) (λiv _=>n - (intOf iv).toNat);case atStart=>exact ⟨0,I7 _,rfl,by show _=_;simp,No _⟩
  case round =>
   obtain ⟨k,hk,rfl,hall,hd⟩:=hrel
   have hir:=hi1.drawn hd
   have e3:=hd.cell d3
   have e4:=hd.cell d4
   by_cases hlt : k<n
   ·obtain ⟨ra,rn,rc,hcell,hrow⟩:=hir.cell k hlt
    have hkL : k<L.length:=by rw [Hlen.out];exact hlt
    have hrl:=hrow.len
    rw [aE hkL] at hrl
    have Hrl:=Z5 hrl
    clear hrl
    by_cases he : (rn : Int)=cols
    ·have he' : ((rn : Int) != cols)=false:=by simpa using he
     have Hs : Hid ((L.take (k+1)).all (λr=>decide ((r.length : Int)=cols))=true):=cX hkL hall.out (by rw [Hrl.out];simpa using he)
     clear he
     go_wp2_with fail
     go_quiet (fail)
     go_wp2
     go_roundw
     case rel=>exact ⟨k+1,by omega,by go_num,Hs.out,hd.drewN _⟩
     case measure=>simp [intOf] <;> omega
    ·have he' : ((rn : Int) != cols)=true:=by simpa using he
     have Hs : Hid (fH P M mod cols L=3):=by show _=_;rw [Hm.out,I6];exact db hkL (by simp only [Hrl.out];simpa using he)
     clear he
     go_wp2_with fail
     go_quiet (fail)
     go_wp2
     go_ret
     exact ⟨aH Hs.out.symm,Nh hbw1 (hd.drewN _).below⟩
   ·obtain rfl : k=n:=by omega
    have Hm2 : Hid (fH P M mod cols L=if L.all (iM q) then 0 else 2):=by have:=hall.out;rw [I8 (by rw [Hlen.out];exact IZ _)] at this;show _=_;rw [Hm.out,I5 (by rw [kg,this];simp)]
    have hbr : NS W wr:=Nh hb1 hd.below
    have hir2:=hir
    clear d0 d1 d2 d3 d4 hall
    go_wp2_with fail
    clear e3 e4
    go_loopw [7] (λiv wx=>∃j : Nat,j<=k/\iv = .int .i64 j/\Hid ((L.take j).all (iM q)=true)/\NS W wx) (λiv _=>k - (intOf iv).toNat)
    case atStart=>exact ⟨0,I7 _,rfl,by show _=_;simp,hbr⟩
    case round =>
     obtain ⟨j,hj,rfl,hall2,hbx⟩:=hrel
     obtain ⟨d0,d1,d2,d3,d4,_⟩:=HS.out _ hbx
     by_cases hlt : j<k
     ·have hiX:=hiW.aa hbx
      obtain ⟨ra,rn,rc,hcell,hrow⟩:=hiX.cell j hlt
      have hjL : j<L.length:=by rw [Hlen.out];exact hlt
      have HC:=Z5 (vd P M am mn cm ra rn rc (an L j) _ (hrow.aa (I1 _ _).drew))
      have hSj : ∀V,NS wr V->V.cell? ⟨w.heap.size,0,none⟩=some (.int .i64 P)/\V.cell? ⟨w.heap.size,1,none⟩=some (.int .i64 M)/\V.cell? ⟨w.heap.size,2,none⟩=some (.slice am mn cm) /\
        V.cell? ⟨w.heap.size+1,1,none⟩=some (.slice a k c)/\V.cell? ⟨aj a,aL a+j,none⟩=some (.slice ra rn rc):=λV hV=>by obtain ⟨f0,f1,f2,f3,f4,_⟩:=HS.out V (Nh hbx hV);exact ⟨f0,f1,f2,f4,aB hV hcell⟩
      have HSj:=Z5 hSj
      have Hbx:=Z5 hbx
      rw [Hq.out] at HC
      clear hSj hbx
      by_cases he : iM q (an L j)=true
      ·have he2 : ki q (an L j)=0:=by rw [ki,he];rfl
       rw [he2] at HC
       rw [aE hjL] at he
       have Hs : Hid ((L.take (j+1)).all (iM q)=true):=cX hjL hall2.out he
       clear he he2
       go_wp2_with fail
       go_region_held3 (λV=>V.cell? ⟨w.heap.size,0,none⟩=some (.int .i64 P)/\V.cell? ⟨w.heap.size,1,none⟩=some (.int .i64 M)/\V.cell? ⟨w.heap.size,2,none⟩=some (.slice am mn cm) /\
         V.cell? ⟨w.heap.size+1,1,none⟩=some (.slice a k c)/\V.cell? ⟨aj a,aL a+j,none⟩=some (.slice ra rn rc))
        ((refine HSj.out _ ?_;first | exact (I1 _ _).drew | exact Nh (I1 _ _).drew hb4))
        (first | (go_at_call 76;((with_reducible refine HC.out.mono ?_);rintro e w4 ⟨rfl,hb4⟩)))
       go_wp2_with fail
       go_roundw
       case rel=>exact ⟨j+1,by omega,by go_num,Hs.out,Nh Hbx.out (Nh (I1 _ _).drew hb4)⟩
       case measure=>simp [intOf] <;> omega
      ·have he2 : ki q (an L j)=2:=by rw [ki,I5 he]
       rw [he2] at HC
       rw [aE hjL] at he
       have Hs : Hid (fH P M mod cols L=2):=by show _=_;rw [Hm2.out,db hjL (by simpa using he)];rfl
       clear he he2
       go_wp2_with fail
       go_region_held3 (λV=>V.cell? ⟨w.heap.size,0,none⟩=some (.int .i64 P)/\V.cell? ⟨w.heap.size,1,none⟩=some (.int .i64 M)/\V.cell? ⟨w.heap.size,2,none⟩=some (.slice am mn cm) /\
         V.cell? ⟨w.heap.size+1,1,none⟩=some (.slice a k c)/\V.cell? ⟨aj a,aL a+j,none⟩=some (.slice ra rn rc))
        ((refine HSj.out _ ?_;first | exact (I1 _ _).drew | exact Nh (I1 _ _).drew hb4))
        (first | (go_at_call 76;((with_reducible refine HC.out.mono ?_);rintro e w4 ⟨rfl,hb4⟩)))
       go_wp2_with fail
       go_ret
       exact ⟨aH Hs.out.symm,Nh hbW (Nh Hbx.out (Nh (I1 _ _).drew hb4))⟩
     ·obtain rfl : j=k:=by omega
      have Hs : Hid (fH P M mod cols L=0):=by have:=hall2.out;rw [I8 (by rw [Hlen.out];exact IZ _)] at this;show _=_;rw [Hm2.out,this];rfl
      go_wp2_with fail
      go_ret
      exact ⟨aH Hs.out.symm,Nh hbW hbx⟩
 ·have hB' : bG P M mod=false:=by simpa using hB
  have Hf : Hid (fH P M mod cols L=1):=by show _=_;rw [fH,I5 hB]
  have hE : cK (bG P M mod)=1:=by rw [hB'];rfl
  rw [hE];clear hB hB' hE;go_wp2_with fail;go_ret;exact ⟨aH Hf.out.symm,hbw1⟩
theorem Ej : dg 5 2 25 vR 0 25=true:=by decide +kernel
theorem GG : eZ 5 2 25 vR:=aF (cI 5 2 25 vR) Ej
theorem C6 : dg 5 3 125 lI 0 32=true:=by decide +kernel
theorem BC : dg 5 3 125 lI 32 32=true:=by decide +kernel
theorem Ct : dg 5 3 125 lI 64 32=true:=by decide +kernel
theorem B8 : dg 5 3 125 lI 96 29=true:=by decide +kernel
theorem GA : eZ 5 3 125 lI:=aF (aF (aF (aF (cI 5 3 125 lI) C6) BC) Ct) B8
theorem D7 : dg 7 2 49 u4 0 49=true:=by decide +kernel
theorem GZ : eZ 7 2 49 u4:=aF (cI 7 2 49 u4) D7
theorem Cp : dg 11 2 121 jM 0 32=true:=by decide +kernel
theorem yK : dg 11 2 121 jM 32 32=true:=by decide +kernel
theorem yH : dg 11 2 121 jM 64 32=true:=by decide +kernel
theorem zV : dg 11 2 121 jM 96 25=true:=by decide +kernel
theorem E8 : eZ 11 2 121 jM:=aF (aF (aF (aF (cI 11 2 121 jM) Cp) yK) yH) zV
theorem BO : dg 13 2 169 gX 0 32=true:=by decide +kernel
theorem yP : dg 13 2 169 gX 32 32=true:=by decide +kernel
theorem yZ : dg 13 2 169 gX 64 32=true:=by decide +kernel
theorem zf : dg 13 2 169 gX 96 32=true:=by decide +kernel
theorem wN : dg 13 2 169 gX 128 32=true:=by decide +kernel
theorem wu : dg 13 2 169 gX 160 9=true:=by decide +kernel
theorem F5 : eZ 13 2 169 gX:=aF (aF (aF (aF (aF (aF (cI 13 2 169 gX) BO) yP) yZ) zf) wN) wu
def Im (c : Nat × Nat) : Bool:=wD (dj c.1 1 []) c.1 c.2 && decide (0<c.2) && decide (c.2<c.1)
theorem Iz : roots.all Im=true:=by decide +kernel
theorem EN : ((List.range 257).all λp=>p<2 || !fT p || roots.any λc=>c.1 == p)=true:=by decide +kernel
theorem wI {N : Int} {l : Lz} (h : cF N l=true) : ∀k,k<l.length->(k : Int)<=nth l k
 | 0,hk=>(fC h hk).1
 | k+1,hk=>by have ih:=wI h k (by omega);have:=(fC h hk).2.2 (by omega);rw [JU] at this;omega
theorem gE {N : Int} {l : Lz} (h : cF N l=true) (hN : 0<=N) : (l.length : Int)<=N:=by
 by_cases h0 : l.length=0
 ·omega
 ·have h1:=wI h (l.length - 1) (by omega);have h2:=(fC h (k:=l.length - 1) (by omega)).2.1;omega
theorem lz (N : Int) (l : Lz) : iF N [l]=if cF N l=true then 0 else 6:=by simp [iF]
def dD (P M : Int) (mod : Lz) (N : Int) (L : Ll) (Q : Lz) : Int:=if aJ P M mod N L=0 then iF N [Q] else aJ P M mod N L
def xh (P M : Int) (mod : Lz) (N : Int) (L : Ll) (Q : Lz) (w : World) (e : Ending) (w' : World) : Prop :=
 NS w w'/\((dD P M mod N L Q ≠ 0/\e = .returned (.tuple #[.int .i64 0,.int .i64 (dD P M mod N L Q)])) \/
  (dD P M mod N L Q=0/\e = .returned (.tuple #[.int .i64 (gD (ah P M.toNat mod).ops L Q).length,.int .i64 0])))
theorem dP {P M : Int} {mod : Lz} {N : Int} {L : Ll} (h : aJ P M mod N L=0) : ∃m : Nat,N=m/\1<=m/\m<=64/\L.length<=256/\cw (ah P M.toNat mod).El m L:=by obtain ⟨h1,h2,h3,h4⟩:=bl h;obtain ⟨h5,h6⟩:=dR h4;obtain ⟨h7,h8⟩:=fo h5;obtain ⟨m,rfl,hm,hl,hR⟩:=lE h8;exact ⟨m,rfl,by omega,by omega,hl,hR⟩
theorem Ea (P M : Int) (am : OA) (mn cm : Nat) (mod : Lz) (N : Int) (a : OA) (n c : Nat) (L : Ll) (ao : OA) (no co : Nat) (Q : Lz) (w : World)
  (hmod : Ints w am mn mod) (hi : ch w a n L) (hq : Ints w ao no Q) :
  Calls prog 166 #[.agg #[.int .i64 P,.int .i64 M,.slice am mn cm,.int .i64 N,.slice a n c],.slice ao no co] w (xh P M mod N L Q w):=by
 have Hql:=Z5 hq.len;have Hil:=Z5 hi.len;go_enter func166,ntmps166;go_wp2_with fail;obtain ⟨W,hW⟩ : ∃W : World,W=w.alloc (.cells #[.int .i64 P,.int .i64 M,.slice am mn cm,.int .i64 N,.slice a n c] 27):=⟨_,rfl⟩
 rw [<- hW];have hbW : NS w W:=by rw [hW];exact aw _ _
 have x0 : aZ W w.heap.size [.int .i64 P,.int .i64 M,.slice am mn cm,.int .i64 N,.slice a n c]:=by rw [hW];exact Nj _ _ _ rfl
 have HX:=Z5 x0;clear hW x0;refine (oR P M am mn cm mod N a n c L W (hmod.aa hbW) (hi.aa hbW)).mono ?_;rintro e w1 ⟨hb1,⟨hE,rfl⟩ | ⟨hE,b,rfl,hG⟩⟩
 ·have hbw1:=Nh hbW hb1;have HE : Hid (dD P M mod N L Q=aJ P M mod N L):=by show _=_;rw [dD,I5 hE]
  have He:=Z5 hE;have hE1 : (aJ P M mod N L == 0)=false:=by simpa using hE
  have hE2 : (aJ P M mod N L != 0)=true:=by simpa using hE
  clear hE;go_wp2_with fail;go_ret2;exact ⟨hbw1,.inl ⟨by rw [HE.out];exact He.out,by rw [HE.out];rfl⟩⟩
 ·have hbw1:=Nh hbW hb1;have HE : Hid (dD P M mod N L Q=iF N [Q]):=by show _=_;rw [dD,I6 hE]
  have Hrw:=Z5 (dP hE);have xU:=HX.out.aa hb1;have b0:=xU.cell 0 rfl;have b1:=xU.cell 1 rfl;have b2:=xU.cell 2 rfl;have b3:=xU.cell 3 rfl;have b4:=xU.cell 4 rfl;have hq1:=(hq.aa hbW).aa hb1;have hbl:=aw w1 (.cells #[.slice ao no co] 22);have hMs : ch (w1.alloc (.cells #[.slice ao no co] 22)) (some ⟨w1.heap.size,0,none⟩) 1 [Q]:=⟨rfl,λ_=>rfl,by unfold maxLen;omega,λi hi=>by
   obtain rfl : i=0:=by omega
   exact ⟨ao,no,co,bM _ _ _ rfl,hq1.aa hbl⟩⟩
  clear xU hE;go_wp2_with fail;refine (DZ P M am mn cm N a n c _ 1 1 [Q] _ hMs).mono ?_;rintro e w2 ⟨rfl,hb2⟩;have hb3 : NS w1 w2:=Nh hbl hb2;have hbw2:=Nh hbw1 hb3;rw [lz] at HE ⊢;by_cases hok : cF N Q=true
  ·have HE2 : Hid (dD P M mod N L Q=0):=by show _=_;rw [HE.out,I6 hok]
   rw [I6 hok];obtain ⟨m,hm,hm1,hm2,hLl,hRw⟩:=Hrw.out;subst hm;have hlen:=gE hok (by omega);have hQk : ∀k,k<no->0<=nth Q k/\nth Q k<m:=λk hk=>by have:=fC hok (k:=k) (by rw [Hql.out];exact hk);exact ⟨this.1,this.2.1⟩
   have hno : no<=1000000:=by rw [<- Hql.out];omega
   have hn : n<=1000000:=by rw [<- Hil.out];omega
   have HQk:=Z5 hQk;have HRw:=Z5 hRw;have xU:=(HX.out.aa hb1).aa hb3;have b0:=xU.cell 0 rfl;have b1:=xU.cell 1 rfl;have b2:=xU.cell 2 rfl;have b3:=xU.cell 3 rfl;have b4:=xU.cell 4 rfl;have hq2:=hq1.aa hb3;have hi2:=((hi.aa hbW).aa hb1).aa hb3;have hG2:=hG.aa hb3;clear hok hlen hQk hRw xU;go_wp2_with fail;refine (q8 P M am mn cm m a n c L m ao no co Q hG2 hi2 HRw.out hq2 HQk.out hn hno).mono ?_;rintro e w4 ⟨a4,c4,rfl,hown4,hb4⟩;have hF : xh P M mod m L Q w (.returned (.tuple #[.int .i64 (gD (ah P M.toNat mod).ops L Q).length,.int .i64 0])) w4:=⟨Nh hbw2 hb4,.inr ⟨HE2.out,rfl⟩⟩
   have HF:=Z5 hF;clear hF hown4;generalize gD (ah P M.toNat mod).ops L Q=out at *;go_wp2_with fail;go_ret2;exact HF.out
  ·have HE2 : Hid (dD P M mod N L Q=6):=by show _=_;rw [HE.out,I5 hok]
   rw [I5 hok];clear hok b0 b1 b2 b3 b4;go_wp2_with fail;go_ret2;exact ⟨hbw2,.inl ⟨by rw [HE2.out];omega,by rw [HE2.out];rfl⟩⟩
section
variable {O : aS} {El : Int->Prop} {m n : Nat}
def mI (O : aS) (a b : Nat->Int) : Nat->Int
 | 0=>0
 | t+1=>O.add (mI O a b t) (O.mul (a t) (b t))
theorem pO (F : dw O El) {a b : Nat->Int} : ∀t,(∀p,p<t->El (a p))->(∀p,p<t->El (b p))->El (mI O a b t)
 | 0,_,_=>F.zero
 | t+1,ha,hb=>F.cl.add _ _ (pO F t (λp hp=>ha p (by omega)) λp hp=>hb p (by omega)) (F.cl.mul _ _ (ha t (by omega)) (hb t (by omega)))
theorem mq {a b a' b' : Nat->Int} : ∀t,(∀p,p<t->a p=a' p/\b p=b' p)->mI O a b t=mI O a' b' t
 | 0,_=>rfl
 | t+1,h=>by rw [mI,mI,mq t λp hp=>h p (by omega),(h t (by omega)).1,(h t (by omega)).2]
theorem rF (F : dw O El) {a b : Nat->Int} {x : Nat} (hx : El (O.mul (a x) (b x))) : ∀t,(∀p,p<t->p ≠ x->O.mul (a p) (b p)=0)->mI O a b t=if x<t then O.mul (a x) (b x) else 0
 | 0,_=>rfl
 | t+1,h=>by
  rw [mI,rF F hx t λp hp=>h p (by omega)];by_cases e : t=x
  ·subst e;rw [I5 (by omega),I6 (by omega),F.FT hx]
  ·rw [h t (by omega) e];by_cases e2 : x<t
   ·rw [I6 e2,I6 (by omega),F.add_zero _ hx]
   ·rw [I5 e2,I5 (by omega),F.add_zero 0 F.zero]
variable {G K : Ll}
end
section
open Go.RowKit
end
theorem rT (O : aS) (L : Ll) (Q : Lz) : ∀k,(bU O L Q k).2.length<=k
 | 0=>IZ _
 | k+1=>by
  have:=rT O L Q k;simp only [bU];split
  ·simp;omega
  ·omega
theorem AQ (O : aS) (L : Ll) (Q : Lz) : (gD O L Q).length<=Q.length:=rT O L Q _
section
open Go.RowKit
end
theorem Fe {a : OA} {n c : Nat} {l : Lz} (w : World) (h : Ints w a n l) : ch (w.alloc (.cells #[.slice a n c] 22)) (some ⟨w.heap.size,0,none⟩) 1 [l] :=
 ⟨rfl,λ_=>rfl,by unfold maxLen;omega,λi hi=>by
  obtain rfl : i=0:=by omega
  exact ⟨a,n,c,bM _ _ _ rfl,h.aa (aw _ _)⟩⟩
def NB:=@aP.empty
def NH:=@Vc.at
end Go.Proofs.YtcfmiocdlcapoaaGreat
