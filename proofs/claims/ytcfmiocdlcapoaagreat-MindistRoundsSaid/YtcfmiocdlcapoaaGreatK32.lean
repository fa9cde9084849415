import Derived.Test.YtcfmiocdlcapoaaGreatK31
import Derived.Test.YtcfmiocdlcapoaaGreatK29
import Derived.Test.YtcfmiocdlcapoaaGreatK22
import Derived.Test.YtcfmiocdlcapoaaGreatK18
import Derived.Test.YtcfmiocdlcapoaaGreatK21
import Derived.Test.YtcfmiocdlcapoaaGreatK28
import Derived.BigQuiet
namespace Go.Proofs.YtcfmiocdlcapoaaGreat
set_option linter.unusedVariables false
set_option linter.unusedSimpArgs false
set_option linter.unusedSectionVars false
set_option maxRecDepth 100000
set_option maxHeartbeats 4000000
open Go.RowKit
structure TX where
 a : OA
 c : Nat
 T : Ll
def KA (x : RX) : Value:=.slice x.a x.l.length x.c
def GI (y : TX) : Value:=.slice y.a y.T.length y.c
def CA (B Bo : Nat) (as' at' : OA) : Nat->Prop:=λb=>b<B\/b=Bo\/(as' ≠ none/\b=ablk as')\/(at' ≠ none/\b=ablk at')
structure Kx (B : Nat) (V : World) (Bo : Nat) (as' : OA) (cs : Nat) (at' : OA) (ct : Nat) (ss : List RX) (tt : List TX) : Prop where
 bo : B<=Bo
 box : aV V Bo [.slice as' ss.length cs,.slice at' tt.length ct]
 so : V.ownsRow B 22 1 (.slice as' ss.length cs) ss.length (ss.map KA)
 tow : V.ownsRow B 47 1 (.slice at' tt.length ct) tt.length (tt.map GI)
 as1 : db as' Bo
 at1 : db at' Bo
 st : as'=none\/at'=none\/ablk as' ≠ ablk at'
 sx : ∀x ∈ ss,Ints V x.a x.l.length x.l/\(0<x.l.length->¬ CA B Bo as' at' (ablk x.a))
 tx : ∀y ∈ tt,my (CA B Bo as' at') V y.a y.T.length y.T/\y.T.length<=y.c
theorem CK {w w' : World} {B : Nat} {e : TypeId} {a : OA} {n c : Nat} {xs : List Value} (h : w.ownsRow B e 1 (.slice a n c) n xs) (hb : a ≠ none->w'.heap[ablk a]? = w.heap[ablk a]?) : w'.ownsRow B e 1 (.slice a n c) n xs:=by
 refine ⟨h.1,?_⟩
 rcases h.2 with h2 | ⟨g,cap,cur,hv,hg,hh,r⟩
 ·exact .inl h2
 ·cases hv
  exact .inr ⟨g,_,cur,rfl,hg,by rw [show w'.heap[g]? = w.heap[g]? from hb (by simp)];exact hh,r⟩
theorem aB.H6 {w w' : World} {A A' : Nat->Prop} (h : aB w w' A A) (hs : ∀b,A' b->A b\/w.heap.size<=b) : aB w w' A A':=⟨h.os,h.tape,h.output,h.size,h.block,hs⟩
theorem my.BX {A A' : Nat->Prop} {w w' : World} {a : OA} {n : Nat} {L : Ll} (h : my A w a n L) (hM : aB w w' A A') : my A' w' a n L :=
 ⟨h.len,h.pl,h.max,λhn=>hM.not (h.kK.lt hn) (h.no hn),λi hi=>by
  obtain ⟨b,m,c,h1,h2,h3⟩:=h.cell i hi
  exact ⟨b,m,c,hM.cell h1 (h.no (by omega)),h2.dt hM h3,λhm=>hM.not (h2.lt hm) (h3 hm)⟩⟩
section
variable {B : Nat} {V w5 : World} {Bo : Nat} {as' : OA} {cs : Nat} {at' : OA} {ct : Nat} {ss : List RX} {tt : List TX} {o : Obj}
end
def Ka (T : List Ll) (i : Nat) : Ll:=T.getD i []
structure Ko (w : World) (a : OA) (n : Nat) (TT : List Ll) : Prop where
 len : TT.length=n
 pl : Pl a n
 max : n<=maxLen
 cell : ∀i,i<n->∃b m c,w.cell? ⟨ablk a,aJ a+i,none⟩=some (.slice b m c)/\bZ w b m (Ka TT i)/\m<=c
theorem oN (w : World) (x y z : Int) (e : TypeId) {g : Nat} (hg : g=w.heap.size) : Ints (w.alloc (.cells #[.int .i64 x,.int .i64 y,.int .i64 z] e)) (some ⟨g,0,none⟩) 3 [x,y,z]:=by
 subst hg
 have h:=aV.new w [.int .i64 x,.int .i64 y,.int .i64 z] e rfl
 refine ⟨rfl,λ_=>rfl,by unfold maxLen;omega,λi hi=>?_⟩
 match i,hi with
 | 0,_=>exact h.cell 0 rfl
 | 1,_=>exact h.cell 1 rfl
 | 2,_=>exact h.cell 2 rfl
theorem FQ {w0 w : World} {b g : Nat} {G : de} {P M : Int} {am : OA} {mn cm : Nat} {N : Int} {a : OA} {n c : Nat} {ag : OA} {ng cg : Nat} {ab : OA} {cb : Nat} {B : Lz} {k : Nat} (W : Nat)
  (h : eD w0 b G) (hb : Below w0.heap.size w0 w) {F : Nat->Prop} (hs : xg F w g b P M am mn cm N a n c ag ng cg ab cb B k) (hk : k<=65536) (hn : n<=64) (hW : 1<=W) (hWn : W<=n) (hg1 : 1<=ng) (hg64 : ng<=64) :
  Calls Tryz.prog 100 #[.pointer (some ⟨g,0,none⟩),.int .i64 W] w λe w'=>Below w.heap.size w w'/\∃z : Int,e = .returned (.tuple #[.int .i64 z,.int .i64 (if il G.q n ng k W=true then 0 else 8)]):=by
 have hG:=h.ah hb
 have hq2:=hG.q2
 have hq256:=hG.q256
 obtain ⟨er,her⟩ : ∃er : Int,(if il G.q n ng k W=true then (0 : Int) else 8)=er:=⟨_,rfl⟩
 rw [her]
 obtain ⟨V,rfl⟩ : ∃V,W=V+1:=⟨W - 1,by omega⟩
 obtain ⟨q1,hq1⟩ : ∃q1,G.q=q1+1:=⟨G.q - 1,by omega⟩
 have hmB : il G.q n ng k (V+1)=(decide (chN n (V+1)<=65536) && decide (q1 ^ V<=65536) && decide (ng * (chN n (V+1) * q1 ^ V)<=65536 - k)):=by
  unfold il kZ
  rw [hq1,Nat.add_sub_cancel,Nat.add_sub_cancel]
 rw [hmB] at her
 have hC1 : 1<=chN n (V+1):=kp _ _ hWn
 have hP1 : 1<=q1 ^ V:=Nat.pow_pos (by omega)
 have Hcho:=Z5 (λV2 : World=>AW n (V+1) V2 hn hWn)
 have Hexp:=Z5 (λV2 : World=>ES q1 V V2 (by omega) (by omega) (by omega))
 have hcp : ((q1 : Int) ^ V)=((q1 ^ V : Nat) : Int):=by simp
 have Hord:=Z5 (λV2 (h2 : Below w.heap.size w V2)=>AS (hG.ah h2))
 rw [hq1] at Hord
 have HS : Hid (∀V2,Below w.heap.size w V2->V2.cell? ⟨g,0,none⟩=some (.pointer (some ⟨b,0,none⟩))/\V2.cell? ⟨g,5,none⟩=some (.slice a n c)/\V2.cell? ⟨g,6,none⟩=some (.slice ag ng cg)/\V2.cell? ⟨g,8,none⟩=some (.int .i64 k)):=λV2 h2=>by
  have x:=hs.box.ah h2
  exact ⟨x.cell 0 rfl,x.cell 5 rfl,x.cell 6 rfl,x.cell 8 rfl⟩
 obtain ⟨C,hC⟩ : ∃C,chN n (V+1)=C:=⟨_,rfl⟩
 obtain ⟨Pw,hPw⟩ : ∃Pw,q1 ^ V=Pw:=⟨_,rfl⟩
 unfold sf rT at Hcho
 unfold lZ lA at Hexp
 rw [hcp,hPw] at Hexp
 rw [hC] at Hcho her hC1
 rw [hPw] at her hP1
 have hVW : ((V+1 : Nat) : Int)=(V : Int)+1:=by omega
 rw [hVW] at Hcho
 rw [hVW]
 obtain ⟨c0,c5,c6,c8⟩:=HS.out w (Below.refl _ _)
 have kq : wrap64 (q1 : Int)=q1:=yp (by omega) (by omega)
 have kV : wrap64 (V : Int)=V:=yp (by omega) (by omega)
 clear hmB hcp hC hPw hG h hb hs hq1
 go_enter Tryz.func100,Tryz.ntmps100
 by_cases hCb : C<=65536
 rotate_left
 ·have he : er=8:=by rw [<- her,decide_eq_false hCb];rfl
  subst he
  rw [if_neg (by omega),if_neg (by omega)] at Hcho
  have Hc2:=Z5 (Hcho.out w)
  clear her Hcho hCb
  go_wp2_with fail
  refine Hc2.out.mono ?_
  rintro e w1 ⟨rfl,hb1⟩
  go_wp2_with fail
  go_ret2
  exact ⟨hb1,_,rfl⟩
 rw [if_pos (by omega),if_pos (by omega)] at Hcho
 have Hc2:=Z5 (Hcho.out w)
 clear Hcho
 go_wp2_with fail
 refine Hc2.out.mono ?_
 rintro e w1 ⟨rfl,hb1⟩
 obtain ⟨c0,c5,c6,c8⟩:=HS.out w1 hb1
 have Ho1:=Z5 (Hord.out w1 hb1)
 have He1:=Z5 (Hexp.out w1)
 clear Hc2 Hord Hexp
 go_wp2_with fail
 refine Ho1.out.mono ?_
 rintro e w' ⟨rfl,rfl⟩
 by_cases hPb : Pw<=65536
 rotate_left
 ·have he : er=8:=by rw [<- her,decide_eq_false hPb,Bool.and_false,Bool.false_and];rfl
  subst he
  rw [if_neg (by omega),if_neg (by omega)] at He1
  clear her hPb Ho1
  go_wp2_with fail
  refine He1.out.mono ?_
  rintro e w' ⟨rfl,rfl⟩
  go_wp2_with fail
  go_ret2
  exact ⟨hb1,_,rfl⟩
 rw [if_pos (by omega),if_pos (by omega)] at He1
 have hpr : prodTo [(ng : Int),(C : Int),(Pw : Int)] 3=((ng * (C * Pw) : Nat) : Int):=by
  simp only [prodTo,nth]
  simp [Int.mul_assoc]
 have HPr : Hid (∀V2,Below w.heap.size w V2->∀a3 c3,Ints V2 a3 3 [(ng : Int),(C : Int),(Pw : Int)]->Calls Tryz.prog 170 #[.int .i64 (65536 - (k : Int)),.slice a3 3 c3] V2 λe w'=>(∃z : Int,e = .returned (.tuple #[.int .i64 z,.int .i64 er]))/\V2=w'):=λV2 _ a3 c3 h3=>by
  refine (zF (65536 - (k : Int)) a3 3 c3 [(ng : Int),(C : Int),(Pw : Int)] V2 (by omega) h3 λx hx=>?_).mono ?_
  ·simp at hx
   rcases hx with rfl | rfl | rfl <;> omega
  ·rintro e w' ⟨rfl,rfl⟩
   refine ⟨⟨rW (65536 - (k : Int)) [(ng : Int),(C : Int),(Pw : Int)],?_⟩,rfl⟩
   have e1 : qV (65536 - (k : Int)) [(ng : Int),(C : Int),(Pw : Int)]=er:=by
    unfold qV
    show (if prodTo [(ng : Int),(C : Int),(Pw : Int)] 3<=65536 - (k : Int) then (0 : Int) else 8)=er
    rw [hpr,<- her,decide_eq_true hCb,decide_eq_true hPb,Bool.and_self,Bool.true_and]
    by_cases hz : ng * (C * Pw)<=65536 - k
    ·rw [if_pos (by omega),decide_eq_true hz];rfl
    ·rw [if_neg (by omega),decide_eq_false hz];rfl
   rw [e1]
 have He8 : Hid (er ≠ 0->er=8):=λh=>by
  rw [<- her] at h ⊢
  split at h
  ·exact absurd rfl h
  ·rename_i h1;rw [if_neg h1]
 clear her hpr Ho1
 go_wp2_with fail
 refine He1.out.mono ?_
 rintro e w' ⟨rfl,rfl⟩
 obtain ⟨c0,c5,c6,c8⟩:=HS.out w1 hb1
 have kk : IntKind.i64.wrap (65536 - (k : Int))=65536 - (k : Int):=IntWalk.i64_in _ (by omega)
 obtain ⟨d0,d5,d6,d8⟩:=HS.out _ (Below.next hb1 (an w1 (.cells #[.int .i64 (ng : Int),.int .i64 (C : Int),.int .i64 (Pw : Int)] 3)))
 go_upto_region 7 with fail
 go_cut [6,7] (λzv ev wx=>(∃z : Int,zv = .int .i64 z)/\ev = .int .i64 er/\Below w.heap.size w wx)
 case first =>
  go_region_law ((first
   | (go_simp;go_at_call 170;((with_reducible refine (HPr.out _ (Below.next hb1 (by first | exact (an _ _).drew | exact an _ _ | exact ((Below.refl _ _).drew).alloc (Nat.le_refl _) _ | exact (an _ _).drew | exact (Below.refl _ _).drew | assumption)) _ _ (by first | exact (oN _ _ _ _ _ rfl).ah (Below.refl _ _).drew | exact oN _ _ _ _ _ rfl | assumption)).mono ?_);rintro e w3 ⟨⟨z3,rfl⟩,rfl⟩))))
  all_goals (
   go_wp2_with fail
   go_meet
   exact ⟨⟨_,rfl⟩,rfl,Below.next hb1 (by first | exact (an _ _).drew | exact an _ _ | exact (an _ _).drew.drew)⟩)
 obtain ⟨⟨z,rfl⟩,rfl,hbc⟩:=hcut
 generalize wc=V3 at *
 by_cases he0 : er=0
 ·subst he0
  go_wp2_with fail
  go_ret2
  exact ⟨hbc,_,rfl⟩
 ·have he1 : (er != 0)=true:=by simpa using he0
  have he8 : er=8:=He8.out he0
  subst he8
  go_wp2_with fail
  go_ret2
  exact ⟨hbc,_,rfl⟩
theorem bN.J8 {A : Nat->Prop} {B : Nat} {w : World} {a : OA} {n : Nat} {L : Ll} (h : bN B w a n L) (hA : ∀b,A b->b<B) : my A w a n L :=
 ⟨h.len,h.pl,h.max,λhn hc=>Nat.lt_irrefl _ (Nat.lt_of_lt_of_le (hA _ hc) (h.lo hn)),λi hi=>by
  obtain ⟨b,m,c,h1,h2⟩:=h.cell i hi
  exact ⟨b,m,c,h1,h2.ints,λhm hc=>Nat.lt_irrefl _ (Nat.lt_of_lt_of_le (hA _ hc) (h2.lo hm))⟩⟩
section
def JV (b : Nat) (P M : Int) (am : OA) (mn cm : Nat) (N : Int) (a : OA) (n c : Nat) (ag : OA) (ng cg : Nat) (ab : OA) (nb cb k : Nat) : List Value :=
 [.pointer (some ⟨b,0,none⟩),.int .i64 P,.int .i64 M,.slice am mn cm,.int .i64 N,.slice a n c,.slice ag ng cg,.slice ab nb cb,.int .i64 k]
def LA (g : Nat) (ag ak : OA) : Nat->Prop:=λb=>b<=g\/(ag ≠ none/\b=ablk ag)\/(ak ≠ none/\b=ablk ak)
structure LI (V : World) (g : Nat) (pre : List Value) (ag : OA) (cg : Nat) (ak : OA) (ck : Nat) (gs : List TX) (Q : Lz) : Prop where
 pl : pre.length=6
 box : aV V g (pre ++ [.slice ag gs.length cg,.slice none 0 0,.int .i64 0])
 so : V.ownsRow (g+1) 25 1 (.slice ag gs.length cg) gs.length (gs.map GI)
 rk : V.ownsRow (g+1) 3 1 (.slice ak Q.length ck) Q.length (Q.map (Value.int .i64))
 st : ag=none\/ak=none\/ablk ag ≠ ablk ak
 gx : ∀y ∈ gs,my (LA g ag ak) V y.a y.T.length y.T
namespace LI
variable {V V' w5 : World} {g : Nat} {pre : List Value} {ag : OA} {cg : Nat} {ak : OA} {ck : Nat} {gs : List TX} {Q : Lz} {o : Obj}
theorem ah (h : LI V g pre ag cg ak ck gs Q) (hb : Below V.heap.size V V') : LI V' g pre ag cg ak ck gs Q :=
 ⟨h.pl,h.box.ah hb,aW h.so hb,aW h.rk hb,h.st,λy hy=>(h.gx y hy).ah hb⟩
theorem start (hp : pre.length=6) (h : aV V g (pre ++ [.slice none 0 0,.slice none 0 0,.int .i64 0])) : LI V g pre none 0 none 0 [] [] :=
 ⟨hp,h,by simpa using bY,by simpa using bY,.inl rfl,λy hy=>by simp at hy⟩
theorem lt (h : LI V g pre ag cg ak ck gs Q) : ∀b,LA g ag ak b->b<V.heap.size:=λb hb=>by
 rcases hb with h1 | ⟨h1,rfl⟩ | ⟨h1,rfl⟩
 ·exact Nat.lt_of_le_of_lt h1 h.box.1
 ·exact (aR h.so h1).2
 ·exact (aR h.rk h1).2
theorem J6 (h : LI V g pre ag cg ak ck gs Q) : db ag g:=by
 by_cases h1 : ag=none
 ·exact .inl h1
 ·exact .inr λe=>by have:=(aR h.so h1).1;omega
theorem Kn (h : LI V g pre ag cg ak ck gs Q) : db ak g:=by
 by_cases h1 : ak=none
 ·exact .inl h1
 ·exact .inr λe=>by have:=(aR h.rk h1).1;omega
theorem c6 (h : LI V g pre ag cg ak ck gs Q) : V.cell? ⟨g,6,none⟩=some (.slice ag gs.length cg):=h.box.cell 6 (by rw [List.getElem?_append_right (by rw [h.pl];omega),h.pl];rfl)
theorem JT (h : LI V g pre ag cg ak ck gs Q) {r : Int} {a5 : OA} {c5 : Nat}
  (hown : w5.ownsRow (g+1) 3 1 (.slice a5 (Q.length+1) c5) (Q.length+1) (Q.map (Value.int .i64) ++ [.int .i64 r])) (hg : (V.alloc o).grownBy w5 (Value.slice ak Q.length ck).ownBlock) (hap : ∀b,b<(V.alloc o).heap.size->db ak b->db a5 b) :
  LI w5 g pre ag cg a5 c5 gs (Q ++ [r])/\Below (g+1) V w5:=by
 have hM0 : aB V w5 (LA g ag ak) (LA g ag ak):=(aB.bq (an V o) _).trans (aB.grown hg λh1=>.inr (.inr ⟨h1,rfl⟩))
 have hne : a5 ≠ none:=λe=>by
  obtain ⟨y,z,hv,hp⟩:=Pl.own hown
  cases hv
  have:=hp (by omega)
  rw [e] at this;cases this
 have hsz : (V.alloc o).heap.size=V.heap.size+1:=by simp
 have hsub : ∀b,LA g ag a5 b->LA g ag ak b\/V.heap.size<=b:=λb hb=>by
  rcases hb with hb | hb | ⟨_,hb⟩
  ·exact .inl (.inl hb)
  ·exact .inl (.inr (.inl hb))
  ·rcases Nat.lt_or_ge b V.heap.size with h1 | h1
   ·by_cases h2 : db ak b
    ·rcases hap b (by omega) h2 with h3 | h3
     ·exact absurd h3 hne
     ·exact absurd hb.symm h3
    ·exact .inl (.inr (.inr ⟨λe=>h2 (.inl e),Classical.byContradiction λe=>h2 (.inr λe2=>e e2.symm)⟩))
   ·exact .inr h1
 have hM:=hM0.H6 hsub
 have hblk : ∀b,b<V.heap.size->db ak b->w5.heap[b]? = V.heap[b]?:=λb h1 h3=>(hg.block b (by omega) λe=>h3.own _ _ e.symm).trans (Below.heap_alloc _ _ _ h1)
 have hgl:=h.box.1
 have hapg : ag ≠ none->db ak (ablk ag):=λh1=>by
  rcases h.st with h2 | h2 | h2
  ·exact absurd h2 h1
  ·exact .inl h2
  ·exact .inr λe=>h2 e.symm
 refine ⟨⟨h.pl,?_,CK h.so λh1=>hblk _ (aR h.so h1).2 (hapg h1),?_,?_,λy hy=>(h.gx y hy).BX hM⟩,Below.app ((an V o).mono (by omega)) (h.rk.alloc o) hg (Nat.le_refl _) (by rw [hsz];omega)⟩
 ·have hx:=h.box.alloc o
  have hb9 : w5.heap[g]? = (V.alloc o).heap[g]?:=hg.block g (by omega) λe=>h.Kn.own _ _ e.symm
  exact ⟨Nat.lt_of_lt_of_le hx.1 hg.size,λj v hv=>(World.cell?_of_block (w:=V.alloc o) (a:=⟨g,j,none⟩) hb9).trans (hx.2.1 j v hv),λj=>(World.frozen?_of_block (w:=V.alloc o) (a:=⟨g,j,none⟩) hb9).trans (hx.2.2 j)⟩
 ·rw [List.length_append,List.map_append];exact hown
 ·by_cases h1 : ag=none
  ·exact .inl h1
  ·refine .inr (.inr λe=>?_)
   rcases hap _ (by have:=(aR h.so h1).2;omega) (hapg h1) with h3 | h3
   ·exact hne h3
   ·exact h3 e.symm
theorem J1 (h : LI V g pre ag cg ak ck gs Q) {x : TX} (hx : my (LA g ag ak) V x.a x.T.length x.T) {a5 : OA} {c5 : Nat}
  (hown : w5.ownsRow (g+1) 25 1 (.slice a5 (gs.length+1) c5) (gs.length+1) (gs.map GI ++ [GI x])) (hg : (V.alloc o).grownBy w5 (Value.slice ag gs.length cg).ownBlock) (hap : ∀b,b<(V.alloc o).heap.size->db ag b->db a5 b) :
  LI (w5.setCell ⟨g,6,none⟩ (.slice a5 (gs.length+1) c5)) g pre a5 c5 ak ck (gs ++ [x]) Q/\Below g V (w5.setCell ⟨g,6,none⟩ (.slice a5 (gs.length+1) c5))/\aB V (w5.setCell ⟨g,6,none⟩ (.slice a5 (gs.length+1) c5)) (LA g ag ak) (LA g a5 ak):=by
 have hM0 : aB V (w5.setCell ⟨g,6,none⟩ (.slice a5 (gs.length+1) c5)) (LA g ag ak) (LA g ag ak) :=
  ((aB.bq (an V o) _).trans (aB.grown hg λh1=>.inr (.inl ⟨h1,rfl⟩))).trans (aB.IX (I:=LA g ag ak) (p:=⟨g,6,none⟩) _ (.inl (Nat.le_refl _)) _)
 have hne : a5 ≠ none:=λe=>by
  obtain ⟨y,z,hv,hp⟩:=Pl.own hown
  cases hv
  have:=hp (by omega)
  rw [e] at this;cases this
 have hsz : (V.alloc o).heap.size=V.heap.size+1:=by simp
 have hsub : ∀b,LA g a5 ak b->LA g ag ak b\/V.heap.size<=b:=λb hb=>by
  rcases hb with hb | ⟨_,hb⟩ | hb
  ·exact .inl (.inl hb)
  ·rcases Nat.lt_or_ge b V.heap.size with h1 | h1
   ·by_cases h2 : db ag b
    ·rcases hap b (by omega) h2 with h3 | h3
     ·exact absurd h3 hne
     ·exact absurd hb.symm h3
    ·exact .inl (.inr (.inl ⟨λe=>h2 (.inl e),Classical.byContradiction λe=>h2 (.inr λe2=>e e2.symm)⟩))
   ·exact .inr h1
  ·exact .inl (.inr (.inr hb))
 have hM:=hM0.H6 hsub
 have hblk : ∀b,b<V.heap.size->b ≠ g->db ag b->(w5.setCell ⟨g,6,none⟩ (.slice a5 (gs.length+1) c5)).heap[b]? = V.heap[b]?:=λb h1 h2 h3 =>
  (Below.heap_setCell _ _ _ _ h2).trans ((hg.block b (by omega) λe=>h3.own _ _ e.symm).trans (Below.heap_alloc _ _ _ h1))
 have hgl:=h.box.1
 have hb5 : aV w5 g (pre ++ [.slice ag gs.length cg,.slice none 0 0,.int .i64 0]):=by
  have hx:=h.box.alloc o
  have hb9 : w5.heap[g]? = (V.alloc o).heap[g]?:=hg.block g (by omega) λe=>h.J6.own _ _ e.symm
  exact ⟨Nat.lt_of_lt_of_le hx.1 hg.size,λj v hv=>(World.cell?_of_block (w:=V.alloc o) (a:=⟨g,j,none⟩) hb9).trans (hx.2.1 j v hv),λj=>(World.frozen?_of_block (w:=V.alloc o) (a:=⟨g,j,none⟩) hb9).trans (hx.2.2 j)⟩
 have hapB : db a5 g:=hap g (by omega) h.J6
 have hapk : ak ≠ none->db ag (ablk ak):=λh1=>by
  rcases h.st with h2 | h2 | h2
  ·exact .inl h2
  ·exact absurd h2 h1
  ·exact .inr h2
 have hset : (pre ++ [.slice ag gs.length cg,.slice none 0 0,.int .i64 0] : List Value).set 6 (.slice a5 (gs.length+1) c5)=pre ++ [.slice a5 (gs.length+1) c5,.slice none 0 0,.int .i64 0]:=by
  rw [List.set_append_right _ _ (by rw [h.pl];omega),h.pl];rfl
 refine ⟨⟨h.pl,?_,?_,CK h.rk λh1=>hblk _ (aR h.rk h1).2 (by have:=(aR h.rk h1).1;omega) (hapk h1),?_,λy hy=>?_⟩,?_⟩
 ·rw [List.length_append]
  have h9:=hb5.gk 6 (.slice a5 (gs.length+1) c5)
  rw [hset] at h9;exact h9
 ·rw [List.length_append,List.map_append]
  exact eO hown _ (hapB.elim (λe=>.inl e) λe=>.inr e)
 ·by_cases h1 : ak=none
  ·exact .inr (.inl h1)
  ·refine .inr (.inr λe=>?_)
   rcases hap _ (by have:=(aR h.rk h1).2;omega) (hapk h1) with h3 | h3
   ·exact hne h3
   ·exact h3 e
 ·rcases List.mem_append.1 hy with hy | hy
  ·exact (h.gx y hy).BX hM
  ·rw [List.mem_singleton.1 hy];exact hx.BX hM
 ·refine ⟨?_,hM⟩
  exact ((Below.app ((an V o).mono (show g+1<=V.heap.size by omega)) (h.so.alloc o) hg (Nat.le_refl _) (by rw [hsz];omega)).mono (Nat.le_succ g)).setCell (p:=⟨g,6,none⟩) (Nat.le_refl g) _
end LI
structure nY (w : World) (a : OA) (n : Nat) (l : Ll) : Prop where
 len : l.length=n
 pl : Pl a n
 max : n<=maxLen
 cell : ∀i,i<n->∀j,j<4->w.cell? ⟨ablk a,aJ a+i * 4+j,none⟩=some (.int .i64 (nth (aj l i) j))
theorem nY.nil (w : World) (a : OA) : nY w a 0 []:=⟨rfl,λh=>by omega,by unfold maxLen;omega,λi h=>by omega⟩
def rdV : Ll->List Value
 | []=>[]
 | r :: l=>.int .i64 (nth r 0) :: .int .i64 (nth r 1) :: .int .i64 (nth r 2) :: .int .i64 (nth r 3) :: rdV l
theorem FI : ∀(l : Ll) (i j : Nat),i<l.length->j<4->(rdV l)[i * 4+j]? = some (.int .i64 (nth (aj l i) j))
 | [],i,j,h,_=>by simp at h
 | r :: l,0,j,_,hj=>by
  have e : aj (r :: l) 0=r:=rfl
  rw [e,rdV]
  match j,hj with
  | 0,_=>rfl
  | 1,_=>rfl
  | 2,_=>rfl
  | 3,_=>rfl
 | r :: l,i+1,j,hi,hj=>by
  have e : aj (r :: l) (i+1)=aj l i:=rfl
  have h:=FI l i j (by simpa using hi) hj
  rw [e,rdV,show (i+1) * 4+j=(i * 4+j)+1+1+1+1 by omega]
  simpa using h
theorem nY.own {w : World} {B : Nat} {e : TypeId} {a : OA} {k c : Nat} {l : Ll} (h : w.ownsRow B e 4 (.slice a k c) k (rdV l)) (hl : l.length=k) : nY w a k l:=by
 rcases h.2 with ⟨hv,h0⟩ | ⟨g,cap,cur,hv,hg,hh,hn,hm,hs,ht⟩
 ·cases hv
  have hT : l=[]:=List.eq_nil_of_length_eq_zero hl
  subst hT
  exact nY.nil _ _
 ·cases hv
  refine ⟨hl,λ_=>rfl,by omega,λi hi j hj=>?_⟩
  have hc:=World.ownsRow.cells h (g:=g) rfl _ _ (FI l i j (by omega) hj)
  rw [Addr.add_lit] at hc
  simpa [ablk,aJ,Nat.add_assoc] using hc
theorem AD {P : Program} {w : World} {ops : Array Oper} {o : Oper} {ac : Act} {K : Act->World->Prop} {Q : Exit->Act->World->Prop} {E : Prop}
  (hg : o.guard=none) (s x : Operand) (t e : TypeId) (hop : o.op = .call { callee:=.builtin .append,args:=#[s,x],argTypes:=#[t,t] }) (z : Value) (bytes : Nat)
  (h1 : P.underlying t=some (.slice e)) (h2 : (P.info? e).map (λi=>(i.zero,i.size,i.bytes))=some (some z,4,bytes)) (hz : z.cells.size=4)
  (B : Nat) (a : OA) (n c : Nat) (xs : List Value) (hs : ac.eval s = .slice a n c) (hown : w.ownsRow B e 4 (.slice a n c) n xs)
  (g cc : Nat) (u0 u1 u2 u3 : Value) (hx : ac.eval x = .slice (some ⟨g,0,none⟩) 1 cc) (hu0 : w.cell? ⟨g,0,none⟩=some u0) (hu1 : w.cell? ⟨g,1,none⟩=some u1) (hu2 : w.cell? ⟨g,2,none⟩=some u2) (hu3 : w.cell? ⟨g,3,none⟩=some u3)
  (h1c : ∀u ∈ [u0,u1,u2,u3],u.oneCell'=true)
  (b2 : (n+1) * bytes<=140737488355328) (b3 : n+1<=maxLen) (hB : B<=w.heap.size)
  (hK : ∀a' c' w',w'.ownsRow B e 4 (.slice a' (n+1) c') (n+1) (xs ++ [u0,u1,u2,u3])->w.grownBy w' (Value.slice a n c).ownBlock->(∀b,b<w.heap.size->db a b->db a' b)->K (ac.put o.dst (.slice a' (n+1) c')) w') :
  if Region.wanted o (yielded ops ac.tmps)=true then Oper.wp P o ac w K Q else E:=by
 have hw : Region.wanted o (yielded ops ac.tmps)=true:=by simp [Region.wanted,hg]
 rw [if_pos hw]
 obtain ⟨i,hi,hz0,hz1,hz2⟩ : ∃i,P.info? e=some i/\i.zero=some z/\i.size=4/\i.bytes=bytes:=by
  cases hp : P.info? e with
  | none=>rw [hp] at h2;cases h2
  | some i=>rw [hp] at h2;simp at h2;exact ⟨i,rfl,h2.1,h2.2.1,h2.2.2⟩
 obtain ⟨v',w',hr,h3,h4,_,h6⟩:=run_append_own_at (P:=P) w B t o.type e i z 4 bytes h1 hi hz0 hz1 hz2 hz (by decide) _ n xs hown ⟨g,0,none⟩ 1 cc [u0,u1,u2,u3] rfl
  (λj y hj=>by
   match j,hj with
   | 0,hj=>simp at hj;subst hj;simpa [Addr.add] using hu0
   | 1,hj=>simp at hj;subst hj;simpa [Addr.add] using hu1
   | 2,hj=>simp at hj;subst hj;simpa [Addr.add] using hu2
   | 3,hj=>simp at hj;subst hj;simpa [Addr.add] using hu3) h1c b3 b2 hB
 obtain ⟨a',c',rfl⟩ : ∃a' c',v' = .slice a' (n+1) c':=by
  rcases h3.2 with ⟨_,h0⟩ | ⟨g',cap,cur,rfl,_⟩
  ·omega
  ·exact ⟨_,cap,rfl⟩
 unfold Oper.wp execOp
 simp only [hop,resolve,invoke,builtin,Sem.run_bind,Sem.run_pure,Result.andThen_ok,List.map_toArray,List.map_cons,List.map_nil,hs,hx,hr]
 refine hK a' c' w' h3 h4 λb hb hapt=>?_
 have h:=hapt.own n c
 rcases h6 with h6 | h6
 ·exact db.kT (n:=n+1) (c:=c') (by rw [h6];exact h)
 ·exact db.kT (n:=n+1) (c:=c') (by rw [h6];intro h7;cases h7;omega)
theorem my.GU {g : Nat} {ag ak : OA} {w : World} {a : OA} {n : Nat} {L : Ll} (h : my (LA g ag ak) w a n L) : bN (g+1) w a n L :=
 ⟨h.len,h.pl,h.max,λhn=>Nat.lt_of_not_le λh2=>h.no hn (.inl h2),λi hi=>by
  obtain ⟨b,m,c,h1,h2,h3⟩:=h.cell i hi
  exact ⟨b,m,c,h1,h2,λhm=>Nat.lt_of_not_le λh4=>h3 hm (.inl h4)⟩⟩
theorem gz {w : World} {B s : Nat} {e : TypeId} {a : OA} {n c : Nat} {xs : List Value} (h : w.ownsRow B e s (.slice a n c) n xs) (ha : a ≠ none) : B<=ablk a/\ablk a<w.heap.size:=by
 rcases h.2 with ⟨hv,_⟩ | ⟨g,cap,cur,hv,hg,hh,_⟩
 ·cases hv;exact absurd rfl ha
 ·cases hv;exact ⟨hg,(Array.getElem?_eq_some_iff.1 hh).1⟩
theorem jF {w w' : World} {B s : Nat} {e : TypeId} {a : OA} {n c : Nat} {xs : List Value} (h : w.ownsRow B e s (.slice a n c) n xs) (h1 : a ≠ none->w'.heap[ablk a]? = w.heap[ablk a]?) : w'.ownsRow B e s (.slice a n c) n xs:=by
 refine ⟨h.1,?_⟩
 rcases h.2 with h2 | ⟨g,cap,cur,hv,hg,hh,r⟩
 ·exact .inl h2
 ·cases hv
  exact .inr ⟨g,_,cur,rfl,hg,by rw [show w'.heap[g]? = w.heap[g]? from h1 (by simp)];exact hh,r⟩
theorem EJ {P M : Int} {mod : Lz} {m : Nat} {L : Ll} (hE : aL P M mod m L=0) {v : Int} (hv : 0<=v/\v<=(L.length : Int)) (hl : L.length<=64) :
  uE L.length ((fu (aa P M.toNat mod).ops L m).map (·.2)) v=(flTo L.length v ((fu (aa P M.toNat mod).ops L m).map (·.2)) ((fu (aa P M.toNat mod).ops L m).map (·.2)).length,0):=by
 obtain ⟨m',e,hm1,hm64,_,_⟩:=ba hE
 obtain ⟨h1,h2⟩:=fg hE
 unfold uE
 rw [if_pos]
 refine ⟨?_,List.all_eq_true.2 λx hx=>?_⟩
 ·unfold Gr
  simp [List.length_map]
  omega
 ·obtain ⟨t,ht,rfl⟩:=List.mem_map.1 hx
  have h3:=eH h1 t ht
  unfold uA
  simp
  omega
theorem aB.J0 {w w' : World} {M M' I : Nat->Prop} (h : aB w w' M M') (h1 : ∀x,M x->I x) (h2 : ∀x,M' x->I x) : aB w w' I I :=
 ⟨h.os,h.tape,h.output,h.size,λb hb hI=>h.block b hb λhm=>hI (h1 b hm),λb hb=>.inl hb⟩
theorem CS : (Tryz.prog.info? 62).map (λi=>(i.zero,i.size,i.bytes))=some (some (.agg #[.int .i64 0,.int .i64 0,.int .i64 0,.int .i64 0]),4,32):=by kernel_rfl
end
def pJ (P M : Int) (mod : Lz) (N : Int) (L : Ll) (y : Lz) : Int:=if aL P M mod N L=0 then uU (aK P M) y N.toNat else aL P M mod N L
def Aw (l : Lz) : Bool:=l.all λy=>y == 0
theorem HU (l : Lz) : l.any (λy=>y != 0) = !(Aw l):=by
 unfold Aw
 induction l with
 | nil=>rfl
 | cons x l ih =>
  rw [List.any_cons,List.all_cons,ih,Bool.not_and];rfl
theorem Dm (x : Int) (w : World) : Calls Tryz.prog 248 #[.int .i64 x] w λe w'=>e = .returned (.bool (x != 0))/\w=w':=by
 go_enter Tryz.func248,Tryz.ntmps248
 go_wp2
 go_ret
 exact ⟨rfl,rfl⟩
theorem zP (p : Int->Bool) (a : OA) (n c : Nat) (l : Lz) (w : World) (hi : Ints w a n l) (hf : ∀k,k<n->Calls Tryz.prog 248 #[.int .i64 (nth l k)] w λe w'=>e = .returned (.bool (p (nth l k)))/\w=w') :
  Calls Tryz.prog 97 #[.slice a n c,.func (.func 248) #[] #[]] w λe w'=>∃z : Int,e = .returned (.int .i64 z)/\(0<=z ↔ l.any p=true)/\w=w':=by
 have hpl:=hi.pl
 have hmax:=hi.max
 have HF:=Z5 hf
 have Hl:=Z5 hi.len
 unfold maxLen at hmax
 clear hf
 go_enter Tryz.func97,Tryz.ntmps97
 go_wp2_with fail
 go_loop [8] (λiv=>∃k : Nat,k<=n/\iv = .int .i64 k/\Hid (∀j,j<k->p (nth l j)=false)) (λiv=>n - (intOf iv).toNat)
 case atStart=>exact ⟨0,Nat.zero_le _,rfl,λj hj=>by omega⟩
 case round =>
  obtain ⟨k,hk,rfl,hno⟩:=hrel
  by_cases hlt : k<n
  ·have ck:=hi.cell k hlt
   have hfk:=HF.out k hlt
   obtain ⟨z,hz⟩ : ∃z,p (nth l k)=z:=⟨_,rfl⟩
   rw [hz] at hfk
   have Hk:=Z5 hfk
   cases z
   ·have Hn : Hid (∀j,j<k+1->p (nth l j)=false):=λj hj=>by
     by_cases e : j=k
     ·subst e;exact hz
     ·exact hno.out j (by omega)
    clear hz hfk hno
    go_wp2_with fail
    refine Hk.out.mono ?_
    rintro e w' ⟨rfl,rfl⟩
    go_wp2_with fail
    go_round
    case rel=>exact ⟨k+1,by omega,by go_num,Hn.out⟩
    case measure=>simp [intOf] <;> omega
   ·have Hy : Hid (l.any p=true):=by
     show _=_
     rw [List.any_eq_true]
     exact ⟨nth l k,aN (by rw [Hl.out];exact hlt),hz⟩
    clear hz hfk hno
    go_wp2_with fail
    refine Hk.out.mono ?_
    rintro e w' ⟨rfl,rfl⟩
    go_wp2_with fail
    go_ret
    exact ⟨k,rfl,⟨λ_=>by first | exact Hy.out | exact List.any_eq_true.1 Hy.out,λ_=>Int.natCast_nonneg _⟩,rfl⟩
  ·obtain rfl : k=n:=by omega
   have Hy : Hid (l.any p=false):=by
    show _=_
    rw [List.any_eq_false]
    intro x hx
    obtain ⟨j,hj,rfl⟩:=List.mem_iff_getElem.1 hx
    have:=hno.out j (by rw [<- Hl.out];exact hj)
    rw [ai hj] at this
    rw [this];decide
   go_wp2_with fail
   go_ret
   exact ⟨-1,rfl,⟨λh=>absurd h (by omega),λh=>by have h2 : l.any p=true:=(by first | exact h | exact List.any_eq_true.2 h);rw [Hy.out] at h2;exact absurd h2 (by decide)⟩,rfl⟩
theorem tu (p : Int->Bool) (a : OA) (n c : Nat) (l : Lz) (w : World) (hi : Ints w a n l) (hf : ∀k,k<n->Calls Tryz.prog 248 #[.int .i64 (nth l k)] w λe w'=>e = .returned (.bool (p (nth l k)))/\w=w') :
  Calls Tryz.prog 136 #[.slice a n c,.func (.func 248) #[] #[]] w λe w'=>e = .returned (.bool (l.any p))/\w=w':=by
 have Hc:=Z5 (zP p a n c l w hi hf)
 clear hf
 go_enter Tryz.func136,Tryz.ntmps136
 go_wp2_with fail
 refine Hc.out.mono ?_
 rintro e w' ⟨z,rfl,hz,rfl⟩
 by_cases h0 : 0<=z
 ·have Hz : Hid (l.any p=true):=hz.1 h0
  have h0' : decide (0<=z)=true:=by simpa using h0
  clear hz h0
  go_wp2_with fail
  go_ret
  exact ⟨aY Hz.out.symm,rfl⟩
 ·have Hz : Hid (l.any p=false):=by
   show _=_
   cases h : l.any p
   ·rfl
   ·exact absurd (hz.2 h) h0
  have h0' : decide (0<=z)=false:=by simpa using h0
  clear hz h0
  go_wp2_with fail
  go_ret
  exact ⟨aY Hz.out.symm,rfl⟩
theorem DI (a : OA) (n c : Nat) (l : Lz) (w : World) (hi : Ints w a n l) :
  Calls Tryz.prog 212 #[.slice a n c] w λe w'=>e = .returned (.bool (Aw l))/\w=w':=by
 have hcc:=tu (λy=>y != 0) a n c l w hi λk hk=>Dm (nth l k) w
 rw [HU] at hcc
 obtain ⟨z,hz⟩ : ∃z,Aw l=z:=⟨_,rfl⟩
 rw [hz] at hcc ⊢
 have Hc:=Z5 hcc
 clear hcc hz
 go_enter Tryz.func212,Tryz.ntmps212
 go_wp2_with fail
 refine Hc.out.mono ?_
 rintro e w' ⟨rfl,rfl⟩
 cases z
 ·go_wp2_with fail
  go_ret
  exact ⟨rfl,rfl⟩
 ·go_wp2_with fail
  go_ret
  exact ⟨rfl,rfl⟩
theorem xP {w : World} {b : Nat} {G : de} (m : Nat) (a : OA) (n c : Nat) (R : Ll) (ap : OA) (cp : Nat) (Pv : Lz) (ax : OA) (cx : Nat) (x : Lz)
  (h : eD w b G) (hi : bZ w a n R) (hp : Ints w ap n Pv) (hx : Ints w ax m x) (hOk : BS.Ok G.El m ⟨R,Pv⟩) (hxe : Vc G.El m x) (hn : n<=1000000) (hm : m<=1000000) :
  Calls Tryz.prog 144 #[.agg #[.pointer (some ⟨b,0,none⟩),.int .i64 m,.slice a n c,.slice ap n cp],.slice ax m cx] w
   λe w'=>e = .returned (.bool (Aw (redTo G.ops R Pv x n)))/\Below w.heap.size w w':=by
 obtain ⟨z,hz⟩ : ∃z,Aw (redTo G.ops R Pv x n)=z:=⟨_,rfl⟩
 rw [hz]
 have HZ:=Z5 hz
 clear hz
 go_enter Tryz.func144,Tryz.ntmps144
 go_wp2_with fail
 obtain ⟨W,hW⟩ : ∃W : World,W=w.alloc (.cells #[.pointer (some ⟨b,0,none⟩),.int .i64 m,.slice a n c,.slice ap n cp] 162):=⟨_,rfl⟩
 rw [<- hW]
 have hbW : Below w.heap.size w W:=by rw [hW];exact an _ _
 clear hW
 refine (B3 m a n c R ap cp Pv ax cx x (h.ah hbW) (hi.ah hbW) (hp.ah hbW) (hx.ah hbW) hOk hxe hn hm).mono ?_
 rintro e w1 ⟨a1,c1,v2,rfl,hI1,hb1⟩
 have hzz:=DI a1 m c1 _ w1 hI1
 rw [HZ.out] at hzz
 have Hz:=Z5 hzz
 have hF:=Below.next hbW hb1
 clear hI1 hOk hxe hzz
 go_wp2_with fail
 refine Hz.out.mono ?_
 rintro e w2 ⟨rfl,rfl⟩
 go_wp2_with fail
 go_ret
 exact ⟨rfl,hF⟩
def hasB (P M : Int) (mod : Lz) (m : Nat) (L : Ll) (x : Lz) : Bool:=Aw (redTo (aa P M.toNat mod).ops L (ek (aa P M.toNat mod) L m) x L.length)
theorem uV (P M : Int) (am : OA) (mn cm : Nat) (mod : Lz) (m : Nat) (a : OA) (n c : Nat) (L : Ll) (ax : OA) (cx : Nat) (x : Lz) (w : World) (hmod : Ints w am mn mod) (hi : bZ w a n L) (hx : Ints w ax m x)
  (hE : aL P M mod m L=0) (hxe : Vc (aa P M.toNat mod).El m x) :
  Calls Tryz.prog 75 #[.agg #[.int .i64 P,.int .i64 M,.slice am mn cm],.agg #[.int .i64 m,.slice a n c],.slice ax m cx] w λe w'=>e = .returned (.tuple #[.bool (hasB P M mod m L x),.int .i64 0])/\Below w.heap.size w w':=by
 obtain ⟨z,hz⟩ : ∃z,hasB P M mod m L x=z:=⟨_,rfl⟩
 rw [hz]
 unfold hasB at hz
 have hil:=hi.len
 obtain ⟨m',em,hm1,hm64,F,hR⟩:=ba hE
 obtain rfl : m=m':=by omega
 have hn : n<=256:=by rw [<- hil];exact (eJ hE).choose_spec.2.2.2.1
 obtain ⟨h5,h6⟩:=dY (bh hE).2.2.2
 rw [Int.toNat_natCast] at h6
 have hcan : dD (aa P M.toNat mod).ops m L=L:=h6
 have hpiv:=(du F hR).1
 have hlen:=cU F hR
 rw [hcan] at hpiv hlen
 have hOk : BS.Ok (aa P M.toNat mod).El m ⟨L,ek (aa P M.toNat mod) L m⟩:=(wo hR hpiv hlen).ok
 have hpl : (ek (aa P M.toNat mod) L m).length=n:=by rw [<- hil];exact hlen.symm
 rw [hil] at hz
 have H0:=Z5 hz
 have HOk:=Z5 hOk
 have Hsp:=Z5 (bh hE).2.2.2
 have Hxe:=Z5 hxe
 clear hz hOk h5 h6 hcan hpiv hlen em F hR hE hil hxe
 go_enter Tryz.func75,Tryz.ntmps75
 go_wp2_with fail
 obtain ⟨W,hW⟩ : ∃W : World,W=(w.alloc (.cells #[.int .i64 P,.int .i64 M,.slice am mn cm] 24)).alloc (.cells #[.int .i64 m,.slice a n c] 82):=⟨_,rfl⟩
 rw [<- hW]
 have hbW : Below w.heap.size w W:=by rw [hW];exact dH _ _ _
 clear hW
 refine (kM P M am mn cm mod m a n c L W (hmod.ah hbW) (hi.ah hbW)).mono ?_
 rintro e w1 ⟨hb1,⟨he,_⟩ | ⟨_,m',b,hm',ap,cp,rfl,hG,hbl,hP⟩⟩
 ·exact absurd Hsp.out he
 obtain rfl : m=m':=by omega
 have hbw1:=Below.next hbW hb1
 have hp1:=hP.ints
 rw [hpl] at hp1 ⊢
 obtain ⟨Pv,hPv⟩ : ∃Pv,ek (aa P M.toNat mod) L m=Pv:=⟨_,rfl⟩
 obtain ⟨G,hGG⟩ : ∃G,aa P M.toNat mod=G:=⟨_,rfl⟩
 rw [hGG] at hPv hG H0 HOk Hxe
 rw [hPv] at H0 HOk
 have hp2 : Ints w1 ap n Pv:=by rw [hGG,hPv] at hp1;exact hp1
 have hb2:=an w1 (.cells #[.pointer (some ⟨b,0,none⟩),.int .i64 m,.slice a n c,.slice ap n cp] 162)
 have hbw2:=Below.next hbw1 hb2
 have HWd:=Z5 (yh m a n c ap n cp ax cx x (hG.gf.ah hb2) (hx.ah hbw2) Hxe.out)
 have HHs : Hid (∀V,Below w1.heap.size w1 V->Calls Tryz.prog 144 #[.agg #[.pointer (some ⟨b,0,none⟩),.int .i64 m,.slice a n c,.slice ap n cp],.slice ax m cx] V λe w'=>e = .returned (.bool z)/\Below V.heap.size V w'):=λV hV=>by
  rw [<- H0.out];exact xP m a n c L ap cp Pv ax cx x (hG.gf.ah hV) (hi.ah (Below.next hbw1 hV)) (hp2.ah hV) (hx.ah (Below.next hbw1 hV)) HOk.out Hxe.out (by omega) (by omega)
 have k0:=aV.new w1 [.pointer (some ⟨b,0,none⟩),.int .i64 m,.slice a n c,.slice ap n cp] 162 rfl
 have HX:=Z5 k0
 clear hpl hPv hGG hG hbl hP hp1 hp2 hm' k0
 go_wp2_with fail
 refine HWd.out.mono ?_
 rintro e w3 ⟨rfl,hb3⟩
 have x3:=HX.out.ah hb3
 have k0:=x3.cell 0 rfl
 have k1:=x3.cell 1 rfl
 have k2:=x3.cell 2 rfl
 have k3:=x3.cell 3 rfl
 have Hh:=Z5 (HHs.out w3 (Below.next hb2 hb3))
 have hbw3:=Below.next hbw2 hb3
 clear HWd HHs x3
 go_wp2_with fail
 refine Hh.out.mono ?_
 rintro e w4 ⟨rfl,hb4⟩
 have hF:=Below.next hbw3 hb4
 go_wp2_with fail
 go_ret2
 exact ⟨rfl,hF⟩
theorem vg (P M : Int) (am : OA) (mn cm : Nat) (mod : Lz) (N : Int) (a : OA) (n c : Nat) (L : Ll) (ax : OA) (nx cx : Nat) (x : Lz) (w : World) (hmod : Ints w am mn mod) (hi : bZ w a n L) (hx : Ints w ax nx x) :
  Calls Tryz.prog 74 #[.agg #[.int .i64 P,.int .i64 M,.slice am mn cm,.int .i64 N,.slice a n c],.slice ax nx cx] w λe w'=>e = .returned (.int .i64 (pJ P M mod N L x))/\Below w.heap.size w w':=by
 go_enter Tryz.func74,Tryz.ntmps74
 go_wp2_with fail
 obtain ⟨W,hW⟩ : ∃W : World,W=w.alloc (.cells #[.int .i64 P,.int .i64 M,.slice am mn cm,.int .i64 N,.slice a n c] 27):=⟨_,rfl⟩
 rw [<- hW]
 have hbW : Below w.heap.size w W:=by rw [hW];exact an _ _
 have x0 : aV W w.heap.size [.int .i64 P,.int .i64 M,.slice am mn cm,.int .i64 N,.slice a n c]:=by rw [hW];exact aV.new _ _ _ rfl
 clear hW
 refine (fb P M am mn cm mod N a n c L W (hmod.ah hbW) (hi.ah hbW)).mono ?_
 rintro e w1 ⟨rfl,hb1⟩
 have hbw1:=Below.next hbW hb1
 have x1:=x0.ah hb1
 have c0:=x1.cell 0 rfl
 have c1:=x1.cell 1 rfl
 have c2:=x1.cell 2 rfl
 have c3:=x1.cell 3 rfl
 by_cases hE : aL P M mod N L=0
 rotate_left
 ·have hE2 : (aL P M mod N L != 0)=true:=by simpa using hE
  have HR : Hid (pJ P M mod N L x=aL P M mod N L):=if_neg hE
  clear hE x0 x1
  generalize aL P M mod N L=er at *
  go_wp2_with fail
  go_ret
  exact ⟨aF HR.out.symm,hbw1⟩
 obtain ⟨m,rfl,_⟩:=eJ hE
 have hq : ((aa P M.toNat mod).q : Int)=aK P M:=by
  obtain ⟨m1,e1,_,h1,_⟩:=fU (bh hE).1
  rw [show M.toNat=m1 by omega];exact h1
 have HR : Hid (pJ P M mod m L x=uU (aa P M.toNat mod).q x m):=by
  show _=_
  rw [pJ,if_pos hE,hq,Int.toNat_natCast]
 have HL:=Z5 (uZ P M am mn cm mod ax nx cx x m w1 (hmod.ah hbw1) (hx.ah hbw1) (bh hE).1)
 rw [hE]
 clear hE x0 x1 hq
 go_wp2_with fail
 refine HL.out.mono ?_
 rintro e w2 ⟨rfl,hb2⟩
 have hF:=Below.next hbw1 hb2
 go_wp2_with fail
 go_ret
 exact ⟨aF HR.out.symm,hF⟩
theorem Ds {P M : Int} {mod : Lz} {N : Int} {L : Ll} {x : Lz} (h : pJ P M mod N L x=0) : aL P M mod N L=0/\Vc (aa P M.toNat mod).El N.toNat x:=by
 unfold pJ at h
 by_cases hE : aL P M mod N L=0
 ·rw [if_pos hE] at h
  have hq : ((aa P M.toNat mod).q : Int)=aK P M:=by
   obtain ⟨m1,e1,_,h1,_⟩:=fU (bh hE).1
   rw [show M.toNat=m1 by omega];exact h1
  refine ⟨hE,?_⟩
  unfold uU at h
  by_cases hl : x.length=N.toNat
  ·rw [if_pos hl] at h
   refine ⟨hl,λy hy=>?_⟩
   unfold iH at h
   by_cases he : gD (aK P M) x=true
   ·unfold gD at he
    have h1:=List.all_eq_true.1 he y hy
    unfold fG at h1
    simp at h1
    exact ⟨h1.1,by have:=h1.2;omega⟩
   ·rw [if_neg he] at h;exact absurd h (by decide)
  ·rw [if_neg hl] at h;exact absurd h (by decide)
 ·rw [if_neg hE] at h;exact absurd h hE
def yH (P M : Int) (mod : Lz) (N : Int) (L : Ll) (x : Lz) : Bool:=if pJ P M mod N L x=0 then hasB P M mod N.toNat L x else false
theorem wE (P M : Int) (am : OA) (mn cm : Nat) (mod : Lz) (N : Int) (a : OA) (n c : Nat) (L : Ll) (ax : OA) (nx cx : Nat) (x : Lz) (w : World) (hmod : Ints w am mn mod) (hi : bZ w a n L) (hx : Ints w ax nx x) :
  Calls Tryz.prog 35 #[.agg #[.int .i64 P,.int .i64 M,.slice am mn cm,.int .i64 N,.slice a n c],.slice ax nx cx] w λe w'=>e = .returned (.tuple #[.bool (yH P M mod N L x),.int .i64 (pJ P M mod N L x)])/\Below w.heap.size w w':=by
 have HSp : Hid (pJ P M mod N L x=0->∀V,Below w.heap.size w V->Calls Tryz.prog 75 #[.agg #[.int .i64 P,.int .i64 M,.slice am mn cm],.agg #[.int .i64 N,.slice a n c],.slice ax nx cx] V λe w'=>e = .returned (.tuple #[.bool (yH P M mod N L x),.int .i64 0])/\Below V.heap.size V w'):=λh V hV=>by
  obtain ⟨hE,hxe⟩:=Ds h
  rw [yH,if_pos h]
  obtain ⟨m,rfl,_⟩:=eJ hE
  rw [Int.toNat_natCast] at hxe ⊢
  have e1 : nx=m:=by rw [<- hx.len];exact hxe.1
  subst e1
  exact uV P M am mn cm mod nx a n c L ax cx x V (hmod.ah hV) (hi.ah hV) (hx.ah hV) hE hxe
 have HWd : Hid (∀V,Below w.heap.size w V->Calls Tryz.prog 74 #[.agg #[.int .i64 P,.int .i64 M,.slice am mn cm,.int .i64 N,.slice a n c],.slice ax nx cx] V λe w'=>e = .returned (.int .i64 (pJ P M mod N L x))/\Below V.heap.size V w'):=λV hV =>
  vg P M am mn cm mod N a n c L ax nx cx x V (hmod.ah hV) (hi.ah hV) (hx.ah hV)
 have HN : Hid (pJ P M mod N L x ≠ 0->yH P M mod N L x=false):=λh=>by rw [yH,if_neg h]
 clear hmod hi hx
 obtain ⟨er,her⟩ : ∃er,pJ P M mod N L x=er:=⟨_,rfl⟩
 obtain ⟨z,hz⟩ : ∃z,yH P M mod N L x=z:=⟨_,rfl⟩
 rw [her] at HWd HN HSp ⊢
 rw [hz] at HN HSp ⊢
 clear her hz
 go_enter Tryz.func35,Tryz.ntmps35
 go_wp2_with fail
 obtain ⟨W,hW⟩ : ∃W : World,W=w.alloc (.cells #[.int .i64 P,.int .i64 M,.slice am mn cm,.int .i64 N,.slice a n c] 27):=⟨_,rfl⟩
 rw [<- hW]
 have hbW : Below w.heap.size w W:=by rw [hW];exact an _ _
 have x0 : aV W w.heap.size [.int .i64 P,.int .i64 M,.slice am mn cm,.int .i64 N,.slice a n c]:=by rw [hW];exact aV.new _ _ _ rfl
 have HX:=Z5 x0
 have HbW:=Z5 hbW
 clear hW x0
 refine (HWd.out W hbW).mono ?_
 rintro e w1 ⟨rfl,hb1⟩
 have hbw1:=Below.next HbW.out hb1
 by_cases hE : er=0
 rotate_left
 ·have hE2 : (er != 0)=true:=by simpa using hE
  have HN2:=Z5 (HN.out hE)
  clear hE
  go_wp2_with fail
  go_ret2
  exact ⟨by rw [HN2.out];rfl,hbw1⟩
 subst hE
 have HSp2:=Z5 (HSp.out rfl)
 have hS : ∀V,Below w1.heap.size w1 V->V.cell? ⟨w.heap.size,0,none⟩=some (.int .i64 P)/\V.cell? ⟨w.heap.size,1,none⟩=some (.int .i64 M)/\V.cell? ⟨w.heap.size,2,none⟩=some (.slice am mn cm)/\V.cell? ⟨w.heap.size,3,none⟩=some (.int .i64 N)/\V.cell? ⟨w.heap.size,4,none⟩=some (.slice a n c)/\Below w1.heap.size w1 V:=λV hV=>by
  have x1:=HX.out.ah (Below.next hb1 hV)
  exact ⟨x1.cell 0 rfl,x1.cell 1 rfl,x1.cell 2 rfl,x1.cell 3 rfl,x1.cell 4 rfl,hV⟩
 have HS:=Z5 hS
 have Hbw1:=Z5 hbw1
 clear hS HWd hbW hb1 hbw1 HSp HN
 go_wp2_with fail
 go_region_held3 (λV=>V.cell? ⟨w.heap.size,0,none⟩=some (.int .i64 P)/\V.cell? ⟨w.heap.size,1,none⟩=some (.int .i64 M)/\V.cell? ⟨w.heap.size,2,none⟩=some (.slice am mn cm)/\V.cell? ⟨w.heap.size,3,none⟩=some (.int .i64 N)/\V.cell? ⟨w.heap.size,4,none⟩=some (.slice a n c)/\Below w1.heap.size w1 V)
  ((refine HS.out _ ?_;first | exact (Below.refl _ _).drew | (go_split_ands;exact Below.next (by assumption) (by assumption))))
  (first
   | (go_at_call 73;((with_reducible refine (CG P M am mn cm N a n c _).mono ?_);rintro e w6 ⟨rfl,hb6⟩))
   | (go_at_call 75;((with_reducible refine (HSp2.out _ (Below.next Hbw1.out (by go_split_ands;assumption))).mono ?_);rintro e w8 ⟨rfl,hb8⟩)))
 all_goals (
  go_wp2_with fail
  go_ret2
  exact ⟨rfl,Below.next Hbw1.out (by go_split_ands;assumption)⟩)
theorem nY.ah {w w' : World} {a : OA} {n : Nat} {l : Ll} (h : nY w a n l) (hb : Below w.heap.size w w') : nY w' a n l:=⟨h.len,h.pl,h.max,λi hi j hj=>aw hb (h.cell i hi j hj)⟩
theorem oc (a : OA) (n c : Nat) (l : Ll) (a' : OA) (n' c' : Nat) (w : World) (h : nY w a n l) (h' : nY w a' n' l) (hn : n<=1000) :
  Calls Tryz.prog 18 #[.slice a n c,.slice a' n' c'] w λe w'=>e = .returned (.bool true)/\Below w.heap.size w w':=by
 obtain rfl : n'=n:=by rw [<- h.len,h'.len]
 have hpl:=h.pl
 have hpl':=h'.pl
 go_enter Tryz.func18,Tryz.ntmps18
 go_wp2_with fail
 go_loopw [5] (λiv wr=>∃k : Nat,k<=n'/\iv = .int .i64 k/\Below w.heap.size w wr) (λiv _=>n' - (intOf iv).toNat)
 case atStart=>exact ⟨0,Nat.zero_le _,rfl,Below.refl _ _⟩
 case round =>
  obtain ⟨k,hk,rfl,hbr⟩:=hrel
  generalize wr=V at *
  by_cases hlt : k<n'
  ·have r1:=(h.ah hbr).cell k hlt
   have r2:=(h'.ah hbr).cell k hlt
   have a0:=r1 0 (by omega)
   have a1:=r1 1 (by omega)
   have a2:=r1 2 (by omega)
   have a3:=r1 3 (by omega)
   have b0:=r2 0 (by omega)
   have b1:=r2 1 (by omega)
   have b2:=r2 2 (by omega)
   have b3:=r2 3 (by omega)
   rw [Nat.add_zero] at a0 b0
   clear r1 r2
   generalize nth (aj l k) 0=x0 at *
   generalize nth (aj l k) 1=x1 at *
   generalize nth (aj l k) 2=x2 at *
   generalize nth (aj l k) 3=x3 at *
   go_wp2_with fail
   go_quiet (fail)
   go_wp2_with fail
   go_roundw
   case rel=>exact ⟨k+1,by omega,by go_num,Below.next hbr (bd.below ⟨_,rfl⟩)⟩
   case measure=>simp [intOf] <;> omega
  ·obtain rfl : k=n':=by omega
   go_wp2_with fail
   go_ret
   exact ⟨rfl,hbr⟩
end Go.Proofs.YtcfmiocdlcapoaaGreat
