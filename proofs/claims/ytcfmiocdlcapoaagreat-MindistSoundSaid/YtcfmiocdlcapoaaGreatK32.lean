/-  -/
import Derived.Test.YtcfmiocdlcapoaaGreatK31
import Derived.Test.YtcfmiocdlcapoaaGreatK28
import Derived.Test.YtcfmiocdlcapoaaGreatK21
import Derived.Test.YtcfmiocdlcapoaaGreatK17
import Derived.Test.YtcfmiocdlcapoaaGreatK22
import Derived.Test.YtcfmiocdlcapoaaGreatK24
import Derived.Test.YtcfmiocdlcapoaaGreatK20
import Derived.Test.YtcfmiocdlcapoaaGreatK29
import Derived.Test.YtcfmiocdlcapoaaGreatK11
import Derived.Test.YtcfmiocdlcapoaaGreatK16
namespace Go.Proofs.YtcfmiocdlcapoaaGreat
set_option linter.unusedVariables false
set_option linter.unusedSimpArgs false
set_option linter.unusedSectionVars false

section
open Go.RowKit
theorem cmpM_self : ∀a : List Int,cmpL a a=0
 | []=>rfl
 | x :: a=>by rw [cmpL,if_neg (by omega),if_neg (by omega),cmpM_self a]
theorem cmpM_le : ∀ {a b c : List Int},cmpL a b<=0->cmpL b c<=0->cmpL a c<=0
 | [],_,[],_,_=>by rw [cmpL];omega
 | [],_,_ :: _,_,_=>by rw [cmpL];omega
 | _ :: _,[],_,h,_=>by rw [cmpL] at h;omega
 | _ :: _,_ :: _,[],_,h=>by rw [cmpL] at h;omega
 | x :: a,y :: b,z :: c,h,h'=>by
  rw [cmpL] at h h' ⊢
  by_cases h1 : x<y
  ·by_cases h3 : z<y
   ·rw [if_neg (by omega),if_pos h3] at h';omega
   ·rw [if_pos (by omega)];omega
  ·rw [if_neg h1] at h
   by_cases h2 : y<x
   ·rw [if_pos h2] at h;omega
   ·rw [if_neg h2] at h
    by_cases h3 : y<z
    ·rw [if_pos (by omega)];omega
    ·rw [if_neg h3] at h'
     by_cases h4 : z<y
     ·rw [if_pos h4] at h';omega
     ·rw [if_neg h4] at h'
      rw [if_neg (by omega),if_neg (by omega)]
      exact cmpM_le h h'
def leK (b x : List Int) : Prop:=wtL b<wtL x\/(wtL b=wtL x/\cmpL b x<=0)
theorem leK.refl (b : List Int) : leK b b:=.inr ⟨rfl,by rw [cmpM_self];omega⟩
theorem leK.trans {a b c : List Int} (h : leK a b) (h' : leK b c) : leK a c:=by
 rcases h with h | ⟨h,g⟩
 ·rcases h' with h' | ⟨h',_⟩
  ·exact .inl (by omega)
  ·exact .inl (by omega)
 ·rcases h' with h' | ⟨h',g'⟩
  ·exact .inl (by omega)
  ·exact .inr ⟨by omega,cmpM_le g g'⟩
theorem leK.wt {a b : List Int} (h : leK a b) : wtL a<=wtL b:=by rcases h with h | ⟨h,_⟩ <;> omega
theorem wtM_zero {x : List Int} : wtL x=0 ↔ ∀y ∈ x,y=0:=by
 unfold wtL
 rw [List.countP_eq_zero]
 constructor
 ·intro h y hy;have:=h y hy;simpa using this
 ·intro h y hy;rw [h y hy];simp
theorem fnz_lt {v : List Int} (h : wtL v ≠ 0) : fnz v<v.length:=by
 refine Decidable.byContradiction λhn=>h (wtM_zero.2 λy hy=>?_)
 obtain ⟨i,hi,rfl⟩:=List.mem_iff_getElem.1 hy
 have:=fnz_zero v i (by omega)
 rwa [nth_getElem hi] at this
theorem wtM_cons (x : Int) (l : List Int) : wtL (x :: l)=wtL l+if x=0 then 0 else 1:=by
 unfold wtL
 rw [List.countP_cons]
 by_cases h : x=0 <;> simp [h]
section
variable {O : FOps} {El : Int->Prop} {m : Nat}
theorem inv_ne (F : Fld O El) {a : Int} (ha : El a) (h0 : a ≠ 0) : El (O.inv a)/\O.inv a ≠ 0:=by
 have hi:=F.cl.inv a ha h0
 refine ⟨hi,λe=>?_⟩
 have h1:=F.mul_inv a ha h0
 rw [e,F.mzero ha] at h1
 have h2:=F.one_mul a ha
 rw [<- h1,F.zmul ha] at h2
 exact h0 h2.symm
theorem scl_zero (F : Fld O El) {s x : Int} (hs : El s) (h0 : s ≠ 0) (hx : El x) : O.mul s x=0 ↔ x=0 :=
 ⟨λh=>F.mul_ne hs hx h0 h,λh=>by rw [h,F.mzero hs]⟩
theorem wtL_scl (F : Fld O El) {s : Int} (hs : El s) (h0 : s ≠ 0) : ∀ {x : List Int},(∀y ∈ x,El y)->wtL (x.map (O.mul s))=wtL x
 | [],_=>rfl
 | y :: x,h=>by
  rw [List.map_cons,wtM_cons,wtM_cons,wtL_scl F hs h0 λz hz=>h z (by simp [hz])]
  simp [scl_zero F hs h0 (h y (by simp))]
theorem first_el {v : List Int} (hv : Vc El m v) (h : wtL v ≠ 0) : El (nth v (fnz v))/\nth v (fnz v) ≠ 0 :=
 ⟨hv.at (by rw [<- hv.1];exact fnz_lt h),fnz_ne v (fnz_lt h)⟩
end
end

section
open Go.RowKit
def rndS (O : FOps) (q m w : Nat) (sys : List (List (List Int))) (b : List Int) : List Int:=sys.foldl (λb G=>(sumA O (elsN q) [1] w G (List.replicate m 0)).foldl (lookS O) b) b
def rndN (q k s w : Nat) : Nat:=s * (chN k w * (q - 1) ^ (w - 1))
def moreB (q k s n w : Nat) : Bool:=decide (chN k w<=65536) && decide ((q - 1) ^ (w - 1)<=65536) && decide (rndN q k s w<=65536 - n)
def srS (O : FOps) (q m k : Nat) (sys : List (List (List Int))) (rks : List Int) : Nat->Nat->List Int->Nat->List (List Int)->List (List Int) × List Int × Int
 | 0,_,b,_,o=>(o,b,0)
 | f+1,w,b,n,o =>
  if moreB q k sys.length n w=true then
   (if flTo k w rks rks.length > (wtL (rndS O q m w sys b) : Int) then
    (o ++ [[(w : Int),((n+rndN q k sys.length w : Nat) : Int),(wtL (rndS O q m w sys b) : Int),flTo k w rks rks.length]],rndS O q m w sys b,0)
   else srS O q m k sys rks f (w+1) (rndS O q m w sys b) (n+rndN q k sys.length w) (o ++ [[(w : Int),((n+rndN q k sys.length w : Nat) : Int),(wtL (rndS O q m w sys b) : Int),flTo k w rks rks.length]]))
  else ([],[],8)
section
variable {P M : Int} {mod : List Int} {m : Nat} {L : List (List Int)}
def CW (P M : Int) (mod : List Int) (m : Nat) (L : List (List Int)) (y : List Int) : Prop :=
 Vc (tblOf P M.toNat mod).El m y/\RS (tblOf P M.toNat mod).ops (tblOf P M.toNat mod).El m L (λi=>nth y i)/\wtL y ≠ 0
theorem chain_mem {O : FOps} : ∀ {T : List (List Int × Int)} {U : List Int},chainF O L m U T->∀t ∈ T,okSet m t.1=true/\isB O L t.1=true/\1<=t.2/\t.2<=(L.length : Int)
 | [],_,_,t,ht=>by simp at ht
 | t0 :: T,U,h,t,ht=>by
  obtain ⟨h1,h2,h3,h4,h5⟩:=h
  rcases List.mem_cons.1 ht with rfl | ht
  ·have hbd:=newF_bd U t.1 t.1.length
   have hl : t.1.length=L.length:=(isB_iff.1 h2).1
   exact ⟨h1,h2,h3,by omega⟩
  ·exact chain_mem h5 t ht
theorem setB_in {O : FOps} {Q : List Int} (h : okSet m Q=true) (hB : isB O L Q=true) : InN m Q/\Q.length=L.length/\(grS O L Q).length=Q.length :=
 ⟨okSet_rng h,(isB_iff.1 hB).1,(isB_iff.1 hB).2⟩
theorem CW.scl (hE : codeE P M mod m L=0) {y : List Int} (h : CW P M mod m L y) {s : Int} (hs : (tblOf P M.toNat mod).El s) (h0 : s ≠ 0) : CW P M mod m L (y.map ((tblOf P M.toNat mod).ops.mul s)):=by
 obtain ⟨N',e,hm1,hm64,F,hR⟩:=codeE_fld hE
 obtain rfl : m=N':=by omega
 refine ⟨h.1.scl F hs,(h.2.1.smul F hs).congr λx hx=>nth_scl _ _ _ (by rw [h.1.1];exact hx),?_⟩
 rw [wtL_scl F hs h0 h.1.2];exact h.2.2
theorem CW.mon (hE : codeE P M mod m L=0) {y : List Int} (h : CW P M mod m L y) : CW P M mod m L (monS (tblOf P M.toNat mod).ops y):=by
 obtain ⟨N',e,hm1,hm64,F,hR⟩:=codeE_fld hE
 obtain rfl : m=N':=by omega
 obtain ⟨h1,h2⟩:=first_el h.1 h.2.2
 obtain ⟨h3,h4⟩:=inv_ne F h1 h2
 exact h.scl hE h3 h4
def famM (P M : Int) (mod : List Int) (m : Nat) (L : List (List Int)) : List (List (List Int)):=(famL (tblOf P M.toNat mod).ops L m).map λt=>sysL (tblOf P M.toNat mod).ops m L t.1
theorem fam_ne (hE : codeE P M mod m L=0) (hk : 1<=L.length) : famL (tblOf P M.toNat mod).ops L m ≠ []:=λh=>by
 obtain ⟨N',e,hm1,hm64,F,hR⟩:=codeE_fld hE
 obtain rfl : m=N':=by omega
 have h1:=(fam_all hE).1
 rw [h] at h1
 have h6:=(spaceE_zero (codeE_zero hE).2.2.2).2
 rw [Int.toNat_natCast] at h6
 have hcan : canO (tblOf P M.toNat mod).ops m L=L:=h6
 obtain ⟨hPv,_⟩:=canO_piv F hR
 have hcl:=canO_len F hR
 rw [hcan] at hPv hcl
 have h2:=hPv.one 0 0 (by omega) (by omega)
 have h3:=hPv.lt 0 (by omega)
 rw [if_pos rfl,h1 _ (by omega) (by simp) 0 (by omega)] at h2
 exact absurd h2 (by decide)
end
end

section
set_option maxRecDepth 100000
set_option maxHeartbeats 4000000

open Go.RowKit
theorem ints_three (w : World) (x y z : Int) (e : TypeId) {g : Nat} (hg : g=w.heap.size) : Ints (w.alloc (.cells #[.int .i64 x,.int .i64 y,.int .i64 z] e)) (some ⟨g,0,none⟩) 3 [x,y,z]:=by
 subst hg
 have h:=Box.new w [.int .i64 x,.int .i64 y,.int .i64 z] e rfl
 refine ⟨rfl,λ_=>rfl,by unfold maxLen;omega,λi hi=>?_⟩
 match i,hi with
 | 0,_=>exact h.cell 0 rfl
 | 1,_=>exact h.cell 1 rfl
 | 2,_=>exact h.cell 2 rfl
theorem more_any {w0 w : World} {b g : Nat} {G : Tbl} {P M : Int} {am : Option Addr} {mn cm : Nat} {N : Int} {a : Option Addr} {n c : Nat} {ag : Option Addr} {ng cg : Nat} {ab : Option Addr} {cb : Nat} {B : List Int} {k : Nat} (W : Nat)
  (h : GFw w0 b G) (hb : Below w0.heap.size w0 w) {F : Nat->Prop} (hs : Sea F w g b P M am mn cm N a n c ag ng cg ab cb B k) (hk : k<=65536) (hn : n<=64) (hW : 1<=W) (hWn : W<=n) (hg1 : 1<=ng) (hg64 : ng<=64) :
  Calls Tryz.prog 100 #[.pointer (some ⟨g,0,none⟩),.int .i64 W] w λe w'=>Below w.heap.size w w'/\∃z : Int,e = .returned (.tuple #[.int .i64 z,.int .i64 (if moreB G.q n ng k W=true then 0 else 8)]):=by
 have hG:=h.keep hb
 have hq2:=hG.q2
 have hq256:=hG.q256
 obtain ⟨er,her⟩ : ∃er : Int,(if moreB G.q n ng k W=true then (0 : Int) else 8)=er:=⟨_,rfl⟩
 rw [her]
 obtain ⟨V,rfl⟩ : ∃V,W=V+1:=⟨W - 1,by omega⟩
 obtain ⟨q1,hq1⟩ : ∃q1,G.q=q1+1:=⟨G.q - 1,by omega⟩
 have hmB : moreB G.q n ng k (V+1)=(decide (chN n (V+1)<=65536) && decide (q1 ^ V<=65536) && decide (ng * (chN n (V+1) * q1 ^ V)<=65536 - k)):=by
  unfold moreB rndN
  rw [hq1,Nat.add_sub_cancel,Nat.add_sub_cancel]
 rw [hmB] at her
 have hC1 : 1<=chN n (V+1):=chN_pos _ _ hWn
 have hP1 : 1<=q1 ^ V:=Nat.pow_pos (by omega)
 have Hcho:=Lib.hid (λV2 : World=>choose_any n (V+1) V2 hn hWn)
 have Hexp:=Lib.hid (λV2 : World=>expQ_any q1 V V2 (by omega) (by omega) (by omega))
 have hcp : ((q1 : Int) ^ V)=((q1 ^ V : Nat) : Int):=by simp
 have Hord:=Lib.hid (λV2 (h2 : Below w.heap.size w V2)=>gOrder (hG.keep h2))
 rw [hq1] at Hord
 have HS : Hid (∀V2,Below w.heap.size w V2->V2.cell? ⟨g,0,none⟩=some (.pointer (some ⟨b,0,none⟩))/\V2.cell? ⟨g,5,none⟩=some (.slice a n c)/\V2.cell? ⟨g,6,none⟩=some (.slice ag ng cg)/\V2.cell? ⟨g,8,none⟩=some (.int .i64 k)):=λV2 h2=>by
  have x:=hs.box.keep h2
  exact ⟨x.cell 0 rfl,x.cell 5 rfl,x.cell 6 rfl,x.cell 8 rfl⟩
 obtain ⟨C,hC⟩ : ∃C,chN n (V+1)=C:=⟨_,rfl⟩
 obtain ⟨Pw,hPw⟩ : ∃Pw,q1 ^ V=Pw:=⟨_,rfl⟩
 unfold choV choE at Hcho
 unfold expV expE at Hexp
 rw [hcp,hPw] at Hexp
 rw [hC] at Hcho her hC1
 rw [hPw] at her hP1
 have hVW : ((V+1 : Nat) : Int)=(V : Int)+1:=by omega
 rw [hVW] at Hcho
 rw [hVW]
 obtain ⟨c0,c5,c6,c8⟩:=HS.out w (Below.refl _ _)
 have kq : wrap64 (q1 : Int)=q1:=w64 (by omega) (by omega)
 have kV : wrap64 (V : Int)=V:=w64 (by omega) (by omega)
 clear hmB hcp hC hPw hG h hb hs hq1
 go_enter Tryz.func100,Tryz.ntmps100
 by_cases hCb : C<=65536
 rotate_left
 ·have he : er=8:=by rw [<- her,decide_eq_false hCb];rfl
  subst he
  rw [if_neg (by omega),if_neg (by omega)] at Hcho
  have Hc2:=Lib.hid (Hcho.out w)
  clear her Hcho hCb
  go_wp2_with fail
  refine Hc2.out.mono ?_
  rintro e w1 ⟨rfl,hb1⟩
  go_wp2_with fail
  go_ret2
  exact ⟨hb1,_,rfl⟩
 rw [if_pos (by omega),if_pos (by omega)] at Hcho
 have Hc2:=Lib.hid (Hcho.out w)
 clear Hcho
 go_wp2_with fail
 refine Hc2.out.mono ?_
 rintro e w1 ⟨rfl,hb1⟩
 obtain ⟨c0,c5,c6,c8⟩:=HS.out w1 hb1
 have Ho1:=Lib.hid (Hord.out w1 hb1)
 have He1:=Lib.hid (Hexp.out w1)
 clear Hc2 Hord Hexp
 go_wp2_with fail
 refine Ho1.out.mono ?_
 rintro e w' ⟨rfl,rfl⟩
 by_cases hPb : Pw<=65536
 rotate_left
 ·have he : er=8:=by rw [<- her,decide_eq_false hPb,Bool.and_false,Bool.false_and];rfl
  subst he
  rw [if_neg (by omega),if_neg (by omega)] at He1
  clear her hPb Ho1
  go_wp2_with fail
  refine He1.out.mono ?_
  rintro e w' ⟨rfl,rfl⟩
  go_wp2_with fail
  go_ret2
  exact ⟨hb1,_,rfl⟩
 rw [if_pos (by omega),if_pos (by omega)] at He1
 have hpr : prodTo [(ng : Int),(C : Int),(Pw : Int)] 3=((ng * (C * Pw) : Nat) : Int):=by
  simp only [prodTo,nth]
  simp [Int.mul_assoc]
 have HPr : Hid (∀V2,Below w.heap.size w V2->∀a3 c3,Ints V2 a3 3 [(ng : Int),(C : Int),(Pw : Int)]->Calls Tryz.prog 170 #[.int .i64 (65536 - (k : Int)),.slice a3 3 c3] V2 λe w'=>(∃z : Int,e = .returned (.tuple #[.int .i64 z,.int .i64 er]))/\V2=w'):=λV2 _ a3 c3 h3=>by
  refine (product_any (65536 - (k : Int)) a3 3 c3 [(ng : Int),(C : Int),(Pw : Int)] V2 (by omega) h3 λx hx=>?_).mono ?_
  ·simp at hx
   rcases hx with rfl | rfl | rfl <;> omega
  ·rintro e w' ⟨rfl,rfl⟩
   refine ⟨⟨prdV (65536 - (k : Int)) [(ng : Int),(C : Int),(Pw : Int)],?_⟩,rfl⟩
   have e1 : prdE (65536 - (k : Int)) [(ng : Int),(C : Int),(Pw : Int)]=er:=by
    unfold prdE
    show (if prodTo [(ng : Int),(C : Int),(Pw : Int)] 3<=65536 - (k : Int) then (0 : Int) else 8)=er
    rw [hpr,<- her,decide_eq_true hCb,decide_eq_true hPb,Bool.and_self,Bool.true_and]
    by_cases hz : ng * (C * Pw)<=65536 - k
    ·rw [if_pos (by omega),decide_eq_true hz];rfl
    ·rw [if_neg (by omega),decide_eq_false hz];rfl
   rw [e1]
 have He8 : Hid (er ≠ 0->er=8):=λh=>by
  rw [<- her] at h ⊢
  split at h
  ·exact absurd rfl h
  ·rename_i h1;rw [if_neg h1]
 clear her hpr Ho1
 go_wp2_with fail
 refine He1.out.mono ?_
 rintro e w' ⟨rfl,rfl⟩
 obtain ⟨c0,c5,c6,c8⟩:=HS.out w1 hb1
 have kk : IntKind.i64.wrap (65536 - (k : Int))=65536 - (k : Int):=IntWalk.i64_in _ (by omega)
 obtain ⟨d0,d5,d6,d8⟩:=HS.out _ (Below.next hb1 (below1 w1 (.cells #[.int .i64 (ng : Int),.int .i64 (C : Int),.int .i64 (Pw : Int)] 3)))
 go_upto_region 7 with fail
 go_cut [6,7] (λzv ev wx=>(∃z : Int,zv = .int .i64 z)/\ev = .int .i64 er/\Below w.heap.size w wx)
 case first =>
  go_region_law ((first
   | (go_simp;go_at_call 170;((with_reducible refine (HPr.out _ (Below.next hb1 (by first | exact (below1 _ _).drew | exact below1 _ _ | exact ((Below.refl _ _).drew).alloc (Nat.le_refl _) _ | exact (below1 _ _).drew | exact (Below.refl _ _).drew | assumption)) _ _ (by first | exact (ints_three _ _ _ _ _ rfl).keep (Below.refl _ _).drew | exact ints_three _ _ _ _ _ rfl | assumption)).mono ?_);rintro e w3 ⟨⟨z3,rfl⟩,rfl⟩))))
  all_goals (
   go_wp2_with fail
   go_meet
   exact ⟨⟨_,rfl⟩,rfl,Below.next hb1 (by first | exact (below1 _ _).drew | exact below1 _ _ | exact (below1 _ _).drew.drew)⟩)
 obtain ⟨⟨z,rfl⟩,rfl,hbc⟩:=hcut
 generalize wc=V3 at *
 by_cases he0 : er=0
 ·subst he0
  go_wp2_with fail
  go_ret2
  exact ⟨hbc,_,rfl⟩
 ·have he1 : (er != 0)=true:=by simpa using he0
  have he8 : er=8:=He8.out he0
  subst he8
  go_wp2_with fail
  go_ret2
  exact ⟨hbc,_,rfl⟩
end

section
open Go.RowKit
def seaB (b : Nat) (P M : Int) (am : Option Addr) (mn cm : Nat) (N : Int) (a : Option Addr) (n c : Nat) (ag : Option Addr) (ng cg : Nat) (ab : Option Addr) (nb cb k : Nat) : List Value :=
 [.pointer (some ⟨b,0,none⟩),.int .i64 P,.int .i64 M,.slice am mn cm,.int .i64 N,.slice a n c,.slice ag ng cg,.slice ab nb cb,.int .i64 k]
def LA (g : Nat) (ag ak : Option Addr) : Nat->Prop:=λb=>b<=g\/(ag ≠ none/\b=ablk ag)\/(ak ≠ none/\b=ablk ak)
structure LI (V : World) (g : Nat) (pre : List Value) (ag : Option Addr) (cg : Nat) (ak : Option Addr) (ck : Nat) (gs : List TX) (Q : List Int) : Prop where
 pl : pre.length=6
 box : Box V g (pre ++ [.slice ag gs.length cg,.slice none 0 0,.int .i64 0])
 so : V.ownsRow (g+1) 25 1 (.slice ag gs.length cg) gs.length (gs.map txV)
 rk : V.ownsRow (g+1) 3 1 (.slice ak Q.length ck) Q.length (Q.map (Value.int .i64))
 st : ag=none\/ak=none\/ablk ag ≠ ablk ak
 gx : ∀y ∈ gs,MatA (LA g ag ak) V y.a y.T.length y.T
namespace LI

variable {V V' w5 : World} {g : Nat} {pre : List Value} {ag : Option Addr} {cg : Nat} {ak : Option Addr} {ck : Nat} {gs : List TX} {Q : List Int} {o : Obj}
theorem keep (h : LI V g pre ag cg ak ck gs Q) (hb : Below V.heap.size V V') : LI V' g pre ag cg ak ck gs Q :=
 ⟨h.pl,h.box.keep hb,own_keep h.so hb,own_keep h.rk hb,h.st,λy hy=>(h.gx y hy).keep hb⟩
theorem start (hp : pre.length=6) (h : Box V g (pre ++ [.slice none 0 0,.slice none 0 0,.int .i64 0])) : LI V g pre none 0 none 0 [] [] :=
 ⟨hp,h,by simpa using own_none,by simpa using own_none,.inl rfl,λy hy=>by simp at hy⟩
theorem lt (h : LI V g pre ag cg ak ck gs Q) : ∀b,LA g ag ak b->b<V.heap.size:=λb hb=>by
 rcases hb with h1 | ⟨h1,rfl⟩ | ⟨h1,rfl⟩
 ·exact Nat.lt_of_le_of_lt h1 h.box.1
 ·exact (own_ne h.so h1).2
 ·exact (own_ne h.rk h1).2
theorem apG (h : LI V g pre ag cg ak ck gs Q) : Apt ag g:=by
 by_cases h1 : ag=none
 ·exact .inl h1
 ·exact .inr λe=>by have:=(own_ne h.so h1).1;omega
theorem apK (h : LI V g pre ag cg ak ck gs Q) : Apt ak g:=by
 by_cases h1 : ak=none
 ·exact .inl h1
 ·exact .inr λe=>by have:=(own_ne h.rk h1).1;omega
theorem c6 (h : LI V g pre ag cg ak ck gs Q) : V.cell? ⟨g,6,none⟩=some (.slice ag gs.length cg):=h.box.cell 6 (by rw [List.getElem?_append_right (by rw [h.pl];omega),h.pl];rfl)
theorem pushR (h : LI V g pre ag cg ak ck gs Q) {r : Int} {a5 : Option Addr} {c5 : Nat}
  (hown : w5.ownsRow (g+1) 3 1 (.slice a5 (Q.length+1) c5) (Q.length+1) (Q.map (Value.int .i64) ++ [.int .i64 r])) (hg : (V.alloc o).grownBy w5 (Value.slice ak Q.length ck).ownBlock) (hap : ∀b,b<(V.alloc o).heap.size->Apt ak b->Apt a5 b) :
  LI w5 g pre ag cg a5 c5 gs (Q ++ [r])/\Below (g+1) V w5:=by
 have hM0 : Moves V w5 (LA g ag ak) (LA g ag ak):=(Moves.of_below (below1 V o) _).trans (Moves.grown hg λh1=>.inr (.inr ⟨h1,rfl⟩))
 have hne : a5 ≠ none:=λe=>by
  obtain ⟨y,z,hv,hp⟩:=Pl.own hown
  cases hv
  have:=hp (by omega)
  rw [e] at this;cases this
 have hsz : (V.alloc o).heap.size=V.heap.size+1:=by simp
 have hsub : ∀b,LA g ag a5 b->LA g ag ak b\/V.heap.size<=b:=λb hb=>by
  rcases hb with hb | hb | ⟨_,hb⟩
  ·exact .inl (.inl hb)
  ·exact .inl (.inr (.inl hb))
  ·rcases Nat.lt_or_ge b V.heap.size with h1 | h1
   ·by_cases h2 : Apt ak b
    ·rcases hap b (by omega) h2 with h3 | h3
     ·exact absurd h3 hne
     ·exact absurd hb.symm h3
    ·exact .inl (.inr (.inr ⟨λe=>h2 (.inl e),Classical.byContradiction λe=>h2 (.inr λe2=>e e2.symm)⟩))
   ·exact .inr h1
 have hM:=hM0.weak hsub
 have hblk : ∀b,b<V.heap.size->Apt ak b->w5.heap[b]? = V.heap[b]?:=λb h1 h3=>(hg.block b (by omega) λe=>h3.own _ _ e.symm).trans (Below.heap_alloc _ _ _ h1)
 have hgl:=h.box.1
 have hapg : ag ≠ none->Apt ak (ablk ag):=λh1=>by
  rcases h.st with h2 | h2 | h2
  ·exact absurd h2 h1
  ·exact .inl h2
  ·exact .inr λe=>h2 e.symm
 refine ⟨⟨h.pl,?_,own_blk h.so λh1=>hblk _ (own_ne h.so h1).2 (hapg h1),?_,?_,λy hy=>(h.gx y hy).moves2 hM⟩,Below.app ((below1 V o).mono (by omega)) (h.rk.alloc o) hg (Nat.le_refl _) (by rw [hsz];omega)⟩
 ·have hx:=h.box.alloc o
  have hb9 : w5.heap[g]? = (V.alloc o).heap[g]?:=hg.block g (by omega) λe=>h.apK.own _ _ e.symm
  exact ⟨Nat.lt_of_lt_of_le hx.1 hg.size,λj v hv=>(World.cell?_of_block (w:=V.alloc o) (a:=⟨g,j,none⟩) hb9).trans (hx.2.1 j v hv),λj=>(World.frozen?_of_block (w:=V.alloc o) (a:=⟨g,j,none⟩) hb9).trans (hx.2.2 j)⟩
 ·rw [List.length_append,List.map_append];exact hown
 ·by_cases h1 : ag=none
  ·exact .inl h1
  ·refine .inr (.inr λe=>?_)
   rcases hap _ (by have:=(own_ne h.so h1).2;omega) (hapg h1) with h3 | h3
   ·exact hne h3
   ·exact h3 e.symm
theorem pushG (h : LI V g pre ag cg ak ck gs Q) {x : TX} (hx : MatA (LA g ag ak) V x.a x.T.length x.T) {a5 : Option Addr} {c5 : Nat}
  (hown : w5.ownsRow (g+1) 25 1 (.slice a5 (gs.length+1) c5) (gs.length+1) (gs.map txV ++ [txV x])) (hg : (V.alloc o).grownBy w5 (Value.slice ag gs.length cg).ownBlock) (hap : ∀b,b<(V.alloc o).heap.size->Apt ag b->Apt a5 b) :
  LI (w5.setCell ⟨g,6,none⟩ (.slice a5 (gs.length+1) c5)) g pre a5 c5 ak ck (gs ++ [x]) Q/\Below g V (w5.setCell ⟨g,6,none⟩ (.slice a5 (gs.length+1) c5))/\Moves V (w5.setCell ⟨g,6,none⟩ (.slice a5 (gs.length+1) c5)) (LA g ag ak) (LA g a5 ak):=by
 have hM0 : Moves V (w5.setCell ⟨g,6,none⟩ (.slice a5 (gs.length+1) c5)) (LA g ag ak) (LA g ag ak) :=
  ((Moves.of_below (below1 V o) _).trans (Moves.grown hg λh1=>.inr (.inl ⟨h1,rfl⟩))).trans (Moves.setAt' (I:=LA g ag ak) (p:=⟨g,6,none⟩) _ (.inl (Nat.le_refl _)) _)
 have hne : a5 ≠ none:=λe=>by
  obtain ⟨y,z,hv,hp⟩:=Pl.own hown
  cases hv
  have:=hp (by omega)
  rw [e] at this;cases this
 have hsz : (V.alloc o).heap.size=V.heap.size+1:=by simp
 have hsub : ∀b,LA g a5 ak b->LA g ag ak b\/V.heap.size<=b:=λb hb=>by
  rcases hb with hb | ⟨_,hb⟩ | hb
  ·exact .inl (.inl hb)
  ·rcases Nat.lt_or_ge b V.heap.size with h1 | h1
   ·by_cases h2 : Apt ag b
    ·rcases hap b (by omega) h2 with h3 | h3
     ·exact absurd h3 hne
     ·exact absurd hb.symm h3
    ·exact .inl (.inr (.inl ⟨λe=>h2 (.inl e),Classical.byContradiction λe=>h2 (.inr λe2=>e e2.symm)⟩))
   ·exact .inr h1
  ·exact .inl (.inr (.inr hb))
 have hM:=hM0.weak hsub
 have hblk : ∀b,b<V.heap.size->b ≠ g->Apt ag b->(w5.setCell ⟨g,6,none⟩ (.slice a5 (gs.length+1) c5)).heap[b]? = V.heap[b]?:=λb h1 h2 h3 =>
  (Below.heap_setCell _ _ _ _ h2).trans ((hg.block b (by omega) λe=>h3.own _ _ e.symm).trans (Below.heap_alloc _ _ _ h1))
 have hgl:=h.box.1
 have hb5 : Box w5 g (pre ++ [.slice ag gs.length cg,.slice none 0 0,.int .i64 0]):=by
  have hx:=h.box.alloc o
  have hb9 : w5.heap[g]? = (V.alloc o).heap[g]?:=hg.block g (by omega) λe=>h.apG.own _ _ e.symm
  exact ⟨Nat.lt_of_lt_of_le hx.1 hg.size,λj v hv=>(World.cell?_of_block (w:=V.alloc o) (a:=⟨g,j,none⟩) hb9).trans (hx.2.1 j v hv),λj=>(World.frozen?_of_block (w:=V.alloc o) (a:=⟨g,j,none⟩) hb9).trans (hx.2.2 j)⟩
 have hapB : Apt a5 g:=hap g (by omega) h.apG
 have hapk : ak ≠ none->Apt ag (ablk ak):=λh1=>by
  rcases h.st with h2 | h2 | h2
  ·exact .inl h2
  ·exact absurd h2 h1
  ·exact .inr h2
 have hset : (pre ++ [.slice ag gs.length cg,.slice none 0 0,.int .i64 0] : List Value).set 6 (.slice a5 (gs.length+1) c5)=pre ++ [.slice a5 (gs.length+1) c5,.slice none 0 0,.int .i64 0]:=by
  rw [List.set_append_right _ _ (by rw [h.pl];omega),h.pl];rfl
 refine ⟨⟨h.pl,?_,?_,own_blk h.rk λh1=>hblk _ (own_ne h.rk h1).2 (by have:=(own_ne h.rk h1).1;omega) (hapk h1),?_,λy hy=>?_⟩,?_⟩
 ·rw [List.length_append]
  have h9:=hb5.setC 6 (.slice a5 (gs.length+1) c5)
  rw [hset] at h9;exact h9
 ·rw [List.length_append,List.map_append]
  exact own_setOther hown _ (hapB.elim (λe=>.inl e) λe=>.inr e)
 ·by_cases h1 : ak=none
  ·exact .inr (.inl h1)
  ·refine .inr (.inr λe=>?_)
   rcases hap _ (by have:=(own_ne h.rk h1).2;omega) (hapk h1) with h3 | h3
   ·exact hne h3
   ·exact h3 e
 ·rcases List.mem_append.1 hy with hy | hy
  ·exact (h.gx y hy).moves2 hM
  ·rw [List.mem_singleton.1 hy];exact hx.moves2 hM
 ·refine ⟨?_,hM⟩
  exact ((Below.app ((below1 V o).mono (show g+1<=V.heap.size by omega)) (h.so.alloc o) hg (Nat.le_refl _) (by rw [hsz];omega)).mono (Nat.le_succ g)).setCell (p:=⟨g,6,none⟩) (Nat.le_refl g) _
end LI
structure Rnds (w : World) (a : Option Addr) (n : Nat) (l : List (List Int)) : Prop where
 len : l.length=n
 pl : Pl a n
 max : n<=maxLen
 cell : ∀i,i<n->∀j,j<4->w.cell? ⟨ablk a,aoff a+i * 4+j,none⟩=some (.int .i64 (nth (nthR l i) j))
theorem Rnds.nil (w : World) (a : Option Addr) : Rnds w a 0 []:=⟨rfl,λh=>by omega,by unfold maxLen;omega,λi h=>by omega⟩
def rdV : List (List Int)->List Value
 | []=>[]
 | r :: l=>.int .i64 (nth r 0) :: .int .i64 (nth r 1) :: .int .i64 (nth r 2) :: .int .i64 (nth r 3) :: rdV l
theorem rdV_at : ∀(l : List (List Int)) (i j : Nat),i<l.length->j<4->(rdV l)[i * 4+j]? = some (.int .i64 (nth (nthR l i) j))
 | [],i,j,h,_=>by simp at h
 | r :: l,0,j,_,hj=>by
  have e : nthR (r :: l) 0=r:=rfl
  rw [e,rdV]
  match j,hj with
  | 0,_=>rfl
  | 1,_=>rfl
  | 2,_=>rfl
  | 3,_=>rfl
 | r :: l,i+1,j,hi,hj=>by
  have e : nthR (r :: l) (i+1)=nthR l i:=rfl
  have h:=rdV_at l i j (by simpa using hi) hj
  rw [e,rdV,show (i+1) * 4+j=(i * 4+j)+1+1+1+1 by omega]
  simpa using h
theorem Rnds.own {w : World} {B : Nat} {e : TypeId} {a : Option Addr} {k c : Nat} {l : List (List Int)} (h : w.ownsRow B e 4 (.slice a k c) k (rdV l)) (hl : l.length=k) : Rnds w a k l:=by
 rcases h.2 with ⟨hv,h0⟩ | ⟨g,cap,cur,hv,hg,hh,hn,hm,hs,ht⟩
 ·cases hv
  have hT : l=[]:=List.eq_nil_of_length_eq_zero hl
  subst hT
  exact Rnds.nil _ _
 ·cases hv
  refine ⟨hl,λ_=>rfl,by omega,λi hi j hj=>?_⟩
  have hc:=World.ownsRow.cells h (g:=g) rfl _ _ (rdV_at l i j (by omega) hj)
  rw [Addr.add_lit] at hc
  simpa [ablk,aoff,Nat.add_assoc] using hc
theorem step_push4 {P : Program} {w : World} {ops : Array Oper} {o : Oper} {ac : Act} {K : Act->World->Prop} {Q : Exit->Act->World->Prop} {E : Prop}
  (hg : o.guard=none) (s x : Operand) (t e : TypeId) (hop : o.op = .call { callee:=.builtin .append,args:=#[s,x],argTypes:=#[t,t] }) (z : Value) (bytes : Nat)
  (h1 : P.underlying t=some (.slice e)) (h2 : (P.info? e).map (λi=>(i.zero,i.size,i.bytes))=some (some z,4,bytes)) (hz : z.cells.size=4)
  (B : Nat) (a : Option Addr) (n c : Nat) (xs : List Value) (hs : ac.eval s = .slice a n c) (hown : w.ownsRow B e 4 (.slice a n c) n xs)
  (g cc : Nat) (u0 u1 u2 u3 : Value) (hx : ac.eval x = .slice (some ⟨g,0,none⟩) 1 cc) (hu0 : w.cell? ⟨g,0,none⟩=some u0) (hu1 : w.cell? ⟨g,1,none⟩=some u1) (hu2 : w.cell? ⟨g,2,none⟩=some u2) (hu3 : w.cell? ⟨g,3,none⟩=some u3)
  (h1c : ∀u ∈ [u0,u1,u2,u3],u.oneCell'=true)
  (b2 : (n+1) * bytes<=140737488355328) (b3 : n+1<=maxLen) (hB : B<=w.heap.size)
  (hK : ∀a' c' w',w'.ownsRow B e 4 (.slice a' (n+1) c') (n+1) (xs ++ [u0,u1,u2,u3])->w.grownBy w' (Value.slice a n c).ownBlock->(∀b,b<w.heap.size->Apt a b->Apt a' b)->K (ac.put o.dst (.slice a' (n+1) c')) w') :
  if Region.wanted o (yielded ops ac.tmps)=true then Oper.wp P o ac w K Q else E:=by
 have hw : Region.wanted o (yielded ops ac.tmps)=true:=by simp [Region.wanted,hg]
 rw [if_pos hw]
 obtain ⟨i,hi,hz0,hz1,hz2⟩ : ∃i,P.info? e=some i/\i.zero=some z/\i.size=4/\i.bytes=bytes:=by
  cases hp : P.info? e with
  | none=>rw [hp] at h2;cases h2
  | some i=>rw [hp] at h2;simp at h2;exact ⟨i,rfl,h2.1,h2.2.1,h2.2.2⟩
 obtain ⟨v',w',hr,h3,h4,_,h6⟩:=run_append_own_at (P:=P) w B t o.type e i z 4 bytes h1 hi hz0 hz1 hz2 hz (by decide) _ n xs hown ⟨g,0,none⟩ 1 cc [u0,u1,u2,u3] rfl
  (λj y hj=>by
   match j,hj with
   | 0,hj=>simp at hj;subst hj;simpa [Addr.add] using hu0
   | 1,hj=>simp at hj;subst hj;simpa [Addr.add] using hu1
   | 2,hj=>simp at hj;subst hj;simpa [Addr.add] using hu2
   | 3,hj=>simp at hj;subst hj;simpa [Addr.add] using hu3) h1c b3 b2 hB
 obtain ⟨a',c',rfl⟩ : ∃a' c',v' = .slice a' (n+1) c':=by
  rcases h3.2 with ⟨_,h0⟩ | ⟨g',cap,cur,rfl,_⟩
  ·omega
  ·exact ⟨_,cap,rfl⟩
 unfold Oper.wp execOp
 simp only [hop,resolve,invoke,builtin,Sem.run_bind,Sem.run_pure,Result.andThen_ok,List.map_toArray,List.map_cons,List.map_nil,hs,hx,hr]
 refine hK a' c' w' h3 h4 λb hb hapt=>?_
 have h:=hapt.own n c
 rcases h6 with h6 | h6
 ·exact Apt.of_own (n:=n+1) (c:=c') (by rw [h6];exact h)
 ·exact Apt.of_own (n:=n+1) (c:=c') (by rw [h6];intro h7;cases h7;omega)
theorem MatA.matN {g : Nat} {ag ak : Option Addr} {w : World} {a : Option Addr} {n : Nat} {L : List (List Int)} (h : MatA (LA g ag ak) w a n L) : MatN (g+1) w a n L :=
 ⟨h.len,h.pl,h.max,λhn=>Nat.lt_of_not_le λh2=>h.no hn (.inl h2),λi hi=>by
  obtain ⟨b,m,c,h1,h2,h3⟩:=h.cell i hi
  exact ⟨b,m,c,h1,h2,λhm=>Nat.lt_of_not_le λh4=>h3 hm (.inl h4)⟩⟩
theorem own_blk4 {w : World} {B s : Nat} {e : TypeId} {a : Option Addr} {n c : Nat} {xs : List Value} (h : w.ownsRow B e s (.slice a n c) n xs) (ha : a ≠ none) : B<=ablk a/\ablk a<w.heap.size:=by
 rcases h.2 with ⟨hv,_⟩ | ⟨g,cap,cur,hv,hg,hh,_⟩
 ·cases hv;exact absurd rfl ha
 ·cases hv;exact ⟨hg,(Array.getElem?_eq_some_iff.1 hh).1⟩
theorem own_keep4 {w w' : World} {B s : Nat} {e : TypeId} {a : Option Addr} {n c : Nat} {xs : List Value} (h : w.ownsRow B e s (.slice a n c) n xs) (h1 : a ≠ none->w'.heap[ablk a]? = w.heap[ablk a]?) : w'.ownsRow B e s (.slice a n c) n xs:=by
 refine ⟨h.1,?_⟩
 rcases h.2 with h2 | ⟨g,cap,cur,hv,hg,hh,r⟩
 ·exact .inl h2
 ·cases hv
  exact .inr ⟨g,_,cur,rfl,hg,by rw [show w'.heap[g]? = w.heap[g]? from h1 (by simp)];exact hh,r⟩
theorem fam_fl {P M : Int} {mod : List Int} {m : Nat} {L : List (List Int)} (hE : codeE P M mod m L=0) {v : Int} (hv : 0<=v/\v<=(L.length : Int)) (hl : L.length<=64) :
  flV L.length ((famL (tblOf P M.toNat mod).ops L m).map (·.2)) v=(flTo L.length v ((famL (tblOf P M.toNat mod).ops L m).map (·.2)) ((famL (tblOf P M.toNat mod).ops L m).map (·.2)).length,0):=by
 obtain ⟨m',e,hm1,hm64,_,_⟩:=codeE_fld hE
 obtain ⟨h1,h2⟩:=fam_all hE
 unfold flV
 rw [if_pos]
 refine ⟨?_,List.all_eq_true.2 λx hx=>?_⟩
 ·unfold flB
  simp [List.length_map]
  omega
 ·obtain ⟨t,ht,rfl⟩:=List.mem_map.1 hx
  have h3:=chain_mem h1 t ht
  unfold flQ
  simp
  omega
theorem Moves.wide2 {w w' : World} {M M' I : Nat->Prop} (h : Moves w w' M M') (h1 : ∀x,M x->I x) (h2 : ∀x,M' x->I x) : Moves w w' I I :=
 ⟨h.os,h.tape,h.output,h.size,λb hb hI=>h.block b hb λhm=>hI (h1 b hm),λb hb=>.inl hb⟩
theorem infoRnd : (Tryz.prog.info? 62).map (λi=>(i.zero,i.size,i.bytes))=some (some (.agg #[.int .i64 0,.int .i64 0,.int .i64 0,.int .i64 0]),4,32):=by kernel_rfl
end

section
open Go.RowKit
theorem own_take {w : World} {B : Nat} {e : TypeId} {a : Option Addr} {n c k : Nat} {xs : List Value} (h : w.ownsRow B e 1 (.slice a n c) n xs) (hk : k<=n) : w.ownsRow B e 1 (.slice a k c) k (xs.take k):=by
 have hl:=own_len h
 refine ⟨by rw [List.length_take];omega,?_⟩
 rcases h.2 with ⟨hv,h0⟩ | ⟨g,cap,cur,hv,hg,hh,hle,hm,hs,ht⟩
 ·cases hv
  obtain rfl : k=0:=by omega
  exact .inl ⟨rfl,rfl⟩
 ·cases hv
  refine .inr ⟨g,c,cur,rfl,hg,hh,by omega,hm,hs,?_⟩
  rw [<- ht,List.take_take];congr 1;omega
theorem OMat.take {B : Nat} {w : World} {a : Option Addr} {n c k : Nat} {R : List (Option Addr × Nat)} {L : List (List Int)} (h : OMat w B a n c R L) (hk : k<=n) : OMat w B a k c (R.take k) (L.take k):=by
 have hr:=h.rl
 have hl:=h.ll
 have eR : ∀ {i},i<k->nthA (R.take k) i=nthA R i:=λ{i} hi=>by
  rw [nthA_getElem (show i<(R.take k).length by rw [List.length_take];omega),nthA_getElem (by omega),List.getElem_take]
 have eL : ∀ {i},i<k->nthR (L.take k) i=nthR L i:=λ{i} hi=>by
  rw [nthR_getElem (show i<(L.take k).length by rw [List.length_take];omega),nthR_getElem (by omega),List.getElem_take]
 refine ⟨by rw [List.length_take];omega,by rw [List.length_take];omega,?_,λi hi=>?_,λi hi=>?_,λi j hi hj=>?_⟩
 ·rw [<- List.take_zipWith];exact own_take h.own hk
 ·rw [eR hi,eL hi];exact h.row i (by omega)
 ·rw [eR hi];exact h.apt i (by omega)
 ·rw [eR hi,eR hj];exact h.sep i j (by omega) (by omega)
end

section
open Go.RowKit Go.Shelf
def WrI (B Bo Br n NN : Nat) (pre : List WX) (V : World) : Prop :=
 (Box V Bo [.slice (some ⟨Br,0,none⟩) pre.length NN]/\V.ownsRow B 22 1 (.slice (some ⟨Br,0,none⟩) pre.length NN) pre.length (pre.map λx=>.slice x.a n x.c)) /\
  ∀x ∈ pre,Ints V x.a n x.l/\ablk x.a ≠ Bo/\ablk x.a ≠ Br
theorem WrI.of_blocks {B Bo Br n NN : Nat} {pre : List WX} {V V' : World} (h : WrI B Bo Br n NN pre V) (ho : V'.heap[Bo]? = V.heap[Bo]?) (hr : V'.heap[Br]? = V.heap[Br]?) (hx : ∀x ∈ pre,V'.heap[ablk x.a]? = V.heap[ablk x.a]?) (hs : V.heap.size<=V'.heap.size) : WrI B Bo Br n NN pre V' :=
 ⟨⟨⟨Nat.lt_of_lt_of_le h.1.1.1 hs,λi v hv=>(World.cell?_of_block (w:=V) (a:=⟨Bo,i,none⟩) ho).trans (h.1.1.2.1 i v hv),λi=>(World.frozen?_of_block (w:=V) (a:=⟨Bo,i,none⟩) ho).trans (h.1.1.2.2 i)⟩,
  own_block h.1.2 hr⟩,λx hxp=>⟨(h.2 x hxp).1.of_block λ_=>hx x hxp,(h.2 x hxp).2⟩⟩
theorem WrI.rowlt {B Bo Br n NN : Nat} {pre : List WX} {V : World} (h : WrI B Bo Br n NN pre V) : B<=Br/\Br<V.heap.size:=own_ne h.1.2 (by simp)
theorem Box.set0 {w : World} {b : Nat} {v : Value} (h : Box w b [v]) (u : Value) : Box (w.setCell ⟨b,0,none⟩ u) b [u] :=
 ⟨by have:=((Below.refl 0 w).setCell (p:=⟨b,0,none⟩) (Nat.zero_le _) u).size;exact Nat.lt_of_lt_of_le h.1 this,λi x hx=>by
  cases i with
  | zero=>simp at hx;subst hx;exact World.cell?_setCell_same' _ _ _ (by rw [h.2.1 0 v rfl];rfl)
  | succ i=>simp at hx,λi=>by rw [World.frozen?_setCell];exact h.2.2 i⟩
theorem Box.of_block {w w' : World} {b : Nat} {cs : List Value} (h : Box w b cs) (hb : w'.heap[b]? = w.heap[b]?) (hs : w.heap.size<=w'.heap.size) : Box w' b cs :=
 ⟨Nat.lt_of_lt_of_le h.1 hs,λi v hv=>(World.cell?_of_block (w:=w) (a:=⟨b,i,none⟩) hb).trans (h.2.1 i v hv),λi=>(World.frozen?_of_block (w:=w) (a:=⟨b,i,none⟩) hb).trans (h.2.2 i)⟩
theorem Moves.grownB {w w' : World} {I : Nat->Prop} {B : Nat} (hg : w.grownBy w' (some B)) (hB : I B) : Moves w w' I I :=
 ⟨hg.os,hg.tape,hg.output,hg.size,λb hb hI=>hg.block b hb (λe=>by cases e;exact hI hB),λb hb=>.inl hb⟩
theorem WrI.step {B Br n NN : Nat} {pre : List WX} {x : WX} {W W1 : World} {o : Obj} (h : WrI B (Br+1) Br n NN pre W) (hix : Ints W x.a n x.l) (hn : 1<=n) (hx1 : ablk x.a ≠ Br+1) (hx2 : ablk x.a ≠ Br)
  (hg : (W.alloc o).grownBy W1 (some Br)) (hown : W1.ownsRow B 22 1 (.slice (some ⟨Br,0,none⟩) (pre.length+1) NN) (pre.length+1) (pre.map (λx=>.slice x.a n x.c) ++ [.slice x.a n x.c])) :
  WrI B (Br+1) Br n NN (pre ++ [x]) (W1.setCell ⟨Br+1,0,none⟩ (.slice (some ⟨Br,0,none⟩) (pre.length+1) NN)) /\
   Moves W (W1.setCell ⟨Br+1,0,none⟩ (.slice (some ⟨Br,0,none⟩) (pre.length+1) NN)) (λy=>y=Br+1\/y=Br) (λy=>y=Br+1\/y=Br):=by
 have hblk : ∀y,y<W.heap.size->y ≠ Br->W1.heap[y]? = W.heap[y]?:=λy hy h2=>(hg.block y (by simp;omega) (λe=>by cases e;exact h2 rfl)).trans (Below.heap_alloc _ _ _ hy)
 have hsz : W.heap.size<=W1.heap.size:=by have:=hg.size;simp at this;omega
 have hbx : Box W1 (Br+1) [.slice (some ⟨Br,0,none⟩) pre.length NN]:=h.1.1.of_block (hblk _ h.1.1.1 (by omega)) hsz
 refine ⟨⟨⟨by rw [List.length_append];exact hbx.set0 _,?_⟩,?_⟩,((Moves.of_below (below1 W o) _).trans (Moves.grownB hg (.inr rfl))).trans (Moves.setAt _ (.inl rfl) _)⟩
 ·have h2:=own_block hown (w':=W1.setCell ⟨Br+1,0,none⟩ (.slice (some ⟨Br,0,none⟩) (pre.length+1) NN)) (Below.heap_setCell _ _ _ _ (by show Br ≠ Br+1;omega))
  rw [List.length_append,List.map_append]
  exact h2
 ·intro y hy
  have hy' : Ints W y.a n y.l/\ablk y.a ≠ Br+1/\ablk y.a ≠ Br:=by
   rcases List.mem_append.1 hy with hy | hy
   ·exact h.2 y hy
   ·rw [List.mem_singleton.1 hy];exact ⟨hix,hx1,hx2⟩
  refine ⟨hy'.1.of_block λh0=>?_,hy'.2⟩
  exact (Below.heap_setCell _ _ _ _ (by show ablk y.a ≠ Br+1;exact hy'.2.1)).trans (hblk _ (hy'.1.lt h0) hy'.2.2)
attribute [local go_sem] Oper.semAt_some
end

section
open Go.RowKit
end

section
open Go.RowKit
end

section
open Go.RowKit
end

section
open Go.RowKit
end

section

end

section
open Go.RowKit
end

section
open Go.RowKit
section
variable (P M : Int) (am : Option Addr) (mn cm : Nat) (mod : List Int) (N : Int) (a : Option Addr) (n c : Nat) (L : List (List Int)) (w : World)
end
end

section
open Go.RowKit
end

section
open Go.RowKit
variable {O : FOps} {El : Int->Prop} {m : Nat} {L : List (List Int)}
structure LInv (O : FOps) (El : Int->Prop) (m : Nat) (L : List (List Int)) (y t : List Int) (k : Nat) (st : LS) : Prop where
 rws : Rws El m st.rows
 len : st.rows.length=L.length
 vc : Vc El m st.sum
 top : st.top=k
 kl : k<=L.length
 sup : RSub O El m L st.rows
 sub : RSub O El m st.rows L
 cos : ∃f,RS O El m L f/\(∀x,x<m->El (f x))/\∀x,x<m->nth st.sum x=O.add (nth y x) (f x)
 one : ∀i,i<k->nth (nthR st.rows i) (nth t i).toNat=1
 zero : ∀j i,j<k->j<i->i<L.length->nth (nthR st.rows i) (nth t j).toNat=0
 sz : ∀j,j<k->nth st.sum (nth t j).toNat=0
end

section
open Go.RowKit
section
variable {O : FOps} {El : Int->Prop} {m : Nat} {A L : List (List Int)}
end
section
variable {P M : Int} {mod : List Int} {m : Nat} {L : List (List Int)}
end
end

section
open Go.RowKit
section
variable {P M : Int} {mod : List Int} {m : Nat} {L : List (List Int)}
end
end

section
open Go.RowKit
def wrdE (P M : Int) (mod : List Int) (N : Int) (L : List (List Int)) (y : List Int) : Int:=if codeE P M mod N L=0 then lstE (orderS P M) y N.toNat else codeE P M mod N L
end

end Go.Proofs.YtcfmiocdlcapoaaGreat
