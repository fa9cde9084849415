/-  -/
import Derived.Test.YtcflcogbpnmjeaaGreatK11
import Derived.Test.YtcflcogbpnmjeaaGreatHDU1
import Derived.Test.YtcflcogbpnmjeaaGreatK15
import Derived.WalkKit
import Derived.ProofKit
import Derived.OpenShut
import Derived.ShutString
import Derived.ChangeOld
import Derived.Below
import Derived.Deep.Matrix
import Derived.Test.YtcflcogbpnmjeaaGreatK18
namespace Go.Proofs.YtcflcogbpnmjeaaGreat
set_option linter.unusedVariables false
set_option linter.unusedSimpArgs false
set_option linter.unusedSectionVars false

section
section
variable {O : FOps} {El : Int→Prop} {m n : Nat}
variable {G K : List (List Int)}
theorem rk_step {cl : List Nat→Nat→Prop} {l : List Nat} {x n n' : Nat} (h : Rk cl l n) (h' : Rk cl (x :: l) n') : n'≤n+1∧(cl l x→n'=n):=by
 cases h' with
 | dep _ hx h2=>exact ⟨by rw [h.uniq h2];omega,fun _=>(h.uniq h2).symm⟩
 | ind _ hx h2=>exact ⟨by rw [h.uniq h2];omega,fun hc=>absurd hc hx⟩
theorem dual_count {cl cl' : List Nat→Nat→Prop} {m : Nat} (h : ∀ A B x,x<m→(∀ p,p<m→p ≠ x→p ∈ A∨p ∈ B)→¬ cl A x→cl' B x) :
  ∀ (l acc : List Nat) {a b c : Nat},(∀ x ∈ l,x<m)→(∀ p,p<m→p ∈ l∨p ∈ acc)→Rk cl l a→Rk cl' acc b→Rk cl' (l.reverse ++ acc) c→a+c≤l.length+b
 | [],acc,a,b,c,_,_,ha,hb,hc=>by
  cases ha
  have e : c=b:=Rk.uniq hc hb
  simp;omega
 | x :: l,acc,a,b,c,hl,hp,ha,hb,hc=>by
  have hx:=hl x (by simp)
  obtain ⟨b',hb'⟩:=Rk.ex cl' (x :: acc)
  have hst:=rk_step hb hb'
  have hc' : Rk cl' (l.reverse ++ (x :: acc)) c:=by simpa using hc
  have hp' : ∀ p,p<m→p ∈ l∨p ∈ x :: acc:=fun p hpm=>by
   rcases hp p hpm with h1 | h1
   ·rcases List.mem_cons.1 h1 with rfl | h1
    ·exact .inr (by simp)
    ·exact .inl h1
   ·exact .inr (List.mem_cons.2 (.inr h1))
  cases ha with
  | dep _ hcl ha' =>
   have ih:=dual_count h l (x :: acc) (fun y hy=>hl y (List.mem_cons.2 (.inr hy))) hp' ha' hb' hc'
   simp only [List.length_cons];omega
  | ind _ hcl ha' =>
   have ih:=dual_count h l (x :: acc) (fun y hy=>hl y (List.mem_cons.2 (.inr hy))) hp' ha' hb' hc'
   have:=hst.2 (h l acc x hx (fun p hpm hpx=>by
    rcases hp p hpm with h1 | h1
    ·rcases List.mem_cons.1 h1 with h2 | h1
     ·exact absurd h2 hpx
     ·exact .inl h1
    ·exact .inr h1) hcl)
   simp only [List.length_cons];omega
theorem dual_rk (F : Fld O El) (hG : Rws El m G) (hK : Rws El m K) (h : Orth O m G K) (hkm : G.length+K.length=m)
  (hg : Rk (clV O El G.length (colS G)) (List.range m) G.length) (hk : Rk (clV O El K.length (colS K)) (List.range m) K.length)
  {S C : List Nat} (hS : ∀ x ∈ S,x<m) (hC : ∀ x ∈ C,x<m) (hSC : ∀ p,p<m→p ∈ S∨p ∈ C) (hlen : S.length+C.length=m) {a b : Nat} (ha : Rk (clV O El G.length (colS G)) C a) (hb : Rk (clV O El K.length (colS K)) S b) :
  (b : Int)=S.length - G.length+a:=by
 have cG:=col_clo F hG
 have cK:=col_clo F hK
 have all : ∀ {cl : List Nat→Nat→Prop} (hc : Clo cl) {r : Nat} (_ : Rk cl (List.range m) r) (l acc : List Nat),(∀ x ∈ l,x<m)→(∀ x ∈ acc,x<m)→(∀ p,p<m→p ∈ l∨p ∈ acc)→Rk cl (l.reverse ++ acc) r:=fun hc r hr l acc h1 h2 h3=>by
  obtain ⟨r',hr'⟩:=Rk.ex _ (l.reverse ++ acc)
  have e:=Rk.same hc hr hr' fun x=>by
   rw [List.mem_range,List.mem_append,List.mem_reverse]
   exact ⟨fun hx=>h3 x hx,fun hx=>by rcases hx with hx | hx;exact h1 x hx;exact h2 x hx⟩
  rw [e];exact hr'
 have i1:=dual_count (m:=m) (fun A B x hx hAB hn=>h.cl F hG hK hx hAB hn) C S hC (fun p hp=>(hSC p hp).symm) ha hb (all cK hk C S hC hS fun p hp=>(hSC p hp).symm)
 have i2:=dual_count (m:=m) (fun A B x hx hAB hn=>(h.symm F hG hK).cl F hK hG hx hAB hn) S C hS hSC hb ha (all cG hg S C hS hC hSC)
 omega
end
end

section
section
variable {O : FOps} {El : Int→Prop} {m n : Nat}
theorem canO_rk (F : Fld O El) {L : List (List Int)} (hL : Rws El m L) : Rk (clV O El (canO O m L).length (colS (canO O m L))) (List.range m) (canO O m L).length:=by
 have h:=piv_rk F (canO_rws F hL)
 obtain ⟨h1,h2⟩:=canO_piv F hL
 rw [elim_fixed F h1 h2 (canO_len F hL)] at h
 rw [canO_len F hL]
 rw [canO_len F hL] at h
 exact h
variable {R : List (List Int)} {P : List Int}
theorem ker_ind (F : Fld O El) (hP : Piv R P m) : ∀ k,k≤(npL P m).length→Rk (clV O El (kerL O m R P m).length (colS (kerL O m R P m))) (((npL P m).take k).reverse) k
 | 0,_=>.nil
 | k+1,hk=>by
  have ih:=ker_ind F hP k (by omega)
  have hkl : k<(npL P m).length:=by omega
  have hnd : ∀ K,(npL P K).Nodup:=fun K=>by
   induction K with
   | zero=>exact List.nodup_nil
   | succ K ih =>
    rw [npL]
    split
    ·exact ih
    ·rw [List.nodup_append]
     refine ⟨ih,by simp,fun a ha b hb=>?_⟩
     rw [List.mem_singleton] at hb
     rw [hb]
     have:=(mem_npL K).1 ha
     omega
  have etk : ((npL P m).take (k+1)).reverse=(npL P m)[k] :: ((npL P m).take k).reverse:=by rw [List.take_succ_eq_append_getElem hkl,List.reverse_append];rfl
  rw [etk]
  refine .ind _ (fun hc=>?_) ih
  have hlk : k<(kerL O m R P m).length:=by rw [kerL_len];exact hkl
  have hat:=npL_at (P:=P) (k:=m) hkl
  have eg : (npL P m).getD k 0=(npL P m)[k]:=by simp [List.getD_eq_getElem?_getD,hkl]
  rw [eg] at hat
  have h1:=hc (fun v=>nth v k) (Lin.coord F hlk) fun y hy=>by
   rw [List.mem_reverse] at hy
   show nth (colS _ y) k=0
   rw [nth_colS _ y k hlk,kerL_at O m R P m hkl,eg]
   have hym:=(mem_npL m).1 (List.mem_of_mem_take hy)
   have hyk : y ≠ (npL P m)[k]:=fun e=>by
    obtain ⟨q,hq,e2⟩:=List.mem_iff_getElem.1 hy
    rw [List.length_take] at hq
    rw [List.getElem_take] at e2
    have h3:=(List.getElem_inj (hnd m)).1 (e2.trans e)
    omega
   refine kerTo_other hP hym.1 hyk _ (Nat.le_refl _) fun q hq e=>hym.2 ?_
   have h4:=hP.lt q hq
   have : nth P q ∈ P:=nth_mem hq
   rwa [show nth P q=(y : Int) by omega] at this
  have h2 : nth (colS (kerL O m R P m) (npL P m)[k]) k=0:=h1
  rw [nth_colS _ _ k hlk,kerL_at O m R P m hkl,eg,kerTo_self hP hat.1 hat.2 _ (Nat.le_refl _)] at h2
  exact absurd h2 (by decide)
theorem npL_count (P : List Int) (hP : ∀ j,j<P.length→0≤nth P j∧nth P j<m) (ha : ∀ i j,i<j→j<P.length→nth P i<nth P j) : (npL P m).length+P.length=m:=by
 have key : ∀ k,k≤m→∃ t,t≤P.length∧(npL P k).length+t=k∧(∀ j,j<t→nth P j<k)∧(∀ j,t≤j→j<P.length→(k : Int)≤nth P j):=by
  intro k
  induction k with
  | zero=>intro _;exact ⟨0,Nat.zero_le _,rfl,fun j hj=>by omega,fun j _ hj=>(hP j hj).1⟩
  | succ k ih =>
   intro hk
   obtain ⟨t,h1,h2,h3,h4⟩:=ih (by omega)
   rw [npL]
   by_cases hm : (k : Int) ∈ P
   ·rw [if_pos hm]
    obtain ⟨q,hq,e⟩:=List.mem_iff_getElem.1 hm
    rw [← nth_getElem hq] at e
    have hqt : q=t:=by
     by_cases h5 : q<t
     ·have:=h3 q h5;omega
     ·by_cases h6 : t<q
      ·have h7:=ha t q h6 hq
       have h8:=h4 t (Nat.le_refl _) (by omega)
       omega
      ·omega
    subst hqt
    refine ⟨q+1,by omega,by omega,fun j hj=>?_,fun j h5 h6=>?_⟩
    ·by_cases e2 : j=q
     ·subst e2;omega
     ·have:=h3 j (by omega);omega
    ·have:=ha q j (by omega) h6;omega
   ·rw [if_neg hm,List.length_append,List.length_singleton]
    refine ⟨t,h1,by omega,fun j hj=>by have:=h3 j hj;omega,fun j h5 h6=>?_⟩
    have h7:=h4 j h5 h6
    have h8 : nth P j ≠ k:=fun e=>hm (by rw [← e];exact nth_mem h6)
    omega
 obtain ⟨t,h1,h2,h3,h4⟩:=key m (Nat.le_refl _)
 have : t=P.length:=by
  apply Classical.byContradiction
  intro h
  have h5:=h4 t (Nat.le_refl _) (by omega)
  have h6:=hP t (by omega)
  omega
 omega
theorem ker_canon (F : Fld O El) (hR : Rws El m R) (hP : Piv R P m) (hl : Lead R P) (hlen : R.length=P.length) :
  R.length+(canO O m (kerL O m R P m)).length=m∧Orth O m R (canO O m (kerL O m R P m)):=by
 have hK:=kerL_rws F hR hP hlen
 have hcnt:=npL_count (m:=m) P hP.lt hl.asc
 have hkl:=kerL_len O m R P m
 obtain ⟨r1,r2⟩:=canO_rsub F hK
 have hO:=ker_orth F hR hP hl hlen
 refine ⟨?_,fun i j hi hj=>?_⟩
 ·have h1:=canO_rk F hK
  have h2:=ker_ind F hP (O:=O) (El:=El) (R:=R) (npL P m).length (Nat.le_refl _)
  have hle:=(elimTo_piv O (kerL O m R P m) m).2
  have hcl:=canO_len F hK
  have h3:=Rk.map (cl':=clV O El (canO O m (kerL O m R P m)).length (colS (canO O m (kerL O m R P m)))) (fun y=>y<m) id (fun l x hl hx=>by rw [List.map_id];exact ⟨r1.cl hl hx,r2.cl hl hx⟩) h2 (fun y hy=>by
   rw [List.mem_reverse] at hy
   exact ((mem_npL m).1 (List.mem_of_mem_take hy)).1)
  have h4:=Rk.le (col_clo F (canO_rws F hK)) h3 h1 (fun x hx=>(col_clo F (canO_rws F hK)).mem _ _ (by
   rw [List.map_id,List.mem_reverse] at hx
   exact List.mem_range.2 ((mem_npL m).1 (List.mem_of_mem_take hx)).1))
  omega
 ·obtain ⟨e,he,he2⟩:=r1 j hj
  rw [dotN_congr (a':=fun p=>nth (nthR R i) p) (b':=fun p=>e (colS (kerL O m R P m) p)) m fun p hp=>⟨rfl,he2 p hp⟩]
  exact form_dot F hK he (fun p hp=>Vc.at (hR.row hi) hp) fun q hq=>hO i q hi hq
end
end

section
open Go.RowKit
def SomeBool (w : World) (e : Ending) (w' : World) : Prop:=∃ z,e = .returned (.bool z)∧Below w.heap.size w w'
set_option maxRecDepth 100000 in
set_option maxHeartbeats 3200000 in
theorem rFew9_any (a : Option Addr) (n c K : Nat) (L : List (List Int)) (w : World) (hi : Mat w a n L) (hK : K≤100000) :
  Calls Tryz.prog 87 #[.agg #[.int .i64 0,.slice a n c],.int .i64 K] w (SomeBool w):=by
 have Hlen:=Lib.hid hi.len
 have hpl:=hi.pl
 have hmax:=hi.max
 unfold maxLen at hmax
 go_enter Tryz.func87,Tryz.ntmps87
 go_upto_region 1 with fail
 obtain ⟨W,hW⟩ : ∃ W : World,W=w.alloc (.cells #[.int .i64 0,.slice a n c] 73):=⟨_,rfl⟩
 rw [← hW]
 have hbW : Below w.heap.size w W:=by rw [hW];exact below1 _ _
 have x0 : Box W w.heap.size [.int .i64 0,.slice a n c]:=by rw [hW];exact Box.new _ _ _ rfl
 have c0:=x0.cell 0 rfl
 have c1:=x0.cell 1 rfl
 have hiW:=hi.keep hbW
 have HbW:=Lib.hid hbW
 clear hW x0 hi hbW
 by_cases h1 : K<n
 ·have d1 : decide (K<n)=true:=by simpa using h1
  have d1' : decide ((K : Int)<n)=true:=by simp;omega
  go_wp2_with fail
  go_ret
  exact ⟨_,rfl,HbW.out⟩
 ·have d1 : decide (K<n)=false:=by simpa using h1
  have d1' : decide ((K : Int)<n)=false:=by simp;omega
  go_wp2_with fail
  go_loopw [5,6] (fun lv iv wr=>∃ k m : Nat,k≤n∧m≤K∧lv = .int .i64 m∧iv = .int .i64 k∧wr=W) (fun _ iv _=>n - (intOf iv).toNat)
  case atStart=>exact ⟨0,K - n,Nat.zero_le _,by omega,by go_num,rfl,rfl⟩
  case round =>
   obtain ⟨k,m,hk,hm,rfl,rfl,rfl⟩:=hrel
   by_cases hlt : k<n
   ·obtain ⟨ra,rn,rc,hcell,hrow⟩:=hiW.cell k hlt
    by_cases h2 : m<rn
    ·have d2 : decide (m<rn)=true:=by simpa using h2
     have d2' : decide ((m : Int)<rn)=true:=by simp;omega
     go_wp2_with fail
     go_ret
     exact ⟨_,rfl,HbW.out⟩
    ·have d2 : decide (m<rn)=false:=by simpa using h2
     have d2' : decide ((m : Int)<rn)=false:=by simp;omega
     have d3 : (rn : Int)≤m:=by omega
     go_wp2_with fail
     go_roundw
     case rel=>exact ⟨k+1,m - rn,by omega,by omega,by go_num,by go_num,by first | rfl | trivial⟩
     case measure=>simp [intOf] <;> omega
   ·obtain rfl : k=n:=by omega
    go_wp2_with fail
    go_ret
    exact ⟨_,rfl,HbW.out⟩
set_option maxRecDepth 100000 in
theorem rFew12_any (P M : Int) (am : Option Addr) (mn cm : Nat) (N : Int) (a : Option Addr) (n c K : Nat) (L : List (List Int)) (w : World) (hi : Mat w a n L) (hK : K≤100000) :
  Calls Tryz.prog 44 #[.agg #[.int .i64 P,.int .i64 M,.slice am mn cm,.int .i64 N,.slice a n c],.int .i64 K] w (SomeBool w):=by
 have H:=Lib.hid (fun V hV=>rFew9_any a n c K L V (hi.keep hV) hK : ∀ V,Below w.heap.size w V→_)
 clear hi
 go_enter Tryz.func44,Tryz.ntmps44
 go_wp2_with fail
 have hbW:=below1 w (.cells #[.int .i64 P,.int .i64 M,.slice am mn cm,.int .i64 N,.slice a n c] 27)
 refine (H.out _ hbW).mono ?_
 rintro e w1 ⟨z,rfl,hb1⟩
 have hF:=Below.next hbW hb1
 go_wp2_with fail
 go_ret
 exact ⟨z,rfl,hF⟩
end

section
open Go.ChangeShapes Go.WideShapes Go.ChangeAt Go.RowKit
section
variable {H : Type} {enc : TypeId × Value→H} {W : World} {held : Bool} {fuel : Nat} {cs : List Value} {x : DataW H × List MemPlace}
theorem opened_mat (h : DataW.trod enc Tryz.prog W 0 (fun _=>true) held fuel 25 cs=some x) : ∃ a n c L,cs=[.slice a n c]∧Mat W a n L:=by
 rcases Go.Deep.open_int_rows Tryz.underlying25 Tryz.underlying22 Tryz.underlying3 (by kernel_rfl) (by kernel_rfl) h with ⟨hcs,_⟩ | ⟨a,len,cap,A,Ln,C,Z,hcs,_,hl,hm,_,hrows⟩
 ·exact ⟨none,0,0,[],hcs,⟨rfl,fun h0=>by omega,by unfold maxLen;omega,fun i hi=>by omega⟩⟩
 ·refine ⟨some a,len,cap,(List.range len).map (fun r=>(Z r).take (Ln r)),hcs,⟨by simp,fun h0=>congrArg some (plain_of (hrows 0 (by omega)).1),by omega,fun r hr=>?_⟩⟩
  obtain ⟨h1,h2,h3,h4,_,h5,h6⟩:=hrows r (by omega)
  refine ⟨A r,Ln r,C r,add_cell h1,?_⟩
  have e : nthR ((List.range len).map (fun r=>(Z r).take (Ln r))) r=(Z r).take (Ln r):=by
   unfold nthR
   simp [List.getD_eq_getElem?_getD,List.getElem?_map,List.getElem?_range hr]
  rw [e]
  match hA : A r,h5,h6 with
  | none,h5,_ =>
   have h0 : Ln r=0:=by have:=h5 rfl;omega
   rw [h0]
   exact Ints.nil _ _
  | some b,_,h6 =>
   obtain ⟨_,h7⟩:=h6 b rfl
   exact ⟨by simp;omega,fun h0=>congrArg some (plain_of (h7 0 (by omega))),by omega,fun i hi=>by
    rw [nth_take_getD _ _ _ hi]
    exact add_cell (h7 i (by omega))⟩
end
section
variable {H : Type} {enc : TypeId × Value→H} {W : World} {held : Bool} {b0 : Nat} {v : Value} {d : DataW H} {p : List MemPlace}
set_option maxRecDepth 100000 in
theorem arg_code (hv : Value.okWide Tryz.prog W .any b0 27 v) (h : DataW.Trod enc Tryz.prog W 0 (fun _=>true) held 27 v d p) :
  ∃ (P M : Int) (am : Option Addr) (mn cm : Nat) (mod : List Int) (N : Int) (a : Option Addr) (n c : Nat) (L : List (List Int)),v = .agg #[.int .i64 P,.int .i64 M,.slice am mn cm,.int .i64 N,.slice a n c]∧Ints W am mn mod∧Mat W a n L:=by
 obtain ⟨cs,rfl,hsz⟩:=okWide_struct Tryz.underlying27 hv
 rw [show Tryz.prog.cellsOf 27 = 5 by kernel_rfl] at hsz
 obtain ⟨l⟩:=cs
 match l,hsz with
 | [v0,v1,v2,v3,v4],_ =>
 obtain ⟨fuel,hf⟩:=h
 obtain ⟨xs,n0,_,_,_,hlen,hfs⟩:=DataW.trod_struct Tryz.underlying27 hf
 obtain ⟨y0,y1,y2,rfl⟩ : ∃ y0 y1 y2,xs=[y0,y1,y2]:=by
  match xs,hlen with
  | [y0,y1,y2],_=>exact ⟨y0,y1,y2,rfl⟩
 have k24 : Tryz.prog.cellsOf 24 = 3:=by kernel_rfl
 have k3 : Tryz.prog.cellsOf 3 = 1:=by kernel_rfl
 have k22 : Tryz.prog.cellsOf 22 = 1:=by kernel_rfl
 have k25 : Tryz.prog.cellsOf 25 = 1:=by kernel_rfl
 have g0 : DataW.trod enc Tryz.prog W 0 (fun _=>true) held n0 24 [v0,v1,v2]=some y0:=by simpa [Value.cells,k24] using hfs 0 _ rfl
 have g1 : DataW.trod enc Tryz.prog W 0 (fun _=>true) held n0 3 [v3]=some y1:=by simpa [Value.cells,k3] using hfs 1 _ rfl
 have g2 : DataW.trod enc Tryz.prog W 0 (fun _=>true) held n0 25 [v4]=some y2:=by simpa [Value.cells,k25] using hfs 2 _ rfl
 obtain ⟨xs',n1,_,_,_,hlen',hfs'⟩:=DataW.trod_struct Tryz.underlying24 g0
 obtain ⟨z0,z1,z2,rfl⟩ : ∃ z0 z1 z2,xs'=[z0,z1,z2]:=by
  match xs',hlen' with
  | [z0,z1,z2],_=>exact ⟨z0,z1,z2,rfl⟩
 have q0 : DataW.trod enc Tryz.prog W 0 (fun _=>true) held n1 3 [v0]=some z0:=by simpa [k3] using hfs' 0 _ rfl
 have q1 : DataW.trod enc Tryz.prog W 0 (fun _=>true) held n1 3 [v1]=some z1:=by simpa [k3] using hfs' 1 _ rfl
 have q2 : DataW.trod enc Tryz.prog W 0 (fun _=>true) held n1 22 [v2]=some z2:=by simpa [k22] using hfs' 2 _ rfl
 obtain ⟨P,eP,_,_⟩:=DataW.trod_int Tryz.underlying3 q0
 obtain ⟨M,eM,_,_⟩:=DataW.trod_int Tryz.underlying3 q1
 obtain ⟨N,eN,_,_⟩:=DataW.trod_int Tryz.underlying3 g1
 obtain ⟨am,mn,cm,mod,eI,hI⟩:=opened_ints q2
 obtain ⟨a,n,c,L,eL,hL⟩:=opened_mat g2
 simp at eP eM eN eI eL
 subst eP eM eN eI eL
 exact ⟨P,M,am,mn,cm,mod,N,a,n,c,L,rfl,hI,hL⟩
end
end

end Go.Proofs.YtcflcogbpnmjeaaGreat
