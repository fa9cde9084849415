/-  -/
import Derived.Test.YtcflcogbpnmjeaaGreatK13
import Derived.Test.YtcflcogbpnmjeaaGreatHWI6
import Derived.Test.YtcflcogbpnmjeaaGreatK14
import Derived.Test.YtcflcogbpnmjeaaGreatHWI7
import Derived.Test.YtcflcogbpnmjeaaGreatK15
import Derived.Test.YtcflcogbpnmjeaaGreatK8
import Derived.Test.YtcflcogbpnmjeaaGreatHWI2
import Derived.Test.YtcflcogbpnmjeaaGreatK6
import Derived.Test.YtcflcogbpnmjeaaGreatHWI1
import Derived.Test.YtcflcogbpnmjeaaGreatK11
import Derived.Test.YtcflcogbpnmjeaaGreatK9
import Derived.Test.YtcflcogbpnmjeaaGreatHWI5
import Derived.Test.YtcflcogbpnmjeaaGreatK20
import Derived.Test.YtcflcogbpnmjeaaGreatHWI4
import Derived.Test.YtcflcogbpnmjeaaGreatK17
namespace Go.Proofs.YtcflcogbpnmjeaaGreat
set_option linter.unusedVariables false
set_option linter.unusedSimpArgs false
set_option linter.unusedSectionVars false

section
theorem tab5_2_0 : chkC 5 2 25 cert5_2 0 25=true:=by decide +kernel
theorem tab5_2 : chkAll 5 2 25 cert5_2:=chkAll_add (chkAll_nil 5 2 25 cert5_2) tab5_2_0
theorem tab5_3_0 : chkC 5 3 125 cert5_3 0 32=true:=by decide +kernel
theorem tab5_3_32 : chkC 5 3 125 cert5_3 32 32=true:=by decide +kernel
theorem tab5_3_64 : chkC 5 3 125 cert5_3 64 32=true:=by decide +kernel
theorem tab5_3_96 : chkC 5 3 125 cert5_3 96 29=true:=by decide +kernel
theorem tab5_3 : chkAll 5 3 125 cert5_3:=chkAll_add (chkAll_add (chkAll_add (chkAll_add (chkAll_nil 5 3 125 cert5_3) tab5_3_0) tab5_3_32) tab5_3_64) tab5_3_96
theorem tab7_2_0 : chkC 7 2 49 cert7_2 0 49=true:=by decide +kernel
theorem tab7_2 : chkAll 7 2 49 cert7_2:=chkAll_add (chkAll_nil 7 2 49 cert7_2) tab7_2_0
theorem tab11_2_0 : chkC 11 2 121 cert11_2 0 32=true:=by decide +kernel
theorem tab11_2_32 : chkC 11 2 121 cert11_2 32 32=true:=by decide +kernel
theorem tab11_2_64 : chkC 11 2 121 cert11_2 64 32=true:=by decide +kernel
theorem tab11_2_96 : chkC 11 2 121 cert11_2 96 25=true:=by decide +kernel
theorem tab11_2 : chkAll 11 2 121 cert11_2:=chkAll_add (chkAll_add (chkAll_add (chkAll_add (chkAll_nil 11 2 121 cert11_2) tab11_2_0) tab11_2_32) tab11_2_64) tab11_2_96
theorem tab13_2_0 : chkC 13 2 169 cert13_2 0 32=true:=by decide +kernel
theorem tab13_2_32 : chkC 13 2 169 cert13_2 32 32=true:=by decide +kernel
theorem tab13_2_64 : chkC 13 2 169 cert13_2 64 32=true:=by decide +kernel
theorem tab13_2_96 : chkC 13 2 169 cert13_2 96 32=true:=by decide +kernel
theorem tab13_2_128 : chkC 13 2 169 cert13_2 128 32=true:=by decide +kernel
theorem tab13_2_160 : chkC 13 2 169 cert13_2 160 9=true:=by decide +kernel
theorem tab13_2 : chkAll 13 2 169 cert13_2:=chkAll_add (chkAll_add (chkAll_add (chkAll_add (chkAll_add (chkAll_add (chkAll_nil 13 2 169 cert13_2) tab13_2_0) tab13_2_32) tab13_2_64) tab13_2_96) tab13_2_128) tab13_2_160
def chkP (c : Nat × Nat) : Bool:=ordOk (mulS c.1 1 []) c.1 c.2 && decide (0<c.2) && decide (c.2<c.1)
theorem tabP : roots.all chkP=true:=by decide +kernel
theorem rootsAll : ((List.range 257).all fun p=>p<2 || !primeB p || roots.any fun c=>c.1 == p)=true:=by decide +kernel
end

section
section
variable {P : Int} {M : Nat} {mod : List Int} {q : Nat} {x : Int}
theorem genTo_some : ∀ (n x y : Nat),2≤q→x≤y→y<x+n→isGen P M mod q y=true→genTo P M mod q n x ≠ []
 | 0,x,y,_,h1,h2,_=>by omega
 | n+1,x,y,hq,h1,h2,hg=>by
  rw [genTo]
  by_cases hx : isGen P M mod q x=true
  ·rw [if_pos hx]
   intro e
   simp only [isGen,Bool.and_eq_true,beq_iff_eq] at hx
   rw [e] at hx
   simp at hx
   omega
  ·rw [if_neg hx]
   refine genTo_some n (x+1) y hq ?_ (by omega) hg
   rcases Nat.eq_or_lt_of_le h1 with h3 | h3
   ·subst h3;exact absurd hg hx
   ·exact h3
theorem no_zero_div {ex : List Int} {y a b : Int} (g : Gen P M mod q y ex) (ha : ElP P M a) (hb : ElP P M b) (ha0 : a ≠ 0) (hb0 : b ≠ 0) : mulS P M mod a b ≠ 0:=by
 obtain ⟨i,_,rfl,_⟩:=g.log ha ha0
 obtain ⟨j,_,rfl,_⟩:=g.log hb hb0
 rw [pw_add g.res]
 exact g.pw_ne _
end
theorem chkAll_at {P : Int} {M q : Nat} {l : List (Nat × Nat)} (h : chkAll P M q l) {v : Nat} (hv : v<q) : ∃ c,chkV P M q v c=true:=⟨_,h v hv⟩
theorem tabOf (p m : Nat) (hp : primeB p=true) (h2 : 2≤p) (hm : 2≤m) (hm8 : m≤8) (hpw : (p : Int) ^ m≤256) : ∃ l,chkAll p m (((p : Int) ^ m).toNat) l:=by
 have hp16 : p≤16:=by
  have h1:=pow_mono (P:=(p : Int)) (by omega) hm
  have h3 : (p : Int) ^ 2=p * p:=by rw [Int.pow_succ,Int.pow_succ,Int.pow_zero,Int.one_mul]
  rcases Nat.lt_or_ge 16 p with h4 | h4
  ·have h5 : 17 * 17≤p * p:=Nat.mul_le_mul h4 h4
   have h6 : ((17 * 17 : Nat) : Int)≤((p * p : Nat) : Int):=Int.ofNat_le.2 h5
   rw [Int.natCast_mul] at h6
   omega
  ·exact h4
 have hc : p=2∨p=3∨p=4∨p=5∨p=6∨p=7∨p=8∨p=9∨p=10∨p=11∨p=12∨p=13∨p=14∨p=15∨p=16:=by omega
 have hd : m=2∨m=3∨m=4∨m=5∨m=6∨m=7∨m=8:=by omega
 rcases hc with rfl | rfl | rfl | rfl | rfl | rfl | rfl | rfl | rfl | rfl | rfl | rfl | rfl | rfl | rfl
 ·rcases hd with rfl | rfl | rfl | rfl | rfl | rfl | rfl
  ·exact ⟨_,tab2_2⟩
  ·exact ⟨_,tab2_3⟩
  ·exact ⟨_,tab2_4⟩
  ·exact ⟨_,tab2_5⟩
  ·exact ⟨_,tab2_6⟩
  ·exact ⟨_,tab2_7⟩
  ·exact ⟨_,tab2_8⟩
 ·rcases hd with rfl | rfl | rfl | rfl | rfl | rfl | rfl
  ·exact ⟨_,tab3_2⟩
  ·exact ⟨_,tab3_3⟩
  ·exact ⟨_,tab3_4⟩
  ·exact ⟨_,tab3_5⟩
  ·exact absurd hpw (by decide)
  ·exact absurd hpw (by decide)
  ·exact absurd hpw (by decide)
 ·exact absurd hp (by decide)
 ·rcases hd with rfl | rfl | rfl | rfl | rfl | rfl | rfl
  ·exact ⟨_,tab5_2⟩
  ·exact ⟨_,tab5_3⟩
  ·exact absurd hpw (by decide)
  ·exact absurd hpw (by decide)
  ·exact absurd hpw (by decide)
  ·exact absurd hpw (by decide)
  ·exact absurd hpw (by decide)
 ·exact absurd hp (by decide)
 ·rcases hd with rfl | rfl | rfl | rfl | rfl | rfl | rfl
  ·exact ⟨_,tab7_2⟩
  ·exact absurd hpw (by decide)
  ·exact absurd hpw (by decide)
  ·exact absurd hpw (by decide)
  ·exact absurd hpw (by decide)
  ·exact absurd hpw (by decide)
  ·exact absurd hpw (by decide)
 ·exact absurd hp (by decide)
 ·exact absurd hp (by decide)
 ·exact absurd hp (by decide)
 ·rcases hd with rfl | rfl | rfl | rfl | rfl | rfl | rfl
  ·exact ⟨_,tab11_2⟩
  ·exact absurd hpw (by decide)
  ·exact absurd hpw (by decide)
  ·exact absurd hpw (by decide)
  ·exact absurd hpw (by decide)
  ·exact absurd hpw (by decide)
  ·exact absurd hpw (by decide)
 ·exact absurd hp (by decide)
 ·rcases hd with rfl | rfl | rfl | rfl | rfl | rfl | rfl
  ·exact ⟨_,tab13_2⟩
  ·exact absurd hpw (by decide)
  ·exact absurd hpw (by decide)
  ·exact absurd hpw (by decide)
  ·exact absurd hpw (by decide)
  ·exact absurd hpw (by decide)
  ·exact absurd hpw (by decide)
 ·exact absurd hp (by decide)
 ·exact absurd hp (by decide)
 ·exact absurd hp (by decide)
theorem valu_el {P : Int} {m : Nat} (hf : RF P m) {mod : List Int} (hd : Dig P mod) (hl : mod.length=m) : 0≤valu P mod∧valu P mod<P ^ m:=by
 have:=valu_bd (P:=P) (by have:=hf.p2;omega) mod hd
 rwa [hl] at this
theorem fieldRB_eq (P M : Int) (mod : List Int) : fieldRB P M mod=fieldB P M mod:=by
 by_cases hs : shapeB P M mod=true
 ·unfold fieldRB fieldB
  rw [hs,Bool.true_and,Bool.true_and]
  have hs2:=hs
  unfold shapeB at hs2
  simp only [Bool.and_eq_true,bne_iff_ne,ne_eq] at hs2
  obtain ⟨⟨h1,h2⟩,h3⟩:=hs2
  obtain ⟨m,rfl,hrf⟩:=RF.of h1
  obtain ⟨p,rfl⟩ : ∃ p : Nat,P=p:=⟨P.toNat,by have:=hrf.p2;omega⟩
  rw [Int.toNat_natCast] at h2 ⊢
  have hp2 : 2≤p:=by have:=hrf.p2;omega
  have hp256 : p≤256:=by have:=hrf.p256;omega
  have hord:=hrf.order
  have hres:=hrf.res
  obtain ⟨q,hq⟩ : ∃ q : Nat,(p : Int) ^ m=q:=⟨((p : Int) ^ m).toNat,by have:=one_lt_pow hres;omega⟩
  have hq2 : 2≤q:=by have:=one_lt_pow hres;omega
  have hq256 : q≤256:=by have:=hrf.pw;omega
  rw [hord,hq,Int.toNat_natCast]
  have hgen : ∀ x : Nat,0<x→x<q→ordOk (mulS p m mod) q x=true→(genS p m mod q).isEmpty=false:=fun x hx0 hx1 ho=>by
   have hel : ElP (p : Int) m x:=⟨by omega,by rw [hq];omega⟩
   have hg:=(Ord.of hres hel hq256 ho).isGen hres hel hq2
   have:=genTo_some (P:=p) (M:=m) (mod:=mod) (q - 1) 1 x hq2 (by omega) (by omega) hg
   unfold genS
   cases h : genTo p m mod q (q - 1) 1 with
   | nil=>exact absurd h this
   | cons y l=>rfl
  by_cases hm : m=1
  ·subst hm
   have hmod : mod=[]:=by
    rw [if_pos (by simp)] at h3
    exact List.eq_nil_of_length_eq_zero (by simpa using h3)
   subst hmod
   have hr:=List.all_eq_true.1 rootsAll p (List.mem_range.2 (by omega))
   have hp2' : decide (p<2)=false:=by simp;omega
   rw [hp2',h2] at hr
   simp only [Bool.not_true,Bool.false_or,List.any_eq_true] at hr
   obtain ⟨c,hc,hcp⟩:=hr
   have hck:=List.all_eq_true.1 tabP c hc
   have hcp2 : c.1=p:=by simpa using hcp
   unfold chkP at hck
   rw [hcp2] at hck
   simp only [Bool.and_eq_true,decide_eq_true_eq] at hck
   have hqp : q = p := by have : (p : Int) ^ 1 = p := by rw [Int.pow_succ, Int.pow_zero, Int.one_mul]
                          omega
   rw [hgen c.2 hck.1.2 (by omega) (by rw [hqp];exact hck.1.1)]
   rfl
  ·have hM : ¬ (m : Int)=1:=by omega
   rw [if_neg hM] at h3
   simp only [Bool.and_eq_true,decide_eq_true_eq] at h3
   have hlen : mod.length=m:=by omega
   have hdig : Dig (p : Int) mod:=Dig.of_mem (by omega) fun x hx=>by
    have:=List.all_eq_true.1 h3.2 x hx
    simpa using this
   have hv:=valu_el hrf hdig hlen
   obtain ⟨v,hvv⟩ : ∃ v : Nat,valu p mod=v:=⟨(valu p mod).toNat,by omega⟩
   have hdv : digs v p m=mod:=by rw [← hvv,← hlen];exact digs_valu mod hdig
   obtain ⟨l,hl⟩:=tabOf p m h2 hp2 (by have:=hrf.m1;omega) hrf.m8 hrf.pw
   rw [hq,Int.toNat_natCast] at hl
   obtain ⟨c,hc⟩:=chkAll_at hl (v:=v) (by omega)
   have hM' : ((m : Int) == 1)=false:=by simpa using hM
   rw [hM',Bool.false_or]
   unfold chkV at hc
   rw [hdv] at hc
   split at hc
   ·simp only [Bool.and_eq_true,decide_eq_true_eq] at hc
    rw [hc.1.1.1,hgen c.1 hc.1.2 hc.2 hc.1.1.2];rfl
   ·rename_i hc2
    simp only [Bool.and_eq_true,decide_eq_true_eq,Bool.not_eq_true',beq_iff_eq] at hc
    rw [hc.1.1.1.1]
    cases h : (genS p m mod q).isEmpty with
    | true=>rfl
    | false =>
     exfalso
     have hne : genS p m mod q ≠ []:=fun e=>by rw [e] at h;cases h
     obtain ⟨y,hy1,hy2,hy3,hy4⟩:=genS_spec hne
     have g:=Gen.of_isGen (mod:=mod) hres hq.symm ⟨by omega,by omega⟩ hy3
     exact no_zero_div g (a:=(c.1 : Int)) (b:=(c.2 : Int)) ⟨by omega,by omega⟩ ⟨by omega,by omega⟩ (by omega) (by omega) hc.1.1.1.2
 ·have hs' : shapeB P M mod=false:=by simpa using hs
  simp [fieldRB,fieldB,hs']
end

section
theorem invTo_find (f : Int→Int) : ∀ (n : Nat) (y z : Int),y≤z→z<y+n→f z=1→f (invTo f n y)=1∧y≤invTo f n y∧invTo f n y<y+n
 | 0,y,z,h1,h2,_=>by omega
 | n+1,y,z,h1,h2,hz=>by
  unfold invTo
  split
  ·exact ⟨by assumption,by omega,by omega⟩
  ·rename_i hn
   have hne : y ≠ z:=fun e=>hn (e ▸ hz)
   have:=invTo_find f n (y+1) z (by omega) (by omega) hz
   exact ⟨this.1,by omega,by omega⟩
theorem eq_ops {P M : Int} {mod : List Int} (h : fieldB P M mod=true) : ∃ m : Nat,M=m∧ElP P m=(tblOf P m mod).El∧((tblOf P m mod).q : Int)=orderS P M∧Fld (tblOf P m mod).ops (ElP P m)∧Agr (tblOf P m mod).ops (rops P m mod) (ElP P m) ∧
  ∀ p,ElP P m p→p ≠ 0→(invR P m mod p=1 ↔ p=1):=by
 have hF:=fieldB_fld h
 obtain ⟨m,y,rfl,hr,h256,hsh,hq,g⟩:=fieldB_gen h
 have hrf : RF P m:=by
  obtain ⟨m',e,h2,_⟩:=fieldRB_rf (by rw [fieldRB_eq];exact h)
  have : m=m':=by omega
  rw [this];exact h2
 rw [Int.toNat_natCast] at hF
 have e : ElP P m=(tblOf P m mod).El:=by
  funext x;simp only [Tbl.El,tblOf,ElP];rw [hq]
 rw [← e] at hF
 have hq2:=g.q2
 have hmul : ∀ x z,ElP P m x→ElP P m z→(tblOf P m mod).ops.mul x z=mulR P m mod x z:=fun x z hx hz=>by
  rw [mulR_eq hrf];exact g.mulT_eq hx hz
 have hqo : ((orderS P m).toNat : Int)=orderS P m:=by omega
 have hinv : ∀ x,ElP P m x→x ≠ 0→(tblOf P m mod).ops.inv x=invR P m mod x:=by
  intro x hx h0
  have hi:=hF.cl.inv x hx h0
  have hm:=hF.mul_inv x hx h0
  rw [hmul x _ hx hi] at hm
  have hi0 : (tblOf P m mod).ops.inv x ≠ 0:=by
   intro e0
   have h2:=hF.mul_inv x hx h0
   rw [e0,hF.mzero hx] at h2
   exact absurd h2 (by decide)
  have hb1:=hi.1
  have hb2:=hi.2
  obtain ⟨h1,h2,h3⟩:=invTo_find (mulR P m mod x) ((orderS P m).toNat - 1) 1 _ (by omega) (by omega) hm
  have hel : ElP P m (invR P m mod x):=⟨by unfold invR;omega,by unfold invR;omega⟩
  have h4 : (tblOf P m mod).ops.mul x (invR P m mod x)=1:=by rw [hmul x _ hx hel];exact h1
  have h5:=hF.mul_inv x hx h0
  have e1 : (tblOf P m mod).ops.mul ((tblOf P m mod).ops.inv x) ((tblOf P m mod).ops.mul x (invR P m mod x))=invR P m mod x:=by
   rw [← hF.mul_assoc _ x _ hi hx hel,hF.mul_comm _ x hi hx,h5,hF.one_mul _ hel]
  rw [h4,hF.mone hi] at e1
  exact e1
 refine ⟨m,rfl,e,hqo,hF,⟨fun x z _ _=>rfl,hmul,fun x _=>rfl,hinv⟩,fun p hp h0=>?_⟩
 rw [← hinv p hp h0]
 have hi:=hF.cl.inv p hp h0
 have hm:=hF.mul_inv p hp h0
 constructor
 ·intro e1;rw [e1,hF.mone hp] at hm;exact hm
 ·intro e1;rw [e1] at hm hi ⊢;rw [hF.one_mul _ hi] at hm;exact hm
theorem hinv_all {P M : Int} {mod : List Int} (h : fieldRB P M mod=true) : ∀ p,ElP P M.toNat p→p ≠ 0→(invR P M.toNat mod p=1 ↔ p=1):=by
 obtain ⟨m,rfl,_,_,_,_,h6⟩:=eq_ops (by rw [← fieldRB_eq];exact h)
 exact h6
theorem rmatE_eq (P M : Int) (mod : List Int) (cols : Int) (L : List (List Int)) : rmatE P M mod cols L=fmatE P M mod cols L:=by
 unfold rmatE fmatE
 rw [fieldRB_eq]
 split
 ·rename_i h
  obtain ⟨m,rfl,_,hq,_⟩:=eq_ops h
  rw [Int.toNat_natCast,hq]
 ·rfl
theorem canR_eq {P M : Int} {mod : List Int} (h : fieldB P M mod=true) {L : List (List Int)} {m : Nat} (hL : Rws (tblOf P M.toNat mod).El m L) : canR (rops P M.toNat mod) L m=canS (tblOf P M.toNat mod) L m:=by
 obtain ⟨k,rfl,he,_,hF,hA,_⟩:=eq_ops h
 rw [Int.toNat_natCast] at hL ⊢
 rw [← he] at hL
 unfold canR canS
 rw [(elimTo_agr hA hF.cl hL m (Nat.le_refl _)).1]
theorem rspaceE_eq (P M : Int) (mod : List Int) (cols : Int) (L : List (List Int)) : rspaceE P M mod cols L=spaceE P M mod cols L:=by
 unfold rspaceE spaceE
 rw [rmatE_eq]
 split
 ·rename_i h0
  obtain ⟨h1,h2⟩:=fmatE_zero h0
  obtain ⟨m,rfl,_,_,hR⟩:=matE_zero h2
  rw [Int.toNat_natCast,canR_eq h1 hR]
 ·rfl
theorem rcodeE_eq (P M : Int) (mod : List Int) (N : Int) (L : List (List Int)) : rcodeE P M mod N L=codeE P M mod N L:=by
 unfold rcodeE codeE
 rw [fieldRB_eq,rspaceE_eq]
end

section
open Go.RowKit
set_option maxRecDepth 100000 in
set_option maxHeartbeats 1600000 in
theorem rPick_any (av : Option Addr) (nv cv : Nat) (v : List Int) (ao : Option Addr) (no co : Nat) (Q : List Int) (w : World) (hv : Ints w av nv v) (hq : Ints w ao no Q) (hQ : InN nv Q) (hno : no≤1000000) :
  Calls Tryz.prog 206 #[.slice av nv cv,.slice ao no co] w (NewInts w (pickL Q v)):=by
 have Hql:=Lib.hid hq.len
 have hplq:=hq.pl
 have hplv:=hv.pl
 have hmq:=hq.max
 have hmv:=hv.max
 have HQ:=Lib.hid hQ
 have hpk : (pickL Q v).length=no:=by rw [pickL,List.length_map];exact Hql.out
 have Hpk:=Lib.hid hpk
 unfold maxLen at hmq hmv
 clear hQ hpk
 go_enter Tryz.func206,Tryz.ntmps206
 go_wp2_with (at_make;refine wpList_mk rfl _ _ 22 3 rfl (.int .i64 0) 8 Tryz.underlying22 infoInt rfl no rfl rfl (by omega) (hq.max) ?_;intro a1 w1 hown hbel hge hlt)
 go_loopw [6] (fun iv wr=>∃ k : Nat,k≤no∧iv = .int .i64 k ∧
   wr.ownsRow w.heap.size 3 1 (.slice a1 no no) no ((fillTo ((pickL Q v).take k) k no).map (Value.int .i64))∧Below w.heap.size w wr)
  (fun i _=>no - (intOf i).toNat)
 case atStart=>exact ⟨0,Nat.zero_le _,rfl,by simpa [fillTo] using hown,hbel⟩
 case round =>
  clear hown hbel
  obtain ⟨k,hk,rfl,hown,hbel⟩:=hrel
  obtain ⟨hints,hmine⟩:=Ints.own hown
  have hpl1:=hints.pl
  by_cases hlt : k<no
  ·have cq:=(hq.keep hbel).cell k hlt
   have hb:=HQ.out k (by rw [Hql.out];exact hlt)
   obtain ⟨z,hz⟩ : ∃ z : Nat,nth Q k=z:=⟨(nth Q k).toNat,by omega⟩
   have hzn : z<nv:=by omega
   have cz:=(hv.keep hbel).cell z hzn
   have hf:=(hmine (by omega)).2 k hlt
   have hc2:=hints.cell k hlt
   have hB:=(hmine (by omega)).1
   have Hv : Hid (nth (pickL Q v) k=nth v z):=by show _=_;rw [nth_pickL Q v (by rw [Hql.out];exact hlt),hz,Int.toNat_natCast]
   rw [hz] at cq
   clear hz hb
   go_wp2_with fail
   go_roundw
   case rel =>
    refine ⟨k+1,by omega,by go_num,?_,hbel.setCell hB _⟩
    have h:=own_set hown k hlt (.int .i64 (nth v z))
    rw [← List.map_set,fillTo_set _ _ _ _ (by rw [List.length_take,Hpk.out];omega) hlt] at h
    rw [List.take_succ_eq_append_getElem (by rw [Hpk.out];omega),← nth_getElem,Hv.out]
    exact h
   case measure=>simp [intOf] <;> omega
  ·obtain rfl : k=no:=by omega
   have hfin : fillTo ((pickL Q v).take k) k k=pickL Q v:=by rw [fillTo_all,List.take_of_length_le (by rw [Hpk.out];exact Nat.le_refl _)]
   rw [hfin] at hown
   clear hfin
   go_wp2_with fail
   go_ret
   exact ⟨a1,k,by rw [Hpk.out];rfl,by rw [Hpk.out];exact hown,hbel⟩
end

section
section
variable {O : FOps} {k : Nat}
end
section
variable {O : FOps} {El : Int→Prop} {m : Nat}
theorem elim_gr (F : Fld O El) {L : List (List Int)} (hL : Rws El m L) {Q : List Int} (hQ : InN m Q) : (elimTo O (L.map (pickL Q)) Q.length).2.length=(grS O L Q).length:=by
 refine Rk.same (col_clo F hL) (pick_rk F hL hQ) (grS_rk F hL Q) fun x=>?_
 rw [mem_grL,List.mem_map]
 constructor
 ·rintro ⟨j,hj,rfl⟩;exact ⟨j,List.mem_range.1 hj,rfl⟩
 ·rintro ⟨j,hj,e⟩;exact ⟨j,List.mem_range.2 hj,e⟩
end
end

section
open Go.RowKit
theorem rCheck_any (P M : Int) (am : Option Addr) (mn cm : Nat) (mod : List Int) (N : Int) (a : Option Addr) (n c : Nat) (L : List (List Int)) (w : World) (hmod : Ints w am mn mod) (hi : Mat w a n L) :
  Calls Tryz.prog 47 #[.agg #[.int .i64 P,.int .i64 M,.slice am mn cm,.int .i64 N,.slice a n c]] w fun e w'=>e = .returned (.int .i64 (codeE P M mod N L))∧Below w.heap.size w w':=by
 rw [← rcodeE_eq]
 exact rCodeCheck_any P M am mn cm mod N a n c L w hmod hi hinv_all
end

end Go.Proofs.YtcflcogbpnmjeaaGreat
