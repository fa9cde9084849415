/-  -/
import Derived.Test.YtcflcogbpnmjeaaGreatK13
import Derived.Test.YtcflcogbpnmjeaaGreatHCK7
import Derived.Test.YtcflcogbpnmjeaaGreatK14
import Derived.Test.YtcflcogbpnmjeaaGreatHCK6
import Derived.Test.YtcflcogbpnmjeaaGreatK15
import Derived.Test.YtcflcogbpnmjeaaGreatK8
import Derived.Test.YtcflcogbpnmjeaaGreatHCK2
import Derived.Test.YtcflcogbpnmjeaaGreatK6
import Derived.Test.YtcflcogbpnmjeaaGreatHCK1
import Derived.Test.YtcflcogbpnmjeaaGreatK11
import Derived.Test.YtcflcogbpnmjeaaGreatK9
import Derived.Test.YtcflcogbpnmjeaaGreatHCK5
import Derived.Test.YtcflcogbpnmjeaaGreatK20
import Derived.Test.YtcflcogbpnmjeaaGreatK12
import Derived.Test.YtcflcogbpnmjeaaGreatK19
import Derived.Test.YtcflcogbpnmjeaaGreatK21
import Derived.Test.YtcflcogbpnmjeaaGreatHCK4
import Derived.Test.YtcflcogbpnmjeaaGreatK17
import Derived.Test.YtcflcogbpnmjeaaGreatK28
import Derived.Test.YtcflcogbpnmjeaaGreatK24
namespace Go.Proofs.YtcflcogbpnmjeaaGreat
set_option linter.unusedVariables false
set_option linter.unusedSimpArgs false
set_option linter.unusedSectionVars false

section
theorem tab5_2_0 : chkC 5 2 25 cert5_2 0 25=true:=by decide +kernel
theorem tab5_2 : chkAll 5 2 25 cert5_2:=chkAll_add (chkAll_nil 5 2 25 cert5_2) tab5_2_0
theorem tab5_3_0 : chkC 5 3 125 cert5_3 0 32=true:=by decide +kernel
theorem tab5_3_32 : chkC 5 3 125 cert5_3 32 32=true:=by decide +kernel
theorem tab5_3_64 : chkC 5 3 125 cert5_3 64 32=true:=by decide +kernel
theorem tab5_3_96 : chkC 5 3 125 cert5_3 96 29=true:=by decide +kernel
theorem tab5_3 : chkAll 5 3 125 cert5_3:=chkAll_add (chkAll_add (chkAll_add (chkAll_add (chkAll_nil 5 3 125 cert5_3) tab5_3_0) tab5_3_32) tab5_3_64) tab5_3_96
theorem tab7_2_0 : chkC 7 2 49 cert7_2 0 49=true:=by decide +kernel
theorem tab7_2 : chkAll 7 2 49 cert7_2:=chkAll_add (chkAll_nil 7 2 49 cert7_2) tab7_2_0
theorem tab11_2_0 : chkC 11 2 121 cert11_2 0 32=true:=by decide +kernel
theorem tab11_2_32 : chkC 11 2 121 cert11_2 32 32=true:=by decide +kernel
theorem tab11_2_64 : chkC 11 2 121 cert11_2 64 32=true:=by decide +kernel
theorem tab11_2_96 : chkC 11 2 121 cert11_2 96 25=true:=by decide +kernel
theorem tab11_2 : chkAll 11 2 121 cert11_2:=chkAll_add (chkAll_add (chkAll_add (chkAll_add (chkAll_nil 11 2 121 cert11_2) tab11_2_0) tab11_2_32) tab11_2_64) tab11_2_96
theorem tab13_2_0 : chkC 13 2 169 cert13_2 0 32=true:=by decide +kernel
theorem tab13_2_32 : chkC 13 2 169 cert13_2 32 32=true:=by decide +kernel
theorem tab13_2_64 : chkC 13 2 169 cert13_2 64 32=true:=by decide +kernel
theorem tab13_2_96 : chkC 13 2 169 cert13_2 96 32=true:=by decide +kernel
theorem tab13_2_128 : chkC 13 2 169 cert13_2 128 32=true:=by decide +kernel
theorem tab13_2_160 : chkC 13 2 169 cert13_2 160 9=true:=by decide +kernel
theorem tab13_2 : chkAll 13 2 169 cert13_2:=chkAll_add (chkAll_add (chkAll_add (chkAll_add (chkAll_add (chkAll_add (chkAll_nil 13 2 169 cert13_2) tab13_2_0) tab13_2_32) tab13_2_64) tab13_2_96) tab13_2_128) tab13_2_160
def chkP (c : Nat × Nat) : Bool:=ordOk (mulS c.1 1 []) c.1 c.2 && decide (0<c.2) && decide (c.2<c.1)
theorem tabP : roots.all chkP=true:=by decide +kernel
theorem rootsAll : ((List.range 257).all fun p=>p<2 || !primeB p || roots.any fun c=>c.1 == p)=true:=by decide +kernel
end

section
section
variable {P : Int} {M : Nat} {mod : List Int} {q : Nat} {x : Int}
theorem genTo_some : ∀ (n x y : Nat),2≤q→x≤y→y<x+n→isGen P M mod q y=true→genTo P M mod q n x ≠ []
 | 0,x,y,_,h1,h2,_=>by omega
 | n+1,x,y,hq,h1,h2,hg=>by
  rw [genTo]
  by_cases hx : isGen P M mod q x=true
  ·rw [if_pos hx]
   intro e
   simp only [isGen,Bool.and_eq_true,beq_iff_eq] at hx
   rw [e] at hx
   simp at hx
   omega
  ·rw [if_neg hx]
   refine genTo_some n (x+1) y hq ?_ (by omega) hg
   rcases Nat.eq_or_lt_of_le h1 with h3 | h3
   ·subst h3;exact absurd hg hx
   ·exact h3
theorem no_zero_div {ex : List Int} {y a b : Int} (g : Gen P M mod q y ex) (ha : ElP P M a) (hb : ElP P M b) (ha0 : a ≠ 0) (hb0 : b ≠ 0) : mulS P M mod a b ≠ 0:=by
 obtain ⟨i,_,rfl,_⟩:=g.log ha ha0
 obtain ⟨j,_,rfl,_⟩:=g.log hb hb0
 rw [pw_add g.res]
 exact g.pw_ne _
end
theorem chkAll_at {P : Int} {M q : Nat} {l : List (Nat × Nat)} (h : chkAll P M q l) {v : Nat} (hv : v<q) : ∃ c,chkV P M q v c=true:=⟨_,h v hv⟩
theorem tabOf (p m : Nat) (hp : primeB p=true) (h2 : 2≤p) (hm : 2≤m) (hm8 : m≤8) (hpw : (p : Int) ^ m≤256) : ∃ l,chkAll p m (((p : Int) ^ m).toNat) l:=by
 have hp16 : p≤16:=by
  have h1:=pow_mono (P:=(p : Int)) (by omega) hm
  have h3 : (p : Int) ^ 2=p * p:=by rw [Int.pow_succ,Int.pow_succ,Int.pow_zero,Int.one_mul]
  rcases Nat.lt_or_ge 16 p with h4 | h4
  ·have h5 : 17 * 17≤p * p:=Nat.mul_le_mul h4 h4
   have h6 : ((17 * 17 : Nat) : Int)≤((p * p : Nat) : Int):=Int.ofNat_le.2 h5
   rw [Int.natCast_mul] at h6
   omega
  ·exact h4
 have hc : p=2∨p=3∨p=4∨p=5∨p=6∨p=7∨p=8∨p=9∨p=10∨p=11∨p=12∨p=13∨p=14∨p=15∨p=16:=by omega
 have hd : m=2∨m=3∨m=4∨m=5∨m=6∨m=7∨m=8:=by omega
 rcases hc with rfl | rfl | rfl | rfl | rfl | rfl | rfl | rfl | rfl | rfl | rfl | rfl | rfl | rfl | rfl
 ·rcases hd with rfl | rfl | rfl | rfl | rfl | rfl | rfl
  ·exact ⟨_,tab2_2⟩
  ·exact ⟨_,tab2_3⟩
  ·exact ⟨_,tab2_4⟩
  ·exact ⟨_,tab2_5⟩
  ·exact ⟨_,tab2_6⟩
  ·exact ⟨_,tab2_7⟩
  ·exact ⟨_,tab2_8⟩
 ·rcases hd with rfl | rfl | rfl | rfl | rfl | rfl | rfl
  ·exact ⟨_,tab3_2⟩
  ·exact ⟨_,tab3_3⟩
  ·exact ⟨_,tab3_4⟩
  ·exact ⟨_,tab3_5⟩
  ·exact absurd hpw (by decide)
  ·exact absurd hpw (by decide)
  ·exact absurd hpw (by decide)
 ·exact absurd hp (by decide)
 ·rcases hd with rfl | rfl | rfl | rfl | rfl | rfl | rfl
  ·exact ⟨_,tab5_2⟩
  ·exact ⟨_,tab5_3⟩
  ·exact absurd hpw (by decide)
  ·exact absurd hpw (by decide)
  ·exact absurd hpw (by decide)
  ·exact absurd hpw (by decide)
  ·exact absurd hpw (by decide)
 ·exact absurd hp (by decide)
 ·rcases hd with rfl | rfl | rfl | rfl | rfl | rfl | rfl
  ·exact ⟨_,tab7_2⟩
  ·exact absurd hpw (by decide)
  ·exact absurd hpw (by decide)
  ·exact absurd hpw (by decide)
  ·exact absurd hpw (by decide)
  ·exact absurd hpw (by decide)
  ·exact absurd hpw (by decide)
 ·exact absurd hp (by decide)
 ·exact absurd hp (by decide)
 ·exact absurd hp (by decide)
 ·rcases hd with rfl | rfl | rfl | rfl | rfl | rfl | rfl
  ·exact ⟨_,tab11_2⟩
  ·exact absurd hpw (by decide)
  ·exact absurd hpw (by decide)
  ·exact absurd hpw (by decide)
  ·exact absurd hpw (by decide)
  ·exact absurd hpw (by decide)
  ·exact absurd hpw (by decide)
 ·exact absurd hp (by decide)
 ·rcases hd with rfl | rfl | rfl | rfl | rfl | rfl | rfl
  ·exact ⟨_,tab13_2⟩
  ·exact absurd hpw (by decide)
  ·exact absurd hpw (by decide)
  ·exact absurd hpw (by decide)
  ·exact absurd hpw (by decide)
  ·exact absurd hpw (by decide)
  ·exact absurd hpw (by decide)
 ·exact absurd hp (by decide)
 ·exact absurd hp (by decide)
 ·exact absurd hp (by decide)
theorem valu_el {P : Int} {m : Nat} (hf : RF P m) {mod : List Int} (hd : Dig P mod) (hl : mod.length=m) : 0≤valu P mod∧valu P mod<P ^ m:=by
 have:=valu_bd (P:=P) (by have:=hf.p2;omega) mod hd
 rwa [hl] at this
theorem fieldRB_eq (P M : Int) (mod : List Int) : fieldRB P M mod=fieldB P M mod:=by
 by_cases hs : shapeB P M mod=true
 ·unfold fieldRB fieldB
  rw [hs,Bool.true_and,Bool.true_and]
  have hs2:=hs
  unfold shapeB at hs2
  simp only [Bool.and_eq_true,bne_iff_ne,ne_eq] at hs2
  obtain ⟨⟨h1,h2⟩,h3⟩:=hs2
  obtain ⟨m,rfl,hrf⟩:=RF.of h1
  obtain ⟨p,rfl⟩ : ∃ p : Nat,P=p:=⟨P.toNat,by have:=hrf.p2;omega⟩
  rw [Int.toNat_natCast] at h2 ⊢
  have hp2 : 2≤p:=by have:=hrf.p2;omega
  have hp256 : p≤256:=by have:=hrf.p256;omega
  have hord:=hrf.order
  have hres:=hrf.res
  obtain ⟨q,hq⟩ : ∃ q : Nat,(p : Int) ^ m=q:=⟨((p : Int) ^ m).toNat,by have:=one_lt_pow hres;omega⟩
  have hq2 : 2≤q:=by have:=one_lt_pow hres;omega
  have hq256 : q≤256:=by have:=hrf.pw;omega
  rw [hord,hq,Int.toNat_natCast]
  have hgen : ∀ x : Nat,0<x→x<q→ordOk (mulS p m mod) q x=true→(genS p m mod q).isEmpty=false:=fun x hx0 hx1 ho=>by
   have hel : ElP (p : Int) m x:=⟨by omega,by rw [hq];omega⟩
   have hg:=(Ord.of hres hel hq256 ho).isGen hres hel hq2
   have:=genTo_some (P:=p) (M:=m) (mod:=mod) (q - 1) 1 x hq2 (by omega) (by omega) hg
   unfold genS
   cases h : genTo p m mod q (q - 1) 1 with
   | nil=>exact absurd h this
   | cons y l=>rfl
  by_cases hm : m=1
  ·subst hm
   have hmod : mod=[]:=by
    rw [if_pos (by simp)] at h3
    exact List.eq_nil_of_length_eq_zero (by simpa using h3)
   subst hmod
   have hr:=List.all_eq_true.1 rootsAll p (List.mem_range.2 (by omega))
   have hp2' : decide (p<2)=false:=by simp;omega
   rw [hp2',h2] at hr
   simp only [Bool.not_true,Bool.false_or,List.any_eq_true] at hr
   obtain ⟨c,hc,hcp⟩:=hr
   have hck:=List.all_eq_true.1 tabP c hc
   have hcp2 : c.1=p:=by simpa using hcp
   unfold chkP at hck
   rw [hcp2] at hck
   simp only [Bool.and_eq_true,decide_eq_true_eq] at hck
   have hqp : q = p := by have : (p : Int) ^ 1 = p := by rw [Int.pow_succ, Int.pow_zero, Int.one_mul]
                          omega
   rw [hgen c.2 hck.1.2 (by omega) (by rw [hqp];exact hck.1.1)]
   rfl
  ·have hM : ¬ (m : Int)=1:=by omega
   rw [if_neg hM] at h3
   simp only [Bool.and_eq_true,decide_eq_true_eq] at h3
   have hlen : mod.length=m:=by omega
   have hdig : Dig (p : Int) mod:=Dig.of_mem (by omega) fun x hx=>by
    have:=List.all_eq_true.1 h3.2 x hx
    simpa using this
   have hv:=valu_el hrf hdig hlen
   obtain ⟨v,hvv⟩ : ∃ v : Nat,valu p mod=v:=⟨(valu p mod).toNat,by omega⟩
   have hdv : digs v p m=mod:=by rw [← hvv,← hlen];exact digs_valu mod hdig
   obtain ⟨l,hl⟩:=tabOf p m h2 hp2 (by have:=hrf.m1;omega) hrf.m8 hrf.pw
   rw [hq,Int.toNat_natCast] at hl
   obtain ⟨c,hc⟩:=chkAll_at hl (v:=v) (by omega)
   have hM' : ((m : Int) == 1)=false:=by simpa using hM
   rw [hM',Bool.false_or]
   unfold chkV at hc
   rw [hdv] at hc
   split at hc
   ·simp only [Bool.and_eq_true,decide_eq_true_eq] at hc
    rw [hc.1.1.1,hgen c.1 hc.1.2 hc.2 hc.1.1.2];rfl
   ·rename_i hc2
    simp only [Bool.and_eq_true,decide_eq_true_eq,Bool.not_eq_true',beq_iff_eq] at hc
    rw [hc.1.1.1.1]
    cases h : (genS p m mod q).isEmpty with
    | true=>rfl
    | false =>
     exfalso
     have hne : genS p m mod q ≠ []:=fun e=>by rw [e] at h;cases h
     obtain ⟨y,hy1,hy2,hy3,hy4⟩:=genS_spec hne
     have g:=Gen.of_isGen (mod:=mod) hres hq.symm ⟨by omega,by omega⟩ hy3
     exact no_zero_div g (a:=(c.1 : Int)) (b:=(c.2 : Int)) ⟨by omega,by omega⟩ ⟨by omega,by omega⟩ (by omega) (by omega) hc.1.1.1.2
 ·have hs' : shapeB P M mod=false:=by simpa using hs
  simp [fieldRB,fieldB,hs']
end

section
theorem invTo_find (f : Int→Int) : ∀ (n : Nat) (y z : Int),y≤z→z<y+n→f z=1→f (invTo f n y)=1∧y≤invTo f n y∧invTo f n y<y+n
 | 0,y,z,h1,h2,_=>by omega
 | n+1,y,z,h1,h2,hz=>by
  unfold invTo
  split
  ·exact ⟨by assumption,by omega,by omega⟩
  ·rename_i hn
   have hne : y ≠ z:=fun e=>hn (e ▸ hz)
   have:=invTo_find f n (y+1) z (by omega) (by omega) hz
   exact ⟨this.1,by omega,by omega⟩
theorem eq_ops {P M : Int} {mod : List Int} (h : fieldB P M mod=true) : ∃ m : Nat,M=m∧ElP P m=(tblOf P m mod).El∧((tblOf P m mod).q : Int)=orderS P M∧Fld (tblOf P m mod).ops (ElP P m)∧Agr (tblOf P m mod).ops (rops P m mod) (ElP P m) ∧
  ∀ p,ElP P m p→p ≠ 0→(invR P m mod p=1 ↔ p=1):=by
 have hF:=fieldB_fld h
 obtain ⟨m,y,rfl,hr,h256,hsh,hq,g⟩:=fieldB_gen h
 have hrf : RF P m:=by
  obtain ⟨m',e,h2,_⟩:=fieldRB_rf (by rw [fieldRB_eq];exact h)
  have : m=m':=by omega
  rw [this];exact h2
 rw [Int.toNat_natCast] at hF
 have e : ElP P m=(tblOf P m mod).El:=by
  funext x;simp only [Tbl.El,tblOf,ElP];rw [hq]
 rw [← e] at hF
 have hq2:=g.q2
 have hmul : ∀ x z,ElP P m x→ElP P m z→(tblOf P m mod).ops.mul x z=mulR P m mod x z:=fun x z hx hz=>by
  rw [mulR_eq hrf];exact g.mulT_eq hx hz
 have hqo : ((orderS P m).toNat : Int)=orderS P m:=by omega
 have hinv : ∀ x,ElP P m x→x ≠ 0→(tblOf P m mod).ops.inv x=invR P m mod x:=by
  intro x hx h0
  have hi:=hF.cl.inv x hx h0
  have hm:=hF.mul_inv x hx h0
  rw [hmul x _ hx hi] at hm
  have hi0 : (tblOf P m mod).ops.inv x ≠ 0:=by
   intro e0
   have h2:=hF.mul_inv x hx h0
   rw [e0,hF.mzero hx] at h2
   exact absurd h2 (by decide)
  have hb1:=hi.1
  have hb2:=hi.2
  obtain ⟨h1,h2,h3⟩:=invTo_find (mulR P m mod x) ((orderS P m).toNat - 1) 1 _ (by omega) (by omega) hm
  have hel : ElP P m (invR P m mod x):=⟨by unfold invR;omega,by unfold invR;omega⟩
  have h4 : (tblOf P m mod).ops.mul x (invR P m mod x)=1:=by rw [hmul x _ hx hel];exact h1
  have h5:=hF.mul_inv x hx h0
  have e1 : (tblOf P m mod).ops.mul ((tblOf P m mod).ops.inv x) ((tblOf P m mod).ops.mul x (invR P m mod x))=invR P m mod x:=by
   rw [← hF.mul_assoc _ x _ hi hx hel,hF.mul_comm _ x hi hx,h5,hF.one_mul _ hel]
  rw [h4,hF.mone hi] at e1
  exact e1
 refine ⟨m,rfl,e,hqo,hF,⟨fun x z _ _=>rfl,hmul,fun x _=>rfl,hinv⟩,fun p hp h0=>?_⟩
 rw [← hinv p hp h0]
 have hi:=hF.cl.inv p hp h0
 have hm:=hF.mul_inv p hp h0
 constructor
 ·intro e1;rw [e1,hF.mone hp] at hm;exact hm
 ·intro e1;rw [e1] at hm hi ⊢;rw [hF.one_mul _ hi] at hm;exact hm
theorem hinv_all {P M : Int} {mod : List Int} (h : fieldRB P M mod=true) : ∀ p,ElP P M.toNat p→p ≠ 0→(invR P M.toNat mod p=1 ↔ p=1):=by
 obtain ⟨m,rfl,_,_,_,_,h6⟩:=eq_ops (by rw [← fieldRB_eq];exact h)
 exact h6
theorem rmatE_eq (P M : Int) (mod : List Int) (cols : Int) (L : List (List Int)) : rmatE P M mod cols L=fmatE P M mod cols L:=by
 unfold rmatE fmatE
 rw [fieldRB_eq]
 split
 ·rename_i h
  obtain ⟨m,rfl,_,hq,_⟩:=eq_ops h
  rw [Int.toNat_natCast,hq]
 ·rfl
theorem canR_eq {P M : Int} {mod : List Int} (h : fieldB P M mod=true) {L : List (List Int)} {m : Nat} (hL : Rws (tblOf P M.toNat mod).El m L) : canR (rops P M.toNat mod) L m=canS (tblOf P M.toNat mod) L m:=by
 obtain ⟨k,rfl,he,_,hF,hA,_⟩:=eq_ops h
 rw [Int.toNat_natCast] at hL ⊢
 rw [← he] at hL
 unfold canR canS
 rw [(elimTo_agr hA hF.cl hL m (Nat.le_refl _)).1]
theorem rspaceE_eq (P M : Int) (mod : List Int) (cols : Int) (L : List (List Int)) : rspaceE P M mod cols L=spaceE P M mod cols L:=by
 unfold rspaceE spaceE
 rw [rmatE_eq]
 split
 ·rename_i h0
  obtain ⟨h1,h2⟩:=fmatE_zero h0
  obtain ⟨m,rfl,_,_,hR⟩:=matE_zero h2
  rw [Int.toNat_natCast,canR_eq h1 hR]
 ·rfl
theorem rcodeE_eq (P M : Int) (mod : List Int) (N : Int) (L : List (List Int)) : rcodeE P M mod N L=codeE P M mod N L:=by
 unfold rcodeE codeE
 rw [fieldRB_eq,rspaceE_eq]
end

section
open Go.RowKit
set_option maxRecDepth 100000 in
set_option maxHeartbeats 1600000 in
theorem rPick_any (av : Option Addr) (nv cv : Nat) (v : List Int) (ao : Option Addr) (no co : Nat) (Q : List Int) (w : World) (hv : Ints w av nv v) (hq : Ints w ao no Q) (hQ : InN nv Q) (hno : no≤1000000) :
  Calls Tryz.prog 206 #[.slice av nv cv,.slice ao no co] w (NewInts w (pickL Q v)):=by
 have Hql:=Lib.hid hq.len
 have hplq:=hq.pl
 have hplv:=hv.pl
 have hmq:=hq.max
 have hmv:=hv.max
 have HQ:=Lib.hid hQ
 have hpk : (pickL Q v).length=no:=by rw [pickL,List.length_map];exact Hql.out
 have Hpk:=Lib.hid hpk
 unfold maxLen at hmq hmv
 clear hQ hpk
 go_enter Tryz.func206,Tryz.ntmps206
 go_wp2_with (at_make;refine wpList_mk rfl _ _ 22 3 rfl (.int .i64 0) 8 Tryz.underlying22 infoInt rfl no rfl rfl (by omega) (hq.max) ?_;intro a1 w1 hown hbel hge hlt)
 go_loopw [6] (fun iv wr=>∃ k : Nat,k≤no∧iv = .int .i64 k ∧
   wr.ownsRow w.heap.size 3 1 (.slice a1 no no) no ((fillTo ((pickL Q v).take k) k no).map (Value.int .i64))∧Below w.heap.size w wr)
  (fun i _=>no - (intOf i).toNat)
 case atStart=>exact ⟨0,Nat.zero_le _,rfl,by simpa [fillTo] using hown,hbel⟩
 case round =>
  clear hown hbel
  obtain ⟨k,hk,rfl,hown,hbel⟩:=hrel
  obtain ⟨hints,hmine⟩:=Ints.own hown
  have hpl1:=hints.pl
  by_cases hlt : k<no
  ·have cq:=(hq.keep hbel).cell k hlt
   have hb:=HQ.out k (by rw [Hql.out];exact hlt)
   obtain ⟨z,hz⟩ : ∃ z : Nat,nth Q k=z:=⟨(nth Q k).toNat,by omega⟩
   have hzn : z<nv:=by omega
   have cz:=(hv.keep hbel).cell z hzn
   have hf:=(hmine (by omega)).2 k hlt
   have hc2:=hints.cell k hlt
   have hB:=(hmine (by omega)).1
   have Hv : Hid (nth (pickL Q v) k=nth v z):=by show _=_;rw [nth_pickL Q v (by rw [Hql.out];exact hlt),hz,Int.toNat_natCast]
   rw [hz] at cq
   clear hz hb
   go_wp2_with fail
   go_roundw
   case rel =>
    refine ⟨k+1,by omega,by go_num,?_,hbel.setCell hB _⟩
    have h:=own_set hown k hlt (.int .i64 (nth v z))
    rw [← List.map_set,fillTo_set _ _ _ _ (by rw [List.length_take,Hpk.out];omega) hlt] at h
    rw [List.take_succ_eq_append_getElem (by rw [Hpk.out];omega),← nth_getElem,Hv.out]
    exact h
   case measure=>simp [intOf] <;> omega
  ·obtain rfl : k=no:=by omega
   have hfin : fillTo ((pickL Q v).take k) k k=pickL Q v:=by rw [fillTo_all,List.take_of_length_le (by rw [Hpk.out];exact Nat.le_refl _)]
   rw [hfin] at hown
   clear hfin
   go_wp2_with fail
   go_ret
   exact ⟨a1,k,by rw [Hpk.out];rfl,by rw [Hpk.out];exact hown,hbel⟩
end

section
section
variable {O : FOps} {k : Nat}
end
section
variable {O : FOps} {El : Int→Prop} {m : Nat}
theorem elim_gr (F : Fld O El) {L : List (List Int)} (hL : Rws El m L) {Q : List Int} (hQ : InN m Q) : (elimTo O (L.map (pickL Q)) Q.length).2.length=(grS O L Q).length:=by
 refine Rk.same (col_clo F hL) (pick_rk F hL hQ) (grS_rk F hL Q) fun x=>?_
 rw [mem_grL,List.mem_map]
 constructor
 ·rintro ⟨j,hj,rfl⟩;exact ⟨j,List.mem_range.1 hj,rfl⟩
 ·rintro ⟨j,hj,e⟩;exact ⟨j,List.mem_range.2 hj,e⟩
end
end

section
open Go.RowKit
set_option maxRecDepth 100000 in
set_option maxHeartbeats 4000000 in
theorem rKeep_any (m : Nat) (a : Option Addr) (n c : Nat) (L : List (List Int)) (ao : Option Addr) (no co : Nat) (Q : List Int) (w : World) (hi : Mat w a n L) (hq : Ints w ao no Q) (hL : ∀ r ∈ L,r.length=m) (hQ : InN m Q) (hn : n≤1000000) (hno : no≤1000000) :
  Calls Tryz.prog 171 #[.slice a n c,.slice ao no co] w fun e w'=>∃ a1 c1 R,e = .returned (.slice a1 n c1)∧OMat w' w.heap.size a1 n c1 R (L.map (pickL Q))∧Below w.heap.size w w':=by
 have Hlen:=Lib.hid hi.len
 have hpla:=hi.pl
 have HLl:=Lib.hid hL
 have HQ:=Lib.hid hQ
 obtain ⟨L2,hL2⟩ : ∃ L2,L.map (pickL Q)=L2:=⟨_,rfl⟩
 have hl2 : L2.length=n:=by rw [← hL2,List.length_map];exact Hlen.out
 have Hl2:=Lib.hid hl2
 have HLk : Hid (∀ k,k<n→nthR L2 k=pickL Q (nthR L k)):=fun k hk=>by rw [← hL2];exact nthR_map _ L (by rw [Hlen.out];exact hk)
 rw [hL2]
 clear hL2 hl2 hL hQ
 go_enter Tryz.func171,Tryz.ntmps171
 go_wp2_with fail
 go_loopw [5,6] (fun sv iv wr=>∃ (k : Nat) (a1 : Option Addr) (c1 : Nat),k≤n∧iv = .int .i64 k∧sv = .slice a1 k c1∧(∃ R,OMat wr w.heap.size a1 k c1 R (L2.take k))∧Below w.heap.size w wr) (fun _ iv _=>n - (intOf iv).toNat)
 case atStart=>exact ⟨0,none,0,Nat.zero_le _,rfl,rfl,⟨[],by simpa using OMat.empty w w.heap.size⟩,Below.refl _ _⟩
 case round =>
  obtain ⟨k,a1,c1,hk,rfl,rfl,⟨R,hO⟩,hbr⟩:=hrel
  by_cases hlt : k<n
  ·obtain ⟨ra,rn,rc,hcell,hrow⟩:=(hi.keep hbr).cell k hlt
   have hkL : k<L.length:=by rw [Hlen.out];exact hlt
   have hrl : rn=m:=by rw [← hrow.len,nthR_getElem hkL];exact HLl.out _ (List.getElem_mem hkL)
   have Htk : Hid (L2.take (k+1)=L2.take k ++ [pickL Q (nthR L k)]):=by show _=_;rw [List.take_succ_eq_append_getElem (by rw [Hl2.out];exact hlt),← HLk.out k hlt,nthR_getElem (by rw [Hl2.out];exact hlt)]
   obtain ⟨l,hl⟩ : ∃ l,nthR L k=l:=⟨_,rfl⟩
   rw [hl] at Htk hrow
   have hpk:=rPick_any ra rn rc l ao no co Q wr hrow (hq.keep hbr) (by rw [hrl];exact HQ.out) hno
   have hsz:=hbr.size
   clear hl hrl
   go_wp2_with fail
   refine hpk.mono ?_
   rintro e w3 ⟨a3,c3,rfl,hown3,hb3⟩
   have hO3:=hO.keep (Below.next hb3 (below1 w3 (.cells #[.slice a3 (pickL Q l).length c3] 22)))
   have hs3 : w.heap.size≤(w3.alloc (.cells #[.slice a3 (pickL Q l).length c3] 22)).heap.size:=by have h1:=hb3.size;simp;omega
   clear hpk
   go_wp2_with (at_builtin;refine wpList_push rfl _ _ 25 22 rfl (.slice none 0 0) 24 Tryz.underlying25 infoInts rfl w.heap.size a1 k c1 _ rfl hO3.own ⟨w3.heap.size,0,none⟩ 1 (.slice a3 (pickL Q l).length c3) rfl (cell_new w3 _ _) rfl (by omega) (by unfold maxLen;omega) hs3 ?_;intro a5 c5 w5 hown5 hgr5 hap5)
   go_roundw
   case rel =>
    have hb4 : Below wr.heap.size wr (w3.alloc (.cells #[.slice a3 (pickL Q l).length c3] 22)):=Below.next hb3 (below1 _ _)
    have hown4 : (w3.alloc (.cells #[.slice a3 (pickL Q l).length c3] 22)).ownsRow w.heap.size 3 1 (.slice a3 (pickL Q l).length c3) (pickL Q l).length ((pickL Q l).map (Value.int .i64)) :=
     own_mono (own_keep hown3 (below1 _ _)) hsz
    have hra : a3 ≠ none→¬ OIn a1 R (ablk a3):=fun h0 hI=>by
     have h1:=(own_ne hown3 h0).1
     have h2:=(hO.lt _ hI).2
     omega
    have hP:=OMat.push hO3 hown4 hra hown5 hgr5 hap5
    have hb5 : Below w.heap.size w w5:=Below.app (Below.next hbr hb4) hO3.own hgr5 (Nat.le_refl _) (Nat.le_trans hsz hb4.size)
    exact ⟨k+1,a5,c5,by omega,by go_num,rfl,⟨_,by rw [Htk.out];exact hP⟩,hb5⟩
   case measure=>simp [intOf] <;> omega
  ·obtain rfl : k=n:=by omega
   rw [List.take_of_length_le (by rw [Hl2.out];exact Nat.le_refl _)] at hO
   have HO:=Lib.hid hO
   clear hO
   go_wp2_with fail
   go_ret
   exact ⟨a1,c1,R,rfl,HO.out,hbr⟩
set_option maxRecDepth 100000 in
set_option maxHeartbeats 4000000 in
theorem rOf25_any (P M : Int) (am : Option Addr) (mn cm : Nat) (mod : List Int) (m : Nat) (a : Option Addr) (n c : Nat) (L : List (List Int)) (ao : Option Addr) (no co : Nat) (Q : List Int) (w : World) (hmod : Ints w am mn mod) (hi : Mat w a n L) (hq : Ints w ao no Q)
  (hE : codeE P M mod m L=0) (hQ : InN m Q) (hno : no≤1000000) :
  Calls Tryz.prog 124 #[.agg #[.int .i64 P,.int .i64 M,.slice am mn cm],.slice a n c,.slice ao no co] w fun e w'=>e = .returned (.int .i64 (grS (tblOf P M.toNat mod).ops L Q).length)∧Below w.heap.size w w':=by
 have hql:=hq.len
 obtain ⟨N',em,hm1,hm64,F,hR⟩:=codeE_fld hE
 obtain rfl : m=N':=by omega
 have hn : n≤256:=by rw [← hi.len];exact (codeE_rws hE).choose_spec.2.2.2.1
 have hB:=(codeE_zero hE).1
 have hinv:=hinv_all (P:=P) (M:=M) (mod:=mod) (by rw [fieldRB_eq];exact hB)
 have hgr:=elim_gr F hR hQ
 have hpr:=pick_rws hR hQ
 rw [hql] at hgr hpr
 obtain ⟨k,rfl,hel,_,hF,hA,_⟩:=eq_ops hB
 obtain ⟨k',e2,hrf,hmods⟩:=fieldRB_rf (by rw [fieldRB_eq];exact hB)
 obtain rfl : k=k':=by omega
 rw [Int.toNat_natCast] at hgr hpr hinv hR ⊢
 have hag:=(elimTo_agr hA hF.cl (by rw [hel];exact hpr) no (Nat.le_refl _)).1
 rw [hag] at hgr
 rw [← hel] at hpr
 have HKp : Hid (∀ V,Below w.heap.size w V→Calls Tryz.prog 171 #[.slice a n c,.slice ao no co] V fun e w'=>Below V.heap.size V w'∧∃ a1 c1,e = .returned (.slice a1 n c1)∧Mat w' a1 n (L.map (pickL Q))):=fun V hV=>by
  refine (rKeep_any m a n c L ao no co Q V (hi.keep hV) (hq.keep hV) (fun r hr=>(hR r hr).1) hQ (by omega) hno).mono ?_
  rintro e w' ⟨a1,c1,R,rfl,hO,hb⟩
  exact ⟨hb,a1,c1,rfl,hO.mat⟩
 have HCn : Hid (∀ V a1 c1,Below w.heap.size w V→Mat V a1 n (L.map (pickL Q))→∀ V2,Below V.heap.size V V2→Calls Tryz.prog 132 #[.agg #[.int .i64 P,.int .i64 k,.slice am mn cm],.slice a1 n c1,.int .i64 no] V2 fun e w' =>
   Below V2.heap.size V2 w'∧∃ v ap cp,e = .returned (.tuple #[v,.slice ap (grS (tblOf P k mod).ops L Q).length cp])):=fun V a1 c1 hV hM V2 hV2=>by
  refine (rCanon_any P k am mn cm mod a1 n c1 no (L.map (pickL Q)) V2 ⟨hrf,hmods V2 am mn (hmod.keep (Below.next hV hV2))⟩ (hM.keep hV2) hpr hno (by omega) hinv).mono ?_
  rintro e w' ⟨a4,c4,ap,cp,rfl,_,_,hb⟩
  exact ⟨hb,_,ap,cp,by rw [← hgr]⟩
 obtain ⟨r,hr⟩ : ∃ r,(grS (tblOf P k mod).ops L Q).length=r:=⟨_,rfl⟩
 rw [hr] at HCn ⊢
 clear hE em F hR hB hinv hgr hpr hel hF hA e2 hrf hmods hag hr hQ hql hmod hi hq
 go_enter Tryz.func124,Tryz.ntmps124
 go_upto_region 1 with fail
 obtain ⟨W,hW⟩ : ∃ W : World,W=w.alloc (.cells #[.int .i64 P,.int .i64 k,.slice am mn cm] 24):=⟨_,rfl⟩
 rw [← hW]
 have hbW : Below w.heap.size w W:=by rw [hW];exact below1 _ _
 have x0 : Box W w.heap.size [.int .i64 P,.int .i64 k,.slice am mn cm]:=by rw [hW];exact Box.new _ _ _ rfl
 have hS : ∀ V,Below W.heap.size W V→V.cell? ⟨w.heap.size,0,none⟩=some (.int .i64 P)∧V.cell? ⟨w.heap.size,1,none⟩=some (.int .i64 k)∧V.cell? ⟨w.heap.size,2,none⟩=some (.slice am mn cm)∧Below W.heap.size W V:=fun V hV=>by
  have x1:=x0.keep hV
  exact ⟨x1.cell 0 rfl,x1.cell 1 rfl,x1.cell 2 rfl,hV⟩
 have HS:=Lib.hid hS
 have HbW:=Lib.hid hbW
 clear hW x0 hS hbW
 go_region_held3 (fun V=>V.cell? ⟨w.heap.size,0,none⟩=some (.int .i64 P)∧V.cell? ⟨w.heap.size,1,none⟩=some (.int .i64 k)∧V.cell? ⟨w.heap.size,2,none⟩=some (.slice am mn cm)∧Below W.heap.size W V)
  ((refine HS.out _ ?_;first | exact (Below.refl _ _).drew | (go_split_ands;exact Below.next (by assumption) (by assumption))))
  (first
   | (go_at_call 171;((with_reducible refine (HKp.out _ (Below.next HbW.out (by go_split_ands;assumption))).mono ?_);rintro e w6 ⟨hb6,a6,c6,rfl,hM6⟩;have hb7 : Below W.heap.size W w6:=(by go_split_ands;exact Below.next (by assumption) hb6);have Hr2:=Lib.hid (HCn.out w6 a6 c6 (Below.next HbW.out hb7) hM6);clear hM6))
   | (go_at_call 132;((with_reducible refine (Hr2.out _ (by first | exact Below.refl _ _ | exact hb4)).mono ?_);rintro e w8 ⟨hb8,v8,ap8,cp8,rfl⟩)))
 all_goals (
  go_wp2_with fail
  go_ret
  exact ⟨rfl,Below.next HbW.out (by go_split_ands;assumption)⟩)
end

section
open Go.RowKit
theorem rCheck_any (P M : Int) (am : Option Addr) (mn cm : Nat) (mod : List Int) (N : Int) (a : Option Addr) (n c : Nat) (L : List (List Int)) (w : World) (hmod : Ints w am mn mod) (hi : Mat w a n L) :
  Calls Tryz.prog 47 #[.agg #[.int .i64 P,.int .i64 M,.slice am mn cm,.int .i64 N,.slice a n c]] w fun e w'=>e = .returned (.int .i64 (codeE P M mod N L))∧Below w.heap.size w w':=by
 rw [← rcodeE_eq]
 exact rCodeCheck_any P M am mn cm mod N a n c L w hmod hi hinv_all
end

section
open Go.RowKit
theorem set_in {m : Nat} {Q : List Int} (h : okSet m Q=true) : InN m Q:=fun j hj=>⟨(okSet_at h hj).1,(okSet_at h hj).2.1⟩
end

section
open Go.RowKit
theorem inN_of {m : Nat} {Q : List Int} (h : ∀ x ∈ Q,0≤x∧x<(m : Int)) : InN m Q:=fun j hj=>h _ (nth_mem hj)
end

section
open Go.RowKit
def inTo (l : List Int) (v : Int) (k : Nat) : Bool:=decide (v ∈ l.take k)
theorem inTo_succ {l : List Int} {k : Nat} (v : Int) (h : k<l.length) : inTo l v (k+1)=(inTo l v k || decide (nth l k=v)):=by
 unfold inTo
 rw [List.take_succ_eq_append_getElem h,nth_getElem h]
 simp only [List.mem_append,List.mem_singleton,Bool.decide_or]
 congr 1
 simp [eq_comm]
theorem inTo_all {l : List Int} {n : Nat} (v : Int) (h : l.length=n) : inTo l v n=decide (v ∈ l):=by
 unfold inTo
 rw [List.take_of_length_le (by omega)]
set_option maxRecDepth 100000 in
set_option maxHeartbeats 3200000 in
theorem rOthers10_any (a : Option Addr) (n c : Nat) (l : List Int) (m : Nat) (w : World) (h : Ints w a n l) (hm : m≤1000) :
  Calls Tryz.prog 84 #[.slice a n c,.int .i64 m] w fun e w'=>∃ a1 c1,e = .returned (.slice a1 (frTo false l m).length c1) ∧
   w'.ownsRow w.heap.size 3 1 (.slice a1 (frTo false l m).length c1) (frTo false l m).length ((frTo false l m).map (Value.int .i64))∧Below w.heap.size w w':=by
 have Hl:=Lib.hid h.len
 have hpl:=h.pl
 have hmax:=h.max
 unfold maxLen at hmax
 obtain ⟨G,hG⟩ : ∃ G,frTo false l=G:=⟨_,rfl⟩
 have HG1 : Hid (∀ k : Nat,decide ((k : Int) ∈ l)=false→G (k+1)=G k ++ [(k : Int)]):=fun k h=>by rw [← hG,frTo,if_pos h]
 have HG2 : Hid (∀ k : Nat,decide ((k : Int) ∈ l)=true→G (k+1)=G k):=fun k h=>by rw [← hG,frTo,if_neg (by rw [h];decide)]
 have HGl : Hid (∀ k,(G k).length≤k):=fun k=>by rw [← hG];exact frTo_len _ _ _
 have HG0 : Hid (G 0=[]):=by rw [← hG];rfl
 rw [hG]
 clear hG
 go_enter Tryz.func84,Tryz.ntmps84
 go_wp2_with fail
 go_loopw [5,6] (fun ov iv wr=>∃ (i g : Nat) (a1 : Option Addr) (c1 : Nat),i≤m∧iv = .int .i64 i∧Hid ((G i).length=g)∧ov = .slice a1 g c1∧wr.ownsRow w.heap.size 3 1 (.slice a1 g c1) g ((G i).map (Value.int .i64))∧Below w.heap.size w wr) (fun _ iv _=>m - (intOf iv).toNat)
 case atStart=>exact ⟨0,0,none,0,Nat.zero_le _,rfl,by show _=_;rw [HG0.out];rfl,rfl,by rw [HG0.out];exact own_none,Below.refl _ _⟩
 case round =>
  obtain ⟨i,g,a1,c1,hi,rfl,Hg,rfl,hown,hbr⟩:=hrel
  by_cases hlt : i<m
  ·have hiW:=h.keep hbr
   have hgi : g≤1000:=by have h1:=HGl.out i;rw [Hg.out] at h1;omega
   generalize wr=X1 at *
   go_wp2_with fail
   go_loopw [7,8] (fun bv kv ws=>∃ k : Nat,k≤n∧kv = .int .i64 k∧bv = .bool (inTo l i k)∧ws=X1) (fun _ kv _=>n - (intOf kv).toNat)
   case atStart=>exact ⟨0,Nat.zero_le _,rfl,by simp [inTo],rfl⟩
   case round =>
    obtain ⟨k,hk,rfl,rfl,rfl⟩:=hrel
    by_cases hltk : k<n
    ·have ck:=hiW.cell k hltk
     have Hs:=Lib.hid (inTo_succ (l:=l) (i : Int) (show k<l.length by rw [Hl.out];exact hltk))
     obtain ⟨b,hb⟩ : ∃ b,inTo l i k=b:=⟨_,rfl⟩
     rw [hb] at Hs ⊢
     clear hb
     cases b
     ·by_cases he : nth l k=i
      ·have he' : (nth l k == (i : Int))=true:=by rw [he];simp
       have Hn : Hid (inTo l i (k+1)=true):=by show _=_;rw [Hs.out,decide_eq_true he];rfl
       clear he
       go_wp2_with fail
       go_roundw
       case rel=>exact ⟨k+1,by omega,by go_num,by rw [Hn.out],by simp⟩
       case measure=>simp [intOf] <;> omega
      ·have he' : (nth l k == (i : Int))=false:=by simpa using he
       have Hn : Hid (inTo l i (k+1)=false):=by show _=_;rw [Hs.out,decide_eq_false he];rfl
       clear he
       go_wp2_with fail
       go_roundw
       case rel=>exact ⟨k+1,by omega,by go_num,by rw [Hn.out],by simp⟩
       case measure=>simp [intOf] <;> omega
     ·have Hn : Hid (inTo l i (k+1)=true):=by show _=_;rw [Hs.out];rfl
      go_wp2_with fail
      go_roundw
      case rel=>exact ⟨k+1,by omega,by go_num,by rw [Hn.out],by simp⟩
      case measure=>simp [intOf] <;> omega
    ·obtain rfl : k=n:=by omega
     rw [inTo_all (i : Int) Hl.out]
     have hH1:=HG1.out i
     have hH2:=HG2.out i
     obtain ⟨b,hb⟩ : ∃ b,decide ((i : Int) ∈ l)=b:=⟨_,rfl⟩
     rw [hb] at hH1 hH2 ⊢
     clear hb
     cases b
     ·have Hn:=Lib.hid (hH1 rfl)
      clear hH1 hH2
      have hsz:=hbr.size
      have hcn:=cell_new wr (.int .i64 i) 3
      have hbn:=below1 wr (.cells #[.int .i64 i] 3)
      go_wp2_with (at_builtin;refine wpList_push rfl _ _ 22 3 rfl (.int .i64 0) 8 Tryz.underlying22 infoInt rfl w.heap.size a1 g c1 _ rfl (hown.alloc _) ⟨wr.heap.size,0,none⟩ 1 (.int .i64 i) rfl hcn rfl (by omega) (by unfold maxLen;omega) (by simp;omega) ?_;intro a5 c5 w5 hown5 hgr5 hap5)
      go_roundw
      case rel =>
       refine ⟨i+1,g+1,a5,c5,by omega,by go_num,by show _=_;rw [Hn.out,List.length_append,Hg.out];rfl,rfl,by rw [Hn.out];simpa using hown5,Below.app (Below.allocN hbr _) (hown.alloc _) hgr5 (Nat.le_refl _) (Below.allocN hbr _).size⟩
      case measure=>simp [intOf] <;> omega
     ·have Hn:=Lib.hid (hH2 rfl)
      clear hH1 hH2
      go_wp2_with fail
      go_roundw
      case rel=>exact ⟨i+1,g,a1,c1,by omega,by go_num,by show _=_;rw [Hn.out];exact Hg.out,rfl,by rw [Hn.out];exact hown,hbr⟩
      case measure=>simp [intOf] <;> omega
  ·obtain rfl : i=m:=by omega
   have HF:=Lib.hid (And.intro hown hbr)
   clear hown hbr
   go_wp2_with fail
   go_ret
   rw [Hg.out]
   exact ⟨a1,c1,rfl,HF.out.1,HF.out.2⟩
end

section
theorem kids_mem {C : Clm} {s z t : List Int} {x : Int} (h : x ∈ kidsS C s z t) : x ∈ t∧¬ x ∈ z∧s.length<C.W:=by
 unfold kidsS at h
 split at h
 ·rename_i hl
  rw [List.mem_filter] at h
  exact ⟨h.1,by simpa using h.2,hl⟩
 ·simp at h
end

section
open Go.RowKit
theorem rIn26_any (a : Option Addr) (n c : Nat) (l : List Int) (v : Int) (w : World) (h : Ints w a n l) :
  Calls Tryz.prog 211 #[.slice a n c,.int .i64 v] w fun e w'=>e = .returned (.bool (decide (v ∈ l)))∧w'=w:=by
 have Hl:=Lib.hid h.len
 have hpl:=h.pl
 have hmax:=h.max
 unfold maxLen at hmax
 go_enter Tryz.func211,Tryz.ntmps211
 go_wp2_with fail
 go_loopw [5] (fun iv wr=>∃ k : Nat,k≤n∧iv = .int .i64 k∧Hid (inTo l v k=false)∧wr=w) (fun i _=>n - (intOf i).toNat)
 case atStart=>exact ⟨0,Nat.zero_le _,rfl,by show _=_;simp [inTo],rfl⟩
 case round =>
  obtain ⟨k,hk,rfl,hno,rfl⟩:=hrel
  by_cases hlt : k<n
  ·have c1:=h.cell k hlt
   have Hs:=Lib.hid (inTo_succ (l:=l) v (show k<l.length by rw [Hl.out];exact hlt))
   by_cases he : nth l k=v
   ·have he' : (nth l k == v)=true:=by rw [he];simp
    have Hm : Hid (decide (v ∈ l)=true):=by show _=_;rw [← he];simpa using nth_mem (show k<l.length by rw [Hl.out];exact hlt)
    clear he
    go_wp2_with fail
    go_ret
    exact ⟨ret_bool Hm.out.symm,rfl⟩
   ·have he' : (nth l k == v)=false:=by simpa using he
    have Hn2 : Hid (inTo l v (k+1)=false):=by show _=_;rw [Hs.out,hno.out,decide_eq_false he];rfl
    clear he
    go_wp2_with fail
    go_roundw
    case rel=>exact ⟨k+1,by omega,by go_num,Hn2.out,by simp⟩
    case measure=>simp [intOf] <;> omega
  ·obtain rfl : k=n:=by omega
   have Hm : Hid (decide (v ∈ l)=false):=by show _=_;rw [← inTo_all v Hl.out];exact hno.out
   go_wp2_with fail
   go_ret
   exact ⟨ret_bool Hm.out.symm,rfl⟩
theorem ints_one (l : List Int) : ∀ u ∈ l.map (Value.int .i64),u.oneCell'=true:=fun u hu=>by
 obtain ⟨x,_,rfl⟩:=List.mem_map.1 hu
 rfl
set_option maxRecDepth 100000 in
set_option maxHeartbeats 1600000 in
theorem rWith26_any (a : Option Addr) (n c : Nat) (l : List Int) (b : Option Addr) (m cb : Nat) (l2 : List Int) (w : World) (ha : Ints w a n l) (hb : Ints w b m l2) (hn : n≤1000000) (hm : m≤1000000) :
  Calls Tryz.prog 177 #[.slice a n c,.slice b m cb] w fun e w'=>∃ a2 c2,e = .returned (.slice a2 (n+m) c2)∧w'.ownsRow w.heap.size 3 1 (.slice a2 (n+m) c2) (n+m) ((l ++ l2).map (Value.int .i64))∧Below w.heap.size w w':=by
 have hb1:=below1 w (.cells #[] 3)
 have ha1:=ha.keep hb1
 have hb2:=hb.keep hb1
 have hal:=ha.len
 have hbl:=hb.len
 have hO:=own_emp w 3
 go_enter Tryz.func177,Tryz.ntmps177
 go_wp2_with (at_builtin;first
  | (refine wpList_appAll rfl _ _ 22 3 rfl (.int .i64 0) 8 Tryz.underlying22 infoInt rfl w.heap.size _ 0 0 [] rfl hO a n c (l.map (Value.int .i64)) rfl ha1.pl (by simp [hal]) (Ints.news ha1) (ints_one l) (by omega) (by unfold maxLen;omega) hb1.size ?_;intro a1 c1 w1 hown1 hgr1 hap1;rw [Nat.zero_add] at hown1 ⊢;rw [List.nil_append] at hown1;have hbw1 : Below w.heap.size w w1:=Below.app hb1 hO hgr1 (Nat.le_refl _) hb1.size;have hb3:=hb.keep hbw1)
  | (refine wpList_appAll rfl _ _ 22 3 rfl (.int .i64 0) 8 Tryz.underlying22 infoInt rfl w.heap.size a1 n c1 (l.map (Value.int .i64)) rfl hown1 b m cb (l2.map (Value.int .i64)) rfl hb3.pl (by simp [hbl]) (Ints.news hb3) (ints_one l2) (by omega) (by unfold maxLen;omega) hbw1.size ?_;intro a2 c2 w2 hown2 hgr2 hap2))
 go_ret
 exact ⟨a2,c2,rfl,by rw [List.map_append];exact hown2,Below.app hbw1 hown1 hgr2 (Nat.le_refl _) hbw1.size⟩
def rclV (P M : Int) (am : Option Addr) (mn cm : Nat) (m : Nat) (a : Option Addr) (n c : Nat) (ay : Option Addr) (ny cy : Nat) (C : Clm) : Value :=
 .agg #[.int .i64 P,.int .i64 M,.slice am mn cm,.int .i64 m,.slice a n c,.int .i64 C.M,.int .i64 C.W,.slice ay ny cy,.bool C.cos]
set_option maxRecDepth 100000 in
set_option maxHeartbeats 3200000 in
theorem rKids26_any (P M : Int) (am : Option Addr) (mn cm : Nat) (m : Nat) (a : Option Addr) (n c : Nat) (ay : Option Addr) (ny cy : Nat) (C : Clm) (sa : Option Addr) (ns cs : Nat) (s : List Int) (az : Option Addr) (nz cz : Nat) (z : List Int) (at' : Option Addr) (nt ct : Nat) (t : List Int) (w : World)
  (hs : Ints w sa ns s) (hz : Ints w az nz z) (ht : Ints w at' nt t) (hnt : nt≤1000000) :
  Calls Tryz.prog 181 #[rclV P M am mn cm m a n c ay ny cy C,.slice sa ns cs,.slice az nz cz,.slice at' nt ct] w (NewInts w (kidsS C s z t)):=by
 have Htl:=Lib.hid ht.len
 have Hsl:=Lib.hid hs.len
 have hplt:=ht.pl
 obtain ⟨K,hK⟩ : ∃ K,kidsS C s z t=K:=⟨_,rfl⟩
 rw [hK]
 have HK:=Lib.hid hK
 unfold rclV
 clear hK
 go_enter Tryz.func181,Tryz.ntmps181
 go_wp2_with fail
 obtain ⟨U,hU⟩ : ∃ U : World,U=w.alloc (.cells #[.int .i64 P,.int .i64 M,.slice am mn cm,.int .i64 m,.slice a n c,.int .i64 C.M,.int .i64 C.W,.slice ay ny cy,.bool C.cos] 155):=⟨_,rfl⟩
 rw [← hU]
 have hbU : Below w.heap.size w U:=by rw [hU];exact below1 _ _
 have x0 : Box U w.heap.size [.int .i64 P,.int .i64 M,.slice am mn cm,.int .i64 m,.slice a n c,.int .i64 C.M,.int .i64 C.W,.slice ay ny cy,.bool C.cos]:=by rw [hU];exact Box.new _ _ _ rfl
 have HX:=Lib.hid x0
 have hsU : w.heap.size<U.heap.size:=x0.1
 clear hU x0
 go_loopw [9,10] (fun qv iv wr=>∃ (k : Nat) (aq : Option Addr) (cq : Nat) (out : List Int),k≤nt∧iv = .int .i64 k∧qv = .slice aq out.length cq∧Hid (K=out ++ (if s.length<C.W then (t.drop k).filter (fun x=>decide (¬ x ∈ z)) else []))∧out.length≤k ∧
   wr.ownsRow U.heap.size 3 1 (.slice aq out.length cq) out.length (out.map (Value.int .i64))∧Below U.heap.size U wr)
  (fun _ iv _=>nt - (intOf iv).toNat)
 case atStart=>exact ⟨0,none,0,[],Nat.zero_le _,rfl,rfl,(show _=_ by rw [← HK.out,kidsS,List.drop_zero,List.nil_append]),Nat.zero_le _,own_none,Below.refl _ _⟩
 case round =>
  obtain ⟨k,aq,cq,out,hk,rfl,rfl,hst,hln,hop,hbr⟩:=hrel
  generalize wr=V at *
  have c6:=(HX.out.keep hbr).cell 6 rfl
  by_cases hlt : k<nt
  ·by_cases hW : ns<C.W
   ·have d1 : decide ((ns : Int)<(C.W : Int))=true:=by simp;omega
    have ck:=(ht.keep (Below.next hbU hbr)).cell k hlt
    have hktl : k<t.length:=by rw [Htl.out];exact hlt
    have Hdk:=Lib.hid (show t.drop k=nth t k :: t.drop (k+1) by rw [nth_getElem hktl];exact List.drop_eq_getElem_cons hktl)
    have HI:=Lib.hid (rIn26_any az nz cz z (nth t k) V (hz.keep (Below.next hbU hbr)))
    have hlsW : s.length<C.W:=by rw [Hsl.out];exact hW
    by_cases hm1 : nth t k ∈ z
    ·have hmd : decide (nth t k ∈ z)=true:=by simpa using hm1
     rw [hmd] at HI
     have Hst : Hid (K=out ++ (if s.length<C.W then (t.drop (k+1)).filter (fun x=>decide (¬ x ∈ z)) else [])):=by
      show _=_
      rw [hst.out,Hdk.out,if_pos hlsW,if_pos hlsW,List.filter_cons_of_neg (by simpa using hm1)]
     clear hm1 hmd hlsW
     go_wp2_with fail
     refine HI.out.mono ?_
     rintro e w6 ⟨rfl,rfl⟩
     go_wp2_with fail
     go_roundw
     case rel=>exact ⟨k+1,aq,cq,out,by omega,by go_num,rfl,Hst.out,by omega,hop,hbr⟩
     case measure=>simp [intOf] <;> omega
    ·have hmd : decide (nth t k ∈ z)=false:=by simpa using hm1
     rw [hmd] at HI
     have Hst : Hid (K=(out ++ [nth t k]) ++ (if s.length<C.W then (t.drop (k+1)).filter (fun x=>decide (¬ x ∈ z)) else [])):=by
      show _=_
      rw [hst.out,Hdk.out,if_pos hlsW,if_pos hlsW,List.filter_cons_of_pos (by simpa using hm1),List.append_assoc];rfl
     obtain ⟨x,hx⟩ : ∃ x,nth t k=x:=⟨_,rfl⟩
     rw [hx] at ck Hst HI
     have hcn:=cell_new V (.int .i64 x) 3
     have hbn:=below1 V (.cells #[.int .i64 x] 3)
     have hszV:=hbr.size
     clear hm1 hmd hlsW hx
     go_wp2_with fail
     refine HI.out.mono ?_
     rintro e w6 ⟨rfl,rfl⟩
     go_wp2_with (at_builtin;refine wpList_push rfl _ _ 22 3 rfl (.int .i64 0) 8 Tryz.underlying22 infoInt rfl U.heap.size aq out.length cq _ rfl (hop.alloc _) ⟨w6.heap.size,0,none⟩ 1 (.int .i64 x) rfl hcn rfl (by omega) (by unfold maxLen;omega) (by simp;omega) ?_;intro a5 c5 w5 hown5 hgr5 hap5)
     go_roundw
     case rel =>
      have hb5 : Below U.heap.size U w5:=Below.app (Below.trans hbr (hbn.mono hszV)) (hop.alloc _) hgr5 (Nat.le_refl _) (Nat.le_trans hszV hbn.size)
      exact ⟨k+1,a5,c5,out ++ [x],by omega,by go_num,by simp,Hst.out,by simp;omega,by simpa using hown5,hb5⟩
     case measure=>simp [intOf] <;> omega
   ·have d1 : decide ((ns : Int)<(C.W : Int))=false:=by simp;omega
    have Ho : Hid (K=out):=by show _=_;rw [hst.out,if_neg (by rw [Hsl.out];exact hW),List.append_nil]
    have hop2:=own_mono hop hbU.size
    have hF:=Below.next hbU hbr
    go_wp2_with fail
    go_ret
    exact ⟨aq,cq,by rw [Ho.out];rfl,by rw [Ho.out];exact hop2,hF⟩
  ·obtain rfl : k=nt:=by omega
   have Ho : Hid (K=out):=by
    show _=_
    rw [hst.out,List.drop_of_length_le (by rw [Htl.out];exact Nat.le_refl _)]
    split <;> simp
   have hop2:=own_mono hop hbU.size
   have hF:=Below.next hbU hbr
   go_wp2_with fail
   go_ret
   exact ⟨aq,cq,by rw [Ho.out];rfl,by rw [Ho.out];exact hop2,hF⟩
end

section
open Go.RowKit
set_option maxRecDepth 100000 in
set_option maxHeartbeats 3200000 in
theorem rRight26_any (P M : Int) (am : Option Addr) (mn cm : Nat) (mod : List Int) (m : Nat) (a : Option Addr) (n c : Nat) (L : List (List Int)) (ay : Option Addr) (ny cy : Nat) (C : Clm) (sa : Option Addr) (ns cs : Nat) (s : List Int) (at' : Option Addr) (nt ct : Nat) (t : List Int) (w : World)
  (hmod : Ints w am mn mod) (hi : Mat w a n L) (hE : codeE P M mod m L=0) (hc : C.cos=false) (hs : Ints w sa ns s) (ht : Ints w at' nt t) :
  Calls Tryz.prog 180 #[rclV P M am mn cm m a n c ay ny cy C,.slice sa ns cs,.slice at' nt ct] w fun e w'=>e = .returned (.bool (rightS (tblOf P M.toNat mod).ops L m C s t))∧Below w.heap.size w w':=by
 have Htl:=Lib.hid ht.len
 have hplt:=ht.pl
 have hmax:=ht.max
 unfold maxLen at hmax
 obtain ⟨RS,hRS⟩ : ∃ RS,rightS (tblOf P M.toNat mod).ops L m C s t=RS:=⟨_,rfl⟩
 rw [hRS]
 have HRS : Hid (RS=(setOk m s t && (decide ((grS (tblOf P M.toNat mod).ops L t).length=t.length) && decide (t.length=C.M)))):=by
  show _=_
  rw [← hRS,rightS,hc]
  simp only [Bool.false_eq_true,if_false]
 have Hm:=Lib.hid (codeE_rws hE)
 unfold rclV
 rw [hc]
 clear hRS hc
 go_enter Tryz.func180,Tryz.ntmps180
 go_wp2_with fail
 obtain ⟨U,hU⟩ : ∃ U : World,U=w.alloc (.cells #[.int .i64 P,.int .i64 M,.slice am mn cm,.int .i64 m,.slice a n c,.int .i64 C.M,.int .i64 C.W,.slice ay ny cy,.bool false] 155):=⟨_,rfl⟩
 rw [← hU]
 have hbU : Below w.heap.size w U:=by rw [hU];exact below1 _ _
 have x0 : Box U w.heap.size [.int .i64 P,.int .i64 M,.slice am mn cm,.int .i64 m,.slice a n c,.int .i64 C.M,.int .i64 C.W,.slice ay ny cy,.bool false]:=by rw [hU];exact Box.new _ _ _ rfl
 have HS : Hid (∀ V,Below U.heap.size U V→V.cell? ⟨w.heap.size,0,none⟩=some (.int .i64 P)∧V.cell? ⟨w.heap.size,1,none⟩=some (.int .i64 M)∧V.cell? ⟨w.heap.size,2,none⟩=some (.slice am mn cm)∧V.cell? ⟨w.heap.size,3,none⟩=some (.int .i64 m)∧V.cell? ⟨w.heap.size,4,none⟩=some (.slice a n c) ∧
   V.cell? ⟨w.heap.size,5,none⟩=some (.int .i64 C.M)∧V.cell? ⟨w.heap.size,8,none⟩=some (.bool false)):=fun V hV=>by
  have x1:=x0.keep hV
  exact ⟨x1.cell 0 rfl,x1.cell 1 rfl,x1.cell 2 rfl,x1.cell 3 rfl,x1.cell 4 rfl,x1.cell 5 rfl,x1.cell 8 rfl⟩
 clear hU x0
 refine (rising_any m at' nt ct t U (ht.keep hbU)).mono ?_
 rintro e w1 ⟨rfl,hd1⟩
 have hb1 : Below U.heap.size U w1:=hd1.below
 have hbw1:=Below.next hbU hb1
 obtain ⟨zo,hzo⟩ : ∃ zo,okSet m t=zo:=⟨_,rfl⟩
 rw [hzo]
 cases zo
 ·have HF : Hid (RS=false):=by show _=_;rw [HRS.out,setOk,hzo];rfl
  clear hzo
  go_wp2_with fail
  go_ret
  exact ⟨by rw [HF.out];rfl,hbw1⟩
 have Hok:=Lib.hid hzo
 clear hzo
 have ht1:=ht.keep hbw1
 have hs1:=hs.keep hbw1
 go_wp2_with fail
 go_loop [7] (fun iv=>∃ k : Nat,k≤nt∧iv = .int .i64 k∧Hid (∀ j,j<k→¬ nth t j ∈ s)) (fun iv=>nt - (intOf iv).toNat)
 case atStart=>exact ⟨0,Nat.zero_le _,rfl,fun j hj=>by omega⟩
 case round =>
  obtain ⟨k,hk,rfl,hno⟩:=hrel
  generalize w1=wr at *
  by_cases hlt : k<nt
  ·have ck:=ht1.cell k hlt
   have HI:=Lib.hid (rIn26_any sa ns cs s (nth t k) wr hs1)
   by_cases hm1 : nth t k ∈ s
   ·have hmd : decide (nth t k ∈ s)=true:=by simpa using hm1
    rw [hmd] at HI
    have HF : Hid (RS=false):=by
     show _=_
     have h1 : t.all (fun x=>decide (¬ x ∈ s))=false:=by
      rw [List.all_eq_false]
      exact ⟨nth t k,nth_mem (by rw [Htl.out];exact hlt),by simpa using hm1⟩
     rw [HRS.out,setOk,h1,Bool.and_false];rfl
    clear hm1 hmd
    go_wp2_with fail
    refine HI.out.mono ?_
    rintro e w6 ⟨rfl,rfl⟩
    go_wp2_with fail
    go_ret
    exact ⟨by rw [HF.out];rfl,hbw1⟩
   ·have hmd : decide (nth t k ∈ s)=false:=by simpa using hm1
    rw [hmd] at HI
    have Hno2 : Hid (∀ j,j<k+1→¬ nth t j ∈ s):=fun j hj=>by
     by_cases e : j=k
     ·rw [e];exact hm1
     ·exact hno.out j (by omega)
    clear hm1 hmd hno
    go_wp2_with fail
    refine HI.out.mono ?_
    rintro e w6 ⟨rfl,rfl⟩
    go_wp2_with fail
    go_round
    case rel=>exact ⟨k+1,by omega,by go_num,Hno2.out⟩
    case measure=>simp [intOf] <;> omega
  ·have hkn : k=nt:=by omega
   subst hkn
   have hset : setOk m s t=true:=by
    rw [setOk,Hok.out,Bool.true_and,List.all_eq_true]
    intro x hx
    obtain ⟨j,hj,rfl⟩:=List.mem_iff_getElem.1 hx
    have h1:=hno.out j (by rw [← Htl.out];exact hj)
    rw [nth_getElem hj] at h1
    simpa using h1
   obtain ⟨m',hm',hm1,hm2,_,_⟩:=Hm.out
   have hklen : k≤64:=by
    have h1:=okSet_len Hok.out (by omega)
    rw [Htl.out] at h1
    omega
   have HO:=Lib.hid (rOf25_any P M am mn cm mod m a n c L at' k ct t wr (hmod.keep hbw1) (hi.keep hbw1) ht1 hE (set_in Hok.out) (by omega))
   have HR2 : Hid (RS=(decide ((grS (tblOf P M.toNat mod).ops L t).length=k) && decide (k=C.M))):=by show _=_;rw [HRS.out,hset,Bool.true_and,Htl.out]
   obtain ⟨r1,hr1⟩ : ∃ r1,(grS (tblOf P M.toNat mod).ops L t).length=r1:=⟨_,rfl⟩
   rw [hr1] at HO HR2
   obtain ⟨c0,c1,c2,c3,c4,c5,c8⟩:=HS.out wr hb1
   clear hset hr1 hm' hm1 hm2
   go_wp2_with fail
   refine HO.out.mono ?_
   rintro e w2 ⟨rfl,hb2⟩
   have hb12:=Below.next hb1 hb2
   have hbF:=Below.next hbU hb12
   clear c0 c1 c2 c3 c4 c5 c8
   obtain ⟨c0,c1,c2,c3,c4,c5,c8⟩:=HS.out w2 hb12
   by_cases hrr : r1=k
   ·have hne : ((r1 : Int) != k)=false:=by simp [hrr]
    by_cases hM : k=C.M
    ·have HF : Hid (RS=true):=by show _=_;rw [HR2.out,decide_eq_true hrr,decide_eq_true hM];rfl
     have hd : ((k : Int) == C.M)=true:=by simp [hM]
     clear hrr hM
     go_wp2_with fail
     go_ret
     exact ⟨by rw [HF.out];rfl,hbF⟩
    ·have HF : Hid (RS=false):=by show _=_;rw [HR2.out,decide_eq_false hM,Bool.and_false]
     have hd : ((k : Int) == C.M)=false:=by simp;omega
     clear hrr hM
     go_wp2_with fail
     go_ret
     exact ⟨by rw [HF.out];rfl,hbF⟩
   ·have HF : Hid (RS=false):=by show _=_;rw [HR2.out,decide_eq_false hrr];rfl
    have hne : ((r1 : Int) != k)=true:=by simp;omega
    clear hrr
    go_wp2_with fail
    go_ret
    exact ⟨by rw [HF.out];rfl,hbF⟩
def RightK (P M : Int) (am : Option Addr) (mn cm : Nat) (mod : List Int) (m : Nat) (a : Option Addr) (n c : Nat) (L : List (List Int)) (ay : Option Addr) (ny cy : Nat) (C : Clm) (w0 : World) : Prop :=
 ∀ (V : World) (sa : Option Addr) (ns cs : Nat) (s : List Int) (at' : Option Addr) (nt ct : Nat) (t : List Int),ns≤64→Below w0.heap.size w0 V→Ints V sa ns s→Ints V at' nt t →
  Calls Tryz.prog 180 #[rclV P M am mn cm m a n c ay ny cy C,.slice sa ns cs,.slice at' nt ct] V fun e w'=>e = .returned (.bool (rightS (tblOf P M.toNat mod).ops L m C s t))∧Below V.heap.size V w'
theorem rightK_rank {P M : Int} {am : Option Addr} {mn cm : Nat} {mod : List Int} {m : Nat} {a : Option Addr} {n c : Nat} {L : List (List Int)} {ay : Option Addr} {ny cy : Nat} {C : Clm} {w0 : World}
  (hmod : Ints w0 am mn mod) (hi : Mat w0 a n L) (hE : codeE P M mod m L=0) (hc : C.cos=false) : RightK P M am mn cm mod m a n c L ay ny cy C w0:=fun V sa ns cs s at' nt ct t _ hV hs ht =>
 rRight26_any P M am mn cm mod m a n c L ay ny cy C sa ns cs s at' nt ct t V (hmod.keep hV) (hi.keep hV) hE hc hs ht
end

section
open Go.RowKit
theorem rkc_code {P M : Int} {mod : List Int} {N : Int} {L : List (List Int)} {mm z : Int} (h : rkcE P M mod N L mm z=0) : codeE P M mod N L=0:=by
 unfold rkcE at h
 by_cases hE : codeE P M mod N L=0
 ·exact hE
 ·rw [if_neg hE] at h;exact h
end

section
open Go.RowKit
set_option maxRecDepth 100000 in
set_option maxHeartbeats 4000000 in
theorem rDim29_any (P M : Int) (am : Option Addr) (mn cm : Nat) (mod : List Int) (m : Nat) (a : Option Addr) (n c : Nat) (L : List (List Int)) (as' : Option Addr) (ns cs : Nat) (S : List Int) (w : World) (hmod : Ints w am mn mod) (hi : Mat w a n L) (hs : Ints w as' ns S)
  (hE : codeE P M mod m L=0) :
  Calls Tryz.prog 75 #[.agg #[.int .i64 P,.int .i64 M,.slice am mn cm,.int .i64 m,.slice a n c],.slice as' ns cs] w fun e w'=>e = .returned (.int .i64 (dimZ (tblOf P M.toNat mod).ops L m S))∧Below w.heap.size w w':=by
 obtain ⟨N',em,hm1,hm64,F,hR⟩:=codeE_fld hE
 obtain rfl : m=N':=by omega
 have hn : n≤256:=by rw [← hi.len];exact (codeE_rws hE).choose_spec.2.2.2.1
 have hfl:=frTo_len false S m
 have hr : rkQ (tblOf P M.toNat mod).ops L (frTo false S m)≤m:=Nat.le_trans (rkQ_le _ _ _) hfl
 have HO : Hid (∀ V,Below w.heap.size w V→Calls Tryz.prog 84 #[.slice as' ns cs,.int .i64 m] V fun e w'=>∃ a1 c1,e = .returned (.slice a1 (frTo false S m).length c1) ∧
   w'.ownsRow V.heap.size 3 1 (.slice a1 (frTo false S m).length c1) (frTo false S m).length ((frTo false S m).map (Value.int .i64))∧Below V.heap.size V w'):=fun V hV=>rOthers10_any as' ns cs S m V (hs.keep hV) (by omega)
 have HOf : Hid (∀ V a1 c1,Below w.heap.size w V→Ints V a1 (frTo false S m).length (frTo false S m)→∀ V2,Below V.heap.size V V2→Calls Tryz.prog 124 #[.agg #[.int .i64 P,.int .i64 M,.slice am mn cm],.slice a n c,.slice a1 (frTo false S m).length c1] V2 fun e w'=>e = .returned (.int .i64 (rkQ (tblOf P M.toNat mod).ops L (frTo false S m)))∧Below V2.heap.size V2 w'):=fun V a1 c1 hV h1 V2 hV2 =>
  rOf25_any P M am mn cm mod m a n c L a1 _ c1 _ V2 (hmod.keep (Below.next hV hV2)) (hi.keep (Below.next hV hV2)) (h1.keep hV2) hE (inN_of fun x hx=>by
   obtain ⟨j,h1,h2,_⟩:=(mem_frTo m).1 hx
   omega) (by omega)
 have Hd : Hid (dimZ (tblOf P M.toNat mod).ops L m S=(n : Int) - (rkQ (tblOf P M.toNat mod).ops L (frTo false S m) : Nat)):=by show _=_;rw [dimZ,hi.len]
 obtain ⟨Z,hZ⟩ : ∃ Z,frTo false S m=Z:=⟨_,rfl⟩
 rw [hZ] at HO HOf Hd hr hfl
 obtain ⟨r,hre⟩ : ∃ r,rkQ (tblOf P M.toNat mod).ops L Z=r:=⟨_,rfl⟩
 rw [hre] at HOf Hd hr
 obtain ⟨z,hz⟩ : ∃ z,Z.length=z:=⟨_,rfl⟩
 rw [hz] at HO HOf hfl
 have k2 : IntKind.i64.wrap ((n : Int) - r)=(n : Int) - r:=IntWalk.i64_in _ (by omega)
 have hpa:=hi.pl
 clear F hR em hE hZ hre hz hmod hi hs
 go_enter Tryz.func75,Tryz.ntmps75
 go_upto_region 1 with fail
 obtain ⟨W,hW⟩ : ∃ W : World,W=w.alloc (.cells #[.int .i64 P,.int .i64 M,.slice am mn cm,.int .i64 m,.slice a n c] 27):=⟨_,rfl⟩
 rw [← hW]
 have hbW : Below w.heap.size w W:=by rw [hW];exact below1 _ _
 have x0 : Box W w.heap.size [.int .i64 P,.int .i64 M,.slice am mn cm,.int .i64 m,.slice a n c]:=by rw [hW];exact Box.new _ _ _ rfl
 have HS : Hid (∀ V,Below W.heap.size W V→V.cell? ⟨w.heap.size,0,none⟩=some (.int .i64 P)∧V.cell? ⟨w.heap.size,1,none⟩=some (.int .i64 M)∧V.cell? ⟨w.heap.size,2,none⟩=some (.slice am mn cm)∧V.cell? ⟨w.heap.size,3,none⟩=some (.int .i64 m)∧V.cell? ⟨w.heap.size,4,none⟩=some (.slice a n c)∧Below W.heap.size W V):=fun V hV=>by
  have x1:=x0.keep hV
  exact ⟨x1.cell 0 rfl,x1.cell 1 rfl,x1.cell 2 rfl,x1.cell 3 rfl,x1.cell 4 rfl,hV⟩
 have HbW:=Lib.hid hbW
 clear hW x0 hbW
 go_region_held3 (fun V=>V.cell? ⟨w.heap.size,0,none⟩=some (.int .i64 P)∧V.cell? ⟨w.heap.size,1,none⟩=some (.int .i64 M)∧V.cell? ⟨w.heap.size,2,none⟩=some (.slice am mn cm)∧V.cell? ⟨w.heap.size,3,none⟩=some (.int .i64 m)∧V.cell? ⟨w.heap.size,4,none⟩=some (.slice a n c)∧Below W.heap.size W V)
  ((refine HS.out _ ?_;first | exact (Below.refl _ _).drew | (go_split_ands;exact Below.next (by assumption) (by assumption))))
  (first
   | (go_at_call 84;((with_reducible refine (HO.out _ (Below.next HbW.out (by go_split_ands;assumption))).mono ?_);rintro e w6 ⟨a6,c6,rfl,hown6,hb6⟩;have hb7 : Below W.heap.size W w6:=(by go_split_ands;exact Below.next (by assumption) hb6);have Hr2:=Lib.hid (HOf.out w6 a6 c6 (Below.next HbW.out hb7) (Ints.own hown6).1);clear hown6))
   | (go_at_call 124;((with_reducible refine (Hr2.out _ (by first | exact Below.refl _ _ | exact hb4)).mono ?_);rintro e w8 ⟨rfl,hb8⟩)))
 all_goals (
  clear k2
  go_wp2_with fail
  go_ret
  exact ⟨ret_int Hd.out.symm,Below.next HbW.out (by go_split_ands;assumption)⟩)
end

end Go.Proofs.YtcflcogbpnmjeaaGreat
