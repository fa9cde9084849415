/-  -/
import Derived.Test.YtcflcogbpnmjeaaGreatK13
import Derived.Test.YtcflcogbpnmjeaaGreatHSO7
import Derived.Test.YtcflcogbpnmjeaaGreatK14
import Derived.Test.YtcflcogbpnmjeaaGreatHSO6
import Derived.Test.YtcflcogbpnmjeaaGreatK15
import Derived.Test.YtcflcogbpnmjeaaGreatK8
import Derived.Test.YtcflcogbpnmjeaaGreatHSO2
import Derived.Test.YtcflcogbpnmjeaaGreatK6
import Derived.Test.YtcflcogbpnmjeaaGreatHSO1
import Derived.Test.YtcflcogbpnmjeaaGreatK11
import Derived.Test.YtcflcogbpnmjeaaGreatK9
import Derived.Test.YtcflcogbpnmjeaaGreatHSO5
import Derived.Test.YtcflcogbpnmjeaaGreatK17
import Derived.Test.YtcflcogbpnmjeaaGreatK3
import Derived.Test.YtcflcogbpnmjeaaGreatK20
import Derived.Test.YtcflcogbpnmjeaaGreatK21
import Derived.Test.YtcflcogbpnmjeaaGreatK28
import Derived.Test.YtcflcogbpnmjeaaGreatK32
import Derived.Test.YtcflcogbpnmjeaaGreatHSO4
import Derived.Test.YtcflcogbpnmjeaaGreatK24
import Derived.Test.YtcflcogbpnmjeaaGreatK31
import Derived.Test.YtcflcogbpnmjeaaGreatK33
import Derived.Test.YtcflcogbpnmjeaaGreatK35
namespace Go.Proofs.YtcflcogbpnmjeaaGreat
set_option linter.unusedVariables false
set_option linter.unusedSimpArgs false
set_option linter.unusedSectionVars false

section
theorem tab5_2_0 : chkC 5 2 25 cert5_2 0 25=true:=by decide +kernel
theorem tab5_2 : chkAll 5 2 25 cert5_2:=chkAll_add (chkAll_nil 5 2 25 cert5_2) tab5_2_0
theorem tab5_3_0 : chkC 5 3 125 cert5_3 0 32=true:=by decide +kernel
theorem tab5_3_32 : chkC 5 3 125 cert5_3 32 32=true:=by decide +kernel
theorem tab5_3_64 : chkC 5 3 125 cert5_3 64 32=true:=by decide +kernel
theorem tab5_3_96 : chkC 5 3 125 cert5_3 96 29=true:=by decide +kernel
theorem tab5_3 : chkAll 5 3 125 cert5_3:=chkAll_add (chkAll_add (chkAll_add (chkAll_add (chkAll_nil 5 3 125 cert5_3) tab5_3_0) tab5_3_32) tab5_3_64) tab5_3_96
theorem tab7_2_0 : chkC 7 2 49 cert7_2 0 49=true:=by decide +kernel
theorem tab7_2 : chkAll 7 2 49 cert7_2:=chkAll_add (chkAll_nil 7 2 49 cert7_2) tab7_2_0
theorem tab11_2_0 : chkC 11 2 121 cert11_2 0 32=true:=by decide +kernel
theorem tab11_2_32 : chkC 11 2 121 cert11_2 32 32=true:=by decide +kernel
theorem tab11_2_64 : chkC 11 2 121 cert11_2 64 32=true:=by decide +kernel
theorem tab11_2_96 : chkC 11 2 121 cert11_2 96 25=true:=by decide +kernel
theorem tab11_2 : chkAll 11 2 121 cert11_2:=chkAll_add (chkAll_add (chkAll_add (chkAll_add (chkAll_nil 11 2 121 cert11_2) tab11_2_0) tab11_2_32) tab11_2_64) tab11_2_96
theorem tab13_2_0 : chkC 13 2 169 cert13_2 0 32=true:=by decide +kernel
theorem tab13_2_32 : chkC 13 2 169 cert13_2 32 32=true:=by decide +kernel
theorem tab13_2_64 : chkC 13 2 169 cert13_2 64 32=true:=by decide +kernel
theorem tab13_2_96 : chkC 13 2 169 cert13_2 96 32=true:=by decide +kernel
theorem tab13_2_128 : chkC 13 2 169 cert13_2 128 32=true:=by decide +kernel
theorem tab13_2_160 : chkC 13 2 169 cert13_2 160 9=true:=by decide +kernel
theorem tab13_2 : chkAll 13 2 169 cert13_2:=chkAll_add (chkAll_add (chkAll_add (chkAll_add (chkAll_add (chkAll_add (chkAll_nil 13 2 169 cert13_2) tab13_2_0) tab13_2_32) tab13_2_64) tab13_2_96) tab13_2_128) tab13_2_160
def chkP (c : Nat × Nat) : Bool:=ordOk (mulS c.1 1 []) c.1 c.2 && decide (0<c.2) && decide (c.2<c.1)
theorem tabP : roots.all chkP=true:=by decide +kernel
theorem rootsAll : ((List.range 257).all fun p=>p<2 || !primeB p || roots.any fun c=>c.1 == p)=true:=by decide +kernel
end

section
section
variable {P : Int} {M : Nat} {mod : List Int} {q : Nat} {x : Int}
theorem genTo_some : ∀ (n x y : Nat),2≤q→x≤y→y<x+n→isGen P M mod q y=true→genTo P M mod q n x ≠ []
 | 0,x,y,_,h1,h2,_=>by omega
 | n+1,x,y,hq,h1,h2,hg=>by
  rw [genTo]
  by_cases hx : isGen P M mod q x=true
  ·rw [if_pos hx]
   intro e
   simp only [isGen,Bool.and_eq_true,beq_iff_eq] at hx
   rw [e] at hx
   simp at hx
   omega
  ·rw [if_neg hx]
   refine genTo_some n (x+1) y hq ?_ (by omega) hg
   rcases Nat.eq_or_lt_of_le h1 with h3 | h3
   ·subst h3;exact absurd hg hx
   ·exact h3
theorem no_zero_div {ex : List Int} {y a b : Int} (g : Gen P M mod q y ex) (ha : ElP P M a) (hb : ElP P M b) (ha0 : a ≠ 0) (hb0 : b ≠ 0) : mulS P M mod a b ≠ 0:=by
 obtain ⟨i,_,rfl,_⟩:=g.log ha ha0
 obtain ⟨j,_,rfl,_⟩:=g.log hb hb0
 rw [pw_add g.res]
 exact g.pw_ne _
end
theorem chkAll_at {P : Int} {M q : Nat} {l : List (Nat × Nat)} (h : chkAll P M q l) {v : Nat} (hv : v<q) : ∃ c,chkV P M q v c=true:=⟨_,h v hv⟩
theorem tabOf (p m : Nat) (hp : primeB p=true) (h2 : 2≤p) (hm : 2≤m) (hm8 : m≤8) (hpw : (p : Int) ^ m≤256) : ∃ l,chkAll p m (((p : Int) ^ m).toNat) l:=by
 have hp16 : p≤16:=by
  have h1:=pow_mono (P:=(p : Int)) (by omega) hm
  have h3 : (p : Int) ^ 2=p * p:=by rw [Int.pow_succ,Int.pow_succ,Int.pow_zero,Int.one_mul]
  rcases Nat.lt_or_ge 16 p with h4 | h4
  ·have h5 : 17 * 17≤p * p:=Nat.mul_le_mul h4 h4
   have h6 : ((17 * 17 : Nat) : Int)≤((p * p : Nat) : Int):=Int.ofNat_le.2 h5
   rw [Int.natCast_mul] at h6
   omega
  ·exact h4
 have hc : p=2∨p=3∨p=4∨p=5∨p=6∨p=7∨p=8∨p=9∨p=10∨p=11∨p=12∨p=13∨p=14∨p=15∨p=16:=by omega
 have hd : m=2∨m=3∨m=4∨m=5∨m=6∨m=7∨m=8:=by omega
 rcases hc with rfl | rfl | rfl | rfl | rfl | rfl | rfl | rfl | rfl | rfl | rfl | rfl | rfl | rfl | rfl
 ·rcases hd with rfl | rfl | rfl | rfl | rfl | rfl | rfl
  ·exact ⟨_,tab2_2⟩
  ·exact ⟨_,tab2_3⟩
  ·exact ⟨_,tab2_4⟩
  ·exact ⟨_,tab2_5⟩
  ·exact ⟨_,tab2_6⟩
  ·exact ⟨_,tab2_7⟩
  ·exact ⟨_,tab2_8⟩
 ·rcases hd with rfl | rfl | rfl | rfl | rfl | rfl | rfl
  ·exact ⟨_,tab3_2⟩
  ·exact ⟨_,tab3_3⟩
  ·exact ⟨_,tab3_4⟩
  ·exact ⟨_,tab3_5⟩
  ·exact absurd hpw (by decide)
  ·exact absurd hpw (by decide)
  ·exact absurd hpw (by decide)
 ·exact absurd hp (by decide)
 ·rcases hd with rfl | rfl | rfl | rfl | rfl | rfl | rfl
  ·exact ⟨_,tab5_2⟩
  ·exact ⟨_,tab5_3⟩
  ·exact absurd hpw (by decide)
  ·exact absurd hpw (by decide)
  ·exact absurd hpw (by decide)
  ·exact absurd hpw (by decide)
  ·exact absurd hpw (by decide)
 ·exact absurd hp (by decide)
 ·rcases hd with rfl | rfl | rfl | rfl | rfl | rfl | rfl
  ·exact ⟨_,tab7_2⟩
  ·exact absurd hpw (by decide)
  ·exact absurd hpw (by decide)
  ·exact absurd hpw (by decide)
  ·exact absurd hpw (by decide)
  ·exact absurd hpw (by decide)
  ·exact absurd hpw (by decide)
 ·exact absurd hp (by decide)
 ·exact absurd hp (by decide)
 ·exact absurd hp (by decide)
 ·rcases hd with rfl | rfl | rfl | rfl | rfl | rfl | rfl
  ·exact ⟨_,tab11_2⟩
  ·exact absurd hpw (by decide)
  ·exact absurd hpw (by decide)
  ·exact absurd hpw (by decide)
  ·exact absurd hpw (by decide)
  ·exact absurd hpw (by decide)
  ·exact absurd hpw (by decide)
 ·exact absurd hp (by decide)
 ·rcases hd with rfl | rfl | rfl | rfl | rfl | rfl | rfl
  ·exact ⟨_,tab13_2⟩
  ·exact absurd hpw (by decide)
  ·exact absurd hpw (by decide)
  ·exact absurd hpw (by decide)
  ·exact absurd hpw (by decide)
  ·exact absurd hpw (by decide)
  ·exact absurd hpw (by decide)
 ·exact absurd hp (by decide)
 ·exact absurd hp (by decide)
 ·exact absurd hp (by decide)
theorem valu_el {P : Int} {m : Nat} (hf : RF P m) {mod : List Int} (hd : Dig P mod) (hl : mod.length=m) : 0≤valu P mod∧valu P mod<P ^ m:=by
 have:=valu_bd (P:=P) (by have:=hf.p2;omega) mod hd
 rwa [hl] at this
theorem fieldRB_eq (P M : Int) (mod : List Int) : fieldRB P M mod=fieldB P M mod:=by
 by_cases hs : shapeB P M mod=true
 ·unfold fieldRB fieldB
  rw [hs,Bool.true_and,Bool.true_and]
  have hs2:=hs
  unfold shapeB at hs2
  simp only [Bool.and_eq_true,bne_iff_ne,ne_eq] at hs2
  obtain ⟨⟨h1,h2⟩,h3⟩:=hs2
  obtain ⟨m,rfl,hrf⟩:=RF.of h1
  obtain ⟨p,rfl⟩ : ∃ p : Nat,P=p:=⟨P.toNat,by have:=hrf.p2;omega⟩
  rw [Int.toNat_natCast] at h2 ⊢
  have hp2 : 2≤p:=by have:=hrf.p2;omega
  have hp256 : p≤256:=by have:=hrf.p256;omega
  have hord:=hrf.order
  have hres:=hrf.res
  obtain ⟨q,hq⟩ : ∃ q : Nat,(p : Int) ^ m=q:=⟨((p : Int) ^ m).toNat,by have:=one_lt_pow hres;omega⟩
  have hq2 : 2≤q:=by have:=one_lt_pow hres;omega
  have hq256 : q≤256:=by have:=hrf.pw;omega
  rw [hord,hq,Int.toNat_natCast]
  have hgen : ∀ x : Nat,0<x→x<q→ordOk (mulS p m mod) q x=true→(genS p m mod q).isEmpty=false:=fun x hx0 hx1 ho=>by
   have hel : ElP (p : Int) m x:=⟨by omega,by rw [hq];omega⟩
   have hg:=(Ord.of hres hel hq256 ho).isGen hres hel hq2
   have:=genTo_some (P:=p) (M:=m) (mod:=mod) (q - 1) 1 x hq2 (by omega) (by omega) hg
   unfold genS
   cases h : genTo p m mod q (q - 1) 1 with
   | nil=>exact absurd h this
   | cons y l=>rfl
  by_cases hm : m=1
  ·subst hm
   have hmod : mod=[]:=by
    rw [if_pos (by simp)] at h3
    exact List.eq_nil_of_length_eq_zero (by simpa using h3)
   subst hmod
   have hr:=List.all_eq_true.1 rootsAll p (List.mem_range.2 (by omega))
   have hp2' : decide (p<2)=false:=by simp;omega
   rw [hp2',h2] at hr
   simp only [Bool.not_true,Bool.false_or,List.any_eq_true] at hr
   obtain ⟨c,hc,hcp⟩:=hr
   have hck:=List.all_eq_true.1 tabP c hc
   have hcp2 : c.1=p:=by simpa using hcp
   unfold chkP at hck
   rw [hcp2] at hck
   simp only [Bool.and_eq_true,decide_eq_true_eq] at hck
   have hqp : q = p := by have : (p : Int) ^ 1 = p := by rw [Int.pow_succ, Int.pow_zero, Int.one_mul]
                          omega
   rw [hgen c.2 hck.1.2 (by omega) (by rw [hqp];exact hck.1.1)]
   rfl
  ·have hM : ¬ (m : Int)=1:=by omega
   rw [if_neg hM] at h3
   simp only [Bool.and_eq_true,decide_eq_true_eq] at h3
   have hlen : mod.length=m:=by omega
   have hdig : Dig (p : Int) mod:=Dig.of_mem (by omega) fun x hx=>by
    have:=List.all_eq_true.1 h3.2 x hx
    simpa using this
   have hv:=valu_el hrf hdig hlen
   obtain ⟨v,hvv⟩ : ∃ v : Nat,valu p mod=v:=⟨(valu p mod).toNat,by omega⟩
   have hdv : digs v p m=mod:=by rw [← hvv,← hlen];exact digs_valu mod hdig
   obtain ⟨l,hl⟩:=tabOf p m h2 hp2 (by have:=hrf.m1;omega) hrf.m8 hrf.pw
   rw [hq,Int.toNat_natCast] at hl
   obtain ⟨c,hc⟩:=chkAll_at hl (v:=v) (by omega)
   have hM' : ((m : Int) == 1)=false:=by simpa using hM
   rw [hM',Bool.false_or]
   unfold chkV at hc
   rw [hdv] at hc
   split at hc
   ·simp only [Bool.and_eq_true,decide_eq_true_eq] at hc
    rw [hc.1.1.1,hgen c.1 hc.1.2 hc.2 hc.1.1.2];rfl
   ·rename_i hc2
    simp only [Bool.and_eq_true,decide_eq_true_eq,Bool.not_eq_true',beq_iff_eq] at hc
    rw [hc.1.1.1.1]
    cases h : (genS p m mod q).isEmpty with
    | true=>rfl
    | false =>
     exfalso
     have hne : genS p m mod q ≠ []:=fun e=>by rw [e] at h;cases h
     obtain ⟨y,hy1,hy2,hy3,hy4⟩:=genS_spec hne
     have g:=Gen.of_isGen (mod:=mod) hres hq.symm ⟨by omega,by omega⟩ hy3
     exact no_zero_div g (a:=(c.1 : Int)) (b:=(c.2 : Int)) ⟨by omega,by omega⟩ ⟨by omega,by omega⟩ (by omega) (by omega) hc.1.1.1.2
 ·have hs' : shapeB P M mod=false:=by simpa using hs
  simp [fieldRB,fieldB,hs']
end

section
theorem invTo_find (f : Int→Int) : ∀ (n : Nat) (y z : Int),y≤z→z<y+n→f z=1→f (invTo f n y)=1∧y≤invTo f n y∧invTo f n y<y+n
 | 0,y,z,h1,h2,_=>by omega
 | n+1,y,z,h1,h2,hz=>by
  unfold invTo
  split
  ·exact ⟨by assumption,by omega,by omega⟩
  ·rename_i hn
   have hne : y ≠ z:=fun e=>hn (e ▸ hz)
   have:=invTo_find f n (y+1) z (by omega) (by omega) hz
   exact ⟨this.1,by omega,by omega⟩
theorem eq_ops {P M : Int} {mod : List Int} (h : fieldB P M mod=true) : ∃ m : Nat,M=m∧ElP P m=(tblOf P m mod).El∧((tblOf P m mod).q : Int)=orderS P M∧Fld (tblOf P m mod).ops (ElP P m)∧Agr (tblOf P m mod).ops (rops P m mod) (ElP P m) ∧
  ∀ p,ElP P m p→p ≠ 0→(invR P m mod p=1 ↔ p=1):=by
 have hF:=fieldB_fld h
 obtain ⟨m,y,rfl,hr,h256,hsh,hq,g⟩:=fieldB_gen h
 have hrf : RF P m:=by
  obtain ⟨m',e,h2,_⟩:=fieldRB_rf (by rw [fieldRB_eq];exact h)
  have : m=m':=by omega
  rw [this];exact h2
 rw [Int.toNat_natCast] at hF
 have e : ElP P m=(tblOf P m mod).El:=by
  funext x;simp only [Tbl.El,tblOf,ElP];rw [hq]
 rw [← e] at hF
 have hq2:=g.q2
 have hmul : ∀ x z,ElP P m x→ElP P m z→(tblOf P m mod).ops.mul x z=mulR P m mod x z:=fun x z hx hz=>by
  rw [mulR_eq hrf];exact g.mulT_eq hx hz
 have hqo : ((orderS P m).toNat : Int)=orderS P m:=by omega
 have hinv : ∀ x,ElP P m x→x ≠ 0→(tblOf P m mod).ops.inv x=invR P m mod x:=by
  intro x hx h0
  have hi:=hF.cl.inv x hx h0
  have hm:=hF.mul_inv x hx h0
  rw [hmul x _ hx hi] at hm
  have hi0 : (tblOf P m mod).ops.inv x ≠ 0:=by
   intro e0
   have h2:=hF.mul_inv x hx h0
   rw [e0,hF.mzero hx] at h2
   exact absurd h2 (by decide)
  have hb1:=hi.1
  have hb2:=hi.2
  obtain ⟨h1,h2,h3⟩:=invTo_find (mulR P m mod x) ((orderS P m).toNat - 1) 1 _ (by omega) (by omega) hm
  have hel : ElP P m (invR P m mod x):=⟨by unfold invR;omega,by unfold invR;omega⟩
  have h4 : (tblOf P m mod).ops.mul x (invR P m mod x)=1:=by rw [hmul x _ hx hel];exact h1
  have h5:=hF.mul_inv x hx h0
  have e1 : (tblOf P m mod).ops.mul ((tblOf P m mod).ops.inv x) ((tblOf P m mod).ops.mul x (invR P m mod x))=invR P m mod x:=by
   rw [← hF.mul_assoc _ x _ hi hx hel,hF.mul_comm _ x hi hx,h5,hF.one_mul _ hel]
  rw [h4,hF.mone hi] at e1
  exact e1
 refine ⟨m,rfl,e,hqo,hF,⟨fun x z _ _=>rfl,hmul,fun x _=>rfl,hinv⟩,fun p hp h0=>?_⟩
 rw [← hinv p hp h0]
 have hi:=hF.cl.inv p hp h0
 have hm:=hF.mul_inv p hp h0
 constructor
 ·intro e1;rw [e1,hF.mone hp] at hm;exact hm
 ·intro e1;rw [e1] at hm hi ⊢;rw [hF.one_mul _ hi] at hm;exact hm
theorem hinv_all {P M : Int} {mod : List Int} (h : fieldRB P M mod=true) : ∀ p,ElP P M.toNat p→p ≠ 0→(invR P M.toNat mod p=1 ↔ p=1):=by
 obtain ⟨m,rfl,_,_,_,_,h6⟩:=eq_ops (by rw [← fieldRB_eq];exact h)
 exact h6
theorem rmatE_eq (P M : Int) (mod : List Int) (cols : Int) (L : List (List Int)) : rmatE P M mod cols L=fmatE P M mod cols L:=by
 unfold rmatE fmatE
 rw [fieldRB_eq]
 split
 ·rename_i h
  obtain ⟨m,rfl,_,hq,_⟩:=eq_ops h
  rw [Int.toNat_natCast,hq]
 ·rfl
theorem canR_eq {P M : Int} {mod : List Int} (h : fieldB P M mod=true) {L : List (List Int)} {m : Nat} (hL : Rws (tblOf P M.toNat mod).El m L) : canR (rops P M.toNat mod) L m=canS (tblOf P M.toNat mod) L m:=by
 obtain ⟨k,rfl,he,_,hF,hA,_⟩:=eq_ops h
 rw [Int.toNat_natCast] at hL ⊢
 rw [← he] at hL
 unfold canR canS
 rw [(elimTo_agr hA hF.cl hL m (Nat.le_refl _)).1]
theorem rspaceE_eq (P M : Int) (mod : List Int) (cols : Int) (L : List (List Int)) : rspaceE P M mod cols L=spaceE P M mod cols L:=by
 unfold rspaceE spaceE
 rw [rmatE_eq]
 split
 ·rename_i h0
  obtain ⟨h1,h2⟩:=fmatE_zero h0
  obtain ⟨m,rfl,_,_,hR⟩:=matE_zero h2
  rw [Int.toNat_natCast,canR_eq h1 hR]
 ·rfl
theorem rcodeE_eq (P M : Int) (mod : List Int) (N : Int) (L : List (List Int)) : rcodeE P M mod N L=codeE P M mod N L:=by
 unfold rcodeE codeE
 rw [fieldRB_eq,rspaceE_eq]
end

section
section
variable {O : FOps} {El : Int→Prop} {m : Nat} {L : List (List Int)}
theorem rkQ_span (F : Fld O El) (hL : Rws El m L) {Q Q' : List Int} (h : ∀ x ∈ gA Q,clV O El L.length (colS L) (gA Q') x) : rkQ O L Q≤rkQ O L Q':=Rk.le (col_clo F hL) (rkQ_rk F hL Q) (rkQ_rk F hL Q') h
end
end

section
theorem kids_mem {C : Clm} {s z t : List Int} {x : Int} (h : x ∈ kidsS C s z t) : x ∈ t∧¬ x ∈ z∧s.length<C.W:=by
 unfold kidsS at h
 split at h
 ·rename_i hl
  rw [List.mem_filter] at h
  exact ⟨h.1,by simpa using h.2,hl⟩
 ·simp at h
end

section
theorem nodup_sub_len : ∀ {s T : List Int},s.Nodup→(∀ x ∈ s,x ∈ T)→s.length≤T.length
 | [],_,_,_=>Nat.zero_le _
 | x :: s,T,hn,h=>by
  have hx : x ∈ T:=h x (by simp)
  have hn':=List.nodup_cons.1 hn
  have h1 : ∀ y ∈ s,y ∈ T.erase x:=fun y hy=>(List.mem_erase_of_ne (fun (e : y=x)=>hn'.1 (by rw [← e];exact hy))).2 (h y (by simp [hy]))
  have h2:=nodup_sub_len hn'.2 h1
  rw [List.length_erase_of_mem hx] at h2
  have : 0<T.length:=List.length_pos_of_mem hx
  simp only [List.length_cons]
  omega
theorem nodup_full {s T : List Int} (hn : s.Nodup) (h : ∀ x ∈ s,x ∈ T) (hl : T.length≤s.length) {x : Int} (hx : x ∈ T) : x ∈ s:=by
 refine Classical.byContradiction fun hc=>?_
 have:=nodup_sub_len (s:=x :: s) (T:=T) (List.nodup_cons.2 ⟨hc,hn⟩) fun y hy=>by
  rcases List.mem_cons.1 hy with rfl | hy
  ·exact hx
  ·exact h y hy
 simp at this;omega
theorem kfol_node {F : List Int→List Int→List (List Int)→Option (List (List Int))} {s T : List Int} : ∀ (ks z : List Int) (ts rest : List (List Int)),kfol F s z ks ts=some rest→(∀ x ∈ z,¬ x ∈ T)→(∃ x ∈ ks,x ∈ T) →
  ∃ k z' ts' rest',k ∈ ks∧k ∈ T∧(∀ x ∈ z',¬ x ∈ T)∧F (s ++ [k]) z' ts'=some rest'
 | [],_,_,_,_,_,h=>by obtain ⟨x,hx,_⟩:=h;simp at hx
 | k :: ks,z,ts,rest,h,hz,hk=>by
  rw [kfol] at h
  cases hF : F (s ++ [k]) z ts with
  | none=>rw [hF] at h;cases h
  | some ts' =>
   rw [hF] at h
   by_cases hkT : k ∈ T
   ·exact ⟨k,z,ts,ts',by simp,hkT,hz,hF⟩
   ·obtain ⟨k', z', ts'', rest', h1, h2, h3, h4⟩ := kfol_node ks (z ++ [k]) ts' rest h (fun x hx => by
     rcases List.mem_append.1 hx with hx | hx
     ·exact hz x hx
     ·rw [List.mem_singleton.1 hx];exact hkT) (by
     obtain ⟨x,hx,hxT⟩:=hk
     rcases List.mem_cons.1 hx with rfl | hx
     ·exact absurd hxT hkT
     ·exact ⟨x,hx,hxT⟩)
    exact ⟨k', z', ts'', rest', List.mem_cons_of_mem _ h1, h2, h3, h4⟩
variable {O : FOps} {L : List (List Int)} {m : Nat} {C : Clm}
theorem fol_node : ∀ (d : Nat) (s z : List Int) (ts rest : List (List Int)),s.length+d=C.W→s.Nodup→folS O L m C d s z ts=some rest→∀ T : List Int,T.length≤C.W→(∀ x ∈ s,x ∈ T)→(∀ x ∈ z,¬ x ∈ T) →
  ∃ s' t,rightS O L m C s' t=true∧s'.Nodup∧(∀ x ∈ s',x ∈ T)∧∀ x ∈ t,¬ x ∈ T
 | 0,s,z,ts,rest,hd,hn,h,T,hT,hs,hz=>by
  match ts with
  | []=>simp [folS] at h
  | t :: ts =>
   rw [folS] at h
   by_cases hr : rightS O L m C s t=true
   ·exact ⟨s,t,hr,hn,hs,fun x hx hxT=>(right_ok hr).2 x hx (nodup_full hn hs (by omega) hxT)⟩
   ·rw [if_neg hr] at h;cases h
 | d+1,s,z,ts,rest,hd,hn,h,T,hT,hs,hz=>by
  match ts with
  | []=>simp [folS] at h
  | t :: ts =>
   rw [folS] at h
   by_cases hr : rightS O L m C s t=true
   ·rw [if_pos hr] at h
    by_cases ht : ∃ x ∈ t,x ∈ T
    ·obtain ⟨x,hx,hxT⟩:=ht
     have hxk : x ∈ kidsS C s z t:=by
      unfold kidsS
      rw [if_pos (by omega),List.mem_filter]
      exact ⟨hx,by simpa using fun hxz=>hz x hxz hxT⟩
     obtain ⟨k,z',ts',rest',h1,h2,h3,h4⟩:=kfol_node _ _ _ _ h hz ⟨x,hxk,hxT⟩
     have hks:=(right_ok hr).2 k (kids_mem h1).1
     refine fol_node d (s ++ [k]) z' ts' rest' (by simp;omega) ?_ h4 T hT ?_ h3
     ·rw [List.nodup_append]
      exact ⟨hn,by simp,fun a ha b hb e=>hks (by rw [List.mem_singleton.1 hb] at e;exact e ▸ ha)⟩
     ·intro y hy
      rcases List.mem_append.1 hy with hy | hy
      ·exact hs y hy
      ·rw [List.mem_singleton.1 hy];exact h2
    ·exact ⟨s,t,hr,hn,hs,fun x hx hxT=>ht ⟨x,hx,hxT⟩⟩
   ·rw [if_neg hr] at h;cases h
theorem prov_node {ts : List (List Int)} (h : provS O L m C ts=0) (T : List Int) (hT : T.length≤C.W) : ∃ s' t,rightS O L m C s' t=true∧s'.Nodup∧(∀ x ∈ s',x ∈ T)∧∀ x ∈ t,¬ x ∈ T:=by
 unfold provS at h
 split at h
 ·rename_i hf
  exact fol_node C.W [] [] ts [] (by simp) (by simp) hf T hT (fun x hx=>by simp at hx) fun x hx=>by simp at hx
 ·cases h
end

section
variable {O : FOps} {El : Int→Prop} {m : Nat} {L : List (List Int)}
theorem rkQ_mono (F : Fld O El) (hL : Rws El m L) {Q Q' : List Int} (h : ∀ x ∈ Q,x ∈ Q') : rkQ O L Q≤rkQ O L Q' :=
 rkQ_span F hL fun x hx=>by
  obtain ⟨y,hy,e⟩:=mem_gA.1 hx
  exact (col_clo F hL).mem _ _ (mem_gA.2 ⟨y,h y hy,e⟩)
variable {C : Clm}
def sizK (O : FOps) (L : List (List Int)) (m : Nat) (C : Clm) (s : List Int) : Nat:=if C.cos=true then rkQ O L (frTo false s m) else C.M
theorem right_len {s t : List Int} (h : rightS O L m C s t=true) : t.length=sizK O L m C s∧rkQ O L t=t.length:=by
 unfold rightS at h
 rw [Bool.and_eq_true,Bool.and_eq_true,decide_eq_true_eq] at h
 refine ⟨?_,h.2.1⟩
 have h2:=h.2.2
 unfold sizK
 split
 ·rename_i hc
  rw [if_pos hc,Bool.and_eq_true,decide_eq_true_eq] at h2
  exact h2.1.symm
 ·rename_i hc
  rw [if_neg hc,decide_eq_true_eq] at h2
  exact h2
end

section
section
variable {O : FOps} {El : Int→Prop} {m : Nat} {L : List (List Int)}
end
theorem code_full {P M : Int} {mod : List Int} {m : Nat} {L : List (List Int)} (hE : codeE P M mod m L=0) : Rk (clV (tblOf P M.toNat mod).ops (tblOf P M.toNat mod).El L.length (colS L)) (List.range m) L.length:=by
 obtain ⟨N',e,hm1,hm64,F,hR⟩:=codeE_fld hE
 obtain rfl : m=N':=by omega
 have h6:=(spaceE_zero (codeE_zero hE).2.2.2).2
 rw [Int.toNat_natCast] at h6
 have hcan : canO (tblOf P M.toNat mod).ops m L=L:=h6
 have h:=canO_rk F hR
 rwa [hcan] at h
section
variable {P M : Int} {mod : List Int} {m : Nat} {L : List (List Int)}
end
end

section
section
variable {O : FOps} {El : Int→Prop} {m : Nat} {L : List (List Int)} {C : Clm}
theorem prov_rank (F : Fld O El) (hL : Rws El m L) (hc : C.cos=false) {ts : List (List Int)} (h : provS O L m C ts=0) {T Q : List Int} (hT : T.length≤C.W) (hQ : ∀ x : Int,0≤x→x<m→¬ x ∈ T→x ∈ Q) : C.M≤rkQ O L Q:=by
 obtain ⟨s',t,hr,hn,hs,ht⟩:=prov_node h T hT
 have h1:=right_len hr
 have h2:=right_ok hr
 have h3 : t.length=C.M:=by
  have h4:=h1.1
  unfold sizK at h4
  rw [if_neg (by rw [hc];decide)] at h4
  exact h4
 have h4:=rkQ_mono F hL (Q:=t) (Q':=Q) fun x hx=>by
  obtain ⟨q,hq,rfl⟩:=List.mem_iff_getElem.1 hx
  have h5:=okSet_rng h2.1 q hq
  rw [nth_getElem hq] at h5
  exact hQ _ h5.1 h5.2 (ht _ hx)
 omega
end
section
variable {P M : Int} {mod : List Int} {m : Nat} {L : List (List Int)}
theorem chk_prov {mm W : Int} {ts : List (List Int)} (h : chkRE P M mod m L mm W ts=0) : codeE P M mod m L=0∧0≤mm∧mm≤L.length∧0≤W∧W≤m∧provS (tblOf P M.toNat mod).ops L m ⟨mm.toNat,W.toNat,false,[]⟩ ts=0:=by
 unfold chkRE at h
 by_cases h0 : rkcE P M mod m L mm W=0
 ·rw [if_pos h0,Int.toNat_natCast] at h
  unfold rkcE at h0
  by_cases hE : codeE P M mod m L=0
  ·rw [if_pos hE] at h0
   by_cases hx : mm<0∨(L.length : Int)<mm∨W<0∨(m : Int)<W
   ·rw [if_pos hx] at h0;cases h0
   ·exact ⟨hE,by omega,by omega,by omega,by omega,h⟩
  ·rw [if_neg hE] at h0;exact absurd h0 hE
 ·rw [if_neg h0] at h;exact absurd h h0
theorem rank_law {mm W : Int} {ts : List (List Int)} (h : chkRE P M mod m L mm W ts=0) {T Q : List Int} (hT : (T.length : Int)≤W) (hQ : ∀ x : Int,0≤x→x<m→¬ x ∈ T→x ∈ Q) : mm≤(grS (tblOf P M.toNat mod).ops L Q).length:=by
 obtain ⟨hE,h1,h2,h3,h4,h5⟩:=chk_prov h
 obtain ⟨N',e,hm1,hm64,F,hR⟩:=codeE_fld hE
 obtain rfl : m=N':=by omega
 have h6:=prov_rank F hR rfl h5 (T:=T) (Q:=Q) (by show T.length≤W.toNat;omega) hQ
 have h7 : mm.toNat≤(grS (tblOf P M.toNat mod).ops L Q).length:=h6
 omega
end
end

section
open Go.RowKit
theorem rCheck_any (P M : Int) (am : Option Addr) (mn cm : Nat) (mod : List Int) (N : Int) (a : Option Addr) (n c : Nat) (L : List (List Int)) (w : World) (hmod : Ints w am mn mod) (hi : Mat w a n L) :
  Calls Tryz.prog 47 #[.agg #[.int .i64 P,.int .i64 M,.slice am mn cm,.int .i64 N,.slice a n c]] w fun e w'=>e = .returned (.int .i64 (codeE P M mod N L))∧Below w.heap.size w w':=by
 rw [← rcodeE_eq]
 exact rCodeCheck_any P M am mn cm mod N a n c L w hmod hi hinv_all
end

section
open Go.RowKit
theorem frTo_drop {U : List Int} {i : Nat} (h : ∀ x ∈ U,x<(i : Int)) : ∀ k,k≤i→frTo false (U ++ [(i : Int)]) k=frTo false U k
 | 0,_=>rfl
 | k+1,hk=>by
  have e : decide ((k : Int) ∈ U ++ [(i : Int)])=decide ((k : Int) ∈ U):=by
   have : ¬ (k : Int)=(i : Int):=by omega
   simp [this]
  rw [frTo,frTo,e,frTo_drop h k (by omega)]
end

section
open Go.RowKit
section
variable {O : FOps} {El : Int→Prop} {m : Nat} {A B L : List (List Int)}
theorem clV_iff {l : List Nat} {x : Nat} (hl : ∀ y ∈ l,y<m) (hx : x<m) : clV O El A.length (colS A) l x ↔ ∀ f,RS O El m A f→(∀ y ∈ l,f y=0)→f x=0:=by
 constructor
 ·rintro h f ⟨e,he,h2⟩ h0
  rw [h2 x hx]
  exact h e he fun y hy=>by rw [← h2 y (hl y hy)];exact h0 y hy
 ·intro h φ hφ h0
  exact h (fun x=>φ (colS A x)) ⟨φ,hφ,fun _ _=>rfl⟩ h0
end
end

section
open Go.RowKit
section
variable {O : FOps} {El : Int→Prop} {m : Nat} {A L : List (List Int)}
theorem rk_sub_eq (F : Fld O El) (hA : Rws El m A) (hL : Rws El m L) {Z : List Nat} (hZ : ∀ z ∈ Z,z<m) (hiff : ∀ f,(∀ x,x<m→El (f x))→(RS O El m A f ↔ RS O El m L f∧∀ z ∈ Z,f z=0)) {z : Nat} (hz : Rk (clV O El L.length (colS L)) Z z) :
  ∀ {l : List Nat} {s : Nat},(∀ y ∈ l,y<m)→Rk (clV O El A.length (colS A)) l s→∀ {n},Rk (clV O El L.length (colS L)) (l ++ Z) n→s+z=n:=by
 intro l s hl hr
 have hstep : ∀ {l : List Nat} {x : Nat},(∀ y ∈ l,y<m)→x<m→(clV O El L.length (colS L) (l ++ Z) x ↔ clV O El A.length (colS A) l x):=fun {l x} hl hx=>by
  rw [clV_iff (m:=m) hl hx,clV_iff (m:=m) (fun y hy=>by rcases List.mem_append.1 hy with h | h;exact hl y h;exact hZ y h) hx]
  constructor
  ·intro hc f hf hf0
   obtain ⟨g1,g2⟩:=(hiff f fun x hx=>hf.el F hA hx).1 hf
   refine hc f g1 fun y hy=>?_
   rcases List.mem_append.1 hy with h | h
   ·exact hf0 y h
   ·exact g2 y h
  ·intro hc f hf hf0
   exact hc f ((hiff f fun x hx=>hf.el F hL hx).2 ⟨hf,fun z hz=>hf0 z (by simp [hz])⟩) fun y hy=>hf0 y (by simp [hy])
 induction hr with
 | nil=>intro n hn;rw [List.nil_append] at hn;rw [hz.uniq hn];omega
 | dep x hx _ ih =>
  intro n hn
  rw [List.cons_append] at hn
  cases hn with
  | dep _ _ h2=>exact ih (fun y hy=>hl y (by simp [hy])) h2
  | ind _ h1 h2=>exact absurd ((hstep (fun y hy=>hl y (by simp [hy])) (hl x (by simp))).2 hx) h1
 | ind x hx _ ih =>
  intro n hn
  rw [List.cons_append] at hn
  cases hn with
  | dep _ h1 h2=>exact absurd ((hstep (fun y hy=>hl y (by simp [hy])) (hl x (by simp))).1 h1) hx
  | ind _ _ h2=>have:=ih (fun y hy=>hl y (by simp [hy])) h2;omega
end
section
variable {P M : Int} {mod : List Int} {m : Nat} {L : List (List Int)}
theorem sup_len (hE : codeE P M mod m L=0) (S : List Int) : ((supS (tblOf P M.toNat mod) m L S).length : Int)=dimZ (tblOf P M.toNat mod).ops L m S:=by
 obtain ⟨N',em,hm1,hm64,F,hR⟩:=codeE_fld hE
 obtain rfl : m=N':=by omega
 have hT:=trn_rws (Z:=frTo false S m) F hR
 have hMr:=mtL_rws (O:=(tblOf P M.toNat mod).ops) F hR (nul_rws F hT)
 have hrk:=canO_rk F hMr
 have hin : InZ m (frTo false S m):=fun z hz=>by
  obtain ⟨i,h1,h2,_⟩:=(mem_frTo m).1 hz
  omega
 have hZ : ∀ z ∈ gA (frTo false S m),z<m:=fun x hx=>by
  obtain ⟨y,hy,rfl⟩:=mem_gA.1 hx
  have:=hin y hy
  omega
 have hA:=(sup_facts hE S).1
 obtain ⟨n,hn⟩:=Rk.ex (clV (tblOf P M.toNat mod).ops (tblOf P M.toNat mod).El L.length (colS L)) (List.range m ++ gA (frTo false S m))
 have hnk : L.length=n:=Rk.same (col_clo F hR) (code_full hE) hn fun x=>by
  rw [List.mem_append,List.mem_range]
  exact ⟨fun h=>.inl h,fun h=>by rcases h with h | h;exact h;exact hZ x h⟩
 have h:=rk_sub_eq F hA hR hZ (fun f hf=>by
  refine (supp_iff F hR hin hf).trans ?_
  constructor
  ·rintro ⟨h1,h2⟩
   refine ⟨h1,fun z hz=>?_⟩
   obtain ⟨y,hy,rfl⟩:=mem_gA.1 hz
   exact h2 y hy
  ·rintro ⟨h1,h2⟩
   exact ⟨h1,fun z hz=>h2 _ (mem_gA.2 ⟨z,hz,rfl⟩)⟩) (rkQ_rk F hR (frTo false S m)) (fun y hy=>List.mem_range.1 hy) hrk hn
 have h2 : (supS (tblOf P M.toNat mod) m L S).length+rkQ (tblOf P M.toNat mod).ops L (frTo false S m)=n:=h
 unfold dimZ
 omega
theorem hokTo_in {SS : List (List Int)} {TT : List (List (List Int))} : ∀ {n : Nat},hokTo P M mod m L SS TT n=true→∀ k,k<n→hokB P M mod m L SS TT k=true
 | 0,_,k,hk=>by omega
 | n+1,h,k,hk=>by
  rw [hokTo,Bool.and_eq_true] at h
  by_cases e : k=n
  ·rw [e];exact h.2
  ·exact hokTo_in h.1 k (by omega)
theorem hc_law {SS : List (List Int)} {TT : List (List (List Int))} (h : hcE P M mod m L SS TT=0) : SS.length=L.length∧TT.length=L.length∧∀ k,k<L.length→okSet m (nthR SS k)=true∧(k : Int)+1≤dimZ (tblOf P M.toNat mod).ops L m (nthR SS k) ∧
  ∀ T : List Int,T.length<(nthR SS k).length→(L.length : Int) - rkQ (tblOf P M.toNat mod).ops L (frTo false T m)<(k : Int)+1:=by
 unfold hcE at h
 by_cases hE : codeE P M mod m L=0
 ·rw [if_pos hE] at h
  by_cases h0 : SS.length=L.length∧TT.length=L.length∧hokTo P M mod (m : Int).toNat L SS TT L.length=true
  ·obtain ⟨h1,h2,h3⟩:=h0
   rw [Int.toNat_natCast] at h3
   refine ⟨h1,h2,fun k hk=>?_⟩
   have h4:=hokTo_in h3 k hk
   unfold hokB at h4
   rw [Bool.and_eq_true,Bool.and_eq_true,decide_eq_true_eq,decide_eq_true_eq] at h4
   obtain ⟨g1,g2,g3⟩:=h4
   refine ⟨g1,g2,fun T hT=>?_⟩
   have h5:=rank_law g3 (T:=T) (Q:=frTo false T m) (by omega) (fun x hx0 hxm hn=>(mem_frTo m).2 ⟨x.toNat,by omega,by omega,by
    rw [decide_eq_false_iff_not,show ((x.toNat : Nat) : Int)=x by omega];exact hn⟩)
   have h6 : (grS (tblOf P M.toNat mod).ops L (frTo false T m)).length=rkQ (tblOf P M.toNat mod).ops L (frTo false T m):=rfl
   omega
  ·rw [if_neg h0] at h
   exact absurd h (by decide)
 ·rw [if_neg hE] at h
  exact absurd h hE
end
end

section
open Go.RowKit
def hckX (P M : Int) (mod : List Int) (N : Int) (L SS : List (List Int)) (TT : List (List (List Int))) : List Int:=if hcE P M mod N L SS TT=0 then lenL SS L.length else []
theorem hck_u {P M : Int} {mod : List Int} {N : Int} {L SS : List (List Int)} {TT : List (List (List Int))} {w w' : World} {e : Ending} (h : HChkPost P M mod N L.length L SS TT w e w') :
  PairU (hcE P M mod N L SS TT) (hckX P M mod N L SS TT) w e w':=by
 obtain ⟨hb,⟨h0,rfl⟩ | ⟨h0,a,c,rfl,h1⟩⟩:=h
 ·exact pair_no hb h0
 ·exact pair_ok hb h0 (Ints.own h1).1
end

section
open Go.RowKit
set_option maxRecDepth 100000 in
set_option maxHeartbeats 4000000 in
theorem rFew29_any (as' : Option Addr) (ns cs : Nat) (SS : List (List Int)) (at' : Option Addr) (nt ct : Nat) (TT : List (List (List Int))) (w : World) (h1 : Mat w as' ns SS) (h2 : Trees w at' nt TT) :
  Calls Tryz.prog 45 #[.agg #[.slice as' ns cs,.slice at' nt ct]] w (SomeBool w):=by
 have hpl:=h2.pl
 have hmax:=h2.max
 unfold maxLen at hmax
 have HR : Hid (∀ V,Below w.heap.size w V→Calls Tryz.prog 87 #[.agg #[.int .i64 0,.slice as' ns cs],.int .i64 2000] V (SomeBool V)):=fun V hV=>rFew9_any as' ns cs 2000 SS V (h1.keep hV) (by omega)
 have HT : Hid (∀ k,k<nt→∃ b1 m1 c1,∀ V,Below w.heap.size w V→V.cell? ⟨ablk at',aoff at'+k,none⟩=some (.slice b1 m1 c1) ∧
   Calls Tryz.prog 87 #[.agg #[.int .i64 0,.slice b1 m1 c1],.int .i64 4000] V (SomeBool V)):=fun k hk=>by
  obtain ⟨b1,m1,c1,x1,x2,_⟩:=h2.cell k hk
  exact ⟨b1,m1,c1,fun V hV=>⟨cell_keep hV x1,rFew9_any b1 m1 c1 4000 _ V (x2.keep hV) (by omega)⟩⟩
 clear h1 h2
 go_enter Tryz.func45,Tryz.ntmps45
 go_upto_region 1 with fail
 obtain ⟨W,hW⟩ : ∃ W : World,W=w.alloc (.cells #[.slice as' ns cs,.slice at' nt ct] 59):=⟨_,rfl⟩
 rw [← hW]
 have hbW : Below w.heap.size w W:=by rw [hW];exact below1 _ _
 have x0 : Box W w.heap.size [.slice as' ns cs,.slice at' nt ct]:=by rw [hW];exact Box.new _ _ _ rfl
 have HS : Hid (∀ V,Below W.heap.size W V→V.cell? ⟨w.heap.size,0,none⟩=some (.slice as' ns cs)∧V.cell? ⟨w.heap.size,1,none⟩=some (.slice at' nt ct)):=fun V hV=>by
  have x1:=x0.keep hV
  exact ⟨x1.cell 0 rfl,x1.cell 1 rfl⟩
 have HbW:=Lib.hid hbW
 clear hW x0
 have Hc:=Lib.hid (HR.out W hbW)
 obtain ⟨c0,c1⟩:=HS.out W (Below.refl _ _)
 clear hbW HR
 go_wp2_with fail
 refine Hc.out.mono ?_
 rintro e w1 ⟨z,rfl,hb1⟩
 clear c0 c1 Hc
 obtain ⟨c0,c1⟩:=HS.out w1 hb1
 have hF1:=Below.next HbW.out hb1
 cases z
 ·go_wp2_with fail
  go_ret
  exact ⟨_,rfl,hF1⟩
 by_cases h100 : 100<nt
 ·have h100' : (100 : Int)<(nt : Int):=by omega
  have d1 : decide ((100 : Int)<(nt : Int))=true:=by simpa using h100'
  clear h100 h100'
  go_wp2_with fail
  go_ret
  exact ⟨_,rfl,hF1⟩
 have h100' : ¬ (100 : Int)<(nt : Int):=by omega
 have d1 : decide ((100 : Int)<(nt : Int))=false:=by simpa using h100'
 clear h100 h100'
 go_wp2_with fail
 go_loopw [3] (fun iv wr=>∃ k : Nat,k≤nt∧iv = .int .i64 k∧Below W.heap.size W wr) (fun i _=>nt - (intOf i).toNat)
 case atStart=>exact ⟨0,Nat.zero_le _,rfl,hb1⟩
 case round =>
  obtain ⟨k,hk,rfl,hbr⟩:=hrel
  clear c0 c1
  obtain ⟨c0,c1⟩:=HS.out wr hbr
  by_cases hlt : k<nt
  ·obtain ⟨b1,m1,d2,hk2⟩:=HT.out k hlt
   obtain ⟨q0,hca⟩:=hk2 wr (Below.next HbW.out hbr)
   have Hca:=Lib.hid hca
   clear hk2 hca
   go_wp2_with fail
   refine Hca.out.mono ?_
   rintro e w6 ⟨z,rfl,hb6⟩
   have hbV:=Below.next hbr hb6
   have hF:=Below.next HbW.out hbV
   clear q0 c0 c1
   cases z
   ·go_wp2_with fail
    go_ret
    exact ⟨_,rfl,hF⟩
   go_wp2_with fail
   go_roundw
   case rel=>exact ⟨k+1,by omega,by go_num,hbV⟩
   case measure=>simp [intOf] <;> omega
  ·obtain rfl : k=nt:=by omega
   have hF:=Below.next HbW.out hbr
   go_wp2_with fail
   go_ret
   exact ⟨_,rfl,hF⟩
end

section
open Go.RowKit
theorem sup_new {X w7 : World} {t : TypeId} (hb : Below (X.alloc (.cells #[.int .i64 0,.int .i64 0,.slice none 0 0,.int .i64 0,.slice none 0 0] t)).drew.heap.size (X.alloc (.cells #[.int .i64 0,.int .i64 0,.slice none 0 0,.int .i64 0,.slice none 0 0] t)).drew w7) :
  w7.cell? ⟨X.heap.size,0,none⟩=some (.int .i64 0)∧w7.cell? ⟨X.heap.size,1,none⟩=some (.int .i64 0)∧w7.cell? ⟨X.heap.size,2,none⟩=some (.slice none 0 0)∧w7.cell? ⟨X.heap.size,3,none⟩=some (.int .i64 0)∧w7.cell? ⟨X.heap.size,4,none⟩=some (.slice none 0 0) ∧
   w7.frozen? ⟨X.heap.size,0,none⟩=false∧w7.frozen? ⟨X.heap.size,1,none⟩=false∧w7.frozen? ⟨X.heap.size,2,none⟩=false∧w7.frozen? ⟨X.heap.size,3,none⟩=false∧w7.frozen? ⟨X.heap.size,4,none⟩=false:=by
 have x7:=(Box.new X [.int .i64 0,.int .i64 0,.slice none 0 0,.int .i64 0,.slice none 0 0] t rfl).keep (Below.next (Below.refl _ _).drew hb)
 exact ⟨x7.cell 0 rfl,x7.cell 1 rfl,x7.cell 2 rfl,x7.cell 3 rfl,x7.cell 4 rfl,x7.frozen 0,x7.frozen 1,x7.frozen 2,x7.frozen 3,x7.frozen 4⟩
set_option maxRecDepth 100000 in
set_option maxHeartbeats 8000000 in
theorem hLawSound_any (P M : Int) (am : Option Addr) (mn cm : Nat) (mod : List Int) (N : Int) (a : Option Addr) (n c : Nat) (L : List (List Int)) (as' : Option Addr) (ns cs : Nat) (SS : List (List Int)) (at' : Option Addr) (nt ct : Nat) (TT : List (List (List Int))) (z : Int) (w : World)
  (hmod : Ints w am mn mod) (hi : Mat w a n L) (hSS : Mat w as' ns SS) (hTT : Trees w at' nt TT) (hz : 0≤z∧z≤4294967295) :
  Calls Tryz.prog 10 #[.agg #[.int .i64 P,.int .i64 M,.slice am mn cm,.int .i64 N,.slice a n c],.agg #[.slice as' ns cs,.slice at' nt ct],.int .u32 z] w fun e w'=>e = .returned (.bool true)∧Below w.heap.size w w':=by
 have Hln:=Lib.hid hi.len
 have HF1 : Hid (∀ V,Below w.heap.size w V→Calls Tryz.prog 44 #[.agg #[.int .i64 P,.int .i64 M,.slice am mn cm,.int .i64 N,.slice a n c],.int .i64 120] V (SomeBool V)):=fun V hV=>rFew12_any P M am mn cm N a n c 120 L V (hi.keep hV) (by omega)
 have HF2 : Hid (∀ V,Below w.heap.size w V→Calls Tryz.prog 45 #[.agg #[.slice as' ns cs,.slice at' nt ct]] V (SomeBool V)):=fun V hV=>rFew29_any as' ns cs SS at' nt ct TT V (hSS.keep hV) (hTT.keep2 hV)
 have HCk:=Lib.hid (fun V (hV : Below w.heap.size w V)=>rCheck_any P M am mn cm mod N a n c L V (hmod.keep hV) (hi.keep hV))
 have HCh:=Lib.hid (fun V (hV : Below w.heap.size w V)=>(hCheck_any P M am mn cm mod N a n c L as' ns cs SS at' nt ct TT V (hmod.keep hV) (hi.keep hV) (hSS.keep hV) (hTT.keep2 hV)).mono fun e w' (h : HChkPost P M mod N n L SS TT V e w')=>hck_u (by rw [Hln.out];exact h))
 have HBad : Hid (∀ V,Calls Tryz.prog 26 #[] V fun e w'=>e = .returned (.bool true)∧Below V.heap.size V w'):=fun V=>awake29_any V
 have Hmi:=Lib.hid (And.intro hmod (And.intro hi (And.intro hSS hz)))
 clear hmod hi hSS hTT hz
 go_enter Tryz.func10,Tryz.ntmps10
 go_wp2_with fail
 obtain ⟨W,hW⟩ : ∃ W : World,W=(w.alloc (.cells #[.int .i64 P,.int .i64 M,.slice am mn cm,.int .i64 N,.slice a n c] 27)).alloc (.cells #[.slice as' ns cs,.slice at' nt ct] 59):=⟨_,rfl⟩
 rw [← hW]
 have hbW : Below w.heap.size w W:=by rw [hW];exact below2 _ _ _
 have x0 : Box W w.heap.size [.int .i64 P,.int .i64 M,.slice am mn cm,.int .i64 N,.slice a n c]:=by rw [hW];exact (Box.new _ _ _ rfl).alloc _
 have y0 : Box W (w.heap.size+1) [.slice as' ns cs,.slice at' nt ct]:=by rw [hW];exact Box.new _ _ _ (by simp)
 have hpos : 0<W.heap.size:=by rw [hW];simp
 have HS : Hid (∀ V,Below W.heap.size W V→V.cell? ⟨w.heap.size,0,none⟩=some (.int .i64 P)∧V.cell? ⟨w.heap.size,1,none⟩=some (.int .i64 M)∧V.cell? ⟨w.heap.size,2,none⟩=some (.slice am mn cm)∧V.cell? ⟨w.heap.size,3,none⟩=some (.int .i64 N)∧V.cell? ⟨w.heap.size,4,none⟩=some (.slice a n c) ∧
   V.cell? ⟨w.heap.size+1,0,none⟩=some (.slice as' ns cs)∧V.cell? ⟨w.heap.size+1,1,none⟩=some (.slice at' nt ct)):=fun V hV=>by
  have x1:=x0.keep hV
  have y1:=y0.keep hV
  exact ⟨x1.cell 0 rfl,x1.cell 1 rfl,x1.cell 2 rfl,x1.cell 3 rfl,x1.cell 4 rfl,y1.cell 0 rfl,y1.cell 1 rfl⟩
 have HbW:=Lib.hid hbW
 have Hpos:=Lib.hid hpos
 clear hW x0 hbW y0 hpos
 refine (HBad.out W).mono ?_
 rintro e w1 ⟨rfl,hb1⟩
 obtain ⟨c0,c1,c2,c3,c4,c5,c6⟩:=HS.out w1 hb1
 go_wp2_with fail
 refine (HF1.out w1 (Below.next HbW.out hb1)).mono ?_
 rintro e w2 ⟨z',rfl,hb2⟩
 have hB2:=Below.next hb1 hb2
 clear c0 c1 c2 c3 c4 c5 c6
 cases z'
 ·go_wp2_with fail
  refine (HBad.out w2).mono ?_
  rintro e w9 ⟨rfl,hb9⟩
  have hF:=Below.next HbW.out (Below.next hB2 hb9)
  go_wp2_with fail
  go_ret
  exact ⟨rfl,hF⟩
 obtain ⟨c0,c1,c2,c3,c4,c5,c6⟩:=HS.out w2 hB2
 by_cases h12 : 12<N
 ·have d1 : decide (12<N)=true:=by simpa using h12
  clear h12
  go_wp2_with fail
  refine (HBad.out w2).mono ?_
  rintro e w9 ⟨rfl,hb9⟩
  have hF:=Below.next HbW.out (Below.next hB2 hb9)
  go_wp2_with fail
  go_ret
  exact ⟨rfl,hF⟩
 have d1 : decide (12<N)=false:=by simpa using h12
 have Hck:=Lib.hid (HCk.out w2 (Below.next HbW.out hB2))
 go_wp2_with fail
 refine Hck.out.mono ?_
 rintro e w3 ⟨rfl,hb3⟩
 have hB3:=Below.next hB2 hb3
 clear c0 c1 c2 c3 c4 c5 c6 Hck HCk
 by_cases hE : codeE P M mod N L=0
 rotate_left
 ·have hE2 : (codeE P M mod N L != 0)=true:=by simpa using hE
  clear hE
  generalize codeE P M mod N L=er at *
  go_wp2_with fail
  refine (HBad.out w3).mono ?_
  rintro e w9 ⟨rfl,hb9⟩
  have hF:=Below.next HbW.out (Below.next hB3 hb9)
  go_wp2_with fail
  go_ret
  exact ⟨rfl,hF⟩
 rw [hE]
 obtain ⟨m,rfl,hm1,hm64,F,hR⟩:=codeE_fld hE
 have hm12 : m≤12:=by omega
 have HE:=Lib.hid hE
 have HFl:=Lib.hid F
 have HRw:=Lib.hid hR
 clear hE F hR h12
 obtain ⟨c0,c1,c2,c3,c4,c5,c6⟩:=HS.out w3 hB3
 go_wp2_with fail
 refine (HF2.out w3 (Below.next HbW.out hB3)).mono ?_
 rintro e w4 ⟨z',rfl,hb4⟩
 have hB4:=Below.next hB3 hb4
 clear c0 c1 c2 c3 c4 c5 c6
 cases z'
 ·go_wp2_with fail
  refine (HBad.out w4).mono ?_
  rintro e w9 ⟨rfl,hb9⟩
  have hF:=Below.next HbW.out (Below.next hB4 hb9)
  go_wp2_with fail
  go_ret
  exact ⟨rfl,hF⟩
 obtain ⟨c0,c1,c2,c3,c4,c5,c6⟩:=HS.out w4 hB4
 have Hch:=Lib.hid (HCh.out w4 (Below.next HbW.out hB4))
 clear HCh HBad HF1 HF2
 go_wp2_with fail
 refine Hch.out.mono ?_
 rintro e w5 ⟨hb5,ad,nd,cd,rfl,hd⟩
 have hB5:=Below.next hB4 hb5
 clear c0 c1 c2 c3 c4 c5 c6 Hch
 by_cases hc : hcE P M mod m L SS TT=0
 rotate_left
 ·have hc2 : (hcE P M mod m L SS TT != 0)=true:=by simpa using hc
  have hX : hckX P M mod m L SS TT=[]:=by unfold hckX;rw [if_neg hc]
  rw [hX] at hd
  obtain rfl : nd=0:=hd.len.symm
  have hF:=Below.next HbW.out hB5
  clear hc hX hd
  generalize hcE P M mod m L SS TT=er at *
  go_wp2_with fail
  go_ret
  exact ⟨rfl,hF⟩
 have hX : hckX P M mod m L SS TT=lenL SS L.length:=by unfold hckX;rw [if_pos hc]
 rw [hX] at hd
 obtain ⟨l1,l2,l3⟩:=hc_law hc
 have hnd : nd=n:=by rw [← hd.len,← Hln.out];simp [lenL]
 have hns : ns=n:=by rw [← Hmi.out.2.2.1.len,l1,Hln.out]
 subst hnd hns
 rw [hc]
 have HLaw:=Lib.hid l3
 have Hl1:=Lib.hid l1
 have Hd:=Lib.hid hd
 clear hc hX l1 l2 l3 hd
 have hdn : ((ns : Int) != ns)=false:=by simp
 obtain ⟨c0,c1,c2,c3,c4,c5,c6⟩:=HS.out w5 hB5
 go_wp2_with fail
 go_loopw [9,10,66] (fun sv rv iv wr=>∃ (i : Nat) (T : List Int) (ax ar : Option Addr) (cx cr : Nat),i≤m∧iv = .int .i64 i∧sv = .slice ax T.length cx∧rv = .slice ar (frTo false T i).length cr∧wr.ownsRow w5.heap.size 3 1 (.slice ax T.length cx) T.length (T.map (Value.int .i64)) ∧
   wr.ownsRow w5.heap.size 3 1 (.slice ar (frTo false T i).length cr) (frTo false T i).length ((frTo false T i).map (Value.int .i64))∧Hid (Two ax ar)∧Hid (T.length≤i∧∀ x ∈ T,x<(i : Int))∧Below w5.heap.size w5 wr) (fun _ _ iv _=>m - (intOf iv).toNat)
 case atStart=>exact ⟨0,[],none,none,0,0,Nat.zero_le _,rfl,rfl,rfl,by simpa using own_none,by simpa [frTo] using own_none,.inl rfl,⟨Nat.le_refl _,fun x hx=>by simp at hx⟩,Below.refl _ _⟩
 case round =>
  clear c0 c1 c2 c3 c4 c5 c6
  obtain ⟨i,T,ax,ar,cx,cr,him,rfl,rfl,rfl,hox,hown,htw,hT,hbr⟩:=hrel
  generalize wr=U at *
  have hBU:=Below.next hB5 hbr
  obtain ⟨c0,c1,c2,c3,c4,c5,c6⟩:=HS.out U hBU
  by_cases hlt : i<m
  ·have hfl:=frTo_len false T i
   have hTl:=hT.out.1
   obtain ⟨Rs,hRs⟩ : ∃ Rs,frTo false T i=Rs:=⟨_,rfl⟩
   have Hdrop : Hid (frTo false (T ++ [(i : Int)]) (i+1)=Rs):=by
    show _=_
    rw [frTo_step,if_neg (by simp),frTo_drop hT.out.2 i (Nat.le_refl _),hRs]
   have Hkeep : Hid (frTo false T (i+1)=Rs ++ [(i : Int)]):=by
    show _=_
    rw [frTo_step,if_pos (decide_eq_false fun h=>by have:=hT.out.2 _ h;omega),hRs]
   rw [hRs] at hown hfl ⊢
   clear hRs
   have hcn:=cell_new U (.int .i64 i) 3
   have hbn:=below1 U (.cells #[.int .i64 i] 3)
   have hszU:=hbr.size
   have hp5 : 0<w5.heap.size:=Nat.lt_of_lt_of_le Hpos.out hB5.size
   have hlt2 : ar ≠ none→ablk ar<(U.alloc (.cells #[.int .i64 i] 3)).heap.size:=fun h=>by
    have h1:=own_apt_new hown (Nat.le_refl U.heap.size)
    have h2:=own_lt hown
    rcases h2 with h2 | h2
    ·exact absurd h2.1 h
    ·simp;omega
   have hlt3 : ax ≠ none→ablk ax<(U.alloc (.cells #[.int .i64 i] 3)).heap.size:=fun h=>by
    have h2:=own_lt hox
    rcases h2 with h2 | h2
    ·exact absurd h2.1 h
    ·simp;omega
   by_cases hbit : bits .and .u32 (z / 2 ^ i) 1=1
   ·have e1 : (bits .and .u32 (z / 2 ^ i) 1 == 1)=true:=by simpa using hbit
    clear hbit
    go_wp2_with (at_builtin;refine wpList_push rfl _ _ 22 3 rfl (.int .i64 0) 8 Tryz.underlying22 infoInt rfl w5.heap.size ax T.length cx _ rfl (hox.alloc _) ⟨U.heap.size,0,none⟩ 1 (.int .i64 i) rfl hcn rfl (by omega) (by unfold maxLen;omega) (by simp;omega) ?_;intro a5 c5' w5' hown5 hgr5 hap5)
    go_roundw
    case rel =>
     have hb5' : Below w5.heap.size w5 w5':=Below.app (Below.trans hbr (hbn.mono hszU)) (hox.alloc _) hgr5 (Nat.le_refl _) (Nat.le_trans hszU hbn.size)
     refine ⟨i+1,T ++ [(i : Int)],a5,ar,c5',cr,by omega,by go_num,by rw [List.length_append];rfl,by rw [Hdrop.out],by rw [List.length_append];simpa using hown5,by rw [Hdrop.out];exact own_grownApt (hown.alloc _) hgr5 (htw.out.apt hox hp5),Two.new fun h=>hap5 _ (hlt2 h) (htw.out.apt hox hp5),⟨by rw [List.length_append,List.length_singleton];omega,fun x hx=>?_⟩,hb5'⟩
     rcases List.mem_append.1 hx with hx | hx
     ·have:=hT.out.2 x hx;omega
     ·rw [List.mem_singleton.1 hx];omega
    case measure=>simp [intOf] <;> omega
   ·have e1 : (bits .and .u32 (z / 2 ^ i) 1 == 1)=false:=by simpa using hbit
    clear hbit
    go_wp2_with (at_builtin;refine wpList_push rfl _ _ 22 3 rfl (.int .i64 0) 8 Tryz.underlying22 infoInt rfl w5.heap.size ar Rs.length cr _ rfl (hown.alloc _) ⟨U.heap.size,0,none⟩ 1 (.int .i64 i) rfl hcn rfl (by omega) (by unfold maxLen;omega) (by simp;omega) ?_;intro a5 c5' w5' hown5 hgr5 hap5)
    go_roundw
    case rel =>
     have hb5' : Below w5.heap.size w5 w5':=Below.app (Below.trans hbr (hbn.mono hszU)) (hown.alloc _) hgr5 (Nat.le_refl _) (Nat.le_trans hszU hbn.size)
     exact ⟨i+1,T,ax,a5,cx,c5',by omega,by go_num,rfl,by rw [Hkeep.out,List.length_append];rfl,own_grownApt (hox.alloc _) hgr5 (htw.out.symm.apt hown hp5),by rw [Hkeep.out,List.length_append];simpa using hown5,(Two.new fun h=>hap5 _ (hlt3 h) (htw.out.symm.apt hown hp5)).symm,⟨by omega,fun x hx=>by have:=hT.out.2 x hx;omega⟩,hb5'⟩
    case measure=>simp [intOf] <;> omega
  ·obtain rfl : i=m:=by omega
   have hrk : Calls Tryz.prog 48 #[.agg #[.int .i64 P,.int .i64 M,.slice am mn cm,.int .i64 i,.slice a ns c],.slice ar (frTo false T i).length cr] U fun e w'=>e = .returned (.tuple #[.int .i64 (rkQ (tblOf P M.toNat mod).ops L (frTo false T i) : Nat),.int .i64 0])∧Below U.heap.size U w':=by
    refine (rank_any P M am mn cm mod i a ns c L ar _ cr _ U (Hmi.out.1.keep (Below.next HbW.out hBU)) (Hmi.out.2.1.keep (Below.next HbW.out hBU)) (Ints.own hown).1).mono ?_
    have h0 : rankE P M mod i L (frTo false T i)=0:=by rw [rankE,if_pos HE.out,setsE_one,if_pos (okSet_frTo false T i)]
    rintro e w' ⟨hb,⟨h1,_⟩ | ⟨_,rfl⟩⟩
    ·exact absurd h0 h1
    ·exact ⟨rfl,hb⟩
   have HLT : Hid (∀ k,k<ns→T.length<(nthR SS k).length→(ns : Int) - (rkQ (tblOf P M.toNat mod).ops L (frTo false T i) : Nat)<(k : Int)+1):=fun k hk h=>by
    have:=(HLaw.out k (by rw [Hln.out];exact hk)).2.2 T h
    rw [Hln.out] at this
    exact this
   have hgle : rkQ (tblOf P M.toNat mod).ops L (frTo false T i)≤12:=by
    have h1:=rkQ_le (tblOf P M.toNat mod).ops L (frTo false T i)
    have h2:=frTo_len false T i
    omega
   obtain ⟨g,hg⟩ : ∃ g,rkQ (tblOf P M.toNat mod).ops L (frTo false T i)=g:=⟨_,rfl⟩
   rw [hg] at hrk HLT hgle
   have Hrk:=Lib.hid hrk
   have hTl:=hT.out.1
   have hnsm : ns≤256:=by rw [← Hln.out];exact (codeE_rws HE.out).choose_spec.2.2.2.1
   obtain ⟨t,ht⟩ : ∃ t,T.length=t:=⟨_,rfl⟩
   rw [ht] at HLT hTl ⊢
   clear hrk hg hown hox hT htw ht
   go_wp2_with fail
   refine Hrk.out.mono ?_
   rintro e w6 ⟨rfl,hb6⟩
   have hB6:=Below.next hBU hb6
   have HDd:=Lib.hid (fun V (hV : Below U.heap.size U V)=>Hd.out.keep (Below.next hbr hV))
   clear c0 c1 c2 c3 c4 c5 c6 Hrk
   go_wp2_with fail
   have hplD:=Hd.out.pl
   go_loopw [13] (fun iv wr=>∃ k : Nat,k≤ns∧iv = .int .i64 ((k : Int)+1)∧Below w6.heap.size w6 wr) (fun iv _=>ns+1 - (intOf iv).toNat)
   case atStart=>exact ⟨0,Nat.zero_le _,rfl,Below.refl _ _⟩
   case round =>
    obtain ⟨k,hk,rfl,hbx⟩:=hrel
    generalize wr=X at *
    have hBX:=Below.next hB6 hbx
    obtain ⟨c0,c1,c2,c3,c4,c5,c6⟩:=HS.out X hBX
    by_cases hkn : k<ns
    ·have d7 : decide ((k : Int)+1≤(ns : Int))=true:=by simp;omega
     have hDX:=HDd.out X (Below.next hb6 hbx)
     have hcD:=hDX.cell k hkn
     have hval : nth (lenL SS L.length) k=((nthR SS k).length : Int):=by
      unfold lenL
      rw [nth_mapRange _ _ _ (by rw [Hln.out];exact hkn)]
     rw [hval] at hcD
     have hlaw:=HLT.out k hkn
     obtain ⟨sk,hsk⟩ : ∃ sk,(nthR SS k).length=sk:=⟨_,rfl⟩
     rw [hsk] at hcD hlaw
     have Hsk:=Lib.hid hsk
     clear hsk hval hDX
     have hdq : decide (t<sk)=false∨(decide (t<sk)=true∧decide ((k : Int)+1≤(ns : Int) - (g : Int))=false):=by
      by_cases h : t<sk
      ·exact .inr ⟨by simpa using h,by have:=hlaw h;simp;omega⟩
      ·exact .inl (by simpa using h)
     clear hlaw
     obtain ⟨ra,rn,rc,hcS,hrow⟩:=(Hmi.out.2.2.1.keep (Below.next HbW.out hBX)).cell k hkn
     have hplS:=Hmi.out.2.2.1.pl
     obtain rfl : rn=sk:=by rw [← Hsk.out,hrow.len]
     have hSk:=HLaw.out k (by rw [Hln.out];exact hkn)
     have HSup : Hid (∀ V,Below X.heap.size X V→Calls Tryz.prog 35 #[.agg #[.int .i64 P,.int .i64 M,.slice am mn cm,.int .i64 i,.slice a ns c],.slice ra rn rc] V fun e w' =>
       Below V.heap.size V w'∧∃ a1 n1 c1 a2 q c2,e = .returned (.tuple #[.agg #[.int .i64 P,.int .i64 M,.slice a1 n1 c1,.int .i64 i,.slice a2 q c2],.int .i64 0])∧(k : Int)+1≤(q : Int)):=fun V hV=>by
      have hb:=Below.next HbW.out (Below.next hBX hV)
      refine (hSupported_any P M am mn cm mod i a ns c L ra rn rc (nthR SS k) V (Hmi.out.1.keep hb) (Hmi.out.2.1.keep hb) (hrow.keep hV)).mono ?_
      have h0 : suE P M mod i L (nthR SS k)=0:=by unfold suE;rw [if_pos HE.out,if_pos hSk.1]
      rintro e w' ⟨b,⟨h1,_⟩ | ⟨_,a1,c1,a2,c2,rfl,_,_⟩⟩
      ·exact absurd h0 h1
      ·refine ⟨b,a1,_,c1,a2,_,c2,rfl,?_⟩
       have h2:=sup_len HE.out (nthR SS k)
       have h3:=hSk.2.1
       rw [Int.toNat_natCast]
       omega
     clear hrow hSk
     have HX:=Lib.hid (And.intro hBX hbx)
     obtain ⟨b0,b1,b2,b3,b4,b5,b6⟩:=HS.out _ (Below.next hBX (below1 X (.cells #[.int .i64 0,.int .i64 0,.slice none 0 0,.int .i64 0,.slice none 0 0] 27)))
     have hcS2:=cell_box hcS (.cells #[.int .i64 0,.int .i64 0,.slice none 0 0,.int .i64 0,.slice none 0 0] 27)
     have kw : IntKind.i64.wrap (k : Int)=k:=IntWalk.i64_in _ (by omega)
     go_upto_region 22 with fail
     go_cut [113] (fun bv wx=>bv = .bool false∧wx=X)
     case first =>
      rcases hdq with d8 | ⟨d8,d9⟩
      ·go_wp2_with fail
       go_meet
       exact ⟨rfl,rfl⟩
      ·go_wp2_with fail
       go_meet
       exact ⟨rfl,rfl⟩
     obtain ⟨rfl,rfl⟩:=hcut
     generalize wc=X at *
     clear hdq
     go_upto_region 24 with fail
     go_cut [14,15] (fun v ev wx=>∃ g a2 c2 q,v = .pointer (some ⟨g,0,none⟩)∧ev = .int .i64 0∧wx.cell? ⟨g,2+2,none⟩=some (.slice a2 q c2)∧(k : Int)+1≤(q : Int)∧Below X.heap.size X wx)
     case first =>
      go_region_law ((first
       | (go_simp;go_at_call 35;((with_reducible refine (HSup.out _ (by first | exact Below.refl _ _ | exact (Below.refl _ _).drew | exact (below1 _ _).drew | exact below1 _ _ | assumption)).mono ?_);rintro e w7 ⟨hb7,a1,n1,c1',a2,q,c2',rfl,hq⟩;first | (have zz:=sup_new hb7;obtain ⟨z0,z1,z2,z3,z4,f0,f1,f2,f3,f4⟩:=zz) | skip))))
      all_goals (
       go_wp2_with fail
       go_meet
       first
       | (have z9:=z4;exact ⟨_,a2,c2',q,rfl,rfl,(((((((Box.new X [.int .i64 0,.int .i64 0,.slice none 0 0,.int .i64 0,.slice none 0 0] _ rfl).keep (Below.next (Below.refl _ _).drew hb7)).setC 0 (.int .i64 P)).setC 1 (.int .i64 M)).setC 2 (.slice a1 n1 c1')).setC 3 (.int .i64 i)).setC 4 (.slice a2 q c2')).cell 4 rfl,hq,(((((Below.next (below1 X (.cells #[.int .i64 0,.int .i64 0,.slice none 0 0,.int .i64 0,.slice none 0 0] 27)) (Below.next (Below.refl _ _).drew hb7)).setCell (Nat.le_refl _) _).setCell (Nat.le_refl _) _).setCell (Nat.le_refl _) _).setCell (Nat.le_refl _) _).setCell (Nat.le_refl _) _⟩)
       | exact ⟨_,a2,c2',q,rfl,rfl,(Box.new w7 [.int .i64 P,.int .i64 M,.slice a1 n1 c1',.int .i64 i,.slice a2 q c2'] _ rfl).cell 4 rfl,hq,Below.next (Below.next (Below.refl _ _).drew hb7) (below1 _ _)⟩
       | (trace_state;sorry))
     obtain ⟨g2,aS,cS,q,rfl,rfl,hg4,hq,hbY⟩:=hcut
     generalize wc=Y at *
     have hBY:=Below.next HX.out.1 hbY
     have hcSY:=cell_keep hbY hcS
     have hcDY:=cell_keep hbY hcD
     clear c0 c1 c2 c3 c4 c5 c6 b0 b1 b2 b3 b4 b5 b6 hcS2 hcS hcD
     obtain ⟨c0,c1,c2,c3,c4,c5,c6⟩:=HS.out Y hBY
     have e1 : decide ((q : Int)<(k : Int)+1)=false:=decide_eq_false (by omega)
     have e2 : decide (q<k+1)=false:=decide_eq_false (by omega)
     have e3 : decide (q≤k)=false:=decide_eq_false (by omega)
     have e4 : ((rn : Int) != (rn : Int))=false:=by simp
     have hw0:=Below.refl Y.heap.size Y
     go_upto_region 25 with fail
     go_quiet (fail)
     all_goals (
      go_wp2_with fail
      go_roundw
      case rel=>exact ⟨k+1,by omega,by go_num,Below.next HX.out.2 (Below.next hbY (Drawn.below ⟨_,rfl⟩))⟩
      case measure=>simp [intOf] <;> omega)
    ·obtain rfl : k=ns:=by omega
     have d7 : decide ((k : Int)+1≤(k : Int))=false:=by simp;omega
     have hF:=Below.next HbW.out hBX
     go_wp2_with fail
     go_ret
     exact ⟨rfl,hF⟩
end

end Go.Proofs.YtcflcogbpnmjeaaGreat
