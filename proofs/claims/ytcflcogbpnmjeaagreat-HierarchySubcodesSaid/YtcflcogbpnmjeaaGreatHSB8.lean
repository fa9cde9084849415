/-  -/
import Derived.Test.YtcflcogbpnmjeaaGreatK13
import Derived.Test.YtcflcogbpnmjeaaGreatHSB7
import Derived.Test.YtcflcogbpnmjeaaGreatK14
import Derived.Test.YtcflcogbpnmjeaaGreatHSB6
import Derived.Test.YtcflcogbpnmjeaaGreatK15
import Derived.Test.YtcflcogbpnmjeaaGreatK8
import Derived.Test.YtcflcogbpnmjeaaGreatHSB2
import Derived.Test.YtcflcogbpnmjeaaGreatK6
import Derived.Test.YtcflcogbpnmjeaaGreatHSB1
import Derived.Test.YtcflcogbpnmjeaaGreatK11
import Derived.Test.YtcflcogbpnmjeaaGreatK9
import Derived.Test.YtcflcogbpnmjeaaGreatHSB5
import Derived.Test.YtcflcogbpnmjeaaGreatK20
import Derived.Test.YtcflcogbpnmjeaaGreatK17
import Derived.Test.YtcflcogbpnmjeaaGreatK24
import Derived.Test.YtcflcogbpnmjeaaGreatK29
import Derived.Test.YtcflcogbpnmjeaaGreatK31
import Derived.Test.YtcflcogbpnmjeaaGreatK21
import Derived.Test.YtcflcogbpnmjeaaGreatK32
import Derived.Test.YtcflcogbpnmjeaaGreatHSB4
import Derived.Test.YtcflcogbpnmjeaaGreatK33
import Derived.Test.YtcflcogbpnmjeaaGreatK35
import Derived.Test.YtcflcogbpnmjeaaGreatK28
namespace Go.Proofs.YtcflcogbpnmjeaaGreat
set_option linter.unusedVariables false
set_option linter.unusedSimpArgs false
set_option linter.unusedSectionVars false

section
theorem tab5_2_0 : chkC 5 2 25 cert5_2 0 25=true:=by decide +kernel
theorem tab5_2 : chkAll 5 2 25 cert5_2:=chkAll_add (chkAll_nil 5 2 25 cert5_2) tab5_2_0
theorem tab5_3_0 : chkC 5 3 125 cert5_3 0 32=true:=by decide +kernel
theorem tab5_3_32 : chkC 5 3 125 cert5_3 32 32=true:=by decide +kernel
theorem tab5_3_64 : chkC 5 3 125 cert5_3 64 32=true:=by decide +kernel
theorem tab5_3_96 : chkC 5 3 125 cert5_3 96 29=true:=by decide +kernel
theorem tab5_3 : chkAll 5 3 125 cert5_3:=chkAll_add (chkAll_add (chkAll_add (chkAll_add (chkAll_nil 5 3 125 cert5_3) tab5_3_0) tab5_3_32) tab5_3_64) tab5_3_96
theorem tab7_2_0 : chkC 7 2 49 cert7_2 0 49=true:=by decide +kernel
theorem tab7_2 : chkAll 7 2 49 cert7_2:=chkAll_add (chkAll_nil 7 2 49 cert7_2) tab7_2_0
theorem tab11_2_0 : chkC 11 2 121 cert11_2 0 32=true:=by decide +kernel
theorem tab11_2_32 : chkC 11 2 121 cert11_2 32 32=true:=by decide +kernel
theorem tab11_2_64 : chkC 11 2 121 cert11_2 64 32=true:=by decide +kernel
theorem tab11_2_96 : chkC 11 2 121 cert11_2 96 25=true:=by decide +kernel
theorem tab11_2 : chkAll 11 2 121 cert11_2:=chkAll_add (chkAll_add (chkAll_add (chkAll_add (chkAll_nil 11 2 121 cert11_2) tab11_2_0) tab11_2_32) tab11_2_64) tab11_2_96
theorem tab13_2_0 : chkC 13 2 169 cert13_2 0 32=true:=by decide +kernel
theorem tab13_2_32 : chkC 13 2 169 cert13_2 32 32=true:=by decide +kernel
theorem tab13_2_64 : chkC 13 2 169 cert13_2 64 32=true:=by decide +kernel
theorem tab13_2_96 : chkC 13 2 169 cert13_2 96 32=true:=by decide +kernel
theorem tab13_2_128 : chkC 13 2 169 cert13_2 128 32=true:=by decide +kernel
theorem tab13_2_160 : chkC 13 2 169 cert13_2 160 9=true:=by decide +kernel
theorem tab13_2 : chkAll 13 2 169 cert13_2:=chkAll_add (chkAll_add (chkAll_add (chkAll_add (chkAll_add (chkAll_add (chkAll_nil 13 2 169 cert13_2) tab13_2_0) tab13_2_32) tab13_2_64) tab13_2_96) tab13_2_128) tab13_2_160
def chkP (c : Nat × Nat) : Bool:=ordOk (mulS c.1 1 []) c.1 c.2 && decide (0<c.2) && decide (c.2<c.1)
theorem tabP : roots.all chkP=true:=by decide +kernel
theorem rootsAll : ((List.range 257).all fun p=>p<2 || !primeB p || roots.any fun c=>c.1 == p)=true:=by decide +kernel
end

section
section
variable {P : Int} {M : Nat} {mod : List Int} {q : Nat} {x : Int}
theorem genTo_some : ∀ (n x y : Nat),2≤q→x≤y→y<x+n→isGen P M mod q y=true→genTo P M mod q n x ≠ []
 | 0,x,y,_,h1,h2,_=>by omega
 | n+1,x,y,hq,h1,h2,hg=>by
  rw [genTo]
  by_cases hx : isGen P M mod q x=true
  ·rw [if_pos hx]
   intro e
   simp only [isGen,Bool.and_eq_true,beq_iff_eq] at hx
   rw [e] at hx
   simp at hx
   omega
  ·rw [if_neg hx]
   refine genTo_some n (x+1) y hq ?_ (by omega) hg
   rcases Nat.eq_or_lt_of_le h1 with h3 | h3
   ·subst h3;exact absurd hg hx
   ·exact h3
theorem no_zero_div {ex : List Int} {y a b : Int} (g : Gen P M mod q y ex) (ha : ElP P M a) (hb : ElP P M b) (ha0 : a ≠ 0) (hb0 : b ≠ 0) : mulS P M mod a b ≠ 0:=by
 obtain ⟨i,_,rfl,_⟩:=g.log ha ha0
 obtain ⟨j,_,rfl,_⟩:=g.log hb hb0
 rw [pw_add g.res]
 exact g.pw_ne _
end
theorem chkAll_at {P : Int} {M q : Nat} {l : List (Nat × Nat)} (h : chkAll P M q l) {v : Nat} (hv : v<q) : ∃ c,chkV P M q v c=true:=⟨_,h v hv⟩
theorem tabOf (p m : Nat) (hp : primeB p=true) (h2 : 2≤p) (hm : 2≤m) (hm8 : m≤8) (hpw : (p : Int) ^ m≤256) : ∃ l,chkAll p m (((p : Int) ^ m).toNat) l:=by
 have hp16 : p≤16:=by
  have h1:=pow_mono (P:=(p : Int)) (by omega) hm
  have h3 : (p : Int) ^ 2=p * p:=by rw [Int.pow_succ,Int.pow_succ,Int.pow_zero,Int.one_mul]
  rcases Nat.lt_or_ge 16 p with h4 | h4
  ·have h5 : 17 * 17≤p * p:=Nat.mul_le_mul h4 h4
   have h6 : ((17 * 17 : Nat) : Int)≤((p * p : Nat) : Int):=Int.ofNat_le.2 h5
   rw [Int.natCast_mul] at h6
   omega
  ·exact h4
 have hc : p=2∨p=3∨p=4∨p=5∨p=6∨p=7∨p=8∨p=9∨p=10∨p=11∨p=12∨p=13∨p=14∨p=15∨p=16:=by omega
 have hd : m=2∨m=3∨m=4∨m=5∨m=6∨m=7∨m=8:=by omega
 rcases hc with rfl | rfl | rfl | rfl | rfl | rfl | rfl | rfl | rfl | rfl | rfl | rfl | rfl | rfl | rfl
 ·rcases hd with rfl | rfl | rfl | rfl | rfl | rfl | rfl
  ·exact ⟨_,tab2_2⟩
  ·exact ⟨_,tab2_3⟩
  ·exact ⟨_,tab2_4⟩
  ·exact ⟨_,tab2_5⟩
  ·exact ⟨_,tab2_6⟩
  ·exact ⟨_,tab2_7⟩
  ·exact ⟨_,tab2_8⟩
 ·rcases hd with rfl | rfl | rfl | rfl | rfl | rfl | rfl
  ·exact ⟨_,tab3_2⟩
  ·exact ⟨_,tab3_3⟩
  ·exact ⟨_,tab3_4⟩
  ·exact ⟨_,tab3_5⟩
  ·exact absurd hpw (by decide)
  ·exact absurd hpw (by decide)
  ·exact absurd hpw (by decide)
 ·exact absurd hp (by decide)
 ·rcases hd with rfl | rfl | rfl | rfl | rfl | rfl | rfl
  ·exact ⟨_,tab5_2⟩
  ·exact ⟨_,tab5_3⟩
  ·exact absurd hpw (by decide)
  ·exact absurd hpw (by decide)
  ·exact absurd hpw (by decide)
  ·exact absurd hpw (by decide)
  ·exact absurd hpw (by decide)
 ·exact absurd hp (by decide)
 ·rcases hd with rfl | rfl | rfl | rfl | rfl | rfl | rfl
  ·exact ⟨_,tab7_2⟩
  ·exact absurd hpw (by decide)
  ·exact absurd hpw (by decide)
  ·exact absurd hpw (by decide)
  ·exact absurd hpw (by decide)
  ·exact absurd hpw (by decide)
  ·exact absurd hpw (by decide)
 ·exact absurd hp (by decide)
 ·exact absurd hp (by decide)
 ·exact absurd hp (by decide)
 ·rcases hd with rfl | rfl | rfl | rfl | rfl | rfl | rfl
  ·exact ⟨_,tab11_2⟩
  ·exact absurd hpw (by decide)
  ·exact absurd hpw (by decide)
  ·exact absurd hpw (by decide)
  ·exact absurd hpw (by decide)
  ·exact absurd hpw (by decide)
  ·exact absurd hpw (by decide)
 ·exact absurd hp (by decide)
 ·rcases hd with rfl | rfl | rfl | rfl | rfl | rfl | rfl
  ·exact ⟨_,tab13_2⟩
  ·exact absurd hpw (by decide)
  ·exact absurd hpw (by decide)
  ·exact absurd hpw (by decide)
  ·exact absurd hpw (by decide)
  ·exact absurd hpw (by decide)
  ·exact absurd hpw (by decide)
 ·exact absurd hp (by decide)
 ·exact absurd hp (by decide)
 ·exact absurd hp (by decide)
theorem valu_el {P : Int} {m : Nat} (hf : RF P m) {mod : List Int} (hd : Dig P mod) (hl : mod.length=m) : 0≤valu P mod∧valu P mod<P ^ m:=by
 have:=valu_bd (P:=P) (by have:=hf.p2;omega) mod hd
 rwa [hl] at this
theorem fieldRB_eq (P M : Int) (mod : List Int) : fieldRB P M mod=fieldB P M mod:=by
 by_cases hs : shapeB P M mod=true
 ·unfold fieldRB fieldB
  rw [hs,Bool.true_and,Bool.true_and]
  have hs2:=hs
  unfold shapeB at hs2
  simp only [Bool.and_eq_true,bne_iff_ne,ne_eq] at hs2
  obtain ⟨⟨h1,h2⟩,h3⟩:=hs2
  obtain ⟨m,rfl,hrf⟩:=RF.of h1
  obtain ⟨p,rfl⟩ : ∃ p : Nat,P=p:=⟨P.toNat,by have:=hrf.p2;omega⟩
  rw [Int.toNat_natCast] at h2 ⊢
  have hp2 : 2≤p:=by have:=hrf.p2;omega
  have hp256 : p≤256:=by have:=hrf.p256;omega
  have hord:=hrf.order
  have hres:=hrf.res
  obtain ⟨q,hq⟩ : ∃ q : Nat,(p : Int) ^ m=q:=⟨((p : Int) ^ m).toNat,by have:=one_lt_pow hres;omega⟩
  have hq2 : 2≤q:=by have:=one_lt_pow hres;omega
  have hq256 : q≤256:=by have:=hrf.pw;omega
  rw [hord,hq,Int.toNat_natCast]
  have hgen : ∀ x : Nat,0<x→x<q→ordOk (mulS p m mod) q x=true→(genS p m mod q).isEmpty=false:=fun x hx0 hx1 ho=>by
   have hel : ElP (p : Int) m x:=⟨by omega,by rw [hq];omega⟩
   have hg:=(Ord.of hres hel hq256 ho).isGen hres hel hq2
   have:=genTo_some (P:=p) (M:=m) (mod:=mod) (q - 1) 1 x hq2 (by omega) (by omega) hg
   unfold genS
   cases h : genTo p m mod q (q - 1) 1 with
   | nil=>exact absurd h this
   | cons y l=>rfl
  by_cases hm : m=1
  ·subst hm
   have hmod : mod=[]:=by
    rw [if_pos (by simp)] at h3
    exact List.eq_nil_of_length_eq_zero (by simpa using h3)
   subst hmod
   have hr:=List.all_eq_true.1 rootsAll p (List.mem_range.2 (by omega))
   have hp2' : decide (p<2)=false:=by simp;omega
   rw [hp2',h2] at hr
   simp only [Bool.not_true,Bool.false_or,List.any_eq_true] at hr
   obtain ⟨c,hc,hcp⟩:=hr
   have hck:=List.all_eq_true.1 tabP c hc
   have hcp2 : c.1=p:=by simpa using hcp
   unfold chkP at hck
   rw [hcp2] at hck
   simp only [Bool.and_eq_true,decide_eq_true_eq] at hck
   have hqp : q = p := by have : (p : Int) ^ 1 = p := by rw [Int.pow_succ, Int.pow_zero, Int.one_mul]
                          omega
   rw [hgen c.2 hck.1.2 (by omega) (by rw [hqp];exact hck.1.1)]
   rfl
  ·have hM : ¬ (m : Int)=1:=by omega
   rw [if_neg hM] at h3
   simp only [Bool.and_eq_true,decide_eq_true_eq] at h3
   have hlen : mod.length=m:=by omega
   have hdig : Dig (p : Int) mod:=Dig.of_mem (by omega) fun x hx=>by
    have:=List.all_eq_true.1 h3.2 x hx
    simpa using this
   have hv:=valu_el hrf hdig hlen
   obtain ⟨v,hvv⟩ : ∃ v : Nat,valu p mod=v:=⟨(valu p mod).toNat,by omega⟩
   have hdv : digs v p m=mod:=by rw [← hvv,← hlen];exact digs_valu mod hdig
   obtain ⟨l,hl⟩:=tabOf p m h2 hp2 (by have:=hrf.m1;omega) hrf.m8 hrf.pw
   rw [hq,Int.toNat_natCast] at hl
   obtain ⟨c,hc⟩:=chkAll_at hl (v:=v) (by omega)
   have hM' : ((m : Int) == 1)=false:=by simpa using hM
   rw [hM',Bool.false_or]
   unfold chkV at hc
   rw [hdv] at hc
   split at hc
   ·simp only [Bool.and_eq_true,decide_eq_true_eq] at hc
    rw [hc.1.1.1,hgen c.1 hc.1.2 hc.2 hc.1.1.2];rfl
   ·rename_i hc2
    simp only [Bool.and_eq_true,decide_eq_true_eq,Bool.not_eq_true',beq_iff_eq] at hc
    rw [hc.1.1.1.1]
    cases h : (genS p m mod q).isEmpty with
    | true=>rfl
    | false =>
     exfalso
     have hne : genS p m mod q ≠ []:=fun e=>by rw [e] at h;cases h
     obtain ⟨y,hy1,hy2,hy3,hy4⟩:=genS_spec hne
     have g:=Gen.of_isGen (mod:=mod) hres hq.symm ⟨by omega,by omega⟩ hy3
     exact no_zero_div g (a:=(c.1 : Int)) (b:=(c.2 : Int)) ⟨by omega,by omega⟩ ⟨by omega,by omega⟩ (by omega) (by omega) hc.1.1.1.2
 ·have hs' : shapeB P M mod=false:=by simpa using hs
  simp [fieldRB,fieldB,hs']
end

section
theorem invTo_find (f : Int→Int) : ∀ (n : Nat) (y z : Int),y≤z→z<y+n→f z=1→f (invTo f n y)=1∧y≤invTo f n y∧invTo f n y<y+n
 | 0,y,z,h1,h2,_=>by omega
 | n+1,y,z,h1,h2,hz=>by
  unfold invTo
  split
  ·exact ⟨by assumption,by omega,by omega⟩
  ·rename_i hn
   have hne : y ≠ z:=fun e=>hn (e ▸ hz)
   have:=invTo_find f n (y+1) z (by omega) (by omega) hz
   exact ⟨this.1,by omega,by omega⟩
theorem eq_ops {P M : Int} {mod : List Int} (h : fieldB P M mod=true) : ∃ m : Nat,M=m∧ElP P m=(tblOf P m mod).El∧((tblOf P m mod).q : Int)=orderS P M∧Fld (tblOf P m mod).ops (ElP P m)∧Agr (tblOf P m mod).ops (rops P m mod) (ElP P m) ∧
  ∀ p,ElP P m p→p ≠ 0→(invR P m mod p=1 ↔ p=1):=by
 have hF:=fieldB_fld h
 obtain ⟨m,y,rfl,hr,h256,hsh,hq,g⟩:=fieldB_gen h
 have hrf : RF P m:=by
  obtain ⟨m',e,h2,_⟩:=fieldRB_rf (by rw [fieldRB_eq];exact h)
  have : m=m':=by omega
  rw [this];exact h2
 rw [Int.toNat_natCast] at hF
 have e : ElP P m=(tblOf P m mod).El:=by
  funext x;simp only [Tbl.El,tblOf,ElP];rw [hq]
 rw [← e] at hF
 have hq2:=g.q2
 have hmul : ∀ x z,ElP P m x→ElP P m z→(tblOf P m mod).ops.mul x z=mulR P m mod x z:=fun x z hx hz=>by
  rw [mulR_eq hrf];exact g.mulT_eq hx hz
 have hqo : ((orderS P m).toNat : Int)=orderS P m:=by omega
 have hinv : ∀ x,ElP P m x→x ≠ 0→(tblOf P m mod).ops.inv x=invR P m mod x:=by
  intro x hx h0
  have hi:=hF.cl.inv x hx h0
  have hm:=hF.mul_inv x hx h0
  rw [hmul x _ hx hi] at hm
  have hi0 : (tblOf P m mod).ops.inv x ≠ 0:=by
   intro e0
   have h2:=hF.mul_inv x hx h0
   rw [e0,hF.mzero hx] at h2
   exact absurd h2 (by decide)
  have hb1:=hi.1
  have hb2:=hi.2
  obtain ⟨h1,h2,h3⟩:=invTo_find (mulR P m mod x) ((orderS P m).toNat - 1) 1 _ (by omega) (by omega) hm
  have hel : ElP P m (invR P m mod x):=⟨by unfold invR;omega,by unfold invR;omega⟩
  have h4 : (tblOf P m mod).ops.mul x (invR P m mod x)=1:=by rw [hmul x _ hx hel];exact h1
  have h5:=hF.mul_inv x hx h0
  have e1 : (tblOf P m mod).ops.mul ((tblOf P m mod).ops.inv x) ((tblOf P m mod).ops.mul x (invR P m mod x))=invR P m mod x:=by
   rw [← hF.mul_assoc _ x _ hi hx hel,hF.mul_comm _ x hi hx,h5,hF.one_mul _ hel]
  rw [h4,hF.mone hi] at e1
  exact e1
 refine ⟨m,rfl,e,hqo,hF,⟨fun x z _ _=>rfl,hmul,fun x _=>rfl,hinv⟩,fun p hp h0=>?_⟩
 rw [← hinv p hp h0]
 have hi:=hF.cl.inv p hp h0
 have hm:=hF.mul_inv p hp h0
 constructor
 ·intro e1;rw [e1,hF.mone hp] at hm;exact hm
 ·intro e1;rw [e1] at hm hi ⊢;rw [hF.one_mul _ hi] at hm;exact hm
theorem hinv_all {P M : Int} {mod : List Int} (h : fieldRB P M mod=true) : ∀ p,ElP P M.toNat p→p ≠ 0→(invR P M.toNat mod p=1 ↔ p=1):=by
 obtain ⟨m,rfl,_,_,_,_,h6⟩:=eq_ops (by rw [← fieldRB_eq];exact h)
 exact h6
theorem rmatE_eq (P M : Int) (mod : List Int) (cols : Int) (L : List (List Int)) : rmatE P M mod cols L=fmatE P M mod cols L:=by
 unfold rmatE fmatE
 rw [fieldRB_eq]
 split
 ·rename_i h
  obtain ⟨m,rfl,_,hq,_⟩:=eq_ops h
  rw [Int.toNat_natCast,hq]
 ·rfl
theorem canR_eq {P M : Int} {mod : List Int} (h : fieldB P M mod=true) {L : List (List Int)} {m : Nat} (hL : Rws (tblOf P M.toNat mod).El m L) : canR (rops P M.toNat mod) L m=canS (tblOf P M.toNat mod) L m:=by
 obtain ⟨k,rfl,he,_,hF,hA,_⟩:=eq_ops h
 rw [Int.toNat_natCast] at hL ⊢
 rw [← he] at hL
 unfold canR canS
 rw [(elimTo_agr hA hF.cl hL m (Nat.le_refl _)).1]
theorem rspaceE_eq (P M : Int) (mod : List Int) (cols : Int) (L : List (List Int)) : rspaceE P M mod cols L=spaceE P M mod cols L:=by
 unfold rspaceE spaceE
 rw [rmatE_eq]
 split
 ·rename_i h0
  obtain ⟨h1,h2⟩:=fmatE_zero h0
  obtain ⟨m,rfl,_,_,hR⟩:=matE_zero h2
  rw [Int.toNat_natCast,canR_eq h1 hR]
 ·rfl
theorem rcodeE_eq (P M : Int) (mod : List Int) (N : Int) (L : List (List Int)) : rcodeE P M mod N L=codeE P M mod N L:=by
 unfold rcodeE codeE
 rw [fieldRB_eq,rspaceE_eq]
end

section
open Go.RowKit
def lstE (q : Int) (l : List Int) (n : Nat) : Int:=if l.length=n then elsE q l else 4
set_option maxHeartbeats 1600000 in
theorem rList12_any (P M : Int) (am : Option Addr) (mn cm : Nat) (a : Option Addr) (n c : Nat) (l : List Int) (k : Nat) (w : World) (hi : Ints w a n l) :
  Calls Tryz.prog 22 #[.agg #[.int .i64 P,.int .i64 M,.slice am mn cm],.slice a n c,.int .i64 k] w fun e w'=>e = .returned (.int .i64 (lstE (orderS P M) l k))∧Below w.heap.size w w':=by
 have hl:=hi.len
 go_enter Tryz.func22,Tryz.ntmps22
 go_upto_region 1 with fail
 obtain ⟨W,hW⟩ : ∃ W : World,W=w.alloc (.cells #[.int .i64 P,.int .i64 M,.slice am mn cm] 24):=⟨_,rfl⟩
 rw [← hW]
 have hbW : Below w.heap.size w W:=by rw [hW];exact below1 _ _
 have x0 : Box W w.heap.size [.int .i64 P,.int .i64 M,.slice am mn cm]:=by rw [hW];exact Box.new _ _ _ rfl
 have c0:=x0.cell 0 rfl
 have c1:=x0.cell 1 rfl
 have c2:=x0.cell 2 rfl
 clear hW x0
 by_cases h1 : n=k
 ·have HL : Hid (lstE (orderS P M) l k=elsE (orderS P M) l):=by show _=_;rw [lstE,if_pos (by omega)]
  have Hc:=Lib.hid (rEntries_any P M am mn cm a n c l W (hi.keep hbW))
  have h1' : ((n : Int) != k)=false:=by rw [show (n : Int)=k by omega];simp
  clear h1 hl
  generalize elsE (orderS P M) l=er at *
  go_wp2_with fail
  refine Hc.out.mono ?_
  rintro e w1 ⟨rfl,hb1⟩
  have hF:=Below.next hbW hb1
  go_wp2_with fail
  go_ret
  exact ⟨ret_int HL.out.symm,hF⟩
 ·have HL : Hid (lstE (orderS P M) l k=4):=by show _=_;rw [lstE,if_neg (by omega)]
  have h1' : ((n : Int) != k)=true:=by simp only [bne_iff_ne,ne_eq];omega
  clear h1 hl
  go_wp2_with fail
  go_ret
  exact ⟨ret_int HL.out.symm,hbW⟩
end

section
section
variable {O : FOps} {El : Int→Prop} {m : Nat} {L : List (List Int)}
end
theorem code_full {P M : Int} {mod : List Int} {m : Nat} {L : List (List Int)} (hE : codeE P M mod m L=0) : Rk (clV (tblOf P M.toNat mod).ops (tblOf P M.toNat mod).El L.length (colS L)) (List.range m) L.length:=by
 obtain ⟨N',e,hm1,hm64,F,hR⟩:=codeE_fld hE
 obtain rfl : m=N':=by omega
 have h6:=(spaceE_zero (codeE_zero hE).2.2.2).2
 rw [Int.toNat_natCast] at h6
 have hcan : canO (tblOf P M.toNat mod).ops m L=L:=h6
 have h:=canO_rk F hR
 rwa [hcan] at h
section
variable {P M : Int} {mod : List Int} {m : Nat} {L : List (List Int)}
end
end

section
open Go.RowKit
set_option maxHeartbeats 1000000 in
theorem listG_any {w : World} {b : Nat} {G : Tbl} (q : Nat) (x : Int) (hc : w.cell? ⟨q,0,none⟩=some (.pointer (some ⟨b,0,none⟩))) (h : GFw w b G) :
  Calls Tryz.prog 148 #[.int .i64 x,.pointer (some ⟨q,0,none⟩)] w fun e w'=>e = .returned (.bool (!(decide (0≤x) && decide (x<G.q))))∧w=w':=by
 go_enter Tryz.func148,Tryz.ntmps148
 go_wp2_with fail
 refine (gIs x h).mono ?_
 rintro e w' ⟨rfl,rfl⟩
 obtain ⟨z,hz⟩ : ∃ z,(decide (0≤x) && decide (x<G.q))=z:=⟨_,rfl⟩
 have Hz:=Lib.hid hz
 rw [hz]
 clear hz
 cases z
 ·go_wp2_with fail
  go_ret
  exact ⟨ret_bool (by rw [Hz.out];rfl),rfl⟩
 ·go_wp2_with fail
  go_ret
  exact ⟨ret_bool (by rw [Hz.out];rfl),rfl⟩
set_option maxRecDepth 100000 in
set_option maxHeartbeats 1600000 in
theorem indexLG_any (p : Int→Bool) (q : Nat) (a : Option Addr) (n c : Nat) (l : List Int) (w : World) (hi : Ints w a n l) (hf : ∀ k,k<n→Calls Tryz.prog 148 #[.int .i64 (nth l k),.pointer (some ⟨q,0,none⟩)] w fun e w'=>e = .returned (.bool (p (nth l k)))∧w=w') :
  Calls Tryz.prog 68 #[.slice a n c,.func (.func 148) #[] #[.pointer (some ⟨q,0,none⟩)]] w fun e w'=>∃ z : Int,e = .returned (.int .i64 z)∧(0≤z ↔ l.any p=true)∧w=w':=by
 have hpl:=hi.pl
 have hmax:=hi.max
 have HF:=Lib.hid hf
 have Hl:=Lib.hid hi.len
 unfold maxLen at hmax
 clear hf
 go_enter Tryz.func68,Tryz.ntmps68
 go_wp2_with fail
 go_loop [8] (fun iv=>∃ k : Nat,k≤n∧iv = .int .i64 k∧Hid (∀ j,j<k→p (nth l j)=false)) (fun iv=>n - (intOf iv).toNat)
 case atStart=>exact ⟨0,Nat.zero_le _,rfl,fun j hj=>by omega⟩
 case round =>
  obtain ⟨k,hk,rfl,hno⟩:=hrel
  by_cases hlt : k<n
  ·have ck:=hi.cell k hlt
   have hfk:=HF.out k hlt
   obtain ⟨z,hz⟩ : ∃ z,p (nth l k)=z:=⟨_,rfl⟩
   rw [hz] at hfk
   have Hk:=Lib.hid hfk
   cases z
   ·have Hn : Hid (∀ j,j<k+1→p (nth l j)=false):=fun j hj=>by
     by_cases e : j=k
     ·subst e;exact hz
     ·exact hno.out j (by omega)
    clear hz hfk hno
    go_wp2_with fail
    refine Hk.out.mono ?_
    rintro e w' ⟨rfl,rfl⟩
    go_wp2_with fail
    go_round
    case rel=>exact ⟨k+1,by omega,by go_num,Hn.out⟩
    case measure=>simp [intOf] <;> omega
   ·have Hy : Hid (l.any p=true):=by
     show _=_
     rw [List.any_eq_true]
     exact ⟨nth l k,nth_mem (by rw [Hl.out];exact hlt),hz⟩
    clear hz hfk hno
    go_wp2_with fail
    refine Hk.out.mono ?_
    rintro e w' ⟨rfl,rfl⟩
    go_wp2_with fail
    go_ret
    exact ⟨k,rfl,⟨fun _=>by first | exact Hy.out | exact List.any_eq_true.1 Hy.out,fun _=>Int.natCast_nonneg _⟩,rfl⟩
  ·obtain rfl : k=n:=by omega
   have Hy : Hid (l.any p=false):=by
    show _=_
    rw [List.any_eq_false]
    intro x hx
    obtain ⟨j,hj,rfl⟩:=List.mem_iff_getElem.1 hx
    have:=hno.out j (by rw [← Hl.out];exact hj)
    rw [nth_getElem hj] at this
    rw [this];decide
   go_wp2_with fail
   go_ret
   exact ⟨-1,rfl,⟨fun h=>absurd h (by omega),fun h=>by have h2 : l.any p=true:=(by first | exact h | exact List.any_eq_true.2 h);rw [Hy.out] at h2;exact absurd h2 (by decide)⟩,rfl⟩
theorem containsLG_any (p : Int→Bool) (q : Nat) (a : Option Addr) (n c : Nat) (l : List Int) (w : World) (hi : Ints w a n l) (hf : ∀ k,k<n→Calls Tryz.prog 148 #[.int .i64 (nth l k),.pointer (some ⟨q,0,none⟩)] w fun e w'=>e = .returned (.bool (p (nth l k)))∧w=w') :
  Calls Tryz.prog 117 #[.slice a n c,.func (.func 148) #[] #[.pointer (some ⟨q,0,none⟩)]] w fun e w'=>e = .returned (.bool (l.any p))∧w=w':=by
 have Hc:=Lib.hid (indexLG_any p q a n c l w hi hf)
 clear hf
 go_enter Tryz.func117,Tryz.ntmps117
 go_wp2_with fail
 refine Hc.out.mono ?_
 rintro e w' ⟨z,rfl,hz,rfl⟩
 by_cases h0 : 0≤z
 ·have Hz : Hid (l.any p=true):=hz.1 h0
  have h0' : decide (0≤z)=true:=by simpa using h0
  clear hz h0
  go_wp2_with fail
  go_ret
  exact ⟨ret_bool Hz.out.symm,rfl⟩
 ·have Hz : Hid (l.any p=false):=by
   show _=_
   cases h : l.any p
   ·rfl
   ·exact absurd (hz.2 h) h0
  have h0' : decide (0≤z)=false:=by simpa using h0
  clear hz h0
  go_wp2_with fail
  go_ret
  exact ⟨ret_bool Hz.out.symm,rfl⟩
theorem any_els (q : Int) (l : List Int) : l.any (fun x=>!(decide (0≤x) && decide (x<q))) = !(elsQ q l):=by
 unfold elsQ
 induction l with
 | nil=>rfl
 | cons x l ih =>
  rw [List.any_cons,List.all_cons,ih]
  unfold isQ
  cases (decide (0≤x) && decide (x<q)) <;> simp
set_option maxRecDepth 100000 in
set_option maxHeartbeats 4000000 in
theorem codeListG_any (P M : Int) (am : Option Addr) (mn cm : Nat) (mod : List Int) (ax : Option Addr) (nx cx : Nat) (x : List Int) (n : Nat) (w : World) (hmod : Ints w am mn mod) (hx : Ints w ax nx x) (hB : fieldB P M mod=true) :
  Calls Tryz.prog 97 #[.agg #[.int .i64 P,.int .i64 M,.slice am mn cm],.slice ax nx cx,.int .i64 n] w fun e w'=>e = .returned (.int .i64 (lstE (tblOf P M.toNat mod).q x n))∧Below w.heap.size w w':=by
 have hxl:=hx.len
 go_enter Tryz.func97,Tryz.ntmps97
 go_upto_region 1 with fail
 obtain ⟨W,hW⟩ : ∃ W : World,W=w.alloc (.cells #[.int .i64 P,.int .i64 M,.slice am mn cm] 24):=⟨_,rfl⟩
 rw [← hW]
 have hbW : Below w.heap.size w W:=by rw [hW];exact below1 _ _
 have x0 : Box W w.heap.size [.int .i64 P,.int .i64 M,.slice am mn cm]:=by rw [hW];exact Box.new _ _ _ rfl
 have c0:=x0.cell 0 rfl
 have c1:=x0.cell 1 rfl
 have c2:=x0.cell 2 rfl
 clear hW x0
 by_cases hnx : nx=n
 rotate_left
 ·have hnn : ((nx : Int) != n)=true:=by simp;omega
  have HL : Hid (lstE (tblOf P M.toNat mod).q x n=4):=by show _=_;rw [lstE,if_neg (by omega)]
  clear hnx hxl
  go_wp2_with fail
  go_ret
  exact ⟨ret_int HL.out.symm,hbW⟩
 obtain rfl : nx=n:=hnx
 have hnn : ((nx : Int) != nx)=false:=by simp
 have HL : Hid (lstE (tblOf P M.toNat mod).q x nx=if elsQ (tblOf P M.toNat mod).q x=true then 0 else 2):=by show _=_;rw [lstE,if_pos hxl];rfl
 clear hxl
 go_wp2_with fail
 refine (fieldNew_any P M am mn cm mod W (hmod.keep hbW)).mono ?_
 rintro e w4 (⟨hB2,_,_⟩ | ⟨_,b,rfl,hG,hbl,hb4⟩)
 ·rw [hB] at hB2;cases hB2
 have hbw4:=Below.next hbW hb4
 have hb5:=below1 w4 (.cells #[.pointer (some ⟨b,0,none⟩)] 109)
 have hc5:=cell_new w4 (.pointer (some ⟨b,0,none⟩)) 109
 have hcc:=containsLG_any (fun y=>!(decide (0≤y) && decide (y<(tblOf P M.toNat mod).q))) w4.heap.size ax nx cx x _ (hx.keep (Below.next hbw4 hb5)) fun k hk=>listG_any w4.heap.size (nth x k) hc5 (hG.gf.keep hb5)
 rw [any_els] at hcc
 obtain ⟨z,hz⟩ : ∃ z,elsQ (tblOf P M.toNat mod).q x=z:=⟨_,rfl⟩
 rw [hz] at hcc HL
 have Hc:=Lib.hid hcc
 have hF:=Below.next hbw4 hb5
 have HF:=Lib.hid hF
 clear c0 c1 c2 hG hbl hB hF hcc hz
 cases z
 ·have HL2 : Hid (lstE (tblOf P M.toNat mod).q x nx=2):=by show _=_;rw [HL.out];rfl
  go_wp2_with fail
  refine Hc.out.mono ?_
  rintro e w' ⟨rfl,rfl⟩
  go_wp2_with fail
  go_ret
  exact ⟨ret_int HL2.out.symm,HF.out⟩
 ·have HL2 : Hid (lstE (tblOf P M.toNat mod).q x nx=0):=by show _=_;rw [HL.out];rfl
  go_wp2_with fail
  refine Hc.out.mono ?_
  rintro e w' ⟨rfl,rfl⟩
  go_wp2_with fail
  go_ret
  exact ⟨ret_int HL2.out.symm,HF.out⟩
end

section
open Go.RowKit
theorem rCheck_any (P M : Int) (am : Option Addr) (mn cm : Nat) (mod : List Int) (N : Int) (a : Option Addr) (n c : Nat) (L : List (List Int)) (w : World) (hmod : Ints w am mn mod) (hi : Mat w a n L) :
  Calls Tryz.prog 47 #[.agg #[.int .i64 P,.int .i64 M,.slice am mn cm,.int .i64 N,.slice a n c]] w fun e w'=>e = .returned (.int .i64 (codeE P M mod N L))∧Below w.heap.size w w':=by
 rw [← rcodeE_eq]
 exact rCodeCheck_any P M am mn cm mod N a n c L w hmod hi hinv_all
end

section
open Go.RowKit
theorem profTo_len (l : List Int) (n : Nat) : ∀ k,(profTo l n k).length=n+1
 | 0=>by simp [profTo]
 | k+1=>by rw [profTo,List.length_set];exact profTo_len l n k
end

section
open Go.RowKit
section
variable {O : FOps} {El : Int→Prop} {m : Nat} {L : List (List Int)}
theorem fir_some (F : Fld O El) (hL : Rws El m L) (hm : m≤64) {r : Int} (hr : r≤L.length) : Asc 0 m (firS O L m r)∧r≤dimZ O L m (firS O L m r)∧∀ t,Asc 0 m t→r≤dimZ O L m t→(firS O L m r).length≤t.length:=by
 have hfull : bitsTo (2 ^ m - 1) m ∈ allS m:=mem_allS.2 (bits_asc _ _)
 have hp2 : 0<2 ^ m:=Nat.two_pow_pos m
 have hd : pD O L m r (bitsTo (2 ^ m - 1) m)=true:=by
  unfold pD
  rw [decide_eq_true_eq,dimZ_bits F hL (by omega),dims_nth F hL (by omega)]
  have e : offTo (2 ^ m - 1) m=[]:=by
   refine List.eq_nil_iff_forall_not_mem.2 fun y hy=>?_
   obtain ⟨j,h1,_,h3⟩:=mem_offTo.1 hy
   rw [Nat.testBit_two_pow_sub_one] at h3
   simp at h3;omega
  rw [e]
  have:=rkQ_le O L []
  simp at this
  omega
 cases hf : (allS m).find? (pD O L m r) with
 | none=>exact absurd hd (List.find?_eq_none.1 hf _ hfull)
 | some t =>
  have e : firS O L m r=t:=by unfold firS;rw [hf];rfl
  obtain ⟨k1,k2,k3⟩:=find_first (allS_pair m) hf
  rw [e]
  refine ⟨mem_allS.1 k2,by unfold pD at k1;simpa using k1,fun u hu hru=>?_⟩
  rcases k3 u (mem_allS.2 hu) (by unfold pD;exact decide_eq_true hru) with h | h
  ·rw [h];exact Nat.le_refl _
  ·rw [lessS_iff] at h;omega
theorem prof_iff (l : List Int) (n : Nat) {i : Nat} (hi : i≤n) : ∀ k,k≤2 ^ n→(0≤nth (profTo l n k) i)∧(∀ x,x<k→(bitsTo x n).length=i→nth l x≤nth (profTo l n k) i)∧(nth (profTo l n k) i=0∨∃ x,x<k∧(bitsTo x n).length=i∧nth (profTo l n k) i=nth l x)
 | 0,_=>by
  have e : nth (profTo l n 0) i=0:=by rw [profTo];simp [nth,List.getD_eq_getElem?_getD,List.getElem?_replicate];split <;> rfl
  rw [e]
  exact ⟨Int.le_refl _,fun x hx=>by omega,.inl rfl⟩
 | k+1,hk=>by
  obtain ⟨h1,h2,h3⟩:=prof_iff l n hi k (by omega)
  have hbl:=bitsTo_len k n
  have e : nth (profTo l n (k+1)) i=if i=(bitsTo k n).length then max (nth (profTo l n k) (bitsTo k n).length) (nth l k) else nth (profTo l n k) i:=by
   rw [profTo,nth_set _ _ _ _ (by rw [profTo_len];omega)]
  rw [e]
  by_cases hc : i=(bitsTo k n).length
  ·rw [if_pos hc,← hc]
   refine ⟨by omega,fun x hx hxl=>?_,?_⟩
   ·by_cases e2 : x=k
    ·subst e2;omega
    ·have:=h2 x (by omega) hxl;omega
   ·by_cases h4 : nth l k≤nth (profTo l n k) i
    ·rw [Int.max_eq_left h4]
     rcases h3 with h3 | ⟨x,a1,a2,a3⟩
     ·exact .inl h3
     ·exact .inr ⟨x,by omega,a2,a3⟩
    ·rw [Int.max_eq_right (by omega)]
     exact .inr ⟨k,by omega,hc.symm,rfl⟩
  ·rw [if_neg hc]
   refine ⟨h1,fun x hx hxl=>?_,?_⟩
   ·by_cases e2 : x=k
    ·subst e2;exact absurd hxl.symm hc
    ·exact h2 x (by omega) hxl
   ·rcases h3 with h3 | ⟨x,a1,a2,a3⟩
    ·exact .inl h3
    ·exact .inr ⟨x,by omega,a2,a3⟩
def mxTo (f : List Int→Int) (T : List (List Int)) : Nat→Int
 | 0=>0
 | j+1=>max (mxTo f T j) (f (nthR T j))
def prfR (O : FOps) (L : List (List Int)) (m i : Nat) : Int:=mxTo (dimZ O L m) (setsS m i 0) (setsS m i 0).length
theorem mx_iff (f : List Int→Int) (T : List (List Int)) : ∀ k,0≤mxTo f T k∧(∀ j,j<k→f (nthR T j)≤mxTo f T k)∧(mxTo f T k=0∨∃ j,j<k∧mxTo f T k=f (nthR T j))
 | 0=>⟨Int.le_refl _,fun j hj=>by omega,.inl rfl⟩
 | k+1=>by
  obtain ⟨h1,h2,h3⟩:=mx_iff f T k
  rw [mxTo]
  refine ⟨by omega,fun j hj=>?_,?_⟩
  ·by_cases e : j=k
   ·subst e;omega
   ·have:=h2 j (by omega);omega
  ·by_cases h4 : f (nthR T k)≤mxTo f T k
   ·rw [Int.max_eq_left h4]
    rcases h3 with h3 | ⟨j,a1,a2⟩
    ·exact .inl h3
    ·exact .inr ⟨j,by omega,a2⟩
   ·rw [Int.max_eq_right (by omega)]
    exact .inr ⟨k,by omega,rfl⟩
theorem prof_at (F : Fld O El) (hL : Rws El m L) (hm : m≤64) {i : Nat} (hi : i≤m) : nth (profS (dimsS O m L) m) i=prfR O L m i:=by
 unfold profS prfR
 obtain ⟨h1,h2,h3⟩:=prof_iff (dimsS O m L) m hi (2 ^ m) (Nat.le_refl _)
 obtain ⟨g1,g2,g3⟩:=mx_iff (dimZ O L m) (setsS m i 0) (setsS m i 0).length
 apply Int.le_antisymm
 ·rcases h3 with h3 | ⟨x,a1,a2,a3⟩
  ·rw [h3];exact g1
  ·rw [a3,← dimZ_bits F hL a1]
   obtain ⟨j,hj,e⟩:=mem_nthR (mem_setsS.2 ⟨a2,bits_asc x m⟩)
   rw [← e];exact g2 j hj
 ·rcases g3 with g3 | ⟨j,a1,a2⟩
  ·rw [g3];exact h1
  ·obtain ⟨b1,b2⟩:=mem_setsS.1 (nthR_mem a1)
   obtain ⟨x,hx,e⟩:=asc_bits hm b2
   rw [a2,← e,dimZ_bits F hL hx]
   exact h2 x hx (by rw [e];exact b1)
def wtsR (O : FOps) (L : List (List Int)) (m k : Nat) : List Int:=(List.range k).map fun (i : Nat)=>((firS O L m ((i : Int)+1)).length : Int)
theorem wts_at (F : Fld O El) (hL : Rws El m L) (hm : m≤64) {r : Int} (h1 : 1≤r) (hr : r≤L.length) : ixGe (profS (dimsS O m L) m) r=((firS O L m r).length : Int):=by
 obtain ⟨a1,a2,a3⟩:=fir_some F hL hm hr
 have hlen : (profS (dimsS O m L) m).length=m+1:=profTo_len _ _ _
 have hal:=asc_len a1 (Nat.zero_le m)
 have h:=ixGo_at r (profS (dimsS O m L) m) (firS O L m r).length 0 (by omega) (fun j hj=>?_) ?_
 ·unfold ixGe;rw [h];simp
 ·rw [prof_at F hL hm (by omega)]
  obtain ⟨g1,g2,g3⟩:=mx_iff (dimZ O L m) (setsS m j 0) (setsS m j 0).length
  unfold prfR
  rcases g3 with g3 | ⟨q,b1,b2⟩
  ·omega
  ·obtain ⟨c1,c2⟩:=mem_setsS.1 (nthR_mem b1)
   rw [b2]
   rcases Int.lt_or_le (dimZ O L m (nthR (setsS m j 0) q)) r with h | h
   ·exact h
   ·have:=a3 _ c2 h;omega
 ·rw [prof_at F hL hm (by omega)]
  obtain ⟨g1,g2,g3⟩:=mx_iff (dimZ O L m) (setsS m (firS O L m r).length 0) (setsS m (firS O L m r).length 0).length
  obtain ⟨q,hq,e⟩:=mem_nthR (mem_setsS.2 ⟨rfl,a1⟩)
  have:=g2 q hq
  rw [e] at this
  unfold prfR;omega
theorem wts_eq (F : Fld O El) (hL : Rws El m L) (hm : m≤64) : wtsS O m L=wtsR O L m L.length:=by
 unfold wtsS wtsTo wtsR
 refine List.map_congr_left fun i hi=>?_
 rw [List.mem_range] at hi
 exact wts_at F hL hm (by omega) (by omega)
end
end

section
open Go.RowKit
section
variable {O : FOps} {El : Int→Prop} {m : Nat} {A B L : List (List Int)}
theorem clV_iff {l : List Nat} {x : Nat} (hl : ∀ y ∈ l,y<m) (hx : x<m) : clV O El A.length (colS A) l x ↔ ∀ f,RS O El m A f→(∀ y ∈ l,f y=0)→f x=0:=by
 constructor
 ·rintro h f ⟨e,he,h2⟩ h0
  rw [h2 x hx]
  exact h e he fun y hy=>by rw [← h2 y (hl y hy)];exact h0 y hy
 ·intro h φ hφ h0
  exact h (fun x=>φ (colS A x)) ⟨φ,hφ,fun _ _=>rfl⟩ h0
theorem rk_sub (F : Fld O El) (hA : Rws El m A) (hL : Rws El m L) (hs : RSub O El m A L) {Z : List Nat} (hZ : ∀ z ∈ Z,z<m) (h0 : ∀ r ∈ A,∀ z ∈ Z,nth r z=0) {z : Nat} (hz : Rk (clV O El L.length (colS L)) Z z) :
  ∀ {l : List Nat} {s : Nat},(∀ y ∈ l,y<m)→Rk (clV O El A.length (colS A)) l s→∀ {n},Rk (clV O El L.length (colS L)) (l ++ Z) n→s+z≤n:=by
 intro l s hl hr
 have hstep : ∀ {l : List Nat} {x : Nat},(∀ y ∈ l,y<m)→x<m→clV O El L.length (colS L) (l ++ Z) x→clV O El A.length (colS A) l x:=fun {l x} hl hx hc=>by
  rw [clV_iff (m:=m) hl hx]
  intro f hf hf0
  rw [clV_iff (m:=m) (fun y hy=>by rcases List.mem_append.1 hy with h | h;exact hl y h;exact hZ y h) hx] at hc
  refine hc f (hs.rs hf) fun y hy=>?_
  rcases List.mem_append.1 hy with h | h
  ·exact hf0 y h
  ·exact RS.at0 F hA hf (hZ y h) fun r hr=>h0 r hr y h
 induction hr with
 | nil=>intro n hn;rw [List.nil_append] at hn;rw [hz.uniq hn];omega
 | dep x hx _ ih =>
  intro n hn
  rw [List.cons_append] at hn
  cases hn with
  | dep _ _ h2=>exact ih (fun y hy=>hl y (by simp [hy])) h2
  | ind _ _ h2=>have:=ih (fun y hy=>hl y (by simp [hy])) h2;omega
 | ind x hx _ ih =>
  intro n hn
  rw [List.cons_append] at hn
  cases hn with
  | dep _ h1 h2=>exact absurd (hstep (fun y hy=>hl y (by simp [hy])) (hl x (by simp)) h1) hx
  | ind _ _ h2=>have:=ih (fun y hy=>hl y (by simp [hy])) h2;omega
end
end

section
open Go.RowKit
set_option maxRecDepth 100000 in
set_option maxHeartbeats 4000000 in
theorem vecO_any (P M : Int) (am : Option Addr) (mn cm : Nat) (mod : List Int) (ax : Option Addr) (cx : Nat) (x : List Int) (m : Nat) (a : Option Addr) (n c : Nat) (L : List (List Int)) (w : World) (hmod : Ints w am mn mod) (hx : Ints w ax n x) (hi : Mat w a n L)
  (hfB : fieldB P M mod=true) (hR : Rws (tblOf P M.toNat mod).El m L) (hxe : ∀ k,k<n→(tblOf P M.toNat mod).El (nth x k)) (hm1 : 1≤m) (hm : m≤64) (hn : n≤256) {B : Nat} (hBw : B≤w.heap.size) :
  Calls Tryz.prog 98 #[.agg #[.int .i64 P,.int .i64 M,.slice am mn cm],.slice ax n cx,.agg #[.int .i64 m,.slice a n c]] w
   fun e w'=>∃ a1 c1,e = .returned (.tuple #[.slice a1 m c1,.int .i64 0])∧w'.ownsRow B 3 1 (.slice a1 m c1) m ((cmbTo (tblOf P M.toNat mod).ops m x L n).map (Value.int .i64))∧Below w.heap.size w w':=by
 have hLl:=hi.len
 have F:=fieldB_fld hfB
 have hmE1 : matE (tblOf P M.toNat mod).q m L=0:=(fmatE_zero (fmatE_mk hfB (show m≤256 by omega) (show L.length≤256 by omega) hR)).2
 have hel : elsE (tblOf P M.toNat mod).q x=0:=by
  unfold elsE
  rw [if_pos]
  unfold elsQ isQ
  rw [List.all_eq_true]
  intro y hy
  obtain ⟨k,hk,rfl⟩:=List.mem_iff_getElem.1 hy
  have h1:=hxe k (by rw [← hx.len];exact hk)
  rw [nth_getElem hk] at h1
  unfold Tbl.El at h1
  simp
  exact h1
 have hpla:=hi.pl
 obtain ⟨G,hGG⟩ : ∃ G,tblOf P M.toNat mod=G:=⟨_,rfl⟩
 rw [hGG] at hR F hmE1 hxe hel ⊢
 have HK:=Lib.hid (And.intro hfB (And.intro hR (And.intro hmE1 (And.intro hxe (And.intro F hel)))))
 have HGG:=Lib.hid hGG
 clear hfB hR hmE1 hxe F hLl hGG hel
 go_enter Tryz.func98,Tryz.ntmps98
 go_wp2_with fail
 obtain ⟨W,hW⟩ : ∃ W : World,W=((w.alloc (.cells #[.int .i64 P,.int .i64 M,.slice am mn cm] 24)).alloc (.cells #[.int .i64 m,.slice a n c] 73)).alloc (.cells #[.int .i64 m,.slice a n c] 73):=⟨_,rfl⟩
 rw [← hW]
 have hbW : Below w.heap.size w W:=by rw [hW];exact below3 _ _ _ _
 have x1 : Box W (w.heap.size+1) [.int .i64 m,.slice a n c]:=by rw [hW];exact (Box.new _ _ _ (by simp)).alloc _
 have q3 : ∀ i v,[Value.int .i64 m,.slice a n c][i]? = some v→W.cell? ⟨w.heap.size+1+1,i,none⟩=some v:=fun i v hv=>by
  have h : Box W (w.heap.size+1+1) [.int .i64 m,.slice a n c]:=by rw [hW];exact Box.new _ _ _ (by simp)
  exact h.cell i hv
 have hMs : Mats W (some ⟨w.heap.size+1+1,0,none⟩) 1 [((m : Int),L)]:=⟨rfl,fun _=>rfl,by unfold maxLen;omega,fun i hi'=>by
  have : i=0:=by simp at hi';omega
  subst this
  exact ⟨a,n,c,by simpa using q3 0 _ rfl,by simpa using q3 1 _ rfl,hi.keep hbW⟩⟩
 have HX:=Lib.hid x1
 have HbW:=Lib.hid hbW
 clear hW x1 q3
 refine (open_any P M am mn cm mod _ 1 1 _ W (hmod.keep hbW) hMs).mono ?_
 rintro e w1 ⟨hb1,hcase⟩
 have hms : matsE (tblOf P M.toNat mod).q [((m : Int),L)]=0:=by
  rw [HGG.out]
  simp [matsE,HK.out.2.2.1]
 rcases hcase with ⟨hB,_⟩ | ⟨_,er,h0,h1,_⟩ | ⟨_,_,b,rfl,hG,hbl⟩
 ·rw [HK.out.1] at hB;exact absurd hB (by decide)
 ·rw [hms] at h1;exact absurd h1.symm h0
 rw [HGG.out] at hG
 have hbw1:=Below.next hbW hb1
 have r1:=HX.out.keep hb1
 have m0:=r1.cell 0 rfl
 have m1:=r1.cell 1 rfl
 have hnn : ((n : Int) != n)=false:=by simp
 have hx1:=hx.keep hbw1
 have hi1:=hi.keep hbw1
 have he:=entries_any ax n cx x hG hx1
 rw [HK.out.2.2.2.2.2] at he
 have He:=Lib.hid he
 have Hv:=Lib.hid (vec_any ax cx x a n c L m hG HK.out.2.2.2.2.1 hx1 hi1 HK.out.2.2.2.1 HK.out.2.1 hm1 (by omega) (by omega))
 clear hMs hbW r1 hbl hmod hms he hx1 hi1 hG hx hi
 go_wp2_with fail
 refine He.out.mono ?_
 rintro e w2 ⟨rfl,rfl⟩
 go_wp2_with fail
 refine Hv.out.mono ?_
 rintro e w3 ⟨a3,c3,rfl,hown,hb3⟩
 have hF:=Lib.hid (And.intro (own_mono hown (Nat.le_trans hBw hbw1.size)) (Below.next hbw1 hb3))
 clear hown
 go_wp2_with fail
 go_ret2
 exact ⟨a3,c3,rfl,hF.out.1,hF.out.2⟩
set_option maxRecDepth 100000 in
set_option maxHeartbeats 4000000 in
theorem encodeO_any (P M : Int) (am : Option Addr) (mn cm : Nat) (mod : List Int) (m : Nat) (a : Option Addr) (n c : Nat) (L : List (List Int)) (ax : Option Addr) (nx cx : Nat) (x : List Int) (w : World) (hmod : Ints w am mn mod) (hi : Mat w a n L) (hx : Ints w ax nx x) (hE : codeE P M mod m L=0) {B : Nat} (hBw : B≤w.heap.size) :
  Calls Tryz.prog 50 #[.agg #[.int .i64 P,.int .i64 M,.slice am mn cm,.int .i64 m,.slice a n c],.slice ax nx cx] w fun e w'=>Below w.heap.size w w' ∧
   ((lstE (tblOf P M.toNat mod).q x n ≠ 0∧e = .returned (.tuple #[.slice none 0 0,.int .i64 (lstE (tblOf P M.toNat mod).q x n)])) ∨
    (lstE (tblOf P M.toNat mod).q x n=0∧∃ a1 c1,e = .returned (.tuple #[.slice a1 m c1,.int .i64 0])∧w'.ownsRow B 3 1 (.slice a1 m c1) m ((cmbTo (tblOf P M.toNat mod).ops m x L n).map (Value.int .i64)))):=by
 obtain ⟨N',em,hm1,hm64,F,hR⟩:=codeE_fld hE
 obtain rfl : m=N':=by omega
 have hn256 : n≤256:=by rw [← hi.len];exact (codeE_rws hE).choose_spec.2.2.2.1
 have hfB:=(codeE_zero hE).1
 have HCk : Hid (∀ V,Below w.heap.size w V→Calls Tryz.prog 76 #[.agg #[.int .i64 P,.int .i64 M,.slice am mn cm,.int .i64 m,.slice a n c]] V fun e w'=>e = .returned (.int .i64 0)∧Below V.heap.size V w'):=fun V hV=>by
  have h:=codeCheck_any P M am mn cm mod m a n c L V (hmod.keep hV) (hi.keep hV)
  rw [hE] at h
  exact h
 have HLi : Hid (∀ V,Below w.heap.size w V→Calls Tryz.prog 97 #[.agg #[.int .i64 P,.int .i64 M,.slice am mn cm],.slice ax nx cx,.int .i64 n] V fun e w'=>e = .returned (.int .i64 (lstE (tblOf P M.toNat mod).q x n))∧Below V.heap.size V w'):=fun V hV =>
  codeListG_any P M am mn cm mod ax nx cx x n V (hmod.keep hV) (hx.keep hV) hfB
 have HVe : Hid (lstE (tblOf P M.toNat mod).q x n=0→∀ V,Below w.heap.size w V→Calls Tryz.prog 98 #[.agg #[.int .i64 P,.int .i64 M,.slice am mn cm],.slice ax nx cx,.agg #[.int .i64 m,.slice a n c]] V fun e w'=>∃ a1 c1,e = .returned (.tuple #[.slice a1 m c1,.int .i64 0])∧w'.ownsRow B 3 1 (.slice a1 m c1) m ((cmbTo (tblOf P M.toNat mod).ops m x L n).map (Value.int .i64))∧Below V.heap.size V w'):=fun hz V hV=>by
  unfold lstE at hz
  by_cases hl : x.length=n
  ·rw [if_pos hl] at hz
   unfold elsE at hz
   by_cases hq : elsQ (tblOf P M.toNat mod).q x=true
   ·have hnx : nx=n:=by rw [← hx.len];exact hl
    subst hnx
    refine vecO_any (B:=B) (hBw:=Nat.le_trans hBw hV.size) P M am mn cm mod ax cx x m a nx c L V (hmod.keep hV) (hx.keep hV) (hi.keep hV) hfB hR (fun k hk=>?_) hm1 hm64 hn256
    unfold elsQ isQ at hq
    rw [List.all_eq_true] at hq
    have h1:=hq _ (nth_mem (l:=x) (i:=k) (by omega))
    simp at h1
    unfold Tbl.El
    exact h1
   ·rw [if_neg hq] at hz;omega
  ·rw [if_neg hl] at hz;omega
 obtain ⟨er,her⟩ : ∃ er,lstE (tblOf P M.toNat mod).q x n=er:=⟨_,rfl⟩
 obtain ⟨X,hX⟩ : ∃ X,cmbTo (tblOf P M.toNat mod).ops m x L n=X:=⟨_,rfl⟩
 rw [her] at HLi HVe ⊢
 rw [hX] at HVe ⊢
 clear her hX hfB hE em F hR hmod hi hx hBw
 go_enter Tryz.func50,Tryz.ntmps50
 go_wp2_with fail
 obtain ⟨W,hW⟩ : ∃ W : World,W=w.alloc (.cells #[.int .i64 P,.int .i64 M,.slice am mn cm,.int .i64 m,.slice a n c] 27):=⟨_,rfl⟩
 rw [← hW]
 have hbW : Below w.heap.size w W:=by rw [hW];exact below1 _ _
 have x0 : Box W w.heap.size [.int .i64 P,.int .i64 M,.slice am mn cm,.int .i64 m,.slice a n c]:=by rw [hW];exact Box.new _ _ _ rfl
 have HS : Hid (∀ V,Below W.heap.size W V→V.cell? ⟨w.heap.size,0,none⟩=some (.int .i64 P)∧V.cell? ⟨w.heap.size,1,none⟩=some (.int .i64 M)∧V.cell? ⟨w.heap.size,2,none⟩=some (.slice am mn cm)∧V.cell? ⟨w.heap.size,3,none⟩=some (.int .i64 m)∧V.cell? ⟨w.heap.size,4,none⟩=some (.slice a n c)):=fun V hV=>by
  have x1:=x0.keep hV
  exact ⟨x1.cell 0 rfl,x1.cell 1 rfl,x1.cell 2 rfl,x1.cell 3 rfl,x1.cell 4 rfl⟩
 have HbW:=Lib.hid hbW
 have Hck:=Lib.hid (HCk.out W hbW)
 clear hW x0 hbW HCk
 refine Hck.out.mono ?_
 rintro e w1 ⟨rfl,hb1⟩
 obtain ⟨c0,c1,c2,c3,c4⟩:=HS.out w1 hb1
 have Hli:=Lib.hid (HLi.out w1 (Below.next HbW.out hb1))
 clear Hck HLi
 go_wp2_with fail
 refine Hli.out.mono ?_
 rintro e w2 ⟨rfl,hb2⟩
 have hB2:=Below.next hb1 hb2
 clear c0 c1 c2 c3 c4 Hli hb1
 by_cases hz : er=0
 rotate_left
 ·have hz' : (er != 0)=true:=by simpa using hz
  have Hz:=Lib.hid hz
  have hF:=Below.next HbW.out hB2
  clear hz
  go_wp2_with fail
  go_ret2
  exact ⟨hF,.inl ⟨Hz.out,rfl⟩⟩
 subst hz
 have HV:=Lib.hid (HVe.out rfl)
 have HS2 : Hid (∀ V,Below w2.heap.size w2 V→V.cell? ⟨w.heap.size,0,none⟩=some (.int .i64 P)∧V.cell? ⟨w.heap.size,1,none⟩=some (.int .i64 M)∧V.cell? ⟨w.heap.size,2,none⟩=some (.slice am mn cm)∧V.cell? ⟨w.heap.size,3,none⟩=some (.int .i64 m)∧V.cell? ⟨w.heap.size,4,none⟩=some (.slice a n c)∧Below w2.heap.size w2 V):=fun V hV=>by
  obtain ⟨q0,q1,q2,q3,q4⟩:=HS.out V (Below.next hB2 hV)
  exact ⟨q0,q1,q2,q3,q4,hV⟩
 have Hbw:=Lib.hid (Below.next HbW.out hB2)
 clear HVe hB2 hb2
 go_wp2_with fail
 go_cut [4,5] (fun u v wx=>∃ a1 c1,u = .slice a1 m c1∧v = .int .i64 0∧wx.ownsRow B 3 1 (.slice a1 m c1) m (X.map (Value.int .i64))∧Below w2.heap.size w2 wx)
 case first =>
  go_region_held3 (fun V=>V.cell? ⟨w.heap.size,0,none⟩=some (.int .i64 P)∧V.cell? ⟨w.heap.size,1,none⟩=some (.int .i64 M)∧V.cell? ⟨w.heap.size,2,none⟩=some (.slice am mn cm)∧V.cell? ⟨w.heap.size,3,none⟩=some (.int .i64 m)∧V.cell? ⟨w.heap.size,4,none⟩=some (.slice a n c)∧Below w2.heap.size w2 V)
   ((refine HS2.out _ ?_;first | exact hb8 | exact hb7 | exact (Below.refl _ _).drew | assumption | (go_split_ands;assumption)))
   (first
    | (go_at_call 95;((with_reducible refine (gen_any P M am mn cm m a n c _).mono ?_);rintro e w7 ⟨rfl,hb7'⟩;have hb7 : Below w2.heap.size w2 w7:=(by go_split_ands;exact Below.next (by assumption) hb7')))
    | (go_at_call 98;((with_reducible refine (HV.out _ (Below.next Hbw.out (by go_split_ands;assumption))).mono ?_);rintro e w8 ⟨a8,k8,rfl,hI8,hb8'⟩;have hb8 : Below w2.heap.size w2 w8:=(by go_split_ands;exact Below.next (by assumption) hb8'))))
  all_goals (go_wp2_with fail;go_meet;exact ⟨a8,k8,rfl,rfl,hI8,hb8⟩)
 obtain ⟨a8,k8,rfl,rfl,hI8,hb8⟩:=hcut
 generalize wc=V at *
 have hF:=Lib.hid (And.intro (Below.next Hbw.out hb8) hI8)
 clear hI8
 go_wp2_with fail
 go_ret2
 exact ⟨hF.out.1,a8,k8,rfl,hF.out.2⟩
end

section
open Go.RowKit
set_option maxRecDepth 100000 in
set_option maxHeartbeats 3200000 in
theorem rSmall29_any (P M : Int) (am : Option Addr) (mn cm : Nat) (mod : List Int) (N : Int) (a : Option Addr) (n c : Nat) (L : List (List Int)) (w : World) (hmod : Ints w am mn mod) (hi : Mat w a n L) :
  Calls Tryz.prog 27 #[.agg #[.int .i64 P,.int .i64 M,.slice am mn cm,.int .i64 N,.slice a n c]] w (SomeBool w):=by
 have H : Hid (∀ V,Below w.heap.size w V→Calls Tryz.prog 44 #[.agg #[.int .i64 P,.int .i64 M,.slice am mn cm,.int .i64 N,.slice a n c],.int .i64 120] V (SomeBool V)):=fun V hV=>rFew12_any P M am mn cm N a n c 120 L V (hi.keep hV) (by omega)
 have H2 : Hid (∀ V,Below w.heap.size w V→Calls Tryz.prog 47 #[.agg #[.int .i64 P,.int .i64 M,.slice am mn cm,.int .i64 N,.slice a n c]] V fun e w'=>e = .returned (.int .i64 (codeE P M mod N L))∧Below V.heap.size V w'):=fun V hV=>rCheck_any P M am mn cm mod N a n c L V (hmod.keep hV) (hi.keep hV)
 clear hi hmod
 go_enter Tryz.func27,Tryz.ntmps27
 go_upto_region 1 with fail
 obtain ⟨W,hW⟩ : ∃ W : World,W=w.alloc (.cells #[.int .i64 P,.int .i64 M,.slice am mn cm,.int .i64 N,.slice a n c] 27):=⟨_,rfl⟩
 rw [← hW]
 have hbW : Below w.heap.size w W:=by rw [hW];exact below1 _ _
 have x0 : Box W w.heap.size [.int .i64 P,.int .i64 M,.slice am mn cm,.int .i64 N,.slice a n c]:=by rw [hW];exact Box.new _ _ _ rfl
 have HX:=Lib.hid x0
 have c0:=x0.cell 0 rfl
 have c1:=x0.cell 1 rfl
 have c2:=x0.cell 2 rfl
 have c3:=x0.cell 3 rfl
 have c4:=x0.cell 4 rfl
 clear hW x0
 have Hf:=Lib.hid (H.out W hbW)
 generalize codeE P M mod N L=er at *
 clear H
 go_wp2_with fail
 refine Hf.out.mono ?_
 rintro e w1 ⟨z,rfl,hb1⟩
 have hF:=Below.next hbW hb1
 clear c0 c1 c2 c3 c4
 cases z
 ·go_wp2_with fail
  go_ret
  exact ⟨_,rfl,hF⟩
 have x1:=HX.out.keep hb1
 have c0:=x1.cell 0 rfl
 have c1:=x1.cell 1 rfl
 have c2:=x1.cell 2 rfl
 have c3:=x1.cell 3 rfl
 have c4:=x1.cell 4 rfl
 clear x1
 go_wp2_with fail
 refine (H2.out w1 hF).mono ?_
 rintro e w2 ⟨rfl,hb2⟩
 have hF2:=Below.next hF hb2
 have q3:=(HX.out.keep (Below.next hb1 hb2)).cell 3 rfl
 clear c0 c1 c2 c3 c4
 by_cases hE : er=0
 ·have d0 : (er != 0)=false:=by simpa using hE
  clear hE
  by_cases h1 : 16<N
  ·have d1 : decide (16<N)=true:=by simpa using h1
   clear h1
   go_wp2_with fail
   go_ret
   exact ⟨_,rfl,hF2⟩
  ·have d1 : decide (16<N)=false:=by simpa using h1
   clear h1
   go_wp2_with fail
   go_ret
   exact ⟨_,rfl,hF2⟩
 ·have d0 : (er != 0)=true:=by simpa using hE
  clear hE
  go_wp2_with fail
  go_ret
  exact ⟨_,rfl,hF2⟩
def wtsX (P M : Int) (mod : List Int) (N : Int) (L : List (List Int)) : List Int:=if dimE P M mod N L=0 then wtsR (tblOf P M.toNat mod).ops L N.toNat L.length else []
theorem dimE_rws {P M : Int} {mod : List Int} {N : Int} {L : List (List Int)} (h : dimE P M mod N L=0) : ∃ (m : Nat),N=m∧1≤m∧m≤16∧Fld (tblOf P M.toNat mod).ops (tblOf P M.toNat mod).El∧Rws (tblOf P M.toNat mod).El m L:=by
 obtain ⟨hE,h1,h16⟩:=dimE_zero h
 obtain ⟨m,hm,hm1,hm64,F,hR⟩:=codeE_fld hE
 exact ⟨m,hm,hm1,by omega,F,hR⟩
section
variable (P M : Int) (am : Option Addr) (mn cm : Nat) (mod : List Int) (N : Int) (a : Option Addr) (n c : Nat) (L : List (List Int)) (w : World)
theorem weights_u (hmod : Ints w am mn mod) (hi : Mat w a n L) :
  Calls Tryz.prog 28 #[.agg #[.int .i64 P,.int .i64 M,.slice am mn cm,.int .i64 N,.slice a n c]] w (PairU (dimE P M mod N L) (wtsX P M mod N L) w):=by
 refine (weights_any P M am mn cm mod N a n c L w hmod hi).mono ?_
 rintro e w' ⟨hb,⟨h0,rfl⟩ | ⟨h0,a',c',rfl,h⟩⟩
 ·exact pair_no hb h0
 ·refine pair_ok hb h0 ?_
  obtain ⟨m,rfl,hm1,hm16,F,hR⟩:=dimE_rws h0
  rw [Int.toNat_natCast] at h ⊢
  rw [← wts_eq F hR (by omega)]
  exact (Ints.own h).1
end
end

section
open Go.RowKit
def anyR (R : List (List Int)) (i : Nat) : Bool:=R.any fun r=>nth r i != 0
def supTo (R : List (List Int)) : Nat→List Int
 | 0=>[]
 | k+1=>if anyR R k=true then supTo R k ++ [(k : Int)] else supTo R k
theorem mem_supTo {R : List (List Int)} {y : Int} : ∀ {k : Nat},y ∈ supTo R k ↔ ∃ j : Nat,j<k∧y=j∧anyR R j=true
 | 0=>by simp [supTo]
 | k+1=>by
  have ih:=mem_supTo (R:=R) (y:=y) (k:=k)
  rw [supTo]
  by_cases h : anyR R k=true
  ·rw [if_pos h,List.mem_append,List.mem_singleton,ih]
   constructor
   ·rintro (⟨j,h1,h2,h3⟩ | rfl)
    ·exact ⟨j,by omega,h2,h3⟩
    ·exact ⟨k,by omega,rfl,h⟩
   ·rintro ⟨j,h1,h2,h3⟩
    by_cases e : j=k
    ·exact .inr (by rw [h2,e])
    ·exact .inl ⟨j,by omega,h2,h3⟩
  ·rw [if_neg h,ih]
   constructor
   ·rintro ⟨j,h1,h2,h3⟩;exact ⟨j,by omega,h2,h3⟩
   ·rintro ⟨j,h1,h2,h3⟩
    by_cases e : j=k
    ·rw [e] at h3;exact absurd h3 h
    ·exact ⟨j,by omega,h2,h3⟩
theorem supTo_asc (R : List (List Int)) (m : Nat) : ∀ k,k≤m→Asc 0 m (supTo R k)
 | 0,_=>⟨by simp [supTo],by simp [supTo]⟩
 | k+1,hk=>by
  obtain ⟨h1,h2⟩:=supTo_asc R m k (by omega)
  rw [supTo]
  by_cases h : anyR R k=true
  ·rw [if_pos h]
   refine ⟨List.pairwise_append.2 ⟨h1,by simp,fun a ha b hb=>?_⟩,fun x hx=>?_⟩
   ·obtain ⟨j,g1,g2,_⟩:=mem_supTo.1 ha
    rw [List.mem_singleton.1 hb];omega
   ·rcases List.mem_append.1 hx with hx | hx
    ·exact h2 x hx
    ·rw [List.mem_singleton.1 hx];omega
  ·rw [if_neg h];exact ⟨h1,h2⟩
theorem supTo_len (R : List (List Int)) : ∀ k,(supTo R k).length≤k
 | 0=>by simp [supTo]
 | k+1=>by
  have ih:=supTo_len R k
  rw [supTo]
  split
  ·rw [List.length_append,List.length_singleton];omega
  ·omega
section
variable {P M : Int} {mod : List Int} {m : Nat} {L : List (List Int)}
theorem sub_dim (hE : codeE P M mod m L=0) {D : List (List Int)} (hD : Rws (tblOf P M.toNat mod).El m D) (hs : RSub (tblOf P M.toNat mod).ops (tblOf P M.toNat mod).El m D L)
  (hrk : Rk (clV (tblOf P M.toNat mod).ops (tblOf P M.toNat mod).El D.length (colS D)) (List.range m) D.length) : (D.length : Int)≤dimZ (tblOf P M.toNat mod).ops L m (supTo D m):=by
 obtain ⟨N',em,hm1,hm64,F,hR⟩:=codeE_fld hE
 obtain rfl : m=N':=by omega
 have hZ : ∀ z ∈ gA (frTo false (supTo D m) m),z<m:=fun x hx=>by
  obtain ⟨y,hy,rfl⟩:=mem_gA.1 hx
  obtain ⟨i,h1,h2,_⟩:=(mem_frTo m).1 hy
  omega
 have h0 : ∀ r ∈ D,∀ z ∈ gA (frTo false (supTo D m) m),nth r z=0:=fun r hr z hz=>by
  obtain ⟨y,hy,rfl⟩:=mem_gA.1 hz
  obtain ⟨i,h1,h2,h3⟩:=(mem_frTo m).1 hy
  subst h2
  rw [Int.toNat_natCast]
  refine Decidable.byContradiction fun h=>?_
  refine (of_decide_eq_false h3) (mem_supTo.2 ⟨i,h1,rfl,?_⟩)
  unfold anyR
  exact List.any_eq_true.2 ⟨r,hr,by simpa using h⟩
 obtain ⟨n,hn⟩:=Rk.ex (clV (tblOf P M.toNat mod).ops (tblOf P M.toNat mod).El L.length (colS L)) (List.range m ++ gA (frTo false (supTo D m) m))
 have hnk : L.length=n:=Rk.same (col_clo F hR) (code_full hE) hn fun x=>by
  rw [List.mem_append,List.mem_range]
  exact ⟨fun h=>.inl h,fun h=>by rcases h with h | h;exact h;exact hZ x h⟩
 have h:=rk_sub F hD hR hs hZ h0 (rkQ_rk F hR (frTo false (supTo D m) m)) (fun y hy=>List.mem_range.1 hy) hrk hn
 have h2 : D.length+rkQ (tblOf P M.toNat mod).ops L (frTo false (supTo D m) m)≤n:=h
 unfold dimZ
 omega
theorem sub_law (hE : codeE P M mod m L=0) {W : List (List Int)} (hW : ∀ r ∈ W,Vc (tblOf P M.toNat mod).El m r∧RS (tblOf P M.toNat mod).ops (tblOf P M.toNat mod).El m L (fun i=>nth r i)) :
  (canS (tblOf P M.toNat mod) W m).length≤L.length∧(0<(canS (tblOf P M.toNat mod) W m).length→nth (wtsR (tblOf P M.toNat mod).ops L m L.length) ((canS (tblOf P M.toNat mod) W m).length - 1)≤((supTo (canS (tblOf P M.toNat mod) W m) m).length : Int)):=by
 obtain ⟨N',em,hm1,hm64,F,hR⟩:=codeE_fld hE
 obtain rfl : m=N':=by omega
 have hWr : Rws (tblOf P M.toNat mod).El m W:=fun r hr=>(hW r hr).1
 have hWs : RSub (tblOf P M.toNat mod).ops (tblOf P M.toNat mod).El m W L:=fun i hi=>(hW _ (by rw [nthR_getElem hi];exact List.getElem_mem hi)).2
 obtain ⟨D,hD⟩ : ∃ D,canS (tblOf P M.toNat mod) W m=D:=⟨_,rfl⟩
 have hDO : canO (tblOf P M.toNat mod).ops m W=D:=hD
 have a1:=canO_rws F hWr
 have a2:=canO_rk F hWr
 have a3:=(canO_rsub F hWr).1
 rw [hDO] at a1 a2 a3
 rw [hD]
 have h:=sub_dim hE a1 (a3.trans hWs) a2
 have hk : D.length≤L.length:=by
  unfold dimZ at h;omega
 refine ⟨hk,fun hp=>?_⟩
 obtain ⟨_,_,b3⟩:=fir_some F hR hm64 (r:=(D.length : Int)) (by omega)
 have h4:=b3 _ (supTo_asc D m m (Nat.le_refl _)) h
 unfold wtsR
 rw [nth_mapRange _ _ _ (by omega)]
 have e : ((D.length - 1 : Nat) : Int)+1=D.length:=by omega
 rw [e]
 omega
end
end

section
open Go.RowKit
theorem dimE_small {P M : Int} {mod : List Int} {m : Nat} {L : List (List Int)} (hE : codeE P M mod m L=0) (hm : m≤16) : dimE P M mod m L=0:=by
 unfold dimE
 rw [if_pos hE,if_neg (by omega)]
theorem wtsX_small {P M : Int} {mod : List Int} {m : Nat} {L : List (List Int)} (hE : codeE P M mod m L=0) (hm : m≤16) : wtsX P M mod m L=wtsR (tblOf P M.toNat mod).ops L m L.length:=by
 unfold wtsX
 rw [if_pos (dimE_small hE hm),Int.toNat_natCast]
theorem wtsR_len (O : FOps) (L : List (List Int)) (m k : Nat) : (wtsR O L m k).length=k:=by simp [wtsR]
end

section
open Go.RowKit
theorem els_nth {q : Nat} {l : List Int} {n : Nat} (h : lstE q l n=0) : l.length=n∧∀ k,k<n→0≤nth l k∧nth l k<q:=by
 unfold lstE at h
 split at h
 ·rename_i hl
  unfold elsE at h
  split at h
  ·rename_i hq
   refine ⟨hl,fun k hk=>?_⟩
   have h1:=List.all_eq_true.1 hq (nth l k) (nth_mem (by omega))
   simpa [isQ] using h1
  ·cases h
 ·cases h
end

end Go.Proofs.YtcflcogbpnmjeaaGreat
