/-  -/
import Derived.Test.YtcflcogbpnmjeaaGreatK13
import Derived.Test.YtcflcogbpnmjeaaGreatHCE7
import Derived.Test.YtcflcogbpnmjeaaGreatK14
import Derived.Test.YtcflcogbpnmjeaaGreatHCE6
import Derived.Test.YtcflcogbpnmjeaaGreatK15
import Derived.Test.YtcflcogbpnmjeaaGreatK8
import Derived.Test.YtcflcogbpnmjeaaGreatHCE2
import Derived.Test.YtcflcogbpnmjeaaGreatK6
import Derived.Test.YtcflcogbpnmjeaaGreatHCE1
import Derived.Test.YtcflcogbpnmjeaaGreatK11
import Derived.Test.YtcflcogbpnmjeaaGreatK9
import Derived.Test.YtcflcogbpnmjeaaGreatHCE5
import Derived.Test.YtcflcogbpnmjeaaGreatK20
import Derived.Test.YtcflcogbpnmjeaaGreatK12
import Derived.Test.YtcflcogbpnmjeaaGreatK19
import Derived.Test.YtcflcogbpnmjeaaGreatK21
import Derived.Test.YtcflcogbpnmjeaaGreatK18
import Derived.Test.YtcflcogbpnmjeaaGreatHCE4
import Derived.Test.YtcflcogbpnmjeaaGreatK17
namespace Go.Proofs.YtcflcogbpnmjeaaGreat
set_option linter.unusedVariables false
set_option linter.unusedSimpArgs false
set_option linter.unusedSectionVars false

section
theorem tab5_2_0:chkC 5 2 25 cert5_2 0 25=true:=by decide +kernel
theorem tab5_2:chkAll 5 2 25 cert5_2:=chkAll_add (chkAll_nil 5 2 25 cert5_2) tab5_2_0
theorem tab5_3_0:chkC 5 3 125 cert5_3 0 32=true:=by decide +kernel
theorem tab5_3_32:chkC 5 3 125 cert5_3 32 32=true:=by decide +kernel
theorem tab5_3_64:chkC 5 3 125 cert5_3 64 32=true:=by decide +kernel
theorem tab5_3_96:chkC 5 3 125 cert5_3 96 29=true:=by decide +kernel
theorem tab5_3:chkAll 5 3 125 cert5_3:=chkAll_add (chkAll_add (chkAll_add (chkAll_add (chkAll_nil 5 3 125 cert5_3) tab5_3_0) tab5_3_32) tab5_3_64) tab5_3_96
theorem tab7_2_0:chkC 7 2 49 cert7_2 0 49=true:=by decide +kernel
theorem tab7_2:chkAll 7 2 49 cert7_2:=chkAll_add (chkAll_nil 7 2 49 cert7_2) tab7_2_0
theorem tab11_2_0:chkC 11 2 121 cert11_2 0 32=true:=by decide +kernel
theorem tab11_2_32:chkC 11 2 121 cert11_2 32 32=true:=by decide +kernel
theorem tab11_2_64:chkC 11 2 121 cert11_2 64 32=true:=by decide +kernel
theorem tab11_2_96:chkC 11 2 121 cert11_2 96 25=true:=by decide +kernel
theorem tab11_2:chkAll 11 2 121 cert11_2:=chkAll_add (chkAll_add (chkAll_add (chkAll_add (chkAll_nil 11 2 121 cert11_2) tab11_2_0) tab11_2_32) tab11_2_64) tab11_2_96
theorem tab13_2_0:chkC 13 2 169 cert13_2 0 32=true:=by decide +kernel
theorem tab13_2_32:chkC 13 2 169 cert13_2 32 32=true:=by decide +kernel
theorem tab13_2_64:chkC 13 2 169 cert13_2 64 32=true:=by decide +kernel
theorem tab13_2_96:chkC 13 2 169 cert13_2 96 32=true:=by decide +kernel
theorem tab13_2_128:chkC 13 2 169 cert13_2 128 32=true:=by decide +kernel
theorem tab13_2_160:chkC 13 2 169 cert13_2 160 9=true:=by decide +kernel
theorem tab13_2:chkAll 13 2 169 cert13_2:=chkAll_add (chkAll_add (chkAll_add (chkAll_add (chkAll_add (chkAll_add (chkAll_nil 13 2 169 cert13_2) tab13_2_0) tab13_2_32) tab13_2_64) tab13_2_96) tab13_2_128) tab13_2_160
def chkP (c:Nat × Nat):Bool:=ordOk (mulS c.1 1 []) c.1 c.2 && decide (0<c.2) && decide (c.2<c.1)
theorem tabP:roots.all chkP=true:=by decide +kernel
theorem rootsAll:((List.range 257).all fun p=>p<2 || !primeB p || roots.any fun c=>c.1 == p)=true:=by decide +kernel
end

section
section
variable {P:Int} {M:Nat} {mod:List Int} {q:Nat} {x:Int}
theorem genTo_some:∀ (n x y:Nat),2≤q→x≤y→y<x+n→isGen P M mod q y=true→genTo P M mod q n x ≠ []
 | 0,x,y,_,h1,h2,_=>by omega
 | n+1,x,y,hq,h1,h2,hg=>by
  rw [genTo]
  by_cases hx:isGen P M mod q x=true
  ·rw [if_pos hx]
   intro e
   simp only [isGen,Bool.and_eq_true,beq_iff_eq] at hx
   rw [e] at hx
   simp at hx
   omega
  ·rw [if_neg hx]
   refine genTo_some n (x+1) y hq ?_ (by omega) hg
   rcases Nat.eq_or_lt_of_le h1 with h3 | h3
   ·subst h3;exact absurd hg hx
   ·exact h3
theorem no_zero_div {ex:List Int} {y a b:Int} (g:Gen P M mod q y ex) (ha:ElP P M a) (hb:ElP P M b) (ha0:a ≠ 0) (hb0:b ≠ 0):mulS P M mod a b ≠ 0:=by
 obtain ⟨i,_,rfl,_⟩:=g.log ha ha0
 obtain ⟨j,_,rfl,_⟩:=g.log hb hb0
 rw [pw_add g.res]
 exact g.pw_ne _
end
theorem chkAll_at {P:Int} {M q:Nat} {l:List (Nat × Nat)} (h:chkAll P M q l) {v:Nat} (hv:v<q):∃ c,chkV P M q v c=true:=⟨_,h v hv⟩
theorem tabOf (p m:Nat) (hp:primeB p=true) (h2:2≤p) (hm:2≤m) (hm8:m≤8) (hpw:(p:Int) ^ m≤256):∃ l,chkAll p m (((p:Int) ^ m).toNat) l:=by
 have hp16:p≤16:=by
  have h1:=pow_mono (P:=(p:Int)) (by omega) hm
  have h3:(p:Int) ^ 2=p * p:=by rw [Int.pow_succ,Int.pow_succ,Int.pow_zero,Int.one_mul]
  rcases Nat.lt_or_ge 16 p with h4 | h4
  ·have h5:17 * 17≤p * p:=Nat.mul_le_mul h4 h4
   have h6:((17 * 17:Nat):Int)≤((p * p:Nat):Int):=Int.ofNat_le.2 h5
   rw [Int.natCast_mul] at h6
   omega
  ·exact h4
 have hc:p=2∨p=3∨p=4∨p=5∨p=6∨p=7∨p=8∨p=9∨p=10∨p=11∨p=12∨p=13∨p=14∨p=15∨p=16:=by omega
 have hd:m=2∨m=3∨m=4∨m=5∨m=6∨m=7∨m=8:=by omega
 rcases hc with rfl | rfl | rfl | rfl | rfl | rfl | rfl | rfl | rfl | rfl | rfl | rfl | rfl | rfl | rfl
 ·rcases hd with rfl | rfl | rfl | rfl | rfl | rfl | rfl
  ·exact ⟨_,tab2_2⟩
  ·exact ⟨_,tab2_3⟩
  ·exact ⟨_,tab2_4⟩
  ·exact ⟨_,tab2_5⟩
  ·exact ⟨_,tab2_6⟩
  ·exact ⟨_,tab2_7⟩
  ·exact ⟨_,tab2_8⟩
 ·rcases hd with rfl | rfl | rfl | rfl | rfl | rfl | rfl
  ·exact ⟨_,tab3_2⟩
  ·exact ⟨_,tab3_3⟩
  ·exact ⟨_,tab3_4⟩
  ·exact ⟨_,tab3_5⟩
  ·exact absurd hpw (by decide)
  ·exact absurd hpw (by decide)
  ·exact absurd hpw (by decide)
 ·exact absurd hp (by decide)
 ·rcases hd with rfl | rfl | rfl | rfl | rfl | rfl | rfl
  ·exact ⟨_,tab5_2⟩
  ·exact ⟨_,tab5_3⟩
  ·exact absurd hpw (by decide)
  ·exact absurd hpw (by decide)
  ·exact absurd hpw (by decide)
  ·exact absurd hpw (by decide)
  ·exact absurd hpw (by decide)
 ·exact absurd hp (by decide)
 ·rcases hd with rfl | rfl | rfl | rfl | rfl | rfl | rfl
  ·exact ⟨_,tab7_2⟩
  ·exact absurd hpw (by decide)
  ·exact absurd hpw (by decide)
  ·exact absurd hpw (by decide)
  ·exact absurd hpw (by decide)
  ·exact absurd hpw (by decide)
  ·exact absurd hpw (by decide)
 ·exact absurd hp (by decide)
 ·exact absurd hp (by decide)
 ·exact absurd hp (by decide)
 ·rcases hd with rfl | rfl | rfl | rfl | rfl | rfl | rfl
  ·exact ⟨_,tab11_2⟩
  ·exact absurd hpw (by decide)
  ·exact absurd hpw (by decide)
  ·exact absurd hpw (by decide)
  ·exact absurd hpw (by decide)
  ·exact absurd hpw (by decide)
  ·exact absurd hpw (by decide)
 ·exact absurd hp (by decide)
 ·rcases hd with rfl | rfl | rfl | rfl | rfl | rfl | rfl
  ·exact ⟨_,tab13_2⟩
  ·exact absurd hpw (by decide)
  ·exact absurd hpw (by decide)
  ·exact absurd hpw (by decide)
  ·exact absurd hpw (by decide)
  ·exact absurd hpw (by decide)
  ·exact absurd hpw (by decide)
 ·exact absurd hp (by decide)
 ·exact absurd hp (by decide)
 ·exact absurd hp (by decide)
theorem valu_el {P:Int} {m:Nat} (hf:RF P m) {mod:List Int} (hd:Dig P mod) (hl:mod.length=m):0≤valu P mod∧valu P mod<P ^ m:=by
 have:=valu_bd (P:=P) (by have:=hf.p2;omega) mod hd
 rwa [hl] at this
theorem fieldRB_eq (P M:Int) (mod:List Int):fieldRB P M mod=fieldB P M mod:=by
 by_cases hs:shapeB P M mod=true
 ·unfold fieldRB fieldB
  rw [hs,Bool.true_and,Bool.true_and]
  have hs2:=hs
  unfold shapeB at hs2
  simp only [Bool.and_eq_true,bne_iff_ne,ne_eq] at hs2
  obtain ⟨⟨h1,h2⟩,h3⟩:=hs2
  obtain ⟨m,rfl,hrf⟩:=RF.of h1
  obtain ⟨p,rfl⟩:∃ p:Nat,P=p:=⟨P.toNat,by have:=hrf.p2;omega⟩
  rw [Int.toNat_natCast] at h2 ⊢
  have hp2:2≤p:=by have:=hrf.p2;omega
  have hp256:p≤256:=by have:=hrf.p256;omega
  have hord:=hrf.order
  have hres:=hrf.res
  obtain ⟨q,hq⟩:∃ q:Nat,(p:Int) ^ m=q:=⟨((p:Int) ^ m).toNat,by have:=one_lt_pow hres;omega⟩
  have hq2:2≤q:=by have:=one_lt_pow hres;omega
  have hq256:q≤256:=by have:=hrf.pw;omega
  rw [hord,hq,Int.toNat_natCast]
  have hgen:∀ x:Nat,0<x→x<q→ordOk (mulS p m mod) q x=true→(genS p m mod q).isEmpty=false:=fun x hx0 hx1 ho=>by
   have hel:ElP (p:Int) m x:=⟨by omega,by rw [hq];omega⟩
   have hg:=(Ord.of hres hel hq256 ho).isGen hres hel hq2
   have:=genTo_some (P:=p) (M:=m) (mod:=mod) (q - 1) 1 x hq2 (by omega) (by omega) hg
   unfold genS
   cases h:genTo p m mod q (q - 1) 1 with
   | nil=>exact absurd h this
   | cons y l=>rfl
  by_cases hm:m=1
  ·subst hm
   have hmod:mod=[]:=by
    rw [if_pos (by simp)] at h3
    exact List.eq_nil_of_length_eq_zero (by simpa using h3)
   subst hmod
   have hr:=List.all_eq_true.1 rootsAll p (List.mem_range.2 (by omega))
   have hp2':decide (p<2)=false:=by simp;omega
   rw [hp2',h2] at hr
   simp only [Bool.not_true,Bool.false_or,List.any_eq_true] at hr
   obtain ⟨c,hc,hcp⟩:=hr
   have hck:=List.all_eq_true.1 tabP c hc
   have hcp2:c.1=p:=by simpa using hcp
   unfold chkP at hck
   rw [hcp2] at hck
   simp only [Bool.and_eq_true,decide_eq_true_eq] at hck
   have hqp:q = p := by have:(p:Int) ^ 1 = p := by rw [Int.pow_succ, Int.pow_zero, Int.one_mul]
                        omega
   rw [hgen c.2 hck.1.2 (by omega) (by rw [hqp];exact hck.1.1)]
   rfl
  ·have hM:¬ (m:Int)=1:=by omega
   rw [if_neg hM] at h3
   simp only [Bool.and_eq_true,decide_eq_true_eq] at h3
   have hlen:mod.length=m:=by omega
   have hdig:Dig (p:Int) mod:=Dig.of_mem (by omega) fun x hx=>by
    have:=List.all_eq_true.1 h3.2 x hx
    simpa using this
   have hv:=valu_el hrf hdig hlen
   obtain ⟨v,hvv⟩:∃ v:Nat,valu p mod=v:=⟨(valu p mod).toNat,by omega⟩
   have hdv:digs v p m=mod:=by rw [← hvv,← hlen];exact digs_valu mod hdig
   obtain ⟨l,hl⟩:=tabOf p m h2 hp2 (by have:=hrf.m1;omega) hrf.m8 hrf.pw
   rw [hq,Int.toNat_natCast] at hl
   obtain ⟨c,hc⟩:=chkAll_at hl (v:=v) (by omega)
   have hM':((m:Int) == 1)=false:=by simpa using hM
   rw [hM',Bool.false_or]
   unfold chkV at hc
   rw [hdv] at hc
   split at hc
   ·simp only [Bool.and_eq_true,decide_eq_true_eq] at hc
    rw [hc.1.1.1,hgen c.1 hc.1.2 hc.2 hc.1.1.2];rfl
   ·rename_i hc2
    simp only [Bool.and_eq_true,decide_eq_true_eq,Bool.not_eq_true',beq_iff_eq] at hc
    rw [hc.1.1.1.1]
    cases h:(genS p m mod q).isEmpty with
    | true=>rfl
    | false =>
     exfalso
     have hne:genS p m mod q ≠ []:=fun e=>by rw [e] at h;cases h
     obtain ⟨y,hy1,hy2,hy3,hy4⟩:=genS_spec hne
     have g:=Gen.of_isGen (mod:=mod) hres hq.symm ⟨by omega,by omega⟩ hy3
     exact no_zero_div g (a:=(c.1:Int)) (b:=(c.2:Int)) ⟨by omega,by omega⟩ ⟨by omega,by omega⟩ (by omega) (by omega) hc.1.1.1.2
 ·have hs':shapeB P M mod=false:=by simpa using hs
  simp [fieldRB,fieldB,hs']
end

section
theorem invTo_find (f:Int→Int):∀ (n:Nat) (y z:Int),y≤z→z<y+n→f z=1→f (invTo f n y)=1∧y≤invTo f n y∧invTo f n y<y+n
 | 0,y,z,h1,h2,_=>by omega
 | n+1,y,z,h1,h2,hz=>by
  unfold invTo
  split
  ·exact ⟨by assumption,by omega,by omega⟩
  ·rename_i hn
   have hne:y ≠ z:=fun e=>hn (e ▸ hz)
   have:=invTo_find f n (y+1) z (by omega) (by omega) hz
   exact ⟨this.1,by omega,by omega⟩
theorem eq_ops {P M:Int} {mod:List Int} (h:fieldB P M mod=true):∃ m:Nat,M=m∧ElP P m=(tblOf P m mod).El∧((tblOf P m mod).q:Int)=orderS P M∧Fld (tblOf P m mod).ops (ElP P m)∧Agr (tblOf P m mod).ops (rops P m mod) (ElP P m) ∧
  ∀ p,ElP P m p→p ≠ 0→(invR P m mod p=1 ↔ p=1):=by
 have hF:=fieldB_fld h
 obtain ⟨m,y,rfl,hr,h256,hsh,hq,g⟩:=fieldB_gen h
 have hrf:RF P m:=by
  obtain ⟨m',e,h2,_⟩:=fieldRB_rf (by rw [fieldRB_eq];exact h)
  have:m=m':=by omega
  rw [this];exact h2
 rw [Int.toNat_natCast] at hF
 have e:ElP P m=(tblOf P m mod).El:=by
  funext x;simp only [Tbl.El,tblOf,ElP];rw [hq]
 rw [← e] at hF
 have hq2:=g.q2
 have hmul:∀ x z,ElP P m x→ElP P m z→(tblOf P m mod).ops.mul x z=mulR P m mod x z:=fun x z hx hz=>by
  rw [mulR_eq hrf];exact g.mulT_eq hx hz
 have hqo:((orderS P m).toNat:Int)=orderS P m:=by omega
 have hinv:∀ x,ElP P m x→x ≠ 0→(tblOf P m mod).ops.inv x=invR P m mod x:=by
  intro x hx h0
  have hi:=hF.cl.inv x hx h0
  have hm:=hF.mul_inv x hx h0
  rw [hmul x _ hx hi] at hm
  have hi0:(tblOf P m mod).ops.inv x ≠ 0:=by
   intro e0
   have h2:=hF.mul_inv x hx h0
   rw [e0,hF.mzero hx] at h2
   exact absurd h2 (by decide)
  have hb1:=hi.1
  have hb2:=hi.2
  obtain ⟨h1,h2,h3⟩:=invTo_find (mulR P m mod x) ((orderS P m).toNat - 1) 1 _ (by omega) (by omega) hm
  have hel:ElP P m (invR P m mod x):=⟨by unfold invR;omega,by unfold invR;omega⟩
  have h4:(tblOf P m mod).ops.mul x (invR P m mod x)=1:=by rw [hmul x _ hx hel];exact h1
  have h5:=hF.mul_inv x hx h0
  have e1:(tblOf P m mod).ops.mul ((tblOf P m mod).ops.inv x) ((tblOf P m mod).ops.mul x (invR P m mod x))=invR P m mod x:=by
   rw [← hF.mul_assoc _ x _ hi hx hel,hF.mul_comm _ x hi hx,h5,hF.one_mul _ hel]
  rw [h4,hF.mone hi] at e1
  exact e1
 refine ⟨m,rfl,e,hqo,hF,⟨fun x z _ _=>rfl,hmul,fun x _=>rfl,hinv⟩,fun p hp h0=>?_⟩
 rw [← hinv p hp h0]
 have hi:=hF.cl.inv p hp h0
 have hm:=hF.mul_inv p hp h0
 constructor
 ·intro e1;rw [e1,hF.mone hp] at hm;exact hm
 ·intro e1;rw [e1] at hm hi ⊢;rw [hF.one_mul _ hi] at hm;exact hm
theorem hinv_all {P M:Int} {mod:List Int} (h:fieldRB P M mod=true):∀ p,ElP P M.toNat p→p ≠ 0→(invR P M.toNat mod p=1 ↔ p=1):=by
 obtain ⟨m,rfl,_,_,_,_,h6⟩:=eq_ops (by rw [← fieldRB_eq];exact h)
 exact h6
theorem rmatE_eq (P M:Int) (mod:List Int) (cols:Int) (L:List (List Int)):rmatE P M mod cols L=fmatE P M mod cols L:=by
 unfold rmatE fmatE
 rw [fieldRB_eq]
 split
 ·rename_i h
  obtain ⟨m,rfl,_,hq,_⟩:=eq_ops h
  rw [Int.toNat_natCast,hq]
 ·rfl
theorem canR_eq {P M:Int} {mod:List Int} (h:fieldB P M mod=true) {L:List (List Int)} {m:Nat} (hL:Rws (tblOf P M.toNat mod).El m L):canR (rops P M.toNat mod) L m=canS (tblOf P M.toNat mod) L m:=by
 obtain ⟨k,rfl,he,_,hF,hA,_⟩:=eq_ops h
 rw [Int.toNat_natCast] at hL ⊢
 rw [← he] at hL
 unfold canR canS
 rw [(elimTo_agr hA hF.cl hL m (Nat.le_refl _)).1]
theorem rspaceE_eq (P M:Int) (mod:List Int) (cols:Int) (L:List (List Int)):rspaceE P M mod cols L=spaceE P M mod cols L:=by
 unfold rspaceE spaceE
 rw [rmatE_eq]
 split
 ·rename_i h0
  obtain ⟨h1,h2⟩:=fmatE_zero h0
  obtain ⟨m,rfl,_,_,hR⟩:=matE_zero h2
  rw [Int.toNat_natCast,canR_eq h1 hR]
 ·rfl
theorem rcodeE_eq (P M:Int) (mod:List Int) (N:Int) (L:List (List Int)):rcodeE P M mod N L=codeE P M mod N L:=by
 unfold rcodeE codeE
 rw [fieldRB_eq,rspaceE_eq]
end

section
open Go.RowKit
set_option maxRecDepth 100000 in
set_option maxHeartbeats 1600000 in
theorem rPick_any (av:Option Addr) (nv cv:Nat) (v:List Int) (ao:Option Addr) (no co:Nat) (Q:List Int) (w:World) (hv:Ints w av nv v) (hq:Ints w ao no Q) (hQ:InN nv Q) (hno:no≤1000000) :
  Calls Tryz.prog 206 #[.slice av nv cv,.slice ao no co] w (NewInts w (pickL Q v)):=by
 have Hql:=Lib.hid hq.len
 have hplq:=hq.pl
 have hplv:=hv.pl
 have hmq:=hq.max
 have hmv:=hv.max
 have HQ:=Lib.hid hQ
 have hpk:(pickL Q v).length=no:=by rw [pickL,List.length_map];exact Hql.out
 have Hpk:=Lib.hid hpk
 unfold maxLen at hmq hmv
 clear hQ hpk
 go_enter Tryz.func206,Tryz.ntmps206
 go_wp2_with (at_make;refine wpList_mk rfl _ _ 22 3 rfl (.int .i64 0) 8 Tryz.underlying22 infoInt rfl no rfl rfl (by omega) (hq.max) ?_;intro a1 w1 hown hbel hge hlt)
 go_loopw [6] (fun iv wr=>∃ k:Nat,k≤no∧iv = .int .i64 k ∧
   wr.ownsRow w.heap.size 3 1 (.slice a1 no no) no ((fillTo ((pickL Q v).take k) k no).map (Value.int .i64))∧Below w.heap.size w wr)
  (fun i _=>no - (intOf i).toNat)
 case atStart=>exact ⟨0,Nat.zero_le _,rfl,by simpa [fillTo] using hown,hbel⟩
 case round =>
  clear hown hbel
  obtain ⟨k,hk,rfl,hown,hbel⟩:=hrel
  obtain ⟨hints,hmine⟩:=Ints.own hown
  have hpl1:=hints.pl
  by_cases hlt:k<no
  ·have cq:=(hq.keep hbel).cell k hlt
   have hb:=HQ.out k (by rw [Hql.out];exact hlt)
   obtain ⟨z,hz⟩:∃ z:Nat,nth Q k=z:=⟨(nth Q k).toNat,by omega⟩
   have hzn:z<nv:=by omega
   have cz:=(hv.keep hbel).cell z hzn
   have hf:=(hmine (by omega)).2 k hlt
   have hc2:=hints.cell k hlt
   have hB:=(hmine (by omega)).1
   have Hv:Hid (nth (pickL Q v) k=nth v z):=by show _=_;rw [nth_pickL Q v (by rw [Hql.out];exact hlt),hz,Int.toNat_natCast]
   rw [hz] at cq
   clear hz hb
   go_wp2_with fail
   go_roundw
   case rel =>
    refine ⟨k+1,by omega,by go_num,?_,hbel.setCell hB _⟩
    have h:=own_set hown k hlt (.int .i64 (nth v z))
    rw [← List.map_set,fillTo_set _ _ _ _ (by rw [List.length_take,Hpk.out];omega) hlt] at h
    rw [List.take_succ_eq_append_getElem (by rw [Hpk.out];omega),← nth_getElem,Hv.out]
    exact h
   case measure=>simp [intOf] <;> omega
  ·obtain rfl:k=no:=by omega
   have hfin:fillTo ((pickL Q v).take k) k k=pickL Q v:=by rw [fillTo_all,List.take_of_length_le (by rw [Hpk.out];exact Nat.le_refl _)]
   rw [hfin] at hown
   clear hfin
   go_wp2_with fail
   go_ret
   exact ⟨a1,k,by rw [Hpk.out];rfl,by rw [Hpk.out];exact hown,hbel⟩
end

section
section
variable {O:FOps} {k:Nat}
end
section
variable {O:FOps} {El:Int→Prop} {m:Nat}
theorem elim_gr (F:Fld O El) {L:List (List Int)} (hL:Rws El m L) {Q:List Int} (hQ:InN m Q):(elimTo O (L.map (pickL Q)) Q.length).2.length=(grS O L Q).length:=by
 refine Rk.same (col_clo F hL) (pick_rk F hL hQ) (grS_rk F hL Q) fun x=>?_
 rw [mem_grL,List.mem_map]
 constructor
 ·rintro ⟨j,hj,rfl⟩;exact ⟨j,List.mem_range.1 hj,rfl⟩
 ·rintro ⟨j,hj,e⟩;exact ⟨j,List.mem_range.2 hj,e⟩
end
end

section
open Go.RowKit
set_option maxRecDepth 100000 in
set_option maxHeartbeats 4000000 in
theorem rKeep_any (m:Nat) (a:Option Addr) (n c:Nat) (L:List (List Int)) (ao:Option Addr) (no co:Nat) (Q:List Int) (w:World) (hi:Mat w a n L) (hq:Ints w ao no Q) (hL:∀ r ∈ L,r.length=m) (hQ:InN m Q) (hn:n≤1000000) (hno:no≤1000000) :
  Calls Tryz.prog 171 #[.slice a n c,.slice ao no co] w fun e w'=>∃ a1 c1 R,e = .returned (.slice a1 n c1)∧OMat w' w.heap.size a1 n c1 R (L.map (pickL Q))∧Below w.heap.size w w':=by
 have Hlen:=Lib.hid hi.len
 have hpla:=hi.pl
 have HLl:=Lib.hid hL
 have HQ:=Lib.hid hQ
 obtain ⟨L2,hL2⟩:∃ L2,L.map (pickL Q)=L2:=⟨_,rfl⟩
 have hl2:L2.length=n:=by rw [← hL2,List.length_map];exact Hlen.out
 have Hl2:=Lib.hid hl2
 have HLk:Hid (∀ k,k<n→nthR L2 k=pickL Q (nthR L k)):=fun k hk=>by rw [← hL2];exact nthR_map _ L (by rw [Hlen.out];exact hk)
 rw [hL2]
 clear hL2 hl2 hL hQ
 go_enter Tryz.func171,Tryz.ntmps171
 go_wp2_with fail
 go_loopw [5,6] (fun sv iv wr=>∃ (k:Nat) (a1:Option Addr) (c1:Nat),k≤n∧iv = .int .i64 k∧sv = .slice a1 k c1∧(∃ R,OMat wr w.heap.size a1 k c1 R (L2.take k))∧Below w.heap.size w wr) (fun _ iv _=>n - (intOf iv).toNat)
 case atStart=>exact ⟨0,none,0,Nat.zero_le _,rfl,rfl,⟨[],by simpa using OMat.empty w w.heap.size⟩,Below.refl _ _⟩
 case round =>
  obtain ⟨k,a1,c1,hk,rfl,rfl,⟨R,hO⟩,hbr⟩:=hrel
  by_cases hlt:k<n
  ·obtain ⟨ra,rn,rc,hcell,hrow⟩:=(hi.keep hbr).cell k hlt
   have hkL:k<L.length:=by rw [Hlen.out];exact hlt
   have hrl:rn=m:=by rw [← hrow.len,nthR_getElem hkL];exact HLl.out _ (List.getElem_mem hkL)
   have Htk:Hid (L2.take (k+1)=L2.take k ++ [pickL Q (nthR L k)]):=by show _=_;rw [List.take_succ_eq_append_getElem (by rw [Hl2.out];exact hlt),← HLk.out k hlt,nthR_getElem (by rw [Hl2.out];exact hlt)]
   obtain ⟨l,hl⟩:∃ l,nthR L k=l:=⟨_,rfl⟩
   rw [hl] at Htk hrow
   have hpk:=rPick_any ra rn rc l ao no co Q wr hrow (hq.keep hbr) (by rw [hrl];exact HQ.out) hno
   have hsz:=hbr.size
   clear hl hrl
   go_wp2_with fail
   refine hpk.mono ?_
   rintro e w3 ⟨a3,c3,rfl,hown3,hb3⟩
   have hO3:=hO.keep (Below.next hb3 (below1 w3 (.cells #[.slice a3 (pickL Q l).length c3] 22)))
   have hs3:w.heap.size≤(w3.alloc (.cells #[.slice a3 (pickL Q l).length c3] 22)).heap.size:=by have h1:=hb3.size;simp;omega
   clear hpk
   go_wp2_with (at_builtin;refine wpList_push rfl _ _ 25 22 rfl (.slice none 0 0) 24 Tryz.underlying25 infoInts rfl w.heap.size a1 k c1 _ rfl hO3.own ⟨w3.heap.size,0,none⟩ 1 (.slice a3 (pickL Q l).length c3) rfl (cell_new w3 _ _) rfl (by omega) (by unfold maxLen;omega) hs3 ?_;intro a5 c5 w5 hown5 hgr5 hap5)
   go_roundw
   case rel =>
    have hb4:Below wr.heap.size wr (w3.alloc (.cells #[.slice a3 (pickL Q l).length c3] 22)):=Below.next hb3 (below1 _ _)
    have hown4:(w3.alloc (.cells #[.slice a3 (pickL Q l).length c3] 22)).ownsRow w.heap.size 3 1 (.slice a3 (pickL Q l).length c3) (pickL Q l).length ((pickL Q l).map (Value.int .i64)) :=
     own_mono (own_keep hown3 (below1 _ _)) hsz
    have hra:a3 ≠ none→¬ OIn a1 R (ablk a3):=fun h0 hI=>by
     have h1:=(own_ne hown3 h0).1
     have h2:=(hO.lt _ hI).2
     omega
    have hP:=OMat.push hO3 hown4 hra hown5 hgr5 hap5
    have hb5:Below w.heap.size w w5:=Below.app (Below.next hbr hb4) hO3.own hgr5 (Nat.le_refl _) (Nat.le_trans hsz hb4.size)
    exact ⟨k+1,a5,c5,by omega,by go_num,rfl,⟨_,by rw [Htk.out];exact hP⟩,hb5⟩
   case measure=>simp [intOf] <;> omega
  ·obtain rfl:k=n:=by omega
   rw [List.take_of_length_le (by rw [Hl2.out];exact Nat.le_refl _)] at hO
   have HO:=Lib.hid hO
   clear hO
   go_wp2_with fail
   go_ret
   exact ⟨a1,c1,R,rfl,HO.out,hbr⟩
set_option maxRecDepth 100000 in
set_option maxHeartbeats 4000000 in
theorem rOf25_any (P M:Int) (am:Option Addr) (mn cm:Nat) (mod:List Int) (m:Nat) (a:Option Addr) (n c:Nat) (L:List (List Int)) (ao:Option Addr) (no co:Nat) (Q:List Int) (w:World) (hmod:Ints w am mn mod) (hi:Mat w a n L) (hq:Ints w ao no Q)
  (hE:codeE P M mod m L=0) (hQ:InN m Q) (hno:no≤1000000) :
  Calls Tryz.prog 124 #[.agg #[.int .i64 P,.int .i64 M,.slice am mn cm],.slice a n c,.slice ao no co] w fun e w'=>e = .returned (.int .i64 (grS (tblOf P M.toNat mod).ops L Q).length)∧Below w.heap.size w w':=by
 have hql:=hq.len
 obtain ⟨N',em,hm1,hm64,F,hR⟩:=codeE_fld hE
 obtain rfl:m=N':=by omega
 have hn:n≤256:=by rw [← hi.len];exact (codeE_rws hE).choose_spec.2.2.2.1
 have hB:=(codeE_zero hE).1
 have hinv:=hinv_all (P:=P) (M:=M) (mod:=mod) (by rw [fieldRB_eq];exact hB)
 have hgr:=elim_gr F hR hQ
 have hpr:=pick_rws hR hQ
 rw [hql] at hgr hpr
 obtain ⟨k,rfl,hel,_,hF,hA,_⟩:=eq_ops hB
 obtain ⟨k',e2,hrf,hmods⟩:=fieldRB_rf (by rw [fieldRB_eq];exact hB)
 obtain rfl:k=k':=by omega
 rw [Int.toNat_natCast] at hgr hpr hinv hR ⊢
 have hag:=(elimTo_agr hA hF.cl (by rw [hel];exact hpr) no (Nat.le_refl _)).1
 rw [hag] at hgr
 rw [← hel] at hpr
 have HKp:Hid (∀ V,Below w.heap.size w V→Calls Tryz.prog 171 #[.slice a n c,.slice ao no co] V fun e w'=>Below V.heap.size V w'∧∃ a1 c1,e = .returned (.slice a1 n c1)∧Mat w' a1 n (L.map (pickL Q))):=fun V hV=>by
  refine (rKeep_any m a n c L ao no co Q V (hi.keep hV) (hq.keep hV) (fun r hr=>(hR r hr).1) hQ (by omega) hno).mono ?_
  rintro e w' ⟨a1,c1,R,rfl,hO,hb⟩
  exact ⟨hb,a1,c1,rfl,hO.mat⟩
 have HCn:Hid (∀ V a1 c1,Below w.heap.size w V→Mat V a1 n (L.map (pickL Q))→∀ V2,Below V.heap.size V V2→Calls Tryz.prog 132 #[.agg #[.int .i64 P,.int .i64 k,.slice am mn cm],.slice a1 n c1,.int .i64 no] V2 fun e w' =>
   Below V2.heap.size V2 w'∧∃ v ap cp,e = .returned (.tuple #[v,.slice ap (grS (tblOf P k mod).ops L Q).length cp])):=fun V a1 c1 hV hM V2 hV2=>by
  refine (rCanon_any P k am mn cm mod a1 n c1 no (L.map (pickL Q)) V2 ⟨hrf,hmods V2 am mn (hmod.keep (Below.next hV hV2))⟩ (hM.keep hV2) hpr hno (by omega) hinv).mono ?_
  rintro e w' ⟨a4,c4,ap,cp,rfl,_,_,hb⟩
  exact ⟨hb,_,ap,cp,by rw [← hgr]⟩
 obtain ⟨r,hr⟩:∃ r,(grS (tblOf P k mod).ops L Q).length=r:=⟨_,rfl⟩
 rw [hr] at HCn ⊢
 clear hE em F hR hB hinv hgr hpr hel hF hA e2 hrf hmods hag hr hQ hql hmod hi hq
 go_enter Tryz.func124,Tryz.ntmps124
 go_upto_region 1 with fail
 obtain ⟨W,hW⟩:∃ W:World,W=w.alloc (.cells #[.int .i64 P,.int .i64 k,.slice am mn cm] 24):=⟨_,rfl⟩
 rw [← hW]
 have hbW:Below w.heap.size w W:=by rw [hW];exact below1 _ _
 have x0:Box W w.heap.size [.int .i64 P,.int .i64 k,.slice am mn cm]:=by rw [hW];exact Box.new _ _ _ rfl
 have hS:∀ V,Below W.heap.size W V→V.cell? ⟨w.heap.size,0,none⟩=some (.int .i64 P)∧V.cell? ⟨w.heap.size,1,none⟩=some (.int .i64 k)∧V.cell? ⟨w.heap.size,2,none⟩=some (.slice am mn cm)∧Below W.heap.size W V:=fun V hV=>by
  have x1:=x0.keep hV
  exact ⟨x1.cell 0 rfl,x1.cell 1 rfl,x1.cell 2 rfl,hV⟩
 have HS:=Lib.hid hS
 have HbW:=Lib.hid hbW
 clear hW x0 hS hbW
 go_region_held3 (fun V=>V.cell? ⟨w.heap.size,0,none⟩=some (.int .i64 P)∧V.cell? ⟨w.heap.size,1,none⟩=some (.int .i64 k)∧V.cell? ⟨w.heap.size,2,none⟩=some (.slice am mn cm)∧Below W.heap.size W V)
  ((refine HS.out _ ?_;first | exact (Below.refl _ _).drew | (go_split_ands;exact Below.next (by assumption) (by assumption))))
  (first
   | (go_at_call 171;((with_reducible refine (HKp.out _ (Below.next HbW.out (by go_split_ands;assumption))).mono ?_);rintro e w6 ⟨hb6,a6,c6,rfl,hM6⟩;have hb7:Below W.heap.size W w6:=(by go_split_ands;exact Below.next (by assumption) hb6);have Hr2:=Lib.hid (HCn.out w6 a6 c6 (Below.next HbW.out hb7) hM6);clear hM6))
   | (go_at_call 132;((with_reducible refine (Hr2.out _ (by first | exact Below.refl _ _ | exact hb4)).mono ?_);rintro e w8 ⟨hb8,v8,ap8,cp8,rfl⟩)))
 all_goals (
  go_wp2_with fail
  go_ret
  exact ⟨rfl,Below.next HbW.out (by go_split_ands;assumption)⟩)
end

section
open Go.RowKit
set_option maxRecDepth 100000 in
set_option maxHeartbeats 4000000 in
theorem sorted25_any (a:Option Addr) (n c:Nat) (Q:List Int) (w:World) (hi:Ints w a n Q) (hn:n≤1000000) :
  Calls Tryz.prog 178 #[.slice a n c] w fun e w'=>∃ a1 c1,e = .returned (.slice a1 n c1)∧w'.ownsRow w.heap.size 3 1 (.slice a1 n c1) n ((sortL Q).map (Value.int .i64))∧Below w.heap.size w w':=by
 have Hlen:=Lib.hid hi.len
 have hO:=own_emp w 3
 have hal:=Lib.hid ((Below.refl w.heap.size w).alloc (Nat.le_refl _) (.cells #[] 3))
 go_enter Tryz.func178,Tryz.ntmps178
 go_upto_region 1 with fail
 iterate 7 go_step
 have hbal:=hal.out
 generalize w.alloc (.cells #[] 3)=W0 at *
 have hiW:=hi.keep hbal
 refine wpList_appAll (by rfl) (.tmp 6) (.tmp 7) 22 3 (by rfl) (.int .i64 0) 8 Tryz.underlying22 infoInt (by rfl) w.heap.size _ 0 0 [] (by rfl) hO a n c (Q.map (Value.int .i64)) (by rfl) hiW.pl (by simp [Hlen.out]) (Ints.news hiW) (ints_oneCell _ _) (by omega) (by unfold maxLen;omega) (Below.size hbal) ?_
 intro a3 c3 w3 hown3 hgr3 hap3
 have hb3:Below w.heap.size w w3:=Below.app (B:=w.heap.size) (e:=3) (xs:=[]) hbal hO hgr3 (Nat.le_refl _) (Below.size hbal)
 rw [Nat.zero_add] at hown3 ⊢
 rw [List.nil_append] at hown3
 clear hgr3 hap3 hiW hbal hO hal hi
 have H3:=Lib.hid hown3
 clear hown3
 go_wp2_with fail
 go_loopw [4] (fun iv wr=>∃ (i:Nat) (X:List Int),1≤i∧i≤n+1∧iv = .int .i64 i∧Hid (X.Perm Q∧SrtK X i)∧wr.ownsRow w.heap.size 3 1 (.slice a3 n c3) n (X.map (Value.int .i64))∧Below w.heap.size w wr) (fun iv _=>n+1 - (intOf iv).toNat)
 case atStart=>exact ⟨1,Q,Nat.le_refl _,by omega,rfl,⟨List.Perm.refl _,fun p q h1 h2=>by omega⟩,H3.out,hb3⟩
 case round =>
  clear H3 hb3
  obtain ⟨i,X,hi1,hin,rfl,hX,hown,hbr⟩:=hrel
  have hi1':(1:Int)≤i:=by omega
  by_cases hlt:i<n
  ·have hlt':(i:Int)<n:=by omega
   go_wp2_with fail
   go_loopw [5] (fun jv wr2=>∃ (j:Nat) (Y:List Int),j≤i∧jv = .int .i64 j∧Hid (Y.Perm Q∧SrtJ Y i j)∧wr2.ownsRow w.heap.size 3 1 (.slice a3 n c3) n (Y.map (Value.int .i64))∧Below w.heap.size w wr2) (fun jv _=>(intOf jv).toNat)
   case atStart=>exact ⟨i,X,Nat.le_refl _,rfl,⟨hX.out.1,hX.out.2.start⟩,hown,hbr⟩
   case round =>
    clear hown hbr hX
    obtain ⟨j,Y,hji,rfl,hY,hown,hbr⟩:=hrel
    obtain ⟨hints,hmine⟩:=Ints.own hown
    have hpl:=hints.pl
    have HYl:=Lib.hid hints.len
    by_cases hj0:j=0
    ·have d3:decide (0<j)=false:=by simp;omega
     have Hd:Hid (Y.Perm Q∧SrtK Y (i+1)):=⟨hY.out.1,hY.out.2.done hji (.inl hj0)⟩
     clear hj0 hints hmine
     have hown2:=fun m=>own_keep hown (Drawn.below (Drawn.drewN (Drawn.refl wr) m))
     have hbr2:=fun m=>Below.next hbr (Drawn.below (Drawn.drewN (Drawn.refl wr) m))
     have Hn:=Lib.hid (And.intro hown2 hbr2)
     clear hown2 hbr2
     go_wp2_with fail
     go_quiet (fail)
     go_wp2
     go_roundw
     case rel=>exact ⟨i+1,Y,by omega,by omega,by go_num,Hd,Hn.out.1 _,Hn.out.2 _⟩
     case measure=>simp [intOf] <;> omega
    ·have d3:decide (0<j)=true:=by simp;omega
     have d4:(0:Int)≤(j:Int) - 1:=by omega
     have d5:(1:Int)≤(j:Int):=by omega
     have d6:(j:Int) - 1<n:=by omega
     have d7:(j:Int)<n:=by omega
     have e1:((j:Int) - 1).toNat=j - 1:=by omega
     have kw:IntKind.i64.wrap ((j:Int) - 1)=(j:Int) - 1:=IntWalk.i64_in _ (by omega)
     have cj:=hints.cell j (by omega)
     have cp:=hints.cell (j - 1) (by omega)
     have hown2:=fun m=>own_keep hown (Drawn.below (Drawn.drewN (Drawn.refl wr) m))
     have hbr2:=fun m=>Below.next hbr (Drawn.below (Drawn.drewN (Drawn.refl wr) m))
     have Hn:=Lib.hid (And.intro hown2 hbr2)
     clear hown2 hbr2
     by_cases h2:nth Y j<nth Y (j - 1)
     ·have h2':decide (nth Y j<nth Y (j - 1))=true:=by simpa using h2
      have hjY:j<Y.length:=by rw [HYl.out];omega
      have Hd:Hid ((swp Y j).Perm Q∧SrtJ (swp Y j) i (j - 1)):=⟨(swp_perm (by omega) hjY).trans hY.out.1,hY.out.2.step (by omega) hji hjY h2⟩
      clear hj0 hints hmine h2 hjY
      go_wp2_with fail
      go_quiet (fail)
      have hown2:=Hn.out.1 nq
      have hbr2:=Hn.out.2 nq
      clear Hn hown hbr cj cp h2'
      generalize wr.drewN nq=W2 at *
      obtain ⟨hints,hmine⟩:=Ints.own hown2
      have cj:=hints.cell j (by omega)
      have cp:=hints.cell (j - 1) (by omega)
      have fj:=(hmine (by omega)).2 j (by omega)
      have fp:=(hmine (by omega)).2 (j - 1) (by omega)
      have hB:=(hmine (by omega)).1
      have k3:(W2.setCell ⟨ablk a3,aoff a3+j,none⟩ (.int .i64 (nth Y (j - 1)))).cell? ⟨ablk a3,aoff a3+(j - 1),none⟩=some (.int .i64 (nth Y (j - 1))):=by
       rw [World.cell?_setCell_other _ _ _ _ (by simp <;> omega)];exact cp
      have hown3:=own_set (own_set hown2 j (by omega) (.int .i64 (nth Y (j - 1)))) (j - 1) (by omega) (.int .i64 (nth Y j))
      rw [← List.map_set,← List.map_set] at hown3
      have hbr3:=(hbr2.setCell (p:=⟨ablk a3,aoff a3+j,none⟩) hB (.int .i64 (nth Y (j - 1)))).setCell (p:=⟨ablk a3,aoff a3+(j - 1),none⟩) hB (.int .i64 (nth Y j))
      have Hn:=Lib.hid (And.intro hown3 hbr3)
      clear hown3 hbr3 hints hmine hown2 hbr2
      go_wp2_with fail
      go_region
      go_wp2_with fail
      go_roundw
      case rel=>exact ⟨j - 1,swp Y j,by omega,by go_num,Hd,own_keep Hn.out.1 (Below.refl _ _).drew,Below.next Hn.out.2 (Below.refl _ _).drew⟩
      case measure=>simp [intOf] <;> omega
     ·have h2':decide (nth Y j<nth Y (j - 1))=false:=by simpa using h2
      have Hd:Hid (Y.Perm Q∧SrtK Y (i+1)):=⟨hY.out.1,hY.out.2.done hji (.inr (by omega))⟩
      clear hj0 hints hmine h2
      go_wp2_with fail
      go_quiet (fail)
      go_wp2
      go_roundw
      case rel=>exact ⟨i+1,Y,by omega,by omega,by go_num,Hd,Hn.out.1 _,Hn.out.2 _⟩
      case measure=>simp [intOf] <;> omega
  ·have hXl:=(Ints.own hown).1.len
   have He:Hid (X=sortL Q):=hX.out.2.sort (by omega) hX.out.1
   have hF:=Lib.hid (And.intro hown hbr)
   clear hXl hown hbr
   go_wp2_with fail
   go_ret
   exact ⟨a3,c3,rfl,by rw [← He.out];exact hF.out.1,hF.out.2⟩
end

section
def rgTo (rk:List Int→Nat) (Q:List Int) (most:Nat):Nat→List Int
 | 0=>[]
 | k+1=>if (rgTo rk Q most k).length<most∧rk (rgTo rk Q most k ++ [nth Q k])=(rgTo rk Q most k).length+1 then rgTo rk Q most k ++ [nth Q k] else rgTo rk Q most k
theorem rgTo_stop {rk:List Int→Nat} {Q:List Int} {most:Nat}:∀ {j k:Nat},k≤j→most≤(rgTo rk Q most k).length→rgTo rk Q most j=rgTo rk Q most k
 | 0, k, h, _ => by obtain rfl:k = 0 := by omega
                    rfl
 | j+1,k,h,h2=>by
  by_cases e:k=j+1
  ·subst e;rfl
  ·have ih:=rgTo_stop (j:=j) (k:=k) (by omega) h2
   rw [rgTo,if_neg (by rw [ih];omega),ih]
section
variable {O:FOps} {El:Int→Prop} {m:Nat} {L:List (List Int)}
theorem gr_out (F:Fld O El) (hL:Rws El m L) (Q:List Int):∀ k,Rk (clV O El L.length (colS L)) (gA (grTo O L Q k).2) (grTo O L Q k).2.length ∧
  (∀ x ∈ gA (grTo O L Q k).2,x ∈ grL Q k)∧(∀ x ∈ grL Q k,clV O El L.length (colS L) (gA (grTo O L Q k).2) x)
 | 0=>⟨.nil,fun x hx=>by simp [gA,grTo,grL] at hx,fun x hx=>by simp [grL] at hx⟩
 | k+1=>by
  obtain ⟨h1,h2,h3⟩:=gr_out F hL Q k
  obtain ⟨g1,g2,_⟩:=gr_inv F hL Q k
  have hC:=col_clo F hL
  have hc:=colS_vc hL F.zero
  have htk:=takes_false F g1 (hc (nth Q k).toNat)
  have hcl:clV O El L.length (colS L) (grL Q k) (nth Q k).toNat ↔ (grTo O L Q k).1.takes O (colS L (nth Q k).toNat)=false:=by
   rw [htk]
   exact ⟨fun h φ hφ h0=>h φ hφ ((g2 φ hφ).2 h0),fun h φ hφ h0=>h φ hφ ((g2 φ hφ).1 h0)⟩
  rw [grTo]
  by_cases ht:(grTo O L Q k).1.takes O (colS L (nth Q k).toNat)=true
  ·simp only [if_pos ht]
   rw [gA_snoc,List.length_append,List.length_singleton]
   refine ⟨.ind _ (fun h=>?_) h1,fun x hx=>?_,fun x hx=>?_⟩
   ·have:=hcl.1 (hC.sub h2 h)
    rw [ht] at this;exact absurd this (by decide)
   ·rw [grL]
    rcases List.mem_cons.1 hx with rfl | hx
    ·exact List.mem_cons_self ..
    ·exact List.mem_cons_of_mem _ (h2 x hx)
   ·rw [grL] at hx
    rcases List.mem_cons.1 hx with rfl | hx
    ·exact hC.mem _ _ (List.mem_cons_self ..)
    ·exact hC.sub (fun y hy=>List.mem_cons_of_mem _ hy) (h3 x hx)
  ·simp only [if_neg ht]
   have hf:(grTo O L Q k).1.takes O (colS L (nth Q k).toNat)=false:=by simpa using ht
   refine ⟨h1,fun x hx=>?_,fun x hx=>?_⟩
   ·rw [grL];exact List.mem_cons_of_mem _ (h2 x hx)
   ·rw [grL] at hx
    rcases List.mem_cons.1 hx with rfl | hx
    ·exact hC.mono _ _ h3 _ (hcl.2 hf)
    ·exact h3 x hx
theorem gr_takes (F:Fld O El) (hL:Rws El m L) (Q:List Int) (k:Nat) :
  (grTo O L Q k).1.takes O (colS L (nth Q k).toNat)=true ↔ rkQ O L ((grTo O L Q k).2 ++ [nth Q k])=(grTo O L Q k).2.length+1:=by
 obtain ⟨h1,h2,h3⟩:=gr_out F hL Q k
 obtain ⟨g1,g2,_⟩:=gr_inv F hL Q k
 have hC:=col_clo F hL
 have hc:=colS_vc hL F.zero
 have htk:=takes_false F g1 (hc (nth Q k).toNat)
 have hcl:clV O El L.length (colS L) (grL Q k) (nth Q k).toNat ↔ (grTo O L Q k).1.takes O (colS L (nth Q k).toNat)=false:=by
  rw [htk]
  exact ⟨fun h φ hφ h0=>h φ hφ ((g2 φ hφ).2 h0),fun h φ hφ h0=>h φ hφ ((g2 φ hφ).1 h0)⟩
 have hr:=rkQ_rk F hL ((grTo O L Q k).2 ++ [nth Q k])
 rw [gA_snoc] at hr
 have hcl2:clV O El L.length (colS L) (gA (grTo O L Q k).2) (nth Q k).toNat ↔ (grTo O L Q k).1.takes O (colS L (nth Q k).toNat)=false:=by
  rw [← hcl]
  exact ⟨fun h=>hC.sub h2 h,fun h=>hC.mono _ _ h3 _ h⟩
 constructor
 ·intro ht
  refine hr.uniq (.ind _ (fun h=>?_) h1)
  have:=hcl2.1 h
  rw [ht] at this;exact absurd this (by decide)
 ·intro he
  apply Classical.byContradiction
  intro ht
  have:=hr.uniq (.dep _ (hcl2.2 (by simpa using ht)) h1)
  omega
end
end

section
open Go.RowKit
theorem rCheck_any (P M:Int) (am:Option Addr) (mn cm:Nat) (mod:List Int) (N:Int) (a:Option Addr) (n c:Nat) (L:List (List Int)) (w:World) (hmod:Ints w am mn mod) (hi:Mat w a n L) :
  Calls Tryz.prog 47 #[.agg #[.int .i64 P,.int .i64 M,.slice am mn cm,.int .i64 N,.slice a n c]] w fun e w'=>e = .returned (.int .i64 (codeE P M mod N L))∧Below w.heap.size w w':=by
 rw [← rcodeE_eq]
 exact rCodeCheck_any P M am mn cm mod N a n c L w hmod hi hinv_all
end

section
open Go.RowKit
theorem set_in {m:Nat} {Q:List Int} (h:okSet m Q=true):InN m Q:=fun j hj=>⟨(okSet_at h hj).1,(okSet_at h hj).2.1⟩
end

section
open Go.RowKit
theorem rgTo_len (rk:List Int→Nat) (Q:List Int) (most:Nat):∀ k,(rgTo rk Q most k).length≤k
 | 0=>Nat.le_refl _
 | k+1=>by
  have ih:=rgTo_len rk Q most k
  rw [rgTo]
  split
  ·rw [List.length_append];simp;omega
  ·omega
theorem rgTo_mem (rk:List Int→Nat) (Q:List Int) (most:Nat):∀ k,k≤Q.length→∀ x ∈ rgTo rk Q most k,x ∈ Q
 | 0,_,x,hx=>by simp [rgTo] at hx
 | k+1,hk,x,hx=>by
  rw [rgTo] at hx
  split at hx
  ·rcases List.mem_append.1 hx with h | h
   ·exact rgTo_mem rk Q most k (by omega) x h
   ·rw [List.mem_singleton.1 h];exact nth_mem (by omega)
  ·exact rgTo_mem rk Q most k (by omega) x hx
theorem inN_mem {m:Nat} {Q:List Int} (h:InN m Q) {x:Int} (hx:x ∈ Q):0≤x∧x<m:=by
 obtain ⟨j,hj,rfl⟩:=List.mem_iff_getElem.1 hx
 rw [← nth_getElem hj];exact h j hj
theorem inN_of {m:Nat} {Q:List Int} (h:∀ x ∈ Q,0≤x∧x<(m:Int)):InN m Q:=fun j hj=>h _ (nth_mem hj)
set_option maxRecDepth 100000 in
set_option maxHeartbeats 4000000 in
theorem rPick25_any (P M:Int) (am:Option Addr) (mn cm:Nat) (mod:List Int) (m:Nat) (a:Option Addr) (n c:Nat) (L:List (List Int)) (ao:Option Addr) (no co:Nat) (Q:List Int) (most:Nat) (w:World) (hmod:Ints w am mn mod) (hi:Mat w a n L) (hq:Ints w ao no Q)
  (hE:codeE P M mod m L=0) (hQ:InN m Q) (hno:no≤1000) :
  Calls Tryz.prog 179 #[.agg #[.int .i64 P,.int .i64 M,.slice am mn cm],.slice a n c,.slice ao no co,.int .i64 most] w fun e w' =>
   ∃ a1 c1,e = .returned (.slice a1 (rgTo (rkQ (tblOf P M.toNat mod).ops L) Q most no).length c1)∧w'.ownsRow w.heap.size 3 1 (.slice a1 (rgTo (rkQ (tblOf P M.toNat mod).ops L) Q most no).length c1) (rgTo (rkQ (tblOf P M.toNat mod).ops L) Q most no).length ((sortL (rgTo (rkQ (tblOf P M.toNat mod).ops L) Q most no)).map (Value.int .i64))∧Below w.heap.size w w':=by
 have Hql:=Lib.hid hq.len
 have hplo:=hq.pl
 obtain ⟨rk,hrk⟩:∃ rk,rkQ (tblOf P M.toNat mod).ops L=rk:=⟨_,rfl⟩
 have HO:Hid (∀ V a5 c5 l,Below w.heap.size w V→V.ownsRow w.heap.size 3 1 (.slice a5 l.length c5) l.length (l.map (Value.int .i64))→l.length≤2000→InN m l →
   Calls Tryz.prog 124 #[.agg #[.int .i64 P,.int .i64 M,.slice am mn cm],.slice a n c,.slice a5 l.length c5] V fun e w'=>e = .returned (.int .i64 (rk l))∧Below V.heap.size V w'):=fun V a5 c5 l hV ho hl hil=>by
  have h:=rOf25_any P M am mn cm mod m a n c L a5 l.length c5 l V (hmod.keep hV) (hi.keep hV) (Ints.own ho).1 hE hil (by omega)
  rw [← hrk];exact h
 rw [hrk]
 obtain ⟨G,hG⟩:∃ G,rgTo rk Q most=G:=⟨_,rfl⟩
 have Hgm:Hid (∀ k,k≤no→InN m (G k)∧(G k).length≤k):=fun k hk=>by
  rw [← hG]
  exact ⟨inN_of fun x hx=>inN_mem hQ (rgTo_mem rk Q most k (by rw [Hql.out];exact hk) x hx),rgTo_len rk Q most k⟩
 have HG1:Hid (∀ k,(G k).length<most→rk (G k ++ [nth Q k])=(G k).length+1→G (k+1)=G k ++ [nth Q k]):=fun k h1 h2=>by rw [← hG] at h1 h2 ⊢;rw [rgTo,if_pos ⟨h1,h2⟩]
 have HG2:Hid (∀ k,rk (G k ++ [nth Q k]) ≠ (G k).length+1→G (k+1)=G k):=fun k h2=>by rw [← hG] at h2 ⊢;rw [rgTo,if_neg fun h=>h2 h.2]
 have HG3:Hid (∀ k,k≤no→most≤(G k).length→G no=G k):=fun k h1 h2=>by rw [← hG] at h2 ⊢;exact rgTo_stop h1 h2
 have HG0:Hid (G 0=[]):=by rw [← hG];rfl
 have HQ:=Lib.hid hQ
 rw [hG]
 clear hG hrk hmod hi hE hQ
 go_enter Tryz.func179,Tryz.ntmps179
 go_wp2_with fail
 obtain ⟨W,hW⟩:∃ W:World,W=w.alloc (.cells #[.int .i64 P,.int .i64 M,.slice am mn cm] 24):=⟨_,rfl⟩
 rw [← hW]
 have hbW:Below w.heap.size w W:=by rw [hW];exact below1 _ _
 have x0:Box W w.heap.size [.int .i64 P,.int .i64 M,.slice am mn cm]:=by rw [hW];exact Box.new _ _ _ rfl
 have hqW:=hq.keep hbW
 have HS:Hid (∀ V,Below W.heap.size W V→V.cell? ⟨w.heap.size,0,none⟩=some (.int .i64 P)∧V.cell? ⟨w.heap.size,1,none⟩=some (.int .i64 M)∧V.cell? ⟨w.heap.size,2,none⟩=some (.slice am mn cm)):=fun V hV=>by
  have x1:=x0.keep hV
  exact ⟨x1.cell 0 rfl,x1.cell 1 rfl,x1.cell 2 rfl⟩
 have HbW:=Lib.hid hbW
 clear hW x0 hbW hq
 go_loopw [9,10] (fun ov iv wr=>∃ (k g:Nat) (a1:Option Addr) (c1:Nat),k≤no∧Hid ((G k).length=g)∧iv = .int .i64 k∧ov = .slice a1 g c1∧wr.ownsRow W.heap.size 3 1 (.slice a1 g c1) g ((G k).map (Value.int .i64))∧Below W.heap.size W wr) (fun _ iv _=>no - (intOf iv).toNat)
 case atStart=>exact ⟨0,0,none,0,Nat.zero_le _,by show _=_;rw [HG0.out];rfl,rfl,rfl,by rw [HG0.out];exact ⟨rfl,.inl ⟨rfl,rfl⟩⟩,Below.refl _ _⟩
 case round =>
  obtain ⟨k,g,a1,c1,hk,Hgl,rfl,rfl,hown,hbr⟩:=hrel
  by_cases hcond:k<no∧g<most
  ·obtain ⟨hlt,hgm⟩:=hcond
   have hgk:g≤1000:=by have h:=(Hgm.out k hk).2;rw [Hgl.out] at h;omega
   have hcx:=(hqW.keep hbr).cell k hlt
   obtain ⟨z,hz⟩:∃ z,nth Q k=z:=⟨_,rfl⟩
   have hzm:0≤z∧z<m:=by rw [← hz];exact HQ.out k (by rw [Hql.out];exact hlt)
   have hg1:=HG1.out k
   have hg2:=HG2.out k
   rw [hz] at hcx hg1 hg2
   rw [Hgl.out] at hg1 hg2
   have hin:=(Hgm.out k hk).1
   have hinz:InN m (G k ++ [z]):=inN_of fun x hx=>by
    rcases List.mem_append.1 hx with h | h
    ·exact inN_mem hin h
    ·rw [List.mem_singleton.1 h];exact hzm
   have hpl1:=(Ints.own hown).1.pl
   have hbwr:=Below.next HbW.out hbr
   have HOf:Hid (∀ V a5 c5,Below wr.heap.size wr V→V.ownsRow wr.heap.size 3 1 (.slice a5 (g+1) c5) (g+1) ((G k).map (Value.int .i64) ++ [.int .i64 z]) →
     Calls Tryz.prog 124 #[.agg #[.int .i64 P,.int .i64 M,.slice am mn cm],.slice a n c,.slice a5 (g+1) c5] V fun e w'=>e = .returned (.int .i64 (rk (G k ++ [z])))∧Below V.heap.size V w'):=fun V a5 c5 hV ho=>by
    have hl:(G k ++ [z]).length=g+1:=by rw [List.length_append,Hgl.out];rfl
    have h1:=HO.out V a5 c5 (G k ++ [z]) (Below.next hbwr hV) (by rw [hl];exact own_mono (by simpa using ho) (by have:=hbwr.size;omega)) (by omega) hinz
    rw [hl] at h1
    exact h1
   have HS2:Hid (∀ V,Below wr.heap.size wr V→V.cell? ⟨w.heap.size,0,none⟩=some (.int .i64 P)∧V.cell? ⟨w.heap.size,1,none⟩=some (.int .i64 M)∧V.cell? ⟨w.heap.size,2,none⟩=some (.slice am mn cm)):=fun V hV=>HS.out V (Below.next hbr hV)
   have HS4:Hid (∀ V,Below wr.heap.size wr V→V.cell? ⟨ablk ao,aoff ao+k,none⟩=some (.int .i64 z)∧Ints V a1 g (G k)∧Below wr.heap.size wr V):=fun V hV=>by
    refine ⟨?_,(Ints.own (own_keep hown hV)).1,hV⟩
    have h:=((hqW.keep hbr).keep hV).cell k hlt
    rwa [hz] at h
   have Hbr:=Lib.hid hbr
   have Hown:=Lib.hid hown
   have hGl:=Hgl.out
   have Hg1:=Lib.hid hg1
   have Hg2:=Lib.hid hg2
   obtain ⟨Gk,hGk⟩:∃ Gk,G k=Gk:=⟨_,rfl⟩
   rw [hGk] at HOf HS4 Hown hGl Hg1 Hg2 hinz hin Hgl
   obtain ⟨r,hr⟩:∃ r,rk (Gk ++ [z])=r:=⟨_,rfl⟩
   rw [hr] at HOf Hg1 Hg2
   have HGk:=Lib.hid hGk
   clear hr hz hcx hown hbr hg1 hg2 hin hinz hGk hbwr hzm
   go_wp2_with fail
   go_cut [11] (fun v wx=>∃ a5 c5,v = .slice a5 (g+1) c5∧wx.ownsRow wr.heap.size 3 1 (.slice a5 (g+1) c5) (g+1) (Gk.map (Value.int .i64) ++ [.int .i64 z])∧Below wr.heap.size wr wx)
   case first =>
    have hO:=own_emp wr 3
    have hO2:((wr.alloc (.cells #[.int .i64 z] 3)).alloc (.cells #[] 3)).ownsRow wr.heap.size 3 1 (.slice (some ⟨wr.heap.size+1,0,none⟩) 0 0) 0 []:=by
     have h:=own_mono (own_emp (wr.alloc (.cells #[.int .i64 z] 3)) 3) (B':=wr.heap.size) (by simp)
     rwa [World.size_alloc] at h
    go_region_held3 (fun V=>V.cell? ⟨ablk ao,aoff ao+k,none⟩=some (.int .i64 z)∧Ints V a1 g Gk∧Below wr.heap.size wr V)
     ((refine HS4.out _ ?_;first | exact (Below.refl _ _).drew | exact hb5 | exact Below.next hb5 hb6 | exact hb4 | exact Below.allocN hb4 _ | exact ((Below.refl _ _).alloc (Nat.le_refl _) _).drew | (go_split_ands;exact Below.allocN (by assumption) _)))
     (first
      | (obtain ⟨_,hI9,hB9⟩:=(by assumption:_∧Ints _ a1 g Gk∧Below wr.heap.size wr _);refine step_appAll (by rfl) (.tmp 24) (.tmp 25) 22 3 (by rfl) (.int .i64 0) 8 Tryz.underlying22 infoInt (by rfl) wr.heap.size _ 0 0 [] (by rfl) (by first | exact hO | exact hO.alloc _ | exact hO2) a1 g c1 (Gk.map (Value.int .i64)) (by rfl) hpl1 (by simp [hGl]) (Ints.news hI9) (ints_oneCell _ _) (by omega) (by unfold maxLen;omega) (Below.size hB9) ?_;intro a4 c4 w4 hown4 hgr4 hap4;have hb4:Below wr.heap.size wr w4:=Below.app (B:=wr.heap.size) (e:=3) (xs:=[]) hB9 (by first | exact hO | exact hO.alloc _ | exact hO2) hgr4 (Nat.le_refl _) (Below.size hB9);rw [Nat.zero_add] at hown4 ⊢;rw [List.nil_append] at hown4;(first | (have hc4:=cell_grownApt (ad:=⟨wr.heap.size+1,0,none⟩) (v:=.int .i64 z) hgr4 (cell_new' _ _ _ (by simp)) (.inr (by simp))) | (have hc4:=cell_grownApt (ad:=⟨wr.heap.size,0,none⟩) (v:=.int .i64 z) hgr4 (cell_box (cell_new' _ _ _ rfl) _) (.inr (by simp))) | skip))
      | (refine step_appAll (by rfl) (.tmp 26) (.tmp 31) 22 3 (by rfl) (.int .i64 0) 8 Tryz.underlying22 infoInt (by rfl) wr.heap.size a4 g c4 (Gk.map (Value.int .i64)) (by rfl) (by first | exact hown4 | exact hown4.alloc _) _ 1 1 [.int .i64 z] (by rfl) (fun _=>rfl) rfl (by intro j hj;obtain rfl:j=0:=(by omega);first | exact cell_new' _ _ _ rfl | exact hc4) (by intro y hy;simp at hy;subst hy;rfl) (by omega) (by unfold maxLen;omega) (by first | exact hb4.size | exact (Below.allocN hb4 _).size) ?_;intro a5 c5 w5 hown5 hgr5 hap5;have hb5:Below wr.heap.size wr w5:=(by first | exact Below.app (Below.allocN hb4 _) (hown4.alloc _) hgr5 (Nat.le_refl _) (Below.allocN hb4 _).size | exact Below.app hb4 hown4 hgr5 (Nat.le_refl _) hb4.size)))
    all_goals (go_wp2_with fail;go_meet;exact ⟨a5,c5,rfl,hown5,hb5⟩)
   obtain ⟨a5,c5,rfl,hown5,hb5⟩:=hcut
   generalize wc=V at *
   obtain ⟨q0,q1,q2⟩:=HS2.out V hb5
   have HOf2:=Lib.hid (HOf.out V a5 c5 hb5 hown5)
   have H5:=Lib.hid (And.intro hown5 hb5)
   clear hown5 hb5 HOf
   go_wp2_with fail
   refine HOf2.out.mono ?_
   rintro e w6 ⟨rfl,hb6⟩
   clear q0 q1 q2 HOf2
   have hbw6:=Below.next Hbr.out (Below.next H5.out.2 hb6)
   by_cases hr:r=g+1
   ·have hrr:((r:Int) == (g:Int)+1)=true:=by rw [hr];simp
    have HGn:Hid (G (k+1)=Gk ++ [z]):=Hg1.out hgm hr
    clear hr
    go_wp2_with fail
    go_roundw
    case rel=>exact ⟨k+1,g+1,a5,c5,by omega,by show _=_;rw [HGn.out,List.length_append,hGl];rfl,by go_num,rfl,by rw [HGn.out];exact own_mono (own_keep (by simpa using H5.out.1) hb6) (Hbr.out.size),hbw6⟩
    case measure=>simp [intOf] <;> omega
   ·have hrr:((r:Int) == (g:Int)+1)=false:=by simp;omega
    have HGn:Hid (G (k+1)=Gk):=Hg2.out hr
    clear hr
    go_wp2_with fail
    go_roundw
    case rel=>exact ⟨k+1,g,a1,c1,by omega,by show _=_;rw [HGn.out];exact hGl,by go_num,rfl,by rw [HGn.out];exact own_keep Hown.out (Below.next H5.out.2 hb6),hbw6⟩
    case measure=>simp [intOf] <;> omega
  ·have HGe:Hid (G no=G k):=by
    show _=_
    by_cases hlt:k<no
    ·exact HG3.out k hk (by rw [Hgl.out];omega)
    ·obtain rfl:k=no:=by omega
     rfl
   have hgk:g≤1000:=by have h:=(Hgm.out k hk).2;rw [Hgl.out] at h;omega
   have hbwr:=Below.next HbW.out hbr
   have Hso:=Lib.hid (sorted25_any a1 g c1 (G k) wr (Ints.own hown).1 (by omega))
   have hsz:=hbwr.size
   have Hbr:=Lib.hid hbwr
   clear hown hbr hbwr
   by_cases hlt:k<no
   ·have hgm:¬ g<most:=fun h=>hcond ⟨hlt,h⟩
    clear hcond
    go_wp2_with fail
    refine Hso.out.mono ?_
    rintro e w7 ⟨a7,c7,rfl,hown7,hb7⟩
    have hF:=Below.next Hbr.out hb7
    have hown8:=own_mono hown7 hsz
    clear hown7
    have HF:=Lib.hid (And.intro hown8 hF)
    clear hown8 hF
    go_wp2_with fail
    go_ret
    rw [HGe.out,Hgl.out]
    exact ⟨a7,c7,rfl,HF.out.1,HF.out.2⟩
   ·obtain rfl:k=no:=by omega
    clear hcond
    go_wp2_with fail
    refine Hso.out.mono ?_
    rintro e w7 ⟨a7,c7,rfl,hown7,hb7⟩
    have hF:=Below.next Hbr.out hb7
    have hown8:=own_mono hown7 hsz
    clear hown7
    have HF:=Lib.hid (And.intro hown8 hF)
    clear hown8 hF
    go_wp2_with fail
    go_ret
    rw [Hgl.out]
    exact ⟨a7,c7,rfl,HF.out.1,HF.out.2⟩
end

section
open Go.RowKit
def inTo (l:List Int) (v:Int) (k:Nat):Bool:=decide (v ∈ l.take k)
theorem inTo_succ {l:List Int} {k:Nat} (v:Int) (h:k<l.length):inTo l v (k+1)=(inTo l v k || decide (nth l k=v)):=by
 unfold inTo
 rw [List.take_succ_eq_append_getElem h,nth_getElem h]
 simp only [List.mem_append,List.mem_singleton,Bool.decide_or]
 congr 1
 simp [eq_comm]
theorem inTo_all {l:List Int} {n:Nat} (v:Int) (h:l.length=n):inTo l v n=decide (v ∈ l):=by
 unfold inTo
 rw [List.take_of_length_le (by omega)]
set_option maxRecDepth 100000 in
set_option maxHeartbeats 3200000 in
theorem rOthers10_any (a:Option Addr) (n c:Nat) (l:List Int) (m:Nat) (w:World) (h:Ints w a n l) (hm:m≤1000) :
  Calls Tryz.prog 84 #[.slice a n c,.int .i64 m] w fun e w'=>∃ a1 c1,e = .returned (.slice a1 (frTo false l m).length c1) ∧
   w'.ownsRow w.heap.size 3 1 (.slice a1 (frTo false l m).length c1) (frTo false l m).length ((frTo false l m).map (Value.int .i64))∧Below w.heap.size w w':=by
 have Hl:=Lib.hid h.len
 have hpl:=h.pl
 have hmax:=h.max
 unfold maxLen at hmax
 obtain ⟨G,hG⟩:∃ G,frTo false l=G:=⟨_,rfl⟩
 have HG1:Hid (∀ k:Nat,decide ((k:Int) ∈ l)=false→G (k+1)=G k ++ [(k:Int)]):=fun k h=>by rw [← hG,frTo,if_pos h]
 have HG2:Hid (∀ k:Nat,decide ((k:Int) ∈ l)=true→G (k+1)=G k):=fun k h=>by rw [← hG,frTo,if_neg (by rw [h];decide)]
 have HGl:Hid (∀ k,(G k).length≤k):=fun k=>by rw [← hG];exact frTo_len _ _ _
 have HG0:Hid (G 0=[]):=by rw [← hG];rfl
 rw [hG]
 clear hG
 go_enter Tryz.func84,Tryz.ntmps84
 go_wp2_with fail
 go_loopw [5,6] (fun ov iv wr=>∃ (i g:Nat) (a1:Option Addr) (c1:Nat),i≤m∧iv = .int .i64 i∧Hid ((G i).length=g)∧ov = .slice a1 g c1∧wr.ownsRow w.heap.size 3 1 (.slice a1 g c1) g ((G i).map (Value.int .i64))∧Below w.heap.size w wr) (fun _ iv _=>m - (intOf iv).toNat)
 case atStart=>exact ⟨0,0,none,0,Nat.zero_le _,rfl,by show _=_;rw [HG0.out];rfl,rfl,by rw [HG0.out];exact own_none,Below.refl _ _⟩
 case round =>
  obtain ⟨i,g,a1,c1,hi,rfl,Hg,rfl,hown,hbr⟩:=hrel
  by_cases hlt:i<m
  ·have hiW:=h.keep hbr
   have hgi:g≤1000:=by have h1:=HGl.out i;rw [Hg.out] at h1;omega
   generalize wr=X1 at *
   go_wp2_with fail
   go_loopw [7,8] (fun bv kv ws=>∃ k:Nat,k≤n∧kv = .int .i64 k∧bv = .bool (inTo l i k)∧ws=X1) (fun _ kv _=>n - (intOf kv).toNat)
   case atStart=>exact ⟨0,Nat.zero_le _,rfl,by simp [inTo],rfl⟩
   case round =>
    obtain ⟨k,hk,rfl,rfl,rfl⟩:=hrel
    by_cases hltk:k<n
    ·have ck:=hiW.cell k hltk
     have Hs:=Lib.hid (inTo_succ (l:=l) (i:Int) (show k<l.length by rw [Hl.out];exact hltk))
     obtain ⟨b,hb⟩:∃ b,inTo l i k=b:=⟨_,rfl⟩
     rw [hb] at Hs ⊢
     clear hb
     cases b
     ·by_cases he:nth l k=i
      ·have he':(nth l k == (i:Int))=true:=by rw [he];simp
       have Hn:Hid (inTo l i (k+1)=true):=by show _=_;rw [Hs.out,decide_eq_true he];rfl
       clear he
       go_wp2_with fail
       go_roundw
       case rel=>exact ⟨k+1,by omega,by go_num,by rw [Hn.out],by simp⟩
       case measure=>simp [intOf] <;> omega
      ·have he':(nth l k == (i:Int))=false:=by simpa using he
       have Hn:Hid (inTo l i (k+1)=false):=by show _=_;rw [Hs.out,decide_eq_false he];rfl
       clear he
       go_wp2_with fail
       go_roundw
       case rel=>exact ⟨k+1,by omega,by go_num,by rw [Hn.out],by simp⟩
       case measure=>simp [intOf] <;> omega
     ·have Hn:Hid (inTo l i (k+1)=true):=by show _=_;rw [Hs.out];rfl
      go_wp2_with fail
      go_roundw
      case rel=>exact ⟨k+1,by omega,by go_num,by rw [Hn.out],by simp⟩
      case measure=>simp [intOf] <;> omega
    ·obtain rfl:k=n:=by omega
     rw [inTo_all (i:Int) Hl.out]
     have hH1:=HG1.out i
     have hH2:=HG2.out i
     obtain ⟨b,hb⟩:∃ b,decide ((i:Int) ∈ l)=b:=⟨_,rfl⟩
     rw [hb] at hH1 hH2 ⊢
     clear hb
     cases b
     ·have Hn:=Lib.hid (hH1 rfl)
      clear hH1 hH2
      have hsz:=hbr.size
      have hcn:=cell_new wr (.int .i64 i) 3
      have hbn:=below1 wr (.cells #[.int .i64 i] 3)
      go_wp2_with (at_builtin;refine wpList_push rfl _ _ 22 3 rfl (.int .i64 0) 8 Tryz.underlying22 infoInt rfl w.heap.size a1 g c1 _ rfl (hown.alloc _) ⟨wr.heap.size,0,none⟩ 1 (.int .i64 i) rfl hcn rfl (by omega) (by unfold maxLen;omega) (by simp;omega) ?_;intro a5 c5 w5 hown5 hgr5 hap5)
      go_roundw
      case rel =>
       refine ⟨i+1,g+1,a5,c5,by omega,by go_num,by show _=_;rw [Hn.out,List.length_append,Hg.out];rfl,rfl,by rw [Hn.out];simpa using hown5,Below.app (Below.allocN hbr _) (hown.alloc _) hgr5 (Nat.le_refl _) (Below.allocN hbr _).size⟩
      case measure=>simp [intOf] <;> omega
     ·have Hn:=Lib.hid (hH2 rfl)
      clear hH1 hH2
      go_wp2_with fail
      go_roundw
      case rel=>exact ⟨i+1,g,a1,c1,by omega,by go_num,by show _=_;rw [Hn.out];exact Hg.out,rfl,by rw [Hn.out];exact hown,hbr⟩
      case measure=>simp [intOf] <;> omega
  ·obtain rfl:i=m:=by omega
   have HF:=Lib.hid (And.intro hown hbr)
   clear hown hbr
   go_wp2_with fail
   go_ret
   rw [Hg.out]
   exact ⟨a1,c1,rfl,HF.out.1,HF.out.2⟩
end

section
theorem rg_take {O:FOps} {El:Int→Prop} {m:Nat} {L:List (List Int)} (F:Fld O El) (hL:Rws El m L) (Q:List Int) (most:Nat):∀ k,rgTo (rkQ O L) Q most k=(grTo O L Q k).2.take most
 | 0=>by simp [rgTo,grTo]
 | k+1=>by
  have ih:=rg_take F hL Q most k
  have hT:=gr_takes F hL Q k
  rw [rgTo,ih,grTo]
  by_cases h:(grTo O L Q k).2.length<most
  ·rw [List.take_of_length_le (by omega)]
   by_cases ht:(grTo O L Q k).1.takes O (colS L (nth Q k).toNat)=true
   ·rw [if_pos ⟨h,hT.1 ht⟩,if_pos ht,List.take_of_length_le (by simp;omega)]
   ·rw [if_neg fun hh=>ht (hT.2 hh.2),if_neg ht,List.take_of_length_le (by dsimp only;omega)]
  ·rw [if_neg fun hh=>by
    have h2:=hh.1
    rw [List.length_take] at h2
    omega]
   split
   ·rw [List.take_append_of_le_length (by omega)]
   ·rfl
theorem rg_grM {O:FOps} {El:Int→Prop} {m:Nat} {L:List (List Int)} (F:Fld O El) (hL:Rws El m L) (Q:List Int) (most:Nat):rgTo (rkQ O L) Q most Q.length=grM O L Q most:=rg_take F hL Q most _
theorem kids_mem {C:Clm} {s z t:List Int} {x:Int} (h:x ∈ kidsS C s z t):x ∈ t∧¬ x ∈ z∧s.length<C.W:=by
 unfold kidsS at h
 split at h
 ·rename_i hl
  rw [List.mem_filter] at h
  exact ⟨h.1,by simpa using h.2,hl⟩
 ·simp at h
end

end Go.Proofs.YtcflcogbpnmjeaaGreat
