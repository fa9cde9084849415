/-  -/
import Derived.Test.YtcfmiocdlcapoaaGreatK25
import Derived.Test.YtcfmiocdlcapoaaGreatL1
import Derived.Test.YtcfmiocdlcapoaaGreatK28
import Derived.Test.YtcfmiocdlcapoaaGreatK32
import Derived.Test.YtcfmiocdlcapoaaGreatK29
import Derived.Test.YtcfmiocdlcapoaaGreatK31
namespace Go.Proofs.YtcfmiocdlcapoaaGreat
set_option linter.unusedVariables false
set_option linter.unusedSimpArgs false
set_option linter.unusedSectionVars false

section
set_option maxRecDepth 100000
set_option maxHeartbeats 4000000

open Go.RowKit
def zerB (l : List Int) : Bool:=l.all λy=>y == 0
theorem any_zer (l : List Int) : l.any (λy=>y != 0) = !(zerB l):=by
 unfold zerB
 induction l with
 | nil=>rfl
 | cons x l ih =>
  rw [List.any_cons,List.all_cons,ih,Bool.not_and];rfl
theorem zero1_any (x : Int) (w : World) : Calls Tryz.prog 248 #[.int .i64 x] w λe w'=>e = .returned (.bool (x != 0))/\w=w':=by
 go_enter Tryz.func248,Tryz.ntmps248
 go_wp2
 go_ret
 exact ⟨rfl,rfl⟩
theorem indexZG_any (p : Int->Bool) (a : Option Addr) (n c : Nat) (l : List Int) (w : World) (hi : Ints w a n l) (hf : ∀k,k<n->Calls Tryz.prog 248 #[.int .i64 (nth l k)] w λe w'=>e = .returned (.bool (p (nth l k)))/\w=w') :
  Calls Tryz.prog 97 #[.slice a n c,.func (.func 248) #[] #[]] w λe w'=>∃z : Int,e = .returned (.int .i64 z)/\(0<=z ↔ l.any p=true)/\w=w':=by
 have hpl:=hi.pl
 have hmax:=hi.max
 have HF:=Lib.hid hf
 have Hl:=Lib.hid hi.len
 unfold maxLen at hmax
 clear hf
 go_enter Tryz.func97,Tryz.ntmps97
 go_wp2_with fail
 go_loop [8] (λiv=>∃k : Nat,k<=n/\iv = .int .i64 k/\Hid (∀j,j<k->p (nth l j)=false)) (λiv=>n - (intOf iv).toNat)
 case atStart=>exact ⟨0,Nat.zero_le _,rfl,λj hj=>by omega⟩
 case round =>
  obtain ⟨k,hk,rfl,hno⟩:=hrel
  by_cases hlt : k<n
  ·have ck:=hi.cell k hlt
   have hfk:=HF.out k hlt
   obtain ⟨z,hz⟩ : ∃z,p (nth l k)=z:=⟨_,rfl⟩
   rw [hz] at hfk
   have Hk:=Lib.hid hfk
   cases z
   ·have Hn : Hid (∀j,j<k+1->p (nth l j)=false):=λj hj=>by
     by_cases e : j=k
     ·subst e;exact hz
     ·exact hno.out j (by omega)
    clear hz hfk hno
    go_wp2_with fail
    refine Hk.out.mono ?_
    rintro e w' ⟨rfl,rfl⟩
    go_wp2_with fail
    go_round
    case rel=>exact ⟨k+1,by omega,by go_num,Hn.out⟩
    case measure=>simp [intOf] <;> omega
   ·have Hy : Hid (l.any p=true):=by
     show _=_
     rw [List.any_eq_true]
     exact ⟨nth l k,nth_mem (by rw [Hl.out];exact hlt),hz⟩
    clear hz hfk hno
    go_wp2_with fail
    refine Hk.out.mono ?_
    rintro e w' ⟨rfl,rfl⟩
    go_wp2_with fail
    go_ret
    exact ⟨k,rfl,⟨λ_=>by first | exact Hy.out | exact List.any_eq_true.1 Hy.out,λ_=>Int.natCast_nonneg _⟩,rfl⟩
  ·obtain rfl : k=n:=by omega
   have Hy : Hid (l.any p=false):=by
    show _=_
    rw [List.any_eq_false]
    intro x hx
    obtain ⟨j,hj,rfl⟩:=List.mem_iff_getElem.1 hx
    have:=hno.out j (by rw [<- Hl.out];exact hj)
    rw [nth_getElem hj] at this
    rw [this];decide
   go_wp2_with fail
   go_ret
   exact ⟨-1,rfl,⟨λh=>absurd h (by omega),λh=>by have h2 : l.any p=true:=(by first | exact h | exact List.any_eq_true.2 h);rw [Hy.out] at h2;exact absurd h2 (by decide)⟩,rfl⟩
theorem containsZG_any (p : Int->Bool) (a : Option Addr) (n c : Nat) (l : List Int) (w : World) (hi : Ints w a n l) (hf : ∀k,k<n->Calls Tryz.prog 248 #[.int .i64 (nth l k)] w λe w'=>e = .returned (.bool (p (nth l k)))/\w=w') :
  Calls Tryz.prog 136 #[.slice a n c,.func (.func 248) #[] #[]] w λe w'=>e = .returned (.bool (l.any p))/\w=w':=by
 have Hc:=Lib.hid (indexZG_any p a n c l w hi hf)
 clear hf
 go_enter Tryz.func136,Tryz.ntmps136
 go_wp2_with fail
 refine Hc.out.mono ?_
 rintro e w' ⟨z,rfl,hz,rfl⟩
 by_cases h0 : 0<=z
 ·have Hz : Hid (l.any p=true):=hz.1 h0
  have h0' : decide (0<=z)=true:=by simpa using h0
  clear hz h0
  go_wp2_with fail
  go_ret
  exact ⟨ret_bool Hz.out.symm,rfl⟩
 ·have Hz : Hid (l.any p=false):=by
   show _=_
   cases h : l.any p
   ·rfl
   ·exact absurd (hz.2 h) h0
  have h0' : decide (0<=z)=false:=by simpa using h0
  clear hz h0
  go_wp2_with fail
  go_ret
  exact ⟨ret_bool Hz.out.symm,rfl⟩
theorem zeroG_any (a : Option Addr) (n c : Nat) (l : List Int) (w : World) (hi : Ints w a n l) :
  Calls Tryz.prog 212 #[.slice a n c] w λe w'=>e = .returned (.bool (zerB l))/\w=w':=by
 have hcc:=containsZG_any (λy=>y != 0) a n c l w hi λk hk=>zero1_any (nth l k) w
 rw [any_zer] at hcc
 obtain ⟨z,hz⟩ : ∃z,zerB l=z:=⟨_,rfl⟩
 rw [hz] at hcc ⊢
 have Hc:=Lib.hid hcc
 clear hcc hz
 go_enter Tryz.func212,Tryz.ntmps212
 go_wp2_with fail
 refine Hc.out.mono ?_
 rintro e w' ⟨rfl,rfl⟩
 cases z
 ·go_wp2_with fail
  go_ret
  exact ⟨rfl,rfl⟩
 ·go_wp2_with fail
  go_ret
  exact ⟨rfl,rfl⟩
theorem viewHasG_any {w : World} {b : Nat} {G : Tbl} (m : Nat) (a : Option Addr) (n c : Nat) (R : List (List Int)) (ap : Option Addr) (cp : Nat) (Pv : List Int) (ax : Option Addr) (cx : Nat) (x : List Int)
  (h : GFw w b G) (hi : Mat w a n R) (hp : Ints w ap n Pv) (hx : Ints w ax m x) (hOk : BS.Ok G.El m ⟨R,Pv⟩) (hxe : Vc G.El m x) (hn : n<=1000000) (hm : m<=1000000) :
  Calls Tryz.prog 144 #[.agg #[.pointer (some ⟨b,0,none⟩),.int .i64 m,.slice a n c,.slice ap n cp],.slice ax m cx] w
   λe w'=>e = .returned (.bool (zerB (redTo G.ops R Pv x n)))/\Below w.heap.size w w':=by
 obtain ⟨z,hz⟩ : ∃z,zerB (redTo G.ops R Pv x n)=z:=⟨_,rfl⟩
 rw [hz]
 have HZ:=Lib.hid hz
 clear hz
 go_enter Tryz.func144,Tryz.ntmps144
 go_wp2_with fail
 obtain ⟨W,hW⟩ : ∃W : World,W=w.alloc (.cells #[.pointer (some ⟨b,0,none⟩),.int .i64 m,.slice a n c,.slice ap n cp] 162):=⟨_,rfl⟩
 rw [<- hW]
 have hbW : Below w.heap.size w W:=by rw [hW];exact below1 _ _
 clear hW
 refine (reduce_any m a n c R ap cp Pv ax cx x (h.keep hbW) (hi.keep hbW) (hp.keep hbW) (hx.keep hbW) hOk hxe hn hm).mono ?_
 rintro e w1 ⟨a1,c1,v2,rfl,hI1,hb1⟩
 have hzz:=zeroG_any a1 m c1 _ w1 hI1
 rw [HZ.out] at hzz
 have Hz:=Lib.hid hzz
 have hF:=Below.next hbW hb1
 clear hI1 hOk hxe hzz
 go_wp2_with fail
 refine Hz.out.mono ?_
 rintro e w2 ⟨rfl,rfl⟩
 go_wp2_with fail
 go_ret
 exact ⟨rfl,hF⟩
def hasB (P M : Int) (mod : List Int) (m : Nat) (L : List (List Int)) (x : List Int) : Bool:=zerB (redTo (tblOf P M.toNat mod).ops L (pivS (tblOf P M.toNat mod) L m) x L.length)
theorem spaceHasG_any (P M : Int) (am : Option Addr) (mn cm : Nat) (mod : List Int) (m : Nat) (a : Option Addr) (n c : Nat) (L : List (List Int)) (ax : Option Addr) (cx : Nat) (x : List Int) (w : World) (hmod : Ints w am mn mod) (hi : Mat w a n L) (hx : Ints w ax m x)
  (hE : codeE P M mod m L=0) (hxe : Vc (tblOf P M.toNat mod).El m x) :
  Calls Tryz.prog 75 #[.agg #[.int .i64 P,.int .i64 M,.slice am mn cm],.agg #[.int .i64 m,.slice a n c],.slice ax m cx] w λe w'=>e = .returned (.tuple #[.bool (hasB P M mod m L x),.int .i64 0])/\Below w.heap.size w w':=by
 obtain ⟨z,hz⟩ : ∃z,hasB P M mod m L x=z:=⟨_,rfl⟩
 rw [hz]
 unfold hasB at hz
 have hil:=hi.len
 obtain ⟨m',em,hm1,hm64,F,hR⟩:=codeE_fld hE
 obtain rfl : m=m':=by omega
 have hn : n<=256:=by rw [<- hil];exact (codeE_rws hE).choose_spec.2.2.2.1
 obtain ⟨h5,h6⟩:=spaceE_zero (codeE_zero hE).2.2.2
 rw [Int.toNat_natCast] at h6
 have hcan : canO (tblOf P M.toNat mod).ops m L=L:=h6
 have hpiv:=(canO_piv F hR).1
 have hlen:=canO_len F hR
 rw [hcan] at hpiv hlen
 have hOk : BS.Ok (tblOf P M.toNat mod).El m ⟨L,pivS (tblOf P M.toNat mod) L m⟩:=(piv_inv hR hpiv hlen).ok
 have hpl : (pivS (tblOf P M.toNat mod) L m).length=n:=by rw [<- hil];exact hlen.symm
 rw [hil] at hz
 have H0:=Lib.hid hz
 have HOk:=Lib.hid hOk
 have Hsp:=Lib.hid (codeE_zero hE).2.2.2
 have Hxe:=Lib.hid hxe
 clear hz hOk h5 h6 hcan hpiv hlen em F hR hE hil hxe
 go_enter Tryz.func75,Tryz.ntmps75
 go_wp2_with fail
 obtain ⟨W,hW⟩ : ∃W : World,W=(w.alloc (.cells #[.int .i64 P,.int .i64 M,.slice am mn cm] 24)).alloc (.cells #[.int .i64 m,.slice a n c] 82):=⟨_,rfl⟩
 rw [<- hW]
 have hbW : Below w.heap.size w W:=by rw [hW];exact below2 _ _ _
 clear hW
 refine (spaceOpen_any P M am mn cm mod m a n c L W (hmod.keep hbW) (hi.keep hbW)).mono ?_
 rintro e w1 ⟨hb1,⟨he,_⟩ | ⟨_,m',b,hm',ap,cp,rfl,hG,hbl,hP⟩⟩
 ·exact absurd Hsp.out he
 obtain rfl : m=m':=by omega
 have hbw1:=Below.next hbW hb1
 have hp1:=hP.ints
 rw [hpl] at hp1 ⊢
 obtain ⟨Pv,hPv⟩ : ∃Pv,pivS (tblOf P M.toNat mod) L m=Pv:=⟨_,rfl⟩
 obtain ⟨G,hGG⟩ : ∃G,tblOf P M.toNat mod=G:=⟨_,rfl⟩
 rw [hGG] at hPv hG H0 HOk Hxe
 rw [hPv] at H0 HOk
 have hp2 : Ints w1 ap n Pv:=by rw [hGG,hPv] at hp1;exact hp1
 have hb2:=below1 w1 (.cells #[.pointer (some ⟨b,0,none⟩),.int .i64 m,.slice a n c,.slice ap n cp] 162)
 have hbw2:=Below.next hbw1 hb2
 have HWd:=Lib.hid (viewWord_any m a n c ap n cp ax cx x (hG.gf.keep hb2) (hx.keep hbw2) Hxe.out)
 have HHs : Hid (∀V,Below w1.heap.size w1 V->Calls Tryz.prog 144 #[.agg #[.pointer (some ⟨b,0,none⟩),.int .i64 m,.slice a n c,.slice ap n cp],.slice ax m cx] V λe w'=>e = .returned (.bool z)/\Below V.heap.size V w'):=λV hV=>by
  rw [<- H0.out];exact viewHasG_any m a n c L ap cp Pv ax cx x (hG.gf.keep hV) (hi.keep (Below.next hbw1 hV)) (hp2.keep hV) (hx.keep (Below.next hbw1 hV)) HOk.out Hxe.out (by omega) (by omega)
 have k0:=Box.new w1 [.pointer (some ⟨b,0,none⟩),.int .i64 m,.slice a n c,.slice ap n cp] 162 rfl
 have HX:=Lib.hid k0
 clear hpl hPv hGG hG hbl hP hp1 hp2 hm' k0
 go_wp2_with fail
 refine HWd.out.mono ?_
 rintro e w3 ⟨rfl,hb3⟩
 have x3:=HX.out.keep hb3
 have k0:=x3.cell 0 rfl
 have k1:=x3.cell 1 rfl
 have k2:=x3.cell 2 rfl
 have k3:=x3.cell 3 rfl
 have Hh:=Lib.hid (HHs.out w3 (Below.next hb2 hb3))
 have hbw3:=Below.next hbw2 hb3
 clear HWd HHs x3
 go_wp2_with fail
 refine Hh.out.mono ?_
 rintro e w4 ⟨rfl,hb4⟩
 have hF:=Below.next hbw3 hb4
 go_wp2_with fail
 go_ret2
 exact ⟨rfl,hF⟩
theorem codeWordG_any (P M : Int) (am : Option Addr) (mn cm : Nat) (mod : List Int) (N : Int) (a : Option Addr) (n c : Nat) (L : List (List Int)) (ax : Option Addr) (nx cx : Nat) (x : List Int) (w : World) (hmod : Ints w am mn mod) (hi : Mat w a n L) (hx : Ints w ax nx x) :
  Calls Tryz.prog 74 #[.agg #[.int .i64 P,.int .i64 M,.slice am mn cm,.int .i64 N,.slice a n c],.slice ax nx cx] w λe w'=>e = .returned (.int .i64 (wrdE P M mod N L x))/\Below w.heap.size w w':=by
 go_enter Tryz.func74,Tryz.ntmps74
 go_wp2_with fail
 obtain ⟨W,hW⟩ : ∃W : World,W=w.alloc (.cells #[.int .i64 P,.int .i64 M,.slice am mn cm,.int .i64 N,.slice a n c] 27):=⟨_,rfl⟩
 rw [<- hW]
 have hbW : Below w.heap.size w W:=by rw [hW];exact below1 _ _
 have x0 : Box W w.heap.size [.int .i64 P,.int .i64 M,.slice am mn cm,.int .i64 N,.slice a n c]:=by rw [hW];exact Box.new _ _ _ rfl
 clear hW
 refine (codeCheck_any P M am mn cm mod N a n c L W (hmod.keep hbW) (hi.keep hbW)).mono ?_
 rintro e w1 ⟨rfl,hb1⟩
 have hbw1:=Below.next hbW hb1
 have x1:=x0.keep hb1
 have c0:=x1.cell 0 rfl
 have c1:=x1.cell 1 rfl
 have c2:=x1.cell 2 rfl
 have c3:=x1.cell 3 rfl
 by_cases hE : codeE P M mod N L=0
 rotate_left
 ·have hE2 : (codeE P M mod N L != 0)=true:=by simpa using hE
  have HR : Hid (wrdE P M mod N L x=codeE P M mod N L):=if_neg hE
  clear hE x0 x1
  generalize codeE P M mod N L=er at *
  go_wp2_with fail
  go_ret
  exact ⟨ret_int HR.out.symm,hbw1⟩
 obtain ⟨m,rfl,_⟩:=codeE_rws hE
 have hq : ((tblOf P M.toNat mod).q : Int)=orderS P M:=by
  obtain ⟨m1,e1,_,h1,_⟩:=eq_ops (codeE_zero hE).1
  rw [show M.toNat=m1 by omega];exact h1
 have HR : Hid (wrdE P M mod m L x=lstE (tblOf P M.toNat mod).q x m):=by
  show _=_
  rw [wrdE,if_pos hE,hq,Int.toNat_natCast]
 have HL:=Lib.hid (codeListG_any P M am mn cm mod ax nx cx x m w1 (hmod.keep hbw1) (hx.keep hbw1) (codeE_zero hE).1)
 rw [hE]
 clear hE x0 x1 hq
 go_wp2_with fail
 refine HL.out.mono ?_
 rintro e w2 ⟨rfl,hb2⟩
 have hF:=Below.next hbw1 hb2
 go_wp2_with fail
 go_ret
 exact ⟨ret_int HR.out.symm,hF⟩
theorem wrdE_zero {P M : Int} {mod : List Int} {N : Int} {L : List (List Int)} {x : List Int} (h : wrdE P M mod N L x=0) : codeE P M mod N L=0/\Vc (tblOf P M.toNat mod).El N.toNat x:=by
 unfold wrdE at h
 by_cases hE : codeE P M mod N L=0
 ·rw [if_pos hE] at h
  have hq : ((tblOf P M.toNat mod).q : Int)=orderS P M:=by
   obtain ⟨m1,e1,_,h1,_⟩:=eq_ops (codeE_zero hE).1
   rw [show M.toNat=m1 by omega];exact h1
  refine ⟨hE,?_⟩
  unfold lstE at h
  by_cases hl : x.length=N.toNat
  ·rw [if_pos hl] at h
   refine ⟨hl,λy hy=>?_⟩
   unfold elsE at h
   by_cases he : elsQ (orderS P M) x=true
   ·unfold elsQ at he
    have h1:=List.all_eq_true.1 he y hy
    unfold isQ at h1
    simp at h1
    exact ⟨h1.1,by have:=h1.2;omega⟩
   ·rw [if_neg he] at h;exact absurd h (by decide)
  ·rw [if_neg hl] at h;exact absurd h (by decide)
 ·rw [if_neg hE] at h;exact absurd h hE
def hasV (P M : Int) (mod : List Int) (N : Int) (L : List (List Int)) (x : List Int) : Bool:=if wrdE P M mod N L x=0 then hasB P M mod N.toNat L x else false
theorem codeHasG_any (P M : Int) (am : Option Addr) (mn cm : Nat) (mod : List Int) (N : Int) (a : Option Addr) (n c : Nat) (L : List (List Int)) (ax : Option Addr) (nx cx : Nat) (x : List Int) (w : World) (hmod : Ints w am mn mod) (hi : Mat w a n L) (hx : Ints w ax nx x) :
  Calls Tryz.prog 35 #[.agg #[.int .i64 P,.int .i64 M,.slice am mn cm,.int .i64 N,.slice a n c],.slice ax nx cx] w λe w'=>e = .returned (.tuple #[.bool (hasV P M mod N L x),.int .i64 (wrdE P M mod N L x)])/\Below w.heap.size w w':=by
 have HSp : Hid (wrdE P M mod N L x=0->∀V,Below w.heap.size w V->Calls Tryz.prog 75 #[.agg #[.int .i64 P,.int .i64 M,.slice am mn cm],.agg #[.int .i64 N,.slice a n c],.slice ax nx cx] V λe w'=>e = .returned (.tuple #[.bool (hasV P M mod N L x),.int .i64 0])/\Below V.heap.size V w'):=λh V hV=>by
  obtain ⟨hE,hxe⟩:=wrdE_zero h
  rw [hasV,if_pos h]
  obtain ⟨m,rfl,_⟩:=codeE_rws hE
  rw [Int.toNat_natCast] at hxe ⊢
  have e1 : nx=m:=by rw [<- hx.len];exact hxe.1
  subst e1
  exact spaceHasG_any P M am mn cm mod nx a n c L ax cx x V (hmod.keep hV) (hi.keep hV) (hx.keep hV) hE hxe
 have HWd : Hid (∀V,Below w.heap.size w V->Calls Tryz.prog 74 #[.agg #[.int .i64 P,.int .i64 M,.slice am mn cm,.int .i64 N,.slice a n c],.slice ax nx cx] V λe w'=>e = .returned (.int .i64 (wrdE P M mod N L x))/\Below V.heap.size V w'):=λV hV =>
  codeWordG_any P M am mn cm mod N a n c L ax nx cx x V (hmod.keep hV) (hi.keep hV) (hx.keep hV)
 have HN : Hid (wrdE P M mod N L x ≠ 0->hasV P M mod N L x=false):=λh=>by rw [hasV,if_neg h]
 clear hmod hi hx
 obtain ⟨er,her⟩ : ∃er,wrdE P M mod N L x=er:=⟨_,rfl⟩
 obtain ⟨z,hz⟩ : ∃z,hasV P M mod N L x=z:=⟨_,rfl⟩
 rw [her] at HWd HN HSp ⊢
 rw [hz] at HN HSp ⊢
 clear her hz
 go_enter Tryz.func35,Tryz.ntmps35
 go_wp2_with fail
 obtain ⟨W,hW⟩ : ∃W : World,W=w.alloc (.cells #[.int .i64 P,.int .i64 M,.slice am mn cm,.int .i64 N,.slice a n c] 27):=⟨_,rfl⟩
 rw [<- hW]
 have hbW : Below w.heap.size w W:=by rw [hW];exact below1 _ _
 have x0 : Box W w.heap.size [.int .i64 P,.int .i64 M,.slice am mn cm,.int .i64 N,.slice a n c]:=by rw [hW];exact Box.new _ _ _ rfl
 have HX:=Lib.hid x0
 have HbW:=Lib.hid hbW
 clear hW x0
 refine (HWd.out W hbW).mono ?_
 rintro e w1 ⟨rfl,hb1⟩
 have hbw1:=Below.next HbW.out hb1
 by_cases hE : er=0
 rotate_left
 ·have hE2 : (er != 0)=true:=by simpa using hE
  have HN2:=Lib.hid (HN.out hE)
  clear hE
  go_wp2_with fail
  go_ret2
  exact ⟨by rw [HN2.out];rfl,hbw1⟩
 subst hE
 have HSp2:=Lib.hid (HSp.out rfl)
 have hS : ∀V,Below w1.heap.size w1 V->V.cell? ⟨w.heap.size,0,none⟩=some (.int .i64 P)/\V.cell? ⟨w.heap.size,1,none⟩=some (.int .i64 M)/\V.cell? ⟨w.heap.size,2,none⟩=some (.slice am mn cm)/\V.cell? ⟨w.heap.size,3,none⟩=some (.int .i64 N)/\V.cell? ⟨w.heap.size,4,none⟩=some (.slice a n c)/\Below w1.heap.size w1 V:=λV hV=>by
  have x1:=HX.out.keep (Below.next hb1 hV)
  exact ⟨x1.cell 0 rfl,x1.cell 1 rfl,x1.cell 2 rfl,x1.cell 3 rfl,x1.cell 4 rfl,hV⟩
 have HS:=Lib.hid hS
 have Hbw1:=Lib.hid hbw1
 clear hS HWd hbW hb1 hbw1 HSp HN
 go_wp2_with fail
 go_region_held3 (λV=>V.cell? ⟨w.heap.size,0,none⟩=some (.int .i64 P)/\V.cell? ⟨w.heap.size,1,none⟩=some (.int .i64 M)/\V.cell? ⟨w.heap.size,2,none⟩=some (.slice am mn cm)/\V.cell? ⟨w.heap.size,3,none⟩=some (.int .i64 N)/\V.cell? ⟨w.heap.size,4,none⟩=some (.slice a n c)/\Below w1.heap.size w1 V)
  ((refine HS.out _ ?_;first | exact (Below.refl _ _).drew | (go_split_ands;exact Below.next (by assumption) (by assumption))))
  (first
   | (go_at_call 73;((with_reducible refine (gen_any P M am mn cm N a n c _).mono ?_);rintro e w6 ⟨rfl,hb6⟩))
   | (go_at_call 75;((with_reducible refine (HSp2.out _ (Below.next Hbw1.out (by go_split_ands;assumption))).mono ?_);rintro e w8 ⟨rfl,hb8⟩)))
 all_goals (
  go_wp2_with fail
  go_ret2
  exact ⟨rfl,Below.next Hbw1.out (by go_split_ands;assumption)⟩)
end

section
set_option maxRecDepth 100000
set_option maxHeartbeats 4000000

open Go.RowKit
theorem mRounds_any (P M : Int) (am : Option Addr) (mn cm : Nat) (mod : List Int) (N : Int) (a : Option Addr) (n c : Nat) (L : List (List Int)) (w : World) (hmod : Ints w am mn mod) (hi : Mat w a n L) :
  Calls Tryz.prog 14 #[.agg #[.int .i64 P,.int .i64 M,.slice am mn cm,.int .i64 N,.slice a n c]] w λe w'=>∃ar nr cr,e = .returned (.tuple #[.slice ar nr cr,.int .i64 (runR P M mod N L).2.2])/\Rnds w' ar nr (runR P M mod N L).1/\Below w.heap.size w w':=by
 have HRun : Hid (∀V,Below w.heap.size w V->Calls Tryz.prog 47 #[.agg #[.int .i64 P,.int .i64 M,.slice am mn cm,.int .i64 N,.slice a n c]] V (RunPost P M mod N L V)):=λV hV=>run_any P M am mn cm mod N a n c L V (hmod.keep hV) (hi.keep hV)
 obtain ⟨R,hR⟩ : ∃R,runR P M mod N L=R:=⟨_,rfl⟩
 unfold RunPost at HRun
 rw [hR] at HRun ⊢
 obtain ⟨er,her⟩ : ∃er,R.2.2=er:=⟨_,rfl⟩
 rw [her] at HRun ⊢
 clear hmod hi hR her
 go_enter Tryz.func14,Tryz.ntmps14
 go_wp2_with fail
 obtain ⟨U,hU⟩ : ∃U : World,U=w.alloc (.cells #[.int .i64 P,.int .i64 M,.slice am mn cm,.int .i64 N,.slice a n c] 27):=⟨_,rfl⟩
 rw [<- hU]
 have hbU : Below w.heap.size w U:=by rw [hU];exact below1 _ _
 clear hU
 refine (HRun.out U hbU).mono ?_
 rintro e w1 ⟨hb1,ar,nr,cr,ab,nb,cb,rfl,h1,h2⟩
 have hF:=Below.next hbU hb1
 have H1:=Lib.hid h1
 clear h1 h2
 go_wp2_with fail
 go_ret2
 exact ⟨ar,nr,cr,rfl,H1.out,hF⟩
theorem mLightest_any (P M : Int) (am : Option Addr) (mn cm : Nat) (mod : List Int) (N : Int) (a : Option Addr) (n c : Nat) (L : List (List Int)) (w : World) (hmod : Ints w am mn mod) (hi : Mat w a n L) :
  Calls Tryz.prog 17 #[.agg #[.int .i64 P,.int .i64 M,.slice am mn cm,.int .i64 N,.slice a n c]] w λe w'=>∃ar nr cr,e = .returned (.tuple #[.slice ar nr cr,.int .i64 (runR P M mod N L).2.2])/\Ints w' ar nr (runR P M mod N L).2.1/\Below w.heap.size w w':=by
 have HRun : Hid (∀V,Below w.heap.size w V->Calls Tryz.prog 47 #[.agg #[.int .i64 P,.int .i64 M,.slice am mn cm,.int .i64 N,.slice a n c]] V (RunPost P M mod N L V)):=λV hV=>run_any P M am mn cm mod N a n c L V (hmod.keep hV) (hi.keep hV)
 obtain ⟨R,hR⟩ : ∃R,runR P M mod N L=R:=⟨_,rfl⟩
 unfold RunPost at HRun
 rw [hR] at HRun ⊢
 obtain ⟨er,her⟩ : ∃er,R.2.2=er:=⟨_,rfl⟩
 rw [her] at HRun ⊢
 clear hmod hi hR her
 go_enter Tryz.func17,Tryz.ntmps17
 go_wp2_with fail
 obtain ⟨U,hU⟩ : ∃U : World,U=w.alloc (.cells #[.int .i64 P,.int .i64 M,.slice am mn cm,.int .i64 N,.slice a n c] 27):=⟨_,rfl⟩
 rw [<- hU]
 have hbU : Below w.heap.size w U:=by rw [hU];exact below1 _ _
 clear hU
 refine (HRun.out U hbU).mono ?_
 rintro e w1 ⟨hb1,ar,nr,cr,ab,nb,cb,rfl,h1,h2⟩
 have hF:=Below.next hbU hb1
 have H2:=Lib.hid h2
 clear h1 h2
 go_wp2_with fail
 go_ret2
 exact ⟨ab,nb,cb,rfl,H2.out,hF⟩
theorem mDistance_any (P M : Int) (am : Option Addr) (mn cm : Nat) (mod : List Int) (N : Int) (a : Option Addr) (n c : Nat) (L : List (List Int)) (w : World) (hmod : Ints w am mn mod) (hi : Mat w a n L) :
  Calls Tryz.prog 16 #[.agg #[.int .i64 P,.int .i64 M,.slice am mn cm,.int .i64 N,.slice a n c]] w λe w'=>e = .returned (.tuple #[.int .i64 (wtL (runR P M mod N L).2.1 : Nat),.int .i64 (runR P M mod N L).2.2])/\Below w.heap.size w w':=by
 have HRun : Hid (∀V,Below w.heap.size w V->Calls Tryz.prog 47 #[.agg #[.int .i64 P,.int .i64 M,.slice am mn cm,.int .i64 N,.slice a n c]] V (RunPost P M mod N L V)):=λV hV=>run_any P M am mn cm mod N a n c L V (hmod.keep hV) (hi.keep hV)
 obtain ⟨R,hR⟩ : ∃R,runR P M mod N L=R:=⟨_,rfl⟩
 unfold RunPost at HRun
 rw [hR] at HRun ⊢
 obtain ⟨er,her⟩ : ∃er,R.2.2=er:=⟨_,rfl⟩
 rw [her] at HRun ⊢
 obtain ⟨z,hz⟩ : ∃z,wtL R.2.1=z:=⟨_,rfl⟩
 rw [hz]
 have Hz:=Lib.hid hz
 clear hmod hi hR her hz
 go_enter Tryz.func16,Tryz.ntmps16
 go_wp2_with fail
 obtain ⟨U,hU⟩ : ∃U : World,U=w.alloc (.cells #[.int .i64 P,.int .i64 M,.slice am mn cm,.int .i64 N,.slice a n c] 27):=⟨_,rfl⟩
 rw [<- hU]
 have hbU : Below w.heap.size w U:=by rw [hU];exact below1 _ _
 clear hU
 refine (HRun.out U hbU).mono ?_
 rintro e w1 ⟨hb1,ar,nr,cr,ab,nb,cb,rfl,h1,h2⟩
 have hF:=Below.next hbU hb1
 have hwt:=mWeight_any ab nb cb R.2.1 w1 h2
 rw [Hz.out] at hwt
 have Hwt:=Lib.hid hwt
 clear hwt
 clear h1 h2
 go_wp2_with fail
 refine Hwt.out.mono ?_
 rintro e w' ⟨rfl,hw'⟩
 obtain rfl:=hw'.symm
 go_wp2_with fail
 go_ret2
 exact ⟨rfl,hF⟩
def mchE (P M : Int) (mod : List Int) (N : Int) (L : List (List Int)) (x : List Int) (ts : List (List Int)) : Int :=
 if codeE P M mod N L=0 then (if wrdE P M mod N L x=0/\hasV P M mod N L x=true/\wtL x ≠ 0/\chkRE P M mod N L L.length (wtD N (wtL x)) ts=0 then 0 else 13) else codeE P M mod N L
def mchV (P M : Int) (mod : List Int) (N : Int) (L : List (List Int)) (x : List Int) (ts : List (List Int)) : Int:=if mchE P M mod N L x ts=0 then wtL x else 0
theorem mCheck_any (P M : Int) (am : Option Addr) (mn cm : Nat) (mod : List Int) (N : Int) (a : Option Addr) (n c : Nat) (L : List (List Int)) (ax : Option Addr) (nx cx : Nat) (x : List Int) (at' : Option Addr) (nt ct : Nat) (ts : List (List Int)) (w : World)
  (hmod : Ints w am mn mod) (hi : Mat w a n L) (hx : Ints w ax nx x) (hts : Mat w at' nt ts) :
  Calls Tryz.prog 27 #[.agg #[.int .i64 P,.int .i64 M,.slice am mn cm,.int .i64 N,.slice a n c],.agg #[.slice ax nx cx,.slice at' nt ct]] w λe w'=>e = .returned (.tuple #[.int .i64 (mchV P M mod N L x ts),.int .i64 (mchE P M mod N L x ts)])/\Below w.heap.size w w':=by
 have hn : L.length=n:=hi.len
 obtain ⟨ce,hce⟩ : ∃ce,codeE P M mod N L=ce:=⟨_,rfl⟩
 obtain ⟨we,hwe⟩ : ∃we,wrdE P M mod N L x=we:=⟨_,rfl⟩
 obtain ⟨hv,hhv⟩ : ∃hv,hasV P M mod N L x=hv:=⟨_,rfl⟩
 obtain ⟨d,hd⟩ : ∃d,wtL x=d:=⟨_,rfl⟩
 obtain ⟨ke,hke⟩ : ∃ke,chkRE P M mod N L L.length (wtD N d) ts=ke:=⟨_,rfl⟩
 obtain ⟨me,hme⟩ : ∃me,mchE P M mod N L x ts=me:=⟨_,rfl⟩
 obtain ⟨mv,hmv⟩ : ∃mv,mchV P M mod N L x ts=mv:=⟨_,rfl⟩
 have HCk : Hid (∀V,Below w.heap.size w V->Calls Tryz.prog 61 #[.agg #[.int .i64 P,.int .i64 M,.slice am mn cm,.int .i64 N,.slice a n c]] V λe w'=>e = .returned (.int .i64 ce)/\Below V.heap.size V w'):=λV hV=>by
  rw [<- hce];exact codeCheck_any P M am mn cm mod N a n c L V (hmod.keep hV) (hi.keep hV)
 have HHs : Hid (∀V,Below w.heap.size w V->Calls Tryz.prog 35 #[.agg #[.int .i64 P,.int .i64 M,.slice am mn cm,.int .i64 N,.slice a n c],.slice ax nx cx] V λe w'=>e = .returned (.tuple #[.bool hv,.int .i64 we])/\Below V.heap.size V w'):=λV hV=>by
  rw [<- hhv,<- hwe];exact codeHasG_any P M am mn cm mod N a n c L ax nx cx x V (hmod.keep hV) (hi.keep hV) (hx.keep hV)
 have HWt : Hid (∀V,Below w.heap.size w V->Calls Tryz.prog 55 #[.slice ax nx cx] V λe w'=>e = .returned (.int .i64 (d : Nat))/\w'=V):=λV hV=>by
  rw [<- hd];exact mWeight_any ax nx cx x V (hx.keep hV)
 have HCd : Hid (∀V,Below w.heap.size w V->Calls Tryz.prog 62 #[.agg #[.int .i64 P,.int .i64 M,.slice am mn cm,.int .i64 N,.slice a n c],.int .i64 (d : Nat),.agg #[.slice at' nt ct]] V λe w'=>e = .returned (.int .i64 ke)/\Below V.heap.size V w'):=λV hV=>by
  rw [<- hke,hn];exact exCheckDistance_any P M am mn cm mod N a n c L (d : Nat) at' nt ct ts V (hmod.keep hV) (hi.keep hV) (hts.keep hV)
 have HME : Hid (me=(if ce=0 then (if we=0/\hv=true/\d ≠ 0/\ke=0 then 0 else 13) else ce)):=by
  show _=_
  rw [<- hme,mchE,hce,hwe,hhv,hd,hke]
 have HMV : Hid (mv=if me=0 then (d : Int) else 0):=by
  show _=_
  rw [<- hmv,mchV,hme,hd]
 rw [hme,hmv]
 clear hmod hi hx hts hce hwe hhv hd hke hme hmv hn
 go_enter Tryz.func27,Tryz.ntmps27
 go_upto_region 1 with fail
 obtain ⟨U,hU⟩ : ∃U : World,U=(w.alloc (.cells #[.int .i64 P,.int .i64 M,.slice am mn cm,.int .i64 N,.slice a n c] 27)).alloc (.cells #[.slice ax nx cx,.slice at' nt ct] 49):=⟨_,rfl⟩
 rw [<- hU]
 have hbU : Below w.heap.size w U:=by rw [hU];exact below2 _ _ _
 have x0 : Box U w.heap.size [.int .i64 P,.int .i64 M,.slice am mn cm,.int .i64 N,.slice a n c]:=by rw [hU];exact (Box.new _ _ _ rfl).alloc _
 have y0 : Box U (w.heap.size+1) [.slice ax nx cx,.slice at' nt ct]:=by rw [hU];exact Box.new _ _ _ (by simp)
 have HS : Hid (∀V,Below U.heap.size U V->V.cell? ⟨w.heap.size,0,none⟩=some (.int .i64 P)/\V.cell? ⟨w.heap.size,1,none⟩=some (.int .i64 M)/\V.cell? ⟨w.heap.size,2,none⟩=some (.slice am mn cm)/\V.cell? ⟨w.heap.size,3,none⟩=some (.int .i64 N)/\V.cell? ⟨w.heap.size,4,none⟩=some (.slice a n c) /\
   V.cell? ⟨w.heap.size+1,0,none⟩=some (.slice ax nx cx)/\V.cell? ⟨w.heap.size+1,1,none⟩=some (.slice at' nt ct)):=λV hV=>by
  have x1:=x0.keep hV
  have y1:=y0.keep hV
  exact ⟨x1.cell 0 rfl,x1.cell 1 rfl,x1.cell 2 rfl,x1.cell 3 rfl,x1.cell 4 rfl,y1.cell 0 rfl,y1.cell 1 rfl⟩
 have HbU:=Lib.hid hbU
 obtain ⟨c0,c1,c2,c3,c4,c5,c6⟩:=HS.out U (Below.refl _ _)
 clear hU hbU x0 y0
 go_wp2_with fail
 refine (HCk.out U HbU.out).mono ?_
 rintro e w1 ⟨rfl,hb1⟩
 have hF1:=Below.next HbU.out hb1
 by_cases h1 : ce=0
 rotate_left
 ·have hE2 : (ce != 0)=true:=by simpa using h1
  have H9 : Hid (mv=0/\me=ce):=by
   have e1 : me=ce:=by rw [HME.out,if_neg h1]
   exact ⟨by rw [HMV.out,e1,if_neg h1],e1⟩
  clear h1
  go_wp2_with fail
  go_ret2
  exact ⟨ret_two H9.out.1.symm H9.out.2.symm,hF1⟩
 subst h1
 obtain ⟨d0,d1,d2,d3,d4,d5,d6⟩:=HS.out w1 hb1
 clear c0 c1 c2 c3 c4 c5 c6
 go_wp2_with fail
 refine (HHs.out w1 hF1).mono ?_
 rintro e w2 ⟨rfl,hb2⟩
 have hF2:=Below.next hF1 hb2
 obtain ⟨c0,c1,c2,c3,c4,c5,c6⟩:=HS.out w2 (Below.next hb1 hb2)
 clear d0 d1 d2 d3 d4 d5 d6
 go_wp2_with fail
 refine (HWt.out w2 hF2).mono ?_
 rintro e w' ⟨rfl,hw'⟩
 obtain rfl:=hw'.symm
 have H13 : Hid (¬ (we=0/\hv=true/\d ≠ 0/\ke=0)->mv=0/\me=13):=λh=>by
  have e1 : me=13:=by rw [HME.out];first | rw [if_pos trivial,if_neg h] | rw [if_pos rfl,if_neg h]
  exact ⟨by rw [HMV.out,e1,if_neg (by decide)],e1⟩
 by_cases h2 : we=0
 rotate_left
 ·have hE2 : (we != 0)=true:=by simpa using h2
  have H9:=Lib.hid (H13.out λh=>h2 h.1)
  clear h2
  go_wp2_with fail
  go_ret2
  exact ⟨ret_two H9.out.1.symm H9.out.2.symm,hF2⟩
 subst h2
 cases hv
 ·have H9:=Lib.hid (H13.out λh=>by cases h.2.1)
  go_wp2_with fail
  go_ret2
  exact ⟨ret_two H9.out.1.symm H9.out.2.symm,hF2⟩
 by_cases h3 : d=0
 ·have H9:=Lib.hid (H13.out λh=>h.2.2.1 h3)
  have e3 : ((d : Int) == 0)=true:=by simp;omega
  clear h3
  go_wp2_with fail
  go_ret2
  exact ⟨ret_two H9.out.1.symm H9.out.2.symm,hF2⟩
 have e3 : ((d : Int) == 0)=false:=by simp;omega
 go_wp2_with fail
 refine (HCd.out _ hF2).mono ?_
 rintro e w4 ⟨rfl,hb4⟩
 have hF4:=Below.next hF2 hb4
 by_cases h4 : ke=0
 ·subst h4
  have H9 : Hid (mv=(d : Int)/\me=0):=by
   have e1 : me=0:=by rw [HME.out];simp [h3]
   exact ⟨by rw [HMV.out,e1];rfl,e1⟩
  clear h3
  go_wp2_with fail
  go_ret2
  exact ⟨ret_two H9.out.1.symm H9.out.2.symm,hF4⟩
 ·have H9:=Lib.hid (H13.out λh=>h4 h.2.2.2)
  have e4 : (ke != 0)=true:=by simpa using h4
  clear h3 h4
  go_wp2_with fail
  go_ret2
  exact ⟨ret_two H9.out.1.symm H9.out.2.symm,hF4⟩
end

section
set_option maxRecDepth 100000
set_option maxHeartbeats 8000000

open Go.RowKit
def mceR (P M : Int) (mod : List Int) (N : Int) (L : List (List Int)) : List Int × List (List Int) × Int :=
 if (runR P M mod N L).2.2=0 then
  (if (bldRE P M mod N L L.length (wtD N (wtL (runR P M mod N L).2.1 : Nat))).1=0 then ((runR P M mod N L).2.1,(bldRE P M mod N L L.length (wtD N (wtL (runR P M mod N L).2.1 : Nat))).2,0) else ([],[],(bldRE P M mod N L L.length (wtD N (wtL (runR P M mod N L).2.1 : Nat))).1))
 else ([],[],(runR P M mod N L).2.2)
def MCerPost (V : List Int × List (List Int) × Int) (w : World) (e : Ending) (w' : World) : Prop :=
 Below w.heap.size w w'/\∃ax nx cx at' nt ct,e = .returned (.tuple #[.agg #[.slice ax nx cx,.slice at' nt ct],.int .i64 V.2.2])/\Ints w' ax nx V.1/\Mat w' at' nt V.2.1
theorem mcer_no {V : List Int × List (List Int) × Int} {w w' : World} {er : Int} (h : V=([],[],er)) (hb : Below w.heap.size w w') : MCerPost V w (.returned (.tuple #[.agg #[.slice none 0 0,.slice none 0 0],.int .i64 er])) w':=by
 subst h
 exact ⟨hb,none,0,0,none,0,0,rfl,Ints.nil _ _,⟨rfl,λh=>by omega,by unfold maxLen;omega,λi h=>by omega⟩⟩
theorem no_ints {X : World} {g : Nat} {t : TypeId} (hg : X.heap[g]? = some (.cells #[.slice none 0 0,.slice none 0 0] t)) {a : Option Addr} {n : Nat} {l : List Int} (h : Ints X a n l) : 0<n->ablk a ≠ g:=λhn e=>by
 have h1:=h.cell 0 hn
 rw [e] at h1
 obtain ⟨k,hk⟩ : ∃k,aoff a+0=k:=⟨_,rfl⟩
 rw [hk] at h1
 simp only [World.cell?,hg] at h1
 match k with
 | 0=>simp at h1
 | 1=>simp at h1
 | k+2=>simp at h1
theorem mCertify_any (P M : Int) (am : Option Addr) (mn cm : Nat) (mod : List Int) (N : Int) (a : Option Addr) (n c : Nat) (L : List (List Int)) (w : World) (hmod : Ints w am mn mod) (hi : Mat w a n L) :
  Calls Tryz.prog 24 #[.agg #[.int .i64 P,.int .i64 M,.slice am mn cm,.int .i64 N,.slice a n c]] w (MCerPost (mceR P M mod N L) w):=by
 have hn : L.length=n:=hi.len
 obtain ⟨V,hV⟩ : ∃V,mceR P M mod N L=V:=⟨_,rfl⟩
 rw [hV]
 unfold mceR at hV
 obtain ⟨R,hR⟩ : ∃R,runR P M mod N L=R:=⟨_,rfl⟩
 rw [hR,hn] at hV
 obtain ⟨er,her⟩ : ∃er,R.2.2=er:=⟨_,rfl⟩
 obtain ⟨b,hb⟩ : ∃b,R.2.1=b:=⟨_,rfl⟩
 obtain ⟨d,hd⟩ : ∃d,wtL b=d:=⟨_,rfl⟩
 obtain ⟨BD,hBD⟩ : ∃BD,bldRE P M mod N L n (wtD N (d : Nat))=BD:=⟨_,rfl⟩
 obtain ⟨be,hbe⟩ : ∃be,BD.1=be:=⟨_,rfl⟩
 obtain ⟨bt,hbt⟩ : ∃bt,BD.2=bt:=⟨_,rfl⟩
 rw [her,hb,hd,hBD,hbe,hbt] at hV
 have HLi : Hid (∀V,Below w.heap.size w V->Calls Tryz.prog 17 #[.agg #[.int .i64 P,.int .i64 M,.slice am mn cm,.int .i64 N,.slice a n c]] V λe w'=>∃ar nr cr,e = .returned (.tuple #[.slice ar nr cr,.int .i64 er])/\Ints w' ar nr b/\Below V.heap.size V w'):=λV hV=>by
  have h:=mLightest_any P M am mn cm mod N a n c L V (hmod.keep hV) (hi.keep hV)
  rw [hR,her,hb] at h
  exact h
 have HBd : Hid (∀V,Below w.heap.size w V->Calls Tryz.prog 59 #[.agg #[.int .i64 P,.int .i64 M,.slice am mn cm,.int .i64 N,.slice a n c],.int .i64 (d : Nat)] V λe w'=>∃av nv cv,e = .returned (.tuple #[.agg #[.slice av nv cv],.int .i64 be])/\(be=0->MatN V.heap.size w' av nv bt)/\Below V.heap.size V w'):=λV hV=>by
  have h:=exBuildDistance_any P M am mn cm mod N a n c L (d : Nat) V (hmod.keep hV) (hi.keep hV)
  rw [hBD] at h
  refine h.mono ?_
  rintro e w' ⟨hb1,⟨h2,rfl⟩ | ⟨h2,ar,cr,R,rfl,hO⟩⟩
  ·exact ⟨none,0,0,by rw [hbe],λh=>absurd (hbe.trans h) h2,hb1⟩
  ·exact ⟨ar,_,cr,by rw [<- hbe,h2],λ_=>by rw [<- hbt];exact hO.matN,hb1⟩
 have HV:=Lib.hid hV
 have Hd:=Lib.hid hd
 clear hV hR her hb hd hBD hbe hbt hmod hi hn
 go_enter Tryz.func24,Tryz.ntmps24
 go_wp2_with fail
 obtain ⟨U,hU⟩ : ∃U : World,U=(w.alloc (.cells #[.int .i64 P,.int .i64 M,.slice am mn cm,.int .i64 N,.slice a n c] 27)).alloc (.cells #[.slice none 0 0,.slice none 0 0] 49):=⟨_,rfl⟩
 rw [<- hU]
 have hbU : Below w.heap.size w U:=by rw [hU];exact below2 _ _ _
 have x0 : Box U w.heap.size [.int .i64 P,.int .i64 M,.slice am mn cm,.int .i64 N,.slice a n c]:=by rw [hU];exact (Box.new _ _ _ rfl).alloc _
 have z0 : Box U (w.heap.size+1) [.slice none 0 0,.slice none 0 0]:=by rw [hU];exact Box.new _ _ _ (by simp)
 have HS : Hid (∀V,Below U.heap.size U V->V.cell? ⟨w.heap.size,0,none⟩=some (.int .i64 P)/\V.cell? ⟨w.heap.size,1,none⟩=some (.int .i64 M)/\V.cell? ⟨w.heap.size,2,none⟩=some (.slice am mn cm)/\V.cell? ⟨w.heap.size,3,none⟩=some (.int .i64 N)/\V.cell? ⟨w.heap.size,4,none⟩=some (.slice a n c) /\
   V.cell? ⟨w.heap.size+1,0,none⟩=some (.slice none 0 0)/\V.cell? ⟨w.heap.size+1,1,none⟩=some (.slice none 0 0)/\V.frozen? ⟨w.heap.size+1,0,none⟩=false/\V.frozen? ⟨w.heap.size+1,1,none⟩=false):=λV hV=>by
  have x1:=x0.keep hV
  have z1:=z0.keep hV
  exact ⟨x1.cell 0 rfl,x1.cell 1 rfl,x1.cell 2 rfl,x1.cell 3 rfl,x1.cell 4 rfl,z1.cell 0 rfl,z1.cell 1 rfl,z1.frozen 0,z1.frozen 1⟩
 have HSet : Hid (∀V u v,Below U.heap.size U V->Below w.heap.size w ((V.setCell ⟨w.heap.size+1,0,none⟩ u).setCell ⟨w.heap.size+1,1,none⟩ v)):=λV u v hV =>
  ((Below.next hbU hV).setCell (p:=⟨w.heap.size+1,0,none⟩) (by simp) _).setCell (p:=⟨w.heap.size+1,1,none⟩) (by simp) _
 have hz1:=z0.1
 have HBlk : Hid (∀X,Below U.heap.size U X->X.heap[w.heap.size+1]? = some (.cells #[.slice none 0 0,.slice none 0 0] 49)):=λX hX=>by
  rw [hX.block _ hz1,hU]
  obtain ⟨A',hA⟩ : ∃A' : World,w.alloc (.cells #[.int .i64 P,.int .i64 M,.slice am mn cm,.int .i64 N,.slice a n c] 27)=A':=⟨_,rfl⟩
  have hs : A'.heap.size=w.heap.size+1:=by rw [<- hA];simp
  rw [hA,<- hs]
  exact Array.getElem?_push_size
 have HbU:=Lib.hid hbU
 clear hU hbU x0 z0
 refine (HLi.out U HbU.out).mono ?_
 rintro e w1 ⟨ax,nx,cx,rfl,hIx,hb1⟩
 have HIx:=Lib.hid hIx
 clear hIx
 by_cases h1 : er=0
 rotate_left
 ·have HR : Hid (V=([],[],er)):=by show _=_;rw [<- HV.out,if_neg h1]
  obtain ⟨_,_,_,_,_,z3,z4,f3,f4⟩:=HS.out w1 hb1
  have HF:=Lib.hid (mcer_no HR.out (HSet.out w1 (.slice none 0 0) (.slice none 0 0) hb1))
  have hE' : (er != 0)=true:=by simpa using h1
  clear h1
  go_wp2_with fail
  exact bodyPost_ret (v:=.tuple #[.agg #[.slice none 0 0,.slice none 0 0],.int .i64 er]) (by simp [results,Tryz.results24,go_sem,z3,z4]) rfl HF.out
 subst h1
 have hF1:=Below.next HbU.out hb1
 obtain ⟨c0,c1,c2,c3,c4,z3,z4,f3,f4⟩:=HS.out w1 hb1
 have HWt : Hid (∀X,Below w1.heap.size w1 X->Calls Tryz.prog 55 #[.slice ax nx cx] X λe w'=>e = .returned (.int .i64 (d : Nat))/\w'=X):=λX hX=>by
  rw [<- Hd.out];exact mWeight_any ax nx cx b X (HIx.out.keep hX)
 go_upto_region 4 with fail
 go_cut [5,6] (λev pv wx=>∃q av nv cv,ev = .int .i64 be/\pv = .pointer (some ⟨q,0,none⟩)/\wx.cell? ⟨q,0,none⟩=some (.slice av nv cv)/\(be=0->MatN w1.heap.size wx av nv bt)/\Below w1.heap.size w1 wx)
 case first =>
  have ha1:=below1 w1 (.cells #[.slice none 0 0] 47)
  obtain ⟨g0,g1,g2,g3,g4,y3,y4,j3,j4⟩:=HS.out _ (Below.next hb1 ha1)
  have xq:=Box.new w1 [.slice none 0 0] 47 rfl
  have HXq:=Lib.hid xq
  clear xq
  go_region_law ((first
   | (go_simp;go_at_call 55;((with_reducible refine (HWt.out _ (by first | exact (Below.refl _ _).drew | exact Below.refl _ _ | exact ha1.drew | exact ha1)).mono ?_);rintro e w3 ⟨rfl,hw3⟩;obtain rfl:=hw3.symm))
   | (go_simp;go_at_call 59;((with_reducible refine (HBd.out _ (by first | exact hF1.drew | exact hF1 | exact (Below.next hF1 ha1).drew | exact Below.next hF1 ha1)).mono ?_);rintro e w5 ⟨av,nv,cv,rfl,hMv,hb5⟩;have HMv:=Lib.hid hMv;clear hMv;have hb15 : Below w1.heap.size w1 w5:=(by first | exact Below.next (Below.refl _ _).drew hb5 | exact Below.next ha1.drew hb5 | exact hb5);(try (have xq5:=HXq.out.keep (show Below _ _ w5 from (by first | exact Below.next (Below.refl _ _).drew hb5 | exact hb5));have q5:=xq5.cell 0 rfl;have qf5:=xq5.frozen 0))))))
  all_goals (
   (try simp only [List.getElem_toArray,List.getElem_cons_succ,List.getElem_cons_zero,Act.put,List.setIfInBounds_toArray,List.set_cons_zero,List.set_cons_succ])
   go_wp2_with fail
   go_meet
   first
    | exact ⟨w5.heap.size,av,nv,cv,rfl,rfl,cell_new w5 _ _,λh=>((HMv.out h).mono (by first | exact Nat.le_refl _ | simp)).keep (below1 _ _),Below.next hb15 (below1 _ _)⟩
    | exact ⟨w1.heap.size,av,nv,cv,rfl,rfl,World.cell?_setCell_same _ _ _ q5,λh=>((HMv.out h).setCell (p:=⟨w1.heap.size,0,none⟩) (by simp) _).mono (by first | exact Nat.le_refl _ | simp),hb15.setCell (p:=⟨w1.heap.size,0,none⟩) (Nat.le_refl _) _⟩)
 obtain ⟨q,av,nv,cv,rfl,rfl,hq,hM,hb2⟩:=hcut
 generalize wc=X at *
 have hbX:=Below.next hb1 hb2
 obtain ⟨d0,d1,d2,d3,d4,z5,z6,f5,f6⟩:=HS.out X hbX
 clear c0 c1 c2 c3 c4 z3 z4 f3 f4
 by_cases h2 : be=0
 rotate_left
 ·have HR : Hid (V=([],[],be)):=by show _=_;rw [<- HV.out,if_pos (by first | trivial | rfl),if_neg h2]
  have HF:=Lib.hid (mcer_no HR.out (HSet.out X (.slice none 0 0) (.slice none 0 0) hbX))
  have hE' : (be != 0)=true:=by simpa using h2
  clear h2 hM
  go_wp2_with fail
  exact bodyPost_ret (v:=.tuple #[.agg #[.slice none 0 0,.slice none 0 0],.int .i64 be]) (by simp [results,Tryz.results24,go_sem,z5,z6]) rfl HF.out
 subst h2
 have HR : Hid (V=(b,bt,0)):=by show _=_;rw [<- HV.out,if_pos (by first | trivial | rfl),if_pos (by first | trivial | rfl)]
 have hM2:=hM (by first | trivial | rfl)
 have hIX:=HIx.out.keep hb2
 have HF : Hid (MCerPost V w (.returned (.tuple #[.agg #[.slice ax nx cx,.slice av nv cv],.int .i64 0])) ((X.setCell ⟨w.heap.size+1,0,none⟩ (.slice ax nx cx)).setCell ⟨w.heap.size+1,1,none⟩ (.slice av nv cv))):=by
  refine ⟨HSet.out X _ _ hbX,ax,nx,cx,av,nv,cv,by rw [HR.out],?_,?_⟩
  ·rw [HR.out]
   exact (hIX.moves (Moves.put X (w.heap.size+1) 0 _) (λhn e=>no_ints (HBlk.out X hbX) hIX hn e)).moves (Moves.put _ (w.heap.size+1) 1 _) (λhn e=>no_ints (HBlk.out X hbX) hIX hn e)
  ·rw [HR.out]
   have hs1:=hb1.size
   exact ((hM2.setCell (p:=⟨w.heap.size+1,0,none⟩) (by show w.heap.size+1<w1.heap.size;omega) _).setCell (p:=⟨w.heap.size+1,1,none⟩) (by show w.heap.size+1<w1.heap.size;omega) _).mat
 clear hM hM2 hIX
 go_wp2_with fail
 exact bodyPost_ret (v:=.tuple #[.agg #[.slice ax nx cx,.slice av nv cv],.int .i64 0]) (by simp [results,Tryz.results24,go_sem,z5,z6]) rfl HF.out
end

section
def famGoI (O : FOps) (L : List (List Int)) (m : Nat) : Nat->List Int->List (List Int × Int)->List (List Int × Int)
 | 0,_,T=>T
 | f+1,U,T=>if newF U (choF O L m U) (choF O L m U).length=0 then T else famGoI O L m f (U ++ isort (choF O L m U)) (T ++ [(isort (choF O L m U),newF U (choF O L m U) (choF O L m U).length)])
theorem famGoI_eq (O : FOps) (L : List (List Int)) (m : Nat) : ∀f U T,famGo O L m f U T=famGoI O L m f U T
 | 0,_,_=>rfl
 | f+1,U,T=>by rw [famGo,famGoI,sortL_isort,famGoI_eq O L m f]
def aw27G : List (List Int):=[[1,0,0,0,1,1,0],[0,1,0,0,1,0,1],[0,0,1,0,0,1,1],[0,0,0,1,1,1,1]]
theorem aw27_fc : famL (tblOf 2 (1 : Int).toNat []).ops aw27G (7 : Int).toNat=[([0,1,2,3],4),([0,4,5,6],3)]:=by
 rw [famL,famGoI_eq];decide +kernel
theorem aw27_c : runR 2 1 [] 7 aw27G=([[1,8,3,3],[2,20,3,5]],[0,0,1,0,0,1,1],0):=by
 unfold runR famM
 rw [aw27_fc]
 decide +kernel
theorem aw27_n : runR 2 1 [] 2 []=([],[],11):=by
 unfold runR
 rw [if_neg (by decide +kernel)];rfl
theorem aw27_fp : famL (tblOf 2 (1 : Int).toNat []).ops [[1,1]] (2 : Int).toNat=[([0],1),([1],1)]:=by
 rw [famL,famGoI_eq];decide +kernel
theorem aw27_p : runR 2 1 [] 2 [[1,1]]=([[1,2,2,4]],[1,1],0):=by
 unfold runR famM
 rw [aw27_fp]
 decide +kernel
theorem aw27_k : rkcE 2 1 [] 2 [[1,1]] 1 1=0:=by decide +kernel
theorem aw27_b : bldRE 2 1 [] 2 [[1,1]] 1 1=(0,[[0],[1]]):=by rw [bldRE,if_pos aw27_k,treeI];decide +kernel
theorem aw27_m : mceR 2 1 [] 2 [[1,1]]=([1,1],[[0],[1]],0):=by
 unfold mceR
 rw [aw27_p]
 have h : bldRE 2 1 [] 2 [[1,1]] (([[1,1]] : List (List Int)).length : Int) (wtD 2 ((wtL [1,1] : Nat) : Int))=(0,[[0],[1]]):=aw27_b
 show (if (0 : Int)=0 then _ else _)=_
 rw [if_pos rfl]
 simp only [h,if_true]
theorem aw27_e : mchE 2 1 [] 2 [[1,1]] [1,1] [[0],[1]]=0:=by decide +kernel
theorem aw27_v : mchV 2 1 [] 2 [[1,1]] [1,1] [[0],[1]]=2:=by
 unfold mchV
 rw [aw27_e];rfl
end

section
set_option maxRecDepth 100000
set_option maxHeartbeats 16000000

open Go.RowKit
theorem mlit4 (V : World) {p q r s : Addr} {n1 n2 n3 n4 c1 c2 c3 c4 : Nat} {l1 l2 l3 l4 : List Int} (h1 : Ints V (some p) n1 l1) (h2 : Ints V (some q) n2 l2) (h3 : Ints V (some r) n3 l3) (h4 : Ints V (some s) n4 l4) {g : Nat} (hg : g=V.heap.size) :
  Mat (V.alloc (.cells #[.slice (some p) n1 c1,.slice (some q) n2 c2,.slice (some r) n3 c3,.slice (some s) n4 c4] 22)) (some ⟨g,0,none⟩) 4 [l1,l2,l3,l4] :=
 ⟨rfl,λ_=>rfl,by unfold maxLen;omega,λk hk=>by
  have h:=cell_alloc_at V #[.slice (some p) n1 c1,.slice (some q) n2 c2,.slice (some r) n3 c3,.slice (some s) n4 c4] 22 hg k
  match k,hk with
  | 0,_=>exact ⟨some p,n1,c1,h,h1.keep (below1 _ _)⟩
  | 1,_=>exact ⟨some q,n2,c2,h,h2.keep (below1 _ _)⟩
  | 2,_=>exact ⟨some r,n3,c3,h,h3.keep (below1 _ _)⟩
  | 3,_=>exact ⟨some s,n4,c4,h,h4.keep (below1 _ _)⟩⟩
theorem rlit2 (V : World) (x0 x1 x2 x3 y0 y1 y2 y3 : Int) {g : Nat} (hg : g=V.heap.size) : Rnds (V.alloc (.cells #[.int .i64 x0,.int .i64 x1,.int .i64 x2,.int .i64 x3,.int .i64 y0,.int .i64 y1,.int .i64 y2,.int .i64 y3] 62)) (some ⟨g,0,none⟩) 2 [[x0,x1,x2,x3],[y0,y1,y2,y3]] :=
 ⟨rfl,λ_=>rfl,by unfold maxLen;omega,λi hi j hj=>by
  have h:=cell_alloc_at V #[.int .i64 x0,.int .i64 x1,.int .i64 x2,.int .i64 x3,.int .i64 y0,.int .i64 y1,.int .i64 y2,.int .i64 y3] 62 hg (i * 4+j)
  match i,hi,j,hj with
  | 0,_,0,_=>exact h
  | 0,_,1,_=>exact h
  | 0,_,2,_=>exact h
  | 0,_,3,_=>exact h
  | 1,_,0,_=>exact h
  | 1,_,1,_=>exact h
  | 1,_,2,_=>exact h
  | 1,_,3,_=>exact h⟩
theorem one2 (V : World) (x1 x2 : Int) : Mat (((V.alloc (.cells #[.int .i64 x1] 3)).alloc (.cells #[.int .i64 x2] 3)).alloc
  (.cells #[.slice (some ⟨V.heap.size,0,none⟩) 1 1,.slice (some ⟨V.heap.size+1,0,none⟩) 1 1] 22)) (some ⟨V.heap.size+1+1,0,none⟩) 2 [[x1],[x2]]:=by
 have i1:=lits V [x1] #[.int .i64 x1] rfl (by simp) rfl
 have i2:=lits (V.alloc (.cells #[.int .i64 x1] 3)) [x2] #[.int .i64 x2] rfl (by simp) (g:=V.heap.size+1) (by simp)
 exact mlit2 _ (i1.keep (below1 _ _)) i2 (by simp)
theorem aw27_Rounds {V : World} {gm : Nat} (hM : Mat V (some ⟨gm,0,none⟩) 4 aw27G) : Calls Tryz.prog 14 #[.agg #[.int .i64 2,.int .i64 1,.slice none 0 0,.int .i64 7,.slice (some ⟨gm,0,none⟩) 4 4]] V
  λe w'=>∃a c,e = .returned (.tuple #[.slice a 2 c,.int .i64 0])/\Rnds w' a 2 [[1,8,3,3],[2,20,3,5]]/\Below V.heap.size V w':=by
 refine (mRounds_any 2 1 none 0 0 [] 7 (some ⟨gm,0,none⟩) 4 4 aw27G V (Ints.nil _ _) hM).mono ?_
 rintro e w' ⟨a,n,c,rfl,h,b⟩
 rw [aw27_c] at h ⊢
 obtain rfl : n=2:=h.len.symm
 exact ⟨a,c,rfl,h,b⟩
theorem aw27_Distance {V : World} {gm : Nat} (hM : Mat V (some ⟨gm,0,none⟩) 4 aw27G) : Calls Tryz.prog 16 #[.agg #[.int .i64 2,.int .i64 1,.slice none 0 0,.int .i64 7,.slice (some ⟨gm,0,none⟩) 4 4]] V
  λe w'=>e = .returned (.tuple #[.int .i64 3,.int .i64 0])/\Below V.heap.size V w':=by
 refine (mDistance_any 2 1 none 0 0 [] 7 (some ⟨gm,0,none⟩) 4 4 aw27G V (Ints.nil _ _) hM).mono ?_
 rintro e w' ⟨rfl,b⟩
 rw [aw27_c]
 exact ⟨rfl,b⟩
theorem aw27_Lightest {V : World} {gm : Nat} (hM : Mat V (some ⟨gm,0,none⟩) 4 aw27G) : Calls Tryz.prog 17 #[.agg #[.int .i64 2,.int .i64 1,.slice none 0 0,.int .i64 7,.slice (some ⟨gm,0,none⟩) 4 4]] V
  λe w'=>∃a c,e = .returned (.tuple #[.slice a 7 c,.int .i64 0])/\Ints w' a 7 [0,0,1,0,0,1,1]/\Below V.heap.size V w':=by
 refine (mLightest_any 2 1 none 0 0 [] 7 (some ⟨gm,0,none⟩) 4 4 aw27G V (Ints.nil _ _) hM).mono ?_
 rintro e w' ⟨a,n,c,rfl,h,b⟩
 rw [aw27_c] at h ⊢
 obtain rfl : n=7:=h.len.symm
 exact ⟨a,c,rfl,h,b⟩
theorem aw27_None {V : World} : Calls Tryz.prog 16 #[.agg #[.int .i64 2,.int .i64 1,.slice none 0 0,.int .i64 2,.slice none 0 0]] V
  λe w'=>e = .returned (.tuple #[.int .i64 0,.int .i64 11])/\Below V.heap.size V w':=by
 refine (mDistance_any 2 1 none 0 0 [] 2 none 0 0 [] V (Ints.nil _ _) ⟨rfl,λh=>by omega,by unfold maxLen;omega,λi h=>by omega⟩).mono ?_
 rintro e w' ⟨rfl,b⟩
 rw [aw27_n]
 exact ⟨rfl,b⟩
theorem aw27_Certify {V : World} {gm : Nat} (hM : Mat V (some ⟨gm,0,none⟩) 1 [[1,1]]) : Calls Tryz.prog 24 #[.agg #[.int .i64 2,.int .i64 1,.slice none 0 0,.int .i64 2,.slice (some ⟨gm,0,none⟩) 1 1]] V
  λe w'=>∃ax cx at' ct,e = .returned (.tuple #[.agg #[.slice ax 2 cx,.slice at' 2 ct],.int .i64 0])/\Ints w' ax 2 [1,1]/\Mat w' at' 2 [[0],[1]]/\Below V.heap.size V w':=by
 refine (mCertify_any 2 1 none 0 0 [] 2 (some ⟨gm,0,none⟩) 1 1 [[1,1]] V (Ints.nil _ _) hM).mono ?_
 rintro e w' ⟨b,ax,nx,cx,at',nt,ct,rfl,h1,h2⟩
 rw [aw27_m] at h1 h2 ⊢
 obtain rfl : nx=2:=h1.len.symm
 obtain rfl : nt=2:=h2.len.symm
 exact ⟨ax,cx,at',ct,rfl,h1,h2,b⟩
theorem aw27_Check {V : World} {gm : Nat} {ax at' : Option Addr} {cx ct : Nat} (hM : Mat V (some ⟨gm,0,none⟩) 1 [[1,1]]) (h1 : Ints V ax 2 [1,1]) (h2 : Mat V at' 2 [[0],[1]]) : Calls Tryz.prog 27 #[.agg #[.int .i64 2,.int .i64 1,.slice none 0 0,.int .i64 2,.slice (some ⟨gm,0,none⟩) 1 1],.agg #[.slice ax 2 cx,.slice at' 2 ct]] V
  λe w'=>e = .returned (.tuple #[.int .i64 2,.int .i64 0])/\Below V.heap.size V w':=by
 refine (mCheck_any 2 1 none 0 0 [] 2 (some ⟨gm,0,none⟩) 1 1 [[1,1]] ax 2 cx [1,1] at' 2 ct [[0],[1]] V (Ints.nil _ _) hM h1 h2).mono ?_
 rintro e w' ⟨rfl,b⟩
 rw [aw27_v,aw27_e]
 exact ⟨rfl,b⟩
theorem awake27_any (w : World) : Calls Tryz.prog 12 #[] w λe w'=>e = .returned (.bool true)/\Below w.heap.size w w':=by
 go_enter Tryz.func12,Tryz.ntmps12
 go_upto_region 1 with fail
 go_cut [1] (λv wx=>∃g gm,v = .pointer (some ⟨g,0,none⟩)/\Box wx g [.int .i64 2,.int .i64 1,.slice none 0 0,.int .i64 7,.slice (some ⟨gm,0,none⟩) 4 4]/\Mat wx (some ⟨gm,0,none⟩) 4 aw27G/\Below w.heap.size w wx)
 case first =>
  go_wp2_with fail
  go_meet
  have i1:=lits w [1,0,0,0,1,1,0] #[.int .i64 1,.int .i64 0,.int .i64 0,.int .i64 0,.int .i64 1,.int .i64 1,.int .i64 0] rfl (by decide) rfl
  have i2:=lits (w.alloc (.cells #[.int .i64 1,.int .i64 0,.int .i64 0,.int .i64 0,.int .i64 1,.int .i64 1,.int .i64 0] 3)) [0,1,0,0,1,0,1] #[.int .i64 0,.int .i64 1,.int .i64 0,.int .i64 0,.int .i64 1,.int .i64 0,.int .i64 1] rfl (by decide) (g:=w.heap.size+1) (by simp)
  generalize h2 : (w.alloc (.cells #[.int .i64 1,.int .i64 0,.int .i64 0,.int .i64 0,.int .i64 1,.int .i64 1,.int .i64 0] 3)).alloc (.cells #[.int .i64 0,.int .i64 1,.int .i64 0,.int .i64 0,.int .i64 1,.int .i64 0,.int .i64 1] 3)=W2 at i2 ⊢
  have s2 : W2.heap.size=w.heap.size+1+1:=by rw [<- h2];simp
  have i1' : Ints W2 (some ⟨w.heap.size,0,none⟩) 7 [1,0,0,0,1,1,0]:=by rw [<- h2];exact i1.keep (below1 _ _)
  have b2 : Below w.heap.size w W2:=by rw [<- h2];exact below2 _ _ _
  have i3:=lits W2 [0,0,1,0,0,1,1] #[.int .i64 0,.int .i64 0,.int .i64 1,.int .i64 0,.int .i64 0,.int .i64 1,.int .i64 1] rfl (by decide) (g:=w.heap.size+1+1) s2.symm
  have i4:=lits (W2.alloc (.cells #[.int .i64 0,.int .i64 0,.int .i64 1,.int .i64 0,.int .i64 0,.int .i64 1,.int .i64 1] 3)) [0,0,0,1,1,1,1] #[.int .i64 0,.int .i64 0,.int .i64 0,.int .i64 1,.int .i64 1,.int .i64 1,.int .i64 1] rfl (by decide) (g:=w.heap.size+1+1+1) (by simp [s2])
  have k2:=below2 W2 (.cells #[.int .i64 0,.int .i64 0,.int .i64 1,.int .i64 0,.int .i64 0,.int .i64 1,.int .i64 1] 3) (.cells #[.int .i64 0,.int .i64 0,.int .i64 0,.int .i64 1,.int .i64 1,.int .i64 1,.int .i64 1] 3)
  have hm:=mlit4 (c1:=7) (c2:=7) (c3:=7) (c4:=7) _ (i1'.keep k2) (i2.keep k2) (i3.keep (below1 _ (.cells #[.int .i64 0,.int .i64 0,.int .i64 0,.int .i64 1,.int .i64 1,.int .i64 1,.int .i64 1] 3))) i4 (g:=w.heap.size+1+1+1+1) (by simp [s2])
  have hm2:=hm.keep (below1 _ (.cells #[.int .i64 2,.int .i64 1,.slice none 0 0,.int .i64 7,.slice (some ⟨w.heap.size+1+1+1+1,0,none⟩) 4 4] 27))
  exact ⟨_,w.heap.size+1+1+1+1,rfl,Box.new _ [.int .i64 2,.int .i64 1,.slice none 0 0,.int .i64 7,.slice (some ⟨w.heap.size+1+1+1+1,0,none⟩) 4 4] _ (by simp [s2]),hm2,Below.next b2 (Below.next k2 (below2 _ _ _))⟩
 obtain ⟨g,gm,rfl,hx,hM,hbW⟩:=hcut
 generalize wc=W at *
 have HS : Hid (∀V,Below W.heap.size W V->V.cell? ⟨g,0,none⟩=some (.int .i64 2)/\V.cell? ⟨g,1,none⟩=some (.int .i64 1)/\V.cell? ⟨g,2,none⟩=some (.slice none 0 0)/\V.cell? ⟨g,3,none⟩=some (.int .i64 7)/\V.cell? ⟨g,4,none⟩=some (.slice (some ⟨gm,0,none⟩) 4 4)):=λV hV=>by
  have h:=hx.keep hV
  exact ⟨h.cell 0 rfl,h.cell 1 rfl,h.cell 2 rfl,h.cell 3 rfl,h.cell 4 rfl⟩
 have HM : Hid (∀V,Below W.heap.size W V->Mat V (some ⟨gm,0,none⟩) 4 aw27G):=λV hV=>hM.keep hV
 have HW:=Lib.hid hbW
 clear hx hM hbW
 have e0:=Below.refl W.heap.size W
 obtain ⟨c0,c1,c2,c3,c4⟩:=HS.out _ e0
 have Hc:=Lib.hid (aw27_Rounds (HM.out _ e0))
 go_wp2_with fail
 refine Hc.out.mono ?_
 rintro e V1 ⟨a1,k1,rfl,hO1,b1⟩
 have e1:=Below.next e0 b1
 have HO1:=Lib.hid hO1
 clear c0 c1 c2 c3 c4 Hc hO1
 obtain ⟨c0,c1,c2,c3,c4⟩:=HS.out _ e1
 have Hc:=Lib.hid (aw27_Distance (HM.out _ e1))
 go_wp2_with fail
 refine Hc.out.mono ?_
 rintro e V2 ⟨rfl,b2⟩
 have e2:=Below.next e1 b2
 clear c0 c1 c2 c3 c4 Hc
 obtain ⟨c0,c1,c2,c3,c4⟩:=HS.out _ e2
 have Hc:=Lib.hid (aw27_Lightest (HM.out _ e2))
 go_wp2_with fail
 refine Hc.out.mono ?_
 rintro e V3 ⟨a3,k3,rfl,hO3,b3⟩
 have e3:=Below.next e2 b3
 have HO3:=Lib.hid hO3
 clear c0 c1 c2 c3 c4 Hc hO3
 obtain ⟨c0,c1,c2,c3,c4⟩:=HS.out _ e3
 have Hc:=Lib.hid (aw27_None (V:=V3))
 go_wp2_with fail
 refine Hc.out.mono ?_
 rintro e V4 ⟨rfl,b4⟩
 have e4:=Below.next e3 b4
 clear c0 c1 c2 c3 c4 Hc
 obtain ⟨c0,c1,c2,c3,c4⟩:=HS.out _ e4
 go_upto_region 6 with fail
 go_cut [10] (λv wx=>∃p gp,v = .pointer (some ⟨p,0,none⟩)/\Box wx p [.int .i64 2,.int .i64 1,.slice none 0 0,.int .i64 2,.slice (some ⟨gp,0,none⟩) 1 1]/\Mat wx (some ⟨gp,0,none⟩) 1 [[1,1]]/\Below V4.heap.size V4 wx)
 case first =>
  go_wp2_with fail
  go_meet
  have hm:=two1 V4 1 1
  have hm2:=hm.keep (below1 _ (.cells #[.int .i64 2,.int .i64 1,.slice none 0 0,.int .i64 2,.slice (some ⟨V4.heap.size+1,0,none⟩) 1 1] 27))
  exact ⟨_,V4.heap.size+1,rfl,Box.new _ [.int .i64 2,.int .i64 1,.slice none 0 0,.int .i64 2,.slice (some ⟨V4.heap.size+1,0,none⟩) 1 1] _ (by simp),hm2,below3 _ _ _ _⟩
 obtain ⟨p,gp,rfl,hxp,hMp,b5⟩:=hcut
 generalize wc=V5 at *
 have e5:=Below.next e4 b5
 have HP : Hid (∀V,Below V5.heap.size V5 V->V.cell? ⟨p,0,none⟩=some (.int .i64 2)/\V.cell? ⟨p,1,none⟩=some (.int .i64 1)/\V.cell? ⟨p,2,none⟩=some (.slice none 0 0)/\V.cell? ⟨p,3,none⟩=some (.int .i64 2)/\V.cell? ⟨p,4,none⟩=some (.slice (some ⟨gp,0,none⟩) 1 1)):=λV hV=>by
  have h:=hxp.keep hV
  exact ⟨h.cell 0 rfl,h.cell 1 rfl,h.cell 2 rfl,h.cell 3 rfl,h.cell 4 rfl⟩
 have HMp : Hid (∀V,Below V5.heap.size V5 V->Mat V (some ⟨gp,0,none⟩) 1 [[1,1]]):=λV hV=>hMp.keep hV
 clear hxp hMp c0 c1 c2 c3 c4
 have r0:=Below.refl V5.heap.size V5
 obtain ⟨c0,c1,c2,c3,c4⟩:=HP.out _ r0
 have Hc:=Lib.hid (aw27_Certify (HMp.out _ r0))
 go_wp2_with fail
 refine Hc.out.mono ?_
 rintro e V6' ⟨ax,cx,at',ct,rfl,hA6,hT6,b6⟩
 clear c0 c1 c2 c3 c4 Hc
 have n6:=below1 V6' (.cells #[.slice ax 2 cx,.slice at' 2 ct] 49)
 have r6:=Below.next b6 n6
 have HO6:=Lib.hid (λV hV=>⟨((Box.new V6' [.slice ax 2 cx,.slice at' 2 ct] 49 rfl).keep hV).cell 0 rfl,((Box.new V6' [.slice ax 2 cx,.slice at' 2 ct] 49 rfl).keep hV).cell 1 rfl,(hA6.keep n6).keep hV,(hT6.keep n6).keep hV⟩ : ∀V,Below (V6'.alloc (.cells #[.slice ax 2 cx,.slice at' 2 ct] 49)).heap.size (V6'.alloc (.cells #[.slice ax 2 cx,.slice at' 2 ct] 49)) V ->
  V.cell? ⟨V6'.heap.size,0,none⟩=some (.slice ax 2 cx)/\V.cell? ⟨V6'.heap.size,1,none⟩=some (.slice at' 2 ct)/\Ints V ax 2 [1,1]/\Mat V at' 2 [[0],[1]])
 clear hA6 hT6
 have t6:=HO6.out _ (Below.refl _ _)
 have Hc:=Lib.hid (aw27_Check (cx:=cx) (ct:=ct) (HMp.out _ r6) t6.2.2.1 t6.2.2.2)
 obtain ⟨c0,c1,c2,c3,c4⟩:=HP.out _ r6
 have x0:=t6.1
 have x1:=t6.2.1
 clear t6
 go_wp2_with fail
 refine Hc.out.mono ?_
 rintro e V7 ⟨rfl,b7⟩
 have G6:=Lib.hid b7
 have G3:=Lib.hid (Below.next b4 (Below.next b5 (Below.next r6 b7)))
 have G1:=Lib.hid (Below.next b2 (Below.next b3 G3.out))
 have E7:=Lib.hid (Below.next HW.out (Below.next e5 (Below.next r6 b7)))
 clear c0 c1 c2 c3 c4 x0 x1 Hc b1 b2 b3 b4 b5 b6 b7 n6 r6 e0 e1 e2 e3 e4 e5 r0
 go_upto_region 10 with fail
 have q1:=below1 V7 (.cells #[.int .i64 1,.int .i64 8,.int .i64 3,.int .i64 3,.int .i64 2,.int .i64 20,.int .i64 3,.int .i64 5] 62)
 have Hc:=Lib.hid (rSameRounds_t a1 2 k1 [[1,8,3,3],[2,20,3,5]] (some ⟨V7.heap.size,0,none⟩) 2 2 _ (HO1.out.keep (Below.next G1.out q1)) (rlit2 V7 1 8 3 3 2 20 3 5 rfl) (by omega))
 go_wp2_with fail
 refine Hc.out.mono ?_
 rintro e Y1 ⟨rfl,t1⟩
 have s1:=Below.next q1 t1
 clear Hc q1 t1
 have q2:=below1 Y1 (.cells #[.int .i64 0,.int .i64 0,.int .i64 1,.int .i64 0,.int .i64 0,.int .i64 1,.int .i64 1] 3)
 have s2':=Below.next s1 q2
 have Hc:=Lib.hid (rSameInts_any a3 7 k3 [0,0,1,0,0,1,1] (some ⟨Y1.heap.size,0,none⟩) 7 7 [0,0,1,0,0,1,1] (HO3.out.keep (Below.next G3.out s2')) (lits Y1 [0,0,1,0,0,1,1] #[.int .i64 0,.int .i64 0,.int .i64 1,.int .i64 0,.int .i64 0,.int .i64 1,.int .i64 1] rfl (by decide) rfl))
 rw [decide_eq_true rfl] at Hc
 go_wp2_with fail
 refine Hc.out.mono ?_
 rintro e Y2 ⟨rfl,t2⟩
 have s2:=Below.next s2' t2.below
 clear Hc q2 s2' t2
 obtain ⟨x0,x1,hA,hT⟩:=HO6.out Y2 (Below.next G6.out s2)
 have q3:=below1 Y2 (.cells #[.int .i64 1,.int .i64 1] 3)
 have s3':=Below.next s2 q3
 have Hc:=Lib.hid (rSameInts_any ax 2 cx [1,1] (some ⟨Y2.heap.size,0,none⟩) 2 2 [1,1] (hA.keep q3) (lits Y2 [1,1] #[.int .i64 1,.int .i64 1] rfl (by decide) rfl))
 rw [decide_eq_true rfl] at Hc
 clear hA hT x1
 go_wp2_with fail
 refine Hc.out.mono ?_
 rintro e Y3 ⟨rfl,t3⟩
 have s3:=Below.next s3' t3.below
 clear Hc q3 s3' t3 x0
 obtain ⟨x0,x1,hA,hT⟩:=HO6.out Y3 (Below.next G6.out s3)
 have q4:=below3 Y3 (.cells #[.int .i64 0] 3) (.cells #[.int .i64 1] 3) (.cells #[.slice (some ⟨Y3.heap.size,0,none⟩) 1 1,.slice (some ⟨Y3.heap.size+1,0,none⟩) 1 1] 22)
 have Hc:=Lib.hid (rSameRows_any at' 2 ct [[0],[1]] _ 2 2 [[0],[1]] (hT.keep q4) (one2 Y3 0 1))
 rw [decide_eq_true rfl] at Hc
 clear hA hT x0
 go_wp2_with fail
 refine Hc.out.mono ?_
 rintro e Y4 ⟨rfl,t4⟩
 have hF:=Below.next E7.out (Below.next s3 (Below.next q4 t4.below))
 clear Hc q4 t4
 go_wp2_with fail
 go_ret
 exact ⟨rfl,hF⟩
end

end Go.Proofs.YtcfmiocdlcapoaaGreat
