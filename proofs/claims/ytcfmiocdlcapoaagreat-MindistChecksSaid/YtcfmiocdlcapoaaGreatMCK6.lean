/-  -/
import Derived.Test.YtcfmiocdlcapoaaGreatK24
import Derived.Test.YtcfmiocdlcapoaaGreatMCK5
import Derived.Test.YtcfmiocdlcapoaaGreatK27
import Derived.Test.YtcfmiocdlcapoaaGreatK18
import Derived.Test.YtcfmiocdlcapoaaGreatK8
import Derived.Test.YtcfmiocdlcapoaaGreatMCK1
import Derived.Test.YtcfmiocdlcapoaaGreatK30
import Derived.Test.YtcfmiocdlcapoaaGreatK20
import Derived.Test.YtcfmiocdlcapoaaGreatK11
import Derived.Test.YtcfmiocdlcapoaaGreatK28
import Derived.Test.YtcfmiocdlcapoaaGreatK25
import Derived.Test.YtcfmiocdlcapoaaGreatK32
import Derived.Test.YtcfmiocdlcapoaaGreatK31
import Derived.Test.YtcfmiocdlcapoaaGreatL2
import Derived.Test.YtcfmiocdlcapoaaGreatK29
import Derived.Test.YtcfmiocdlcapoaaGreatL1
import Derived.Test.YtcfmiocdlcapoaaGreatK16
import Derived.Test.YtcfmiocdlcapoaaGreatMCK2
namespace Go.Proofs.YtcfmiocdlcapoaaGreat
set_option linter.unusedVariables false
set_option linter.unusedSimpArgs false
set_option linter.unusedSectionVars false

section
set_option maxRecDepth 100000
set_option maxHeartbeats 8000000

open Go.RowKit
theorem ints_lit1 (w : World) (x : Int) (e : TypeId) {g : Nat} (hg : g=w.heap.size) : Ints (w.alloc (.cells #[.int .i64 x] e)) (some ⟨g,0,none⟩) 1 [x] :=
 ⟨rfl,λ_=>rfl,by unfold maxLen;omega,λi hi=>by
  obtain rfl : i=0:=by omega
  exact cell_alloc_at _ _ _ hg 0⟩
def FolV (R : Option (List (List Int))) (rv ov : Value) (w' : World) : Prop :=
 (R=none/\rv = .slice none 0 0/\ov = .bool false)\/(∃rest a' c',R=some rest/\rv = .slice a' rest.length c'/\ov = .bool true/\Mat w' a' rest.length rest/\rest.length<=c')
def FolPost (R : Option (List (List Int))) (w : World) (e : Ending) (w' : World) : Prop:=Below w.heap.size w w'/\∃rv ov,e = .returned (.tuple #[rv,ov])/\FolV R rv ov w'
theorem rFollow26_any (P M : Int) (am : Option Addr) (mn cm : Nat) (mod : List Int) (m : Nat) (a : Option Addr) (n c : Nat) (L : List (List Int)) (ay : Option Addr) (ny cy : Nat) (C : Clm) (w0 : World)
  (hmod : Ints w0 am mn mod) (hi : Mat w0 a n L) (hE : codeE P M mod m L=0) (cb : Bool) (hc : C.cos=cb) (hRight : Hid (RightK P M am mn cm mod m a n c L ay ny cy C w0)) (hw6 : C.W<=64) (hm6 : m<=64) :
  ∀(d : Nat) (w : World) (sa : Option Addr) (ns cs : Nat) (s : List Int) (az : Option Addr) (nz cz : Nat) (z : List Int) (ax : Option Addr) (nx cx : Nat) (ts : List (List Int)),ns+d=C.W->nz<=64->nx<=cx->Below w0.heap.size w0 w ->
   Ints w sa ns s->Ints w az nz z->Mat w ax nx ts->z.Nodup->(∀x ∈ z,0<=x/\x<(m : Int)) ->
   Calls Tryz.prog 241 #[rclV P M am mn cm m a n c ay ny cy C,.slice sa ns cs,.slice az nz cz,.slice ax nx cx] w (FolPost (folS (tblOf P M.toNat mod).ops L m C d s z ts) w)
 | d,w,sa,ns,cs,s,az,nz,cz,z,ax,nx,cx,ts,hd,hnz,hnc,hb,hs,hz,hts,hzn,hzb=>by
  have IH : Hid (∀d',d'+1=d->∀(w : World) (sa : Option Addr) (ns cs : Nat) (s : List Int) (az : Option Addr) (nz cz : Nat) (z : List Int) (ax : Option Addr) (nx cx : Nat) (ts : List (List Int)),ns+d'=C.W->nz<=64->nx<=cx->Below w0.heap.size w0 w ->
   Ints w sa ns s->Ints w az nz z->Mat w ax nx ts->z.Nodup->(∀x ∈ z,0<=x/\x<(m : Int)) ->
   Calls Tryz.prog 241 #[rclV P M am mn cm m a n c ay ny cy C,.slice sa ns cs,.slice az nz cz,.slice ax nx cx] w (FolPost (folS (tblOf P M.toNat mod).ops L m C d' s z ts) w)):=λd' hd'=>by
   subst hd'
   exact rFollow26_any P M am mn cm mod m a n c L ay ny cy C w0 hmod hi hE cb hc hRight hw6 hm6 d'
  have Hsl:=Lib.hid hs.len
  have Hzl:=Lib.hid hz.len
  obtain ⟨RF,hRF⟩ : ∃RF,folS (tblOf P M.toNat mod).ops L m C d s z ts=RF:=⟨_,rfl⟩
  rw [hRF]
  have HRF:=Lib.hid hRF
  have Hz:=Lib.hid (And.intro hzn hzb)
  have hmaxx:=hts.max
  unfold maxLen at hmaxx
  clear hRF hzn hzb
  by_cases hx0 : nx=0
  ·subst hx0
   have hts0 : ts=[]:=List.eq_nil_of_length_eq_zero hts.len
   have HF : Hid (RF=none):=by show _=_;rw [<- HRF.out,hts0,folS_nil]
   have hd0 : ((0 : Int) == 0)=true:=rfl
   have hbF:=below1 w (.cells #[.int .i64 P,.int .i64 M,.slice am mn cm,.int .i64 m,.slice a n c,.int .i64 C.M,.int .i64 C.W,.slice ay ny cy,.bool cb] 196)
   unfold rclV
   rw [hc]
   clear hts0 IH HRF hts hc
   go_enter Tryz.func241,Tryz.ntmps241
   go_wp2_with fail
   go_quiet (fail)
   go_wp2_with fail
   go_ret2
   exact ⟨Below.next hbF (Drawn.below ⟨_,rfl⟩),_,_,rfl,.inl ⟨HF.out,rfl,rfl⟩⟩
  obtain ⟨t,ts',rfl⟩ : ∃t ts',ts=t :: ts':=by
   cases ts with
   | nil=>have:=hts.len;simp at this;omega
   | cons t ts'=>exact ⟨t,ts',rfl⟩
  obtain ⟨rb,ro,rfl⟩ : ∃rb ro,ax=some ⟨rb,ro,none⟩:=⟨_,_,hts.pl (by omega)⟩
  have hlen : ts'.length=nx - 1:=by have:=hts.len;simp at this;omega
  obtain ⟨ra,rn,rc,hcell,hrow⟩:=hts.cell 0 (by omega)
  simp only [ablk_some,aoff_some,Nat.add_zero] at hcell
  rw [show nthR (t :: ts') 0=t from rfl] at hrow
  have hd0 : ((nx : Int) == 0)=false:=by simp;omega
  have h0nx : (0 : Int)<(nx : Int):=by omega
  have h0nx2 : 0<nx:=by omega
  have hplx:=hts.pl
  have hRt0 : ∀V,Below w.heap.size w V->Calls Tryz.prog 237 #[rclV P M am mn cm m a n c ay ny cy C,.slice sa ns cs,.slice ra rn rc] V λe w'=>e = .returned (.bool (rightS (tblOf P M.toNat mod).ops L m C s t))/\Below V.heap.size V w':=λV hV=>by
   have hbV:=hb.trans (hV.mono hb.size)
   exact hRight.out V sa ns cs s ra rn rc t (by omega) hbV (hs.keep hV) (hrow.keep hV)
  have hm1:=codeE_rws hE
  obtain ⟨rr,hrr⟩ : ∃rr,rightS (tblOf P M.toNat mod).ops L m C s t=rr:=⟨_,rfl⟩
  rw [hrr] at hRt0
  have hKi0 : rr=true->∀V,Below w.heap.size w V->Calls Tryz.prog 238 #[rclV P M am mn cm m a n c ay ny cy C,.slice sa ns cs,.slice az nz cz,.slice ra rn rc] V (NewInts V (kidsS C s z t)):=λhr V hV=>by
   have hok:=(right_ok (hrr.trans hr)).1
   have hl:=okSet_len hok (by omega)
   rw [hrow.len] at hl
   exact rKids26_any P M am mn cm m a n c ay ny cy C sa ns cs s az nz cz z ra rn rc t V (hs.keep hV) (hz.keep hV) (hrow.keep hV) (by omega)
  have Hrr:=Lib.hid hrr
  unfold rclV at hRt0 hKi0
  simp only [hc] at hRt0 hKi0
  have HRt:=Lib.hid hRt0
  have HKi:=Lib.hid hKi0
  have Hlen:=Lib.hid hlen
  have hzr:=hts.tail
  unfold rclV
  rw [hc]
  have Hc:=Lib.hid hc
  clear hRt0 hKi0 hrr hm1 hlen hc
  go_enter Tryz.func241,Tryz.ntmps241
  go_upto_region 1 with fail
  obtain ⟨U,hU⟩ : ∃U : World,U=w.alloc (.cells #[.int .i64 P,.int .i64 M,.slice am mn cm,.int .i64 m,.slice a n c,.int .i64 C.M,.int .i64 C.W,.slice ay ny cy,.bool cb] 196):=⟨_,rfl⟩
  rw [<- hU]
  have hbU : Below w.heap.size w U:=by rw [hU];exact below1 _ _
  have x0 : Box U w.heap.size [.int .i64 P,.int .i64 M,.slice am mn cm,.int .i64 m,.slice a n c,.int .i64 C.M,.int .i64 C.W,.slice ay ny cy,.bool cb]:=by rw [hU];exact Box.new _ _ _ rfl
  have hcU:=cell_keep hbU hcell
  have HS : Hid (∀V,Below U.heap.size U V->V.cell? ⟨w.heap.size,0,none⟩=some (.int .i64 P)/\V.cell? ⟨w.heap.size,1,none⟩=some (.int .i64 M)/\V.cell? ⟨w.heap.size,2,none⟩=some (.slice am mn cm)/\V.cell? ⟨w.heap.size,3,none⟩=some (.int .i64 m)/\V.cell? ⟨w.heap.size,4,none⟩=some (.slice a n c) /\
    V.cell? ⟨w.heap.size,5,none⟩=some (.int .i64 C.M)/\V.cell? ⟨w.heap.size,6,none⟩=some (.int .i64 C.W)/\V.cell? ⟨w.heap.size,7,none⟩=some (.slice ay ny cy)/\V.cell? ⟨w.heap.size,8,none⟩=some (.bool cb)/\V.cell? ⟨rb,ro,none⟩=some (.slice ra rn rc)/\Below U.heap.size U V):=λV hV=>by
   have x1:=x0.keep hV
   exact ⟨x1.cell 0 rfl,x1.cell 1 rfl,x1.cell 2 rfl,x1.cell 3 rfl,x1.cell 4 rfl,x1.cell 5 rfl,x1.cell 6 rfl,x1.cell 7 rfl,x1.cell 8 rfl,cell_keep hV hcU,hV⟩
  have HbU:=Lib.hid hbU
  clear hU x0 hcU
  go_cut [25] (λv wx=>v = .bool (!rr)/\Below U.heap.size U wx)
  case first =>
   go_region_held3 (λV=>V.cell? ⟨w.heap.size,0,none⟩=some (.int .i64 P)/\V.cell? ⟨w.heap.size,1,none⟩=some (.int .i64 M)/\V.cell? ⟨w.heap.size,2,none⟩=some (.slice am mn cm)/\V.cell? ⟨w.heap.size,3,none⟩=some (.int .i64 m)/\V.cell? ⟨w.heap.size,4,none⟩=some (.slice a n c) /\
     V.cell? ⟨w.heap.size,5,none⟩=some (.int .i64 C.M)/\V.cell? ⟨w.heap.size,6,none⟩=some (.int .i64 C.W)/\V.cell? ⟨w.heap.size,7,none⟩=some (.slice ay ny cy)/\V.cell? ⟨w.heap.size,8,none⟩=some (.bool cb)/\V.cell? ⟨rb,ro,none⟩=some (.slice ra rn rc)/\Below U.heap.size U V)
    ((refine HS.out _ ?_;first | exact hb3w | exact (Below.refl _ _).drew | assumption | (go_split_ands;assumption)))
    (first
    | (go_at_call 237;((with_reducible refine (HRt.out _ (Below.next HbU.out (by go_split_ands;assumption))).mono ?_);rintro e w3 ⟨rfl,hb3⟩;have hb3w : Below U.heap.size U w3:=(by go_split_ands;exact Below.next (by assumption) hb3))))
   all_goals (go_wp2_with fail;go_meet;exact ⟨rfl,hb3w⟩)
  obtain ⟨rfl,hb2⟩:=hcut
  generalize wc=w2 at *
  cases rr
  ·have HF : Hid (RF=none):=by show _=_;rw [<- HRF.out,folS_bad _ _ _ _ _ _ _ _ _ Hrr.out]
   have hbF:=Below.next HbU.out hb2
   go_wp2_with fail
   go_ret2
   exact ⟨hbF,_,_,rfl,.inl ⟨HF.out,rfl,rfl⟩⟩
  obtain ⟨F,hFd⟩ : ∃F,folS (tblOf P M.toNat mod).ops L m C (d - 1)=F:=⟨_,rfl⟩
  have HF : Hid (RF=kfol F s z (kidsS C s z t) ts'):=by
   show _=_
   rw [<- HRF.out,folS_eq _ _ _ _ _ _ _ _ _ (by rw [Hsl.out];exact hd) Hrr.out,<- hFd]
   rfl
  have HFd:=Lib.hid hFd
  have hok:=(right_ok Hrr.out).1
  obtain ⟨ks,hks⟩ : ∃ks,kidsS C s z t=ks:=⟨_,rfl⟩
  have hkl : ks.length<=64:=by
   have h1:=okSet_len hok (by omega)
   have h2 : ks.length<=t.length:=by
    rw [<- hks,kidsS]
    split
    ·exact List.length_filter_le _ _
    ·simp
   omega
  have hknd : ks.Nodup/\(∀x ∈ ks,0<=x/\x<(m : Int))/\(∀x ∈ ks,¬ x ∈ z)/\(0<ks.length->ns<C.W):=by
   refine ⟨?_,λx hx=>?_,λx hx=>?_,λh=>?_⟩
   ·rw [<- hks,kidsS]
    split
    ·exact List.Pairwise.filter _ (okSet_nodup hok)
    ·simp
   ·rw [<- hks] at hx
    obtain ⟨q,hq,rfl⟩:=List.mem_iff_getElem.1 (kids_mem hx).1
    rw [<- nth_getElem hq]
    exact okSet_rng hok q hq
   ·rw [<- hks] at hx
    exact (kids_mem hx).2.1
   ·rw [<- hks] at h
    have h1:=kids_mem (List.getElem_mem (n:=0) h)
    rw [Hsl.out] at h1
    exact h1.2.2
  have HKs:=Lib.hid hknd
  rw [hks] at HF HKi
  have HKi:=Lib.hid (HKi.out rfl)
  have hbw2:=Below.next HbU.out hb2
  obtain ⟨c0,c1,c2,c3,c4,c5,c6,c7,c8,c9,_⟩:=HS.out w2 hb2
  clear hFd hok hks hknd
  go_upto_region 3 with fail
  go_cut [10] (λv wx=>∃ak ck,v = .slice ak ks.length ck/\wx.ownsRow U.heap.size 3 1 (.slice ak ks.length ck) ks.length (ks.map (Value.int .i64))/\Below U.heap.size U wx)
  case first =>
   have hszU:=hb2.size
   go_region_held3 (λV=>V.cell? ⟨w.heap.size,0,none⟩=some (.int .i64 P)/\V.cell? ⟨w.heap.size,1,none⟩=some (.int .i64 M)/\V.cell? ⟨w.heap.size,2,none⟩=some (.slice am mn cm)/\V.cell? ⟨w.heap.size,3,none⟩=some (.int .i64 m)/\V.cell? ⟨w.heap.size,4,none⟩=some (.slice a n c) /\
     V.cell? ⟨w.heap.size,5,none⟩=some (.int .i64 C.M)/\V.cell? ⟨w.heap.size,6,none⟩=some (.int .i64 C.W)/\V.cell? ⟨w.heap.size,7,none⟩=some (.slice ay ny cy)/\V.cell? ⟨w.heap.size,8,none⟩=some (.bool cb)/\V.cell? ⟨rb,ro,none⟩=some (.slice ra rn rc)/\Below U.heap.size U V)
    ((refine HS.out _ ?_;first | exact hb3w | exact Below.next hb2 (Below.refl _ _).drew | assumption | (go_split_ands;assumption)))
    (first
    | (go_at_call 238;((with_reducible refine (HKi.out _ (Below.next HbU.out (by go_split_ands;assumption))).mono ?_);rintro e w3 ⟨ak,ck,rfl,hown3,hb3⟩;have hb3w : Below U.heap.size U w3:=(by go_split_ands;exact Below.next (by assumption) hb3))))
   all_goals (go_wp2_with fail;go_meet;exact ⟨ak,ck,rfl,own_mono hown3 hszU,hb3w⟩)
  obtain ⟨ak,ck,rfl,hownk,hb3⟩:=hcut
  generalize wc=w3 at *
  clear c0 c1 c2 c3 c4 c5 c6 c7 c8 c9
  go_upto_region 4 with fail
  go_cut [11] (λv wx=>∃ar cr,v = .slice ar (nx - 1) cr/\Mat w3 ar (nx - 1) ts'/\nx - 1<=cr/\w3=wx)
  case first =>
   have hzw:=hzr.keep (Below.next HbU.out hb3)
   have hn1 : (1 : Int)<=(nx : Int):=by omega
   have hn2 : (nx : Int)<=(cx : Int):=by omega
   have hn3 : (1 : Int)<=(cx : Int):=by omega
   by_cases hc1 : cx=1
   ·have hnx1 : nx=1:=by omega
    subst hnx1
    subst hc1
    have hts0 : ts'=[]:=List.eq_nil_of_length_eq_zero (by rw [Hlen.out])
    go_wp2_with fail
    go_meet
    exact ⟨_,_,rfl,by rw [hts0];exact Mat.empty _ _,by omega,rfl⟩
   ·have hc2 : ¬ cx=1:=hc1
    go_wp2_with fail
    go_meet
    exact ⟨_,_,rfl,hzw,by omega,rfl⟩
  obtain ⟨ar,cr,rfl,hzr3,hncr,rfl⟩:=hcut
  obtain ⟨ik,_⟩:=Ints.own hownk
  have hplk:=ik.pl
  have hckap:=own_cap hownk
  have HbU3:=Lib.hid (Below.next HbU.out hb3)
  have hs3:=hs.keep HbU3.out
  have hz3:=hz.keep HbU3.out
  have hns64 : ns<=64:=by omega
  have Hb0:=Lib.hid hb
  obtain ⟨kl,hkle⟩ : ∃kl,ks.length=kl:=⟨_,rfl⟩
  rw [hkle] at hownk hkl ik hplk hckap
  rw [hkle]
  have Hkl:=Lib.hid hkle
  have HSk : Hid (∀V,Below w3.heap.size w3 V->V.cell? ⟨w.heap.size,0,none⟩=some (.int .i64 P)/\V.cell? ⟨w.heap.size,1,none⟩=some (.int .i64 M)/\V.cell? ⟨w.heap.size,2,none⟩=some (.slice am mn cm)/\V.cell? ⟨w.heap.size,3,none⟩=some (.int .i64 m)/\V.cell? ⟨w.heap.size,4,none⟩=some (.slice a n c) /\
    V.cell? ⟨w.heap.size,5,none⟩=some (.int .i64 C.M)/\V.cell? ⟨w.heap.size,6,none⟩=some (.int .i64 C.W)/\V.cell? ⟨w.heap.size,7,none⟩=some (.slice ay ny cy)/\V.cell? ⟨w.heap.size,8,none⟩=some (.bool cb)):=λV hV=>by
   obtain ⟨c0,c1,c2,c3,c4,c5,c6,c7,c8,_,_⟩:=HS.out V (Below.next hb3 hV)
   exact ⟨c0,c1,c2,c3,c4,c5,c6,c7,c8⟩
  have HIH : Hid (∀(V : World) (j : Nat) (a5 : Option Addr) (c5 : Nat) (a7 : Option Addr) (c7 : Nat) (a9 : Option Addr) (n9 c9 : Nat) (rs : List (List Int)),j<kl->n9<=c9->Below w3.heap.size w3 V->Ints V a5 (ns+1) (s ++ [nth ks j])->Ints V a7 (nz+j) (z ++ ks.take j)->Mat V a9 n9 rs ->
    Calls Tryz.prog 241 #[.agg #[.int .i64 P,.int .i64 M,.slice am mn cm,.int .i64 m,.slice a n c,.int .i64 C.M,.int .i64 C.W,.slice ay ny cy,.bool cb],.slice a5 (ns+1) c5,.slice a7 (nz+j) c7,.slice a9 n9 c9] V (FolPost (F (s ++ [nth ks j]) (z ++ ks.take j) rs) V)):=by
   intro V j a5 c5 a7 c7 a9 n9 c9 rs hj h9 hV h1 h2 h3
   have hjk : j<ks.length:=by rw [Hkl.out];exact hj
   have hnsW:=HKs.out.2.2.2 (by omega)
   obtain ⟨d',hd'⟩ : ∃d',d'+1=d:=⟨d - 1,by omega⟩
   have hnd : (z ++ ks.take j).Nodup:=by
    rw [List.nodup_append]
    exact ⟨Hz.out.1,List.Nodup.sublist (List.take_sublist _ _) HKs.out.1,λx hx y hy e=>HKs.out.2.2.1 y (List.mem_of_mem_take hy) (e ▸ hx)⟩
   have hbd : ∀x ∈ z ++ ks.take j,0<=x/\x<(m : Int):=λx hx=>by
    rcases List.mem_append.1 hx with hx | hx
    ·exact Hz.out.2 x hx
    ·exact HKs.out.2.1 x (List.mem_of_mem_take hx)
   have hle : nz+j<=64:=by
    have h4:=used_len hnd hbd
    rw [h2.len] at h4
    omega
   have h5:=IH.out d' hd' V a5 (ns+1) c5 (s ++ [nth ks j]) a7 (nz+j) c7 (z ++ ks.take j) a9 n9 c9 rs (by omega) hle h9 (Hb0.out.trans ((Below.next HbU3.out hV).mono Hb0.out.size)) h1 h2 h3 hnd hbd
   rw [show d'=d - 1 by omega,HFd.out] at h5
   unfold rclV at h5
   rw [Hc.out] at h5
   exact h5
  clear IH hkle hb2 hb hrow hts hzr hs hz hmod hi hE hm6 hw6
  go_wp2_with fail
  go_loopw [11,12,13] (λrv ov jv wr=>∃(j : Nat) (okb : Bool) (a9 : Option Addr) (n9 c9 : Nat) (rs : List (List Int)),j<=kl/\jv = .int .i64 j/\ov = .bool okb/\rv = .slice a9 n9 c9/\n9<=c9/\Below w3.heap.size w3 wr/\Mat wr a9 n9 rs /\
    Hid (if okb=true then RF=kfol F s (z ++ ks.take j) (ks.drop j) rs else RF=none/\a9=none/\n9=0/\c9=0))
   (λ_ _ jv _=>kl - (intOf jv).toNat)
  case atStart=>exact ⟨0,true,ar,nx - 1,cr,ts',Nat.zero_le _,rfl,rfl,rfl,hncr,Below.refl _ _,hzr3,(show if true=true then _ else _ by rw [if_pos rfl,List.take_zero,List.append_nil,List.drop_zero];exact HF.out)⟩
  case round =>
   obtain ⟨j,okb,a9,n9,c9,rs,hj,rfl,rfl,rfl,h9,hbr,hrs,hst⟩:=hrel
   generalize wr=U1 at *
   cases okb
   ·have Hst : Hid (RF=none/\a9=none/\n9=0/\c9=0):=by
     have:=hst.out
     rw [if_neg (by decide)] at this
     exact this
    have hbF:=Below.next HbU3.out hbr
    by_cases hlt : j<kl
    ·go_wp2_with fail
     go_ret2
     obtain ⟨h1,rfl,rfl,rfl⟩:=Hst.out
     exact ⟨hbF,_,_,rfl,.inl ⟨h1,rfl,rfl⟩⟩
    ·obtain rfl : j=kl:=by omega
     go_wp2_with fail
     go_ret2
     obtain ⟨h1,rfl,rfl,rfl⟩:=Hst.out
     exact ⟨hbF,_,_,rfl,.inl ⟨h1,rfl,rfl⟩⟩
   have Hst : Hid (RF=kfol F s (z ++ ks.take j) (ks.drop j) rs):=by
    have:=hst.out
    rw [if_pos rfl] at this
    exact this
   clear hst
   by_cases hlt : j<kl
   ·have hjk : j<ks.length:=by rw [Hkl.out];exact hlt
    have Hst2 : Hid (RF=match F (s ++ [nth ks j]) (z ++ ks.take j) rs with | none=>none | some ts'=>kfol F s (z ++ ks.take (j+1)) (ks.drop (j+1)) ts'):=by
     show _=_
     rw [Hst.out,show ks.drop j=nth ks j :: ks.drop (j+1) by rw [nth_getElem hjk];exact List.drop_eq_getElem_cons hjk,kfol,take_nth ks hjk,List.append_assoc]
     cases F (s ++ [nth ks j]) (z ++ ks.take j) rs <;> rfl
    have ikU:=ik.keep hbr
    have cj:=ikU.cell j hlt
    have hs9:=hs3.keep hbr
    have hz9:=hz3.keep hbr
    have hkt:=Ints.take ikU (Nat.le_of_lt hlt)
    have HW1 : Hid (∀V g,Below U1.heap.size U1 V->Ints V (some ⟨g,0,none⟩) 1 [nth ks j]->Calls Tryz.prog 236 #[.slice sa ns cs,.slice (some ⟨g,0,none⟩) 1 1] V λe w'=>∃a2 c2,e = .returned (.slice a2 (ns+1) c2)/\Ints w' a2 (ns+1) (s ++ [nth ks j])/\Below V.heap.size V w'):=λV g hV hg=>by
     refine (rWith26_any sa ns cs s (some ⟨g,0,none⟩) 1 1 [nth ks j] V (hs9.keep hV) hg (by omega) (by omega)).mono ?_
     rintro e w' ⟨a2,c2,rfl,ho,hbw⟩
     exact ⟨a2,c2,rfl,(Ints.own ho).1,hbw⟩
    have HW2 : Hid (∀V,Below U1.heap.size U1 V->Calls Tryz.prog 236 #[.slice az nz cz,.slice ak j ck] V λe w'=>∃a2 c2,e = .returned (.slice a2 (nz+j) c2)/\Ints w' a2 (nz+j) (z ++ ks.take j)/\Below V.heap.size V w'):=λV hV=>by
     refine (rWith26_any az nz cz z ak j ck (ks.take j) V (hz9.keep hV) (hkt.keep hV) (by omega) (by omega)).mono ?_
     rintro e w' ⟨a2,c2,rfl,ho,hbw⟩
     exact ⟨a2,c2,rfl,(Ints.own ho).1,hbw⟩
    have HFo : Hid (∀V a5 c5 a7 c7,Below U1.heap.size U1 V->Ints V a5 (ns+1) (s ++ [nth ks j])->Ints V a7 (nz+j) (z ++ ks.take j)->Calls Tryz.prog 241 #[.agg #[.int .i64 P,.int .i64 M,.slice am mn cm,.int .i64 m,.slice a n c,.int .i64 C.M,.int .i64 C.W,.slice ay ny cy,.bool cb],.slice a5 (ns+1) c5,.slice a7 (nz+j) c7,.slice a9 n9 c9] V
      (FolPost (F (s ++ [nth ks j]) (z ++ ks.take j) rs) V)):=λV a5 c5 a7 c7 hV h1 h2=>HIH.out V j a5 c5 a7 c7 a9 n9 c9 rs hlt h9 (Below.next hbr hV) h1 h2 (hrs.keep hV)
    have HSU : Hid (∀V,Below U1.heap.size U1 V->V.cell? ⟨w.heap.size,0,none⟩=some (.int .i64 P)/\V.cell? ⟨w.heap.size,1,none⟩=some (.int .i64 M)/\V.cell? ⟨w.heap.size,2,none⟩=some (.slice am mn cm)/\V.cell? ⟨w.heap.size,3,none⟩=some (.int .i64 m)/\V.cell? ⟨w.heap.size,4,none⟩=some (.slice a n c) /\
      V.cell? ⟨w.heap.size,5,none⟩=some (.int .i64 C.M)/\V.cell? ⟨w.heap.size,6,none⟩=some (.int .i64 C.W)/\V.cell? ⟨w.heap.size,7,none⟩=some (.slice ay ny cy)/\V.cell? ⟨w.heap.size,8,none⟩=some (.bool cb)/\V.cell? ⟨ablk ak,aoff ak+j,none⟩=some (.int .i64 (nth ks j))/\Below U1.heap.size U1 V):=λV hV=>by
     obtain ⟨c0,c1,c2,c3,c4,c5,c6,c7,c8⟩:=HSk.out V (Below.next hbr hV)
     exact ⟨c0,c1,c2,c3,c4,c5,c6,c7,c8,cell_keep hV cj,hV⟩
    obtain ⟨x,hx⟩ : ∃x,nth ks j=x:=⟨_,rfl⟩
    rw [hx] at HW1 HFo HSU Hst2 cj
    obtain ⟨FR,hFR⟩ : ∃FR,F (s ++ [x]) (z ++ ks.take j) rs=FR:=⟨_,rfl⟩
    rw [hFR] at HFo Hst2
    have hj0 : (0 : Int)<=(j : Int):=by omega
    have hjc : (j : Int)<=(ck : Int):=by omega
    have hjl : (j : Int)<(kl : Int):=by omega
    have HbR:=Lib.hid hbr
    clear hx hFR hjk hkt hs9 hz9 ikU cj hrs Hst
    go_upto_region 9 with fail
    go_region_held3 (λV=>V.cell? ⟨w.heap.size,0,none⟩=some (.int .i64 P)/\V.cell? ⟨w.heap.size,1,none⟩=some (.int .i64 M)/\V.cell? ⟨w.heap.size,2,none⟩=some (.slice am mn cm)/\V.cell? ⟨w.heap.size,3,none⟩=some (.int .i64 m)/\V.cell? ⟨w.heap.size,4,none⟩=some (.slice a n c) /\
      V.cell? ⟨w.heap.size,5,none⟩=some (.int .i64 C.M)/\V.cell? ⟨w.heap.size,6,none⟩=some (.int .i64 C.W)/\V.cell? ⟨w.heap.size,7,none⟩=some (.slice ay ny cy)/\V.cell? ⟨w.heap.size,8,none⟩=some (.bool cb)/\V.cell? ⟨ablk ak,aoff ak+j,none⟩=some (.int .i64 x)/\Below U1.heap.size U1 V)
     ((refine HSU.out _ ?_;first | exact (Below.refl _ _).drew | exact hb11w | exact hb5w | exact hb7w | exact ((Below.refl _ _).alloc (Nat.le_refl _) _).drew | exact Below.allocN hb7w _ | assumption | (go_split_ands;assumption) | (go_split_ands;exact Below.allocN (by assumption) _)))
     (first
     | (go_at_call 236;((with_reducible refine (HW1.out _ _ (by go_split_ands;assumption) (by first | exact (ints_lit1 _ _ _ rfl).keep (Below.refl _ _).drew | exact ints_lit1 _ _ _ rfl | exact ((ints_lit1 _ _ _ rfl).keep (Below.refl _ _).drew).keep hb7)).mono ?_);rintro e w5 ⟨a5,c5,rfl,hI5,hb5⟩;have hb5w : Below U1.heap.size U1 w5:=(by go_split_ands;exact Below.next (by assumption) hb5)))
     | (go_at_call 236;((with_reducible refine (HW2.out _ (by go_split_ands;assumption)).mono ?_);rintro e w7 ⟨a7,c7,rfl,hI7,hb7⟩;have hb7w : Below U1.heap.size U1 w7:=(by go_split_ands;exact Below.next (by assumption) hb7)))
     | (go_at_call 241;((with_reducible refine (HFo.out _ a5 c5 a7 c7 (by go_split_ands;assumption) (by first | exact hI5 | exact hI5.keep hb7) (by first | exact hI7 | exact hI7.keep hb5 | exact (hI7.keep (below1 _ _)).keep hb5)).mono ?_);rintro e w11 ⟨hb11,rv,ov,rfl,hFV⟩;have hb11w : Below U1.heap.size U1 w11:=(by go_split_ands;exact Below.next (by assumption) hb11))))
    all_goals (
     have hbF:=Below.next HbR.out hb11w
     rcases hFV with ⟨h1,rfl,rfl⟩ | ⟨rest,a12,c12,h1,rfl,rfl,hM12,h12⟩
     ·have Hn : Hid (RF=none):=by show _=_;rw [Hst2.out,h1]
      clear h1
      go_wp2_with fail
      go_roundw
      case rel=>exact ⟨j+1,false,none,0,0,[],by omega,by go_num,rfl,rfl,Nat.le_refl _,hbF,Mat.empty _ _,(show if false=true then _ else _ by rw [if_neg (by decide)];exact ⟨Hn.out,rfl,rfl,rfl⟩)⟩
      case measure=>simp [intOf] <;> omega
     ·have Hn : Hid (RF=kfol F s (z ++ ks.take (j+1)) (ks.drop (j+1)) rest):=by show _=_;rw [Hst2.out,h1]
      clear h1
      go_wp2_with fail
      go_roundw
      case rel=>exact ⟨j+1,true,a12,rest.length,c12,rest,by omega,by go_num,rfl,rfl,h12,hbF,hM12,(show if true=true then _ else _ by rw [if_pos rfl];exact Hn.out)⟩
      case measure=>simp [intOf] <;> omega)
   ·have hjl2 : j=kl:=by omega
    subst hjl2
    have Ho : Hid (RF=some rs):=by
     show _=_
     rw [Hst.out,List.drop_of_length_le (by rw [Hkl.out];exact Nat.le_refl _),kfol]
    have hbF:=Below.next HbU3.out hbr
    have Hrs:=Lib.hid hrs
    go_wp2_with fail
    go_ret2
    refine ⟨hbF,_,_,rfl,.inr ⟨rs,a9,c9,Ho.out,?_,rfl,?_,?_⟩⟩
    ·rw [Hrs.out.len];rfl
    ·rw [Hrs.out.len];exact Hrs.out
    ·rw [Hrs.out.len];exact h9
end

section
set_option maxHeartbeats 1600000

open Go.RowKit
theorem rList12_any (P M : Int) (am : Option Addr) (mn cm : Nat) (a : Option Addr) (n c : Nat) (l : List Int) (k : Nat) (w : World) (hi : Ints w a n l) :
  Calls Tryz.prog 36 #[.agg #[.int .i64 P,.int .i64 M,.slice am mn cm],.slice a n c,.int .i64 k] w λe w'=>e = .returned (.int .i64 (lstE (orderS P M) l k))/\Below w.heap.size w w':=by
 have hl:=hi.len
 go_enter Tryz.func36,Tryz.ntmps36
 go_upto_region 1 with fail
 obtain ⟨W,hW⟩ : ∃W : World,W=w.alloc (.cells #[.int .i64 P,.int .i64 M,.slice am mn cm] 24):=⟨_,rfl⟩
 rw [<- hW]
 have hbW : Below w.heap.size w W:=by rw [hW];exact below1 _ _
 have x0 : Box W w.heap.size [.int .i64 P,.int .i64 M,.slice am mn cm]:=by rw [hW];exact Box.new _ _ _ rfl
 have c0:=x0.cell 0 rfl
 have c1:=x0.cell 1 rfl
 have c2:=x0.cell 2 rfl
 clear hW x0
 by_cases h1 : n=k
 ·have HL : Hid (lstE (orderS P M) l k=elsE (orderS P M) l):=by show _=_;rw [lstE,if_pos (by omega)]
  have Hc:=Lib.hid (rEntries_any P M am mn cm a n c l W (hi.keep hbW))
  have h1' : ((n : Int) != k)=false:=by rw [show (n : Int)=k by omega];simp
  clear h1 hl
  generalize elsE (orderS P M) l=er at *
  go_wp2_with fail
  refine Hc.out.mono ?_
  rintro e w1 ⟨rfl,hb1⟩
  have hF:=Below.next hbW hb1
  go_wp2_with fail
  go_ret
  exact ⟨ret_int HL.out.symm,hF⟩
 ·have HL : Hid (lstE (orderS P M) l k=4):=by show _=_;rw [lstE,if_neg (by omega)]
  have h1' : ((n : Int) != k)=true:=by simp only [bne_iff_ne,ne_eq];omega
  clear h1 hl
  go_wp2_with fail
  go_ret
  exact ⟨ret_int HL.out.symm,hbW⟩
end

section
set_option maxRecDepth 100000
set_option maxHeartbeats 1600000

open Go.RowKit
theorem rWeight25_any (a : Option Addr) (n c : Nat) (l : List Int) (w : World) (h : Ints w a n l) :
  Calls Tryz.prog 20 #[.slice a n c] w λe w'=>e = .returned (.int .i64 (wtL l))/\w'=w:=by
 have Hl:=Lib.hid h.len
 have hpl:=h.pl
 have hmax:=h.max
 unfold maxLen at hmax
 have hle : ∀k,k<=n->(wtL (l.take k) : Int)<=k:=λk hk=>by
  have h1 : wtL (l.take k)<=(l.take k).length:=List.countP_le_length
  rw [List.length_take] at h1
  omega
 have Hle:=Lib.hid hle
 have HT : Hid (wtL (l.take n)=wtL l):=by show _=_;rw [List.take_of_length_le (by rw [Hl.out];exact Nat.le_refl _)]
 clear hle
 go_enter Tryz.func20,Tryz.ntmps20
 go_wp2_with fail
 go_loopw [3,4] (λcv iv wr=>∃k : Nat,k<=n/\iv = .int .i64 k/\cv = .int .i64 (wtL (l.take k))/\wr=w) (λ_ iv _=>n - (intOf iv).toNat)
 case atStart=>exact ⟨0,Nat.zero_le _,rfl,by simp [wtL],rfl⟩
 case round =>
  obtain ⟨k,hk,rfl,rfl,rfl⟩:=hrel
  by_cases hlt : k<n
  ·have ck:=h.cell k hlt
   have hkl : k<l.length:=by rw [Hl.out];exact hlt
   have hst : wtL (l.take (k+1))=wtL (l.take k)+(if nth l k ≠ 0 then 1 else 0):=by
    unfold wtL
    rw [List.take_succ_eq_append_getElem hkl,List.countP_append,List.countP_singleton,nth_getElem hkl]
    simp
   have hb:=Hle.out k hk
   obtain ⟨t,ht⟩ : ∃t,wtL (l.take k)=t:=⟨_,rfl⟩
   obtain ⟨y,hy⟩ : ∃y,nth l k=y:=⟨_,rfl⟩
   rw [ht] at hst hb ⊢
   rw [hy] at hst ck
   clear ht hy hkl
   by_cases h0 : y=0
   ·have hd : (y != 0)=false:=by simpa using h0
    have Hst : Hid (wtL (l.take (k+1))=t):=by show _=_;rw [hst,if_neg (by simpa using h0)];rfl
    clear h0 hst
    go_wp2_with fail
    go_roundw
    case rel=>exact ⟨k+1,by omega,by go_num,by rw [Hst.out],by simp⟩
    case measure=>simp [intOf] <;> omega
   ·have hd : (y != 0)=true:=by simpa using h0
    have Hst : Hid (wtL (l.take (k+1))=t+1):=by show _=_;rw [hst,if_pos h0]
    clear h0 hst
    go_wp2_with fail
    go_roundw
    case rel=>exact ⟨k+1,by omega,by go_num,by rw [Hst.out];go_num,by simp⟩
    case measure=>simp [intOf] <;> omega
  ·obtain rfl : k=n:=by omega
   rw [HT.out]
   go_wp2_with fail
   go_ret
   exact ⟨rfl,rfl⟩
end

section
open Go.RowKit
theorem rAddC_any {P M : Int} {am : Option Addr} {mn cm : Nat} {mod : List Int} {m : Nat} {L : List (List Int)} (hE : codeE P M mod m L=0) (av : Option Addr) (cv : Nat) (v : List Int) (s : Int) (au : Option Addr) (cu : Nat) (u : List Int) (w : World)
  (hmod : Ints w am mn mod) (hi : Ints w av m v) (hu : Ints w au m u) (hv : Vc (tblOf P M.toNat mod).El m v) (hs : (tblOf P M.toNat mod).El s) (hue : Vc (tblOf P M.toNat mod).El m u) :
  Calls Tryz.prog 115 #[.agg #[.int .i64 P,.int .i64 M,.slice am mn cm],.slice av m cv,.int .i64 s,.slice au m cu] w λe w'=>∃a1 c1,e = .returned (.slice a1 m c1)/\Ints w' a1 m (addRow (tblOf P M.toNat mod).ops v s u)/\Below w.heap.size w w':=by
 obtain ⟨k,hk,hel,hq,hF,hA,_⟩:=eq_ops (codeE_zero hE).1
 subst hk
 obtain ⟨k',e2,hrf,hmods⟩:=fieldRB_rf (P:=P) (M:=(k : Int)) (mod:=mod) (by rw [fieldRB_eq];exact (codeE_zero hE).1)
 obtain rfl : k=k':=by omega
 obtain ⟨_,_,hm64,_⟩:=codeE_zero hE
 rw [Int.toNat_natCast] at hv hs hue ⊢
 rw [<- hel] at hv hs hue
 have h:=rAddTo_any P k am mn cm mod av m cv v s au cu u w ⟨hrf,hmods w am mn hmod⟩ hs hi hu hv.2 hue.2 (by omega)
 rw [<- addRow_agr hA hF.cl v u s hv.2 hue.2 hs] at h
 refine h.mono ?_
 rintro e w' ⟨a1,c1,rfl,hown,hb⟩
 have hl : (addRow (tblOf P k mod).ops v s u).length=m:=by rw [addRow_length _ _ _ _ (by rw [hue.1,hv.1])];exact hv.1
 rw [hl] at hown ⊢
 exact ⟨a1,c1,rfl,(Ints.own hown).1,hb⟩
section
variable {P M : Int} {mod : List Int} {m : Nat} {L : List (List Int)}
end
end

section
set_option maxRecDepth 100000
set_option maxHeartbeats 1600000

open Go.RowKit
theorem rWord12_any (P M : Int) (am : Option Addr) (mn cm : Nat) (mod : List Int) (N : Int) (a : Option Addr) (n c : Nat) (L : List (List Int)) (ay : Option Addr) (ny cy : Nat) (y : List Int) (w : World) (hmod : Ints w am mn mod) (hi : Mat w a n L) (hy : Ints w ay ny y) :
  Calls Tryz.prog 128 #[.agg #[.int .i64 P,.int .i64 M,.slice am mn cm,.int .i64 N,.slice a n c],.slice ay ny cy] w λe w'=>e = .returned (.int .i64 (wrdE P M mod N L y))/\Below w.heap.size w w':=by
 go_enter Tryz.func128,Tryz.ntmps128
 go_wp2_with fail
 obtain ⟨U,hU⟩ : ∃U : World,U=w.alloc (.cells #[.int .i64 P,.int .i64 M,.slice am mn cm,.int .i64 N,.slice a n c] 27):=⟨_,rfl⟩
 rw [<- hU]
 have hbU : Below w.heap.size w U:=by rw [hU];exact below1 _ _
 have x0 : Box U w.heap.size [.int .i64 P,.int .i64 M,.slice am mn cm,.int .i64 N,.slice a n c]:=by rw [hU];exact Box.new _ _ _ rfl
 have HX:=Lib.hid x0
 clear hU x0
 refine (rCheck_any P M am mn cm mod N a n c L U (hmod.keep hbU) (hi.keep hbU)).mono ?_
 rintro e w1 ⟨rfl,hb1⟩
 have hbF:=Below.next hbU hb1
 have x1:=HX.out.keep hb1
 have c0:=x1.cell 0 rfl
 have c1:=x1.cell 1 rfl
 have c2:=x1.cell 2 rfl
 have c3:=x1.cell 3 rfl
 have c4:=x1.cell 4 rfl
 clear x1
 by_cases hE : codeE P M mod N L=0
 ·have HE : Hid (wrdE P M mod N L y=lstE (orderS P M) y N.toNat):=if_pos hE
  obtain ⟨m,rfl,_⟩:=codeE_rws hE
  have Hli:=Lib.hid (rList12_any P M am mn cm ay ny cy y m w1 (hy.keep hbF))
  rw [hE]
  clear hE
  go_wp2_with fail
  refine Hli.out.mono ?_
  rintro e w2 ⟨rfl,hb2⟩
  have hbG:=Below.next hbF hb2
  go_wp2_with fail
  go_ret
  exact ⟨by rw [HE.out,Int.toNat_natCast];rfl,hbG⟩
 ·have HE : Hid (wrdE P M mod N L y=codeE P M mod N L):=if_neg hE
  have hE1 : (codeE P M mod N L == 0)=false:=by simpa using hE
  clear hE
  generalize codeE P M mod N L=er at *
  go_wp2_with fail
  go_ret
  exact ⟨by rw [HE.out];rfl,hbF⟩
end

section
open Go.RowKit
theorem zerB_iff {l : List Int} : zerB l=true ↔ ∀y ∈ l,y=0:=by
 unfold zerB
 rw [List.all_eq_true]
 constructor
 ·intro h y hy;simpa using h y hy
 ·intro h y hy;simpa using h y hy
end

section
section
variable {O : FOps} {El : Int->Prop} {m : Nat} {R : List (List Int)} {Q : List Int}
theorem zerB_nth {l : List Int} : zerB l=true ↔ ∀k,k<l.length->nth l k=0:=by
 rw [zerB_iff]
 constructor
 ·intro h k hk;exact h _ (nth_mem hk)
 ·intro h y hy
  obtain ⟨k,hk,rfl⟩:=List.mem_iff_getElem.1 hy
  have h1:=h k hk
  rwa [nth_getElem hk] at h1
theorem red_back (F : Fld O El) (hR : Rws El m R) (hOk : BS.Ok El m ⟨R,Q⟩) {v : List Int} (hv : Vc El m v) : ∀k,k<=R.length->RS O El m R (λx=>nth (redTo O R Q v k) x)->RS O El m R (λx=>nth v x)
 | 0,_,h=>h
 | k+1,hk,h=>by
  have hu : Vc El m (redTo O R Q v k):=Vc.redTo F hOk hv k (show k<=R.length by omega)
  have hp : (nth Q k).toNat<m:=hOk.pl (show k<R.length by omega)
  have hr : Vc El m (nthR R k):=hOk.row (show k<R.length by omega)
  refine red_back F hR hOk hv k (by omega) ((RS.add F hR h (.row F (i:=k) (by omega)) (hu.at hp)).congr λx hx=>?_)
  have h1:=hu.at hx
  have h2:=F.cl.mul _ _ (hu.at hp) (hr.at hx)
  rw [redTo,nth_redStep F hu hr hp hx,F.mul_comm _ _ (hr.at hx) (hu.at hp),F.add_assoc _ _ _ h1 (F.cl.neg _ h2) h2,F.negadd h2,F.add_zero _ h1]
def restTo (O : FOps) (R : List (List Int)) (v : List Int) : Nat->List Int
 | 0=>v
 | k+1=>addRow O (restTo O R v k) (O.neg (nth v (fnz (nthR R k)))) (nthR R k)
theorem lead_fnz (F : Fld O El) (hR : Rws El m R) (hP : Piv R Q m) (hl : Lead R Q) {k : Nat} (hk : k<Q.length) (h1 : (1 : Int) ≠ 0) : fnz (nthR R k)=(nth Q k).toNat:=by
 have hkR : k<R.length:=Nat.lt_of_lt_of_le hk hP.le
 have hb:=hP.lt k hk
 have hr:=hR.row hkR
 refine fnz_at _ _ (by rw [hr.1];omega) (λj hj=>hl.lead k j hk hj) ?_
 rw [hP.one k k hk hkR,if_pos rfl];exact h1
theorem rest_vc (F : Fld O El) (hR : Rws El m R) {v : List Int} (hv : Vc El m v) (hf : ∀k,k<R.length->fnz (nthR R k)<m) : ∀k,k<=R.length->Vc El m (restTo O R v k)
 | 0,_=>hv
 | k+1,hk=>by
  have ih:=rest_vc F hR hv hf k (by omega)
  have hr : Vc El m (nthR R k):=hR.row (i:=k) (by omega)
  have hl : (nthR R k).length=(restTo O R v k).length:=by rw [hr.1,ih.1]
  rw [restTo]
  exact ⟨by rw [addRow_length _ _ _ _ hl];exact ih.1,addRow_el F.cl ih.2 hr.2 (F.cl.neg _ (hv.at (hf k (by omega))))⟩
theorem nth_restTo (F : Fld O El) (hR : Rws El m R) {v : List Int} (hv : Vc El m v) (hf : ∀k,k<R.length->fnz (nthR R k)<m) {k : Nat} (hk : k<R.length) {x : Nat} (hx : x<m) :
  nth (restTo O R v (k+1)) x=O.add (nth (restTo O R v k) x) (O.mul (O.neg (nth v (fnz (nthR R k)))) (nth (nthR R k) x)):=by
 have ih:=rest_vc F hR hv hf k (by omega)
 have hr:=hR.row hk
 have hn:=F.cl.neg _ (hv.at (hf k hk))
 rw [restTo,nth_addRow _ _ _ _ _ (by rw [hr.1,ih.1]) (by rw [ih.1];exact hx)]
 split
 ·rename_i h0
  rw [h0,F.mzero hn,F.add_zero _ (ih.at hx)]
 ·rfl
theorem rest_fwd (F : Fld O El) (hR : Rws El m R) {v : List Int} (hv : Vc El m v) (hf : ∀k,k<R.length->fnz (nthR R k)<m) (h : RS O El m R (λx=>nth v x)) : ∀k,k<=R.length->RS O El m R (λx=>nth (restTo O R v k) x)
 | 0,_=>h
 | k+1,hk=>by
  have hn:=F.cl.neg _ (hv.at (hf k (by omega)))
  refine (RS.add F hR (rest_fwd F hR hv hf h k (by omega)) (.row F (i:=k) (by omega)) hn).congr λx hx=>?_
  rw [nth_restTo F hR hv hf (by omega) hx,F.mul_comm _ _ hn (Vc.at (hR.row (i:=k) (by omega)) hx)]
theorem rest_back (F : Fld O El) (hR : Rws El m R) {v : List Int} (hv : Vc El m v) (hf : ∀k,k<R.length->fnz (nthR R k)<m) : ∀k,k<=R.length->RS O El m R (λx=>nth (restTo O R v k) x)->RS O El m R (λx=>nth v x)
 | 0,_,h=>h
 | k+1,hk,h=>by
  have hvf:=hv.at (hf k (by omega))
  have hn:=F.cl.neg _ hvf
  have hr : Vc El m (nthR R k):=hR.row (i:=k) (by omega)
  have hu:=rest_vc F hR hv hf k (by omega)
  refine rest_back F hR hv hf k (by omega) ((RS.add F hR h (.row F (i:=k) (by omega)) hvf).congr λx hx=>?_)
  have h1:=hu.at hx
  have h2:=F.cl.mul _ _ hn (hr.at hx)
  have h3:=F.cl.mul _ _ (hr.at hx) hvf
  rw [nth_restTo F hR hv hf (by omega) hx,F.add_assoc _ _ _ h1 h2 h3,F.mul_comm _ _ hn (hr.at hx),F.mul_neg (hr.at hx) hvf,F.negadd h3,F.add_zero _ h1]
theorem rest_place (F : Fld O El) (hR : Rws El m R) (hP : Piv R Q m) (hlen : R.length=Q.length) (hfq : ∀k,k<R.length->fnz (nthR R k)=(nth Q k).toNat) {v : List Int} (hv : Vc El m v) {j : Nat} (hj : j<R.length) : ∀k,k<=R.length ->
  nth (restTo O R v k) (nth Q j).toNat=if j<k then 0 else nth v (nth Q j).toNat
 | 0,_=>by rw [if_neg (by omega)];rfl
 | k+1,hk=>by
  have hf : ∀k,k<R.length->fnz (nthR R k)<m:=λk hk=>by rw [hfq k hk];have:=hP.lt k (by omega);omega
  have hb:=hP.lt j (by omega)
  have hjm : (nth Q j).toNat<m:=by omega
  have hvj:=hv.at hjm
  have hvk:=hv.at (hf k (by omega))
  have ih:=rest_place F hR hP hlen hfq hv hj k (by omega)
  rw [nth_restTo F hR hv hf (by omega) hjm,ih,hP.one j k (by omega) (by omega)]
  by_cases e : k=j
  ·subst e
   rw [if_neg (by omega),if_pos rfl,if_pos (by omega),F.mone (F.cl.neg _ hvk),hfq k (by omega),F.add_neg _ hvj]
  ·rw [if_neg e,F.mzero (F.cl.neg _ hvk)]
   by_cases h1 : j<k
   ·rw [if_pos h1,if_pos (by omega),F.add_zero _ F.zero]
   ·rw [if_neg h1,if_neg (by omega),F.add_zero _ hvj]
end
section
variable {P M : Int} {mod : List Int} {m : Nat} {L : List (List Int)}
theorem code_piv2 (hE : codeE P M mod m L=0) : Piv L (pivS (tblOf P M.toNat mod) L m) m/\Lead L (pivS (tblOf P M.toNat mod) L m)/\L.length=(pivS (tblOf P M.toNat mod) L m).length:=by
 obtain ⟨N',e,hm1,hm64,F,hR⟩:=codeE_fld hE
 obtain rfl : m=N':=by omega
 have h6:=(spaceE_zero (codeE_zero hE).2.2.2).2
 rw [Int.toNat_natCast] at h6
 have hcan : canO (tblOf P M.toNat mod).ops m L=L:=h6
 obtain ⟨hPv,hLd⟩:=canO_piv F hR
 have hcl:=canO_len F hR
 rw [hcan] at hPv hcl hLd
 exact ⟨hPv,hLd,hcl⟩
theorem hasB_iff (hE : codeE P M mod m L=0) {x : List Int} (hx : Vc (tblOf P M.toNat mod).El m x) : hasB P M mod m L x=true ↔ RS (tblOf P M.toNat mod).ops (tblOf P M.toNat mod).El m L (λi=>nth x i):=by
 obtain ⟨N',e,hm1,hm64,F,hR⟩:=codeE_fld hE
 obtain rfl : m=N':=by omega
 obtain ⟨hP,hl,hlen⟩:=code_piv2 hE
 have hI:=piv_inv hR hP hlen
 have hvc : Vc (tblOf P M.toNat mod).El m (redTo (tblOf P M.toNat mod).ops L (pivS (tblOf P M.toNat mod) L m) x L.length):=Vc.redTo F hI.ok hx L.length (Nat.le_refl _)
 unfold hasB
 rw [zerB_nth,hvc.1]
 constructor
 ·intro h
  exact red_back F hR hI.ok hx L.length (Nat.le_refl _) (RS.nul F h)
 ·intro h
  exact red_zero F hR hP hlen hx h
theorem rest_iff (hE : codeE P M mod m L=0) {x : List Int} (hx : Vc (tblOf P M.toNat mod).El m x) : (∀k,k<L.length->fnz (nthR L k)<m) /\
  (zerB (restTo (tblOf P M.toNat mod).ops L x L.length)=true ↔ RS (tblOf P M.toNat mod).ops (tblOf P M.toNat mod).El m L (λi=>nth x i)):=by
 obtain ⟨N',e,hm1,hm64,F,hR⟩:=codeE_fld hE
 obtain rfl : m=N':=by omega
 obtain ⟨hP,hl,hlen⟩:=code_piv2 hE
 have hfq : ∀k,k<L.length->fnz (nthR L k)=(nth (pivS (tblOf P M.toNat mod) L m) k).toNat:=λk hk=>lead_fnz F hR hP hl (by omega) (by decide)
 have hf : ∀k,k<L.length->fnz (nthR L k)<m:=λk hk=>by rw [hfq k hk];have:=hP.lt k (by omega);omega
 refine ⟨hf,?_⟩
 rw [zerB_nth,(rest_vc F hR hx hf L.length (Nat.le_refl _)).1]
 constructor
 ·intro h
  exact rest_back F hR hx hf L.length (Nat.le_refl _) (RS.nul F h)
 ·intro h
  exact piv_zero F hR hP (rest_fwd F hR hx hf h L.length (Nat.le_refl _)) λj hj=>by
   rw [rest_place F hR hP hlen hfq hx (by omega) L.length (Nat.le_refl _),if_pos (by omega)]
theorem has_rest (hE : codeE P M mod m L=0) {x : List Int} (hx : Vc (tblOf P M.toNat mod).El m x) : zerB (restTo (tblOf P M.toNat mod).ops L x L.length)=hasB P M mod m L x:=by
 have h1:=hasB_iff hE hx
 have h2:=(rest_iff hE hx).2
 cases h3 : zerB (restTo (tblOf P M.toNat mod).ops L x L.length) <;> cases h4 : hasB P M mod m L x <;> simp_all
end
end

section
set_option maxRecDepth 100000
set_option maxHeartbeats 1600000

open Go.RowKit
def provF : Option (List (List Int))->Int
 | some []=>0
 | _=>13
theorem provS_F (O : FOps) (L : List (List Int)) (m : Nat) (C : Clm) (T : List (List Int)) : provS O L m C T=provF (folS O L m C C.W [] [] T):=by
 unfold provS provF
 cases folS O L m C C.W [] [] T with
 | none=>rfl
 | some r=>cases r <;> rfl
theorem rProves26_any (P M : Int) (am : Option Addr) (mn cm : Nat) (mod : List Int) (m : Nat) (a : Option Addr) (n c : Nat) (L : List (List Int)) (ay : Option Addr) (ny cy : Nat) (C : Clm) (ax : Option Addr) (nx cx : Nat) (ts : List (List Int)) (w : World)
  (hmod : Ints w am mn mod) (hi : Mat w a n L) (hE : codeE P M mod m L=0) (cb : Bool) (hc : C.cos=cb) (hRight : Hid (RightK P M am mn cm mod m a n c L ay ny cy C w)) (hw6 : C.W<=64) (hm6 : m<=64) (hts : Mat w ax nx ts) (hnc : nx<=cx) :
  Calls Tryz.prog 190 #[rclV P M am mn cm m a n c ay ny cy C,.agg #[.slice ax nx cx]] w λe w'=>e = .returned (.int .i64 (provS (tblOf P M.toNat mod).ops L m C ts))/\Below w.heap.size w w':=by
 obtain ⟨PR,hPR⟩ : ∃PR,provS (tblOf P M.toNat mod).ops L m C ts=PR:=⟨_,rfl⟩
 rw [hPR]
 have HFo0 : ∀V,Below w.heap.size w V->Calls Tryz.prog 241 #[rclV P M am mn cm m a n c ay ny cy C,.slice none 0 0,.slice none 0 0,.slice ax nx cx] V (FolPost (folS (tblOf P M.toNat mod).ops L m C C.W [] [] ts) V):=λV hV =>
  rFollow26_any P M am mn cm mod m a n c L ay ny cy C w hmod hi hE cb hc hRight hw6 hm6 C.W V none 0 0 [] none 0 0 [] ax nx cx ts (by omega) (by omega) hnc hV (Ints.nil _ _) (Ints.nil _ _) (hts.keep hV) (by simp) (λx hx=>by simp at hx)
 obtain ⟨RF,hRF⟩ : ∃RF,folS (tblOf P M.toNat mod).ops L m C C.W [] [] ts=RF:=⟨_,rfl⟩
 rw [hRF] at HFo0
 have hP2 : PR=provF RF:=by rw [<- hPR,<- hRF];exact provS_F _ _ _ _ _
 unfold rclV at HFo0 ⊢
 rw [hc]
 simp only [hc] at HFo0
 have HFo:=Lib.hid HFo0
 have HP2:=Lib.hid hP2
 clear hPR hRF HFo0 hP2 hmod hi hE hc hRight hw6 hm6 hts
 go_enter Tryz.func190,Tryz.ntmps190
 go_wp2_with fail
 refine (HFo.out _ (below2 w _ _)).mono ?_
 rintro e w2 ⟨hb2,rv,ov,rfl,hFV⟩
 have hbF:=Below.next (below2 w _ _) hb2
 rcases hFV with ⟨h1,rfl,rfl⟩ | ⟨rest,a12,c12,h1,rfl,rfl,hM12,h12⟩
 ·have HP : Hid (PR=13):=by show _=_;rw [HP2.out,h1];rfl
  clear h1
  go_wp2_with fail
  go_ret
  exact ⟨by rw [HP.out];rfl,hbF⟩
 ·cases rest with
  | nil =>
   have HP : Hid (PR=0):=by show _=_;rw [HP2.out,h1];rfl
   clear h1 hM12 h12
   rw [List.length_nil]
   go_wp2_with fail
   go_ret
   exact ⟨by rw [HP.out];rfl,hbF⟩
  | cons x rest =>
   have HP : Hid (PR=13):=by show _=_;rw [HP2.out,h1];rfl
   obtain ⟨k,hk⟩ : ∃k,(x :: rest).length=k:=⟨_,rfl⟩
   have hk0 : 0<k:=by rw [<- hk];simp
   rw [hk]
   clear h1 hM12 h12 hk
   have hd : decide ((0 : Int)<(k : Int))=true:=by simp;omega
   go_wp2_with fail
   go_ret
   exact ⟨by rw [HP.out];rfl,hbF⟩
theorem rRank26_any (P M : Int) (am : Option Addr) (mn cm : Nat) (mod : List Int) (N : Int) (a : Option Addr) (n c : Nat) (L : List (List Int)) (mm W : Int) (w : World) (hmod : Ints w am mn mod) (hi : Mat w a n L) :
  Calls Tryz.prog 186 #[.agg #[.int .i64 P,.int .i64 M,.slice am mn cm,.int .i64 N,.slice a n c],.int .i64 mm,.int .i64 W] w λe w'=>e = .returned (.int .i64 (rkcE P M mod N L mm W))/\Below w.heap.size w w':=by
 have Hil:=Lib.hid hi.len
 go_enter Tryz.func186,Tryz.ntmps186
 go_wp2_with fail
 obtain ⟨U,hU⟩ : ∃U : World,U=w.alloc (.cells #[.int .i64 P,.int .i64 M,.slice am mn cm,.int .i64 N,.slice a n c] 27):=⟨_,rfl⟩
 rw [<- hU]
 have hbU : Below w.heap.size w U:=by rw [hU];exact below1 _ _
 have x0 : Box U w.heap.size [.int .i64 P,.int .i64 M,.slice am mn cm,.int .i64 N,.slice a n c]:=by rw [hU];exact Box.new _ _ _ rfl
 have HX:=Lib.hid x0
 clear hU x0
 refine (rCheck_any P M am mn cm mod N a n c L U (hmod.keep hbU) (hi.keep hbU)).mono ?_
 rintro e w1 ⟨rfl,hb1⟩
 have hbF:=Below.next hbU hb1
 have x1:=HX.out.keep hb1
 have c3:=x1.cell 3 rfl
 have c4:=x1.cell 4 rfl
 clear x1
 by_cases hE : codeE P M mod N L=0
 ·have HE : Hid (rkcE P M mod N L mm W=if mm<0\/(n : Int)<mm\/W<0\/N<W then 6 else 0):=by show _=_;rw [rkcE,if_pos hE,Hil.out]
  rw [hE]
  clear hE
  by_cases h1 : mm<0
  ·have HE2 : Hid (rkcE P M mod N L mm W=6):=by show _=_;rw [HE.out,if_pos (.inl h1)]
   have d1 : decide (mm<0)=true:=by simpa using h1
   clear h1
   go_wp2_with fail
   go_ret
   exact ⟨by rw [HE2.out];rfl,hbF⟩
  have d1 : decide (mm<0)=false:=by simpa using h1
  by_cases h2 : (n : Int)<mm
  ·have HE2 : Hid (rkcE P M mod N L mm W=6):=by show _=_;rw [HE.out,if_pos (.inr (.inl h2))]
   have d2 : decide ((n : Int)<mm)=true:=by simpa using h2
   clear h1 h2
   go_wp2_with fail
   go_ret
   exact ⟨by rw [HE2.out];rfl,hbF⟩
  have d2 : decide ((n : Int)<mm)=false:=by simpa using h2
  by_cases h3 : W<0
  ·have HE2 : Hid (rkcE P M mod N L mm W=6):=by show _=_;rw [HE.out,if_pos (.inr (.inr (.inl h3)))]
   have d3 : decide (W<0)=true:=by simpa using h3
   clear h1 h2 h3
   go_wp2_with fail
   go_ret
   exact ⟨by rw [HE2.out];rfl,hbF⟩
  have d3 : decide (W<0)=false:=by simpa using h3
  by_cases h4 : N<W
  ·have HE2 : Hid (rkcE P M mod N L mm W=6):=by show _=_;rw [HE.out,if_pos (.inr (.inr (.inr h4)))]
   have d4 : decide (N<W)=true:=by simpa using h4
   clear h1 h2 h3 h4
   go_wp2_with fail
   go_ret
   exact ⟨by rw [HE2.out];rfl,hbF⟩
  have d4 : decide (N<W)=false:=by simpa using h4
  have HE2 : Hid (rkcE P M mod N L mm W=0):=by
   show _=_
   rw [HE.out,if_neg]
   rintro (h | h | h | h)
   ·exact h1 h
   ·exact h2 h
   ·exact h3 h
   ·exact h4 h
  clear h1 h2 h3 h4
  go_wp2_with fail
  go_ret
  exact ⟨by rw [HE2.out];rfl,hbF⟩
 ·have HE : Hid (rkcE P M mod N L mm W=codeE P M mod N L):=if_neg hE
  have hE1 : (codeE P M mod N L == 0)=false:=by simpa using hE
  clear hE
  generalize codeE P M mod N L=er at *
  go_wp2_with fail
  go_ret
  exact ⟨by rw [HE.out];rfl,hbF⟩
theorem rkc_env {P M : Int} {mod : List Int} {N : Int} {L : List (List Int)} {mm W : Int} (h : rkcE P M mod N L mm W=0) : codeE P M mod N L=0/\1<=N/\N<=64/\0<=mm/\mm<=L.length/\0<=W/\W<=N:=by
 have hE:=rkc_code h
 obtain ⟨_,h1,h2,_⟩:=codeE_zero hE
 unfold rkcE at h
 rw [if_pos hE] at h
 by_cases hx : mm<0\/(L.length : Int)<mm\/W<0\/N<W
 ·rw [if_pos hx] at h;cases h
 ·refine ⟨hE,h1,h2,?_,?_,?_,?_⟩ <;> (refine Classical.byContradiction λhh=>hx ?_)
  ·exact .inl (by omega)
  ·exact .inr (.inl (by omega))
  ·exact .inr (.inr (.inl (by omega)))
  ·exact .inr (.inr (.inr (by omega)))
theorem rCheckRank26_any (P M : Int) (am : Option Addr) (mn cm : Nat) (mod : List Int) (N : Int) (a : Option Addr) (n c : Nat) (L : List (List Int)) (mm W : Int) (ax : Option Addr) (nx cx : Nat) (ts : List (List Int)) (w : World)
  (hmod : Ints w am mn mod) (hi : Mat w a n L) (hts : Mat w ax nx ts) (hnc : nx<=cx) :
  Calls Tryz.prog 130 #[.agg #[.int .i64 P,.int .i64 M,.slice am mn cm,.int .i64 N,.slice a n c],.int .i64 mm,.int .i64 W,.agg #[.slice ax nx cx]] w λe w'=>e = .returned (.int .i64 (chkRE P M mod N L mm W ts))/\Below w.heap.size w w':=by
 have HPr : Hid (rkcE P M mod N L mm W=0->∀V,Below w.heap.size w V->Calls Tryz.prog 190 #[.agg #[.int .i64 P,.int .i64 M,.slice am mn cm,.int .i64 N,.slice a n c,.int .i64 mm,.int .i64 W,.slice none 0 0,.bool false],.agg #[.slice ax nx cx]] V
   λe w'=>e = .returned (.int .i64 (chkRE P M mod N L mm W ts))/\Below V.heap.size V w'):=λh V hV=>by
  obtain ⟨hE,h1,h2,h3,h4,h5,h6⟩:=rkc_env h
  have h7:=rProves26_any P M am mn cm mod N.toNat a n c L none 0 0 ⟨mm.toNat,W.toNat,false,[]⟩ ax nx cx ts V (hmod.keep hV) (hi.keep hV) (by rw [Int.toNat_of_nonneg (by omega)];exact hE) false rfl (Lib.hid (rightK_rank (hmod.keep hV) (hi.keep hV) (by rw [Int.toNat_of_nonneg (by omega)];exact hE) rfl)) (by show W.toNat<=64;omega) (by omega) (hts.keep hV) hnc
  unfold rclV at h7
  dsimp only at h7
  rw [Int.toNat_of_nonneg (show 0<=N by omega),Int.toNat_of_nonneg h3,Int.toNat_of_nonneg h5] at h7
  rw [chkRE,if_pos h]
  exact h7
 have HRk : Hid (∀V,Below w.heap.size w V->Calls Tryz.prog 186 #[.agg #[.int .i64 P,.int .i64 M,.slice am mn cm,.int .i64 N,.slice a n c],.int .i64 mm,.int .i64 W] V λe w'=>e = .returned (.int .i64 (rkcE P M mod N L mm W))/\Below V.heap.size V w'):=λV hV =>
  rRank26_any P M am mn cm mod N a n c L mm W V (hmod.keep hV) (hi.keep hV)
 obtain ⟨V0,hV0⟩ : ∃V0,chkRE P M mod N L mm W ts=V0:=⟨_,rfl⟩
 have hV1 : rkcE P M mod N L mm W ≠ 0->V0=rkcE P M mod N L mm W:=λh=>by rw [<- hV0,chkRE,if_neg h]
 rw [hV0] at HPr ⊢
 have HV1:=Lib.hid hV1
 clear hmod hi hts hV0 hV1
 go_enter Tryz.func130,Tryz.ntmps130
 go_wp2_with fail
 obtain ⟨U,hU⟩ : ∃U : World,U=(w.alloc (.cells #[.int .i64 P,.int .i64 M,.slice am mn cm,.int .i64 N,.slice a n c] 27)).alloc (.cells #[.slice ax nx cx] 47):=⟨_,rfl⟩
 rw [<- hU]
 have hbU : Below w.heap.size w U:=by rw [hU];exact below2 _ _ _
 have x0 : Box U w.heap.size [.int .i64 P,.int .i64 M,.slice am mn cm,.int .i64 N,.slice a n c]:=by rw [hU];exact (Box.new _ _ _ rfl).alloc _
 have y0 : Box U (w.heap.size+1) [.slice ax nx cx]:=by rw [hU];exact Box.new _ _ _ (by simp)
 clear hU
 refine (HRk.out U hbU).mono ?_
 rintro e w1 ⟨rfl,hb1⟩
 have hbw1:=Below.next hbU hb1
 have x1:=x0.keep hb1
 have y1:=y0.keep hb1
 have c0:=x1.cell 0 rfl
 have c1:=x1.cell 1 rfl
 have c2:=x1.cell 2 rfl
 have c3:=x1.cell 3 rfl
 have c4:=x1.cell 4 rfl
 have d0:=y1.cell 0 rfl
 by_cases hE : rkcE P M mod N L mm W=0
 ·have HP2:=Lib.hid (HPr.out hE)
  rw [hE]
  clear hE x0 y0 x1 y1
  go_wp2_with fail
  refine (HP2.out _ hbw1).mono ?_
  rintro e w3 ⟨rfl,hb3⟩
  have hbF:=Below.next hbw1 hb3
  go_wp2_with fail
  go_ret
  exact ⟨rfl,hbF⟩
 ·have HV2:=Lib.hid (HV1.out hE)
  have hE2 : (rkcE P M mod N L mm W != 0)=true:=by simpa using hE
  clear hE x0 y0 x1 y1
  generalize rkcE P M mod N L mm W=er at *
  go_wp2_with fail
  go_ret
  exact ⟨by rw [HV2.out];rfl,hbw1⟩
end

section
set_option maxRecDepth 100000
set_option maxHeartbeats 1600000

open Go.RowKit
theorem rCheckDistance26_any (P M : Int) (am : Option Addr) (mn cm : Nat) (mod : List Int) (N : Int) (a : Option Addr) (n c : Nat) (L : List (List Int)) (d : Int) (ax : Option Addr) (nx cx : Nat) (ts : List (List Int)) (w : World)
  (hmod : Ints w am mn mod) (hi : Mat w a n L) (hts : Mat w ax nx ts) (hnc : nx<=cx) :
  Calls Tryz.prog 66 #[.agg #[.int .i64 P,.int .i64 M,.slice am mn cm,.int .i64 N,.slice a n c],.int .i64 d,.agg #[.slice ax nx cx]] w λe w'=>e = .returned (.int .i64 (chkRE P M mod N L n (wtD N d) ts))/\Below w.heap.size w w':=by
 have Hil:=Lib.hid hi.len
 obtain ⟨V0,hV0⟩ : ∃V0,chkRE P M mod N L n (wtD N d) ts=V0:=⟨_,rfl⟩
 have HCk : Hid (wtD N d=d - 1->∀V,Below w.heap.size w V->Calls Tryz.prog 130 #[.agg #[.int .i64 P,.int .i64 M,.slice am mn cm,.int .i64 N,.slice a n c],.int .i64 n,.int .i64 (d - 1),.agg #[.slice ax nx cx]] V λe w'=>e = .returned (.int .i64 V0)/\Below V.heap.size V w'):=λh V hV=>by
  rw [<- hV0,h]
  exact rCheckRank26_any P M am mn cm mod N a n c L n (d - 1) ax nx cx ts V (hmod.keep hV) (hi.keep hV) (hts.keep hV) hnc
 have HV0:=Lib.hid hV0
 rw [hV0]
 clear hts hV0
 go_enter Tryz.func66,Tryz.ntmps66
 go_wp2_with fail
 obtain ⟨U,hU⟩ : ∃U : World,U=(w.alloc (.cells #[.int .i64 P,.int .i64 M,.slice am mn cm,.int .i64 N,.slice a n c] 27)).alloc (.cells #[.slice ax nx cx] 47):=⟨_,rfl⟩
 rw [<- hU]
 have hbU : Below w.heap.size w U:=by rw [hU];exact below2 _ _ _
 have x0 : Box U w.heap.size [.int .i64 P,.int .i64 M,.slice am mn cm,.int .i64 N,.slice a n c]:=by rw [hU];exact (Box.new _ _ _ rfl).alloc _
 have y0 : Box U (w.heap.size+1) [.slice ax nx cx]:=by rw [hU];exact Box.new _ _ _ (by simp)
 have HX:=Lib.hid (And.intro x0 y0)
 clear hU x0 y0
 refine (rCheck_any P M am mn cm mod N a n c L U (hmod.keep hbU) (hi.keep hbU)).mono ?_
 rintro e w1 ⟨rfl,hb1⟩
 have hbF:=Below.next hbU hb1
 have x1:=HX.out.1.keep hb1
 have c0:=x1.cell 0 rfl
 have c1:=x1.cell 1 rfl
 have c2:=x1.cell 2 rfl
 have c3:=x1.cell 3 rfl
 have c4:=x1.cell 4 rfl
 have d0:=(HX.out.2.keep hb1).cell 0 rfl
 clear x1
 by_cases hE : codeE P M mod N L=0
 ·obtain ⟨_,hN1,hN2,_⟩:=codeE_zero hE
  rw [hE]
  have hw : wrap64 (N+1)=N+1:=wrap64_id (by omega)
  have HE:=Lib.hid hE
  by_cases h1 : d<1
  ·have HF : Hid (V0=6):=by
    show _=_
    have hwd : wtD N d = -1:=by rw [wtD,if_pos (.inl h1)]
    have h0 : rkcE P M mod N L n (wtD N d)=6:=by rw [rkcE,if_pos HE.out,hwd,if_pos (.inr (.inr (.inl (by decide))))]
    rw [<- HV0.out,chkRE,if_neg (by rw [h0];decide),h0]
   have d1 : decide (d<1)=true:=by simpa using h1
   clear h1 hE hw
   go_wp2_with fail
   go_ret
   exact ⟨by rw [HF.out];rfl,hbF⟩
  have d1 : decide (d<1)=false:=by simpa using h1
  by_cases h2 : N+1<d
  ·have HF : Hid (V0=6):=by
    show _=_
    have hwd : wtD N d = -1:=by rw [wtD,if_pos (.inr h2)]
    have h0 : rkcE P M mod N L n (wtD N d)=6:=by rw [rkcE,if_pos HE.out,hwd,if_pos (.inr (.inr (.inl (by decide))))]
    rw [<- HV0.out,chkRE,if_neg (by rw [h0];decide),h0]
   have d2 : decide (N+1<d)=true:=by simpa using h2
   clear h1 h2 hE
   go_wp2_with fail
   go_ret
   exact ⟨by rw [HF.out];rfl,hbF⟩
  have d2 : decide (N+1<d)=false:=by simpa using h2
  have hw2 : wrap64 (d - 1)=d - 1:=wrap64_id (by omega)
  have HC2:=Lib.hid (HCk.out (by rw [wtD,if_neg (by omega)]) w1 hbF)
  clear h1 h2 hE HCk
  go_wp2_with fail
  refine HC2.out.mono ?_
  rintro e w3 ⟨rfl,hb3⟩
  have hbG:=Below.next hbF hb3
  go_wp2_with fail
  go_ret
  exact ⟨rfl,hbG⟩
 ·have HF : Hid (V0=codeE P M mod N L):=by
   show _=_
   have h0 : rkcE P M mod N L n (wtD N d)=codeE P M mod N L:=if_neg hE
   rw [<- HV0.out,chkRE,if_neg (by rw [h0];exact hE),h0]
  have hE2 : (codeE P M mod N L != 0)=true:=by simpa using hE
  clear hE HV0 HCk
  generalize codeE P M mod N L=er at *
  go_wp2_with fail
  go_ret
  exact ⟨by rw [HF.out];rfl,hbF⟩
end

section
open Go.RowKit
theorem rFew26_any (ax : Option Addr) (nx cx : Nat) (ts : List (List Int)) (w : World) (h : Mat w ax nx ts) : Calls Tryz.prog 29 #[.agg #[.slice ax nx cx]] w (SomeBool w):=by
 have HF:=Lib.hid (λV (hV : Below w.heap.size w V)=>rFew9_any ax nx cx 20000 ts V (h.keep hV) (by omega))
 clear h
 go_enter Tryz.func29,Tryz.ntmps29
 go_wp2_with fail
 refine (HF.out _ (below1 _ _)).mono ?_
 rintro e w1 ⟨z,rfl,hb1⟩
 have hF:=Below.next (below1 w (.cells #[.slice ax nx cx] 47)) hb1
 go_wp2_with fail
 go_ret
 exact ⟨z,rfl,hF⟩
end

end Go.Proofs.YtcfmiocdlcapoaaGreat
