/-  -/
import Derived.Test.YtcflcogbpnmjeaaGreatK21
import Derived.Test.YtcflcogbpnmjeaaGreatHCK8
import Derived.Test.YtcflcogbpnmjeaaGreatK25
import Derived.Test.YtcflcogbpnmjeaaGreatHCK1
import Derived.Test.YtcflcogbpnmjeaaGreatK17
import Derived.Test.YtcflcogbpnmjeaaGreatK6
import Derived.Test.YtcflcogbpnmjeaaGreatK27
namespace Go.Proofs.YtcflcogbpnmjeaaGreat
set_option linter.unusedVariables false
set_option linter.unusedSimpArgs false
set_option linter.unusedSectionVars false

section
open Go.RowKit
theorem ints_lit1 (w : World) (x : Int) (e : TypeId) {g : Nat} (hg : g=w.heap.size) : Ints (w.alloc (.cells #[.int .i64 x] e)) (some ⟨g,0,none⟩) 1 [x] :=
 ⟨rfl,fun _=>rfl,by unfold maxLen;omega,fun i hi=>by
  obtain rfl : i=0:=by omega
  exact cell_alloc_at _ _ _ hg 0⟩
def FolV (R : Option (List (List Int))) (rv ov : Value) (w' : World) : Prop :=
 (R=none∧rv = .slice none 0 0∧ov = .bool false)∨(∃ rest a' c',R=some rest∧rv = .slice a' rest.length c'∧ov = .bool true∧Mat w' a' rest.length rest∧rest.length≤c')
def FolPost (R : Option (List (List Int))) (w : World) (e : Ending) (w' : World) : Prop:=Below w.heap.size w w'∧∃ rv ov,e = .returned (.tuple #[rv,ov])∧FolV R rv ov w'
set_option maxRecDepth 100000 in
set_option maxHeartbeats 8000000 in
theorem rFollow26_any (P M : Int) (am : Option Addr) (mn cm : Nat) (mod : List Int) (m : Nat) (a : Option Addr) (n c : Nat) (L : List (List Int)) (ay : Option Addr) (ny cy : Nat) (C : Clm) (w0 : World)
  (hmod : Ints w0 am mn mod) (hi : Mat w0 a n L) (hE : codeE P M mod m L=0) (cb : Bool) (hc : C.cos=cb) (hRight : Hid (RightK P M am mn cm mod m a n c L ay ny cy C w0)) (hw6 : C.W≤64) (hm6 : m≤64) :
  ∀ (d : Nat) (w : World) (sa : Option Addr) (ns cs : Nat) (s : List Int) (az : Option Addr) (nz cz : Nat) (z : List Int) (ax : Option Addr) (nx cx : Nat) (ts : List (List Int)),ns+d=C.W→nz≤64→nx≤cx→Below w0.heap.size w0 w →
   Ints w sa ns s→Ints w az nz z→Mat w ax nx ts→z.Nodup→(∀ x ∈ z,0≤x∧x<(m : Int)) →
   Calls Tryz.prog 182 #[rclV P M am mn cm m a n c ay ny cy C,.slice sa ns cs,.slice az nz cz,.slice ax nx cx] w (FolPost (folS (tblOf P M.toNat mod).ops L m C d s z ts) w)
 | d,w,sa,ns,cs,s,az,nz,cz,z,ax,nx,cx,ts,hd,hnz,hnc,hb,hs,hz,hts,hzn,hzb=>by
  have IH : Hid (∀ d',d'+1=d→∀ (w : World) (sa : Option Addr) (ns cs : Nat) (s : List Int) (az : Option Addr) (nz cz : Nat) (z : List Int) (ax : Option Addr) (nx cx : Nat) (ts : List (List Int)),ns+d'=C.W→nz≤64→nx≤cx→Below w0.heap.size w0 w →
   Ints w sa ns s→Ints w az nz z→Mat w ax nx ts→z.Nodup→(∀ x ∈ z,0≤x∧x<(m : Int)) →
   Calls Tryz.prog 182 #[rclV P M am mn cm m a n c ay ny cy C,.slice sa ns cs,.slice az nz cz,.slice ax nx cx] w (FolPost (folS (tblOf P M.toNat mod).ops L m C d' s z ts) w)):=fun d' hd'=>by
   subst hd'
   exact rFollow26_any P M am mn cm mod m a n c L ay ny cy C w0 hmod hi hE cb hc hRight hw6 hm6 d'
  have Hsl:=Lib.hid hs.len
  have Hzl:=Lib.hid hz.len
  obtain ⟨RF,hRF⟩ : ∃ RF,folS (tblOf P M.toNat mod).ops L m C d s z ts=RF:=⟨_,rfl⟩
  rw [hRF]
  have HRF:=Lib.hid hRF
  have Hz:=Lib.hid (And.intro hzn hzb)
  have hmaxx:=hts.max
  unfold maxLen at hmaxx
  clear hRF hzn hzb
  by_cases hx0 : nx=0
  ·subst hx0
   have hts0 : ts=[]:=List.eq_nil_of_length_eq_zero hts.len
   have HF : Hid (RF=none):=by show _=_;rw [← HRF.out,hts0,folS_nil]
   have hd0 : ((0 : Int) == 0)=true:=rfl
   have hbF:=below1 w (.cells #[.int .i64 P,.int .i64 M,.slice am mn cm,.int .i64 m,.slice a n c,.int .i64 C.M,.int .i64 C.W,.slice ay ny cy,.bool cb] 155)
   unfold rclV
   rw [hc]
   clear hts0 IH HRF hts hc
   go_enter Tryz.func182,Tryz.ntmps182
   go_wp2_with fail
   go_quiet (fail)
   go_wp2_with fail
   go_ret2
   exact ⟨Below.next hbF (Drawn.below ⟨_,rfl⟩),_,_,rfl,.inl ⟨HF.out,rfl,rfl⟩⟩
  obtain ⟨t,ts',rfl⟩ : ∃ t ts',ts=t :: ts':=by
   cases ts with
   | nil=>have:=hts.len;simp at this;omega
   | cons t ts'=>exact ⟨t,ts',rfl⟩
  obtain ⟨rb,ro,rfl⟩ : ∃ rb ro,ax=some ⟨rb,ro,none⟩:=⟨_,_,hts.pl (by omega)⟩
  have hlen : ts'.length=nx - 1:=by have:=hts.len;simp at this;omega
  obtain ⟨ra,rn,rc,hcell,hrow⟩:=hts.cell 0 (by omega)
  simp only [ablk_some,aoff_some,Nat.add_zero] at hcell
  rw [show nthR (t :: ts') 0=t from rfl] at hrow
  have hd0 : ((nx : Int) == 0)=false:=by simp;omega
  have h0nx : (0 : Int)<(nx : Int):=by omega
  have h0nx2 : 0<nx:=by omega
  have hplx:=hts.pl
  have hRt0 : ∀ V,Below w.heap.size w V→Calls Tryz.prog 180 #[rclV P M am mn cm m a n c ay ny cy C,.slice sa ns cs,.slice ra rn rc] V fun e w'=>e = .returned (.bool (rightS (tblOf P M.toNat mod).ops L m C s t))∧Below V.heap.size V w':=fun V hV=>by
   have hbV:=hb.trans (hV.mono hb.size)
   exact hRight.out V sa ns cs s ra rn rc t (by omega) hbV (hs.keep hV) (hrow.keep hV)
  have hm1:=codeE_rws hE
  obtain ⟨rr,hrr⟩ : ∃ rr,rightS (tblOf P M.toNat mod).ops L m C s t=rr:=⟨_,rfl⟩
  rw [hrr] at hRt0
  have hKi0 : rr=true→∀ V,Below w.heap.size w V→Calls Tryz.prog 181 #[rclV P M am mn cm m a n c ay ny cy C,.slice sa ns cs,.slice az nz cz,.slice ra rn rc] V (NewInts V (kidsS C s z t)):=fun hr V hV=>by
   have hok:=(right_ok (hrr.trans hr)).1
   have hl:=okSet_len hok (by omega)
   rw [hrow.len] at hl
   exact rKids26_any P M am mn cm m a n c ay ny cy C sa ns cs s az nz cz z ra rn rc t V (hs.keep hV) (hz.keep hV) (hrow.keep hV) (by omega)
  have Hrr:=Lib.hid hrr
  unfold rclV at hRt0 hKi0
  simp only [hc] at hRt0 hKi0
  have HRt:=Lib.hid hRt0
  have HKi:=Lib.hid hKi0
  have Hlen:=Lib.hid hlen
  have hzr:=hts.tail
  unfold rclV
  rw [hc]
  have Hc:=Lib.hid hc
  clear hRt0 hKi0 hrr hm1 hlen hc
  go_enter Tryz.func182,Tryz.ntmps182
  go_upto_region 1 with fail
  obtain ⟨U,hU⟩ : ∃ U : World,U=w.alloc (.cells #[.int .i64 P,.int .i64 M,.slice am mn cm,.int .i64 m,.slice a n c,.int .i64 C.M,.int .i64 C.W,.slice ay ny cy,.bool cb] 155):=⟨_,rfl⟩
  rw [← hU]
  have hbU : Below w.heap.size w U:=by rw [hU];exact below1 _ _
  have x0 : Box U w.heap.size [.int .i64 P,.int .i64 M,.slice am mn cm,.int .i64 m,.slice a n c,.int .i64 C.M,.int .i64 C.W,.slice ay ny cy,.bool cb]:=by rw [hU];exact Box.new _ _ _ rfl
  have hcU:=cell_keep hbU hcell
  have HS : Hid (∀ V,Below U.heap.size U V→V.cell? ⟨w.heap.size,0,none⟩=some (.int .i64 P)∧V.cell? ⟨w.heap.size,1,none⟩=some (.int .i64 M)∧V.cell? ⟨w.heap.size,2,none⟩=some (.slice am mn cm)∧V.cell? ⟨w.heap.size,3,none⟩=some (.int .i64 m)∧V.cell? ⟨w.heap.size,4,none⟩=some (.slice a n c) ∧
    V.cell? ⟨w.heap.size,5,none⟩=some (.int .i64 C.M)∧V.cell? ⟨w.heap.size,6,none⟩=some (.int .i64 C.W)∧V.cell? ⟨w.heap.size,7,none⟩=some (.slice ay ny cy)∧V.cell? ⟨w.heap.size,8,none⟩=some (.bool cb)∧V.cell? ⟨rb,ro,none⟩=some (.slice ra rn rc)∧Below U.heap.size U V):=fun V hV=>by
   have x1:=x0.keep hV
   exact ⟨x1.cell 0 rfl,x1.cell 1 rfl,x1.cell 2 rfl,x1.cell 3 rfl,x1.cell 4 rfl,x1.cell 5 rfl,x1.cell 6 rfl,x1.cell 7 rfl,x1.cell 8 rfl,cell_keep hV hcU,hV⟩
  have HbU:=Lib.hid hbU
  clear hU x0 hcU
  go_cut [25] (fun v wx=>v = .bool (!rr)∧Below U.heap.size U wx)
  case first =>
   go_region_held3 (fun V=>V.cell? ⟨w.heap.size,0,none⟩=some (.int .i64 P)∧V.cell? ⟨w.heap.size,1,none⟩=some (.int .i64 M)∧V.cell? ⟨w.heap.size,2,none⟩=some (.slice am mn cm)∧V.cell? ⟨w.heap.size,3,none⟩=some (.int .i64 m)∧V.cell? ⟨w.heap.size,4,none⟩=some (.slice a n c) ∧
     V.cell? ⟨w.heap.size,5,none⟩=some (.int .i64 C.M)∧V.cell? ⟨w.heap.size,6,none⟩=some (.int .i64 C.W)∧V.cell? ⟨w.heap.size,7,none⟩=some (.slice ay ny cy)∧V.cell? ⟨w.heap.size,8,none⟩=some (.bool cb)∧V.cell? ⟨rb,ro,none⟩=some (.slice ra rn rc)∧Below U.heap.size U V)
    ((refine HS.out _ ?_;first | exact hb3w | exact (Below.refl _ _).drew | assumption | (go_split_ands;assumption)))
    (first
    | (go_at_call 180;((with_reducible refine (HRt.out _ (Below.next HbU.out (by go_split_ands;assumption))).mono ?_);rintro e w3 ⟨rfl,hb3⟩;have hb3w : Below U.heap.size U w3:=(by go_split_ands;exact Below.next (by assumption) hb3))))
   all_goals (go_wp2_with fail;go_meet;exact ⟨rfl,hb3w⟩)
  obtain ⟨rfl,hb2⟩:=hcut
  generalize wc=w2 at *
  cases rr
  ·have HF : Hid (RF=none):=by show _=_;rw [← HRF.out,folS_bad _ _ _ _ _ _ _ _ _ Hrr.out]
   have hbF:=Below.next HbU.out hb2
   go_wp2_with fail
   go_ret2
   exact ⟨hbF,_,_,rfl,.inl ⟨HF.out,rfl,rfl⟩⟩
  obtain ⟨F,hFd⟩ : ∃ F,folS (tblOf P M.toNat mod).ops L m C (d - 1)=F:=⟨_,rfl⟩
  have HF : Hid (RF=kfol F s z (kidsS C s z t) ts'):=by
   show _=_
   rw [← HRF.out,folS_eq _ _ _ _ _ _ _ _ _ (by rw [Hsl.out];exact hd) Hrr.out,← hFd]
   rfl
  have HFd:=Lib.hid hFd
  have hok:=(right_ok Hrr.out).1
  obtain ⟨ks,hks⟩ : ∃ ks,kidsS C s z t=ks:=⟨_,rfl⟩
  have hkl : ks.length≤64:=by
   have h1:=okSet_len hok (by omega)
   have h2 : ks.length≤t.length:=by
    rw [← hks,kidsS]
    split
    ·exact List.length_filter_le _ _
    ·simp
   omega
  have hknd : ks.Nodup∧(∀ x ∈ ks,0≤x∧x<(m : Int))∧(∀ x ∈ ks,¬ x ∈ z)∧(0<ks.length→ns<C.W):=by
   refine ⟨?_,fun x hx=>?_,fun x hx=>?_,fun h=>?_⟩
   ·rw [← hks,kidsS]
    split
    ·exact List.Pairwise.filter _ (okSet_nodup hok)
    ·simp
   ·rw [← hks] at hx
    obtain ⟨q,hq,rfl⟩:=List.mem_iff_getElem.1 (kids_mem hx).1
    rw [← nth_getElem hq]
    exact okSet_rng hok q hq
   ·rw [← hks] at hx
    exact (kids_mem hx).2.1
   ·rw [← hks] at h
    have h1:=kids_mem (List.getElem_mem (n:=0) h)
    rw [Hsl.out] at h1
    exact h1.2.2
  have HKs:=Lib.hid hknd
  rw [hks] at HF HKi
  have HKi:=Lib.hid (HKi.out rfl)
  have hbw2:=Below.next HbU.out hb2
  obtain ⟨c0,c1,c2,c3,c4,c5,c6,c7,c8,c9,_⟩:=HS.out w2 hb2
  clear hFd hok hks hknd
  go_upto_region 3 with fail
  go_cut [10] (fun v wx=>∃ ak ck,v = .slice ak ks.length ck∧wx.ownsRow U.heap.size 3 1 (.slice ak ks.length ck) ks.length (ks.map (Value.int .i64))∧Below U.heap.size U wx)
  case first =>
   have hszU:=hb2.size
   go_region_held3 (fun V=>V.cell? ⟨w.heap.size,0,none⟩=some (.int .i64 P)∧V.cell? ⟨w.heap.size,1,none⟩=some (.int .i64 M)∧V.cell? ⟨w.heap.size,2,none⟩=some (.slice am mn cm)∧V.cell? ⟨w.heap.size,3,none⟩=some (.int .i64 m)∧V.cell? ⟨w.heap.size,4,none⟩=some (.slice a n c) ∧
     V.cell? ⟨w.heap.size,5,none⟩=some (.int .i64 C.M)∧V.cell? ⟨w.heap.size,6,none⟩=some (.int .i64 C.W)∧V.cell? ⟨w.heap.size,7,none⟩=some (.slice ay ny cy)∧V.cell? ⟨w.heap.size,8,none⟩=some (.bool cb)∧V.cell? ⟨rb,ro,none⟩=some (.slice ra rn rc)∧Below U.heap.size U V)
    ((refine HS.out _ ?_;first | exact hb3w | exact Below.next hb2 (Below.refl _ _).drew | assumption | (go_split_ands;assumption)))
    (first
    | (go_at_call 181;((with_reducible refine (HKi.out _ (Below.next HbU.out (by go_split_ands;assumption))).mono ?_);rintro e w3 ⟨ak,ck,rfl,hown3,hb3⟩;have hb3w : Below U.heap.size U w3:=(by go_split_ands;exact Below.next (by assumption) hb3))))
   all_goals (go_wp2_with fail;go_meet;exact ⟨ak,ck,rfl,own_mono hown3 hszU,hb3w⟩)
  obtain ⟨ak,ck,rfl,hownk,hb3⟩:=hcut
  generalize wc=w3 at *
  clear c0 c1 c2 c3 c4 c5 c6 c7 c8 c9
  go_upto_region 4 with fail
  go_cut [11] (fun v wx=>∃ ar cr,v = .slice ar (nx - 1) cr∧Mat w3 ar (nx - 1) ts'∧nx - 1≤cr∧w3=wx)
  case first =>
   have hzw:=hzr.keep (Below.next HbU.out hb3)
   have hn1 : (1 : Int)≤(nx : Int):=by omega
   have hn2 : (nx : Int)≤(cx : Int):=by omega
   have hn3 : (1 : Int)≤(cx : Int):=by omega
   by_cases hc1 : cx=1
   ·have hnx1 : nx=1:=by omega
    subst hnx1
    subst hc1
    have hts0 : ts'=[]:=List.eq_nil_of_length_eq_zero (by rw [Hlen.out])
    go_wp2_with fail
    go_meet
    exact ⟨_,_,rfl,by rw [hts0];exact Mat.empty _ _,by omega,rfl⟩
   ·have hc2 : ¬ cx=1:=hc1
    go_wp2_with fail
    go_meet
    exact ⟨_,_,rfl,hzw,by omega,rfl⟩
  obtain ⟨ar,cr,rfl,hzr3,hncr,rfl⟩:=hcut
  obtain ⟨ik,_⟩:=Ints.own hownk
  have hplk:=ik.pl
  have hckap:=own_cap hownk
  have HbU3:=Lib.hid (Below.next HbU.out hb3)
  have hs3:=hs.keep HbU3.out
  have hz3:=hz.keep HbU3.out
  have hns64 : ns≤64:=by omega
  have Hb0:=Lib.hid hb
  obtain ⟨kl,hkle⟩ : ∃ kl,ks.length=kl:=⟨_,rfl⟩
  rw [hkle] at hownk hkl ik hplk hckap
  rw [hkle]
  have Hkl:=Lib.hid hkle
  have HSk : Hid (∀ V,Below w3.heap.size w3 V→V.cell? ⟨w.heap.size,0,none⟩=some (.int .i64 P)∧V.cell? ⟨w.heap.size,1,none⟩=some (.int .i64 M)∧V.cell? ⟨w.heap.size,2,none⟩=some (.slice am mn cm)∧V.cell? ⟨w.heap.size,3,none⟩=some (.int .i64 m)∧V.cell? ⟨w.heap.size,4,none⟩=some (.slice a n c) ∧
    V.cell? ⟨w.heap.size,5,none⟩=some (.int .i64 C.M)∧V.cell? ⟨w.heap.size,6,none⟩=some (.int .i64 C.W)∧V.cell? ⟨w.heap.size,7,none⟩=some (.slice ay ny cy)∧V.cell? ⟨w.heap.size,8,none⟩=some (.bool cb)):=fun V hV=>by
   obtain ⟨c0,c1,c2,c3,c4,c5,c6,c7,c8,_,_⟩:=HS.out V (Below.next hb3 hV)
   exact ⟨c0,c1,c2,c3,c4,c5,c6,c7,c8⟩
  have HIH : Hid (∀ (V : World) (j : Nat) (a5 : Option Addr) (c5 : Nat) (a7 : Option Addr) (c7 : Nat) (a9 : Option Addr) (n9 c9 : Nat) (rs : List (List Int)),j<kl→n9≤c9→Below w3.heap.size w3 V→Ints V a5 (ns+1) (s ++ [nth ks j])→Ints V a7 (nz+j) (z ++ ks.take j)→Mat V a9 n9 rs →
    Calls Tryz.prog 182 #[.agg #[.int .i64 P,.int .i64 M,.slice am mn cm,.int .i64 m,.slice a n c,.int .i64 C.M,.int .i64 C.W,.slice ay ny cy,.bool cb],.slice a5 (ns+1) c5,.slice a7 (nz+j) c7,.slice a9 n9 c9] V (FolPost (F (s ++ [nth ks j]) (z ++ ks.take j) rs) V)):=by
   intro V j a5 c5 a7 c7 a9 n9 c9 rs hj h9 hV h1 h2 h3
   have hjk : j<ks.length:=by rw [Hkl.out];exact hj
   have hnsW:=HKs.out.2.2.2 (by omega)
   obtain ⟨d',hd'⟩ : ∃ d',d'+1=d:=⟨d - 1,by omega⟩
   have hnd : (z ++ ks.take j).Nodup:=by
    rw [List.nodup_append]
    exact ⟨Hz.out.1,List.Nodup.sublist (List.take_sublist _ _) HKs.out.1,fun x hx y hy e=>HKs.out.2.2.1 y (List.mem_of_mem_take hy) (e ▸ hx)⟩
   have hbd : ∀ x ∈ z ++ ks.take j,0≤x∧x<(m : Int):=fun x hx=>by
    rcases List.mem_append.1 hx with hx | hx
    ·exact Hz.out.2 x hx
    ·exact HKs.out.2.1 x (List.mem_of_mem_take hx)
   have hle : nz+j≤64:=by
    have h4:=used_len hnd hbd
    rw [h2.len] at h4
    omega
   have h5:=IH.out d' hd' V a5 (ns+1) c5 (s ++ [nth ks j]) a7 (nz+j) c7 (z ++ ks.take j) a9 n9 c9 rs (by omega) hle h9 (Hb0.out.trans ((Below.next HbU3.out hV).mono Hb0.out.size)) h1 h2 h3 hnd hbd
   rw [show d'=d - 1 by omega,HFd.out] at h5
   unfold rclV at h5
   rw [Hc.out] at h5
   exact h5
  clear IH hkle hb2 hb hrow hts hzr hs hz hmod hi hE hm6 hw6
  go_wp2_with fail
  go_loopw [11,12,13] (fun rv ov jv wr=>∃ (j : Nat) (okb : Bool) (a9 : Option Addr) (n9 c9 : Nat) (rs : List (List Int)),j≤kl∧jv = .int .i64 j∧ov = .bool okb∧rv = .slice a9 n9 c9∧n9≤c9∧Below w3.heap.size w3 wr∧Mat wr a9 n9 rs ∧
    Hid (if okb=true then RF=kfol F s (z ++ ks.take j) (ks.drop j) rs else RF=none∧a9=none∧n9=0∧c9=0))
   (fun _ _ jv _=>kl - (intOf jv).toNat)
  case atStart=>exact ⟨0,true,ar,nx - 1,cr,ts',Nat.zero_le _,rfl,rfl,rfl,hncr,Below.refl _ _,hzr3,(show if true=true then _ else _ by rw [if_pos rfl,List.take_zero,List.append_nil,List.drop_zero];exact HF.out)⟩
  case round =>
   obtain ⟨j,okb,a9,n9,c9,rs,hj,rfl,rfl,rfl,h9,hbr,hrs,hst⟩:=hrel
   generalize wr=U1 at *
   cases okb
   ·have Hst : Hid (RF=none∧a9=none∧n9=0∧c9=0):=by
     have:=hst.out
     rw [if_neg (by decide)] at this
     exact this
    have hbF:=Below.next HbU3.out hbr
    by_cases hlt : j<kl
    ·go_wp2_with fail
     go_ret2
     obtain ⟨h1,rfl,rfl,rfl⟩:=Hst.out
     exact ⟨hbF,_,_,rfl,.inl ⟨h1,rfl,rfl⟩⟩
    ·obtain rfl : j=kl:=by omega
     go_wp2_with fail
     go_ret2
     obtain ⟨h1,rfl,rfl,rfl⟩:=Hst.out
     exact ⟨hbF,_,_,rfl,.inl ⟨h1,rfl,rfl⟩⟩
   have Hst : Hid (RF=kfol F s (z ++ ks.take j) (ks.drop j) rs):=by
    have:=hst.out
    rw [if_pos rfl] at this
    exact this
   clear hst
   by_cases hlt : j<kl
   ·have hjk : j<ks.length:=by rw [Hkl.out];exact hlt
    have Hst2 : Hid (RF=match F (s ++ [nth ks j]) (z ++ ks.take j) rs with | none=>none | some ts'=>kfol F s (z ++ ks.take (j+1)) (ks.drop (j+1)) ts'):=by
     show _=_
     rw [Hst.out,show ks.drop j=nth ks j :: ks.drop (j+1) by rw [nth_getElem hjk];exact List.drop_eq_getElem_cons hjk,kfol,take_nth ks hjk,List.append_assoc]
     cases F (s ++ [nth ks j]) (z ++ ks.take j) rs <;> rfl
    have ikU:=ik.keep hbr
    have cj:=ikU.cell j hlt
    have hs9:=hs3.keep hbr
    have hz9:=hz3.keep hbr
    have hkt:=Ints.take ikU (Nat.le_of_lt hlt)
    have HW1 : Hid (∀ V g,Below U1.heap.size U1 V→Ints V (some ⟨g,0,none⟩) 1 [nth ks j]→Calls Tryz.prog 177 #[.slice sa ns cs,.slice (some ⟨g,0,none⟩) 1 1] V fun e w'=>∃ a2 c2,e = .returned (.slice a2 (ns+1) c2)∧Ints w' a2 (ns+1) (s ++ [nth ks j])∧Below V.heap.size V w'):=fun V g hV hg=>by
     refine (rWith26_any sa ns cs s (some ⟨g,0,none⟩) 1 1 [nth ks j] V (hs9.keep hV) hg (by omega) (by omega)).mono ?_
     rintro e w' ⟨a2,c2,rfl,ho,hbw⟩
     exact ⟨a2,c2,rfl,(Ints.own ho).1,hbw⟩
    have HW2 : Hid (∀ V,Below U1.heap.size U1 V→Calls Tryz.prog 177 #[.slice az nz cz,.slice ak j ck] V fun e w'=>∃ a2 c2,e = .returned (.slice a2 (nz+j) c2)∧Ints w' a2 (nz+j) (z ++ ks.take j)∧Below V.heap.size V w'):=fun V hV=>by
     refine (rWith26_any az nz cz z ak j ck (ks.take j) V (hz9.keep hV) (hkt.keep hV) (by omega) (by omega)).mono ?_
     rintro e w' ⟨a2,c2,rfl,ho,hbw⟩
     exact ⟨a2,c2,rfl,(Ints.own ho).1,hbw⟩
    have HFo : Hid (∀ V a5 c5 a7 c7,Below U1.heap.size U1 V→Ints V a5 (ns+1) (s ++ [nth ks j])→Ints V a7 (nz+j) (z ++ ks.take j)→Calls Tryz.prog 182 #[.agg #[.int .i64 P,.int .i64 M,.slice am mn cm,.int .i64 m,.slice a n c,.int .i64 C.M,.int .i64 C.W,.slice ay ny cy,.bool cb],.slice a5 (ns+1) c5,.slice a7 (nz+j) c7,.slice a9 n9 c9] V
      (FolPost (F (s ++ [nth ks j]) (z ++ ks.take j) rs) V)):=fun V a5 c5 a7 c7 hV h1 h2=>HIH.out V j a5 c5 a7 c7 a9 n9 c9 rs hlt h9 (Below.next hbr hV) h1 h2 (hrs.keep hV)
    have HSU : Hid (∀ V,Below U1.heap.size U1 V→V.cell? ⟨w.heap.size,0,none⟩=some (.int .i64 P)∧V.cell? ⟨w.heap.size,1,none⟩=some (.int .i64 M)∧V.cell? ⟨w.heap.size,2,none⟩=some (.slice am mn cm)∧V.cell? ⟨w.heap.size,3,none⟩=some (.int .i64 m)∧V.cell? ⟨w.heap.size,4,none⟩=some (.slice a n c) ∧
      V.cell? ⟨w.heap.size,5,none⟩=some (.int .i64 C.M)∧V.cell? ⟨w.heap.size,6,none⟩=some (.int .i64 C.W)∧V.cell? ⟨w.heap.size,7,none⟩=some (.slice ay ny cy)∧V.cell? ⟨w.heap.size,8,none⟩=some (.bool cb)∧V.cell? ⟨ablk ak,aoff ak+j,none⟩=some (.int .i64 (nth ks j))∧Below U1.heap.size U1 V):=fun V hV=>by
     obtain ⟨c0,c1,c2,c3,c4,c5,c6,c7,c8⟩:=HSk.out V (Below.next hbr hV)
     exact ⟨c0,c1,c2,c3,c4,c5,c6,c7,c8,cell_keep hV cj,hV⟩
    obtain ⟨x,hx⟩ : ∃ x,nth ks j=x:=⟨_,rfl⟩
    rw [hx] at HW1 HFo HSU Hst2 cj
    obtain ⟨FR,hFR⟩ : ∃ FR,F (s ++ [x]) (z ++ ks.take j) rs=FR:=⟨_,rfl⟩
    rw [hFR] at HFo Hst2
    have hj0 : (0 : Int)≤(j : Int):=by omega
    have hjc : (j : Int)≤(ck : Int):=by omega
    have hjl : (j : Int)<(kl : Int):=by omega
    have HbR:=Lib.hid hbr
    clear hx hFR hjk hkt hs9 hz9 ikU cj hrs Hst
    go_upto_region 9 with fail
    go_region_held3 (fun V=>V.cell? ⟨w.heap.size,0,none⟩=some (.int .i64 P)∧V.cell? ⟨w.heap.size,1,none⟩=some (.int .i64 M)∧V.cell? ⟨w.heap.size,2,none⟩=some (.slice am mn cm)∧V.cell? ⟨w.heap.size,3,none⟩=some (.int .i64 m)∧V.cell? ⟨w.heap.size,4,none⟩=some (.slice a n c) ∧
      V.cell? ⟨w.heap.size,5,none⟩=some (.int .i64 C.M)∧V.cell? ⟨w.heap.size,6,none⟩=some (.int .i64 C.W)∧V.cell? ⟨w.heap.size,7,none⟩=some (.slice ay ny cy)∧V.cell? ⟨w.heap.size,8,none⟩=some (.bool cb)∧V.cell? ⟨ablk ak,aoff ak+j,none⟩=some (.int .i64 x)∧Below U1.heap.size U1 V)
     ((refine HSU.out _ ?_;first | exact (Below.refl _ _).drew | exact hb11w | exact hb5w | exact hb7w | exact ((Below.refl _ _).alloc (Nat.le_refl _) _).drew | exact Below.allocN hb7w _ | assumption | (go_split_ands;assumption) | (go_split_ands;exact Below.allocN (by assumption) _)))
     (first
     | (go_at_call 177;((with_reducible refine (HW1.out _ _ (by go_split_ands;assumption) (by first | exact (ints_lit1 _ _ _ rfl).keep (Below.refl _ _).drew | exact ints_lit1 _ _ _ rfl | exact ((ints_lit1 _ _ _ rfl).keep (Below.refl _ _).drew).keep hb7)).mono ?_);rintro e w5 ⟨a5,c5,rfl,hI5,hb5⟩;have hb5w : Below U1.heap.size U1 w5:=(by go_split_ands;exact Below.next (by assumption) hb5)))
     | (go_at_call 177;((with_reducible refine (HW2.out _ (by go_split_ands;assumption)).mono ?_);rintro e w7 ⟨a7,c7,rfl,hI7,hb7⟩;have hb7w : Below U1.heap.size U1 w7:=(by go_split_ands;exact Below.next (by assumption) hb7)))
     | (go_at_call 182;((with_reducible refine (HFo.out _ a5 c5 a7 c7 (by go_split_ands;assumption) (by first | exact hI5 | exact hI5.keep hb7) (by first | exact hI7 | exact hI7.keep hb5 | exact (hI7.keep (below1 _ _)).keep hb5)).mono ?_);rintro e w11 ⟨hb11,rv,ov,rfl,hFV⟩;have hb11w : Below U1.heap.size U1 w11:=(by go_split_ands;exact Below.next (by assumption) hb11))))
    all_goals (
     have hbF:=Below.next HbR.out hb11w
     rcases hFV with ⟨h1,rfl,rfl⟩ | ⟨rest,a12,c12,h1,rfl,rfl,hM12,h12⟩
     ·have Hn : Hid (RF=none):=by show _=_;rw [Hst2.out,h1]
      clear h1
      go_wp2_with fail
      go_roundw
      case rel=>exact ⟨j+1,false,none,0,0,[],by omega,by go_num,rfl,rfl,Nat.le_refl _,hbF,Mat.empty _ _,(show if false=true then _ else _ by rw [if_neg (by decide)];exact ⟨Hn.out,rfl,rfl,rfl⟩)⟩
      case measure=>simp [intOf] <;> omega
     ·have Hn : Hid (RF=kfol F s (z ++ ks.take (j+1)) (ks.drop (j+1)) rest):=by show _=_;rw [Hst2.out,h1]
      clear h1
      go_wp2_with fail
      go_roundw
      case rel=>exact ⟨j+1,true,a12,rest.length,c12,rest,by omega,by go_num,rfl,rfl,h12,hbF,hM12,(show if true=true then _ else _ by rw [if_pos rfl];exact Hn.out)⟩
      case measure=>simp [intOf] <;> omega)
   ·have hjl2 : j=kl:=by omega
    subst hjl2
    have Ho : Hid (RF=some rs):=by
     show _=_
     rw [Hst.out,List.drop_of_length_le (by rw [Hkl.out];exact Nat.le_refl _),kfol]
    have hbF:=Below.next HbU3.out hbr
    have Hrs:=Lib.hid hrs
    go_wp2_with fail
    go_ret2
    refine ⟨hbF,_,_,rfl,.inr ⟨rs,a9,c9,Ho.out,?_,rfl,?_,?_⟩⟩
    ·rw [Hrs.out.len];rfl
    ·rw [Hrs.out.len];exact Hrs.out
    ·rw [Hrs.out.len];exact h9
end

end Go.Proofs.YtcflcogbpnmjeaaGreat
