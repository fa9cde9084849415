/-  -/
import Derived.Test.YtcflcogbpnmjeaaGreatK15
import Derived.Test.YtcflcogbpnmjeaaGreatHCE8
import Derived.Test.YtcflcogbpnmjeaaGreatK17
import Derived.Test.YtcflcogbpnmjeaaGreatK20
import Derived.Test.YtcflcogbpnmjeaaGreatHCE1
import Derived.Test.YtcflcogbpnmjeaaGreatK21
import Derived.Test.YtcflcogbpnmjeaaGreatK11
import Derived.Test.YtcflcogbpnmjeaaGreatHCE4
import Derived.Test.YtcflcogbpnmjeaaGreatK28
import Derived.Test.YtcflcogbpnmjeaaGreatK24
import Derived.Test.YtcflcogbpnmjeaaGreatK22
import Derived.Test.YtcflcogbpnmjeaaGreatK29
import Derived.Test.YtcflcogbpnmjeaaGreatK31
namespace Go.Proofs.YtcflcogbpnmjeaaGreat
set_option linter.unusedVariables false
set_option linter.unusedSimpArgs false
set_option linter.unusedSectionVars false

section
variable {O:FOps} {L:List (List Int)} {m:Nat} {C:Clm}
theorem kbld_fol {B:List Int→List Int→List (List Int)→Int × List (List Int)} {F:List Int→List Int→List (List Int)→Option (List (List Int))} {s:List Int}
  (hBF:∀ s' z T T',B s' z T=(0,T')→∃ X,T'=T ++ X∧∀ rest,F s' z (X ++ rest)=some rest):∀ (ks z:List Int) (T T':List (List Int)),kbld B s z ks T=(0,T')→∃ X,T'=T ++ X∧∀ rest,kfol F s z ks (X ++ rest)=some rest
 | [],z,T,T',h=>by
  rw [kbld] at h
  cases h
  exact ⟨[],by simp,fun rest=>rfl⟩
 | k :: ks,z,T,T',h=>by
  rw [kbld] at h
  by_cases h0:(B (s ++ [k]) z T).1=0
  ·rw [if_pos h0] at h
   obtain ⟨X,hX,hF⟩:=hBF (s ++ [k]) z T (B (s ++ [k]) z T).2 (by rw [← h0])
   obtain ⟨Y,hY,hK⟩:=kbld_fol hBF ks (z ++ [k]) _ T' h
   refine ⟨X ++ Y,by rw [hY,hX,List.append_assoc],fun rest=>?_⟩
   rw [kfol,List.append_assoc,hF]
   exact hK rest
  ·rw [if_neg h0] at h
   have:=congrArg Prod.fst h
   exact absurd this h0
theorem bld_fol:∀ (d:Nat) (s z:List Int) (T T':List (List Int)),bldS O L m C d s z T=(0,T')→∃ X,T'=T ++ X∧∀ rest,folS O L m C d s z (X ++ rest)=some rest
 | 0,s,z,T,T',h=>by
  rw [bldS] at h
  split at h
  ·rename_i hr
   split at h
   ·cases h
   ·cases h
    exact ⟨_,rfl,fun rest=>by rw [List.singleton_append,folS,if_pos hr]⟩
  ·cases h
 | d+1,s,z,T,T',h=>by
  rw [bldS] at h
  split at h
  ·rename_i hr
   split at h
   ·cases h
   ·obtain ⟨X,hX,hF⟩:=kbld_fol (bld_fol d) _ _ _ _ h
    exact ⟨csetS O L m C s z :: X,by rw [hX];simp,fun rest=>by rw [List.cons_append,folS];(try dsimp only);rw [if_pos hr];exact hF rest⟩
  ·cases h
theorem tree_prov {T:List (List Int)} (h:treeS O L m C=(0,T)):provS O L m C T=0:=by
 obtain ⟨X,hX,hF⟩:=bld_fol _ _ _ _ _ h
 have h1:=hF []
 rw [List.append_nil] at h1
 rw [List.nil_append] at hX
 unfold provS
 rw [hX,h1]
end

section
open Go.RowKit
theorem rIn26_any (a:Option Addr) (n c:Nat) (l:List Int) (v:Int) (w:World) (h:Ints w a n l) :
  Calls Tryz.prog 211 #[.slice a n c,.int .i64 v] w fun e w'=>e = .returned (.bool (decide (v ∈ l)))∧w'=w:=by
 have Hl:=Lib.hid h.len
 have hpl:=h.pl
 have hmax:=h.max
 unfold maxLen at hmax
 go_enter Tryz.func211,Tryz.ntmps211
 go_wp2_with fail
 go_loopw [5] (fun iv wr=>∃ k:Nat,k≤n∧iv = .int .i64 k∧Hid (inTo l v k=false)∧wr=w) (fun i _=>n - (intOf i).toNat)
 case atStart=>exact ⟨0,Nat.zero_le _,rfl,by show _=_;simp [inTo],rfl⟩
 case round =>
  obtain ⟨k,hk,rfl,hno,rfl⟩:=hrel
  by_cases hlt:k<n
  ·have c1:=h.cell k hlt
   have Hs:=Lib.hid (inTo_succ (l:=l) v (show k<l.length by rw [Hl.out];exact hlt))
   by_cases he:nth l k=v
   ·have he':(nth l k == v)=true:=by rw [he];simp
    have Hm:Hid (decide (v ∈ l)=true):=by show _=_;rw [← he];simpa using nth_mem (show k<l.length by rw [Hl.out];exact hlt)
    clear he
    go_wp2_with fail
    go_ret
    exact ⟨ret_bool Hm.out.symm,rfl⟩
   ·have he':(nth l k == v)=false:=by simpa using he
    have Hn2:Hid (inTo l v (k+1)=false):=by show _=_;rw [Hs.out,hno.out,decide_eq_false he];rfl
    clear he
    go_wp2_with fail
    go_roundw
    case rel=>exact ⟨k+1,by omega,by go_num,Hn2.out,by simp⟩
    case measure=>simp [intOf] <;> omega
  ·obtain rfl:k=n:=by omega
   have Hm:Hid (decide (v ∈ l)=false):=by show _=_;rw [← inTo_all v Hl.out];exact hno.out
   go_wp2_with fail
   go_ret
   exact ⟨ret_bool Hm.out.symm,rfl⟩
theorem ints_one (l:List Int):∀ u ∈ l.map (Value.int .i64),u.oneCell'=true:=fun u hu=>by
 obtain ⟨x,_,rfl⟩:=List.mem_map.1 hu
 rfl
set_option maxRecDepth 100000 in
set_option maxHeartbeats 1600000 in
theorem rWith26_any (a:Option Addr) (n c:Nat) (l:List Int) (b:Option Addr) (m cb:Nat) (l2:List Int) (w:World) (ha:Ints w a n l) (hb:Ints w b m l2) (hn:n≤1000000) (hm:m≤1000000) :
  Calls Tryz.prog 177 #[.slice a n c,.slice b m cb] w fun e w'=>∃ a2 c2,e = .returned (.slice a2 (n+m) c2)∧w'.ownsRow w.heap.size 3 1 (.slice a2 (n+m) c2) (n+m) ((l ++ l2).map (Value.int .i64))∧Below w.heap.size w w':=by
 have hb1:=below1 w (.cells #[] 3)
 have ha1:=ha.keep hb1
 have hb2:=hb.keep hb1
 have hal:=ha.len
 have hbl:=hb.len
 have hO:=own_emp w 3
 go_enter Tryz.func177,Tryz.ntmps177
 go_wp2_with (at_builtin;first
  | (refine wpList_appAll rfl _ _ 22 3 rfl (.int .i64 0) 8 Tryz.underlying22 infoInt rfl w.heap.size _ 0 0 [] rfl hO a n c (l.map (Value.int .i64)) rfl ha1.pl (by simp [hal]) (Ints.news ha1) (ints_one l) (by omega) (by unfold maxLen;omega) hb1.size ?_;intro a1 c1 w1 hown1 hgr1 hap1;rw [Nat.zero_add] at hown1 ⊢;rw [List.nil_append] at hown1;have hbw1:Below w.heap.size w w1:=Below.app hb1 hO hgr1 (Nat.le_refl _) hb1.size;have hb3:=hb.keep hbw1)
  | (refine wpList_appAll rfl _ _ 22 3 rfl (.int .i64 0) 8 Tryz.underlying22 infoInt rfl w.heap.size a1 n c1 (l.map (Value.int .i64)) rfl hown1 b m cb (l2.map (Value.int .i64)) rfl hb3.pl (by simp [hbl]) (Ints.news hb3) (ints_one l2) (by omega) (by unfold maxLen;omega) hbw1.size ?_;intro a2 c2 w2 hown2 hgr2 hap2))
 go_ret
 exact ⟨a2,c2,rfl,by rw [List.map_append];exact hown2,Below.app hbw1 hown1 hgr2 (Nat.le_refl _) hbw1.size⟩
def rclV (P M:Int) (am:Option Addr) (mn cm:Nat) (m:Nat) (a:Option Addr) (n c:Nat) (ay:Option Addr) (ny cy:Nat) (C:Clm):Value :=
 .agg #[.int .i64 P,.int .i64 M,.slice am mn cm,.int .i64 m,.slice a n c,.int .i64 C.M,.int .i64 C.W,.slice ay ny cy,.bool C.cos]
set_option maxRecDepth 100000 in
set_option maxHeartbeats 3200000 in
theorem rKids26_any (P M:Int) (am:Option Addr) (mn cm:Nat) (m:Nat) (a:Option Addr) (n c:Nat) (ay:Option Addr) (ny cy:Nat) (C:Clm) (sa:Option Addr) (ns cs:Nat) (s:List Int) (az:Option Addr) (nz cz:Nat) (z:List Int) (at':Option Addr) (nt ct:Nat) (t:List Int) (w:World)
  (hs:Ints w sa ns s) (hz:Ints w az nz z) (ht:Ints w at' nt t) (hnt:nt≤1000000) :
  Calls Tryz.prog 181 #[rclV P M am mn cm m a n c ay ny cy C,.slice sa ns cs,.slice az nz cz,.slice at' nt ct] w (NewInts w (kidsS C s z t)):=by
 have Htl:=Lib.hid ht.len
 have Hsl:=Lib.hid hs.len
 have hplt:=ht.pl
 obtain ⟨K,hK⟩:∃ K,kidsS C s z t=K:=⟨_,rfl⟩
 rw [hK]
 have HK:=Lib.hid hK
 unfold rclV
 clear hK
 go_enter Tryz.func181,Tryz.ntmps181
 go_wp2_with fail
 obtain ⟨U,hU⟩:∃ U:World,U=w.alloc (.cells #[.int .i64 P,.int .i64 M,.slice am mn cm,.int .i64 m,.slice a n c,.int .i64 C.M,.int .i64 C.W,.slice ay ny cy,.bool C.cos] 155):=⟨_,rfl⟩
 rw [← hU]
 have hbU:Below w.heap.size w U:=by rw [hU];exact below1 _ _
 have x0:Box U w.heap.size [.int .i64 P,.int .i64 M,.slice am mn cm,.int .i64 m,.slice a n c,.int .i64 C.M,.int .i64 C.W,.slice ay ny cy,.bool C.cos]:=by rw [hU];exact Box.new _ _ _ rfl
 have HX:=Lib.hid x0
 have hsU:w.heap.size<U.heap.size:=x0.1
 clear hU x0
 go_loopw [9,10] (fun qv iv wr=>∃ (k:Nat) (aq:Option Addr) (cq:Nat) (out:List Int),k≤nt∧iv = .int .i64 k∧qv = .slice aq out.length cq∧Hid (K=out ++ (if s.length<C.W then (t.drop k).filter (fun x=>decide (¬ x ∈ z)) else []))∧out.length≤k ∧
   wr.ownsRow U.heap.size 3 1 (.slice aq out.length cq) out.length (out.map (Value.int .i64))∧Below U.heap.size U wr)
  (fun _ iv _=>nt - (intOf iv).toNat)
 case atStart=>exact ⟨0,none,0,[],Nat.zero_le _,rfl,rfl,(show _=_ by rw [← HK.out,kidsS,List.drop_zero,List.nil_append]),Nat.zero_le _,own_none,Below.refl _ _⟩
 case round =>
  obtain ⟨k,aq,cq,out,hk,rfl,rfl,hst,hln,hop,hbr⟩:=hrel
  generalize wr=V at *
  have c6:=(HX.out.keep hbr).cell 6 rfl
  by_cases hlt:k<nt
  ·by_cases hW:ns<C.W
   ·have d1:decide ((ns:Int)<(C.W:Int))=true:=by simp;omega
    have ck:=(ht.keep (Below.next hbU hbr)).cell k hlt
    have hktl:k<t.length:=by rw [Htl.out];exact hlt
    have Hdk:=Lib.hid (show t.drop k=nth t k :: t.drop (k+1) by rw [nth_getElem hktl];exact List.drop_eq_getElem_cons hktl)
    have HI:=Lib.hid (rIn26_any az nz cz z (nth t k) V (hz.keep (Below.next hbU hbr)))
    have hlsW:s.length<C.W:=by rw [Hsl.out];exact hW
    by_cases hm1:nth t k ∈ z
    ·have hmd:decide (nth t k ∈ z)=true:=by simpa using hm1
     rw [hmd] at HI
     have Hst:Hid (K=out ++ (if s.length<C.W then (t.drop (k+1)).filter (fun x=>decide (¬ x ∈ z)) else [])):=by
      show _=_
      rw [hst.out,Hdk.out,if_pos hlsW,if_pos hlsW,List.filter_cons_of_neg (by simpa using hm1)]
     clear hm1 hmd hlsW
     go_wp2_with fail
     refine HI.out.mono ?_
     rintro e w6 ⟨rfl,rfl⟩
     go_wp2_with fail
     go_roundw
     case rel=>exact ⟨k+1,aq,cq,out,by omega,by go_num,rfl,Hst.out,by omega,hop,hbr⟩
     case measure=>simp [intOf] <;> omega
    ·have hmd:decide (nth t k ∈ z)=false:=by simpa using hm1
     rw [hmd] at HI
     have Hst:Hid (K=(out ++ [nth t k]) ++ (if s.length<C.W then (t.drop (k+1)).filter (fun x=>decide (¬ x ∈ z)) else [])):=by
      show _=_
      rw [hst.out,Hdk.out,if_pos hlsW,if_pos hlsW,List.filter_cons_of_pos (by simpa using hm1),List.append_assoc];rfl
     obtain ⟨x,hx⟩:∃ x,nth t k=x:=⟨_,rfl⟩
     rw [hx] at ck Hst HI
     have hcn:=cell_new V (.int .i64 x) 3
     have hbn:=below1 V (.cells #[.int .i64 x] 3)
     have hszV:=hbr.size
     clear hm1 hmd hlsW hx
     go_wp2_with fail
     refine HI.out.mono ?_
     rintro e w6 ⟨rfl,rfl⟩
     go_wp2_with (at_builtin;refine wpList_push rfl _ _ 22 3 rfl (.int .i64 0) 8 Tryz.underlying22 infoInt rfl U.heap.size aq out.length cq _ rfl (hop.alloc _) ⟨w6.heap.size,0,none⟩ 1 (.int .i64 x) rfl hcn rfl (by omega) (by unfold maxLen;omega) (by simp;omega) ?_;intro a5 c5 w5 hown5 hgr5 hap5)
     go_roundw
     case rel =>
      have hb5:Below U.heap.size U w5:=Below.app (Below.trans hbr (hbn.mono hszV)) (hop.alloc _) hgr5 (Nat.le_refl _) (Nat.le_trans hszV hbn.size)
      exact ⟨k+1,a5,c5,out ++ [x],by omega,by go_num,by simp,Hst.out,by simp;omega,by simpa using hown5,hb5⟩
     case measure=>simp [intOf] <;> omega
   ·have d1:decide ((ns:Int)<(C.W:Int))=false:=by simp;omega
    have Ho:Hid (K=out):=by show _=_;rw [hst.out,if_neg (by rw [Hsl.out];exact hW),List.append_nil]
    have hop2:=own_mono hop hbU.size
    have hF:=Below.next hbU hbr
    go_wp2_with fail
    go_ret
    exact ⟨aq,cq,by rw [Ho.out];rfl,by rw [Ho.out];exact hop2,hF⟩
  ·obtain rfl:k=nt:=by omega
   have Ho:Hid (K=out):=by
    show _=_
    rw [hst.out,List.drop_of_length_le (by rw [Htl.out];exact Nat.le_refl _)]
    split <;> simp
   have hop2:=own_mono hop hbU.size
   have hF:=Below.next hbU hbr
   go_wp2_with fail
   go_ret
   exact ⟨aq,cq,by rw [Ho.out];rfl,by rw [Ho.out];exact hop2,hF⟩
end

section
open Go.RowKit
set_option maxRecDepth 100000 in
set_option maxHeartbeats 3200000 in
theorem rRight26_any (P M:Int) (am:Option Addr) (mn cm:Nat) (mod:List Int) (m:Nat) (a:Option Addr) (n c:Nat) (L:List (List Int)) (ay:Option Addr) (ny cy:Nat) (C:Clm) (sa:Option Addr) (ns cs:Nat) (s:List Int) (at':Option Addr) (nt ct:Nat) (t:List Int) (w:World)
  (hmod:Ints w am mn mod) (hi:Mat w a n L) (hE:codeE P M mod m L=0) (hc:C.cos=false) (hs:Ints w sa ns s) (ht:Ints w at' nt t) :
  Calls Tryz.prog 180 #[rclV P M am mn cm m a n c ay ny cy C,.slice sa ns cs,.slice at' nt ct] w fun e w'=>e = .returned (.bool (rightS (tblOf P M.toNat mod).ops L m C s t))∧Below w.heap.size w w':=by
 have Htl:=Lib.hid ht.len
 have hplt:=ht.pl
 have hmax:=ht.max
 unfold maxLen at hmax
 obtain ⟨RS,hRS⟩:∃ RS,rightS (tblOf P M.toNat mod).ops L m C s t=RS:=⟨_,rfl⟩
 rw [hRS]
 have HRS:Hid (RS=(setOk m s t && (decide ((grS (tblOf P M.toNat mod).ops L t).length=t.length) && decide (t.length=C.M)))):=by
  show _=_
  rw [← hRS,rightS,hc]
  simp only [Bool.false_eq_true,if_false]
 have Hm:=Lib.hid (codeE_rws hE)
 unfold rclV
 rw [hc]
 clear hRS hc
 go_enter Tryz.func180,Tryz.ntmps180
 go_wp2_with fail
 obtain ⟨U,hU⟩:∃ U:World,U=w.alloc (.cells #[.int .i64 P,.int .i64 M,.slice am mn cm,.int .i64 m,.slice a n c,.int .i64 C.M,.int .i64 C.W,.slice ay ny cy,.bool false] 155):=⟨_,rfl⟩
 rw [← hU]
 have hbU:Below w.heap.size w U:=by rw [hU];exact below1 _ _
 have x0:Box U w.heap.size [.int .i64 P,.int .i64 M,.slice am mn cm,.int .i64 m,.slice a n c,.int .i64 C.M,.int .i64 C.W,.slice ay ny cy,.bool false]:=by rw [hU];exact Box.new _ _ _ rfl
 have HS:Hid (∀ V,Below U.heap.size U V→V.cell? ⟨w.heap.size,0,none⟩=some (.int .i64 P)∧V.cell? ⟨w.heap.size,1,none⟩=some (.int .i64 M)∧V.cell? ⟨w.heap.size,2,none⟩=some (.slice am mn cm)∧V.cell? ⟨w.heap.size,3,none⟩=some (.int .i64 m)∧V.cell? ⟨w.heap.size,4,none⟩=some (.slice a n c) ∧
   V.cell? ⟨w.heap.size,5,none⟩=some (.int .i64 C.M)∧V.cell? ⟨w.heap.size,8,none⟩=some (.bool false)):=fun V hV=>by
  have x1:=x0.keep hV
  exact ⟨x1.cell 0 rfl,x1.cell 1 rfl,x1.cell 2 rfl,x1.cell 3 rfl,x1.cell 4 rfl,x1.cell 5 rfl,x1.cell 8 rfl⟩
 clear hU x0
 refine (rising_any m at' nt ct t U (ht.keep hbU)).mono ?_
 rintro e w1 ⟨rfl,hd1⟩
 have hb1:Below U.heap.size U w1:=hd1.below
 have hbw1:=Below.next hbU hb1
 obtain ⟨zo,hzo⟩:∃ zo,okSet m t=zo:=⟨_,rfl⟩
 rw [hzo]
 cases zo
 ·have HF:Hid (RS=false):=by show _=_;rw [HRS.out,setOk,hzo];rfl
  clear hzo
  go_wp2_with fail
  go_ret
  exact ⟨by rw [HF.out];rfl,hbw1⟩
 have Hok:=Lib.hid hzo
 clear hzo
 have ht1:=ht.keep hbw1
 have hs1:=hs.keep hbw1
 go_wp2_with fail
 go_loop [7] (fun iv=>∃ k:Nat,k≤nt∧iv = .int .i64 k∧Hid (∀ j,j<k→¬ nth t j ∈ s)) (fun iv=>nt - (intOf iv).toNat)
 case atStart=>exact ⟨0,Nat.zero_le _,rfl,fun j hj=>by omega⟩
 case round =>
  obtain ⟨k,hk,rfl,hno⟩:=hrel
  generalize w1=wr at *
  by_cases hlt:k<nt
  ·have ck:=ht1.cell k hlt
   have HI:=Lib.hid (rIn26_any sa ns cs s (nth t k) wr hs1)
   by_cases hm1:nth t k ∈ s
   ·have hmd:decide (nth t k ∈ s)=true:=by simpa using hm1
    rw [hmd] at HI
    have HF:Hid (RS=false):=by
     show _=_
     have h1:t.all (fun x=>decide (¬ x ∈ s))=false:=by
      rw [List.all_eq_false]
      exact ⟨nth t k,nth_mem (by rw [Htl.out];exact hlt),by simpa using hm1⟩
     rw [HRS.out,setOk,h1,Bool.and_false];rfl
    clear hm1 hmd
    go_wp2_with fail
    refine HI.out.mono ?_
    rintro e w6 ⟨rfl,rfl⟩
    go_wp2_with fail
    go_ret
    exact ⟨by rw [HF.out];rfl,hbw1⟩
   ·have hmd:decide (nth t k ∈ s)=false:=by simpa using hm1
    rw [hmd] at HI
    have Hno2:Hid (∀ j,j<k+1→¬ nth t j ∈ s):=fun j hj=>by
     by_cases e:j=k
     ·rw [e];exact hm1
     ·exact hno.out j (by omega)
    clear hm1 hmd hno
    go_wp2_with fail
    refine HI.out.mono ?_
    rintro e w6 ⟨rfl,rfl⟩
    go_wp2_with fail
    go_round
    case rel=>exact ⟨k+1,by omega,by go_num,Hno2.out⟩
    case measure=>simp [intOf] <;> omega
  ·have hkn:k=nt:=by omega
   subst hkn
   have hset:setOk m s t=true:=by
    rw [setOk,Hok.out,Bool.true_and,List.all_eq_true]
    intro x hx
    obtain ⟨j,hj,rfl⟩:=List.mem_iff_getElem.1 hx
    have h1:=hno.out j (by rw [← Htl.out];exact hj)
    rw [nth_getElem hj] at h1
    simpa using h1
   obtain ⟨m',hm',hm1,hm2,_,_⟩:=Hm.out
   have hklen:k≤64:=by
    have h1:=okSet_len Hok.out (by omega)
    rw [Htl.out] at h1
    omega
   have HO:=Lib.hid (rOf25_any P M am mn cm mod m a n c L at' k ct t wr (hmod.keep hbw1) (hi.keep hbw1) ht1 hE (set_in Hok.out) (by omega))
   have HR2:Hid (RS=(decide ((grS (tblOf P M.toNat mod).ops L t).length=k) && decide (k=C.M))):=by show _=_;rw [HRS.out,hset,Bool.true_and,Htl.out]
   obtain ⟨r1,hr1⟩:∃ r1,(grS (tblOf P M.toNat mod).ops L t).length=r1:=⟨_,rfl⟩
   rw [hr1] at HO HR2
   obtain ⟨c0,c1,c2,c3,c4,c5,c8⟩:=HS.out wr hb1
   clear hset hr1 hm' hm1 hm2
   go_wp2_with fail
   refine HO.out.mono ?_
   rintro e w2 ⟨rfl,hb2⟩
   have hb12:=Below.next hb1 hb2
   have hbF:=Below.next hbU hb12
   clear c0 c1 c2 c3 c4 c5 c8
   obtain ⟨c0,c1,c2,c3,c4,c5,c8⟩:=HS.out w2 hb12
   by_cases hrr:r1=k
   ·have hne:((r1:Int) != k)=false:=by simp [hrr]
    by_cases hM:k=C.M
    ·have HF:Hid (RS=true):=by show _=_;rw [HR2.out,decide_eq_true hrr,decide_eq_true hM];rfl
     have hd:((k:Int) == C.M)=true:=by simp [hM]
     clear hrr hM
     go_wp2_with fail
     go_ret
     exact ⟨by rw [HF.out];rfl,hbF⟩
    ·have HF:Hid (RS=false):=by show _=_;rw [HR2.out,decide_eq_false hM,Bool.and_false]
     have hd:((k:Int) == C.M)=false:=by simp;omega
     clear hrr hM
     go_wp2_with fail
     go_ret
     exact ⟨by rw [HF.out];rfl,hbF⟩
   ·have HF:Hid (RS=false):=by show _=_;rw [HR2.out,decide_eq_false hrr];rfl
    have hne:((r1:Int) != k)=true:=by simp;omega
    clear hrr
    go_wp2_with fail
    go_ret
    exact ⟨by rw [HF.out];rfl,hbF⟩
def RightK (P M:Int) (am:Option Addr) (mn cm:Nat) (mod:List Int) (m:Nat) (a:Option Addr) (n c:Nat) (L:List (List Int)) (ay:Option Addr) (ny cy:Nat) (C:Clm) (w0:World):Prop :=
 ∀ (V:World) (sa:Option Addr) (ns cs:Nat) (s:List Int) (at':Option Addr) (nt ct:Nat) (t:List Int),ns≤64→Below w0.heap.size w0 V→Ints V sa ns s→Ints V at' nt t →
  Calls Tryz.prog 180 #[rclV P M am mn cm m a n c ay ny cy C,.slice sa ns cs,.slice at' nt ct] V fun e w'=>e = .returned (.bool (rightS (tblOf P M.toNat mod).ops L m C s t))∧Below V.heap.size V w'
theorem rightK_rank {P M:Int} {am:Option Addr} {mn cm:Nat} {mod:List Int} {m:Nat} {a:Option Addr} {n c:Nat} {L:List (List Int)} {ay:Option Addr} {ny cy:Nat} {C:Clm} {w0:World}
  (hmod:Ints w0 am mn mod) (hi:Mat w0 a n L) (hE:codeE P M mod m L=0) (hc:C.cos=false):RightK P M am mn cm mod m a n c L ay ny cy C w0:=fun V sa ns cs s at' nt ct t _ hV hs ht =>
 rRight26_any P M am mn cm mod m a n c L ay ny cy C sa ns cs s at' nt ct t V (hmod.keep hV) (hi.keep hV) hE hc hs ht
end

section
open Go.RowKit
theorem rkc_code {P M:Int} {mod:List Int} {N:Int} {L:List (List Int)} {mm z:Int} (h:rkcE P M mod N L mm z=0):codeE P M mod N L=0:=by
 unfold rkcE at h
 by_cases hE:codeE P M mod N L=0
 ·exact hE
 ·rw [if_neg hE] at h;exact h
end

section
open Go.RowKit
def setTo (n s lo:Nat):Nat→List (List Int)
 | 0=>[]
 | k+1=>setTo n s lo k ++ (setsS n s (lo+k+1)).map fun t=>((lo+k:Nat):Int) :: t
theorem setsS_to (n s lo:Nat):setsS n (s+1) lo=setTo n s lo (n - lo):=by
 rw [setsS]
 generalize n - lo=k
 induction k with
 | zero=>rfl
 | succ k ih=>rw [List.range'_concat,List.flatMap_append,ih,setTo,Nat.one_mul];simp
theorem setsS_len (n:Nat):∀ (s lo:Nat),lo≤n→(setsS n s lo).length≤2 ^ (n - lo)
 | 0,lo,_=>by rw [setsS];exact Nat.one_le_two_pow
 | s+1,lo,h=>by
  have key:∀ k,lo+k≤n→(setTo n s lo k).length+2 ^ (n - lo - k)≤2 ^ (n - lo):=fun k=>by
   induction k with
   | zero=>intro _;simp [setTo]
   | succ k ih =>
    intro hk
    have h1:=ih (by omega)
    have h2:=setsS_len n s (lo+k+1) (by omega)
    rw [setTo,List.length_append,List.length_map]
    obtain ⟨d,hd⟩:∃ d,n - lo - (k+1)=d:=⟨_,rfl⟩
    rw [show n - lo - k=d+1 by omega,Nat.pow_succ] at h1
    rw [show n - (lo+k+1)=d by omega] at h2
    rw [hd];omega
  rw [setsS_to]
  have:=key (n - lo) (by omega)
  exact Nat.le_trans (Nat.le_add_right _ _) this
theorem setTo_bd {n:Nat} (s lo k:Nat) (hk:lo+k<n) (hn:n≤16):(setTo n s lo k).length+(setsS n s (lo+k+1)).length≤65536:=by
 have h1:=setsS_len n (s+1) lo (by omega)
 rw [setsS_to] at h1
 have h2:∀ d,(setTo n s lo (k+1)).length≤(setTo n s lo (k+1+d)).length:=fun d=>by
  induction d with
  | zero=>exact Nat.le_refl _
  | succ d ih=>rw [show k+1+(d+1)=(k+1+d)+1 by omega,setTo.eq_2 n s lo (k+1+d),List.length_append];omega
 have h3:=h2 (n - lo - (k+1))
 rw [show k+1+(n - lo - (k+1))=n - lo by omega] at h3
 rw [setTo,List.length_append,List.length_map] at h3
 have h4:2 ^ (n - lo)≤2 ^ 16:=Nat.pow_le_pow_right (by omega) (by omega)
 omega
def SetsPost (L:List (List Int)) (w:World) (e:Ending) (w':World):Prop :=
 ∃ a c R,e = .returned (.slice a L.length c)∧OMat w' w.heap.size a L.length c R L∧Below w.heap.size w w'
set_option maxRecDepth 100000 in
set_option maxHeartbeats 4000000 in
theorem rSets29_any (n:Nat) (hn:n≤16):∀ (s lo:Nat) (w:World),lo≤n→s≤1000→Calls Tryz.prog 74 #[.int .i64 lo,.int .i64 n,.int .i64 s] w (SetsPost (setsS n s lo) w)
 | 0,lo,w,hlo,_=>by
  have hO:=omat_made (own_mk w 22 (.slice none 0 0) 1 (Nat.le_refl _) (by unfold maxLen;omega))
  have hO':OMat (w.alloc (.cells #[.slice none 0 0] 22)) w.heap.size (some ⟨w.heap.size,0,none⟩) 1 1 [(none,0)] [[]]:=hO
  go_enter Tryz.func74,Tryz.ntmps74
  go_wp2_with fail
  go_ret
  exact ⟨_,_,_,rfl,hO',below1 _ _⟩
 | s+1,lo,w,hlo,hs=>by
  have IH:Hid (∀ lo V,lo≤n→Calls Tryz.prog 74 #[.int .i64 lo,.int .i64 n,.int .i64 s] V (SetsPost (setsS n s lo) V)):=fun lo V h=>rSets29_any n hn s lo V h (by omega)
  obtain ⟨v,hv⟩:∃ v:Int,((s+1:Nat):Int)=v:=⟨_,rfl⟩
  rw [hv]
  have hv1:v - 1=(s:Int):=by omega
  have hs0:(v == 0)=false:=by simp;omega
  clear hv
  have HE:=Lib.hid (setsS_to n s lo)
  have HB:Hid (∀ k,lo+k<n→(setTo n s lo k).length+(setsS n s (lo+k+1)).length≤65536):=fun k hk=>setTo_bd s lo k hk hn
  rw [HE.out]
  go_enter Tryz.func74,Tryz.ntmps74
  go_wp2_with fail
  go_loopw [7,8] (fun ov iv wr=>∃ (k g:Nat) (a1:Option Addr) (c1:Nat),lo+k≤n∧iv = .int .i64 ((lo+k:Nat):Int)∧Hid ((setTo n s lo k).length=g)∧ov = .slice a1 g c1∧(∃ R,OMat wr w.heap.size a1 g c1 R (setTo n s lo k))∧Below w.heap.size w wr) (fun _ iv _=>n - (intOf iv).toNat)
  case atStart=>exact ⟨0,0,none,0,by omega,rfl,rfl,rfl,⟨[],OMat.nul w w.heap.size⟩,Below.refl _ _⟩
  case round =>
   obtain ⟨k,g,a1,c1,hk,rfl,Hg,rfl,⟨R1,hO⟩,hbr⟩:=hrel
   by_cases hlt:lo+k<n
   ·have Hcall:=Lib.hid (IH.out (lo+k+1) wr (by omega))
    have HBk:=HB.out k hlt
    have HSt:Hid (setTo n s lo (k+1)=setTo n s lo k ++ (setsS n s (lo+k+1)).map fun t=>((lo+k:Nat):Int) :: t):=rfl
    have HTs:Hid (∀ t ∈ setsS n s (lo+k+1),t.length=s):=fun t ht=>(mem_setsS.1 ht).1
    obtain ⟨T,hT⟩:∃ T,setsS n s (lo+k+1)=T:=⟨_,rfl⟩
    rw [hT] at Hcall HBk HSt HTs
    rw [Hg.out] at HBk
    unfold SetsPost at Hcall
    clear hT
    obtain ⟨t,ht⟩:∃ t,T.length=t:=⟨_,rfl⟩
    rw [ht] at HBk Hcall
    have Ht:=Lib.hid ht
    clear ht
    obtain ⟨x,hx⟩:∃ x:Nat,lo+k=x:=⟨_,rfl⟩
    rw [hx] at Hcall HSt hlt ⊢
    have Hx:=Lib.hid hx
    have hx16:x<16:=by omega
    clear hx hk
    have ha1:a1 ≠ none→ablk a1<wr.heap.size:=fun h=>(own_ne hO.own h).2
    go_wp2_with fail
    refine Hcall.out.mono ?_
    rintro e U ⟨a2,c2,R2,rfl,hO2,hbU⟩
    have hN2:=hO2.matN
    have hpl2:=hN2.pl
    have hOU:=hO.keep hbU
    have hbrU:=Below.next hbr hbU
    generalize wr.heap.size=B at *
    clear hO2 hO Hcall
    go_wp2_with fail
    go_loopw [7,10] (fun ov jv wx=>∃ (j:Nat) (a3:Option Addr) (c3:Nat),j≤t∧jv = .int .i64 j∧ov = .slice a3 (g+j) c3∧(∃ R,OMat wx w.heap.size a3 (g+j) c3 R (setTo n s lo k ++ (T.take j).map fun t=>(x:Int) :: t))∧Moves U wx (fun b=>b<B) (fun b=>b<B)∧Below w.heap.size w wx ∧
     Hid (a3 ≠ none→ablk a3<B∨U.heap.size≤ablk a3)) (fun _ jv _=>t - (intOf jv).toNat)
    case atStart=>exact ⟨0,a1,c1,Nat.zero_le _,rfl,rfl,⟨R1,by simpa using hOU⟩,Moves.refl _ _,hbrU,fun h=>.inl (ha1 h)⟩
    case round =>
     clear hOU
     obtain ⟨j,a3,c3,hj,rfl,rfl,⟨R3,hO3⟩,hM3,hb3,Ha3⟩:=hrel
     by_cases hlj:j<t
     ·have hNx:=hN2.moves hM3 (fun b hb=>hb)
      obtain ⟨rb,rn,rc,hcell,hrow⟩:=hNx.cell j hlj
      have hrl:=hrow.ints.len
      have hmx:=hrow.ints.max
      have hplr:=hrow.ints.pl
      obtain ⟨l,hl⟩:∃ l,nthR T j=l:=⟨_,rfl⟩
      have hjT:j<T.length:=by rw [Ht.out];exact hlj
      have Htk:Hid ((T.take (j+1)).map (fun t=>(x:Int) :: t)=(T.take j).map (fun t=>(x:Int) :: t) ++ [(x:Int) :: l]):=by
       show _=_
       rw [List.take_succ_eq_append_getElem hjT,List.map_append,← hl,nthR_getElem hjT];rfl
      have hrs:s=rn:=by rw [← hrl];exact (HTs.out _ (nthR_mem hjT)).symm
      subst hrs
      rw [hl] at hrow hrl
      have hb4:=below1 wr (.cells #[.int .i64 x] 3)
      have hrow4:=hrow.ints.keep hb4
      have hcell4:=cell_keep hb4 hcell
      have hO1:=own_litInts wr [(x:Int)] 3 (Nat.le_refl wr.heap.size) (by unfold maxLen;simp)
      have Hrl:=Lib.hid hrl
      clear hl hrl hrow
      go_upto_region 11 with fail
      iterate 22 go_step
      refine wpList_appAll (by rfl) (.tmp 34) (.tmp 38) 22 3 (by rfl) (.int .i64 0) 8 Tryz.underlying22 infoInt (by rfl) wr.heap.size _ 1 1 [.int .i64 x] (by rfl) hO1 rb s rc (l.map (Value.int .i64)) (by rfl) hplr (by simp [Hrl.out]) (Ints.news hrow4) (ints_oneCell _ _) (by omega) (by unfold maxLen;omega) (Below.size hb4) ?_
      intro a4 c4 w4 hown4 hgr4 hap4
      have hb5:Below wr.heap.size wr w4:=Below.app (B:=wr.heap.size) (e:=3) (xs:=[.int .i64 x]) hb4 hO1 hgr4 (Nat.le_refl _) (Below.size hb4)
      have hb6:Below wr.heap.size wr (w4.alloc (.cells #[.slice a4 (1+s) c4] 22)):=Below.next hb5 (below1 _ _)
      have hO6:=hO3.keep hb6
      have hs6:w.heap.size≤(w4.alloc (.cells #[.slice a4 (1+s) c4] 22)).heap.size:=Nat.le_trans hb3.size hb6.size
      have hcn:=cell_new w4 (.slice a4 (1+s) c4) 22
      have Hown4:=Lib.hid hown4
      clear hown4 hgr4 hap4 hO1 hrow4 hcell4
      go_wp2_with (at_builtin;refine wpList_push rfl _ _ 25 22 rfl (.slice none 0 0) 24 Tryz.underlying25 infoInts rfl w.heap.size a3 (g+j) c3 _ rfl hO6.own ⟨w4.heap.size,0,none⟩ 1 (.slice a4 (1+s) c4) rfl hcn rfl (by omega) (by unfold maxLen;omega) hs6 ?_;intro a5 c5 w5 hown5 hgr5 hap5)
      go_roundw
      case rel =>
       have hul:((x:Int) :: l).length=1+s:=by rw [List.length_cons,Hrl.out];omega
       have hr:(w4.alloc (.cells #[.slice a4 (1+s) c4] 22)).ownsRow w.heap.size 3 1 (.slice a4 ((x:Int) :: l).length c4) ((x:Int) :: l).length (((x:Int) :: l).map (Value.int .i64)):=by
        rw [hul];exact own_mono (own_keep (by simpa using Hown4.out) (below1 _ _)) hb3.size
       have hra:a4 ≠ none→¬ OIn a3 R3 (ablk a4):=fun h0 hI=>by
        have h1:=(own_ne Hown4.out h0).1
        have h2:=(hO3.lt _ hI).2
        omega
       have hP:=OMat.push hO6 hr hra (by rw [hul];exact hown5) hgr5 hap5
       have hb7:Below w.heap.size w w5:=Below.app (Below.next hb3 hb6) hO6.own hgr5 (Nat.le_refl _) hs6
       have hM7:Moves U w5 (fun b=>b<B) (fun b=>b<B):=(hM3.trans (Moves.of_below hb6 _)).grownI hgr5 Ha3.out
       refine ⟨j+1,a5,c5,by omega,by go_num,by rw [Nat.add_assoc],⟨_,by rw [Htk.out,← List.append_assoc];exact hP⟩,hM7,hb7,fun h0=>?_⟩
       rcases Nat.lt_or_ge (ablk a5) B with h1 | h1
       ·exact .inl h1
       ·rcases Nat.lt_or_ge (ablk a5) U.heap.size with h2 | h2
        ·have h3:Apt a3 (ablk a5):=by
          by_cases ha:a3=none
          ·exact .inl ha
          ·refine .inr fun e=>?_
           rcases Ha3.out ha with h4 | h4 <;> omega
         have h5:=hM3.size
         have h6:=hb6.size
         rcases hap5 _ (by omega) h3 with h4 | h4
         ·exact absurd h4 h0
         ·exact absurd rfl h4
        ·exact .inr h2
      case measure=>simp [intOf] <;> omega
     ·obtain rfl:j=t:=by omega
      have HF:Hid (∃ R,OMat wr w.heap.size a3 (g+j) c3 R (setTo n s lo (k+1))):=⟨R3,by rw [HSt.out];rwa [List.take_of_length_le (by rw [Ht.out];exact Nat.le_refl _)] at hO3⟩
      clear hO3
      go_wp2_with fail
      go_roundw
      case rel=>exact ⟨k+1,g+j,a3,c3,by have:=Hx.out;omega,by have:=Hx.out;go_num,by show _=_;rw [HSt.out,List.length_append,List.length_map,Hg.out,Ht.out],rfl,HF.out,hb3⟩
      case measure=>have:=Hx.out;simp [intOf] <;> omega
   ·have hke:n - lo=k:=by omega
    have hlt':decide (((lo+k:Nat):Int)<(n:Int))=false:=by simp;omega
    have HF:Hid (SetsPost (setTo n s lo (n - lo)) w (.returned (.slice a1 g c1)) wr):=⟨a1,c1,R1,by rw [hke,Hg.out],by rw [hke,Hg.out];exact hO,hbr⟩
    clear hO
    go_wp2_with fail
    go_ret
    exact HF.out
end

section
open Go.RowKit
set_option maxRecDepth 100000 in
set_option maxHeartbeats 4000000 in
theorem rDim29_any (P M:Int) (am:Option Addr) (mn cm:Nat) (mod:List Int) (m:Nat) (a:Option Addr) (n c:Nat) (L:List (List Int)) (as':Option Addr) (ns cs:Nat) (S:List Int) (w:World) (hmod:Ints w am mn mod) (hi:Mat w a n L) (hs:Ints w as' ns S)
  (hE:codeE P M mod m L=0) :
  Calls Tryz.prog 75 #[.agg #[.int .i64 P,.int .i64 M,.slice am mn cm,.int .i64 m,.slice a n c],.slice as' ns cs] w fun e w'=>e = .returned (.int .i64 (dimZ (tblOf P M.toNat mod).ops L m S))∧Below w.heap.size w w':=by
 obtain ⟨N',em,hm1,hm64,F,hR⟩:=codeE_fld hE
 obtain rfl:m=N':=by omega
 have hn:n≤256:=by rw [← hi.len];exact (codeE_rws hE).choose_spec.2.2.2.1
 have hfl:=frTo_len false S m
 have hr:rkQ (tblOf P M.toNat mod).ops L (frTo false S m)≤m:=Nat.le_trans (rkQ_le _ _ _) hfl
 have HO:Hid (∀ V,Below w.heap.size w V→Calls Tryz.prog 84 #[.slice as' ns cs,.int .i64 m] V fun e w'=>∃ a1 c1,e = .returned (.slice a1 (frTo false S m).length c1) ∧
   w'.ownsRow V.heap.size 3 1 (.slice a1 (frTo false S m).length c1) (frTo false S m).length ((frTo false S m).map (Value.int .i64))∧Below V.heap.size V w'):=fun V hV=>rOthers10_any as' ns cs S m V (hs.keep hV) (by omega)
 have HOf:Hid (∀ V a1 c1,Below w.heap.size w V→Ints V a1 (frTo false S m).length (frTo false S m)→∀ V2,Below V.heap.size V V2→Calls Tryz.prog 124 #[.agg #[.int .i64 P,.int .i64 M,.slice am mn cm],.slice a n c,.slice a1 (frTo false S m).length c1] V2 fun e w'=>e = .returned (.int .i64 (rkQ (tblOf P M.toNat mod).ops L (frTo false S m)))∧Below V2.heap.size V2 w'):=fun V a1 c1 hV h1 V2 hV2 =>
  rOf25_any P M am mn cm mod m a n c L a1 _ c1 _ V2 (hmod.keep (Below.next hV hV2)) (hi.keep (Below.next hV hV2)) (h1.keep hV2) hE (inN_of fun x hx=>by
   obtain ⟨j,h1,h2,_⟩:=(mem_frTo m).1 hx
   omega) (by omega)
 have Hd:Hid (dimZ (tblOf P M.toNat mod).ops L m S=(n:Int) - (rkQ (tblOf P M.toNat mod).ops L (frTo false S m):Nat)):=by show _=_;rw [dimZ,hi.len]
 obtain ⟨Z,hZ⟩:∃ Z,frTo false S m=Z:=⟨_,rfl⟩
 rw [hZ] at HO HOf Hd hr hfl
 obtain ⟨r,hre⟩:∃ r,rkQ (tblOf P M.toNat mod).ops L Z=r:=⟨_,rfl⟩
 rw [hre] at HOf Hd hr
 obtain ⟨z,hz⟩:∃ z,Z.length=z:=⟨_,rfl⟩
 rw [hz] at HO HOf hfl
 have k2:IntKind.i64.wrap ((n:Int) - r)=(n:Int) - r:=IntWalk.i64_in _ (by omega)
 have hpa:=hi.pl
 clear F hR em hE hZ hre hz hmod hi hs
 go_enter Tryz.func75,Tryz.ntmps75
 go_upto_region 1 with fail
 obtain ⟨W,hW⟩:∃ W:World,W=w.alloc (.cells #[.int .i64 P,.int .i64 M,.slice am mn cm,.int .i64 m,.slice a n c] 27):=⟨_,rfl⟩
 rw [← hW]
 have hbW:Below w.heap.size w W:=by rw [hW];exact below1 _ _
 have x0:Box W w.heap.size [.int .i64 P,.int .i64 M,.slice am mn cm,.int .i64 m,.slice a n c]:=by rw [hW];exact Box.new _ _ _ rfl
 have HS:Hid (∀ V,Below W.heap.size W V→V.cell? ⟨w.heap.size,0,none⟩=some (.int .i64 P)∧V.cell? ⟨w.heap.size,1,none⟩=some (.int .i64 M)∧V.cell? ⟨w.heap.size,2,none⟩=some (.slice am mn cm)∧V.cell? ⟨w.heap.size,3,none⟩=some (.int .i64 m)∧V.cell? ⟨w.heap.size,4,none⟩=some (.slice a n c)∧Below W.heap.size W V):=fun V hV=>by
  have x1:=x0.keep hV
  exact ⟨x1.cell 0 rfl,x1.cell 1 rfl,x1.cell 2 rfl,x1.cell 3 rfl,x1.cell 4 rfl,hV⟩
 have HbW:=Lib.hid hbW
 clear hW x0 hbW
 go_region_held3 (fun V=>V.cell? ⟨w.heap.size,0,none⟩=some (.int .i64 P)∧V.cell? ⟨w.heap.size,1,none⟩=some (.int .i64 M)∧V.cell? ⟨w.heap.size,2,none⟩=some (.slice am mn cm)∧V.cell? ⟨w.heap.size,3,none⟩=some (.int .i64 m)∧V.cell? ⟨w.heap.size,4,none⟩=some (.slice a n c)∧Below W.heap.size W V)
  ((refine HS.out _ ?_;first | exact (Below.refl _ _).drew | (go_split_ands;exact Below.next (by assumption) (by assumption))))
  (first
   | (go_at_call 84;((with_reducible refine (HO.out _ (Below.next HbW.out (by go_split_ands;assumption))).mono ?_);rintro e w6 ⟨a6,c6,rfl,hown6,hb6⟩;have hb7:Below W.heap.size W w6:=(by go_split_ands;exact Below.next (by assumption) hb6);have Hr2:=Lib.hid (HOf.out w6 a6 c6 (Below.next HbW.out hb7) (Ints.own hown6).1);clear hown6))
   | (go_at_call 124;((with_reducible refine (Hr2.out _ (by first | exact Below.refl _ _ | exact hb4)).mono ?_);rintro e w8 ⟨rfl,hb8⟩)))
 all_goals (
  clear k2
  go_wp2_with fail
  go_ret
  exact ⟨ret_int Hd.out.symm,Below.next HbW.out (by go_split_ands;assumption)⟩)
set_option maxRecDepth 100000 in
set_option maxHeartbeats 4000000 in
theorem rEnough29_any (P M:Int) (am:Option Addr) (mn cm:Nat) (mod:List Int) (N:Int) (a:Option Addr) (n c:Nat) (L:List (List Int)) (w:World) (hmod:Ints w am mn mod) (hi:Mat w a n L) :
  Calls Tryz.prog 70 #[.agg #[.int .i64 P,.int .i64 M,.slice am mn cm,.int .i64 N,.slice a n c]] w fun e w'=>e = .returned (.int .i64 (dimE P M mod N L))∧Below w.heap.size w w':=by
 go_enter Tryz.func70,Tryz.ntmps70
 go_wp2_with fail
 obtain ⟨W,hW⟩:∃ W:World,W=w.alloc (.cells #[.int .i64 P,.int .i64 M,.slice am mn cm,.int .i64 N,.slice a n c] 27):=⟨_,rfl⟩
 rw [← hW]
 have hbW:Below w.heap.size w W:=by rw [hW];exact below1 _ _
 have x0:Box W w.heap.size [.int .i64 P,.int .i64 M,.slice am mn cm,.int .i64 N,.slice a n c]:=by rw [hW];exact Box.new _ _ _ rfl
 clear hW
 refine (rCheck_any P M am mn cm mod N a n c L W (hmod.keep hbW) (hi.keep hbW)).mono ?_
 rintro e w1 ⟨rfl,hb1⟩
 have c3:=(x0.keep hb1).cell 3 rfl
 have hF:=Below.next hbW hb1
 by_cases hE:codeE P M mod N L=0
 ·by_cases h16:16<N
  ·have HE:Hid (dimE P M mod N L=8):=by show _=_;rw [dimE,if_pos hE,if_pos h16]
   have d:decide (16<N)=true:=by simpa using h16
   rw [hE]
   clear hE h16
   go_wp2_with fail
   go_ret
   exact ⟨ret_int HE.out.symm,hF⟩
  ·have HE:Hid (dimE P M mod N L=0):=by show _=_;rw [dimE,if_pos hE,if_neg h16]
   have d:decide (16<N)=false:=by simpa using h16
   rw [hE]
   clear hE h16
   go_wp2_with fail
   go_ret
   exact ⟨ret_int HE.out.symm,hF⟩
 ·have HE:Hid (dimE P M mod N L=codeE P M mod N L):=if_neg hE
  have hE':(codeE P M mod N L == 0)=false:=by simpa using hE
  clear hE
  generalize codeE P M mod N L=er at *
  go_wp2_with fail
  go_ret
  exact ⟨ret_int HE.out.symm,hF⟩
theorem allS_parts {m k:Nat} (hk:k≤m):∃ B,allS m=((List.range k).flatMap fun s=>setsS m s 0) ++ (setsS m k 0 ++ B):=by
 refine ⟨(List.range' (k+1) (m - k)).flatMap fun s=>setsS m s 0,?_⟩
 have e:List.range (m+1)=List.range k ++ (k :: List.range' (k+1) (m - k)):=by
  rw [← List.range'_succ,List.range_eq_range',List.range_eq_range',show m - k+1=m+1 - k by omega]
  have h:=List.range'_append_1 (s:=0) (m:=k) (n:=m+1 - k)
  rw [Nat.zero_add] at h
  rw [h];congr 1;omega
 unfold allS
 rw [e,List.flatMap_append,List.flatMap_cons]
theorem findS_at {m k j:Nat} {p:List Int→Bool} (hk:k≤m) (h0:∀ s,s<k→∀ t ∈ setsS m s 0,p t=false) (h1:∀ i,i<j→p (nthR (setsS m k 0) i)=false) (hj:j<(setsS m k 0).length) (hp:p (nthR (setsS m k 0) j)=true) :
  (allS m).find? p=some (nthR (setsS m k 0) j):=by
 obtain ⟨B,hB⟩:=allS_parts hk
 rw [List.find?_eq_some_iff_append]
 refine ⟨hp,((List.range k).flatMap fun s=>setsS m s 0) ++ (setsS m k 0).take j,(setsS m k 0).drop (j+1) ++ B,?_,fun t ht=>?_⟩
 ·rw [hB,List.append_assoc,nthR_getElem hj]
  congr 1
  rw [← List.cons_append,← List.append_assoc,List.getElem_cons_drop,List.take_append_drop]
 ·rcases List.mem_append.1 ht with h | h
  ·obtain ⟨s,hs,h2⟩:=List.mem_flatMap.1 h
   rw [h0 s (List.mem_range.1 hs) t h2];rfl
  ·obtain ⟨i,hi,e⟩:=List.mem_iff_getElem.1 h
   rw [List.length_take] at hi
   rw [List.getElem_take] at e
   rw [← e,← nthR_getElem (by omega),h1 i (by omega)];rfl
theorem findS_no {m:Nat} {p:List Int→Bool} (h0:∀ s,s<m+1→∀ t ∈ setsS m s 0,p t=false):(allS m).find? p=none:=by
 rw [List.find?_eq_none]
 intro t ht
 obtain ⟨s,hs,h2⟩:=List.mem_flatMap.1 ht
 rw [h0 s (List.mem_range.1 hs) t h2];decide
def FirPost (X:List Int) (w:World) (e:Ending) (w':World):Prop :=
 ∃ a c,e = .returned (.slice a X.length c)∧IntsN w.heap.size w' a X.length X∧Below w.heap.size w w'
set_option maxRecDepth 100000 in
set_option maxHeartbeats 8000000 in
theorem rFirst29_any (P M:Int) (am:Option Addr) (mn cm:Nat) (mod:List Int) (m:Nat) (a:Option Addr) (n c:Nat) (L:List (List Int)) (r:Int) (w:World) (hmod:Ints w am mn mod) (hi:Mat w a n L) (hE:codeE P M mod m L=0) (hm16:m≤16) :
  Calls Tryz.prog 71 #[.agg #[.int .i64 P,.int .i64 M,.slice am mn cm,.int .i64 m,.slice a n c],.int .i64 r] w (FirPost (firS (tblOf P M.toNat mod).ops L m r) w):=by
 have HD:Hid (∀ V as' ns cs S,Below w.heap.size w V→Ints V as' ns S→Calls Tryz.prog 75 #[.agg #[.int .i64 P,.int .i64 M,.slice am mn cm,.int .i64 m,.slice a n c],.slice as' ns cs] V fun e w'=>e = .returned (.int .i64 (dimZ (tblOf P M.toNat mod).ops L m S))∧Below V.heap.size V w'):=fun V as' ns cs S hV h1 =>
  rDim29_any P M am mn cm mod m a n c L as' ns cs S V (hmod.keep hV) (hi.keep hV) h1 hE
 have HSt:Hid (∀ k V,k≤m→Calls Tryz.prog 74 #[.int .i64 0,.int .i64 m,.int .i64 k] V (SetsPost (setsS m k 0) V)):=fun k V hk=>rSets29_any m hm16 k 0 V (Nat.zero_le _) (by omega)
 have HF1:Hid (∀ k j,k≤m→(∀ s,s<k→∀ t ∈ setsS m s 0,pD (tblOf P M.toNat mod).ops L m r t=false)→(∀ i,i<j→pD (tblOf P M.toNat mod).ops L m r (nthR (setsS m k 0) i)=false)→j<(setsS m k 0).length→r≤dimZ (tblOf P M.toNat mod).ops L m (nthR (setsS m k 0) j)→firS (tblOf P M.toNat mod).ops L m r=nthR (setsS m k 0) j):=fun k j hk h0 h1 hj hp=>by
  unfold firS
  rw [findS_at hk h0 h1 hj (by unfold pD;exact decide_eq_true hp)];rfl
 have HF2:Hid ((∀ s,s<m+1→∀ t ∈ setsS m s 0,pD (tblOf P M.toNat mod).ops L m r t=false)→firS (tblOf P M.toNat mod).ops L m r=[]):=fun h0=>by
  unfold firS
  rw [findS_no h0];rfl
 have HP:Hid (∀ t,¬ r≤dimZ (tblOf P M.toNat mod).ops L m t→pD (tblOf P M.toNat mod).ops L m r t=false):=fun t h=>by unfold pD;exact decide_eq_false h
 obtain ⟨dz,hdz⟩:∃ dz,dimZ (tblOf P M.toNat mod).ops L m=dz:=⟨_,rfl⟩
 obtain ⟨p,hp⟩:∃ p,pD (tblOf P M.toNat mod).ops L m r=p:=⟨_,rfl⟩
 obtain ⟨X,hX⟩:∃ X,firS (tblOf P M.toNat mod).ops L m r=X:=⟨_,rfl⟩
 rw [hdz] at HD HF1 HP
 rw [hp] at HF1 HF2 HP
 rw [hX] at HF1 HF2 ⊢
 clear hdz hp hX hE
 go_enter Tryz.func71,Tryz.ntmps71
 go_wp2_with fail
 obtain ⟨W,hW⟩:∃ W:World,W=w.alloc (.cells #[.int .i64 P,.int .i64 M,.slice am mn cm,.int .i64 m,.slice a n c] 27):=⟨_,rfl⟩
 rw [← hW]
 have hbW:Below w.heap.size w W:=by rw [hW];exact below1 _ _
 have x0:Box W w.heap.size [.int .i64 P,.int .i64 M,.slice am mn cm,.int .i64 m,.slice a n c]:=by rw [hW];exact Box.new _ _ _ rfl
 have HX:Hid (∀ V,Below W.heap.size W V→V.cell? ⟨w.heap.size,0,none⟩=some (.int .i64 P)∧V.cell? ⟨w.heap.size,1,none⟩=some (.int .i64 M)∧V.cell? ⟨w.heap.size,2,none⟩=some (.slice am mn cm)∧V.cell? ⟨w.heap.size,3,none⟩=some (.int .i64 m)∧V.cell? ⟨w.heap.size,4,none⟩=some (.slice a n c)):=fun V hV=>by
  have x1:=x0.keep hV
  exact ⟨x1.cell 0 rfl,x1.cell 1 rfl,x1.cell 2 rfl,x1.cell 3 rfl,x1.cell 4 rfl⟩
 have HbW:=Lib.hid hbW
 clear hW x0 hbW
 go_loopw [5] (fun kv wr=>∃ k:Nat,k≤m+1∧kv = .int .i64 k∧Hid (∀ s,s<k→∀ t ∈ setsS m s 0,p t=false)∧Below W.heap.size W wr) (fun kv _=>m+1 - (intOf kv).toNat)
 case atStart=>exact ⟨0,Nat.zero_le _,rfl,fun s hs=>by omega,Below.refl _ _⟩
 case round =>
  obtain ⟨k,hk,rfl,Hk,hbr⟩:=hrel
  obtain ⟨c0,c1,c2,c3,c4⟩:=HX.out wr hbr
  by_cases hlt:k≤m
  ·have hle:decide ((k:Int)≤(m:Int))=true:=by simp;omega
   have Hcall:=Lib.hid (HSt.out k wr hlt)
   have HF1k:Hid (∀ j,(∀ i,i<j→p (nthR (setsS m k 0) i)=false)→j<(setsS m k 0).length→r≤dz (nthR (setsS m k 0) j)→X=nthR (setsS m k 0) j):=fun j=>HF1.out k j hlt Hk.out
   have HTk:Hid ((∀ i,i<(setsS m k 0).length→p (nthR (setsS m k 0) i)=false)→∀ s,s<k+1→∀ t ∈ setsS m s 0,p t=false):=fun h s hs t ht=>by
    by_cases e:s=k
    ·subst e
     obtain ⟨i,hi,rfl⟩:=mem_nthR ht
     exact h i hi
    ·exact Hk.out s (by omega) t ht
   unfold SetsPost at Hcall
   have ht16:(setsS m k 0).length≤65536:=by
    have h1:=setsS_len m k 0 (Nat.zero_le _)
    have h2:2 ^ (m - 0)≤2 ^ 16:=Nat.pow_le_pow_right (by omega) (by omega)
    omega
   obtain ⟨T,hT⟩:∃ T,setsS m k 0=T:=⟨_,rfl⟩
   rw [hT] at Hcall HF1k HTk ht16
   obtain ⟨t,ht⟩:∃ t,T.length=t:=⟨_,rfl⟩
   rw [ht] at Hcall HF1k HTk ht16
   clear hT ht
   go_wp2_with fail
   refine Hcall.out.mono ?_
   rintro e U ⟨a2,c2',R2,rfl,hO2,hbU⟩
   have hN2:=hO2.matN
   have hpl2:=hN2.pl
   have htm:=hN2.max
   unfold maxLen at htm
   have hbrU:=Below.next hbr hbU
   have hsz:=hbr.size
   have hsW:=HbW.out.size
   clear hO2 Hcall c0 c1 c2 c3 c4
   go_wp2_with fail
   go_loopw [7] (fun jv wx=>∃ j:Nat,j≤t∧jv = .int .i64 j∧Hid (∀ i,i<j→p (nthR T i)=false)∧Below U.heap.size U wx) (fun jv _=>t - (intOf jv).toNat)
   case atStart=>exact ⟨0,Nat.zero_le _,rfl,fun i hi=>by omega,Below.refl _ _⟩
   case round =>
    obtain ⟨j,hj,rfl,Hj,hbx⟩:=hrel
    by_cases hlj:j<t
    ·obtain ⟨rb,rn,rc,hcell,hrow⟩:=hN2.cell j hlj
     have Hdim:Hid (∀ V,Below U.heap.size U V→Calls Tryz.prog 75 #[.agg #[.int .i64 P,.int .i64 M,.slice am mn cm,.int .i64 m,.slice a n c],.slice rb rn rc] V fun e w'=>e = .returned (.int .i64 (dz (nthR T j)))∧Below V.heap.size V w'):=fun V hV =>
      HD.out V rb rn rc (nthR T j) (Below.next HbW.out (Below.next hbrU hV)) (hrow.ints.keep hV)
     have HS:Hid (∀ V,Below U.heap.size U V→V.cell? ⟨w.heap.size,0,none⟩=some (.int .i64 P)∧V.cell? ⟨w.heap.size,1,none⟩=some (.int .i64 M)∧V.cell? ⟨w.heap.size,2,none⟩=some (.slice am mn cm)∧V.cell? ⟨w.heap.size,3,none⟩=some (.int .i64 m)∧V.cell? ⟨w.heap.size,4,none⟩=some (.slice a n c)∧V.cell? ⟨ablk a2,aoff a2+j,none⟩=some (.slice rb rn rc)∧Below U.heap.size U V):=fun V hV=>by
      obtain ⟨x0,x1,x2,x3,x4⟩:=HX.out V (Below.next hbrU hV)
      exact ⟨x0,x1,x2,x3,x4,cell_keep hV hcell,hV⟩
     have Hbx:=Lib.hid hbx
     have Hrow:Hid (IntsN w.heap.size U rb rn (nthR T j)):=hrow.mono (by omega)
     have hrl:=hrow.ints.len
     have HFj:=Lib.hid (HF1k.out j Hj.out hlj)
     have HPj:=Lib.hid (HP.out (nthR T j))
     obtain ⟨tj,htj⟩:∃ tj,nthR T j=tj:=⟨_,rfl⟩
     have Htj:=Lib.hid htj
     rw [htj] at Hdim Hrow HFj HPj hrl
     clear hcell hrow hbx htj
     obtain ⟨d,hd⟩:∃ d,dz tj=d:=⟨_,rfl⟩
     rw [hd] at Hdim HFj HPj
     clear hd
     by_cases hrd:r≤d
     ·have hd':decide (r≤d)=true:=by simpa using hrd
      have HXe:Hid (X=tj):=HFj.out hrd
      clear hrd
      go_wp2_with fail
      go_region_held3 (fun V=>V.cell? ⟨w.heap.size,0,none⟩=some (.int .i64 P)∧V.cell? ⟨w.heap.size,1,none⟩=some (.int .i64 M)∧V.cell? ⟨w.heap.size,2,none⟩=some (.slice am mn cm)∧V.cell? ⟨w.heap.size,3,none⟩=some (.int .i64 m)∧V.cell? ⟨w.heap.size,4,none⟩=some (.slice a n c)∧V.cell? ⟨ablk a2,aoff a2+j,none⟩=some (.slice rb rn rc)∧Below U.heap.size U V)
       ((refine HS.out _ ?_;first | exact Hbx.out.drew | (go_split_ands;exact Below.next (by assumption) (by assumption))))
       (first
        | (go_at_call 75;((with_reducible refine (Hdim.out _ (by go_split_ands;assumption)).mono ?_);rintro e w6 ⟨rfl,hb6⟩)))
      have hbV:Below U.heap.size U w6:=by go_split_ands;assumption
      have HR:Hid (IntsN w.heap.size w6 rb rn tj∧Below w.heap.size w w6):=⟨Hrow.out.keep hbV,Below.next HbW.out (Below.next hbrU hbV)⟩
      subst hrl
      go_wp2_with fail
      go_ret
      rw [HXe.out]
      exact ⟨rb,rc,rfl,HR.out.1,HR.out.2⟩
     ·have hd':decide (r≤d)=false:=by simpa using hrd
      have Hfalse:Hid (p tj=false):=HPj.out (by omega)
      clear hrd
      go_wp2_with fail
      go_region_held3 (fun V=>V.cell? ⟨w.heap.size,0,none⟩=some (.int .i64 P)∧V.cell? ⟨w.heap.size,1,none⟩=some (.int .i64 M)∧V.cell? ⟨w.heap.size,2,none⟩=some (.slice am mn cm)∧V.cell? ⟨w.heap.size,3,none⟩=some (.int .i64 m)∧V.cell? ⟨w.heap.size,4,none⟩=some (.slice a n c)∧V.cell? ⟨ablk a2,aoff a2+j,none⟩=some (.slice rb rn rc)∧Below U.heap.size U V)
       ((refine HS.out _ ?_;first | exact Hbx.out.drew | (go_split_ands;exact Below.next (by assumption) (by assumption))))
       (first
        | (go_at_call 75;((with_reducible refine (Hdim.out _ (by go_split_ands;assumption)).mono ?_);rintro e w6 ⟨rfl,hb6⟩)))
      have hbV:Below U.heap.size U w6:=by go_split_ands;assumption
      go_wp2_with fail
      go_roundw
      case rel=>exact ⟨j+1,by omega,by go_num,fun i hi=>by
       by_cases e:i=j
       ·subst e;rw [Htj.out];exact Hfalse.out
       ·exact Hj.out i (by omega),hbV⟩
      case measure=>simp [intOf] <;> omega
    ·obtain rfl:j=t:=by omega
     have hbV:=Below.next hbrU hbx
     have Hn:Hid (∀ s,s<k+1→∀ t ∈ setsS m s 0,p t=false):=HTk.out Hj.out
     go_wp2_with fail
     go_roundw
     case rel=>exact ⟨k+1,by omega,by go_num,Hn.out,hbV⟩
     case measure=>simp [intOf] <;> omega
  ·obtain rfl:k=m+1:=by omega
   have hle:decide (((m+1:Nat):Int)≤(m:Int))=false:=by simp;omega
   have HXe:Hid (X=[]):=HF2.out Hk.out
   have hF:=Below.next HbW.out hbr
   go_wp2_with fail
   go_ret
   rw [HXe.out]
   exact ⟨none,0,rfl,⟨⟨rfl,fun h=>absurd h (Nat.lt_irrefl 0),Nat.zero_le _,fun i hi=>absurd hi (Nat.not_lt_zero i)⟩,fun h=>absurd h (Nat.lt_irrefl 0)⟩,hF⟩
end

section
open Go.RowKit
theorem profTo_len (l:List Int) (n:Nat):∀ k,(profTo l n k).length=n+1
 | 0=>by simp [profTo]
 | k+1=>by rw [profTo,List.length_set];exact profTo_len l n k
end

section
open Go.RowKit
section
variable {O:FOps} {El:Int→Prop} {m:Nat} {L:List (List Int)}
theorem fir_some (F:Fld O El) (hL:Rws El m L) (hm:m≤64) {r:Int} (hr:r≤L.length):Asc 0 m (firS O L m r)∧r≤dimZ O L m (firS O L m r)∧∀ t,Asc 0 m t→r≤dimZ O L m t→(firS O L m r).length≤t.length:=by
 have hfull:bitsTo (2 ^ m - 1) m ∈ allS m:=mem_allS.2 (bits_asc _ _)
 have hp2:0<2 ^ m:=Nat.two_pow_pos m
 have hd:pD O L m r (bitsTo (2 ^ m - 1) m)=true:=by
  unfold pD
  rw [decide_eq_true_eq,dimZ_bits F hL (by omega),dims_nth F hL (by omega)]
  have e:offTo (2 ^ m - 1) m=[]:=by
   refine List.eq_nil_iff_forall_not_mem.2 fun y hy=>?_
   obtain ⟨j,h1,_,h3⟩:=mem_offTo.1 hy
   rw [Nat.testBit_two_pow_sub_one] at h3
   simp at h3;omega
  rw [e]
  have:=rkQ_le O L []
  simp at this
  omega
 cases hf:(allS m).find? (pD O L m r) with
 | none=>exact absurd hd (List.find?_eq_none.1 hf _ hfull)
 | some t =>
  have e:firS O L m r=t:=by unfold firS;rw [hf];rfl
  obtain ⟨k1,k2,k3⟩:=find_first (allS_pair m) hf
  rw [e]
  refine ⟨mem_allS.1 k2,by unfold pD at k1;simpa using k1,fun u hu hru=>?_⟩
  rcases k3 u (mem_allS.2 hu) (by unfold pD;exact decide_eq_true hru) with h | h
  ·rw [h];exact Nat.le_refl _
  ·rw [lessS_iff] at h;omega
theorem prof_iff (l:List Int) (n:Nat) {i:Nat} (hi:i≤n):∀ k,k≤2 ^ n→(0≤nth (profTo l n k) i)∧(∀ x,x<k→(bitsTo x n).length=i→nth l x≤nth (profTo l n k) i)∧(nth (profTo l n k) i=0∨∃ x,x<k∧(bitsTo x n).length=i∧nth (profTo l n k) i=nth l x)
 | 0,_=>by
  have e:nth (profTo l n 0) i=0:=by rw [profTo];simp [nth,List.getD_eq_getElem?_getD,List.getElem?_replicate];split <;> rfl
  rw [e]
  exact ⟨Int.le_refl _,fun x hx=>by omega,.inl rfl⟩
 | k+1,hk=>by
  obtain ⟨h1,h2,h3⟩:=prof_iff l n hi k (by omega)
  have hbl:=bitsTo_len k n
  have e:nth (profTo l n (k+1)) i=if i=(bitsTo k n).length then max (nth (profTo l n k) (bitsTo k n).length) (nth l k) else nth (profTo l n k) i:=by
   rw [profTo,nth_set _ _ _ _ (by rw [profTo_len];omega)]
  rw [e]
  by_cases hc:i=(bitsTo k n).length
  ·rw [if_pos hc,← hc]
   refine ⟨by omega,fun x hx hxl=>?_,?_⟩
   ·by_cases e2:x=k
    ·subst e2;omega
    ·have:=h2 x (by omega) hxl;omega
   ·by_cases h4:nth l k≤nth (profTo l n k) i
    ·rw [Int.max_eq_left h4]
     rcases h3 with h3 | ⟨x,a1,a2,a3⟩
     ·exact .inl h3
     ·exact .inr ⟨x,by omega,a2,a3⟩
    ·rw [Int.max_eq_right (by omega)]
     exact .inr ⟨k,by omega,hc.symm,rfl⟩
  ·rw [if_neg hc]
   refine ⟨h1,fun x hx hxl=>?_,?_⟩
   ·by_cases e2:x=k
    ·subst e2;exact absurd hxl.symm hc
    ·exact h2 x (by omega) hxl
   ·rcases h3 with h3 | ⟨x,a1,a2,a3⟩
    ·exact .inl h3
    ·exact .inr ⟨x,by omega,a2,a3⟩
def mxTo (f:List Int→Int) (T:List (List Int)):Nat→Int
 | 0=>0
 | j+1=>max (mxTo f T j) (f (nthR T j))
def prfR (O:FOps) (L:List (List Int)) (m i:Nat):Int:=mxTo (dimZ O L m) (setsS m i 0) (setsS m i 0).length
theorem mx_iff (f:List Int→Int) (T:List (List Int)):∀ k,0≤mxTo f T k∧(∀ j,j<k→f (nthR T j)≤mxTo f T k)∧(mxTo f T k=0∨∃ j,j<k∧mxTo f T k=f (nthR T j))
 | 0=>⟨Int.le_refl _,fun j hj=>by omega,.inl rfl⟩
 | k+1=>by
  obtain ⟨h1,h2,h3⟩:=mx_iff f T k
  rw [mxTo]
  refine ⟨by omega,fun j hj=>?_,?_⟩
  ·by_cases e:j=k
   ·subst e;omega
   ·have:=h2 j (by omega);omega
  ·by_cases h4:f (nthR T k)≤mxTo f T k
   ·rw [Int.max_eq_left h4]
    rcases h3 with h3 | ⟨j,a1,a2⟩
    ·exact .inl h3
    ·exact .inr ⟨j,by omega,a2⟩
   ·rw [Int.max_eq_right (by omega)]
    exact .inr ⟨k,by omega,rfl⟩
theorem prof_at (F:Fld O El) (hL:Rws El m L) (hm:m≤64) {i:Nat} (hi:i≤m):nth (profS (dimsS O m L) m) i=prfR O L m i:=by
 unfold profS prfR
 obtain ⟨h1,h2,h3⟩:=prof_iff (dimsS O m L) m hi (2 ^ m) (Nat.le_refl _)
 obtain ⟨g1,g2,g3⟩:=mx_iff (dimZ O L m) (setsS m i 0) (setsS m i 0).length
 apply Int.le_antisymm
 ·rcases h3 with h3 | ⟨x,a1,a2,a3⟩
  ·rw [h3];exact g1
  ·rw [a3,← dimZ_bits F hL a1]
   obtain ⟨j,hj,e⟩:=mem_nthR (mem_setsS.2 ⟨a2,bits_asc x m⟩)
   rw [← e];exact g2 j hj
 ·rcases g3 with g3 | ⟨j,a1,a2⟩
  ·rw [g3];exact h1
  ·obtain ⟨b1,b2⟩:=mem_setsS.1 (nthR_mem a1)
   obtain ⟨x,hx,e⟩:=asc_bits hm b2
   rw [a2,← e,dimZ_bits F hL hx]
   exact h2 x hx (by rw [e];exact b1)
def wtsR (O:FOps) (L:List (List Int)) (m k:Nat):List Int:=(List.range k).map fun (i:Nat)=>((firS O L m ((i:Int)+1)).length:Int)
theorem wts_at (F:Fld O El) (hL:Rws El m L) (hm:m≤64) {r:Int} (h1:1≤r) (hr:r≤L.length):ixGe (profS (dimsS O m L) m) r=((firS O L m r).length:Int):=by
 obtain ⟨a1,a2,a3⟩:=fir_some F hL hm hr
 have hlen:(profS (dimsS O m L) m).length=m+1:=profTo_len _ _ _
 have hal:=asc_len a1 (Nat.zero_le m)
 have h:=ixGo_at r (profS (dimsS O m L) m) (firS O L m r).length 0 (by omega) (fun j hj=>?_) ?_
 ·unfold ixGe;rw [h];simp
 ·rw [prof_at F hL hm (by omega)]
  obtain ⟨g1,g2,g3⟩:=mx_iff (dimZ O L m) (setsS m j 0) (setsS m j 0).length
  unfold prfR
  rcases g3 with g3 | ⟨q,b1,b2⟩
  ·omega
  ·obtain ⟨c1,c2⟩:=mem_setsS.1 (nthR_mem b1)
   rw [b2]
   rcases Int.lt_or_le (dimZ O L m (nthR (setsS m j 0) q)) r with h | h
   ·exact h
   ·have:=a3 _ c2 h;omega
 ·rw [prof_at F hL hm (by omega)]
  obtain ⟨g1,g2,g3⟩:=mx_iff (dimZ O L m) (setsS m (firS O L m r).length 0) (setsS m (firS O L m r).length 0).length
  obtain ⟨q,hq,e⟩:=mem_nthR (mem_setsS.2 ⟨rfl,a1⟩)
  have:=g2 q hq
  rw [e] at this
  unfold prfR;omega
theorem wts_eq (F:Fld O El) (hL:Rws El m L) (hm:m≤64):wtsS O m L=wtsR O L m L.length:=by
 unfold wtsS wtsTo wtsR
 refine List.map_congr_left fun i hi=>?_
 rw [List.mem_range] at hi
 exact wts_at F hL hm (by omega) (by omega)
end
end

section
open Go.RowKit
section
variable {O:FOps} {El:Int→Prop} {m:Nat} {L:List (List Int)}
theorem used_asc {t:List Int} (ht:Asc 0 m t):frTo true t m=t:=by
 refine asc_ext (frTo_pair true _ m) ht.1 fun v=>?_
 rw [mem_frTo]
 constructor
 ·rintro ⟨j,hj,rfl,h⟩
  exact of_decide_eq_true h
 ·intro hv
  have h1:=ht.2 v hv
  refine ⟨v.toNat,by omega,by omega,?_⟩
  rw [decide_eq_true_eq]
  have:(v.toNat:Int)=v:=by omega
  rw [this];exact hv
end
section
variable {P M:Int} {mod:List Int} {m:Nat} {L:List (List Int)}
end
end

end Go.Proofs.YtcflcogbpnmjeaaGreat
