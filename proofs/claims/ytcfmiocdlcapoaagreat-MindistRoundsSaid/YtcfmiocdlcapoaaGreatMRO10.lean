import Derived.Test.YtcfmiocdlcapoaaGreatK28
import Derived.Test.YtcfmiocdlcapoaaGreatMRO5
import Derived.Test.YtcfmiocdlcapoaaGreatK22
import Derived.Test.YtcfmiocdlcapoaaGreatK21
import Derived.Test.YtcfmiocdlcapoaaGreatMRO7
import Derived.Test.YtcfmiocdlcapoaaGreatK25
import Derived.Test.YtcfmiocdlcapoaaGreatMRO8
import Derived.Test.YtcfmiocdlcapoaaGreatMRO2
import Derived.Test.YtcfmiocdlcapoaaGreatK31
import Derived.Test.YtcfmiocdlcapoaaGreatMRO6
import Derived.BigQuiet
import Derived.Test.YtcfmiocdlcapoaaGreatMRO9
import Derived.Test.YtcfmiocdlcapoaaGreatK19
namespace Go.Proofs.YtcfmiocdlcapoaaGreat
set_option linter.unusedVariables false
set_option linter.unusedSimpArgs false
set_option linter.unusedSectionVars false
set_option maxRecDepth 100000
set_option maxHeartbeats 16000000
open Go.RowKit
theorem gv (a : OA) (n c : Nat) (l : Lz) (w : World) (h : Ints w a n l) :
  Calls Tryz.prog 20 #[.slice a n c] w λe w'=>e = .returned (.int .i64 (bw l))/\w'=w:=by
 have Hl:=Z5 h.len
 have hpl:=h.pl
 have hmax:=h.max
 unfold maxLen at hmax
 have hle : ∀k,k<=n->(bw (l.take k) : Int)<=k:=λk hk=>by
  have h1 : bw (l.take k)<=(l.take k).length:=List.countP_le_length
  rw [List.length_take] at h1
  omega
 have Hle:=Z5 hle
 have HT : Hid (bw (l.take n)=bw l):=by show _=_;rw [List.take_of_length_le (by rw [Hl.out];exact Nat.le_refl _)]
 clear hle
 go_enter Tryz.func20,Tryz.ntmps20
 go_wp2_with fail
 go_loopw [3,4] (λcv iv wr=>∃k : Nat,k<=n/\iv = .int .i64 k/\cv = .int .i64 (bw (l.take k))/\wr=w) (λ_ iv _=>n - (intOf iv).toNat)
 case atStart=>exact ⟨0,Nat.zero_le _,rfl,by simp [bw],rfl⟩
 case round =>
  obtain ⟨k,hk,rfl,rfl,rfl⟩:=hrel
  by_cases hlt : k<n
  ·have ck:=h.cell k hlt
   have hkl : k<l.length:=by rw [Hl.out];exact hlt
   have hst : bw (l.take (k+1))=bw (l.take k)+(if nth l k ≠ 0 then 1 else 0):=by
    unfold bw
    rw [List.take_succ_eq_append_getElem hkl,List.countP_append,List.countP_singleton,ai hkl]
    simp
   have hb:=Hle.out k hk
   obtain ⟨t,ht⟩ : ∃t,bw (l.take k)=t:=⟨_,rfl⟩
   obtain ⟨y,hy⟩ : ∃y,nth l k=y:=⟨_,rfl⟩
   rw [ht] at hst hb ⊢
   rw [hy] at hst ck
   clear ht hy hkl
   by_cases h0 : y=0
   ·have hd : (y != 0)=false:=by simpa using h0
    have Hst : Hid (bw (l.take (k+1))=t):=by show _=_;rw [hst,if_neg (by simpa using h0)];rfl
    clear h0 hst
    go_wp2_with fail
    go_roundw
    case rel=>exact ⟨k+1,by omega,by go_num,by rw [Hst.out],by simp⟩
    case measure=>simp [intOf] <;> omega
   ·have hd : (y != 0)=true:=by simpa using h0
    have Hst : Hid (bw (l.take (k+1))=t+1):=by show _=_;rw [hst,if_pos h0]
    clear h0 hst
    go_wp2_with fail
    go_roundw
    case rel=>exact ⟨k+1,by omega,by go_num,by rw [Hst.out];go_num,by simp⟩
    case measure=>simp [intOf] <;> omega
  ·obtain rfl : k=n:=by omega
   rw [HT.out]
   go_wp2_with fail
   go_ret
   exact ⟨rfl,rfl⟩
theorem Cj : ∀(l l' : Lz) (i : Nat),l.length=l'.length->i<l.length->(∀j,j<i->nth l j=nth l' j)->nth l i ≠ nth l' i->decide (cmpL l l'<0)=decide (nth l i<nth l' i)
 | [],_,i,_,h,_,_=>by simp at h
 | _ :: _,[],_,h,_,_,_=>by simp at h
 | x :: l,y :: l',0,_,_,_,hne=>by
  rw [cG,cG] at hne
  rw [cG,cG,cmpL]
  by_cases h1 : x<y
  ·rw [if_pos h1,decide_eq_true h1];rfl
  ·rw [if_neg h1,if_pos (by omega),decide_eq_false h1];rfl
 | x :: l,y :: l',i+1,hl,hi,heq,hne=>by
  have h0:=heq 0 (by omega)
  rw [cG,cG] at h0
  subst h0
  rw [cw,cw] at hne
  rw [cw,cw,cmpL,if_neg (by omega),if_neg (by omega)]
  refine Cj l l' i (by simpa using hl) (by simpa using hi) (λj hj=>?_) hne
  have:=heq (j+1) (by omega)
  rwa [cw,cw] at this
theorem Iz (l l' : Lz) (hl : l.length=l'.length) (h : ∀j,j<l.length->nth l j=nth l' j) : cmpL l l'=0:=by
 have e : l=l':=List.ext_getElem hl λi h1 h2=>by
  have:=h i h1
  rwa [ai h1,ai h2] at this
 rw [e,jC]
theorem zp (a : OA) (n c : Nat) (l : Lz) (a' : OA) (c' : Nat) (l' : Lz) (w : World) (hi : Ints w a n l) (hi' : Ints w a' n l') :
  Calls Tryz.prog 53 #[.slice a n c,.slice a' n c'] w λe w'=>e = .returned (.bool (decide (cmpL l l'<0)))/\Below w.heap.size w w':=by
 have hpl:=hi.pl
 have hpl':=hi'.pl
 have hmax:=hi.max
 have Hl:=Z5 hi.len
 have Hl':=Z5 hi'.len
 unfold maxLen at hmax
 go_enter Tryz.func53,Tryz.ntmps53
 go_wp2_with fail
 go_loopw [5] (λiv wr=>∃k : Nat,k<=n/\iv = .int .i64 k/\Hid (∀j,j<k->nth l j=nth l' j)/\Below w.heap.size w wr) (λiv _=>n - (intOf iv).toNat)
 case atStart=>exact ⟨0,Nat.zero_le _,rfl,λj hj=>by omega,Below.refl _ _⟩
 case round =>
  obtain ⟨k,hk,rfl,hno,hbr⟩:=hrel
  generalize wr=V at *
  by_cases hlt : k<n
  ·have ck:=(hi.ah hbr).cell k hlt
   have ck':=(hi'.ah hbr).cell k hlt
   by_cases h0 : nth l k=nth l' k
   ·have Hn : Hid (∀j,j<k+1->nth l j=nth l' j):=λj hj=>by
     by_cases e : j=k
     ·subst e;exact h0
     ·exact hno.out j (by omega)
    rw [<- h0] at ck'
    have hd : (nth l k != nth l k)=false:=by simp
    clear h0 hno
    generalize nth l k=x at *
    go_wp2_with fail
    go_quiet (fail)
    go_wp2_with fail
    go_roundw
    case rel=>exact ⟨k+1,by omega,by go_num,Hn.out,Below.next hbr (bd.below ⟨_,rfl⟩)⟩
    case measure=>simp [intOf] <;> omega
   ·have Hr : Hid (decide (cmpL l l'<0)=decide (nth l k<nth l' k)):=Cj l l' k (by rw [Hl.out,Hl'.out]) (by rw [Hl.out];exact hlt) hno.out h0
    have hd : (nth l k != nth l' k)=true:=by simpa using h0
    clear h0 hno
    generalize nth l k=x at *
    generalize nth l' k=y at *
    go_wp2_with fail
    go_quiet (fail)
    go_wp2_with fail
    have hbx : Below w.heap.size w V.drew:=hbr.drew
    go_quiet (fail)
    go_wp2_with fail
    go_ret
    exact ⟨aY Hr.out.symm,Below.next hbr (Below.next (bd.below ⟨_,rfl⟩) (bd.below ⟨_,rfl⟩))⟩
  ·obtain rfl : k=n:=by omega
   have Hr : Hid (decide (cmpL l l'<0)=false):=by
    show _=_
    rw [Iz l l' (by rw [Hl.out,Hl'.out]) (by rw [Hl.out];exact hno.out)];rfl
   clear hno
   go_wp2_with fail
   go_ret
   exact ⟨aY Hr.out.symm,hbr⟩
theorem vi {P M : Int} {am : OA} {mn cm : Nat} {mod : Lz} {m : Nat} (hB : bA P M mod=true) (hm64 : m<=1000000) (av : OA) (cv : Nat) (v : Lz) (s : Int) (au : OA) (cu : Nat) (u : Lz) (w : World)
  (hmod : Ints w am mn mod) (hi : Ints w av m v) (hu : Ints w au m u) (hv : Vc (aa P M.toNat mod).El m v) (hs : (aa P M.toNat mod).El s) (hue : Vc (aa P M.toNat mod).El m u) :
  Calls Tryz.prog 115 #[.agg #[.int .i64 P,.int .i64 M,.slice am mn cm],.slice av m cv,.int .i64 s,.slice au m cu] w λe w'=>∃a1 c1,e = .returned (.slice a1 m c1)/\w'.ownsRow w.heap.size 3 1 (.slice a1 m c1) m ((bJ (aa P M.toNat mod).ops v s u).map (Value.int .i64))/\Below w.heap.size w w':=by
 obtain ⟨k,hk,hel,hq,hF,hA,_⟩:=fU hB
 subst hk
 obtain ⟨k',e2,hrf,hmods⟩:=eW (P:=P) (M:=(k : Int)) (mod:=mod) (by rw [cP];exact hB)
 obtain rfl : k=k':=by omega
 rw [Int.toNat_natCast] at hv hs hue ⊢
 rw [<- hel] at hv hs hue
 have h:=jJ P k am mn cm mod av m cv v s au cu u w ⟨hrf,hmods w am mn hmod⟩ hs hi hu hv.2 hue.2 hm64
 rw [<- lV hA hF.cl v u s hv.2 hue.2 hs] at h
 refine h.mono ?_
 rintro e w' ⟨a1,c1,rfl,hown,hb⟩
 have hl : (bJ (aa P k mod).ops v s u).length=m:=by rw [cH _ _ _ _ (by rw [hue.1,hv.1])];exact hv.1
 rw [hl] at hown ⊢
 exact ⟨a1,c1,rfl,hown,hb⟩
theorem Dq {P M : Int} {am : OA} {mn cm : Nat} {mod : Lz} (hB : bA P M mod=true) (x : Int) (w : World) (hmod : Ints w am mn mod) (hx : (aa P M.toNat mod).El x) (h0 : x ≠ 0) :
  Calls Tryz.prog 116 #[.agg #[.int .i64 P,.int .i64 M,.slice am mn cm],.int .i64 x] w λe w'=>e = .returned (.int .i64 ((aa P M.toNat mod).ops.inv x))/\Below w.heap.size w w':=by
 obtain ⟨k,hk,hel,hq,hF,hA,_⟩:=fU hB
 subst hk
 obtain ⟨k',e2,hrf,hmods⟩:=eW (P:=P) (M:=(k : Int)) (mod:=mod) (by rw [cP];exact hB)
 obtain rfl : k=k':=by omega
 rw [Int.toNat_natCast] at hx ⊢
 rw [<- hel] at hx
 rw [hA.inv x hx h0]
 exact qi P k am mn cm mod x w ⟨hrf,hmods w am mn hmod⟩ hx
theorem Ba {O : aQ} {El : Int->Prop} (F : cK O El) {m : Nat} {v : Lz} (hv : Vc El m v) {s : Int} (hs : El s) : bJ O (List.replicate m 0) s v=v.map (O.mul s):=by
 have hl : v.length=(List.replicate m (0 : Int)).length:=by simp [hv.1]
 refine List.ext_getElem (by rw [cH _ _ _ _ hl,List.length_map,List.length_replicate,hv.1]) λi h1 h2=>?_
 have hi : i<m:=by rw [cH _ _ _ _ hl,List.length_replicate] at h1;exact h1
 have h3:=gL O (List.replicate m (0 : Int)) s v i hl (by simpa using hi)
 rw [ai h1] at h3
 have h4 : nth (List.replicate m (0 : Int)) i=0:=by rw [ai (by simpa using hi)];simp
 rw [h3,List.getElem_map,<- ai (by rw [hv.1];exact hi),h4]
 by_cases h0 : nth v i=0
 ·rw [if_pos h0,h0,F.dA hs]
 ·rw [if_neg h0,F.Aj (F.cl.mul _ _ hs (hv.at hi))]
theorem xT {P M : Int} {am : OA} {mn cm : Nat} {mod : Lz} {m : Nat} (hB : bA P M mod=true) (hm64 : m<=64) (av : OA) (cv : Nat) (v : Lz) (w : World)
  (hmod : Ints w am mn mod) (hi : Ints w av m v) (hv : Vc (aa P M.toNat mod).El m v) (h0 : bw v ≠ 0) :
  Calls Tryz.prog 52 #[.agg #[.int .i64 P,.int .i64 M,.slice am mn cm],.slice av m cv] w λe w'=>∃a1 c1,e = .returned (.slice a1 m c1)/\w'.ownsRow w.heap.size 3 1 (.slice a1 m c1) m ((dT (aa P M.toNat mod).ops v).map (Value.int .i64))/\Below w.heap.size w w':=by
 have F:=eX hB
 obtain ⟨G,hG⟩ : ∃G,aa P M.toNat mod=G:=⟨_,rfl⟩
 obtain ⟨f,hf⟩ : ∃f,fnz v=f:=⟨_,rfl⟩
 have hfl : f<m:=by rw [<- hf,<- hv.1];exact mL h0
 have hne : nth v f ≠ 0:=by rw [<- hf];exact jf v (by rw [hf,hv.1];exact hfl)
 have hel:=hv.at hfl
 have hze : ∀j,j<f->nth v j=0:=λj hj=>iO v j (by rw [hf];exact hj)
 obtain ⟨x,hx⟩ : ∃x,nth v f=x:=⟨_,rfl⟩
 rw [hx] at hne hel
 have JO : Hid (∀V,Below w.heap.size w V->Calls Tryz.prog 116 #[.agg #[.int .i64 P,.int .i64 M,.slice am mn cm],.int .i64 x] V λe w'=>e = .returned (.int .i64 (G.ops.inv x))/\Below V.heap.size V w'):=λV hV=>by
  rw [<- hG];exact Dq hB x V (hmod.ah hV) hel hne
 have hmo : dT G.ops v=bJ G.ops (List.replicate m 0) (G.ops.inv x) v:=by
  have hie:=(jd F hel hne).1
  rw [<- hG,Ba F hv hie,dT,hf,hx]
 have HAdd : Hid (∀V a1 c1,Below w.heap.size w V->Ints V a1 m (List.replicate m 0)->Calls Tryz.prog 115 #[.agg #[.int .i64 P,.int .i64 M,.slice am mn cm],.slice a1 m c1,.int .i64 (G.ops.inv x),.slice av m cv] V λe w'=>∃a1 c1,e = .returned (.slice a1 m c1)/\w'.ownsRow w.heap.size 3 1 (.slice a1 m c1) m ((dT G.ops v).map (Value.int .i64))/\Below V.heap.size V w'):=λV a1 c1 hV h1=>by
  have hie:=(jd F hel hne).1
  rw [hmo,<- hG]
  refine (vi hB (by omega) a1 c1 (List.replicate m 0) _ av cv v V (hmod.ah hV) h1 (hi.ah hV) ⟨by simp,λy hy=>by rw [List.eq_of_mem_replicate hy];exact F.zero⟩ hie hv).mono ?_
  rintro e w' ⟨a1,c1,rfl,h2,h3⟩
  exact ⟨a1,c1,rfl,aP h2 hV.size,h3⟩
 rw [hG]
 have hpl:=hi.pl
 have hmk:=run_mk (P:=Tryz.prog) 22 3 (.int .i64 0) 8 Tryz.underlying22 aX rfl m (by omega) (by omega)
 have Hmk:=Z5 hmk
 have Hi:=Z5 hi
 have Hze:=Z5 hze
 have hb0 : (x == 0)=false:=by simpa using hne
 clear hmod hB F hG hf hel hze hmo hmk h0 hv
 go_enter Tryz.func52,Tryz.ntmps52
 go_wp2_with fail
 obtain ⟨W,hW⟩ : ∃W : World,W=w.alloc (.cells #[.int .i64 P,.int .i64 M,.slice am mn cm] 24):=⟨_,rfl⟩
 rw [<- hW]
 have hbW : Below w.heap.size w W:=by rw [hW];exact an _ _
 have x0 : aV W w.heap.size [.int .i64 P,.int .i64 M,.slice am mn cm]:=by rw [hW];exact aV.new _ _ _ rfl
 have HX:=Z5 x0
 have HbW:=Z5 hbW
 have HI:=Z5 (hi.ah hbW)
 clear hW x0 hi
 go_loopw [5] (λiv wr=>∃k : Nat,k<=f/\iv = .int .i64 k/\wr=W) (λiv _=>f - (intOf iv).toNat)
 case atStart=>exact ⟨0,Nat.zero_le _,rfl,by first | rfl | trivial⟩
 case round =>
  obtain ⟨k,hk,rfl,rfl⟩:=hrel
  by_cases hlt : k<f
  ·have ck:=HI.out.cell k (by omega)
   rw [Hze.out k hlt] at ck
   have hkm : (k : Int)<(m : Int):=by omega
   go_wp2_with fail
   go_roundw
   case rel=>exact ⟨k+1,by omega,by go_num,by first | rfl | trivial⟩
   case measure=>simp [intOf] <;> omega
  ·obtain rfl : f=k:=by omega
   have ck:=HI.out.cell f hfl
   rw [hx] at ck
   have hkm : (f : Int)<(m : Int):=by omega
   have HS : Hid (∀V,Below wr.heap.size wr V->V.cell? ⟨w.heap.size,0,none⟩=some (.int .i64 P)/\V.cell? ⟨w.heap.size,1,none⟩=some (.int .i64 M)/\V.cell? ⟨w.heap.size,2,none⟩=some (.slice am mn cm)/\V.cell? ⟨ablk av,aJ av+f,none⟩=some (.int .i64 x)):=λV hV=>by
    have x1:=HX.out.ah hV
    exact ⟨x1.cell 0 rfl,x1.cell 1 rfl,x1.cell 2 rfl,aw hV ck⟩
   have HZ : Hid (∀V : World,Ints (V.alloc (.cells (Array.replicate m (Value.int .i64 0)) 3)) (some ⟨V.heap.size,0,none⟩) m (List.replicate m 0)):=λV=>by
    have h1:=lN V 3 (.int .i64 0) m (g:=V.heap.size) (B:=V.heap.size) rfl (Nat.le_refl _) (by unfold maxLen;omega)
    rw [show List.replicate m (Value.int .i64 0)=(List.replicate m (0 : Int)).map (Value.int .i64) by simp] at h1
    exact (Ints.own h1).1
   have hmk:=Hmk.out
   obtain ⟨c0,c1,c2,c3⟩:=HS.out wr (Below.refl _ _)
   clear hne hx ck
   generalize wr=Y at *
   obtain ⟨Z,hZ⟩ : ∃Z : Obj,Z = .cells (Array.replicate m (Value.int .i64 0)) 3:=⟨_,rfl⟩
   rw [<- hZ] at HZ
   obtain ⟨d0,d1,d2,d3⟩:=HS.out _ (an Y Z)
   rw [hZ] at d0 d1 d2 d3
   have HZe:=Z5 hZ
   have HbY:=HbW
   clear hZ
   go_upto_region 4 with fail
   go_region_law ((first
    | (go_simp;go_at_call 116;((with_reducible refine (JO.out _ (by first | exact HbW.out.drew | exact (Below.next HbW.out (an _ _)).drew)).mono ?_);rintro e w4 ⟨rfl,hb4⟩;have hbY4 : Below Y.heap.size Y w4:=(by first | exact Below.next (Below.refl _ _).drew hb4 | exact Below.next (an _ _).drew hb4);obtain ⟨e0,e1,e2,e3⟩:=HS.out w4 hbY4;obtain ⟨g0,g1,g2,g3⟩:=HS.out _ (Below.next hbY4 (an w4 (.cells (Array.replicate m (Value.int .i64 0)) 3)))))
    | (go_simp;go_at_call 115;((with_reducible refine (HAdd.out _ _ _ (by first | exact Below.next HbW.out hbY4 | exact Below.next HbW.out (Below.next hbY4 (an _ _)) | exact Below.next HbW.out (Below.next hbY4 (an _ _).drew)) (by rw [HZe.out] at HZ;first | exact (HZ.out w4).ah (Below.refl _ _).drew | exact HZ.out w4 | exact (HZ.out Y).ah (Below.next (Below.refl _ _).drew hb4))).mono ?_);rintro e w5 ⟨a5,c5,rfl,hI5,hb5⟩;have HI5:=Z5 hI5;clear hI5))))
   all_goals (
    have hF : Below w.heap.size w w5:=by first | exact Below.next (Below.next HbW.out hbY4) hb5 | exact Below.next (Below.next HbW.out (Below.next hbY4 (an _ _))) hb5 | exact Below.next (Below.next HbW.out (Below.next hbY4 (an _ _).drew)) hb5
    go_wp2_with fail
    go_ret
    exact ⟨a5,c5,rfl,HI5.out,hF⟩)
theorem lq {P M : Int} {mod : Lz} {m : Nat} {L : Ll} (hE : aL P M mod m L=0) {Q : Lz} (hQ : qp m Q) (hl : Q.length=L.length) (hg : (i7 (aa P M.toNat mod).ops L Q).length=Q.length)
  {v : Lz} (hvl : v.length=L.length) (hv : ∀k,k<L.length->(aa P M.toNat mod).El (nth v k)) :
  Vc (aa P M.toNat mod).El m (bj (aa P M.toNat mod).ops m v (cQ (aa P M.toNat mod).ops m L Q) L.length) /\
  (∀i,i<m->nth (redTo (aa P M.toNat mod).ops L (ek (aa P M.toNat mod) L m) (bj (aa P M.toNat mod).ops m v (cQ (aa P M.toNat mod).ops m L Q) L.length) L.length) i=0) /\
  aG Q (bj (aa P M.toNat mod).ops m v (cQ (aa P M.toNat mod).ops m L Q) L.length)=v:=by
 obtain ⟨N',e,hm1,hm64,F,hR⟩:=ba hE
 obtain rfl : m=N':=by omega
 have h6:=(dY (bh hE).2.2.2).2
 rw [Int.toNat_natCast] at h6
 have hcan : dD (aa P M.toNat mod).ops m L=L:=h6
 obtain ⟨hPv,_⟩:=du F hR
 have hcl:=cU F hR
 rw [hcan] at hPv hcl
 have hform:=λi hi=>tK F hR hQ hl hg i hi
 obtain ⟨hSr,hSl,hSu,_⟩:=jz hE hQ hl hg
 obtain ⟨c1,c2⟩:=dO F hSr (x:=v) (λk hk=>hv k (by omega)) L.length (by omega)
 have hSL : iD (aa P M.toNat mod).ops (aa P M.toNat mod).El m (cQ (aa P M.toNat mod).ops m L Q) L:=λi hi=>by
  obtain ⟨e,he,hy,_⟩:=hform i (by omega)
  exact ⟨e,he,hy⟩
 refine ⟨c1,tC F hR hPv hcl c1 (hSL.rs c2),?_⟩
 refine et (by rw [hvl,<- hl];simp [aG]) λj hj=>?_
 have hj2 : j<Q.length:=by simpa [aG] using hj
 have hqj:=hQ j hj2
 rw [dx Q _ hj2,eS F hSr (λk hk=>hv k (by omega)) (by omega) _ (by omega)]
 have hone : ∀t,t<L.length->nth (aj (cQ (aa P M.toNat mod).ops m L Q) t) (nth Q j).toNat=if t=j then 1 else 0:=λt ht=>by
  obtain ⟨e',_,hy',hj'⟩:=hform t ht
  rw [hy' _ (by omega),hj' j hj2]
 have hvj:=hv j (by omega)
 rw [jO F (x:=j) (by
  show (aa P M.toNat mod).El ((aa P M.toNat mod).ops.mul (nth v j) (nth (aj (cQ (aa P M.toNat mod).ops m L Q) j) (nth Q j).toNat))
  rw [hone j (by omega),if_pos rfl,F.je hvj];exact hvj) L.length (λp hp hpj=>by
  show (aa P M.toNat mod).ops.mul (nth v p) (nth (aj (cQ (aa P M.toNat mod).ops m L Q) p) (nth Q j).toNat)=0
  rw [hone p hp,if_neg hpj,F.dA (hv p hp)]),if_pos (by omega)]
 show (aa P M.toNat mod).ops.mul (nth v j) (nth (aj (cQ (aa P M.toNat mod).ops m L Q) j) (nth Q j).toNat)=_
 rw [hone j (by omega),if_pos rfl,F.je hvj]
section
variable {P M : Int} {mod : Lz} {m : Nat} {L : Ll}
def CW (P M : Int) (mod : Lz) (m : Nat) (L : Ll) (y : Lz) : Prop :=
 Vc (aa P M.toNat mod).El m y/\RS (aa P M.toNat mod).ops (aa P M.toNat mod).El m L (λi=>nth y i)/\bw y ≠ 0
theorem pD (hE : aL P M mod m L=0) {Q : Lz} (hQ : bF m Q=true) (hB : rh (aa P M.toNat mod).ops L Q=true) {y : Lz} (hy : Vc (aa P M.toNat mod).El m y) (hr : RS (aa P M.toNat mod).ops (aa P M.toNat mod).El m L (λi=>nth y i)) :
  y=bj (aa P M.toNat mod).ops m (aG Q y) (cQ (aa P M.toNat mod).ops m L Q) L.length:=by
 obtain ⟨N',e,hm1,hm64,F,hR⟩:=ba hE
 obtain rfl : m=N':=by omega
 obtain ⟨hI,hl,hg⟩:=ju hQ hB
 obtain ⟨s1,s2,_,s4⟩:=jz hE hI hl hg
 have hcan : dD (aa P M.toNat mod).ops m (cQ (aa P M.toNat mod).ops m L Q)=L:=s4
 have hsub:=(eF F s1).1
 rw [hcan] at hsub
 obtain ⟨v,hv,h2⟩:=RS.IZ F s1 (hsub.rs hr)
 rw [s2] at hv h2
 obtain ⟨w1,_,w3⟩:=lq hE hI hl hg (v:=v) hv.1 λk hk=>hv.at hk
 have h3 : y=bj (aa P M.toNat mod).ops m v (cQ (aa P M.toNat mod).ops m L Q) L.length:=et (by rw [hy.1,w1.1]) λi hi=>h2 i (by rw [<- hy.1];exact hi)
 have h4 : aG Q y=v:=by rw [h3];exact w3
 rw [h4];exact h3
theorem lk {Q y : Lz} (h : ∀z ∈ y,z=0) : bw (aG Q y)=0:=by
 refine dk.2 λz hz=>?_
 unfold aG at hz
 obtain ⟨q,_,rfl⟩:=List.mem_map.1 hz
 by_cases hq : q.toNat<y.length
 ·rw [ai hq];exact h _ (List.getElem_mem hq)
 ·unfold nth;rw [List.getD_eq_getElem?_getD,List.getElem?_eq_none (by omega)];rfl
theorem wK {q : Nat} {b : Int} (h : b ∈ dn q) : 0<=b/\b<q:=by have:=jN.1 h;omega
theorem mC (hE : aL P M mod m L=0) {Q : Lz} (hQ : bF m Q=true) (hB : rh (aa P M.toNat mod).ops L Q=true) {l : Nat} {y : Lz} :
  y ∈ ik (aa P M.toNat mod).ops (dn (aa P M.toNat mod).q) [1] (l+1) (cQ (aa P M.toNat mod).ops m L Q) (List.replicate m 0) ↔ CW P M mod m L y/\bw (aG Q y)=l+1/\nth (aG Q y) (fnz (aG Q y))=1:=by
 obtain ⟨N',e,hm1,hm64,F,hR⟩:=ba hE
 obtain rfl : m=N':=by omega
 obtain ⟨hI,hl,hg⟩:=ju hQ hB
 obtain ⟨s1,s2,_,s4⟩:=jz hE hI hl hg
 have hcan : dD (aa P M.toNat mod).ops m (cQ (aa P M.toNat mod).ops m L Q)=L:=s4
 have hsub:=(eF F s1).2
 rw [hcan] at hsub
 have hpl : ∀y,(aG Q y).length=L.length:=λy=>by simp [aG,hl]
 rw [ik,j8 _ (by simp) l (mU _ (λa ha=>by have:=jN.1 ha;omega) l)]
 constructor
 ·rintro ⟨c,h1,h2,h3,h4⟩
  rw [s2] at h1
  have hc0 : bw c ≠ 0:=by omega
  obtain ⟨f1,f2⟩:=(jP hc0).1 h3
  have hel : ∀k,k<L.length->(aa P M.toNat mod).El (nth c k):=λk hk=>by
   by_cases e0 : nth c k=0
   ·rw [e0];exact F.zero
   ·by_cases e1 : k<fnz c
    ·exact absurd (iO c k e1) e0
    ·by_cases e2 : k=fnz c
     ·rw [e2,f1];exact F.one
     ·exact wK (f2 k (by omega) (by omega) e0)
  obtain ⟨w1,_,w3⟩:=lq hE hI hl hg (v:=c) h1 hel
  have hy : y=bj (aa P M.toNat mod).ops m c (cQ (aa P M.toNat mod).ops m L Q) L.length:=by
   have h5:=gH (O:=(aa P M.toNat mod).ops) (m:=m) (v:=c) (L:=cQ (aa P M.toNat mod).ops m L Q) (by rw [s2];exact h1) L.length 0 (by rw [s2];omega)
   rw [h4,<- s2,<- h5];rfl
  rw [<- hy] at w1 w3
  refine ⟨⟨w1,?_,λh0=>?_⟩,by rw [w3];exact h2,by rw [w3];exact f1⟩
  ·have:=(dO F s1 (x:=c) (by rw [s2];exact hel) L.length (by rw [s2];exact Nat.le_refl _)).2
   rw [<- hy] at this
   exact hsub.rs this
  ·have h6:=lk (Q:=Q) (dk.1 h0)
   rw [w3] at h6;omega
 ·rintro ⟨hy,h2,h3⟩
  have h1:=pD hE hQ hB hy.1 hy.2.1
  obtain ⟨c,hc⟩ : ∃c,aG Q y=c:=⟨_,rfl⟩
  have hcl : c.length=L.length:=by rw [<- hc];exact hpl y
  rw [hc] at h1 h2 h3
  refine ⟨c,by rw [s2];exact hcl,h2,(jP (by omega)).2 ⟨h3,λj _ hj hj0=>?_⟩,?_⟩
  ·have h7 : nth c j=nth y (nth Q j).toNat:=by rw [<- hc];exact dx Q y (by omega)
   have h8:=hI j (by omega)
   have h9 : (aa P M.toNat mod).El (nth c j):=by rw [h7];exact hy.1.at (by omega)
   exact jN.2 ⟨by have:=h9.1;omega,h9.2⟩
  ·have h5:=gH (O:=(aa P M.toNat mod).ops) (m:=m) (v:=c) (L:=cQ (aa P M.toNat mod).ops m L Q) (by rw [s2];exact hcl) L.length 0 (by rw [s2];omega)
   rw [h1,<- s2,<- h5];rfl
theorem jD {α β γ : Type} (f : γ->β->γ) (g : α->List β) : ∀(l : List α) (b : γ),l.foldl (λb a=>(g a).foldl f b) b=(l.flatMap g).foldl f b
 | [],_=>rfl
 | a :: l,b=>by rw [List.foldl_cons,jD f g l,List.flatMap_cons,List.foldl_append]
end
theorem GA {m : Nat} {U : Lz} {z : Int} (hz : 0<=z/\z<(m : Int)) : decide (z ∈ frTo false U m)=decide (¬ z ∈ U):=by
 have h : z ∈ frTo false U m ↔ ¬ z ∈ U:=by
  rw [cJ]
  constructor
  ·rintro ⟨j,_,rfl,h⟩;simpa using h
  ·intro h
   refine ⟨z.toNat,by omega,by omega,?_⟩
   rw [show ((z.toNat : Nat) : Int)=z by omega]
   simpa using h
 simp [h]
theorem uW (P M : Int) (am : OA) (mn cm : Nat) (mod : Lz) (N : Int) (a : OA) (n c : Nat) (L : Ll) (w : World) (hmod : Ints w am mn mod) (hi : bZ w a n L) :
  Calls Tryz.prog 48 #[.agg #[.int .i64 P,.int .i64 M,.slice am mn cm,.int .i64 N,.slice a n c]] w (l7 P M mod N L w):=by
 have HCk:=Z5 (λV (hV : Below w.heap.size w V)=>jL P M am mn cm mod N a n c L V (hmod.ah hV) (hi.ah hV))
 go_enter Tryz.func48,Tryz.ntmps48
 go_wp2_with fail
 obtain ⟨W,hW⟩ : ∃W : World,W=w.alloc (.cells #[.int .i64 P,.int .i64 M,.slice am mn cm,.int .i64 N,.slice a n c] 27):=⟨_,rfl⟩
 rw [<- hW]
 have hbW : Below w.heap.size w W:=by rw [hW];exact an _ _
 have x0 : aV W w.heap.size [.int .i64 P,.int .i64 M,.slice am mn cm,.int .i64 N,.slice a n c]:=by rw [hW];exact aV.new _ _ _ rfl
 have HX:=Z5 x0
 have HbW:=Z5 hbW
 have Hc:=Z5 (HCk.out W hbW)
 clear hW x0 HCk
 refine Hc.out.mono ?_
 rintro e w1 ⟨rfl,hb1⟩
 have hbw1:=Below.next hbW hb1
 clear Hc
 by_cases hE : aL P M mod N L=0
 rotate_left
 ·have HP : Hid (l7 P M mod N L w (.returned (.tuple #[.slice none 0 0,.int .i64 (aL P M mod N L)])) w1):=⟨hbw1,.inl ⟨hE,rfl⟩⟩
  have hE2 : (aL P M mod N L != 0)=true:=by simpa using hE
  clear hE
  generalize aL P M mod N L=er at *
  go_wp2_with fail
  go_ret2
  exact HP.out
 obtain ⟨m,hm,hm1,hm64,hL256,hR⟩:=eJ hE
 subst hm
 have HP : Hid (∀k a' c' R T w',T=fu (aa P M.toNat mod).ops L m->Below w.heap.size w w'->rj w' w.heap.size a' k c' R T->l7 P M mod m L w (.returned (.tuple #[.slice a' k c',.int .i64 0])) w'):=λk a' c' R T w' h1 h2 h3 =>
  ⟨h2,.inr ⟨hE,m,rfl,k,a',c',R,T,h1,rfl,h3⟩⟩
 have HPk0 : Hid (∀V aq cq U,Below w.heap.size w V->Ints V aq m (fA m U)->Calls Tryz.prog 104 #[.agg #[.int .i64 P,.int .i64 M,.slice am mn cm],.slice a n c,.slice aq m cq,.int .i64 m] V λe w' =>
   ∃a1 c1,e = .returned (.slice a1 (cX (aa P M.toNat mod).ops L m U).length c1)/\w'.ownsRow V.heap.size 3 1 (.slice a1 (cX (aa P M.toNat mod).ops L m U).length c1) (cX (aa P M.toNat mod).ops L m U).length ((bP (cX (aa P M.toNat mod).ops L m U)).map (Value.int .i64))/\Below V.heap.size V w'):=λV aq cq U hV hq=>by
  have h:=Ad P M am mn cm mod m a n c L aq m cq (fA m U) m V (hmod.ah hV) (hi.ah hV) hq hE (Ci m U) (by omega)
  have e:=JA (Q:=fA m U) hE (by rw [mN];exact Nat.le_refl _)
  rw [mN] at e
  rw [e] at h
  exact h
 have Hcl : Hid (∀U,(cX (aa P M.toNat mod).ops L m U).length<=m):=λU=>by
  have:=Cm (aa P M.toNat mod).ops L (fA m U)
  rw [mN] at this
  exact this
 obtain ⟨O,hO⟩ : ∃O,(aa P M.toNat mod).ops=O:=⟨_,rfl⟩
 rw [hO] at HP HPk0 Hcl
 have HC : Hid (∀V,Below w1.heap.size w1 V->V.cell? ⟨w.heap.size,0,none⟩=some (.int .i64 P)/\V.cell? ⟨w.heap.size,1,none⟩=some (.int .i64 M)/\V.cell? ⟨w.heap.size,2,none⟩=some (.slice am mn cm)/\V.cell? ⟨w.heap.size,3,none⟩=some (.int .i64 m)/\V.cell? ⟨w.heap.size,4,none⟩=some (.slice a n c)):=λV hV=>by
  have x1:=HX.out.ah (Below.next hb1 hV)
  exact ⟨x1.cell 0 rfl,x1.cell 1 rfl,x1.cell 2 rfl,x1.cell 3 rfl,x1.cell 4 rfl⟩
 have Hbw1:=Z5 hbw1
 have hO0:=rj.start w1 w1.heap.size
 rw [hE]
 clear hE hR hO hL256 hmod hi hbw1 hb1 hbW
 go_wp2_with fail
 go_loopw [5,6] (λov uv wr=>∃(k : Nat) (T : List (Lz × Int)) (ao : OA) (co : Nat) (R : La) (U : Lz) (au : OA) (cu : Nat),k<=m/\ov = .slice ao k co/\uv = .slice au U.length cu/\rj wr w1.heap.size ao k co R T /\
   wr.ownsRow w1.heap.size 3 1 (.slice au U.length cu) U.length (U.map (Value.int .i64))/\Hid ((ao ≠ none->db au (ablk ao))/\(∀r ∈ R,r.1 ≠ none->db au (ablk r.1)))/\Below w1.heap.size w1 wr/\Hid (fu O L m=famGo O L m (m+1 - k) U T) /\
   k+(frTo false U m).length<=m/\Hid (U.Nodup/\∀x ∈ U,0<=x/\x<(m : Int))) (λov _ _=>m+1 - lenV ov)
 case atStart=>exact ⟨0,[],none,0,[],[],none,0,Nat.zero_le _,rfl,rfl,hO0,bY,⟨λh=>absurd rfl h,λr hr=>by simp at hr⟩,Below.refl _ _,rfl,by have:=eQ false [] m;omega,⟨List.nodup_nil,λx hx=>by simp at hx⟩⟩
 case round =>
  clear hO0
  obtain ⟨k,T,ao,co,R,U,au,cu,hk,rfl,rfl,hOS,hU,hsep,hbr,hfam,hfr,hUn⟩:=hrel
  generalize wr=V0 at *
  have hUl:=mZ hUn.out.1 hUn.out.2
  have hfl:=pd U m
  have hus:=vS hUn.out.1 hUn.out.2
  have hfresh:=λz hz=>GA (m:=m) (U:=U) (z:=z) hz
  have hord : frTo false U m ++ bP U=fA m U:=by rw [fA,hus]
  have hul2 : (frTo false U m).length+U.length=m:=by rw [<- hus,eG] at hfl;exact hfl
  have Hord:=Z5 hord
  have Hfresh:=Z5 hfresh
  obtain ⟨Un,hUnn⟩ : ∃Un,U.length=Un:=⟨_,rfl⟩
  have HUl:=Z5 hUnn
  rw [hUnn] at hU hUl hul2 ⊢
  have hIU:=(Ints.own hU).1
  have hot:=uK au Un cu U m V0 hIU (by omega)
  have hfr2:=hfr
  obtain ⟨f,hf⟩ : ∃f,frTo false U m=f:=⟨_,rfl⟩
  rw [hf] at hot Hord Hfresh hul2 hfr2
  obtain ⟨g,hg⟩ : ∃g,f.length=g:=⟨_,rfl⟩
  rw [hg] at hot hul2 hfr2
  have Hg:=Z5 hg
  have Hot:=Z5 hot
  have Hul2:=Z5 hul2
  have hg64 : g<=64:=by omega
  have hUn64 : Un<=64:=by omega
  obtain ⟨_,_,_,c3,_⟩:=HC.out V0 hbr
  clear hf hg hot hUnn hfl hus hfresh hord hul2 hUl
  go_wp2_with fail
  refine Hot.out.mono ?_
  rintro e V1 ⟨af,cf,rfl,hownf,hb01⟩
  have hbV1:=Below.next hbr hb01
  have hIf:=(Ints.own hownf).1
  have hplf:=hIf.pl
  have HIf:=Z5 hIf
  have hSl:=Hcl.out U
  have hfam2 : dI U (cX O L m U) (cX O L m U).length=0->fu O L m=T:=λh=>by rw [hfam.out,show m+1 - k=m - k+1 by omega,famGo,if_pos h]
  have hfam3 : dI U (cX O L m U) (cX O L m U).length ≠ 0->fu O L m=famGo O L m (m - k) (U ++ bP (cX O L m U)) (T ++ [(bP (cX O L m U),dI U (cX O L m U) (cX O L m U).length)]):=λh=>by rw [hfam.out,show m+1 - k=m - k+1 by omega,famGo,if_neg h]
  have hless : dI U (cX O L m U) (cX O L m U).length ≠ 0->(frTo false (U ++ bP (cX O L m U)) m).length<(frTo false U m).length:=λh=>tU h
  have hSin : ∀x ∈ bP (cX O L m U),0<=x/\x<(m : Int):=λx hx=>by
   obtain ⟨j,hj,rfl⟩:=CB ((dw _).mem_iff.1 hx)
   omega
  have hso:=C4 U (cX O L m U)
  have hSs:=eG (cX O L m U)
  have hPk:=λV aq cq=>HPk0.out V aq cq U
  obtain ⟨Sn,hSn⟩ : ∃Sn,(cX O L m U).length=Sn:=⟨_,rfl⟩
  rw [hSn] at hfam2 hfam3 hless hSl hso hSs hPk
  rw [<- hso] at hfam2 hfam3 hless
  obtain ⟨S,hS⟩ : ∃S,bP (cX O L m U)=S:=⟨_,rfl⟩
  rw [hS] at hfam2 hfam3 hless hSin hSs hPk
  have Hfam2:=Z5 hfam2
  have Hfam3:=Z5 hfam3
  have Hless:=Z5 hless
  have HSin:=Z5 hSin
  have HSs:=Z5 hSs
  have hbw:=Below.next Hbw1.out hbV1
  have HPk : Hid (∀V a5 c5,Below V1.heap.size V1 V->V.ownsRow V1.heap.size 3 1 (.slice a5 (g+Un) c5) (g+Un) (f.map (Value.int .i64) ++ (bP U).map (Value.int .i64))->∀V2,Below V.heap.size V V2 ->
    Calls Tryz.prog 104 #[.agg #[.int .i64 P,.int .i64 M,.slice am mn cm],.slice a n c,.slice a5 (g+Un) c5,.int .i64 m] V2 λe w'=>∃a1 c1,e = .returned (.slice a1 Sn c1)/\w'.ownsRow V2.heap.size 3 1 (.slice a1 Sn c1) Sn (S.map (Value.int .i64))/\Below V2.heap.size V2 w'):=λV a5 c5 hV ho V2 hV2=>by
   rw [<- List.map_append,Hord.out,Hul2.out] at ho
   rw [Hul2.out]
   exact hPk V2 a5 c5 (Below.next hbw (Below.next hV hV2)) ((Ints.own ho).1.ah hV2)
  have HSo : Hid (∀V,Below V1.heap.size V1 V->Calls Tryz.prog 105 #[.slice au Un cu] V λe w'=>∃a6 c6,e = .returned (.slice a6 Un c6)/\Ints w' a6 Un (bP U)/\(0<Un->V.heap.size<=ablk a6)/\Below V.heap.size V w'):=λV hV=>by
   refine (qd au Un cu U V (hIU.ah (Below.next hb01 hV)) (by omega)).mono ?_
   rintro e w' ⟨a6,c6,rfl,ho,hb⟩
   exact ⟨a6,c6,rfl,(Ints.own ho).1,λh=>(fJ ho h).1,hb⟩
  have HS : Hid (∀V,Below V1.heap.size V1 V->V.cell? ⟨w.heap.size,0,none⟩=some (.int .i64 P)/\V.cell? ⟨w.heap.size,1,none⟩=some (.int .i64 M)/\V.cell? ⟨w.heap.size,2,none⟩=some (.slice am mn cm)/\V.cell? ⟨w.heap.size,3,none⟩=some (.int .i64 m)/\V.cell? ⟨w.heap.size,4,none⟩=some (.slice a n c)/\Ints V af g f/\Below V1.heap.size V1 V):=λV hV=>by
   obtain ⟨d0,d1,d2,d3,d4⟩:=HC.out V (Below.next hbV1 hV)
   exact ⟨d0,d1,d2,d3,d4,HIf.out.ah hV,hV⟩
  have hsl : (bP U).length=Un:=by rw [eG];exact HUl.out
  have hgl:=Hg.out
  have HOS:=Z5 (And.intro hOS hU)
  have Hb01:=Z5 (And.intro hb01 hbV1)
  clear hS hSn hfam2 hfam3 hless hSin hSs hso hPk HPk0 hIf hownf hIU hOS hU hb01 hbV1 hbr hbw c3 Hot hfam
  go_wp2_with fail
  go_cut [8] (λv wx=>∃a1 c1,v = .slice a1 Sn c1/\wx.ownsRow V1.heap.size 3 1 (.slice a1 Sn c1) Sn (S.map (Value.int .i64))/\Below V1.heap.size V1 wx)
  case first =>
   have hO:=fK V1 3
   go_region_held3 (λV=>V.cell? ⟨w.heap.size,0,none⟩=some (.int .i64 P)/\V.cell? ⟨w.heap.size,1,none⟩=some (.int .i64 M)/\V.cell? ⟨w.heap.size,2,none⟩=some (.slice am mn cm)/\V.cell? ⟨w.heap.size,3,none⟩=some (.int .i64 m)/\V.cell? ⟨w.heap.size,4,none⟩=some (.slice a n c)/\Ints V af g f/\Below V1.heap.size V1 V)
    ((refine HS.out _ ?_;first | exact (Below.refl _ _).drew | exact hb8 | exact hb5 | exact hb4 | exact hb6 | exact Below.bQ hb6 _ | exact Below.bQ hb4 _ | exact ((Below.refl _ _).alloc (Nat.le_refl _) _).drew | (go_split_ands;exact Below.bQ (by assumption) _)))
    (first
     | (go_at_call 105;((with_reducible refine (HSo.out _ (by go_split_ands;assumption)).mono ?_);rintro e w6 ⟨a6,c6,rfl,hI6,hne6,hb6'⟩;have hb6 : Below V1.heap.size V1 w6:=(by go_split_ands;exact Below.next (by assumption) hb6');have hOs:=aP (fK w6 3) hb6.size;have hpl6:=hI6.pl;(first | (have hOc:=aW hO hb6') | skip);(first | (have hown4:=aW hown4 hb6';have hb4:=hb6) | skip)))
     | (obtain ⟨_,_,_,_,_,hI9,hB9⟩:=(by assumption : _/\_/\_/\_/\_/\Ints _ af g f/\Below V1.heap.size V1 _);refine bg (by rfl) (.tmp 25) (.tmp 26) 22 3 (by rfl) (.int .i64 0) 8 Tryz.underlying22 aX (by rfl) V1.heap.size _ 0 0 [] (by rfl) (by first | exact hO | exact hO.alloc _ | exact hOs | exact hOc) af g cf (f.map (Value.int .i64)) (by rfl) hplf (by simp [hgl]) (Ints.news hI9) (ints_oneCell _ _) (by omega) (by unfold maxLen;omega) (Below.size hB9) ?_;intro a4 c4 w4 hown4 hgr4 hap4;have hb4 : Below V1.heap.size V1 w4:=Below.app (B:=V1.heap.size) (e:=3) (xs:=[]) hB9 (by first | exact hO | exact hO.alloc _ | exact hOs | exact hOc) hgr4 (Nat.le_refl _) (Below.size hB9);rw [Nat.zero_add] at hown4 ⊢;rw [List.nil_append] at hown4;(first | (have hI64:=(hI6.ah (an _ _)).pc hgr4 (λh=>.inr (by have h1:=hI6.lt h;simp [ablk] at h1 ⊢;omega))) | (have hI64:=hI6.pc hgr4 (λh=>.inr (by have h1:=hne6 h;simp [ablk] at h1 ⊢;omega))) | skip))
     | (refine bg (by rfl) (.tmp 27) (.tmp 29) 22 3 (by rfl) (.int .i64 0) 8 Tryz.underlying22 aX (by rfl) V1.heap.size a4 g c4 (f.map (Value.int .i64)) (by rfl) (by exact hown4) a6 Un c6 ((bP U).map (Value.int .i64)) (by rfl) hpl6 (by simp [hsl]) (by first | exact Ints.news hI64 | exact Ints.news hI6) (ints_oneCell _ _) (by omega) (by unfold maxLen;omega) hb4.size ?_;intro a5 c5 w5 hown5 hgr5 hap5;have hb5 : Below V1.heap.size V1 w5:=Below.app hb4 hown4 hgr5 (Nat.le_refl _) hb4.size;have Hr2:=Z5 (HPk.out w5 a5 c5 hb5 hown5))
     | (go_at_call 104;((with_reducible refine (Hr2.out _ (by first | exact Below.refl _ _ | assumption)).mono ?_);rintro e w8 ⟨a8,c8,rfl,hown8,hb8'⟩;have hb8 : Below V1.heap.size V1 w8:=Below.next hb5 hb8')))
   all_goals (go_wp2_with fail;go_meet;exact ⟨a8,c8,rfl,aP hown8 (by have:=hb5.size;simp;omega),hb8⟩)
  obtain ⟨a8,c8,rfl,hown8,hb12⟩:=hcut
  generalize wc=V2 at *
  have hbV2:=Below.next Hb01.out.2 hb12
  have hIS:=(Ints.own hown8).1
  have hplS:=hIS.pl
  have hf2:=HIf.out.ah hb12
  go_wp2_with fail
  go_loopw [9,10] (λrv iv wr=>∃j : Nat,j<=Sn/\iv = .int .i64 j/\rv = .int .i64 (dI U S j)/\wr=V2) (λ_ iv _=>Sn - (intOf iv).toNat)
  case atStart=>exact ⟨0,Nat.zero_le _,rfl,rfl,rfl⟩
  case round =>
   obtain ⟨j,hj,rfl,rfl,rfl⟩:=hrel
   by_cases hlt : j<Sn
   ·have cs:=hIS.cell j hlt
    have hjS : j<S.length:=by rw [HSs.out];exact hlt
    have hzm:=HSin.out _ (aN hjS)
    have hst : dI U S (j+1)=if nth S j ∈ U then dI U S j else dI U S j+1:=rfl
    have hbd:=nf U S j
    obtain ⟨z,hz⟩ : ∃z,nth S j=z:=⟨_,rfl⟩
    rw [hz] at cs hzm hst
    have hin:=vU af g cf f z wr hf2
    rw [Hfresh.out z hzm] at hin
    obtain ⟨t,ht⟩ : ∃t,dI U S j=t:=⟨_,rfl⟩
    rw [ht] at hst hbd ⊢
    clear hz hjS ht
    by_cases hzU : z ∈ U
    ·rw [if_pos hzU] at hst
     rw [show decide (¬ z ∈ U)=false by simpa using hzU] at hin
     have Hst:=Z5 hst
     have Hin:=Z5 hin
     clear hzU hst hin hzm
     go_wp2_with fail
     refine Hin.out.mono ?_
     rintro e w5 ⟨rfl,rfl⟩
     go_wp2_with fail
     go_roundw
     case rel=>exact ⟨j+1,by omega,by go_num,by rw [Hst.out],by simp⟩
     case measure=>simp [intOf] <;> omega
    ·rw [if_neg hzU] at hst
     rw [show decide (¬ z ∈ U)=true by simpa using hzU] at hin
     have Hst:=Z5 hst
     have Hin:=Z5 hin
     have kz : IntKind.i64.wrap (t+1)=t+1:=IntWalk.i64_in _ (by omega)
     clear hzU hst hin hzm
     go_wp2_with fail
     refine Hin.out.mono ?_
     rintro e w5 ⟨rfl,rfl⟩
     go_wp2_with fail
     go_roundw
     case rel=>exact ⟨j+1,by omega,by go_num,by rw [Hst.out],by simp⟩
     case measure=>simp [intOf] <;> omega
   ·obtain rfl : j=Sn:=by omega
    generalize wr=V2 at *
    obtain ⟨rk,hrk⟩ : ∃rk,dI U S j=rk:=⟨_,rfl⟩
    rw [hrk] at Hfam2 Hfam3 Hless ⊢
    have HrkS : Hid (dI U S S.length=rk):=by show _=_;rw [HSs.out];exact hrk
    have hb02:=Below.next Hb01.out.1 hb12
    have hOS2:=HOS.out.1.ah hb02
    have hU2:=aW HOS.out.2 hb02
    by_cases hz : rk=0
    ·have hz' : (rk == 0)=true:=by simpa using hz
     have HF:=Z5 (HP.out k ao co R T V2 (Hfam2.out hz).symm (Below.next Hbw1.out hbV2) (hOS2.mono Hbw1.out.size))
     clear hz hrk Hfam2 Hfam3 Hless hOS2 hU2 hown8
     go_wp2_with fail
     go_ret2
     exact HF.out
    ·have hz' : (rk == 0)=false:=by simpa using hz
     have hfam3:=Hfam3.out hz
     have hls:=Hless.out hz
     have hsz2:=hbV2.size
     have hb8:=an V2 (.cells #[.slice a8 j c8,.int .i64 rk] 64)
     have hOS8:=hOS2.ah hb8
     have hS8 : V1.heap.size<=V2.heap.size:=hb12.size
     have hS1:=Hb01.out.2.size
     have hS0:=Hb01.out.1.size
     have hao : ao ≠ none->ablk ao<V0.heap.size:=λh0=>(HOS.out.1.GJ h0).2
     have ha8 : a8 ≠ none->V1.heap.size<=ablk a8/\ablk a8<V2.heap.size:=λh0=>aR hown8 h0
     have hapo8 : a8 ≠ none->db ao (ablk a8):=λh4=>by
      by_cases h0 : ao=none
      ·exact .inl h0
      ·exact .inr (by have:=hao h0;have:=(ha8 h4).1;omega)
     have hau : au ≠ none->ablk au<V0.heap.size:=λh0=>(aR HOS.out.2 h0).2
     have hapu8 : a8 ≠ none->db au (ablk a8):=λh4=>by
      by_cases h0 : au=none
      ·exact .inl h0
      ·exact .inr (by have:=hau h0;have:=(ha8 h4).1;omega)
     have HIS8:=Z5 (hIS.ah hb8)
     clear hrk hz Hfam2 Hfam3 Hless
     go_wp2_with (at_builtin;refine oW (by rfl) (.tmp 51) (.tmp 55) 57 64 (by rfl) (.agg #[.slice none 0 0,.int .i64 0]) 32 Tryz.underlying57 vX (by rfl) w1.heap.size ao k co (stV R T) (by rfl) hOS8.own V2.heap.size 1 (.slice a8 j c8) (.int .i64 rk) (by rfl) (aH _ _ _ rfl 0) (aH _ _ _ rfl 1) (by rfl) (by rfl) (by omega) (by unfold maxLen;omega) (by simp;omega) ?_;intro a9 c9 V9 hown9 hgr9 hap9)
     have hSl2:=HSs.out
     have hpush : rj V9 w1.heap.size a9 (k+1) c9 (R ++ [(a8,c8)]) (T ++ [(S,rk)]) :=
      hOS8.push (by rw [hSl2];exact HIS8.out) (λh0=>⟨by have:=(ha8 h0).1;omega,by have:=(ha8 h0).2;simp;omega⟩) hapo8 (by rw [hSl2];exact hown9) hgr9 hap9
     have hapou : au ≠ none->db ao (ablk au):=λh0=>by
      by_cases h1 : ao=none
      ·exact .inl h1
      ·have h2:=hsep.out.1 h1
       rcases h2 with h2 | h2
       ·exact absurd h2 h0
       ·exact .inr λe=>h2 e.symm
     have hU9 : V9.ownsRow w1.heap.size 3 1 (.slice au Un cu) Un (U.map (Value.int .i64)):=by
      by_cases h0 : au=none
      ·subst h0
       rcases oD hU2 with ⟨_,h1,h2⟩ | ⟨h1,h2⟩
       ·subst h1;subst h2
        have hx:=jr hU2
        rw [List.eq_nil_of_length_eq_zero hx]
        exact bY
       ·rcases hU2.2 with ⟨h3,h4⟩ | ⟨g',cap,cur,hv,_⟩
        ·cases h3
         have hx:=jr hU2
         rw [List.eq_nil_of_length_eq_zero hx]
         exact bY
        ·cases hv
      ·exact eK (aW hU2 hb8) hgr9 (hapou h0)
     have hb29 : Below w1.heap.size w1 V9:=(Below.next hbV2 hb8).grown hgr9 (by simp;omega) λj' hj'=>by
      cases ao with
      | none=>simp [Value.ownBlock] at hj'
      | some y=>simp [Value.ownBlock] at hj';rw [<- hj'];exact (hOS8.GJ (by simp)).1
     have hsep9 : (a9 ≠ none->db au (ablk a9))/\(∀r ∈ R ++ [(a8,c8)],r.1 ≠ none->db au (ablk r.1)):=by
      refine ⟨λh0=>?_,λr hr h0=>?_⟩
      ·by_cases h1 : au=none
       ·exact .inl h1
       ·have h2:=hap9 (ablk au) (by have:=hau h1;simp;omega) (hapou h1)
        rcases h2 with h2 | h2
        ·exact absurd h2 h0
        ·exact .inr λe=>h2 e.symm
      ·rcases List.mem_append.1 hr with hr | hr
       ·exact hsep.out.2 r hr h0
       ·rw [List.mem_singleton] at hr;subst hr;exact hapu8 h0
     have Hnd : Hid (∀q,q<=j->(fO U S q).Nodup/\(fO U S q).length<=m/\∀x ∈ fO U S q,0<=x/\x<(m : Int)):=λq hq=>by
      have h1:=rN (S:=S) hUn.out.1 q
      have h2 : ∀x ∈ fO U S q,0<=x/\x<(m : Int):=λx hx=>by
       rcases (nC q (by rw [hSl2];exact hq)).1 hx with h | h
       ·exact hUn.out.2 x h
       ·exact HSin.out x (List.mem_of_mem_take h)
      exact ⟨h1,mZ h1 h2,h2⟩
     have Hfin : Hid (fu O L m=famGo O L m (m+1 - (k+1)) (fO U S j) (T ++ [(S,rk)])/\k+1+(frTo false (fO U S j) m).length<=m):=by
      have hme : ∀x,x ∈ U ++ S ↔ x ∈ fO U S j:=λx=>by rw [<- hSl2,De,List.mem_append]
      refine ⟨by rw [hfam3,show m+1 - (k+1)=m - k by omega];exact wg _ hme _,?_⟩
      rw [<- pH hme];omega
     have HU9:=Z5 (And.intro hpush (And.intro hU9 (And.intro hsep9 hb29)))
     clear hpush hU9 hsep9 hb29 hapou hfam3 hls hown9 hgr9 hap9 hOS8 hOS2 hU2 hown8 HOS hapu8 hapo8 ha8 hao hau hsep
     generalize V9=V3 at *
     have Hua : Hid ((fO U S 0).length=Un):=HUl.out
     go_wp2_with fail
     go_loopw [6,11] (λuv iv wr=>∃(q un : Nat) (au : OA) (cu : Nat),q<=j/\iv = .int .i64 q/\uv = .slice au un cu/\Hid ((fO U S q).length=un)/\rj wr w1.heap.size a9 (k+1) c9 (R ++ [(a8,c8)]) (T ++ [(S,rk)]) /\
      wr.ownsRow w1.heap.size 3 1 (.slice au un cu) un ((fO U S q).map (Value.int .i64))/\Hid ((a9 ≠ none->db au (ablk a9))/\(∀r ∈ R ++ [(a8,c8)],r.1 ≠ none->db au (ablk r.1)))/\Below w1.heap.size w1 wr) (λ_ iv _=>j - (intOf iv).toNat)
     case atStart=>exact ⟨0,Un,au,cu,Nat.zero_le _,rfl,rfl,Hua.out,HU9.out.1,HU9.out.2.1,HU9.out.2.2.1,HU9.out.2.2.2⟩
     case round =>
      clear HU9
      obtain ⟨q,un,au,cu,hq,rfl,rfl,Hun,hOS,hU,hsep,hbr⟩:=hrel
      have hnd:=Hnd.out q hq
      rw [Hun.out] at hnd
      have hunm:=hnd.2.1
      by_cases hlt : q<j
      ·have hIS9 : Ints wr a8 j S:=by
        have h1:=(hOS.row ((a8,c8),(S,rk)) (by
         rw [List.zip_append (by have h1:=hOS.rl;have h2:=hOS.tl;simp at h1 h2;omega)]
         simp)).1
        rw [hSl2] at h1;exact h1
       have cs:=hIS9.cell q hlt
       have hqS : q<S.length:=by rw [hSl2];exact hlt
       have hst : fO U S (q+1)=if nth S q ∈ fO U S q then fO U S q else fO U S q ++ [nth S q]:=rfl
       obtain ⟨z,hz⟩ : ∃z,nth S q=z:=⟨_,rfl⟩
       rw [hz] at cs hst
       have hIu:=(Ints.own hU).1
       have hin:=vU au un cu _ z wr hIu
       obtain ⟨Uq,hUq⟩ : ∃Uq,fO U S q=Uq:=⟨_,rfl⟩
       rw [hUq] at hst hU hin
       have Hunq : Hid (Uq.length=un):=by show _=_;rw [<- hUq];exact Hun.out
       clear hz hUq hnd hIu hIS9
       by_cases hzU : z ∈ Uq
       ·rw [if_pos hzU] at hst
        rw [show decide (z ∈ Uq)=true by simpa using hzU] at hin
        have Hst:=Z5 hst
        have Hin:=Z5 hin
        clear hzU hst hin
        go_wp2_with fail
        refine Hin.out.mono ?_
        rintro e w5 ⟨rfl,rfl⟩
        go_wp2_with fail
        go_roundw
        case rel=>exact ⟨q+1,un,au,cu,by omega,by go_num,rfl,by show _=_;rw [Hst.out];exact Hunq.out,hOS,by rw [Hst.out];exact hU,hsep.out,hbr⟩
        case measure=>simp [intOf] <;> omega
       ·rw [if_neg hzU] at hst
        rw [show decide (z ∈ Uq)=false by simpa using hzU] at hin
        have Hst:=Z5 hst
        have Hin:=Z5 hin
        have hszr:=hbr.size
        have hcn:=br wr (.int .i64 z) 3
        have hOSn:=hOS.ah (an wr (.cells #[.int .i64 z] 3))
        clear hzU hst hin
        go_wp2_with fail
        refine Hin.out.mono ?_
        rintro e w5 ⟨rfl,rfl⟩
        go_wp2_with (at_builtin;refine bk rfl _ _ 22 3 rfl (.int .i64 0) 8 Tryz.underlying22 aX rfl w1.heap.size au un cu _ rfl (hU.alloc _) ⟨w5.heap.size,0,none⟩ 1 (.int .i64 z) rfl hcn rfl (by omega) (by unfold maxLen;omega) (by simp;omega) ?_;intro a6 c6 w6 hown6 hgr6 hap6)
        go_roundw
        case rel =>
         have hbF : Below w1.heap.size w1 w6:=Below.app (Below.bQ hbr _) (hU.alloc _) hgr6 (Nat.le_refl _) (Below.bQ hbr _).size
         refine ⟨q+1,un+1,a6,c6,by omega,by go_num,rfl,by show _=_;rw [Hst.out,List.length_append,Hunq.out];rfl,hOSn.grown hgr6 hsep.out.1 hsep.out.2,by rw [Hst.out];simpa using hown6,⟨λh0=>hap6 _ (hOSn.GJ h0).2 (hsep.out.1 h0),λr hr h0=>hap6 _ (hOSn.Bv hr h0).1.2 (hsep.out.2 r hr h0)⟩,hbF⟩
        case measure=>simp [intOf] <;> omega
      ·obtain rfl : q=j:=by omega
       go_wp2_with fail
       go_roundw
       case rel =>
        have e:=Hun.out
        refine ⟨k+1,T ++ [(S,rk)],a9,c9,R ++ [(a8,c8)],fO U S q,au,cu,by have:=Hfin.out.2;omega,rfl,by rw [e],hOS,by rw [e];exact hU,hsep.out,hbr,Hfin.out.1,Hfin.out.2,⟨(Hnd.out q (Nat.le_refl _)).1,(Hnd.out q (Nat.le_refl _)).2.2⟩⟩
       case measure=>simp [lenV] <;> omega
end Go.Proofs.YtcfmiocdlcapoaaGreat
