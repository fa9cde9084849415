import Derived.Test.YthglbncgemdcbaaGreatHE16
import Derived.RangeFuncSeq
import Derived.Shelf.RegionOpen
namespace Go.Proofs.YthglbncgemdcbaaGreat
set_option linter.all false
set_option maxRecDepth 100000
set_option maxHeartbeats 8000000
open Go.RowKit Go.Proofs.Tryz
theorem ud (pb : Nat) (a : OA) (n c : Nat) (L : Ll) (i : Nat) (w : World) (p5 : w.cell? ⟨pb,5,none⟩=some (.slice a n c)) (hi : bC w a n L) (hL : ∀r ∈ L,i<r.length) (hn : n<=1000000) :
  Calls prog 258 #[.pointer (some ⟨pb,0,none⟩),.int .i64 i] w (bS w (bF L i)):=by
 have Hlen:=Z5 hi.len;have hpl:=hi.pl;have HL:=Z5 hL;clear hL;go_enter func258,ntmps258;go_wp2_with (at_make;refine bP rfl _ _ 22 3 rfl (.int .i64 0) 8 underlying22 bg rfl n rfl rfl (by omega) (by unfold maxLen;omega) ?_;intro a1 w1 hown hbel hge hlt;have c5 : w1.cell? ⟨pb,5,none⟩=some (.slice a n c):=ak hbel p5);have hbw : Mv w w1:=hbel;have hown1 : w1.ownsRow w.heap.size 3 1 (.slice a1 n n) n (List.replicate n (.int .i64 0)):=hown;clear hown hbel;go_loopw [21] (λiv wr=>∃k : Nat,k<=n/\iv = .int .i64 k /\
   wr.ownsRow w.heap.size 3 1 (.slice a1 n n) n ((cO ((bF L i).take k) k n).map (Value.int .i64))/\Mv w wr)
  (λi _=>n - (intOf i).toNat)
 case atStart=>exact ⟨0,G0 _,rfl,by simpa [cO] using hown1,hbw⟩
 case round =>
  obtain ⟨k,hk,rfl,hown,hbel⟩:=hrel
  obtain ⟨hints,hmine⟩:=L0 hown
  have hpl1:=hints.pl
  by_cases hlt : k<n
  ·obtain ⟨ra,rn,rc,hcell,hrow⟩:=(hi.af hbel).cell k hlt
   have hkL : k<L.length:=by rw [Hlen.out];exact hlt
   have hri : i<rn:=by rw [<- hrow.len,aD hkL];exact HL.out _ (Iw hkL)
   have ci:=hrow.cell i hri
   have hpr:=hrow.pl
   have hf:=(hmine (by omega)).2 k hlt
   have hc2:=hints.cell k hlt
   have hB:=(hmine (by omega)).1
   have Hv:=Z5 (dH L i k hkL)
   go_wp2_with fail
   go_roundw
   case rel =>
    refine ⟨k+1,by omega,by go_num,?_,hbel.setCell hB _⟩
    have h:=bt hown k hlt (.int .i64 (nth (ai L k) i))
    rw [<- Im,eS _ _ _ _ (by rw [Ir,dZ];omega) hlt] at h
    rw [Hj (by rw [dZ];omega),<- aj,Hv.out]
    exact h
   case measure=>simp [intOf] <;> omega
  ·obtain rfl : k=n:=by omega
   have hl : (bF L i).length=k:=by rw [dZ];exact Hlen.out
   rw [fw,H6 (by omega)] at hown
   have Hl:=Z5 hl
   clear hl
   go_wp2_with fail
   go_ret
   exact ⟨a1,k,by rw [Hl.out];rfl,by rw [Hl.out];exact hown,hbel⟩
theorem jG {w : World} {b : Nat} {G : bX} (pb : Nat) (a : OA) (n c : Nat) (L : Ll) (m : Nat) (ao : OA) (no co : Nat) (Q : LI) (most : Nat)
  (p0 : w.cell? ⟨pb,0,none⟩=some (.pointer (some ⟨b,0,none⟩))) (p5 : w.cell? ⟨pb,5,none⟩=some (.slice a n c))
  (h : dz w b G) (hi : bC w a n L) (hR : bG G.El m L) (hq : Ints w ao no Q) (hQ : ∀k,k<no->0<=nth Q k/\nth Q k<m) (hn : n<=1000000) (hno : no<=1000000) :
  Calls prog 231 #[.pointer (some ⟨pb,0,none⟩),.slice ao no co,.int .i64 most] w (bS w (vu G.ops L Q most)):=by
 have Hlen:=Z5 hi.len;have HR:=Z5 hR;have HQ:=Z5 hQ;have Hql:=Z5 hq.len;have hplq:=hq.pl;have hcl:=Z5 (Mj h);have HP:=Z5 (λ(V : World) (hV : Mv w V)=>ak hV p5);clear hR hQ;go_enter func231,ntmps231;go_wp2_with fail;obtain ⟨V,hV⟩ : ∃V : World,V=w.alloc (.cells #[.pointer (some ⟨b,0,none⟩),.slice none 0 0,.slice none 0 0] 259):=⟨_,rfl⟩
 rw [<- hV];have hbV : Mv w V:=by rw [hV];exact an _ _
 have hB0 : pZ V w.heap.size w.heap.size b none 0 [] none 0 ⟨[],[]⟩:=pZ.start (GQ _) (by rw [hV];exact LZ _ _ _ rfl);clear hV p0 p5;go_loopw [8,19] (λqv iv wr=>∃(k : Nat) (aq : OA) (cq : Nat) (out : LI) (s : BS) (ar : OA) (cr : Nat) (R : LA) (ap : OA) (cp : Nat),k<=no/\iv = .int .i64 k/\qv = .slice aq out.length cq /\
   Hid (grTo G.ops L Q k=(s,out))/\pZ wr w.heap.size w.heap.size b ar cr R ap cp s/\wr.ownsRow w.heap.size 3 1 (.slice aq out.length cq) out.length (out.map (Value.int .i64))/\Hid (aq ≠ none->¬ xw w.heap.size ar R ap (ablk aq)) /\
   Mv w wr/\Hid (s.Ok G.El n)/\s.rows.length<=k/\out.length<=k/\Hid (out.length<=most))
  (λ_ iv _=>no - (intOf iv).toNat)
 case atStart=>exact ⟨0,none,0,[],⟨[],[]⟩,none,0,[],none,0,G0 _,rfl,rfl,rfl,hB0,cF,λh0=>absurd rfl h0,hbV,⟨λr hr=>by simp at hr,rfl,λi hi=>by simp at hi⟩,G0 _,G0 _,G0 _⟩
 case round =>
  obtain ⟨k,aq,cq,out,s,ar,cr,R,ap,cp,hk,rfl,rfl,hst,hBr,hop,hdq,hbr,hok,hsk,hok2,hom⟩:=hrel
  generalize wr=U at *
  by_cases hlt : k<no
  ·have cq1:=(hq.af hbr).cell k hlt
   have hQk:=HQ.out k hlt
   obtain ⟨i,hik⟩ : ∃i : Nat,nth Q k=i:=⟨(nth Q k).toNat,by omega⟩
   rw [hik] at cq1 hQk
   by_cases hmo : out.length=most
   ·have Ho : Hid (vu G.ops L Q most=out):=by show _=_;have h1:=Db (O:=G.ops) (L:=L) (Q:=Q) (k:=k) (most:=most) (by rw [Hql.out];exact hk) (by rw [hst.out];exact hmo);rw [h1,hst.out]
    have hd : ((out.length : Int) == (most : Int))=true:=by simp;omega
    clear hmo
    go_wp2_with fail
    go_ret
    exact ⟨aq,cq,by rw [Ho.out];rfl,by rw [Ho.out];exact hop,hbr⟩
   have hd : ((out.length : Int) == (most : Int))=false:=by simp;omega
   have Hom : Hid (out.length+1<=most):=by have:=hom.out;show _<=_;omega
   have him : i<m:=by omega
   have p5:=HP.out U hbr
   have hcol:=DG HR.out him
   rw [Hlen.out] at hcol
   have hstep : grTo G.ops L Q (k+1)=(s.next G.ops (bF L i),if s.fI G.ops (bF L i)=true then out ++ [(i : Int)] else out):=by rw [grTo,hst.out,hik,GW]
   have Hstep:=Z5 hstep
   have Hcol:=Z5 hcol
   clear hstep hcol hik hmo
   go_wp2_with fail
   refine (ud pb a n c L i U p5 (hi.af hbr) (λr hr=>by rw [(HR.out r hr).1];exact him) hn).mono ?_
   rintro e w3 ⟨a3,c3,rfl,hown3,hb3⟩
   rw [Hcol.out.1] at hown3
   rw [Hcol.out.1]
   have hB3:=hBr.af hb3
   have hbw3:=LY hbr hb3
   have hn3 : a3 ≠ none->¬ xw w.heap.size ar R ap (ablk a3):=λh0 hI=>by have h1:=(aS hown3 h0).1;have h2:=(hBr.lt _ hI).2;omega
   clear p5
   go_wp2_with fail
   refine (BF w.heap.size ar cr R ap cp s a3 c3 n (bF L i) h hbw3 hB3 hok.out (bd hown3 hbr.size) hn3 Hcol.out.2 hn (by omega)).mono ?_
   rintro e w4 ⟨ar',cr',R',ap',cp',rfl,hB4,hM4⟩
   have hbw4 : Mv w w4:=hbw3.trans (hM4.below (λx hx=>by
    rcases hx with h1 | ⟨h1,h2⟩
    ·exact (hB3.lt x h1).1
    ·rw [h2];exact H7 hbr.size (aS hown3 h1).1) hbw3.size)
   have hop3:=bj hop hb3
   have hnI : aq ≠ none->¬ (xw w.heap.size ar R ap (ablk aq)\/(a3 ≠ none/\ablk aq=ablk a3)):=λh0 hI=>by
    rcases hI with h1 | ⟨h1,h2⟩
    ·exact hdq.out h0 h1
    ·have e1:=(aS hop h0).2;have e2:=(aS hown3 h1).1;omega
   have hop4:=hM4.own hop3 hnI
   have hdq4 : aq ≠ none->¬ xw w.heap.size ar' R' ap' (ablk aq):=λh0=>hM4.not (aS hop3 h0).2 (hnI h0)
   have hok4 : (s.next G.ops (bF L i)).Ok G.El n:=BS.Ok.next hcl.out hok.out Hcol.out
   have hlen4:=BS.Cb G.ops s (bF L i)
   have Hok4:=Z5 hok4
   have Hdq4:=Z5 hdq4
   clear hnI hdq4 hok4
   by_cases ht : s.fI G.ops (bF L i)=true
   ·rw [ht]
    have Hst : Hid (grTo G.ops L Q (k+1)=(s.next G.ops (bF L i),out ++ [(i : Int)])):=by show _=_;rw [Hstep.out,GV ht]
    clear ht
    generalize s.next G.ops (bF L i)=s' at *
    have hcn:=bm w4 (.int .i64 i) 3
    have hbn:=an w4 (.cells #[.int .i64 i] 3)
    have hsz4:=hbw4.size
    go_wp2_with (at_builtin;refine aU rfl _ _ 22 3 rfl (.int .i64 0) 8 underlying22 bg rfl w.heap.size aq out.length cq _ rfl (hop4.alloc _) ⟨w4.heap.size,0,none⟩ 1 (.int .i64 i) rfl hcn rfl (by omega) (by unfold maxLen;omega) (by simp;omega) ?_;intro a5 c5 w5 hown5 hgr5 hap5)
    go_roundw
    case rel =>
     have hBn:=hB4.af hbn
     have haq : ∀x,xw w.heap.size ar' R' ap' x->eA aq x:=λx hx=>by
      by_cases h0 : aq=none
      ·exact .inl h0
      ·exact .inr λe=>Hdq4.out h0 (e ▸ hx)
     have hB5 : pZ w5 w.heap.size w.heap.size b ar' cr' R' ap' cp' s':=hBn.bq λx hx=>hgr5.block x (hBn.lt x hx).2 λe=>(haq x hx).own _ _ e.symm
     have hb5 : Mv w w5:=L3 (IT hbw4 (hbn.mono hsz4)) (hop4.alloc _) hgr5 (GQ _) (H7 hsz4 hbn.size)
     refine ⟨k+1,a5,c5,out ++ [(i : Int)],s',ar',cr',R',ap',cp',by omega,by go_num,by simp,Hst.out,hB5,?_,?_,hb5,Hok4.out,by omega,by simp;omega,?_⟩
     ·simpa using hown5
     ·show a5 ≠ none->_
      intro h0 hI
      rcases hap5 _ (hBn.lt _ hI).2 (haq _ hI) with h1 | h1
      ·exact h0 h1
      ·exact h1 rfl
     ·show _<=_
      rw [H5];exact Hom.out
    case measure=>simp [intOf] <;> omega
   ·have ht' : s.fI G.ops (bF L i)=false:=by simpa using ht
    rw [ht']
    have Hst : Hid (grTo G.ops L Q (k+1)=(s.next G.ops (bF L i),out)):=by show _=_;rw [Hstep.out,GU ht]
    clear ht ht'
    generalize s.next G.ops (bF L i)=s' at *
    go_wp2_with fail
    go_roundw
    case rel=>exact ⟨k+1,aq,cq,out,s',ar',cr',R',ap',cp',by omega,by go_num,rfl,Hst.out,hB4,hop4,Hdq4.out,hbw4,Hok4.out,by omega,by omega,hom.out⟩
    case measure=>simp [intOf] <;> omega
  ·obtain rfl : k=no:=by omega
   have Ho : Hid (vu G.ops L Q most=out):=by show _=_;have h1:=Ef (O:=G.ops) (L:=L) (Q:=Q) (most:=most) (by rw [Hql.out,hst.out];exact hom.out);rw [h1,Hql.out,hst.out]
   go_wp2_with fail
   go_ret
   exact ⟨aq,cq,by rw [Ho.out];rfl,by rw [Ho.out];exact hop,hbr⟩
section
variable {O : aM} {El : Int->Prop} {m : Nat} {L : Ll}
variable {C : jK}
structure GG (O : aM) (L : Ll) (m : Nat) (C : jK) (s z : LI) : Prop where
 sn : s.Nodup
 sb : ∀x ∈ s,0<=x/\x<(m : Int)
 zn : z.Nodup
 zb : ∀x ∈ z,0<=x/\x<(m : Int)
 sz : ∀x ∈ z,¬ x ∈ s
 zi : GJ O L z=z.length
 zk : ¬ C.cos=true->z.length<=C.M
theorem AH {s z : LI} (hz : z.Nodup) : (gP m s z).Nodup:=by
 unfold gP;rw [Jg];refine ⟨(dc z).nodup_iff.2 hz,(nK false (s ++ z) m).imp λh=>by omega,λa ha b hb e=>?_⟩;obtain ⟨j,hj,rfl,hd⟩:=(ik m).1 hb;have hn : ¬ (j : Int) ∈ s ++ z:=by simpa using hd
 exact hn (List.mem_append.2 (.inr ((dc z).mem_iff.1 (e ▸ ha))))
theorem BY {s z : LI} {x : Int} : x ∈ ey O L m C s z ↔ x ∈ vu O L (gP m s z) (if C.cos=true then m else C.M):=(dc _).mem_iff
theorem yT {s z : LI} (hz : z.Nodup) : (ey O L m C s z).Nodup:=by unfold ey;refine (dc _).nodup_iff.2 ?_;unfold vu;refine JZ (KA _ _) ?_;exact gr_nodup (AH hz)
where gr_nodup {Q : LI} (hQ : Q.Nodup) : (uF O L Q).Nodup := JZ (gr_sub Q Q.length (GQ _)) (by rw [KJ]; exact hQ)
      gr_sub (Q : LI) : ∀k,k<=Q.length->((grTo O L Q k).2).Sublist (Q.take k)
 | 0,_=>by simp [grTo]
 | k+1,h=>by
  have ih:=gr_sub Q k (by omega);rw [grTo,Hj (by omega)];split
  ·rw [aj (show k<Q.length by omega)];exact ih.append (List.Sublist.refl _)
  ·exact ih.trans (List.sublist_append_left _ _)
end
theorem aB.lQ {w V V' : World} {I I' : Nat->Prop} (h : aB w V I I') (g : Below w.heap.size V V') : aB w V' I I' :=
 ⟨g.os.trans h.os,g.tape.trans h.tape,g.output.trans h.output,H7 h.size g.size,λb hb hi=>(g.block b hb).trans (h.block b hb hi),h.grow⟩
theorem aB.grown {w w' : World} {K : Nat->Prop} {a : OA} {n c : Nat} (hg : w.grownBy w' (Value.slice a n c).ownBlock) (hK : a ≠ none->K (ablk a)) : aB w w' K K :=
 ⟨hg.os,hg.tape,hg.output,hg.size,λb hb hi=>hg.block b hb λe=>by
  cases a with
  | none=>cases e
  | some ad =>
   have h1 : b=ad.block:=by simpa [Value.ownBlock] using e
   exact hi (h1 ▸ hK (by simp)),λb hb=>.inl hb⟩
theorem Ints.dG {w w' : World} {I I' : Nat->Prop} {a : OA} {n : Nat} {l : LI} (h : Ints w a n l) (hM : aB w w' I I') (hI : 0<n->¬ I (ablk a)) : Ints w' a n l :=
 h.of_block λhn=>hM.block _ (h.lt hn) (hI hn)
theorem aO.dG {w w' : World} {I I' : Nat->Prop} {b : Nat} {cs : List Value} (h : aO w b cs) (hM : aB w w' I I') (hI : ¬ I b) : aO w' b cs:=by have hb:=hM.block b h.1 hI;refine ⟨It h.1 hM.size,λi v hv=>(Ii (w:=w) (a:=⟨b,i,none⟩) hb).trans (h.2.1 i v hv),λi=>?_⟩;rw [<- h.2.2 i];unfold World.frozen?;simp only [hb]
theorem aB.put (w : World) (b i : Nat) (v : Value) : aB w (w.setCell ⟨b,i,none⟩ v) (λx=>x=b) (λx=>x=b):=by have hb0 : Below 0 w (w.setCell ⟨b,i,none⟩ v):=(GS 0 w).setCell (G0 _) v;exact ⟨hb0.os,hb0.tape,hb0.output,hb0.size,λx hx hI=>Ia _ _ _ _ λe=>hI e,λx hx=>.inl hx⟩
theorem Dr {L : Ll} {t q i : Nat} (ht : t<L.length) (hq : q<L.length) (hz : nth (ai L q) i ≠ 0) : nth (ai (aX L t q) t) i ≠ 0:=by
 rw [jh _ _ _ _ ht hq,iP];by_cases e : t=q
 ·rw [GV e,e];exact hz
 ·rw [GU e,GV rfl];exact hz
theorem Ex {L : Ll} {i t : Nat} (ht : t<=L.length) (h : aT L i t ≠ L.length) : t<=aT L i t/\aT L i t<L.length/\nth (ai L (aT L i t)) i ≠ 0:=by
 have h1:=jw (c:=i) ht;refine ⟨h1.1,by omega,?_⟩;unfold aT;refine gu L i _ _ ?_;have : aT L i t<L.length:=by omega
 unfold aT at this;omega
theorem x8 {O : aM} {El : Int->Prop} {m : Nat} (hO : oF O El) {L : Ll} (hL : bG El m L) {t q i : Nat} (ht : t<L.length) (hq : q<L.length) (hi : i<m) (hz : nth (ai L q) i ≠ 0) : bG El m (lz O L t q i):=by unfold lz;have hs:=hL.swap ht hq;have hr:=hs.row (i:=t) (by rw [bJ];exact ht);have hn:=Dr ht hq hz;refine bG.GB hO (hs.set t ⟨by rw [H8];exact hr.1,λx hx=>?_⟩) (by rw [IK,bJ];exact ht) hi _ (by rw [IK,bJ];exact GQ _);obtain ⟨x0,hx0,rfl⟩:=List.mem_map.1 hx;exact hO.mul _ _ (hO.inv _ (hr.2 _ (aH (by rw [hr.1];exact hi))) hn) (hr.2 _ hx0)
theorem B5 {O : aM} {El : Int->Prop} {m : Nat} (hO : oF O El) {L : Ll} (hL : bG El m L) {y t : LI} (hy : y.length=m/\∀x ∈ y,El x) (hT : ∀j,j<t.length->(nth t j).toNat<m) :
  ∀k,k<=t.length->bG El m (il O L y t k).rows/\((il O L y t k).sum.length=m/\∀x ∈ (il O L y t k).sum,El x)/\(il O L y t k).top<=(il O L y t k).rows.length
 | 0,_=>⟨hL,hy,G0 _⟩
 | k+1,hk=>by
  obtain ⟨h1,h2,h3⟩:=B5 hO hL hy hT k (by omega);have hi:=hT k (by omega);rw [il,mC];generalize il O L y t k=st at *;split
  ·exact ⟨h1,h2,h3⟩
  ·rename_i hne;obtain ⟨a1,a2,a3⟩:=Ex h3 hne;have hp:=x8 hO h1 (t:=st.top) (by omega) a2 hi a3;have hr:=hp.row (i:=st.top) (by rw [lq];omega);refine ⟨hp,⟨?_,?_⟩,?_⟩
   ·dsimp only;rw [eK _ _ _ _ (by rw [hr.1,h2.1])];exact h2.1
   ·exact sW hO h2.2 hr.2 (by rw [hr.1,h2.1]) (by rw [h2.1];exact hi)
   ·dsimp only;rw [lq];omega
def la (b : Nat) (P M : Int) (am : OA) (mn cm : Nat) (m : Nat) (a : OA) (n c : Nat) (ay : OA) (ny cy : Nat) (C : jK) (sv : Value) (k : Nat) : List Value :=
 [.pointer (some ⟨b,0,none⟩),.int .i64 P,.int .i64 M,.slice am mn cm,.int .i64 m,.slice a n c,.slice ay ny cy,.bool C.cos,.int .i64 C.M,.int .i64 C.W,sv,.int .i64 k]
structure xz (w0 : World) (b : Nat) (G : bX) (a : OA) (n : Nat) (L : Ll) (m : Nat) (ay : OA) (ny : Nat) (C : jK) : Prop where
 g : dz w0 b G
 jX : bC w0 a n L
 rws : bG G.El m L
 n6 : n<=1000000
 m6 : m<=64
 w6 : C.W<=64
 yl : C.cos=true->ny=m
 y : C.cos=true->Ints w0 ay m C.y
 ye : C.cos=true->G.va C.y
theorem Cq (m : Nat) (s : LI) : gP m s []=frTo false s m:=by unfold gP;rw [Jr,show cJ []=[] by unfold cJ;simp];rfl
theorem aO.setCell {w : World} {b : Nat} {cs : List Value} (h : aO w b cs) (i : Nat) (v : Value) : aO (w.setCell ⟨b,i,none⟩ v) b (cs.set i v):=by
 refine ⟨by simpa using h.1,λj u hu=>?_,λj=>by rw [IM];exact h.2.2 j⟩;by_cases e : j=i
 ·subst e;by_cases hl : j<cs.length
  ·rw [List.getElem?_set_self hl] at hu;cases hu
   exact Ih _ _ _ (h.2.1 j cs[j] (Iu hl))
  ·rw [Jz (by omega),I0 (by omega)] at hu;cases hu
 ·rw [List.getElem?_set_ne (by omega)] at hu;rw [H9 _ _ _ _ (by simp <;> omega)];exact h.2.1 j u hu
theorem sN {m : Nat} {t : LI} (h : jR m t=true) : ∀k,k<t.length->0<=nth t k/\nth t k<m:=λ_ hk=>⟨(jm h hk).1,(jm h hk).2.1⟩
theorem oE {σ : Type} (I : World->σ->Prop) (J : σ->Nat->Prop) (val : σ->Ll) (F : LI->LI->Ll->Int × Ll) (pb W : Nat)
  (sa : OA) (ns cs : Nat) (s : LI) (az : OA) (nz cz : Nat) (z : LI) (at' : OA) (nt ct : Nat) (t : LI) (w : World) (σ0 : σ)
  (hI0 : I w σ0) (hIb : ∀V V' σ,I V σ->aB V V' (λb=>w.heap.size<=b/\¬ J σ b) (λb=>w.heap.size<=b/\¬ J σ b)->I V' σ) (hp : w.cell? ⟨pb,9,none⟩=some (.int .i64 W)) (hS : ∀V σ,I V σ->Ints V sa ns s/\Ints V at' nt t)
  (hJ : ∀V σ x,I V σ->J σ x->x<V.heap.size) (hz : Ints w az nz z) (htn : t.Nodup) (hns : ns<=1000) (hnz : nz<=1000) (hnt : nt<=1000) (hWs : ns<=W)
  (hF : ns<W->∀(V : World) (σ : σ) (a1 : OA) (c1 : Nat) (a2 : OA) (c2 k : Nat) (zc : LI),k<nt->zc=z ++ (t.take k).filter (λx=>decide (¬ x ∈ z))->¬ nth t k ∈ z->I V σ->aB w V (J σ0) (J σ) ->
   Ints V a1 (ns+1) (s ++ [nth t k])->Ints V a2 zc.length zc->¬ J σ (ablk a1)->(a2 ≠ none->¬ J σ (ablk a2)) ->
   Calls prog 184 #[.pointer (some ⟨pb,0,none⟩),.slice a1 (ns+1) c1,.slice a2 zc.length c2] V
    λe V'=>∃σ',I V' σ'/\aB V V' (J σ) (J σ')/\e = .returned (.int .i64 (F (s ++ [nth t k]) zc (val σ)).1)/\((F (s ++ [nth t k]) zc (val σ)).1=0->val σ'=(F (s ++ [nth t k]) zc (val σ)).2)) :
  Calls prog 234 #[.pointer (some ⟨pb,0,none⟩),.slice sa ns cs,.slice az nz cz,.slice at' nt ct,.func (.func 184) #[.pointer (some ⟨pb,0,none⟩)] #[]] w
   λe w'=>∃σ',I w' σ'/\aB w w' (J σ0) (J σ')/\e = .returned (.int .i64 (fU F s z (if ns<W then t.filter (λx=>decide (¬ x ∈ z)) else []) (val σ0)).1) /\
    ((fU F s z (if ns<W then t.filter (λx=>decide (¬ x ∈ z)) else []) (val σ0)).1=0->val σ'=(fU F s z (if ns<W then t.filter (λx=>decide (¬ x ∈ z)) else []) (val σ0)).2):=by
 obtain ⟨KB,hKB⟩ : ∃KB,fU F s z (if ns<W then t.filter (λx=>decide (¬ x ∈ z)) else []) (val σ0)=KB:=⟨_,rfl⟩
 rw [hKB];have HKB:=Z5 hKB;clear hKB;have Hzl:=Z5 hz.len;have Htl:=Z5 (hS w σ0 hI0).2.len;have Hsl:=Z5 (hS w σ0 hI0).1.len;have hplt:=(hS w σ0 hI0).2.pl;have HS:=Z5 hS;have HI0:=Z5 hI0;have HIb:=Z5 hIb;have HJ:=Z5 hJ;have Htn:=Z5 htn;have HF:=Z5 hF;clear hS hI0 hIb hJ htn hF;by_cases hW : ns=W
 ·have hd : ((ns : Int) == (W : Int))=true:=by simp;omega
  have Hk : Hid (KB=(0,val σ0)):=by show _=_;rw [<- HKB.out,GU (by omega)];rfl
  go_enter func234,ntmps234;clear hW;go_wp2_with fail;go_ret;exact ⟨σ0,HI0.out,Ma _ _,by rw [Hk.out];rfl,λ_=>by rw [Hk.out]⟩
 have hd : ((ns : Int) == (W : Int))=false:=by simp;omega
 have hlW : ns<W:=by omega
 have HKB : Hid (KB=fU F s z (t.filter (λx=>decide (¬ x ∈ z))) (val σ0)):=by show _=_;rw [<- HKB.out,GV hlW]
 have HF:=Z5 (HF.out hlW);clear hlW hW;go_enter func234,ntmps234;go_wp2_with fail;refine (ch az nz cz z hz (by omega)).mono ?_;rintro e w1 ⟨a0,c0,rfl,hown0,hb1⟩;have hI1:=HIb.out w w1 σ0 HI0.out (L4 hb1 _);go_wp2_with fail;go_loopw [2,25] (λzv iv wr=>∃(k : Nat) (aq : OA) (cq : Nat) (zc : LI) (σ : σ),k<=nt/\iv = .int .i64 k/\zv = .slice aq zc.length cq/\Hid (zc=z ++ (t.take k).filter (λx=>decide (¬ x ∈ z))) /\
   wr.ownsRow w.heap.size 3 1 (.slice aq zc.length cq) zc.length (zc.map (Value.int .i64))/\Hid (I wr σ)/\Hid (aB w wr (J σ0) (J σ))/\Hid (aq ≠ none->¬ J σ (ablk aq)) /\
   Hid (KB=fU F s zc ((t.drop k).filter (λx=>decide (¬ x ∈ z))) (val σ))/\zc.length<=nz+k)
  (λ_ iv _=>nt - (intOf iv).toNat)
 case atStart =>
  refine ⟨0,a0,c0,z,σ0,G0 _,rfl,rfl,?_,hown0,hI1,L4 hb1 _,?_,?_,by rw [Hzl.out];omega⟩
  ·show _=_;simp
  ·show a0 ≠ none->_
   intro ha hj
   have h1:=HJ.out w σ0 _ HI0.out hj
   have h2:=(aS hown0 ha).1
   omega
  ·show _=_;rw [JS];exact HKB.out
 case round =>
  obtain ⟨k,aq,cq,zc,σ,hk,rfl,rfl,hzc,hop,hI,hM,hap,hkb,hzn⟩:=hrel
  generalize wr=U at *
  by_cases hlt : k<nt
  ·have htU:=(HS.out U σ hI.out).2
   have hsU:=(HS.out U σ hI.out).1
   have ck:=htU.cell k hlt
   obtain ⟨hzi,_⟩:=L0 hop
   have hktl : k<t.length:=by rw [Htl.out];exact hlt
   have Htk:=Z5 (show t.take (k+1)=t.take k ++ [nth t k] from pa t hktl)
   have Hdk:=Z5 (show t.drop k=nth t k :: t.drop (k+1) by rw [aj hktl];exact IJ hktl)
   have Hzm : Hid (nth t k ∈ zc ↔ nth t k ∈ z):=by
    show _ ↔ _;rw [hzc.out,IS,JL];constructor
    ·rintro (h | h)
     ·exact h
     ·exfalso;have hn : (t.take k ++ t.drop k).Nodup:=by rw [KX];exact Htn.out
      rw [Jg] at hn;exact hn.2.2 _ h.1 (nth t k) (by rw [Hdk.out];simp) rfl
    ·exact .inl
   by_cases hmz : nth t k ∈ z
   ·have hmd : decide (nth t k ∈ zc)=true:=by simpa using Hzm.out.2 hmz
    have HcA:=Z5 (bY aq zc.length cq zc (nth t k) U hzi)
    rw [hmd] at HcA
    have Hzc2 : Hid (zc=z ++ (t.take (k+1)).filter (λx=>decide (¬ x ∈ z))):=by show _=_;rw [Htk.out,JH,JC (by simpa using hmz),JM,Jr];exact hzc.out
    have Hkb2 : Hid (KB=fU F s zc ((t.drop (k+1)).filter (λx=>decide (¬ x ∈ z))) (val σ)):=by show _=_;rw [hkb.out,Hdk.out,JC (by simpa using hmz)]
    clear hmz hmd
    go_wp2_with fail
    refine HcA.out.mono ?_
    rintro e w6 ⟨rfl,rfl⟩
    go_wp2_with fail
    go_roundw
    case rel=>exact ⟨k+1,aq,cq,zc,σ,by omega,by go_num,rfl,Hzc2.out,hop,hI.out,hM.out,hap.out,Hkb2.out,by omega⟩
    case measure=>simp [intOf] <;> omega
   ·have hmd : decide (nth t k ∈ zc)=false:=by simpa using λh=>hmz (Hzm.out.1 h)
    have HcA:=Z5 (bY aq zc.length cq zc (nth t k) U hzi)
    rw [hmd] at HcA
    have Hzc2 : Hid (zc ++ [nth t k]=z ++ (t.take (k+1)).filter (λx=>decide (¬ x ∈ z))):=by show _=_;rw [Htk.out,JH,JD (by simpa using hmz),JM,<- IZ,<- hzc.out]
    have Hkb2 : Hid (KB=if (F (s ++ [nth t k]) zc (val σ)).1=0 then fU F s (zc ++ [nth t k]) ((t.drop (k+1)).filter (λx=>decide (¬ x ∈ z))) (F (s ++ [nth t k]) zc (val σ)).2 else ((F (s ++ [nth t k]) zc (val σ)).1,[])):=by show _=_;rw [hkb.out,Hdk.out,JD (by simpa using hmz),fU]
    have HFk:=Z5 (λV σ a1 c1 a2 c2=>HF.out V σ a1 c1 a2 c2 k zc hlt hzc.out hmz)
    have hszU:=hM.out.size
    clear hmz hmd
    go_wp2_with fail
    refine HcA.out.mono ?_
    rintro e w6 ⟨rfl,rfl⟩
    go_wp2_with fail
    refine (ch sa ns cs s hsU (by omega)).mono ?_
    rintro e w7 ⟨a7,c7,rfl,hown7,hb7⟩
    rw [Hsl.out] at hown7
    rw [Hsl.out]
    obtain ⟨x,hx⟩ : ∃x,nth t k=x:=⟨_,rfl⟩
    rw [hx] at ck Hzc2 Hkb2 HFk Htk Hdk Hzm HcA ⊢
    have hcn:=bm w7 (.int .i64 x) 3
    have hbn:=an w7 (.cells #[.int .i64 x] 3)
    go_wp2_with (at_builtin;refine aU rfl _ _ 22 3 rfl (.int .i64 0) 8 underlying22 bg rfl w6.heap.size a7 ns c7 _ rfl (hown7.alloc _) ⟨w7.heap.size,0,none⟩ 1 (.int .i64 x) rfl hcn rfl (by omega) (by unfold maxLen;omega) (H7 hb7.size hbn.size) ?_;intro a8 c8 w8 hown8 hgr8 hap8)
    have hb68 : Mv w6 w8:=L3 (LY hb7 hbn) (hown7.alloc _) hgr8 (GQ _) (H7 hb7.size hbn.size)
    have own8 : w8.ownsRow w6.heap.size 3 1 (.slice a8 (ns+1) c8) (ns+1) ((s ++ [x]).map (Value.int .i64)):=by simpa using hown8
    have hz8:=hzi.af hb68
    clear hown7 hown8 hgr8 hap8 hcn hbn
    go_wp2_with fail
    refine (ch aq zc.length cq zc hz8 (by omega)).mono ?_
    rintro e w9 ⟨a9,c9,rfl,hown9,hb9⟩
    have hb69:=LY hb68 hb9
    have hI9:=HIb.out w6 w9 σ hI.out (L4 hb69 _)
    have hM9 : aB w w9 (J σ0) (J σ):=hM.out.lQ (hb69.mono hszU)
    have hs9:=(L0 own8).1.af hb9
    have hz9:=(L0 hown9).1
    have hn8 : ¬ J σ (ablk a8):=λhj=>by have h1:=HJ.out w6 σ _ hI.out hj;have h2:=(dP own8 (by omega)).1;omega
    have hn9 : a9 ≠ none->¬ J σ (ablk a9):=λha hj=>by have h1:=HJ.out w6 σ _ hI.out hj;have h2:=(aS hown9 ha).1;have h3:=hb68.size;omega
    have hopz:=bj hop hb69
    have HCall:=Z5 (HFk.out w9 σ a8 c8 a9 c9 hI9 hM9 hs9 hz9 hn8 hn9)
    clear HFk hI9 hs9 hz9 hn8 hn9 hz8 own8 hown9
    generalize F (s ++ [x]) zc (val σ)=FR at *
    obtain ⟨fe,fv⟩:=FR
    dsimp only at HCall Hkb2
    go_wp2_with fail
    refine HCall.out.mono ?_
    rintro e w10 ⟨σ',hI',hM',rfl,hval⟩
    have hM10:=Z5 (hM9.trans hM')
    have hapz : aq ≠ none->¬ J σ' (ablk aq):=λha=>hM'.not (aS hopz ha).2 (hap.out ha)
    have hopq:=hM'.own hopz hap.out
    have Hapz:=Z5 hapz
    have HI':=Z5 hI'
    clear HCall hM9 hM' hapz hI' hopz
    by_cases hfe : fe=0
    ·have Hval : Hid (val σ'=fv):=hval hfe
     subst hfe
     rw [GV rfl] at Hkb2
     have hcn:=bm w10 (.int .i64 x) 3
     have hbn:=an w10 (.cells #[.int .i64 x] 3)
     have hsz10:=hM10.out.size
     clear hval
     go_wp2_with (at_builtin;refine aU rfl _ _ 22 3 rfl (.int .i64 0) 8 underlying22 bg rfl w.heap.size aq zc.length cq _ rfl (hopq.alloc _) ⟨w10.heap.size,0,none⟩ 1 (.int .i64 x) rfl hcn rfl (by omega) (by unfold maxLen;omega) (H7 hsz10 hbn.size) ?_;intro a11 c11 w11 hown11 hgr11 hap11)
     go_roundw
     case rel =>
      have hb11 : Below w.heap.size w10 w11:=L3 (hbn.mono hsz10) (hopq.alloc _) hgr11 (GQ _) (H7 hsz10 hbn.size)
      have hK : aB w10 w11 (λb=>w.heap.size<=b/\¬ J σ' b) (λb=>w.heap.size<=b/\¬ J σ' b):=(L4 hbn _).trans (aB.grown hgr11 λha=>⟨(aS hopq ha).1,Hapz.out ha⟩)
      refine ⟨k+1,a11,c11,zc ++ [x],σ',by omega,by go_num,by simp,Hzc2.out,by simpa using hown11,HIb.out w10 w11 σ' HI'.out hK,hM10.out.lQ hb11,?_,?_,by simp;omega⟩
      ·show a11 ≠ none->_
       intro ha hj
       have h1:=HJ.out w10 σ' _ HI'.out hj
       have h2 : eA aq (ablk a11):=by
        by_cases h0 : aq=none
        ·exact .inl h0
        ·exact .inr λe=>Hapz.out h0 (by rw [e];exact hj)
       rcases hap11 _ (It h1 hbn.size) h2 with h3 | h3
       ·exact ha h3
       ·exact h3 rfl
      ·show _=_
       rw [Hkb2.out,Hval.out]
     case measure=>simp [intOf] <;> omega
    ·have hfe' : (fe != 0)=true:=by simpa using hfe
     have Hk2 : Hid (KB=(fe,[])):=by show _=_;rw [Hkb2.out,GU hfe]
     have Hfe:=Z5 hfe
     clear hfe hval
     go_wp2_with fail
     go_ret
     exact ⟨σ',HI'.out,hM10.out,by rw [Hk2.out];rfl,λh0=>absurd (by rw [Hk2.out] at h0;exact h0) Hfe.out⟩
  ·obtain rfl : k=nt:=by omega
   have Hf : Hid (KB=(0,val σ)):=by show _=_;rw [hkb.out,IQ (by rw [Htl.out];exact GQ _),JM,fU]
   go_wp2_with fail
   go_ret
   exact ⟨σ,hI.out,hM.out,by rw [Hf.out];rfl,λ_=>by rw [Hf.out]⟩
section
variable {O : aM} {El : Int->Prop} {m : Nat} {R : Ll} {P : LI}
theorem ue (hR : bG El m R) (hP : kN R P m) (hlen : R.length=P.length) : BS.Inv El m ⟨R,P⟩ where
 ok:=⟨hR,hlen.symm,λi hi=>hP.lt i (by rw [<- hlen];exact hi)⟩
 one:=λi hi=>by show nth (ai R i) (nth P i).toNat=1;rw [hP.one i i (by rw [<- hlen];exact hi) hi,GV rfl]
 zero:=λj i hj hi=>by have hi' : i<R.length:=hi;show nth (ai R i) (nth P j).toNat=0;rw [hP.one j i (by omega) hi',GU (by omega)]
def cmbTo (O : aM) (m : Nat) (x : LI) (L : Ll) : Nat->LI
 | 0=>List.replicate m 0
 | k+1=>if nth x k=0 then cmbTo O m x L k else cB O (cmbTo O m x L k) (nth x k) (ai L k)
theorem RS.add (F : bZ O El) {L : Ll} {f g : Nat->Int} (hL : bG El m L) (hf : RS O El m L f) (hg : RS O El m L g) {s : Int} (hs : El s) : RS O El m L (λx=>O.add (f x) (O.mul (g x) s)):=by
 refine (hf.comb F hg (F.cl.neg s hs)).congr λx hx=>?_;obtain ⟨e,he,h⟩:=hg;have hgx : El (g x):=by rw [h x hx];exact he.el _ (dE hL F.zero x)
 rw [F.mul_neg hgx hs,F.neg_neg (F.cl.mul _ _ hgx hs)]
theorem jN (F : bZ O El) {L : Ll} (hL : bG El m L) {x : LI} (hx : ∀k,k<L.length->El (nth x k)) : ∀k,k<=L.length->Vc El m (cmbTo O m x L k)/\RS O El m L (λi=>nth (cmbTo O m x L k) i)
 | 0,_=>by
  have h0 : ∀i,nth (List.replicate m (0 : Int)) i=0:=λi=>by unfold nth;simp only [GY,Ik];split <;> rfl
  exact ⟨⟨by simp [cmbTo],λy hy=>by rw [IL hy];exact F.zero⟩,RS.FX F λi _=>h0 i⟩
 | k+1,hk=>by
  obtain ⟨h1,h2⟩:=jN F hL hx k (by omega);have hr:=hL.row (i:=k) (by omega);have hs:=hx k (by omega);rw [cmbTo];split
  ·exact ⟨h1,h2⟩
  ·have hl : (ai L k).length=(cmbTo O m x L k).length:=by rw [hr.1,h1.1]
   refine ⟨⟨by rw [dq _ _ _ _ hl];exact h1.1,rV F.cl h1.2 hr.2 hs⟩,(RS.add F hL h2 (.row F (i:=k) (by omega)) hs).congr λi hi=>?_⟩;have hri : El (nth (ai L k) i):=L8 hr hi;rw [fX O _ _ _ i hl (by rw [h1.1];exact hi)];split
   ·rename_i e0;rw [e0,F.lC hs,F.add_zero _ (h1.at hi)]
   ·rw [F.mul_comm _ _ hs hri]
end
def zj (P M : Int) (mod : LI) (w : World) (e : Ending) (w' : World) : Prop :=
 ∃a c,e = .returned (.agg #[.int .i64 P,.int .i64 M,.slice a mod.length c])/\bA w.heap.size w' a mod.length mod/\Mv w w'
theorem E0 (P M : Int) (am : OA) (mn cm : Nat) (mod : LI) (w : World) (hmod : Ints w am mn mod) (hmn : mn<=1000000) :
  Calls prog 178 #[.agg #[.int .i64 P,.int .i64 M,.slice am mn cm]] w (zj P M mod w):=by
 go_enter func178,ntmps178;go_wp2_with fail;obtain ⟨W,hW⟩ : ∃W : World,W=(w.alloc (.cells #[.int .i64 P,.int .i64 M,.slice am mn cm] 24)).alloc (.cells #[.int .i64 0,.int .i64 0,.slice none 0 0] 24):=⟨_,rfl⟩
 rw [<- hW];have hbW : Mv w W:=by rw [hW];exact du _ _ _
 have hsW : W.heap.size=w.heap.size+2:=by rw [hW];simp
 have x0 : aO W w.heap.size [.int .i64 P,.int .i64 M,.slice am mn cm]:=by rw [hW];exact (LZ _ _ _ rfl).alloc _
 have y0 : aO W (w.heap.size+1) [.int .i64 0,.int .i64 0,.slice none 0 0]:=by rw [hW];exact LZ _ _ _ (by simp)
 clear hW;refine (ch am mn cm mod (hmod.af hbW) hmn).mono ?_;rintro e w1 ⟨a1,c1,rfl,hown1,hb1⟩;have x1:=x0.af hb1;have y1:=y0.af hb1;have d0:=x1.cell 0 rfl;have d1:=x1.cell 1 rfl;have d2:=x1.cell 2 rfl;have e0:=y1.cell 0 rfl;have e1:=y1.cell 1 rfl;have e2:=y1.cell 2 rfl;have fx:=x1.frozen 2;have f0:=y1.frozen 0;have f1:=y1.frozen 1;have f2:=y1.frozen 2;have hbw1:=LY hbW hb1;have hl:=Z5 (Mt hown1);have hN : bA w.heap.size ((((w1.setCell ⟨w.heap.size,2,none⟩ (.slice a1 mod.length c1)).setCell ⟨w.heap.size+1,0,none⟩ (.int .i64 P)).setCell ⟨w.heap.size+1,1,none⟩ (.int .i64 M)).setCell ⟨w.heap.size+1,2,none⟩ (.slice a1 mod.length c1)) a1 mod.length mod :=
  ((((hl.out.setCell (p:=⟨w.heap.size,2,none⟩) (by simp;omega) _).setCell (p:=⟨w.heap.size+1,0,none⟩) (by simp;omega) _).setCell (p:=⟨w.heap.size+1,1,none⟩) (by simp;omega) _).setCell (p:=⟨w.heap.size+1,2,none⟩) (by simp;omega) _).mono (by omega)
 have hB : Mv w ((((w1.setCell ⟨w.heap.size,2,none⟩ (.slice a1 mod.length c1)).setCell ⟨w.heap.size+1,0,none⟩ (.int .i64 P)).setCell ⟨w.heap.size+1,1,none⟩ (.int .i64 M)).setCell ⟨w.heap.size+1,2,none⟩ (.slice a1 mod.length c1)) :=
  (((hbw1.setCell (p:=⟨w.heap.size,2,none⟩) (by simp) _).setCell (p:=⟨w.heap.size+1,0,none⟩) (by simp) _).setCell (p:=⟨w.heap.size+1,1,none⟩) (by simp) _).setCell (p:=⟨w.heap.size+1,2,none⟩) (by simp) _
 have HF:=Z5 (Hi hN hB);clear hN hB hown1 hl x0 y0 hbw1;go_wp2_with fail;exact bodyPost_ret (v:=.agg #[.int .i64 P,.int .i64 M,.slice a1 mod.length c1]) (by simp [results,results178,go_sem,e0,e1,e2]) rfl ⟨a1,c1,rfl,HF.out.1,HF.out.2⟩
def nf (P M : Int) (mod : LI) (m : Int) (a : OA) (k c : Nat) (w : World) (e : Ending) (w' : World) : Prop :=
 ∃a1 c1,e = .returned (.tuple #[.agg #[.int .i64 P,.int .i64 M,.slice a1 mod.length c1,.int .i64 m,.slice a k c],.int .i64 0])/\bA w.heap.size w' a1 mod.length mod/\Mv w w'
theorem y5 (P M : Int) (am : OA) (mn cm : Nat) (mod : LI) (m : Int) (a : OA) (k c : Nat) (w : World) (hmod : Ints w am mn mod) (hmn : mn<=1000000) :
  Calls prog 120 #[.agg #[.int .i64 P,.int .i64 M,.slice am mn cm],.agg #[.int .i64 m,.slice a k c],.int .i64 0] w (nf P M mod m a k c w):=by
 go_enter func120,ntmps120;go_wp2_with fail;obtain ⟨W,hW⟩ : ∃W : World,W=((w.alloc (.cells #[.int .i64 P,.int .i64 M,.slice am mn cm] 24)).alloc (.cells #[.int .i64 m,.slice a k c] 94)).alloc (.cells #[.int .i64 0,.int .i64 0,.slice none 0 0,.int .i64 0,.slice none 0 0] 27):=⟨_,rfl⟩
 rw [<- hW];have hbW : Mv w W:=by rw [hW];exact jI _ _ _ _
 have hsW : W.heap.size=w.heap.size+3:=by rw [hW];simp
 have x0 : aO W w.heap.size [.int .i64 P,.int .i64 M,.slice am mn cm]:=by rw [hW];exact ((LZ _ _ _ rfl).alloc _).alloc _
 have y0 : aO W (w.heap.size+1) [.int .i64 m,.slice a k c]:=by rw [hW];exact (LZ _ _ _ (by simp)).alloc _
 have z0 : aO W (w.heap.size+1+1) [.int .i64 0,.int .i64 0,.slice none 0 0,.int .i64 0,.slice none 0 0]:=by rw [hW];exact LZ _ _ _ (by simp)
 have Hown : Hid (∀V,Mv W V->Calls prog 178 #[.agg #[.int .i64 P,.int .i64 M,.slice am mn cm]] V (zj P M mod V)):=λV hV=>E0 P M am mn cm mod V (hmod.af (LY hbW hV)) hmn;have hS : ∀V,Mv W V->V.cell? ⟨w.heap.size,0,none⟩=some (.int .i64 P)/\V.cell? ⟨w.heap.size,1,none⟩=some (.int .i64 M)/\V.cell? ⟨w.heap.size,2,none⟩=some (.slice am mn cm)/\V.cell? ⟨w.heap.size+1,0,none⟩=some (.int .i64 m)/\V.cell? ⟨w.heap.size+1,1,none⟩=some (.slice a k c) /\
   aO V (w.heap.size+1+1) [.int .i64 0,.int .i64 0,.slice none 0 0,.int .i64 0,.slice none 0 0]:=λV hV=>by have x1:=x0.af hV;have y1:=y0.af hV;exact ⟨x1.cell 0 rfl,x1.cell 1 rfl,x1.cell 2 rfl,y1.cell 0 rfl,y1.cell 1 rfl,z0.af hV⟩
 have HS:=Z5 hS;have HbW:=Z5 hbW;have HsW:=Z5 hsW;obtain ⟨c0,c1,c2,c3,c4,_⟩:=HS.out W (GS _ _);have HP : Hid (∀(w4 : World) (a4 : OA) (c4' : Nat),bA W.drew.heap.size w4 a4 mod.length mod->Below W.drew.heap.size W.drew w4 ->
   nf P M mod m a k c w (.returned (.tuple #[.agg #[.int .i64 P,.int .i64 M,.slice a4 mod.length c4',.int .i64 m,.slice a k c],.int .i64 0]))
    (((((w4.setCell ⟨w.heap.size+1+1,0,none⟩ (.int .i64 P)).setCell ⟨w.heap.size+1+1,1,none⟩ (.int .i64 M)).setCell ⟨w.heap.size+1+1,2,none⟩ (.slice a4 mod.length c4')).setCell ⟨w.heap.size+1+1,3,none⟩ (.int .i64 m)).setCell ⟨w.heap.size+1+1,4,none⟩ (.slice a k c))):=λw4 a4 c4' h1 h2=>by
  have h1' : bA W.heap.size w4 a4 mod.length mod:=h1;have hb:=LY hbW (LY (GS _ _).drew h2);have hs:=HsW.out;refine ⟨a4,c4',rfl,?_,?_⟩
  ·exact (((((h1'.setCell (p:=⟨w.heap.size+1+1,0,none⟩) (by simp;omega) _).setCell (p:=⟨w.heap.size+1+1,1,none⟩) (by simp;omega) _).setCell (p:=⟨w.heap.size+1+1,2,none⟩) (by simp;omega) _).setCell (p:=⟨w.heap.size+1+1,3,none⟩) (by simp;omega) _).setCell (p:=⟨w.heap.size+1+1,4,none⟩) (by simp;omega) _).mono (by omega)
  ·exact ((((hb.setCell (p:=⟨w.heap.size+1+1,0,none⟩) (by simp;omega) _).setCell (p:=⟨w.heap.size+1+1,1,none⟩) (by simp;omega) _).setCell (p:=⟨w.heap.size+1+1,2,none⟩) (by simp;omega) _).setCell (p:=⟨w.heap.size+1+1,3,none⟩) (by simp;omega) _).setCell (p:=⟨w.heap.size+1+1,4,none⟩) (by simp;omega) _
 clear hW x0 y0 z0 hS hmod hbW hsW;go_wp2_with fail;go_region_law (
  (go_simp;go_at_call 178;((with_reducible refine (Hown.out _ (GS _ _).drew).mono ?_);rintro e w4 ⟨a4,c4',rfl,hN4,hb4⟩;obtain ⟨c0,c1,c2,c3,c4,zz⟩:=HS.out w4 (LY (GS _ _).drew hb4);have z0:=zz.cell 0 rfl;have z1:=zz.cell 1 rfl;have z2:=zz.cell 2 rfl;have z3:=zz.cell 3 rfl;have z4:=zz.cell 4 rfl;have f0:=zz.frozen 0;have f1:=zz.frozen 1;have f2:=zz.frozen 2;have f3:=zz.frozen 3;have f4:=zz.frozen 4)))
 all_goals (
  have HP4:=Z5 (HP.out w4 a4 c4' hN4 hb4)
  clear hN4 hb4 Hown HS HP
  go_wp2_with fail
  exact bodyPost_ret (v:=.tuple #[.agg #[.int .i64 P,.int .i64 M,.slice a4 mod.length c4',.int .i64 m,.slice a k c],.int .i64 0]) (by simp [results,results120,go_sem,z0,z1,z2,z3,z4]) rfl HP4.out)
def kD (O : aM) (u : LI) (a : Int) (r : LI) : LI:=if a=0 then u else List.zipWith (λy x=>if x=0 then y else O.add y (O.mul a x)) u r
def wlkS (O : aM) (q : Nat) : Ll->LI->Ll
 | [],u=>[u]
 | r :: L,u=>(List.range q).flatMap λ(a : Nat)=>wlkS O q L (kD O u a r)
def mI (O : aM) (q : Nat) (r : LI) (L : Ll) (u : LI) (a : Nat) : Ll:=(List.range a).flatMap λ(i : Nat)=>wlkS O q L (kD O u i r)
theorem yA (O : aM) (q : Nat) (r : LI) (L : Ll) (u : LI) (a : Nat) : mI O q r L u (a+1)=mI O q r L u a ++ wlkS O q L (kD O u a r):=by unfold mI;rw [I7,Ld,KO]
theorem iL (O : aM) (q : Nat) : ∀(L : Ll) (u : LI),(wlkS O q L u).length=q ^ L.length
 | [],u=>by simp [wlkS]
 | r :: L,u=>by rw [wlkS,Le];have h : (List.range q).map (λ(a : Nat)=>(wlkS O q L (kD O u a r)).length)=(List.range q).map λ_=>q ^ L.length:=JX λa _=>iL O q L _;rw [h,LM,KP,Jh,Io,Jt,IU]
theorem uO (O : aM) (q : Nat) (r : LI) (L : Ll) (u : LI) (a : Nat) : (mI O q r L u a).length=a * q ^ L.length:=by unfold mI;rw [Le];have h : (List.range a).map (λ(i : Nat)=>(wlkS O q L (kD O u i r)).length)=(List.range a).map λ_=>q ^ L.length:=JX λi _=>iL O q L _;rw [h,LM,KP,Jh]
theorem kB (O : aM) (u : LI) (a : Int) (r : LI) (h : r.length=u.length) : (kD O u a r).length=u.length:=by unfold kD;split <;> simp [h]
theorem wZ (O : aM) (u : LI) (a : Int) (r : LI) (j : Nat) (h : r.length=u.length) (hj : j<u.length) (h0 : a ≠ 0) :
  nth (kD O u a r) j=if nth r j=0 then nth u j else O.add (nth u j) (O.mul a (nth r j)):=by unfold kD;rw [GU h0,aj (show j<_ by simp [h];omega),aj hj,aj (show j<r.length by omega)];simp
theorem Ey {O : aM} {El : Int->Prop} (hO : oF O El) {u r : LI} {a : Int} (hu : ∀x ∈ u,El x) (hr : ∀x ∈ r,El x) (ha : El a) (hl : r.length=u.length) : ∀x ∈ kD O u a r,El x:=by
 intro x hx;by_cases h0 : a=0
 ·unfold kD at hx;rw [GV h0] at hx;exact hu x hx
 ·obtain ⟨j,hj,rfl⟩:=List.mem_iff_getElem.1 hx;rw [kB O u a r hl] at hj;have h1:=wZ O u a r j hl hj h0;rw [aj (show j<(kD O u a r).length by rw [kB O u a r hl];exact hj)] at h1;rw [h1];split
  ·exact hu _ (aH hj)
  ·exact hO.add _ _ (hu _ (aH hj)) (hO.mul _ _ ha (hr _ (aH (by omega))))
theorem GL {G : bX} {x : Int} (h : G.El x) : (decide (0<=x) && decide (x<G.q))=true:=by unfold bX.El at h;simp;exact h
theorem yb {w : World} {b : Nat} {G : bX} (q : Nat) (x : Int) (hc : w.cell? ⟨q,0,none⟩=some (.pointer (some ⟨b,0,none⟩))) (h : dz w b G) (hx : G.El x) :
  Calls prog 241 #[.int .i64 x,.pointer (some ⟨q,0,none⟩)] w λe w'=>e = .returned (.bool false)/\w=w':=by have hB:=GL hx;go_enter func241,ntmps241;go_wp2_with fail;refine (F9 x h).mono ?_;rintro e w' ⟨rfl,rfl⟩;rw [hB];go_wp2_with fail;go_ret;exact ⟨rfl,rfl⟩
theorem wL (q : Nat) (a : OA) (n c : Nat) (l : LI) (w : World) (hi : Ints w a n l) (hf : ∀k,k<n->Calls prog 241 #[.int .i64 (nth l k),.pointer (some ⟨q,0,none⟩)] w λe w'=>e = .returned (.bool false)/\w=w') :
  Calls prog 111 #[.slice a n c,.func (.func 241) #[] #[.pointer (some ⟨q,0,none⟩)]] w λe w'=>e = .returned (.int .i64 (-1))/\w=w':=by
 have hpl:=hi.pl;have hmax:=hi.max;have HF:=Z5 hf;unfold maxLen at hmax;clear hf;go_enter func111,ntmps111;go_wp2_with fail;go_loop [8] (λiv=>∃k : Nat,k<=n/\iv = .int .i64 k) (λiv=>n - (intOf iv).toNat);case atStart=>exact ⟨0,G0 _,rfl⟩
 case round =>
  obtain ⟨k,hk,rfl⟩:=hrel
  by_cases hlt : k<n
  ·have ck:=hi.cell k hlt
   have Hk:=Z5 (HF.out k hlt)
   go_wp2_with fail
   refine Hk.out.mono ?_
   rintro e w' ⟨rfl,rfl⟩
   go_wp2_with fail
   go_round
   case rel=>exact ⟨k+1,by omega,by go_num⟩
   case measure=>simp [intOf] <;> omega
  ·obtain rfl : k=n:=by omega
   go_wp2_with fail
   go_ret
   exact ⟨rfl,rfl⟩
theorem qW (q : Nat) (a : OA) (n c : Nat) (l : LI) (w : World) (hi : Ints w a n l) (hf : ∀k,k<n->Calls prog 241 #[.int .i64 (nth l k),.pointer (some ⟨q,0,none⟩)] w λe w'=>e = .returned (.bool false)/\w=w') :
  Calls prog 53 #[.slice a n c,.func (.func 241) #[] #[.pointer (some ⟨q,0,none⟩)]] w λe w'=>e = .returned (.bool false)/\w=w':=by have Hc:=Z5 (wL q a n c l w hi hf);clear hf;go_enter func53,ntmps53;go_wp2_with fail;refine Hc.out.mono ?_;rintro e w' ⟨rfl,rfl⟩;go_wp2_with fail;go_ret;exact ⟨rfl,rfl⟩
theorem ui {w : World} {b : Nat} {G : bX} (m : Nat) (a : OA) (n c : Nat) (ap : OA) (np cp : Nat) (ax : OA) (cx : Nat) (x : LI) (h : dz w b G) (hx : Ints w ax m x) (hxe : Vc G.El m x) :
  Calls prog 191 #[.agg #[.pointer (some ⟨b,0,none⟩),.int .i64 m,.slice a n c,.slice ap np cp],.slice ax m cx] w λe w'=>e = .returned (.int .i64 0)/\Mv w w':=by
 go_enter func191,ntmps191;go_wp2_with fail;obtain ⟨W,hW⟩ : ∃W : World,W=w.alloc (.cells #[.pointer (some ⟨b,0,none⟩),.int .i64 m,.slice a n c,.slice ap np cp] 210):=⟨_,rfl⟩
 rw [<- hW];have hbW : Mv w W:=by rw [hW];exact an _ _
 have x0 : aO W w.heap.size [.pointer (some ⟨b,0,none⟩),.int .i64 m,.slice a n c,.slice ap np cp]:=by rw [hW];exact LZ _ _ _ rfl
 have c0:=x0.cell 0 rfl;have c1:=x0.cell 1 rfl;have hmm : ((m : Int) != m)=false:=by simp
 have Hc:=Z5 (qW w.heap.size ax m cx x W (hx.af hbW) λk hk =>
  yb w.heap.size (nth x k) c0 (h.af hbW) (hxe.at hk))
 clear hW x0;go_wp2_with fail;refine Hc.out.mono ?_;rintro e w' ⟨rfl,rfl⟩;go_wp2_with fail;go_ret;exact ⟨rfl,hbW⟩
theorem oc {w : World} {b : Nat} {G : bX} (m : Nat) (a : OA) (n c : Nat) (R : Ll) (ap : OA) (cp : Nat) (Pv : LI) (ax : OA) (cx : Nat) (x : LI)
  (h : dz w b G) (hi : bC w a n R) (hp : Ints w ap n Pv) (hx : Ints w ax m x) (hOk : BS.Ok G.El m ⟨R,Pv⟩) (hxe : Vc G.El m x) (hn : n<=1000000) (hm : m<=1000000) :
  Calls prog 242 #[.agg #[.pointer (some ⟨b,0,none⟩),.int .i64 m,.slice a n c,.slice ap n cp],.slice ax m cx] w
   λe w'=>∃a1 c1 v2,e = .returned (.tuple #[.slice a1 m c1,v2])/\w'.ownsRow w.heap.size 3 1 (.slice a1 m c1) m ((redTo G.ops R Pv x n).map (Value.int .i64))/\Mv w w':=by
 have hcl:=Mj h;have hrl : R.length=n:=hi.len;have hred:=ku hcl hOk.rws (Q:=Pv) hOk.plc hxe;have Hred:=Z5 hred;have HOk:=Z5 hOk;have Hrl:=Z5 hrl;have Hxl:=Z5 hxe.1;have hplp:=hp.pl;have hplr:=hi.pl;clear hred hOk hrl hcl;go_enter func242,ntmps242;go_wp2_with fail;obtain ⟨W,hW⟩ : ∃W : World,W=w.alloc (.cells #[.pointer (some ⟨b,0,none⟩),.int .i64 m,.slice a n c,.slice ap n cp] 210):=⟨_,rfl⟩
 rw [<- hW];have hbW : Mv w W:=by rw [hW];exact an _ _
 have x0 : aO W w.heap.size [.pointer (some ⟨b,0,none⟩),.int .i64 m,.slice a n c,.slice ap n cp]:=by rw [hW];exact LZ _ _ _ rfl
 have HX:=Z5 x0;have HbW:=Z5 hbW;clear hW x0;refine (ch ax m cx x (hx.af hbW) hm).mono ?_;rintro e w1 ⟨a1,c1,rfl,hown1,hb1⟩;rw [Hxl.out] at hown1 ⊢;have ha1 : a1 ≠ none->ablk a1<w1.heap.size:=λh0=>(aS hown1 h0).2;have ha1W : a1 ≠ none->W.heap.size<=ablk a1:=λh0=>(aS hown1 h0).1;have x1:=HX.out.af hb1;have q2:=x1.cell 2 rfl;have q3:=x1.cell 3 rfl;have hs1:=hb1.size;clear x1;go_wp2_with fail;go_loopw [5,16] (λtv iv wr=>∃(k : Nat) (at' : OA) (ct : Nat) (xs : List Value),k<=n/\iv = .int .i64 k/\tv = .slice at' k ct/\wr.ownsRow W.heap.size 3 1 (.slice a1 m c1) m ((redTo G.ops R Pv x k).map (Value.int .i64)) /\
   wr.ownsRow w1.heap.size 3 1 (.slice at' k ct) k xs/\Mv W wr/\w1.heap.size<=wr.heap.size) (λ_ iv _=>n - (intOf iv).toNat)
 case atStart=>exact ⟨0,none,0,[],G0 _,rfl,rfl,hown1,cF,hb1,GQ _⟩
 case round =>
  clear q2 q3 hown1
  obtain ⟨k,at',ct,xs,hkn,rfl,rfl,hown,hopt,hbr,hsr⟩:=hrel
  have xr:=HX.out.af hbr
  have hbwr:=LY HbW.out hbr
  by_cases hlt : k<n
  ·have hkr : k<R.length:=by rw [Hrl.out];exact hlt
   have hrow:=HOk.out.rws.row hkr
   have hplc : 0<=nth Pv k/\nth Pv k<m:=HOk.out.plc k hkr
   obtain ⟨ra,rn,rc,er,ir⟩:=hi.cell k hlt
   have hrn : rn=m:=by rw [<- ir.len];exact hrow.1
   rw [hrn] at er ir
   have ep:=(hp.af hbwr).cell k hlt
   obtain ⟨pn,hpn⟩ : ∃pn : Nat,nth Pv k=pn:=⟨(nth Pv k).toNat,by omega⟩
   rw [hpn] at ep hplc
   have hpnn : pn<m:=by omega
   have hrd:=Hred.out k (by omega)
   have hrd1:=Hred.out (k+1) (by omega)
   have hstep : redTo G.ops R Pv x (k+1)=dQ G.ops (redTo G.ops R Pv x k) pn (ai R k):=by rw [redTo,hpn]
   have Hstep:=Z5 hstep
   have Hrow:=Z5 hrow
   clear hstep hpn hrn
   obtain ⟨u,hu⟩ : ∃u,redTo G.ops R Pv x k=u:=⟨_,rfl⟩
   rw [hu] at hown hrd
   have Hu:=Z5 hu
   obtain ⟨iu,mu⟩:=L0 hown
   have eu:=iu.cell pn hpnn
   have hpu:=iu.pl
   have Hrd:=Z5 hrd
   clear hu hrow hrd hrd1
   have hne1 : a1 ≠ none:=λe=>by have:=hpu (by omega);rw [e] at this;cases this
   have ha1':=ha1 hne1
   have hapt : eA at' (ablk a1):=by
    by_cases h0 : at'=none
    ·exact .inl h0
    ·have:=(aS hopt h0).1;exact .inr (by omega)
   have hcn:=bm wr (.int .i64 (nth u pn)) 3
   have hbn:=an wr (.cells #[.int .i64 (nth u pn)] 3)
   have hbnx:=IT hbr (hbn.mono (by omega))
   have HN5 : Hid (∀(a5 : OA) (c5 : Nat) (w5 : World),(wr.alloc (.cells #[.int .i64 (nth u pn)] 3)).grownBy w5 (Value.slice at' k ct).ownBlock->Mv W w5/\w5.ownsRow W.heap.size 3 1 (.slice a1 m c1) m (u.map (Value.int .i64))/\w1.heap.size<=w5.heap.size):=λa5 c5 w5 hgr5 =>
    ⟨L3 hbnx (hopt.alloc _) hgr5 (by omega) (by simp;omega),gJ (hown.alloc _) hgr5 hapt,by have:=hgr5.size;simp at this;omega⟩
   clear hbnx mu
   by_cases hz : nth u pn=0
   ·have hz' : (nth u pn != 0)=false:=by simpa using hz
    have Hn : Hid (redTo G.ops R Pv x (k+1)=u):=by show _=_;rw [Hstep.out,Hu.out,dQ,GW,GV hz]
    clear hz
    go_wp2_with (at_builtin;refine aU rfl _ _ 22 3 rfl (.int .i64 0) 8 underlying22 bg rfl w1.heap.size at' k ct xs rfl (hopt.alloc _) ⟨wr.heap.size,0,none⟩ 1 (.int .i64 (nth u pn)) rfl hcn rfl (by omega) (by unfold maxLen;omega) (by simp;omega) ?_;intro a5 c5 w5 hown5 hgr5 hap5)
    go_roundw
    case rel =>
     obtain ⟨h1,h2,h3⟩:=HN5.out a5 c5 w5 hgr5
     exact ⟨k+1,a5,c5,_,by omega,by go_num,rfl,by rw [Hn.out];exact h2,hown5,h1,h3⟩
    case measure=>simp [intOf] <;> omega
   ·have hz' : (nth u pn != 0)=true:=by simpa using hz
    have Hn : Hid (redTo G.ops R Pv x (k+1)=dA G.ops u (nth u pn) (ai R k)):=by show _=_;rw [Hstep.out,Hu.out,dQ,GW,GU hz]
    have hxe2 : G.El (nth u pn):=Hrd.out.2 _ (aH (by rw [Hrd.out.1];exact hpnn))
    have hSl : (dA G.ops u (nth u pn) (ai R k)).length=u.length:=eD _ _ _ _ (by rw [Hrow.out.1,Hrd.out.1])
    have hSn:=λi hi=>ek G.ops u (nth u pn) (ai R k) i (by rw [Hrow.out.1,Hrd.out.1]) hi
    have HSl:=Z5 hSl
    have HSn:=Z5 hSn
    clear hz hSl hSn
    have hplr2:=ir.pl
    go_upto_region 8 with (at_builtin;refine aU rfl _ _ 22 3 rfl (.int .i64 0) 8 underlying22 bg rfl w1.heap.size at' k ct xs rfl (hopt.alloc _) ⟨wr.heap.size,0,none⟩ 1 (.int .i64 (nth u pn)) rfl hcn rfl (by omega) (by unfold maxLen;omega) (by simp;omega) ?_;intro a5 c5 w5 hown5 hgr5 hap5)
    obtain ⟨hbU,hownU,hsU⟩:=HN5.out a5 c5 w5 hgr5
    have hna5 : a5 ≠ none->¬ (a1 ≠ none/\ablk a5=ablk a1):=λh0 h1=>by have:=(aS hown5 h0).1;omega
    clear HN5 hgr5 hap5 hcn hbn eu iu ep xr hown hopt hapt
    generalize w5=U at *
    have hbwU:=LY HbW.out hbU
    have xU:=HX.out.af hbU
    have q1:=xU.cell 1 rfl
    have q2:=xU.cell 2 rfl
    have erU:=ak hbwU er
    clear xU
    go_wp2_with fail
    clear q1 q2 erU
    generalize nth u pn=y at *
    generalize dA G.ops u y (ai R k)=S at *
    go_loopw [38] (λiv wx=>∃j : Nat,j<=m/\iv = .int .i64 j/\wx.ownsRow W.heap.size 3 1 (.slice a1 m c1) m ((fD S u j).map (Value.int .i64))/\bU a1 U wx) (λiv _=>m - (intOf iv).toNat)
    case atStart=>exact ⟨0,G0 _,rfl,by rw [eJ];exact hownU,Mb _ _⟩
    case round =>
     clear hownU
     obtain ⟨j,hj,rfl,hown2,honly2⟩:=hrel
     have hbx0 : Below W.heap.size U wr:=honly2.below ha1W hbU.size
     have hbx:=IT hbU hbx0
     have hbwx:=LY HbW.out hbx
     by_cases hjn : j<m
     ·have cj:=(ir.af hbwx).cell j hjn
      have f0:=(HX.out.af hbx).cell 0 rfl
      obtain ⟨im,mm⟩:=L0 hown2
      have cm:=im.cell j hjn
      have fm:=(mm (by omega)).2 j hjn
      have hju : j<u.length:=by rw [Hrd.out.1];exact hjn
      have hmix:=dU S u j j HSl.out (by omega)
      rw [GU (by omega)] at hmix
      rw [hmix] at cm
      have hset:=eC S u j HSl.out hju
      rw [HSn.out j hju] at hset
      have Hset:=Z5 hset
      have ely : G.El (nth (ai R k) j):=Hrow.out.2 _ (aH (by rw [Hrow.out.1];exact hjn))
      have elv : G.El (nth u j):=Hrd.out.2 _ (aH hju)
      have hGr : dz wr b G:=h.af hbwx
      have elm : ∀x y,G.El (G.mul x y):=λx y=>Mk h x y
      have HG : Hid (dz wr.drew b G/\∀n,dz (wr.drewN n) b G):=⟨hGr.af (GS _ _).drew,λn=>hGr.drewN n⟩
      clear hset hmix
      go_wp2_with fail
      go_region_law ((first
       | (go_simp;go_at_call 57;((with_reducible refine (mG y (nth (ai R k) j) HG.out.1 hxe2 ely).mono ?_);rintro e w4 ⟨m4,rfl,rfl⟩))
       | (go_simp;go_at_call 57;((with_reducible refine (mG y (nth (ai R k) j) (HG.out.2 _) hxe2 ely).mono ?_);rintro e w4 ⟨m4,rfl,rfl⟩))
       | (go_simp;go_at_call 199;((with_reducible refine (Fq (nth u j) (G.mul y (nth (ai R k) j)) (HG.out.2 _) elv (elm _ _)).mono ?_);rintro e w4 ⟨m5,rfl,rfl⟩))))
      all_goals (
       go_wp2_with fail
       go_roundw
       case rel =>
        have hdr : aY wr (wr.drewN (1+m4+m5)):=⟨_,rfl⟩
        refine ⟨j+1,by omega,by go_num,?_,honly2.trans ((L9 hdr).trans (Md _ j _ hne1))⟩
        have h1:=bt (w:=wr.drewN (1+m4+m5)) hown2 j hjn (.int .i64 (G.sub (nth u j) (G.mul y (nth (ai R k) j))))
        rw [<- Im,show G.sub (nth u j) (G.mul y (nth (ai R k) j))=G.ops.add (nth u j) (G.ops.neg (G.ops.mul y (nth (ai R k) j))) from rfl,Hset.out] at h1
        exact h1
       case measure=>simp [intOf] <;> omega)
     ·obtain rfl : j=m:=by omega
      rw [fG S u j (by rw [HSl.out,Hrd.out.1]) Hrd.out.1] at hown2
      have hown6:=aB.own honly2 hown5 hna5
      have hsx:=honly2.size
      go_wp2_with fail
      go_roundw
      case rel=>exact ⟨k+1,a5,c5,_,by omega,by go_num,rfl,by rw [Hn.out];exact hown2,hown6,hbx,by omega⟩
      case measure=>simp [intOf] <;> omega
  ·obtain rfl : k=n:=by omega
   have hF:=bd hown HbW.out.size
   have HF:=Z5 hF
   clear hF hown hopt xr
   go_wp2_with fail
   go_ret2
   exact ⟨a1,c1,_,rfl,HF.out,hbwr⟩
theorem yE {w : World} {b : Nat} {G : bX} (m : Nat) (a : OA) (n c : Nat) (R : Ll) (ap : OA) (cp : Nat) (Pv : LI) (ax : OA) (cx : Nat) (x : LI)
  (h : dz w b G) (hi : bC w a n R) (hp : Ints w ap n Pv) (hx : Ints w ax m x) (hOk : BS.Ok G.El m ⟨R,Pv⟩) (hxe : Vc G.El m x) (hn : n<=1000000) (hm : m<=1000000) :
  Calls prog 242 #[.agg #[.pointer (some ⟨b,0,none⟩),.int .i64 m,.slice a n c,.slice ap n cp],.slice ax m cx] w
   λe w'=>∃a1 c1 v2,e = .returned (.tuple #[.slice a1 m c1,v2])/\Ints w' a1 m (redTo G.ops R Pv x n)/\Mv w w' :=
 (oc m a n c R ap cp Pv ax cx x h hi hp hx hOk hxe hn hm).mono λ_ _ ⟨a1,c1,v2,h1,h2,h3⟩=>⟨a1,c1,v2,h1,(L0 h2).1,h3⟩
section
open Go.RowKit Go.Shelf
structure WX where
 a : OA
 c : Nat
 l : LI
structure Fx (V : World) (b : Nat) (G : bX) (Bc Bat By Bg Bf l : Nat) (ag : OA) (k cg : Nat) (L : Ll) : Prop where
 gen : V.cell? ⟨Bc,4,none⟩=some (.slice ag k cg)
 jX : bC V ag k L
 yl : V.cell? ⟨By,0,none⟩=some (.func (.yield l) #[] #[])
 gp : V.cell? ⟨Bg,0,none⟩=some (.pointer (some ⟨b,0,none⟩))
 gf : dz V b G
 fr : V.cell? ⟨Bf,0,none⟩=some (.func (.func 251) #[] #[.pointer (some ⟨Bc,0,none⟩),.pointer (some ⟨Bat,0,none⟩),.pointer (some ⟨By,0,none⟩),.pointer (some ⟨Bg,0,none⟩),.pointer (some ⟨Bf,0,none⟩)])
 lt : Bat<V.heap.size
def wC (V : World) (B i : Nat) : Prop:=V.cell? ⟨B,0,none⟩=some (.int .i64 i)/\V.frozen? ⟨B,0,none⟩=false
theorem wC.of_block {V V' : World} {B i : Nat} (h : wC V B i) (hb : V'.heap[B]? = V.heap[B]?) : wC V' B i :=
 ⟨(Ii (w:=V) (a:=⟨B,0,none⟩) hb).trans h.1,(Ix (w:=V) (a:=⟨B,0,none⟩) hb).trans h.2⟩
theorem wC.af {V V' : World} {B i : Nat} (h : wC V B i) (hb : Mv V V') : wC V' B i:=h.of_block (hb.block _ (G8 _ _ h.1))
attribute [local go_sem] KT
def F7 (l n : Nat) (J : List WX->World->Prop) (M : Nat->Prop) (m : Nat) (pre : List WX) (x : WX) (V : World) : Prop :=
 YieldAt Fence.wide m prog l #[.int .i64 (pre.length : Nat),.slice x.a n x.c] V λe V'=>e = .returned (.bool true)/\J (pre ++ [x]) V'/\aB V V' M M
theorem aB.wide {w w' : World} {M I : Nat->Prop} (h : aB w w' M M) (hMI : ∀x,M x->I x) : aB w w' I I :=
 ⟨h.os,h.tape,h.output,h.size,λb hb hI=>h.block b hb λhm=>hI (hMI _ hm),λ_ h=>.inl h⟩
theorem aB.setAt (w : World) {I : Nat->Prop} {B : Nat} (hB : I B) (v : Value) : aB w (w.setCell ⟨B,0,none⟩ v) I I:=by have hb0 : Below 0 w (w.setCell ⟨B,0,none⟩ v):=(GS 0 w).setCell (G0 _) v;exact ⟨hb0.os,hb0.tape,hb0.output,hb0.size,λb hb hI=>Ia _ _ _ _ λe=>hI (e ▸ hB),λb hb=>.inl hb⟩
theorem sY {W0 : World} {b : Nat} {G : bX} {Bc Bat By Bg Bf l : Nat} {ag : OA} {k cg n : Nat} {L : Ll} {I : Nat->Prop}
  (J : List WX->World->Prop) (M : Nat->Prop) (hMI : ∀x,M x->I x) (hIB : I Bat) (hMB : ¬ M Bat) (hIl : ∀x,I x->x<W0.heap.size)
  (HE : ∀V,aB W0 V I I->Fx V b G Bc Bat By Bg Bf l ag k cg L)
  (hJa : ∀pre V V',J pre V->Mv V V'->J pre V')
  (hJb : ∀pre V v,(∀x ∈ pre,ablk x.a ≠ Bat)->J pre V->J pre (V.setCell ⟨Bat,0,none⟩ v))
  (N : Nat)
  (hY : ∀m pre x V,aB W0 V I I->J pre V->pre.length<N->Ints V x.a n x.l->(∀j,I j->j ≠ ablk x.a)->F7 l n J M m pre x V)
  (hN : N<=1000000) (hn : n<=1000000) (hn1 : 1<=n)
  (au : OA) (cu : Nat) (u : LI) (pre : List WX) (W : World) (hW : aB W0 W I I) (hJ : J pre W) (hp : ∀x ∈ pre,ablk x.a ≠ Bat)
  (hat0 : wC W Bat pre.length) (hu : Ints W au n u) (hau : ∀j,I j->j ≠ ablk au) (hlt : pre.length<N) :
  Calls prog 251 #[.int .i64 k,.slice au n cu,.pointer (some ⟨Bc,0,none⟩),.pointer (some ⟨Bat,0,none⟩),.pointer (some ⟨By,0,none⟩),.pointer (some ⟨Bg,0,none⟩),.pointer (some ⟨Bf,0,none⟩)] W
   λe V=>e = .returned (.bool true)/\∃xs : List WX,xs.map WX.l=[u]/\J (pre ++ xs) V/\(∀x ∈ pre ++ xs,ablk x.a ≠ Bat)/\wC V Bat (pre ++ xs).length/\aB W V I I:=by
 obtain rfl : u.length=n:=hu.len;have E:=HE W hW;obtain ⟨cgen,hmat,cyl,cgp,hgf,cfr,hltB⟩:=E;have hat:=hat0.1;have hfz:=hat0.2;clear hmat cgp hgf cfr;have HHE:=Z5 HE;have HJa:=Z5 hJa;have HJb:=Z5 hJb;have HY:=Z5 hY;have Hau:=Z5 hau;have Hp:=Z5 hp;clear HE hJa hJb hY hau hp;refine (callsIn_wide (n:=8)).1 ?_;refine callsIn_of_wp func251 rfl trivial ?_ rfl;simp only [ntmps251,Jv,Io,JN,Nat.reduceAdd,Nat.reduceSub,Jd,Je,Jw,Ji,I6,JE];gi_wp2;obtain ⟨W1,hW1e⟩ : ∃W1,W1=W.setCell ⟨Bat,0,none⟩ (Value.int .i64 ((pre.length : Int)+1)):=⟨_,rfl⟩
 rw [<- hW1e];have hm1 : aB W W1 I I:=by rw [hW1e];exact aB.setAt _ hIB _
 have hM1:=hW.trans hm1;have cyl1:=(HHE.out W1 hM1).yl;have cat1 : W1.cell? ⟨Bat,0,none⟩=some (.int .i64 ((pre.length : Int)+1)):=by rw [hW1e];exact JW _ _ _ (by rw [hat];rfl)
 have fat1 : W1.frozen? ⟨Bat,0,none⟩=false:=by rw [hW1e,IM];exact hfz
 have hu1 : Ints W1 au u.length u:=hu.dG hm1 (λ_ h=>Hau.out _ h rfl);have hJ1 : J pre W1:=by rw [hW1e];exact HJb.out _ _ _ Hp.out hJ
 have hudr : Ints W1.drew au u.length u:=hu1.af (GS _ _).drew;have HS : Hid (∀V a4 c4,V.ownsRow W1.drew.heap.size 3 1 (.slice a4 u.length c4) u.length (u.map (Value.int .i64))->Below W1.drew.heap.size W1.drew V ->
   V.cell? ⟨By,0,none⟩=some (.func (.yield l) #[] #[])/\V.cell? ⟨Bat,0,none⟩=some (.int .i64 ((pre.length : Int)+1))/\V.frozen? ⟨Bat,0,none⟩=false/\ablk a4 ≠ Bat/\aB W V I I/\F7 l u.length J M 7 pre ⟨a4,c4,u⟩ V):=by intro V a4 c4 ho hb;have hbV : Mv W1 V:=(GS _ W1).drew.trans hb;have hMV : aB W1 V I I:=L4 hbV I;obtain ⟨ia,_⟩:=L0 ho;have hne:=aS ho (λe=>by have:=ia.pl (by omega);rw [e] at this;cases this);have hBl : Bat<W1.heap.size:=(HHE.out W1 hM1).lt;have hsz : W1.drew.heap.size=W1.heap.size:=rfl;refine ⟨(HHE.out V (hM1.trans hMV)).yl,(hbV.cell (p:=⟨Bat,0,none⟩) hBl).trans cat1,(hbV.frozen (p:=⟨Bat,0,none⟩) hBl).trans fat1,by show ablk a4 ≠ _;omega,hm1.trans hMV,?_⟩;refine HY.out 7 pre ⟨a4,c4,u⟩ V (hM1.trans hMV) (HJa.out _ _ _ hJ1 hbV) hlt ia λj hj=>?_;have h1:=hIl j hj;have h2:=hM1.size;show j ≠ ablk a4;omega
 clear hW1e hJ1 hM1 hu1 hm1 hat;have hwr : IntKind.i64.wrap ((pre.length : Nat) : Int)=(pre.length : Nat):=Ha _ (by omega);have hmx : prog.follows .mixedOrders=true:=by kernel_rfl
 gi_region_with_o (first
  | ((try refine ⟨trivial,?_⟩);gi_at_call 115;refine (callsIn_wide.2 (ch au u.length cu u hudr hn)).mono ?_;rintro e w4 ⟨a4,c4,rfl,ho4,hb4⟩;obtain ⟨cyl4,cat4,fat4,hne4,hm4,fn,tmps,assign,body,hy,hR⟩:=HS.out _ _ _ ho4 hb4)
  | (refine hR.mono ?_;rintro e V ⟨rfl,hJ5,hm5⟩))
 all_goals gi_wp2
 all_goals go_ret
 all_goals exact ⟨rfl,[⟨a4,c4,u⟩],rfl,hJ5,λx hx=>by
   rcases List.mem_append.1 hx with hx | hx
   ·exact Hp.out x hx
   ·rw [List.mem_singleton.1 hx];exact hne4,by
   have h1 : wC V Bat (pre.length+1):=wC.of_block ⟨cat4,fat4⟩ (hm5.block _ (G8 _ _ cat4) hMB);rw [H5];exact h1,hm4.trans (hm5.wide hMI)⟩
end
theorem oG {σ : Type} (I : World->σ->Prop) (J : σ->Nat->Prop) (val : σ->Ll) (F : LI->LI->Ll->Int × Ll) (pb W : Nat)
  (sa : OA) (ns cs : Nat) (s : LI) (az : OA) (nz cz : Nat) (z : LI) (at' : OA) (nt ct : Nat) (t : LI) (w : World) (σ0 : σ)
  (hI0 : I w σ0) (hIb : ∀V V' σ,I V σ->aB V V' (λb=>w.heap.size<=b/\¬ J σ b) (λb=>w.heap.size<=b/\¬ J σ b)->I V' σ) (hp : w.cell? ⟨pb,9,none⟩=some (.int .i64 W)) (hS : ∀V σ,I V σ->Ints V sa ns s/\Ints V at' nt t)
  (hJ : ∀V σ x,I V σ->J σ x->x<V.heap.size) (hz : Ints w az nz z) (htn : t.Nodup) (hns : ns<=1000) (hnz : nz<=1000) (hnt : nt<=1000) (hWs : ns<=W)
  (hF : ns<W->∀(V : World) (σ : σ) (a1 : OA) (c1 : Nat) (a2 : OA) (c2 k : Nat) (zc : LI),k<nt->zc=z ++ (t.take k).filter (λx=>decide (¬ x ∈ z))->¬ nth t k ∈ z->I V σ->aB w V (J σ0) (J σ) ->
   Ints V a1 (ns+1) (s ++ [nth t k])->Ints V a2 zc.length zc->¬ J σ (ablk a1)->(a2 ≠ none->¬ J σ (ablk a2)) ->
   Calls prog 193 #[.pointer (some ⟨pb,0,none⟩),.slice a1 (ns+1) c1,.slice a2 zc.length c2] V
    λe V'=>∃σ',I V' σ'/\aB V V' (J σ) (J σ')/\e = .returned (.int .i64 (F (s ++ [nth t k]) zc (val σ)).1)/\((F (s ++ [nth t k]) zc (val σ)).1=0->val σ'=(F (s ++ [nth t k]) zc (val σ)).2)) :
  Calls prog 234 #[.pointer (some ⟨pb,0,none⟩),.slice sa ns cs,.slice az nz cz,.slice at' nt ct,.func (.func 193) #[.pointer (some ⟨pb,0,none⟩)] #[]] w
   λe w'=>∃σ',I w' σ'/\aB w w' (J σ0) (J σ')/\e = .returned (.int .i64 (fU F s z (if ns<W then t.filter (λx=>decide (¬ x ∈ z)) else []) (val σ0)).1) /\
    ((fU F s z (if ns<W then t.filter (λx=>decide (¬ x ∈ z)) else []) (val σ0)).1=0->val σ'=(fU F s z (if ns<W then t.filter (λx=>decide (¬ x ∈ z)) else []) (val σ0)).2):=by
 obtain ⟨KB,hKB⟩ : ∃KB,fU F s z (if ns<W then t.filter (λx=>decide (¬ x ∈ z)) else []) (val σ0)=KB:=⟨_,rfl⟩
 rw [hKB];have HKB:=Z5 hKB;clear hKB;have Hzl:=Z5 hz.len;have Htl:=Z5 (hS w σ0 hI0).2.len;have Hsl:=Z5 (hS w σ0 hI0).1.len;have hplt:=(hS w σ0 hI0).2.pl;have HS:=Z5 hS;have HI0:=Z5 hI0;have HIb:=Z5 hIb;have HJ:=Z5 hJ;have Htn:=Z5 htn;have HF:=Z5 hF;clear hS hI0 hIb hJ htn hF;by_cases hW : ns=W
 ·have hd : ((ns : Int) == (W : Int))=true:=by simp;omega
  have Hk : Hid (KB=(0,val σ0)):=by show _=_;rw [<- HKB.out,GU (by omega)];rfl
  go_enter func234,ntmps234;clear hW;go_wp2_with fail;go_ret;exact ⟨σ0,HI0.out,Ma _ _,by rw [Hk.out];rfl,λ_=>by rw [Hk.out]⟩
 have hd : ((ns : Int) == (W : Int))=false:=by simp;omega
 have hlW : ns<W:=by omega
 have HKB : Hid (KB=fU F s z (t.filter (λx=>decide (¬ x ∈ z))) (val σ0)):=by show _=_;rw [<- HKB.out,GV hlW]
 have HF:=Z5 (HF.out hlW);clear hlW hW;go_enter func234,ntmps234;go_wp2_with fail;refine (ch az nz cz z hz (by omega)).mono ?_;rintro e w1 ⟨a0,c0,rfl,hown0,hb1⟩;have hI1:=HIb.out w w1 σ0 HI0.out (L4 hb1 _);go_wp2_with fail;go_loopw [2,25] (λzv iv wr=>∃(k : Nat) (aq : OA) (cq : Nat) (zc : LI) (σ : σ),k<=nt/\iv = .int .i64 k/\zv = .slice aq zc.length cq/\Hid (zc=z ++ (t.take k).filter (λx=>decide (¬ x ∈ z))) /\
   wr.ownsRow w.heap.size 3 1 (.slice aq zc.length cq) zc.length (zc.map (Value.int .i64))/\Hid (I wr σ)/\Hid (aB w wr (J σ0) (J σ))/\Hid (aq ≠ none->¬ J σ (ablk aq)) /\
   Hid (KB=fU F s zc ((t.drop k).filter (λx=>decide (¬ x ∈ z))) (val σ))/\zc.length<=nz+k)
  (λ_ iv _=>nt - (intOf iv).toNat)
 case atStart =>
  refine ⟨0,a0,c0,z,σ0,G0 _,rfl,rfl,?_,hown0,hI1,L4 hb1 _,?_,?_,by rw [Hzl.out];omega⟩
  ·show _=_;simp
  ·show a0 ≠ none->_
   intro ha hj
   have h1:=HJ.out w σ0 _ HI0.out hj
   have h2:=(aS hown0 ha).1
   omega
  ·show _=_;rw [JS];exact HKB.out
 case round =>
  obtain ⟨k,aq,cq,zc,σ,hk,rfl,rfl,hzc,hop,hI,hM,hap,hkb,hzn⟩:=hrel
  generalize wr=U at *
  by_cases hlt : k<nt
  ·have htU:=(HS.out U σ hI.out).2
   have hsU:=(HS.out U σ hI.out).1
   have ck:=htU.cell k hlt
   obtain ⟨hzi,_⟩:=L0 hop
   have hktl : k<t.length:=by rw [Htl.out];exact hlt
   have Htk:=Z5 (show t.take (k+1)=t.take k ++ [nth t k] from pa t hktl)
   have Hdk:=Z5 (show t.drop k=nth t k :: t.drop (k+1) by rw [aj hktl];exact IJ hktl)
   have Hzm : Hid (nth t k ∈ zc ↔ nth t k ∈ z):=by
    show _ ↔ _;rw [hzc.out,IS,JL];constructor
    ·rintro (h | h)
     ·exact h
     ·exfalso;have hn : (t.take k ++ t.drop k).Nodup:=by rw [KX];exact Htn.out
      rw [Jg] at hn;exact hn.2.2 _ h.1 (nth t k) (by rw [Hdk.out];simp) rfl
    ·exact .inl
   by_cases hmz : nth t k ∈ z
   ·have hmd : decide (nth t k ∈ zc)=true:=by simpa using Hzm.out.2 hmz
    have HcA:=Z5 (bY aq zc.length cq zc (nth t k) U hzi)
    rw [hmd] at HcA
    have Hzc2 : Hid (zc=z ++ (t.take (k+1)).filter (λx=>decide (¬ x ∈ z))):=by show _=_;rw [Htk.out,JH,JC (by simpa using hmz),JM,Jr];exact hzc.out
    have Hkb2 : Hid (KB=fU F s zc ((t.drop (k+1)).filter (λx=>decide (¬ x ∈ z))) (val σ)):=by show _=_;rw [hkb.out,Hdk.out,JC (by simpa using hmz)]
    clear hmz hmd
    go_wp2_with fail
    refine HcA.out.mono ?_
    rintro e w6 ⟨rfl,rfl⟩
    go_wp2_with fail
    go_roundw
    case rel=>exact ⟨k+1,aq,cq,zc,σ,by omega,by go_num,rfl,Hzc2.out,hop,hI.out,hM.out,hap.out,Hkb2.out,by omega⟩
    case measure=>simp [intOf] <;> omega
   ·have hmd : decide (nth t k ∈ zc)=false:=by simpa using λh=>hmz (Hzm.out.1 h)
    have HcA:=Z5 (bY aq zc.length cq zc (nth t k) U hzi)
    rw [hmd] at HcA
    have Hzc2 : Hid (zc ++ [nth t k]=z ++ (t.take (k+1)).filter (λx=>decide (¬ x ∈ z))):=by show _=_;rw [Htk.out,JH,JD (by simpa using hmz),JM,<- IZ,<- hzc.out]
    have Hkb2 : Hid (KB=if (F (s ++ [nth t k]) zc (val σ)).1=0 then fU F s (zc ++ [nth t k]) ((t.drop (k+1)).filter (λx=>decide (¬ x ∈ z))) (F (s ++ [nth t k]) zc (val σ)).2 else ((F (s ++ [nth t k]) zc (val σ)).1,[])):=by show _=_;rw [hkb.out,Hdk.out,JD (by simpa using hmz),fU]
    have HFk:=Z5 (λV σ a1 c1 a2 c2=>HF.out V σ a1 c1 a2 c2 k zc hlt hzc.out hmz)
    have hszU:=hM.out.size
    clear hmz hmd
    go_wp2_with fail
    refine HcA.out.mono ?_
    rintro e w6 ⟨rfl,rfl⟩
    go_wp2_with fail
    refine (ch sa ns cs s hsU (by omega)).mono ?_
    rintro e w7 ⟨a7,c7,rfl,hown7,hb7⟩
    rw [Hsl.out] at hown7
    rw [Hsl.out]
    obtain ⟨x,hx⟩ : ∃x,nth t k=x:=⟨_,rfl⟩
    rw [hx] at ck Hzc2 Hkb2 HFk Htk Hdk Hzm HcA ⊢
    have hcn:=bm w7 (.int .i64 x) 3
    have hbn:=an w7 (.cells #[.int .i64 x] 3)
    go_wp2_with (at_builtin;refine aU rfl _ _ 22 3 rfl (.int .i64 0) 8 underlying22 bg rfl w6.heap.size a7 ns c7 _ rfl (hown7.alloc _) ⟨w7.heap.size,0,none⟩ 1 (.int .i64 x) rfl hcn rfl (by omega) (by unfold maxLen;omega) (H7 hb7.size hbn.size) ?_;intro a8 c8 w8 hown8 hgr8 hap8)
    have hb68 : Mv w6 w8:=L3 (LY hb7 hbn) (hown7.alloc _) hgr8 (GQ _) (H7 hb7.size hbn.size)
    have own8 : w8.ownsRow w6.heap.size 3 1 (.slice a8 (ns+1) c8) (ns+1) ((s ++ [x]).map (Value.int .i64)):=by simpa using hown8
    have hz8:=hzi.af hb68
    clear hown7 hown8 hgr8 hap8 hcn hbn
    go_wp2_with fail
    refine (ch aq zc.length cq zc hz8 (by omega)).mono ?_
    rintro e w9 ⟨a9,c9,rfl,hown9,hb9⟩
    have hb69:=LY hb68 hb9
    have hI9:=HIb.out w6 w9 σ hI.out (L4 hb69 _)
    have hM9 : aB w w9 (J σ0) (J σ):=hM.out.lQ (hb69.mono hszU)
    have hs9:=(L0 own8).1.af hb9
    have hz9:=(L0 hown9).1
    have hn8 : ¬ J σ (ablk a8):=λhj=>by have h1:=HJ.out w6 σ _ hI.out hj;have h2:=(dP own8 (by omega)).1;omega
    have hn9 : a9 ≠ none->¬ J σ (ablk a9):=λha hj=>by have h1:=HJ.out w6 σ _ hI.out hj;have h2:=(aS hown9 ha).1;have h3:=hb68.size;omega
    have hopz:=bj hop hb69
    have HCall:=Z5 (HFk.out w9 σ a8 c8 a9 c9 hI9 hM9 hs9 hz9 hn8 hn9)
    clear HFk hI9 hs9 hz9 hn8 hn9 hz8 own8 hown9
    generalize F (s ++ [x]) zc (val σ)=FR at *
    obtain ⟨fe,fv⟩:=FR
    dsimp only at HCall Hkb2
    go_wp2_with fail
    refine HCall.out.mono ?_
    rintro e w10 ⟨σ',hI',hM',rfl,hval⟩
    have hM10:=Z5 (hM9.trans hM')
    have hapz : aq ≠ none->¬ J σ' (ablk aq):=λha=>hM'.not (aS hopz ha).2 (hap.out ha)
    have hopq:=hM'.own hopz hap.out
    have Hapz:=Z5 hapz
    have HI':=Z5 hI'
    clear HCall hM9 hM' hapz hI' hopz
    by_cases hfe : fe=0
    ·have Hval : Hid (val σ'=fv):=hval hfe
     subst hfe
     rw [GV rfl] at Hkb2
     have hcn:=bm w10 (.int .i64 x) 3
     have hbn:=an w10 (.cells #[.int .i64 x] 3)
     have hsz10:=hM10.out.size
     clear hval
     go_wp2_with (at_builtin;refine aU rfl _ _ 22 3 rfl (.int .i64 0) 8 underlying22 bg rfl w.heap.size aq zc.length cq _ rfl (hopq.alloc _) ⟨w10.heap.size,0,none⟩ 1 (.int .i64 x) rfl hcn rfl (by omega) (by unfold maxLen;omega) (H7 hsz10 hbn.size) ?_;intro a11 c11 w11 hown11 hgr11 hap11)
     go_roundw
     case rel =>
      have hb11 : Below w.heap.size w10 w11:=L3 (hbn.mono hsz10) (hopq.alloc _) hgr11 (GQ _) (H7 hsz10 hbn.size)
      have hK : aB w10 w11 (λb=>w.heap.size<=b/\¬ J σ' b) (λb=>w.heap.size<=b/\¬ J σ' b):=(L4 hbn _).trans (aB.grown hgr11 λha=>⟨(aS hopq ha).1,Hapz.out ha⟩)
      refine ⟨k+1,a11,c11,zc ++ [x],σ',by omega,by go_num,by simp,Hzc2.out,by simpa using hown11,HIb.out w10 w11 σ' HI'.out hK,hM10.out.lQ hb11,?_,?_,by simp;omega⟩
      ·show a11 ≠ none->_
       intro ha hj
       have h1:=HJ.out w10 σ' _ HI'.out hj
       have h2 : eA aq (ablk a11):=by
        by_cases h0 : aq=none
        ·exact .inl h0
        ·exact .inr λe=>Hapz.out h0 (by rw [e];exact hj)
       rcases hap11 _ (It h1 hbn.size) h2 with h3 | h3
       ·exact ha h3
       ·exact h3 rfl
      ·show _=_
       rw [Hkb2.out,Hval.out]
     case measure=>simp [intOf] <;> omega
    ·have hfe' : (fe != 0)=true:=by simpa using hfe
     have Hk2 : Hid (KB=(fe,[])):=by show _=_;rw [Hkb2.out,GU hfe]
     have Hfe:=Z5 hfe
     clear hfe hval
     go_wp2_with fail
     go_ret
     exact ⟨σ',HI'.out,hM10.out,by rw [Hk2.out];rfl,λh0=>absurd (by rw [Hk2.out] at h0;exact h0) Hfe.out⟩
  ·obtain rfl : k=nt:=by omega
   have Hf : Hid (KB=(0,val σ)):=by show _=_;rw [hkb.out,IQ (by rw [Htl.out];exact GQ _),JM,fU]
   go_wp2_with fail
   go_ret
   exact ⟨σ,hI.out,hM.out,by rw [Hf.out];rfl,λ_=>by rw [Hf.out]⟩
section
def jQ (n k : Nat) : LI:=(List.replicate n 0).set k 1
theorem Bq (n k : Nat) : (jQ n k).length=n:=by simp [jQ]
variable {w : World} {b : Nat} {G : bX}
end
section
variable {O : aM} {El : Int->Prop} {m : Nat} {L : Ll}
end
section
variable {P M : Int} {mod : LI} {m : Nat} {L : Ll}
end
section
open Go.RowKit
end
section
variable {O : aM} {El : Int->Prop} {m : Nat} {L : Ll}
end
def oB (x : LI) : Nat:=x.countP λy=>decide (y ≠ 0)
section
open Go.RowKit
end
section
open Go.RowKit
end
theorem lG (P M : Int) (am : OA) (mn cm : Nat) (mod : LI) (N : Int) (a : OA) (n c : Nat) (L : Ll) (w : World) (hmod : Ints w am mn mod) (hi : bC w a n L) :
  Calls prog 35 #[.agg #[.int .i64 P,.int .i64 M,.slice am mn cm,.int .i64 N,.slice a n c]] w λe w'=>e = .returned (.int .i64 (aG P M mod N L))/\Mv w w':=by rw [<- sc];exact kq P M am mn cm mod N a n c L w hmod hi lV
def Mn:=@aB.grown
end Go.Proofs.YthglbncgemdcbaaGreat
