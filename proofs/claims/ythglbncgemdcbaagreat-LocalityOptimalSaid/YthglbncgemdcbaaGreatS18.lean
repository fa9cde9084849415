import Derived.Test.YthglbncgemdcbaaGreatS16
import Derived.RangeFuncSeq
import Derived.Shelf.RegionOpen
namespace Go.Proofs.YthglbncgemdcbaaGreat
set_option linter.all false
set_option maxRecDepth 100000
set_option maxHeartbeats 8000000
open Go.RowKit Go.Proofs.Tryz
theorem AN (pb : Nat) (a : OA) (n c : Nat) (L : ZZ) (i : Nat) (w : World) (p5 : w.cell? ⟨pb,5,none⟩=some (.slice a n c)) (hi : br w a n L) (hL : ∀r ∈ L,i<r.length) (hn : n<=1000000) :
  Calls prog 258 #[.pointer (some ⟨pb,0,none⟩),.int .i64 i] w (b8 w (aR L i)):=by
 have Hlen:=Z5 hi.len;have hpl:=hi.pl;have HL:=Z5 hL;clear hL;go_enter func258,ntmps258;go_wp2_with (at_make;refine bS rfl _ _ 22 3 rfl (.int .i64 0) 8 underlying22 aU rfl n rfl rfl (by omega) (by unfold maxLen;omega) ?_;intro a1 w1 hown hbel hge hlt;have c5 : w1.cell? ⟨pb,5,none⟩=some (.slice a n c):=aB hbel p5);have hbw : SW w w1:=hbel;have hown1 : w1.ownsRow w.heap.size 3 1 (.slice a1 n n) n (List.replicate n (.int .i64 0)):=hown;clear hown hbel;go_loopw [21] (λiv wr=>∃k : Nat,k<=n/\iv = .int .i64 k /\
   wr.ownsRow w.heap.size 3 1 (.slice a1 n n) n ((dC ((aR L i).take k) k n).map (Value.int .i64))/\SW w wr)
  (λi _=>n - (intOf i).toNat)
 case atStart=>exact ⟨0,Ni _,rfl,by simpa [dC] using hown1,hbw⟩
 case round =>
  obtain ⟨k,hk,rfl,hown,hbel⟩:=hrel
  obtain ⟨hints,hmine⟩:=R6 hown
  have hpl1:=hints.pl
  by_cases hlt : k<n
  ·obtain ⟨ra,rn,rc,hcell,hrow⟩:=(hi.ah hbel).cell k hlt
   have hkL : k<L.length:=by rw [Hlen.out];exact hlt
   have hri : i<rn:=by rw [<- hrow.len,aC hkL];exact HL.out _ (NO hkL)
   have ci:=hrow.cell i hri
   have hpr:=hrow.pl
   have hf:=(hmine (by omega)).2 k hlt
   have hc2:=hints.cell k hlt
   have hB:=(hmine (by omega)).1
   have Hv:=Z5 (cI L i k hkL)
   go_wp2_with fail
   go_roundw
   case rel =>
    refine ⟨k+1,by omega,by go_num,?_,hbel.setCell hB _⟩
    have h:=bK hown k hlt (.int .i64 (nth (ai L k) i))
    rw [<- NF,fW _ _ _ _ (by rw [NG,db];omega) hlt] at h
    rw [Nj (by rw [db];omega),<- aj,Hv.out]
    exact h
   case measure=>simp [intOf] <;> omega
  ·obtain rfl : k=n:=by omega
   have hl : (aR L i).length=k:=by rw [db];exact Hlen.out
   rw [gS,No (by omega)] at hown
   have Hl:=Z5 hl
   clear hl
   go_wp2_with fail
   go_ret
   exact ⟨a1,k,by rw [Hl.out];rfl,by rw [Hl.out];exact hown,hbel⟩
theorem oe {w : World} {b : Nat} {G : dn} (pb : Nat) (a : OA) (n c : Nat) (L : ZZ) (m : Nat) (ao : OA) (no co : Nat) (Q : Lz) (most : Nat)
  (p0 : w.cell? ⟨pb,0,none⟩=some (.pointer (some ⟨b,0,none⟩))) (p5 : w.cell? ⟨pb,5,none⟩=some (.slice a n c))
  (h : ew w b G) (hi : br w a n L) (hR : bp G.El m L) (hq : Ints w ao no Q) (hQ : ∀k,k<no->0<=nth Q k/\nth Q k<m) (hn : n<=1000000) (hno : no<=1000000) :
  Calls prog 231 #[.pointer (some ⟨pb,0,none⟩),.slice ao no co,.int .i64 most] w (b8 w (xT G.ops L Q most)):=by
 have Hlen:=Z5 hi.len;have HR:=Z5 hR;have HQ:=Z5 hQ;have Hql:=Z5 hq.len;have hplq:=hq.pl;have hcl:=Z5 (SA h);have HP:=Z5 (λ(V : World) (hV : SW w V)=>aB hV p5);clear hR hQ;go_enter func231,ntmps231;go_wp2_with fail;obtain ⟨V,hV⟩ : ∃V : World,V=w.alloc (.cells #[.pointer (some ⟨b,0,none⟩),.slice none 0 0,.slice none 0 0] 259):=⟨_,rfl⟩
 rw [<- hV];have hbV : SW w V:=by rw [hV];exact an _ _
 have hB0 : rJ V w.heap.size w.heap.size b none 0 [] none 0 ⟨[],[]⟩:=rJ.start (Na _) (by rw [hV];exact R9 _ _ _ rfl);clear hV p0 p5;go_loopw [8,19] (λqv iv wr=>∃(k : Nat) (aq : OA) (cq : Nat) (out : Lz) (s : BS) (ar : OA) (cr : Nat) (R : Z4) (ap : OA) (cp : Nat),k<=no/\iv = .int .i64 k/\qv = .slice aq out.length cq /\
   Hid (grTo G.ops L Q k=(s,out))/\rJ wr w.heap.size w.heap.size b ar cr R ap cp s/\wr.ownsRow w.heap.size 3 1 (.slice aq out.length cq) out.length (out.map (Value.int .i64))/\Hid (aq ≠ none->¬ vo w.heap.size ar R ap (ablk aq)) /\
   SW w wr/\Hid (s.Ok G.El n)/\s.rows.length<=k/\out.length<=k/\Hid (out.length<=most))
  (λ_ iv _=>no - (intOf iv).toNat)
 case atStart=>exact ⟨0,none,0,[],⟨[],[]⟩,none,0,[],none,0,Ni _,rfl,rfl,rfl,hB0,bV,λh0=>absurd rfl h0,hbV,⟨λr hr=>by simp at hr,rfl,λi hi=>by simp at hi⟩,Ni _,Ni _,Ni _⟩
 case round =>
  obtain ⟨k,aq,cq,out,s,ar,cr,R,ap,cp,hk,rfl,rfl,hst,hBr,hop,hdq,hbr,hok,hsk,hok2,hom⟩:=hrel
  generalize wr=U at *
  by_cases hlt : k<no
  ·have cq1:=(hq.ah hbr).cell k hlt
   have hQk:=HQ.out k hlt
   obtain ⟨i,hik⟩ : ∃i : Nat,nth Q k=i:=⟨(nth Q k).toNat,by omega⟩
   rw [hik] at cq1 hQk
   by_cases hmo : out.length=most
   ·have Ho : Hid (xT G.ops L Q most=out):=by show _=_;have h1:=Jy (O:=G.ops) (L:=L) (Q:=Q) (k:=k) (most:=most) (by rw [Hql.out];exact hk) (by rw [hst.out];exact hmo);rw [h1,hst.out]
    have hd : ((out.length : Int) == (most : Int))=true:=by simp;omega
    clear hmo
    go_wp2_with fail
    go_ret
    exact ⟨aq,cq,by rw [Ho.out];rfl,by rw [Ho.out];exact hop,hbr⟩
   have hd : ((out.length : Int) == (most : Int))=false:=by simp;omega
   have Hom : Hid (out.length+1<=most):=by have:=hom.out;show _<=_;omega
   have him : i<m:=by omega
   have p5:=HP.out U hbr
   have hcol:=EE HR.out him
   rw [Hlen.out] at hcol
   have hstep : grTo G.ops L Q (k+1)=(s.next G.ops (aR L i),if s.eF G.ops (aR L i)=true then out ++ [(i : Int)] else out):=by rw [grTo,hst.out,hik,Nb]
   have Hstep:=Z5 hstep
   have Hcol:=Z5 hcol
   clear hstep hcol hik hmo
   go_wp2_with fail
   refine (AN pb a n c L i U p5 (hi.ah hbr) (λr hr=>by rw [(HR.out r hr).1];exact him) hn).mono ?_
   rintro e w3 ⟨a3,c3,rfl,hown3,hb3⟩
   rw [Hcol.out.1] at hown3
   rw [Hcol.out.1]
   have hB3:=hBr.ah hb3
   have hbw3:=RZ hbr hb3
   have hn3 : a3 ≠ none->¬ vo w.heap.size ar R ap (ablk a3):=λh0 hI=>by have h1:=(aY hown3 h0).1;have h2:=(hBr.lt _ hI).2;omega
   clear p5
   go_wp2_with fail
   refine (GV w.heap.size ar cr R ap cp s a3 c3 n (aR L i) h hbw3 hB3 hok.out (aX hown3 hbr.size) hn3 Hcol.out.2 hn (by omega)).mono ?_
   rintro e w4 ⟨ar',cr',R',ap',cp',rfl,hB4,hM4⟩
   have hbw4 : SW w w4:=hbw3.trans (hM4.below (λx hx=>by
    rcases hx with h1 | ⟨h1,h2⟩
    ·exact (hB3.lt x h1).1
    ·rw [h2];exact Nr hbr.size (aY hown3 h1).1) hbw3.size)
   have hop3:=bd hop hb3
   have hnI : aq ≠ none->¬ (vo w.heap.size ar R ap (ablk aq)\/(a3 ≠ none/\ablk aq=ablk a3)):=λh0 hI=>by
    rcases hI with h1 | ⟨h1,h2⟩
    ·exact hdq.out h0 h1
    ·have e1:=(aY hop h0).2;have e2:=(aY hown3 h1).1;omega
   have hop4:=hM4.own hop3 hnI
   have hdq4 : aq ≠ none->¬ vo w.heap.size ar' R' ap' (ablk aq):=λh0=>hM4.not (aY hop3 h0).2 (hnI h0)
   have hok4 : (s.next G.ops (aR L i)).Ok G.El n:=BS.Ok.next hcl.out hok.out Hcol.out
   have hlen4:=BS.Ct G.ops s (aR L i)
   have Hok4:=Z5 hok4
   have Hdq4:=Z5 hdq4
   clear hnI hdq4 hok4
   by_cases ht : s.eF G.ops (aR L i)=true
   ·rw [ht]
    have Hst : Hid (grTo G.ops L Q (k+1)=(s.next G.ops (aR L i),out ++ [(i : Int)])):=by show _=_;rw [Hstep.out,Nd ht]
    clear ht
    generalize s.next G.ops (aR L i)=s' at *
    have hcn:=ba w4 (.int .i64 i) 3
    have hbn:=an w4 (.cells #[.int .i64 i] 3)
    have hsz4:=hbw4.size
    go_wp2_with (at_builtin;refine aO rfl _ _ 22 3 rfl (.int .i64 0) 8 underlying22 aU rfl w.heap.size aq out.length cq _ rfl (hop4.alloc _) ⟨w4.heap.size,0,none⟩ 1 (.int .i64 i) rfl hcn rfl (by omega) (by unfold maxLen;omega) (by simp;omega) ?_;intro a5 c5 w5 hown5 hgr5 hap5)
    go_roundw
    case rel =>
     have hBn:=hB4.ah hbn
     have haq : ∀x,vo w.heap.size ar' R' ap' x->gE aq x:=λx hx=>by
      by_cases h0 : aq=none
      ·exact .inl h0
      ·exact .inr λe=>Hdq4.out h0 (e ▸ hx)
     have hB5 : rJ w5 w.heap.size w.heap.size b ar' cr' R' ap' cp' s':=hBn.bq λx hx=>hgr5.block x (hBn.lt x hx).2 λe=>(haq x hx).own _ _ e.symm
     have hb5 : SW w w5:=Sa (N2 hbw4 (hbn.mono hsz4)) (hop4.alloc _) hgr5 (Na _) (Nr hsz4 hbn.size)
     refine ⟨k+1,a5,c5,out ++ [(i : Int)],s',ar',cr',R',ap',cp',by omega,by go_num,by simp,Hst.out,hB5,?_,?_,hb5,Hok4.out,by omega,by simp;omega,?_⟩
     ·simpa using hown5
     ·show a5 ≠ none->_
      intro h0 hI
      rcases hap5 _ (hBn.lt _ hI).2 (haq _ hI) with h1 | h1
      ·exact h0 h1
      ·exact h1 rfl
     ·show _<=_
      rw [Nl];exact Hom.out
    case measure=>simp [intOf] <;> omega
   ·have ht' : s.eF G.ops (aR L i)=false:=by simpa using ht
    rw [ht']
    have Hst : Hid (grTo G.ops L Q (k+1)=(s.next G.ops (aR L i),out)):=by show _=_;rw [Hstep.out,Nf ht]
    clear ht ht'
    generalize s.next G.ops (aR L i)=s' at *
    go_wp2_with fail
    go_roundw
    case rel=>exact ⟨k+1,aq,cq,out,s',ar',cr',R',ap',cp',by omega,by go_num,rfl,Hst.out,hB4,hop4,Hdq4.out,hbw4,Hok4.out,by omega,by omega,hom.out⟩
    case measure=>simp [intOf] <;> omega
  ·obtain rfl : k=no:=by omega
   have Ho : Hid (xT G.ops L Q most=out):=by show _=_;have h1:=KF (O:=G.ops) (L:=L) (Q:=Q) (most:=most) (by rw [Hql.out,hst.out];exact hom.out);rw [h1,Hql.out,hst.out]
   go_wp2_with fail
   go_ret
   exact ⟨aq,cq,by rw [Ho.out];rfl,by rw [Ho.out];exact hop,hbr⟩
section
variable {O : aL} {El : Int->Prop} {m : Nat} {L : ZZ}
variable {C : jG}
structure M3 (O : aL) (L : ZZ) (m : Nat) (C : jG) (s z : Lz) : Prop where
 sn : s.Nodup
 sb : ∀x ∈ s,0<=x/\x<(m : Int)
 zn : z.Nodup
 zb : ∀x ∈ z,0<=x/\x<(m : Int)
 sz : ∀x ∈ z,¬ x ∈ s
 zi : gk O L z=z.length
 zk : ¬ C.cos=true->z.length<=C.M
theorem Gc {s z : Lz} (hz : z.Nodup) : (jY m s z).Nodup:=by
 unfold jY;rw [OM];refine ⟨(eC z).nodup_iff.2 hz,(mR false (s ++ z) m).imp λh=>by omega,λa ha b hb e=>?_⟩;obtain ⟨j,hj,rfl,hd⟩:=(dG m).1 hb;have hn : ¬ (j : Int) ∈ s ++ z:=by simpa using hd
 exact hn (List.mem_append.2 (.inr ((eC z).mem_iff.1 (e ▸ ha))))
theorem CG {s z : Lz} {x : Int} : x ∈ gj O L m C s z ↔ x ∈ xT O L (jY m s z) (if C.cos=true then m else C.M):=(eC _).mem_iff
theorem vm {s z : Lz} (hz : z.Nodup) : (gj O L m C s z).Nodup:=by unfold gj;refine (eC _).nodup_iff.2 ?_;unfold xT;refine Pd (PK _ _) ?_;exact gr_nodup (Gc hz)
where gr_nodup {Q : Lz} (hQ : Q.Nodup) : (kC O L Q).Nodup := Pd (gr_sub Q Q.length (Na _)) (by rw [QM]; exact hQ)
      gr_sub (Q : Lz) : ∀k,k<=Q.length->((grTo O L Q k).2).Sublist (Q.take k)
 | 0,_=>by simp [grTo]
 | k+1,h=>by
  have ih:=gr_sub Q k (by omega);rw [grTo,Nj (by omega)];split
  ·rw [aj (show k<Q.length by omega)];exact ih.append (List.Sublist.refl _)
  ·exact ih.trans (List.sublist_append_left _ _)
end
theorem aE.sB {w V V' : World} {I I' : Nat->Prop} (h : aE w V I I') (g : Below w.heap.size V V') : aE w V' I I' :=
 ⟨g.os.trans h.os,g.tape.trans h.tape,g.output.trans h.output,Nr h.size g.size,λb hb hi=>(g.block b hb).trans (h.block b hb hi),h.grow⟩
theorem aE.grown {w w' : World} {K : Nat->Prop} {a : OA} {n c : Nat} (hg : w.grownBy w' (Value.slice a n c).ownBlock) (hK : a ≠ none->K (ablk a)) : aE w w' K K :=
 ⟨hg.os,hg.tape,hg.output,hg.size,λb hb hi=>hg.block b hb λe=>by
  cases a with
  | none=>cases e
  | some ad =>
   have h1 : b=ad.block:=by simpa [Value.ownBlock] using e
   exact hi (h1 ▸ hK (by simp)),λb hb=>.inl hb⟩
theorem Ints.dD {w w' : World} {I I' : Nat->Prop} {a : OA} {n : Nat} {l : Lz} (h : Ints w a n l) (hM : aE w w' I I') (hI : 0<n->¬ I (ablk a)) : Ints w' a n l :=
 h.of_block λhn=>hM.block _ (h.lt hn) (hI hn)
theorem aN.dD {w w' : World} {I I' : Nat->Prop} {b : Nat} {cs : List Value} (h : aN w b cs) (hM : aE w w' I I') (hI : ¬ I b) : aN w' b cs:=by have hb:=hM.block b h.1 hI;refine ⟨NR h.1 hM.size,λi v hv=>(NT (w:=w) (a:=⟨b,i,none⟩) hb).trans (h.2.1 i v hv),λi=>?_⟩;rw [<- h.2.2 i];unfold World.frozen?;simp only [hb]
theorem aE.put (w : World) (b i : Nat) (v : Value) : aE w (w.setCell ⟨b,i,none⟩ v) (λx=>x=b) (λx=>x=b):=by have hb0 : Below 0 w (w.setCell ⟨b,i,none⟩ v):=(Nc 0 w).setCell (Ni _) v;exact ⟨hb0.os,hb0.tape,hb0.output,hb0.size,λx hx hI=>Nz _ _ _ _ λe=>hI e,λx hx=>.inl hx⟩
theorem Iv {L : ZZ} {t q i : Nat} (ht : t<L.length) (hq : q<L.length) (hz : nth (ai L q) i ≠ 0) : nth (ai (bt L t q) t) i ≠ 0:=by
 rw [jc _ _ _ _ ht hq,du];by_cases e : t=q
 ·rw [Nd e,e];exact hz
 ·rw [Nf e,Nd rfl];exact hz
theorem AA {L : ZZ} {i t : Nat} (ht : t<=L.length) (h : bh L i t ≠ L.length) : t<=bh L i t/\bh L i t<L.length/\nth (ai L (bh L i t)) i ≠ 0:=by
 have h1:=n8 (c:=i) ht;refine ⟨h1.1,by omega,?_⟩;unfold bh;refine ky L i _ _ ?_;have : bh L i t<L.length:=by omega
 unfold bh at this;omega
theorem rj {O : aL} {El : Int->Prop} {m : Nat} (hO : uT O El) {L : ZZ} (hL : bp El m L) {t q i : Nat} (ht : t<L.length) (hq : q<L.length) (hi : i<m) (hz : nth (ai L q) i ≠ 0) : bp El m (iP O L t q i):=by unfold iP;have hs:=hL.swap ht hq;have hr:=hs.row (i:=t) (by rw [bM];exact ht);have hn:=Iv ht hq hz;refine bp.MV hO (hs.set t ⟨by rw [Nq];exact hr.1,λx hx=>?_⟩) (by rw [N9,bM];exact ht) hi _ (by rw [N9,bM];exact Na _);obtain ⟨x0,hx0,rfl⟩:=List.mem_map.1 hx;exact hO.mul _ _ (hO.inv _ (hr.2 _ (aH (by rw [hr.1];exact hi))) hn) (hr.2 _ hx0)
theorem Is {O : aL} {El : Int->Prop} {m : Nat} (hO : uT O El) {L : ZZ} (hL : bp El m L) {y t : Lz} (hy : y.length=m/\∀x ∈ y,El x) (hT : ∀j,j<t.length->(nth t j).toNat<m) :
  ∀k,k<=t.length->bp El m (jh O L y t k).rows/\((jh O L y t k).sum.length=m/\∀x ∈ (jh O L y t k).sum,El x)/\(jh O L y t k).top<=(jh O L y t k).rows.length
 | 0,_=>⟨hL,hy,Ni _⟩
 | k+1,hk=>by
  obtain ⟨h1,h2,h3⟩:=Is hO hL hy hT k (by omega);have hi:=hT k (by omega);rw [jh,jM];generalize jh O L y t k=st at *;split
  ·exact ⟨h1,h2,h3⟩
  ·rename_i hne;obtain ⟨a1,a2,a3⟩:=AA h3 hne;have hp:=rj hO h1 (t:=st.top) (by omega) a2 hi a3;have hr:=hp.row (i:=st.top) (by rw [kg];omega);refine ⟨hp,⟨?_,?_⟩,?_⟩
   ·dsimp only;rw [fO _ _ _ _ (by rw [hr.1,h2.1])];exact h2.1
   ·exact sg hO h2.2 hr.2 (by rw [hr.1,h2.1]) (by rw [h2.1];exact hi)
   ·dsimp only;rw [kg];omega
def qG (b : Nat) (P M : Int) (am : OA) (mn cm : Nat) (m : Nat) (a : OA) (n c : Nat) (ay : OA) (ny cy : Nat) (C : jG) (sv : Value) (k : Nat) : List Value :=
 [.pointer (some ⟨b,0,none⟩),.int .i64 P,.int .i64 M,.slice am mn cm,.int .i64 m,.slice a n c,.slice ay ny cy,.bool C.cos,.int .i64 C.M,.int .i64 C.W,sv,.int .i64 k]
structure Eg (w0 : World) (b : Nat) (G : dn) (a : OA) (n : Nat) (L : ZZ) (m : Nat) (ay : OA) (ny : Nat) (C : jG) : Prop where
 g : ew w0 b G
 jt : br w0 a n L
 rws : bp G.El m L
 n6 : n<=1000000
 m6 : m<=64
 w6 : C.W<=64
 yl : C.cos=true->ny=m
 y : C.cos=true->Ints w0 ay m C.y
 ye : C.cos=true->G.Ec C.y
theorem Jn (m : Nat) (s : Lz) : jY m s []=frTo false s m:=by unfold jY;rw [Oj,show dt []=[] by unfold dt;simp];rfl
theorem aN.setCell {w : World} {b : Nat} {cs : List Value} (h : aN w b cs) (i : Nat) (v : Value) : aN (w.setCell ⟨b,i,none⟩ v) b (cs.set i v):=by
 refine ⟨by simpa using h.1,λj u hu=>?_,λj=>by rw [Oq];exact h.2.2 j⟩;by_cases e : j=i
 ·subst e;by_cases hl : j<cs.length
  ·rw [List.getElem?_set_self hl] at hu;cases hu
   exact NJ _ _ _ (h.2.1 j cs[j] (NQ hl))
  ·rw [Pw (by omega),Oo (by omega)] at hu;cases hu
 ·rw [List.getElem?_set_ne (by omega)] at hu;rw [NC _ _ _ _ (by simp <;> omega)];exact h.2.1 j u hu
theorem qi {m : Nat} {t : Lz} (h : dk m t=true) : ∀k,k<t.length->0<=nth t k/\nth t k<m:=λ_ hk=>⟨(iI h hk).1,(iI h hk).2.1⟩
section
variable {O : aL} {El : Int->Prop} {m : Nat}
end
section
variable {P M : Int} {mod : Lz} {m : Nat} {L : ZZ} {Q : Lz}
end
section
variable {O : aL} {El : Int->Prop} {m : Nat} {R : ZZ} {P : Lz}
theorem oE (hR : bp El m R) (hP : mg R P m) (hlen : R.length=P.length) : BS.Inv El m ⟨R,P⟩ where
 ok:=⟨hR,hlen.symm,λi hi=>hP.lt i (by rw [<- hlen];exact hi)⟩
 one:=λi hi=>by show nth (ai R i) (nth P i).toNat=1;rw [hP.one i i (by rw [<- hlen];exact hi) hi,Nd rfl]
 zero:=λj i hj hi=>by have hi' : i<R.length:=hi;show nth (ai R i) (nth P j).toNat=0;rw [hP.one j i (by omega) hi',Nf (by omega)]
def cmbTo (O : aL) (m : Nat) (x : Lz) (L : ZZ) : Nat->Lz
 | 0=>List.replicate m 0
 | k+1=>if nth x k=0 then cmbTo O m x L k else bR O (cmbTo O m x L k) (nth x k) (ai L k)
theorem RS.add (F : bF O El) {L : ZZ} {f g : Nat->Int} (hL : bp El m L) (hf : RS O El m L f) (hg : RS O El m L g) {s : Int} (hs : El s) : RS O El m L (λx=>O.add (f x) (O.mul (g x) s)):=by
 refine (hf.comb F hg (F.cl.neg s hs)).congr λx hx=>?_;obtain ⟨e,he,h⟩:=hg;have hgx : El (g x):=by rw [h x hx];exact he.el _ (cH hL F.zero x)
 rw [F.mul_neg hgx hs,F.neg_neg (F.cl.mul _ _ hgx hs)]
theorem fF (F : bF O El) {L : ZZ} (hL : bp El m L) {x : Lz} (hx : ∀k,k<L.length->El (nth x k)) : ∀k,k<=L.length->Vc El m (cmbTo O m x L k)/\RS O El m L (λi=>nth (cmbTo O m x L k) i)
 | 0,_=>by
  have h0 : ∀i,nth (List.replicate m (0 : Int)) i=0:=λi=>by unfold nth;simp only [Ng,NI];split <;> rfl
  exact ⟨⟨by simp [cmbTo],λy hy=>by rw [On hy];exact F.zero⟩,SD F λi _=>h0 i⟩
 | k+1,hk=>by
  obtain ⟨h1,h2⟩:=fF F hL hx k (by omega);have hr:=hL.row (i:=k) (by omega);have hs:=hx k (by omega);rw [cmbTo];split
  ·exact ⟨h1,h2⟩
  ·have hl : (ai L k).length=(cmbTo O m x L k).length:=by rw [hr.1,h1.1]
   refine ⟨⟨by rw [bY _ _ _ _ hl];exact h1.1,nC F.cl h1.2 hr.2 hs⟩,(RS.add F hL h2 (.row F (i:=k) (by omega)) hs).congr λi hi=>?_⟩;have hri : El (nth (ai L k) i):=Sc hr hi;rw [gP O _ _ _ i hl (by rw [h1.1];exact hi)];split
   ·rename_i e0;rw [e0,F.iS hs,F.add_zero _ (h1.at hi)]
   ·rw [F.mul_comm _ _ hs hri]
end
def EZ (P M : Int) (mod : Lz) (w : World) (e : Ending) (w' : World) : Prop :=
 ∃a c,e = .returned (.agg #[.int .i64 P,.int .i64 M,.slice a mod.length c])/\cR w.heap.size w' a mod.length mod/\SW w w'
theorem Lm (P M : Int) (am : OA) (mn cm : Nat) (mod : Lz) (w : World) (hmod : Ints w am mn mod) (hmn : mn<=1000000) :
  Calls prog 178 #[.agg #[.int .i64 P,.int .i64 M,.slice am mn cm]] w (EZ P M mod w):=by
 go_enter func178,ntmps178;go_wp2_with fail;obtain ⟨W,hW⟩ : ∃W : World,W=(w.alloc (.cells #[.int .i64 P,.int .i64 M,.slice am mn cm] 24)).alloc (.cells #[.int .i64 0,.int .i64 0,.slice none 0 0] 24):=⟨_,rfl⟩
 rw [<- hW];have hbW : SW w W:=by rw [hW];exact bN _ _ _
 have hsW : W.heap.size=w.heap.size+2:=by rw [hW];simp
 have x0 : aN W w.heap.size [.int .i64 P,.int .i64 M,.slice am mn cm]:=by rw [hW];exact (R9 _ _ _ rfl).alloc _
 have y0 : aN W (w.heap.size+1) [.int .i64 0,.int .i64 0,.slice none 0 0]:=by rw [hW];exact R9 _ _ _ (by simp)
 clear hW;refine (dP am mn cm mod (hmod.ah hbW) hmn).mono ?_;rintro e w1 ⟨a1,c1,rfl,hown1,hb1⟩;have x1:=x0.ah hb1;have y1:=y0.ah hb1;have d0:=x1.cell 0 rfl;have d1:=x1.cell 1 rfl;have d2:=x1.cell 2 rfl;have e0:=y1.cell 0 rfl;have e1:=y1.cell 1 rfl;have e2:=y1.cell 2 rfl;have fx:=x1.frozen 2;have f0:=y1.frozen 0;have f1:=y1.frozen 1;have f2:=y1.frozen 2;have hbw1:=RZ hbW hb1;have hl:=Z5 (SP hown1);have hN : cR w.heap.size ((((w1.setCell ⟨w.heap.size,2,none⟩ (.slice a1 mod.length c1)).setCell ⟨w.heap.size+1,0,none⟩ (.int .i64 P)).setCell ⟨w.heap.size+1,1,none⟩ (.int .i64 M)).setCell ⟨w.heap.size+1,2,none⟩ (.slice a1 mod.length c1)) a1 mod.length mod :=
  ((((hl.out.setCell (p:=⟨w.heap.size,2,none⟩) (by simp;omega) _).setCell (p:=⟨w.heap.size+1,0,none⟩) (by simp;omega) _).setCell (p:=⟨w.heap.size+1,1,none⟩) (by simp;omega) _).setCell (p:=⟨w.heap.size+1,2,none⟩) (by simp;omega) _).mono (by omega)
 have hB : SW w ((((w1.setCell ⟨w.heap.size,2,none⟩ (.slice a1 mod.length c1)).setCell ⟨w.heap.size+1,0,none⟩ (.int .i64 P)).setCell ⟨w.heap.size+1,1,none⟩ (.int .i64 M)).setCell ⟨w.heap.size+1,2,none⟩ (.slice a1 mod.length c1)) :=
  (((hbw1.setCell (p:=⟨w.heap.size,2,none⟩) (by simp) _).setCell (p:=⟨w.heap.size+1,0,none⟩) (by simp) _).setCell (p:=⟨w.heap.size+1,1,none⟩) (by simp) _).setCell (p:=⟨w.heap.size+1,2,none⟩) (by simp) _
 have HF:=Z5 (Np hN hB);clear hN hB hown1 hl x0 y0 hbw1;go_wp2_with fail;exact bodyPost_ret (v:=.agg #[.int .i64 P,.int .i64 M,.slice a1 mod.length c1]) (by simp [results,results178,go_sem,e0,e1,e2]) rfl ⟨a1,c1,rfl,HF.out.1,HF.out.2⟩
def tq (P M : Int) (mod : Lz) (m : Int) (a : OA) (k c : Nat) (w : World) (e : Ending) (w' : World) : Prop :=
 ∃a1 c1,e = .returned (.tuple #[.agg #[.int .i64 P,.int .i64 M,.slice a1 mod.length c1,.int .i64 m,.slice a k c],.int .i64 0])/\cR w.heap.size w' a1 mod.length mod/\SW w w'
theorem D2 (P M : Int) (am : OA) (mn cm : Nat) (mod : Lz) (m : Int) (a : OA) (k c : Nat) (w : World) (hmod : Ints w am mn mod) (hmn : mn<=1000000) :
  Calls prog 120 #[.agg #[.int .i64 P,.int .i64 M,.slice am mn cm],.agg #[.int .i64 m,.slice a k c],.int .i64 0] w (tq P M mod m a k c w):=by
 go_enter func120,ntmps120;go_wp2_with fail;obtain ⟨W,hW⟩ : ∃W : World,W=((w.alloc (.cells #[.int .i64 P,.int .i64 M,.slice am mn cm] 24)).alloc (.cells #[.int .i64 m,.slice a k c] 94)).alloc (.cells #[.int .i64 0,.int .i64 0,.slice none 0 0,.int .i64 0,.slice none 0 0] 27):=⟨_,rfl⟩
 rw [<- hW];have hbW : SW w W:=by rw [hW];exact mF _ _ _ _
 have hsW : W.heap.size=w.heap.size+3:=by rw [hW];simp
 have x0 : aN W w.heap.size [.int .i64 P,.int .i64 M,.slice am mn cm]:=by rw [hW];exact ((R9 _ _ _ rfl).alloc _).alloc _
 have y0 : aN W (w.heap.size+1) [.int .i64 m,.slice a k c]:=by rw [hW];exact (R9 _ _ _ (by simp)).alloc _
 have z0 : aN W (w.heap.size+1+1) [.int .i64 0,.int .i64 0,.slice none 0 0,.int .i64 0,.slice none 0 0]:=by rw [hW];exact R9 _ _ _ (by simp)
 have Hown : Hid (∀V,SW W V->Calls prog 178 #[.agg #[.int .i64 P,.int .i64 M,.slice am mn cm]] V (EZ P M mod V)):=λV hV=>Lm P M am mn cm mod V (hmod.ah (RZ hbW hV)) hmn;have hS : ∀V,SW W V->V.cell? ⟨w.heap.size,0,none⟩=some (.int .i64 P)/\V.cell? ⟨w.heap.size,1,none⟩=some (.int .i64 M)/\V.cell? ⟨w.heap.size,2,none⟩=some (.slice am mn cm)/\V.cell? ⟨w.heap.size+1,0,none⟩=some (.int .i64 m)/\V.cell? ⟨w.heap.size+1,1,none⟩=some (.slice a k c) /\
   aN V (w.heap.size+1+1) [.int .i64 0,.int .i64 0,.slice none 0 0,.int .i64 0,.slice none 0 0]:=λV hV=>by have x1:=x0.ah hV;have y1:=y0.ah hV;exact ⟨x1.cell 0 rfl,x1.cell 1 rfl,x1.cell 2 rfl,y1.cell 0 rfl,y1.cell 1 rfl,z0.ah hV⟩
 have HS:=Z5 hS;have HbW:=Z5 hbW;have HsW:=Z5 hsW;obtain ⟨c0,c1,c2,c3,c4,_⟩:=HS.out W (Nc _ _);have HP : Hid (∀(w4 : World) (a4 : OA) (c4' : Nat),cR W.drew.heap.size w4 a4 mod.length mod->Below W.drew.heap.size W.drew w4 ->
   tq P M mod m a k c w (.returned (.tuple #[.agg #[.int .i64 P,.int .i64 M,.slice a4 mod.length c4',.int .i64 m,.slice a k c],.int .i64 0]))
    (((((w4.setCell ⟨w.heap.size+1+1,0,none⟩ (.int .i64 P)).setCell ⟨w.heap.size+1+1,1,none⟩ (.int .i64 M)).setCell ⟨w.heap.size+1+1,2,none⟩ (.slice a4 mod.length c4')).setCell ⟨w.heap.size+1+1,3,none⟩ (.int .i64 m)).setCell ⟨w.heap.size+1+1,4,none⟩ (.slice a k c))):=λw4 a4 c4' h1 h2=>by
  have h1' : cR W.heap.size w4 a4 mod.length mod:=h1;have hb:=RZ hbW (RZ (Nc _ _).drew h2);have hs:=HsW.out;refine ⟨a4,c4',rfl,?_,?_⟩
  ·exact (((((h1'.setCell (p:=⟨w.heap.size+1+1,0,none⟩) (by simp;omega) _).setCell (p:=⟨w.heap.size+1+1,1,none⟩) (by simp;omega) _).setCell (p:=⟨w.heap.size+1+1,2,none⟩) (by simp;omega) _).setCell (p:=⟨w.heap.size+1+1,3,none⟩) (by simp;omega) _).setCell (p:=⟨w.heap.size+1+1,4,none⟩) (by simp;omega) _).mono (by omega)
  ·exact ((((hb.setCell (p:=⟨w.heap.size+1+1,0,none⟩) (by simp;omega) _).setCell (p:=⟨w.heap.size+1+1,1,none⟩) (by simp;omega) _).setCell (p:=⟨w.heap.size+1+1,2,none⟩) (by simp;omega) _).setCell (p:=⟨w.heap.size+1+1,3,none⟩) (by simp;omega) _).setCell (p:=⟨w.heap.size+1+1,4,none⟩) (by simp;omega) _
 clear hW x0 y0 z0 hS hmod hbW hsW;go_wp2_with fail;go_region_law (
  (go_simp;go_at_call 178;((with_reducible refine (Hown.out _ (Nc _ _).drew).mono ?_);rintro e w4 ⟨a4,c4',rfl,hN4,hb4⟩;obtain ⟨c0,c1,c2,c3,c4,zz⟩:=HS.out w4 (RZ (Nc _ _).drew hb4);have z0:=zz.cell 0 rfl;have z1:=zz.cell 1 rfl;have z2:=zz.cell 2 rfl;have z3:=zz.cell 3 rfl;have z4:=zz.cell 4 rfl;have f0:=zz.frozen 0;have f1:=zz.frozen 1;have f2:=zz.frozen 2;have f3:=zz.frozen 3;have f4:=zz.frozen 4)))
 all_goals (
  have HP4:=Z5 (HP.out w4 a4 c4' hN4 hb4)
  clear hN4 hb4 Hown HS HP
  go_wp2_with fail
  exact bodyPost_ret (v:=.tuple #[.agg #[.int .i64 P,.int .i64 M,.slice a4 mod.length c4',.int .i64 m,.slice a k c],.int .i64 0]) (by simp [results,results120,go_sem,z0,z1,z2,z3,z4]) rfl HP4.out)
def pO (O : aL) (u : Lz) (a : Int) (r : Lz) : Lz:=if a=0 then u else List.zipWith (λy x=>if x=0 then y else O.add y (O.mul a x)) u r
def wlkS (O : aL) (q : Nat) : ZZ->Lz->ZZ
 | [],u=>[u]
 | r :: L,u=>(List.range q).flatMap λ(a : Nat)=>wlkS O q L (pO O u a r)
def sr (O : aL) (q : Nat) (r : Lz) (L : ZZ) (u : Lz) (a : Nat) : ZZ:=(List.range a).flatMap λ(i : Nat)=>wlkS O q L (pO O u i r)
theorem D3 (O : aL) (q : Nat) (r : Lz) (L : ZZ) (u : Lz) (a : Nat) : sr O q r L u (a+1)=sr O q r L u a ++ wlkS O q L (pO O u a r):=by unfold sr;rw [Ou,Qr,P8]
theorem kt (O : aL) (q : Nat) : ∀(L : ZZ) (u : Lz),(wlkS O q L u).length=q ^ L.length
 | [],u=>by simp [wlkS]
 | r :: L,u=>by rw [wlkS,Rg];have h : (List.range q).map (λ(a : Nat)=>(wlkS O q L (pO O u a r)).length)=(List.range q).map λ_=>q ^ L.length:=OK λa _=>kt O q L _;rw [h,RN,QT,N7,NP,OO,Oe]
theorem AP (O : aL) (q : Nat) (r : Lz) (L : ZZ) (u : Lz) (a : Nat) : (sr O q r L u a).length=a * q ^ L.length:=by unfold sr;rw [Rg];have h : (List.range a).map (λ(i : Nat)=>(wlkS O q L (pO O u i r)).length)=(List.range a).map λ_=>q ^ L.length:=OK λi _=>kt O q L _;rw [h,RN,QT,N7]
theorem pF (O : aL) (u : Lz) (a : Int) (r : Lz) (h : r.length=u.length) : (pO O u a r).length=u.length:=by unfold pO;split <;> simp [h]
theorem CS (O : aL) (u : Lz) (a : Int) (r : Lz) (j : Nat) (h : r.length=u.length) (hj : j<u.length) (h0 : a ≠ 0) :
  nth (pO O u a r) j=if nth r j=0 then nth u j else O.add (nth u j) (O.mul a (nth r j)):=by unfold pO;rw [Nf h0,aj (show j<_ by simp [h];omega),aj hj,aj (show j<r.length by omega)];simp
theorem KH {O : aL} {El : Int->Prop} (hO : uT O El) {u r : Lz} {a : Int} (hu : ∀x ∈ u,El x) (hr : ∀x ∈ r,El x) (ha : El a) (hl : r.length=u.length) : ∀x ∈ pO O u a r,El x:=by
 intro x hx;by_cases h0 : a=0
 ·unfold pO at hx;rw [Nd h0] at hx;exact hu x hx
 ·obtain ⟨j,hj,rfl⟩:=List.mem_iff_getElem.1 hx;rw [pF O u a r hl] at hj;have h1:=CS O u a r j hl hj h0;rw [aj (show j<(pO O u a r).length by rw [pF O u a r hl];exact hj)] at h1;rw [h1];split
  ·exact hu _ (aH hj)
  ·exact hO.add _ _ (hu _ (aH hj)) (hO.mul _ _ ha (hr _ (aH (by omega))))
theorem M9 {G : dn} {x : Int} (h : G.El x) : (decide (0<=x) && decide (x<G.q))=true:=by unfold dn.El at h;simp;exact h
theorem D6 {w : World} {b : Nat} {G : dn} (q : Nat) (x : Int) (hc : w.cell? ⟨q,0,none⟩=some (.pointer (some ⟨b,0,none⟩))) (h : ew w b G) (hx : G.El x) :
  Calls prog 241 #[.int .i64 x,.pointer (some ⟨q,0,none⟩)] w λe w'=>e = .returned (.bool false)/\w=w':=by have hB:=M9 hx;go_enter func241,ntmps241;go_wp2_with fail;refine (Mn x h).mono ?_;rintro e w' ⟨rfl,rfl⟩;rw [hB];go_wp2_with fail;go_ret;exact ⟨rfl,rfl⟩
theorem CK (q : Nat) (a : OA) (n c : Nat) (l : Lz) (w : World) (hi : Ints w a n l) (hf : ∀k,k<n->Calls prog 241 #[.int .i64 (nth l k),.pointer (some ⟨q,0,none⟩)] w λe w'=>e = .returned (.bool false)/\w=w') :
  Calls prog 111 #[.slice a n c,.func (.func 241) #[] #[.pointer (some ⟨q,0,none⟩)]] w λe w'=>e = .returned (.int .i64 (-1))/\w=w':=by
 have hpl:=hi.pl;have hmax:=hi.max;have HF:=Z5 hf;unfold maxLen at hmax;clear hf;go_enter func111,ntmps111;go_wp2_with fail;go_loop [8] (λiv=>∃k : Nat,k<=n/\iv = .int .i64 k) (λiv=>n - (intOf iv).toNat);case atStart=>exact ⟨0,Ni _,rfl⟩
 case round =>
  obtain ⟨k,hk,rfl⟩:=hrel
  by_cases hlt : k<n
  ·have ck:=hi.cell k hlt
   have Hk:=Z5 (HF.out k hlt)
   go_wp2_with fail
   refine Hk.out.mono ?_
   rintro e w' ⟨rfl,rfl⟩
   go_wp2_with fail
   go_round
   case rel=>exact ⟨k+1,by omega,by go_num⟩
   case measure=>simp [intOf] <;> omega
  ·obtain rfl : k=n:=by omega
   go_wp2_with fail
   go_ret
   exact ⟨rfl,rfl⟩
theorem ya (q : Nat) (a : OA) (n c : Nat) (l : Lz) (w : World) (hi : Ints w a n l) (hf : ∀k,k<n->Calls prog 241 #[.int .i64 (nth l k),.pointer (some ⟨q,0,none⟩)] w λe w'=>e = .returned (.bool false)/\w=w') :
  Calls prog 53 #[.slice a n c,.func (.func 241) #[] #[.pointer (some ⟨q,0,none⟩)]] w λe w'=>e = .returned (.bool false)/\w=w':=by have Hc:=Z5 (CK q a n c l w hi hf);clear hf;go_enter func53,ntmps53;go_wp2_with fail;refine Hc.out.mono ?_;rintro e w' ⟨rfl,rfl⟩;go_wp2_with fail;go_ret;exact ⟨rfl,rfl⟩
theorem AW {w : World} {b : Nat} {G : dn} (m : Nat) (a : OA) (n c : Nat) (ap : OA) (np cp : Nat) (ax : OA) (cx : Nat) (x : Lz) (h : ew w b G) (hx : Ints w ax m x) (hxe : Vc G.El m x) :
  Calls prog 191 #[.agg #[.pointer (some ⟨b,0,none⟩),.int .i64 m,.slice a n c,.slice ap np cp],.slice ax m cx] w λe w'=>e = .returned (.int .i64 0)/\SW w w':=by
 go_enter func191,ntmps191;go_wp2_with fail;obtain ⟨W,hW⟩ : ∃W : World,W=w.alloc (.cells #[.pointer (some ⟨b,0,none⟩),.int .i64 m,.slice a n c,.slice ap np cp] 210):=⟨_,rfl⟩
 rw [<- hW];have hbW : SW w W:=by rw [hW];exact an _ _
 have x0 : aN W w.heap.size [.pointer (some ⟨b,0,none⟩),.int .i64 m,.slice a n c,.slice ap np cp]:=by rw [hW];exact R9 _ _ _ rfl
 have c0:=x0.cell 0 rfl;have c1:=x0.cell 1 rfl;have hmm : ((m : Int) != m)=false:=by simp
 have Hc:=Z5 (ya w.heap.size ax m cx x W (hx.ah hbW) λk hk =>
  D6 w.heap.size (nth x k) c0 (h.ah hbW) (hxe.at hk))
 clear hW x0;go_wp2_with fail;refine Hc.out.mono ?_;rintro e w' ⟨rfl,rfl⟩;go_wp2_with fail;go_ret;exact ⟨rfl,hbW⟩
theorem ud {w : World} {b : Nat} {G : dn} (m : Nat) (a : OA) (n c : Nat) (R : ZZ) (ap : OA) (cp : Nat) (Pv : Lz) (ax : OA) (cx : Nat) (x : Lz)
  (h : ew w b G) (hi : br w a n R) (hp : Ints w ap n Pv) (hx : Ints w ax m x) (hOk : BS.Ok G.El m ⟨R,Pv⟩) (hxe : Vc G.El m x) (hn : n<=1000000) (hm : m<=1000000) :
  Calls prog 242 #[.agg #[.pointer (some ⟨b,0,none⟩),.int .i64 m,.slice a n c,.slice ap n cp],.slice ax m cx] w
   λe w'=>∃a1 c1 v2,e = .returned (.tuple #[.slice a1 m c1,v2])/\w'.ownsRow w.heap.size 3 1 (.slice a1 m c1) m ((redTo G.ops R Pv x n).map (Value.int .i64))/\SW w w':=by
 have hcl:=SA h;have hrl : R.length=n:=hi.len;have hred:=mO hcl hOk.rws (Q:=Pv) hOk.plc hxe;have Hred:=Z5 hred;have HOk:=Z5 hOk;have Hrl:=Z5 hrl;have Hxl:=Z5 hxe.1;have hplp:=hp.pl;have hplr:=hi.pl;clear hred hOk hrl hcl;go_enter func242,ntmps242;go_wp2_with fail;obtain ⟨W,hW⟩ : ∃W : World,W=w.alloc (.cells #[.pointer (some ⟨b,0,none⟩),.int .i64 m,.slice a n c,.slice ap n cp] 210):=⟨_,rfl⟩
 rw [<- hW];have hbW : SW w W:=by rw [hW];exact an _ _
 have x0 : aN W w.heap.size [.pointer (some ⟨b,0,none⟩),.int .i64 m,.slice a n c,.slice ap n cp]:=by rw [hW];exact R9 _ _ _ rfl
 have HX:=Z5 x0;have HbW:=Z5 hbW;clear hW x0;refine (dP ax m cx x (hx.ah hbW) hm).mono ?_;rintro e w1 ⟨a1,c1,rfl,hown1,hb1⟩;rw [Hxl.out] at hown1 ⊢;have ha1 : a1 ≠ none->ablk a1<w1.heap.size:=λh0=>(aY hown1 h0).2;have ha1W : a1 ≠ none->W.heap.size<=ablk a1:=λh0=>(aY hown1 h0).1;have x1:=HX.out.ah hb1;have q2:=x1.cell 2 rfl;have q3:=x1.cell 3 rfl;have hs1:=hb1.size;clear x1;go_wp2_with fail;go_loopw [5,16] (λtv iv wr=>∃(k : Nat) (at' : OA) (ct : Nat) (xs : List Value),k<=n/\iv = .int .i64 k/\tv = .slice at' k ct/\wr.ownsRow W.heap.size 3 1 (.slice a1 m c1) m ((redTo G.ops R Pv x k).map (Value.int .i64)) /\
   wr.ownsRow w1.heap.size 3 1 (.slice at' k ct) k xs/\SW W wr/\w1.heap.size<=wr.heap.size) (λ_ iv _=>n - (intOf iv).toNat)
 case atStart=>exact ⟨0,none,0,[],Ni _,rfl,rfl,hown1,bV,hb1,Na _⟩
 case round =>
  clear q2 q3 hown1
  obtain ⟨k,at',ct,xs,hkn,rfl,rfl,hown,hopt,hbr,hsr⟩:=hrel
  have xr:=HX.out.ah hbr
  have hbwr:=RZ HbW.out hbr
  by_cases hlt : k<n
  ·have hkr : k<R.length:=by rw [Hrl.out];exact hlt
   have hrow:=HOk.out.rws.row hkr
   have hplc : 0<=nth Pv k/\nth Pv k<m:=HOk.out.plc k hkr
   obtain ⟨ra,rn,rc,er,ir⟩:=hi.cell k hlt
   have hrn : rn=m:=by rw [<- ir.len];exact hrow.1
   rw [hrn] at er ir
   have ep:=(hp.ah hbwr).cell k hlt
   obtain ⟨pn,hpn⟩ : ∃pn : Nat,nth Pv k=pn:=⟨(nth Pv k).toNat,by omega⟩
   rw [hpn] at ep hplc
   have hpnn : pn<m:=by omega
   have hrd:=Hred.out k (by omega)
   have hrd1:=Hred.out (k+1) (by omega)
   have hstep : redTo G.ops R Pv x (k+1)=eK G.ops (redTo G.ops R Pv x k) pn (ai R k):=by rw [redTo,hpn]
   have Hstep:=Z5 hstep
   have Hrow:=Z5 hrow
   clear hstep hpn hrn
   obtain ⟨u,hu⟩ : ∃u,redTo G.ops R Pv x k=u:=⟨_,rfl⟩
   rw [hu] at hown hrd
   have Hu:=Z5 hu
   obtain ⟨iu,mu⟩:=R6 hown
   have eu:=iu.cell pn hpnn
   have hpu:=iu.pl
   have Hrd:=Z5 hrd
   clear hu hrow hrd hrd1
   have hne1 : a1 ≠ none:=λe=>by have:=hpu (by omega);rw [e] at this;cases this
   have ha1':=ha1 hne1
   have hapt : gE at' (ablk a1):=by
    by_cases h0 : at'=none
    ·exact .inl h0
    ·have:=(aY hopt h0).1;exact .inr (by omega)
   have hcn:=ba wr (.int .i64 (nth u pn)) 3
   have hbn:=an wr (.cells #[.int .i64 (nth u pn)] 3)
   have hbnx:=N2 hbr (hbn.mono (by omega))
   have HN5 : Hid (∀(a5 : OA) (c5 : Nat) (w5 : World),(wr.alloc (.cells #[.int .i64 (nth u pn)] 3)).grownBy w5 (Value.slice at' k ct).ownBlock->SW W w5/\w5.ownsRow W.heap.size 3 1 (.slice a1 m c1) m (u.map (Value.int .i64))/\w1.heap.size<=w5.heap.size):=λa5 c5 w5 hgr5 =>
    ⟨Sa hbnx (hopt.alloc _) hgr5 (by omega) (by simp;omega),gO (hown.alloc _) hgr5 hapt,by have:=hgr5.size;simp at this;omega⟩
   clear hbnx mu
   by_cases hz : nth u pn=0
   ·have hz' : (nth u pn != 0)=false:=by simpa using hz
    have Hn : Hid (redTo G.ops R Pv x (k+1)=u):=by show _=_;rw [Hstep.out,Hu.out,eK,Nb,Nd hz]
    clear hz
    go_wp2_with (at_builtin;refine aO rfl _ _ 22 3 rfl (.int .i64 0) 8 underlying22 aU rfl w1.heap.size at' k ct xs rfl (hopt.alloc _) ⟨wr.heap.size,0,none⟩ 1 (.int .i64 (nth u pn)) rfl hcn rfl (by omega) (by unfold maxLen;omega) (by simp;omega) ?_;intro a5 c5 w5 hown5 hgr5 hap5)
    go_roundw
    case rel =>
     obtain ⟨h1,h2,h3⟩:=HN5.out a5 c5 w5 hgr5
     exact ⟨k+1,a5,c5,_,by omega,by go_num,rfl,by rw [Hn.out];exact h2,hown5,h1,h3⟩
    case measure=>simp [intOf] <;> omega
   ·have hz' : (nth u pn != 0)=true:=by simpa using hz
    have Hn : Hid (redTo G.ops R Pv x (k+1)=ez G.ops u (nth u pn) (ai R k)):=by show _=_;rw [Hstep.out,Hu.out,eK,Nb,Nf hz]
    have hxe2 : G.El (nth u pn):=Hrd.out.2 _ (aH (by rw [Hrd.out.1];exact hpnn))
    have hSl : (ez G.ops u (nth u pn) (ai R k)).length=u.length:=fZ _ _ _ _ (by rw [Hrow.out.1,Hrd.out.1])
    have hSn:=λi hi=>ga G.ops u (nth u pn) (ai R k) i (by rw [Hrow.out.1,Hrd.out.1]) hi
    have HSl:=Z5 hSl
    have HSn:=Z5 hSn
    clear hz hSl hSn
    have hplr2:=ir.pl
    go_upto_region 8 with (at_builtin;refine aO rfl _ _ 22 3 rfl (.int .i64 0) 8 underlying22 aU rfl w1.heap.size at' k ct xs rfl (hopt.alloc _) ⟨wr.heap.size,0,none⟩ 1 (.int .i64 (nth u pn)) rfl hcn rfl (by omega) (by unfold maxLen;omega) (by simp;omega) ?_;intro a5 c5 w5 hown5 hgr5 hap5)
    obtain ⟨hbU,hownU,hsU⟩:=HN5.out a5 c5 w5 hgr5
    have hna5 : a5 ≠ none->¬ (a1 ≠ none/\ablk a5=ablk a1):=λh0 h1=>by have:=(aY hown5 h0).1;omega
    clear HN5 hgr5 hap5 hcn hbn eu iu ep xr hown hopt hapt
    generalize w5=U at *
    have hbwU:=RZ HbW.out hbU
    have xU:=HX.out.ah hbU
    have q1:=xU.cell 1 rfl
    have q2:=xU.cell 2 rfl
    have erU:=aB hbwU er
    clear xU
    go_wp2_with fail
    clear q1 q2 erU
    generalize nth u pn=y at *
    generalize ez G.ops u y (ai R k)=S at *
    go_loopw [38] (λiv wx=>∃j : Nat,j<=m/\iv = .int .i64 j/\wx.ownsRow W.heap.size 3 1 (.slice a1 m c1) m ((jk S u j).map (Value.int .i64))/\dp a1 U wx) (λiv _=>m - (intOf iv).toNat)
    case atStart=>exact ⟨0,Ni _,rfl,by rw [gR];exact hownU,Sq _ _⟩
    case round =>
     clear hownU
     obtain ⟨j,hj,rfl,hown2,honly2⟩:=hrel
     have hbx0 : Below W.heap.size U wr:=honly2.below ha1W hbU.size
     have hbx:=N2 hbU hbx0
     have hbwx:=RZ HbW.out hbx
     by_cases hjn : j<m
     ·have cj:=(ir.ah hbwx).cell j hjn
      have f0:=(HX.out.ah hbx).cell 0 rfl
      obtain ⟨im,mm⟩:=R6 hown2
      have cm:=im.cell j hjn
      have fm:=(mm (by omega)).2 j hjn
      have hju : j<u.length:=by rw [Hrd.out.1];exact hjn
      have hmix:=fI S u j j HSl.out (by omega)
      rw [Nf (by omega)] at hmix
      rw [hmix] at cm
      have hset:=gD S u j HSl.out hju
      rw [HSn.out j hju] at hset
      have Hset:=Z5 hset
      have ely : G.El (nth (ai R k) j):=Hrow.out.2 _ (aH (by rw [Hrow.out.1];exact hjn))
      have elv : G.El (nth u j):=Hrd.out.2 _ (aH hju)
      have hGr : ew wr b G:=h.ah hbwx
      have elm : ∀x y,G.El (G.mul x y):=λx y=>SE h x y
      have HG : Hid (ew wr.drew b G/\∀n,ew (wr.drewN n) b G):=⟨hGr.ah (Nc _ _).drew,λn=>hGr.drewN n⟩
      clear hset hmix
      go_wp2_with fail
      go_region_law ((first
       | (go_simp;go_at_call 57;((with_reducible refine (qF y (nth (ai R k) j) HG.out.1 hxe2 ely).mono ?_);rintro e w4 ⟨m4,rfl,rfl⟩))
       | (go_simp;go_at_call 57;((with_reducible refine (qF y (nth (ai R k) j) (HG.out.2 _) hxe2 ely).mono ?_);rintro e w4 ⟨m4,rfl,rfl⟩))
       | (go_simp;go_at_call 199;((with_reducible refine (Lj (nth u j) (G.mul y (nth (ai R k) j)) (HG.out.2 _) elv (elm _ _)).mono ?_);rintro e w4 ⟨m5,rfl,rfl⟩))))
      all_goals (
       go_wp2_with fail
       go_roundw
       case rel =>
        have hdr : bf wr (wr.drewN (1+m4+m5)):=⟨_,rfl⟩
        refine ⟨j+1,by omega,by go_num,?_,honly2.trans ((Sm hdr).trans (St _ j _ hne1))⟩
        have h1:=bK (w:=wr.drewN (1+m4+m5)) hown2 j hjn (.int .i64 (G.sub (nth u j) (G.mul y (nth (ai R k) j))))
        rw [<- NF,show G.sub (nth u j) (G.mul y (nth (ai R k) j))=G.ops.add (nth u j) (G.ops.neg (G.ops.mul y (nth (ai R k) j))) from rfl,Hset.out] at h1
        exact h1
       case measure=>simp [intOf] <;> omega)
     ·obtain rfl : j=m:=by omega
      rw [iW S u j (by rw [HSl.out,Hrd.out.1]) Hrd.out.1] at hown2
      have hown6:=aE.own honly2 hown5 hna5
      have hsx:=honly2.size
      go_wp2_with fail
      go_roundw
      case rel=>exact ⟨k+1,a5,c5,_,by omega,by go_num,rfl,by rw [Hn.out];exact hown2,hown6,hbx,by omega⟩
      case measure=>simp [intOf] <;> omega
  ·obtain rfl : k=n:=by omega
   have hF:=aX hown HbW.out.size
   have HF:=Z5 hF
   clear hF hown hopt xr
   go_wp2_with fail
   go_ret2
   exact ⟨a1,c1,_,rfl,HF.out,hbwr⟩
theorem Dl {w : World} {b : Nat} {G : dn} (m : Nat) (a : OA) (n c : Nat) (R : ZZ) (ap : OA) (cp : Nat) (Pv : Lz) (ax : OA) (cx : Nat) (x : Lz)
  (h : ew w b G) (hi : br w a n R) (hp : Ints w ap n Pv) (hx : Ints w ax m x) (hOk : BS.Ok G.El m ⟨R,Pv⟩) (hxe : Vc G.El m x) (hn : n<=1000000) (hm : m<=1000000) :
  Calls prog 242 #[.agg #[.pointer (some ⟨b,0,none⟩),.int .i64 m,.slice a n c,.slice ap n cp],.slice ax m cx] w
   λe w'=>∃a1 c1 v2,e = .returned (.tuple #[.slice a1 m c1,v2])/\Ints w' a1 m (redTo G.ops R Pv x n)/\SW w w' :=
 (ud m a n c R ap cp Pv ax cx x h hi hp hx hOk hxe hn hm).mono λ_ _ ⟨a1,c1,v2,h1,h2,h3⟩=>⟨a1,c1,v2,h1,(R6 h2).1,h3⟩
theorem uR {σ : Type} (I : World->σ->Prop) (J : σ->Nat->Prop) (val : σ->ZZ) (F : Lz->Lz->ZZ->Int × ZZ) (pb W : Nat)
  (sa : OA) (ns cs : Nat) (s : Lz) (az : OA) (nz cz : Nat) (z : Lz) (at' : OA) (nt ct : Nat) (t : Lz) (w : World) (σ0 : σ)
  (hI0 : I w σ0) (hIb : ∀V V' σ,I V σ->aE V V' (λb=>w.heap.size<=b/\¬ J σ b) (λb=>w.heap.size<=b/\¬ J σ b)->I V' σ) (hp : w.cell? ⟨pb,9,none⟩=some (.int .i64 W)) (hS : ∀V σ,I V σ->Ints V sa ns s/\Ints V at' nt t)
  (hJ : ∀V σ x,I V σ->J σ x->x<V.heap.size) (hz : Ints w az nz z) (htn : t.Nodup) (hns : ns<=1000) (hnz : nz<=1000) (hnt : nt<=1000) (hWs : ns<=W)
  (hF : ns<W->∀(V : World) (σ : σ) (a1 : OA) (c1 : Nat) (a2 : OA) (c2 k : Nat) (zc : Lz),k<nt->zc=z ++ (t.take k).filter (λx=>decide (¬ x ∈ z))->¬ nth t k ∈ z->I V σ->aE w V (J σ0) (J σ) ->
   Ints V a1 (ns+1) (s ++ [nth t k])->Ints V a2 zc.length zc->¬ J σ (ablk a1)->(a2 ≠ none->¬ J σ (ablk a2)) ->
   Calls prog 184 #[.pointer (some ⟨pb,0,none⟩),.slice a1 (ns+1) c1,.slice a2 zc.length c2] V
    λe V'=>∃σ',I V' σ'/\aE V V' (J σ) (J σ')/\e = .returned (.int .i64 (F (s ++ [nth t k]) zc (val σ)).1)/\((F (s ++ [nth t k]) zc (val σ)).1=0->val σ'=(F (s ++ [nth t k]) zc (val σ)).2)) :
  Calls prog 234 #[.pointer (some ⟨pb,0,none⟩),.slice sa ns cs,.slice az nz cz,.slice at' nt ct,.func (.func 184) #[.pointer (some ⟨pb,0,none⟩)] #[]] w
   λe w'=>∃σ',I w' σ'/\aE w w' (J σ0) (J σ')/\e = .returned (.int .i64 (gW F s z (if ns<W then t.filter (λx=>decide (¬ x ∈ z)) else []) (val σ0)).1) /\
    ((gW F s z (if ns<W then t.filter (λx=>decide (¬ x ∈ z)) else []) (val σ0)).1=0->val σ'=(gW F s z (if ns<W then t.filter (λx=>decide (¬ x ∈ z)) else []) (val σ0)).2):=by
 obtain ⟨KB,hKB⟩ : ∃KB,gW F s z (if ns<W then t.filter (λx=>decide (¬ x ∈ z)) else []) (val σ0)=KB:=⟨_,rfl⟩
 rw [hKB];have HKB:=Z5 hKB;clear hKB;have Hzl:=Z5 hz.len;have Htl:=Z5 (hS w σ0 hI0).2.len;have Hsl:=Z5 (hS w σ0 hI0).1.len;have hplt:=(hS w σ0 hI0).2.pl;have HS:=Z5 hS;have HI0:=Z5 hI0;have HIb:=Z5 hIb;have HJ:=Z5 hJ;have Htn:=Z5 htn;have HF:=Z5 hF;clear hS hI0 hIb hJ htn hF;by_cases hW : ns=W
 ·have hd : ((ns : Int) == (W : Int))=true:=by simp;omega
  have Hk : Hid (KB=(0,val σ0)):=by show _=_;rw [<- HKB.out,Nf (by omega)];rfl
  go_enter func234,ntmps234;clear hW;go_wp2_with fail;go_ret;exact ⟨σ0,HI0.out,Sp _ _,by rw [Hk.out];rfl,λ_=>by rw [Hk.out]⟩
 have hd : ((ns : Int) == (W : Int))=false:=by simp;omega
 have hlW : ns<W:=by omega
 have HKB : Hid (KB=gW F s z (t.filter (λx=>decide (¬ x ∈ z))) (val σ0)):=by show _=_;rw [<- HKB.out,Nd hlW]
 have HF:=Z5 (HF.out hlW);clear hlW hW;go_enter func234,ntmps234;go_wp2_with fail;refine (dP az nz cz z hz (by omega)).mono ?_;rintro e w1 ⟨a0,c0,rfl,hown0,hb1⟩;have hI1:=HIb.out w w1 σ0 HI0.out (Se hb1 _);go_wp2_with fail;go_loopw [2,25] (λzv iv wr=>∃(k : Nat) (aq : OA) (cq : Nat) (zc : Lz) (σ : σ),k<=nt/\iv = .int .i64 k/\zv = .slice aq zc.length cq/\Hid (zc=z ++ (t.take k).filter (λx=>decide (¬ x ∈ z))) /\
   wr.ownsRow w.heap.size 3 1 (.slice aq zc.length cq) zc.length (zc.map (Value.int .i64))/\Hid (I wr σ)/\Hid (aE w wr (J σ0) (J σ))/\Hid (aq ≠ none->¬ J σ (ablk aq)) /\
   Hid (KB=gW F s zc ((t.drop k).filter (λx=>decide (¬ x ∈ z))) (val σ))/\zc.length<=nz+k)
  (λ_ iv _=>nt - (intOf iv).toNat)
 case atStart =>
  refine ⟨0,a0,c0,z,σ0,Ni _,rfl,rfl,?_,hown0,hI1,Se hb1 _,?_,?_,by rw [Hzl.out];omega⟩
  ·show _=_;simp
  ·show a0 ≠ none->_
   intro ha hj
   have h1:=HJ.out w σ0 _ HI0.out hj
   have h2:=(aY hown0 ha).1
   omega
  ·show _=_;rw [OS];exact HKB.out
 case round =>
  obtain ⟨k,aq,cq,zc,σ,hk,rfl,rfl,hzc,hop,hI,hM,hap,hkb,hzn⟩:=hrel
  generalize wr=U at *
  by_cases hlt : k<nt
  ·have htU:=(HS.out U σ hI.out).2
   have hsU:=(HS.out U σ hI.out).1
   have ck:=htU.cell k hlt
   obtain ⟨hzi,_⟩:=R6 hop
   have hktl : k<t.length:=by rw [Htl.out];exact hlt
   have Htk:=Z5 (show t.take (k+1)=t.take k ++ [nth t k] from pM t hktl)
   have Hdk:=Z5 (show t.drop k=nth t k :: t.drop (k+1) by rw [aj hktl];exact NV hktl)
   have Hzm : Hid (nth t k ∈ zc ↔ nth t k ∈ z):=by
    show _ ↔ _;rw [hzc.out,Ol,OG];constructor
    ·rintro (h | h)
     ·exact h
     ·exfalso;have hn : (t.take k ++ t.drop k).Nodup:=by rw [Pg];exact Htn.out
      rw [OM] at hn;exact hn.2.2 _ h.1 (nth t k) (by rw [Hdk.out];simp) rfl
    ·exact .inl
   by_cases hmz : nth t k ∈ z
   ·have hmd : decide (nth t k ∈ zc)=true:=by simpa using Hzm.out.2 hmz
    have HcA:=Z5 (dJ aq zc.length cq zc (nth t k) U hzi)
    rw [hmd] at HcA
    have Hzc2 : Hid (zc=z ++ (t.take (k+1)).filter (λx=>decide (¬ x ∈ z))):=by show _=_;rw [Htk.out,Pe,OP (by simpa using hmz),PH,Oj];exact hzc.out
    have Hkb2 : Hid (KB=gW F s zc ((t.drop (k+1)).filter (λx=>decide (¬ x ∈ z))) (val σ)):=by show _=_;rw [hkb.out,Hdk.out,OP (by simpa using hmz)]
    clear hmz hmd
    go_wp2_with fail
    refine HcA.out.mono ?_
    rintro e w6 ⟨rfl,rfl⟩
    go_wp2_with fail
    go_roundw
    case rel=>exact ⟨k+1,aq,cq,zc,σ,by omega,by go_num,rfl,Hzc2.out,hop,hI.out,hM.out,hap.out,Hkb2.out,by omega⟩
    case measure=>simp [intOf] <;> omega
   ·have hmd : decide (nth t k ∈ zc)=false:=by simpa using λh=>hmz (Hzm.out.1 h)
    have HcA:=Z5 (dJ aq zc.length cq zc (nth t k) U hzi)
    rw [hmd] at HcA
    have Hzc2 : Hid (zc ++ [nth t k]=z ++ (t.take (k+1)).filter (λx=>decide (¬ x ∈ z))):=by show _=_;rw [Htk.out,Pe,OQ (by simpa using hmz),PH,<- NX,<- hzc.out]
    have Hkb2 : Hid (KB=if (F (s ++ [nth t k]) zc (val σ)).1=0 then gW F s (zc ++ [nth t k]) ((t.drop (k+1)).filter (λx=>decide (¬ x ∈ z))) (F (s ++ [nth t k]) zc (val σ)).2 else ((F (s ++ [nth t k]) zc (val σ)).1,[])):=by show _=_;rw [hkb.out,Hdk.out,OQ (by simpa using hmz),gW]
    have HFk:=Z5 (λV σ a1 c1 a2 c2=>HF.out V σ a1 c1 a2 c2 k zc hlt hzc.out hmz)
    have hszU:=hM.out.size
    clear hmz hmd
    go_wp2_with fail
    refine HcA.out.mono ?_
    rintro e w6 ⟨rfl,rfl⟩
    go_wp2_with fail
    refine (dP sa ns cs s hsU (by omega)).mono ?_
    rintro e w7 ⟨a7,c7,rfl,hown7,hb7⟩
    rw [Hsl.out] at hown7
    rw [Hsl.out]
    obtain ⟨x,hx⟩ : ∃x,nth t k=x:=⟨_,rfl⟩
    rw [hx] at ck Hzc2 Hkb2 HFk Htk Hdk Hzm HcA ⊢
    have hcn:=ba w7 (.int .i64 x) 3
    have hbn:=an w7 (.cells #[.int .i64 x] 3)
    go_wp2_with (at_builtin;refine aO rfl _ _ 22 3 rfl (.int .i64 0) 8 underlying22 aU rfl w6.heap.size a7 ns c7 _ rfl (hown7.alloc _) ⟨w7.heap.size,0,none⟩ 1 (.int .i64 x) rfl hcn rfl (by omega) (by unfold maxLen;omega) (Nr hb7.size hbn.size) ?_;intro a8 c8 w8 hown8 hgr8 hap8)
    have hb68 : SW w6 w8:=Sa (RZ hb7 hbn) (hown7.alloc _) hgr8 (Na _) (Nr hb7.size hbn.size)
    have own8 : w8.ownsRow w6.heap.size 3 1 (.slice a8 (ns+1) c8) (ns+1) ((s ++ [x]).map (Value.int .i64)):=by simpa using hown8
    have hz8:=hzi.ah hb68
    clear hown7 hown8 hgr8 hap8 hcn hbn
    go_wp2_with fail
    refine (dP aq zc.length cq zc hz8 (by omega)).mono ?_
    rintro e w9 ⟨a9,c9,rfl,hown9,hb9⟩
    have hb69:=RZ hb68 hb9
    have hI9:=HIb.out w6 w9 σ hI.out (Se hb69 _)
    have hM9 : aE w w9 (J σ0) (J σ):=hM.out.sB (hb69.mono hszU)
    have hs9:=(R6 own8).1.ah hb9
    have hz9:=(R6 hown9).1
    have hn8 : ¬ J σ (ablk a8):=λhj=>by have h1:=HJ.out w6 σ _ hI.out hj;have h2:=(eA own8 (by omega)).1;omega
    have hn9 : a9 ≠ none->¬ J σ (ablk a9):=λha hj=>by have h1:=HJ.out w6 σ _ hI.out hj;have h2:=(aY hown9 ha).1;have h3:=hb68.size;omega
    have hopz:=bd hop hb69
    have HCall:=Z5 (HFk.out w9 σ a8 c8 a9 c9 hI9 hM9 hs9 hz9 hn8 hn9)
    clear HFk hI9 hs9 hz9 hn8 hn9 hz8 own8 hown9
    generalize F (s ++ [x]) zc (val σ)=FR at *
    obtain ⟨fe,fv⟩:=FR
    dsimp only at HCall Hkb2
    go_wp2_with fail
    refine HCall.out.mono ?_
    rintro e w10 ⟨σ',hI',hM',rfl,hval⟩
    have hM10:=Z5 (hM9.trans hM')
    have hapz : aq ≠ none->¬ J σ' (ablk aq):=λha=>hM'.not (aY hopz ha).2 (hap.out ha)
    have hopq:=hM'.own hopz hap.out
    have Hapz:=Z5 hapz
    have HI':=Z5 hI'
    clear HCall hM9 hM' hapz hI' hopz
    by_cases hfe : fe=0
    ·have Hval : Hid (val σ'=fv):=hval hfe
     subst hfe
     rw [Nd rfl] at Hkb2
     have hcn:=ba w10 (.int .i64 x) 3
     have hbn:=an w10 (.cells #[.int .i64 x] 3)
     have hsz10:=hM10.out.size
     clear hval
     go_wp2_with (at_builtin;refine aO rfl _ _ 22 3 rfl (.int .i64 0) 8 underlying22 aU rfl w.heap.size aq zc.length cq _ rfl (hopq.alloc _) ⟨w10.heap.size,0,none⟩ 1 (.int .i64 x) rfl hcn rfl (by omega) (by unfold maxLen;omega) (Nr hsz10 hbn.size) ?_;intro a11 c11 w11 hown11 hgr11 hap11)
     go_roundw
     case rel =>
      have hb11 : Below w.heap.size w10 w11:=Sa (hbn.mono hsz10) (hopq.alloc _) hgr11 (Na _) (Nr hsz10 hbn.size)
      have hK : aE w10 w11 (λb=>w.heap.size<=b/\¬ J σ' b) (λb=>w.heap.size<=b/\¬ J σ' b):=(Se hbn _).trans (aE.grown hgr11 λha=>⟨(aY hopq ha).1,Hapz.out ha⟩)
      refine ⟨k+1,a11,c11,zc ++ [x],σ',by omega,by go_num,by simp,Hzc2.out,by simpa using hown11,HIb.out w10 w11 σ' HI'.out hK,hM10.out.sB hb11,?_,?_,by simp;omega⟩
      ·show a11 ≠ none->_
       intro ha hj
       have h1:=HJ.out w10 σ' _ HI'.out hj
       have h2 : gE aq (ablk a11):=by
        by_cases h0 : aq=none
        ·exact .inl h0
        ·exact .inr λe=>Hapz.out h0 (by rw [e];exact hj)
       rcases hap11 _ (NR h1 hbn.size) h2 with h3 | h3
       ·exact ha h3
       ·exact h3 rfl
      ·show _=_
       rw [Hkb2.out,Hval.out]
     case measure=>simp [intOf] <;> omega
    ·have hfe' : (fe != 0)=true:=by simpa using hfe
     have Hk2 : Hid (KB=(fe,[])):=by show _=_;rw [Hkb2.out,Nf hfe]
     have Hfe:=Z5 hfe
     clear hfe hval
     go_wp2_with fail
     go_ret
     exact ⟨σ',HI'.out,hM10.out,by rw [Hk2.out];rfl,λh0=>absurd (by rw [Hk2.out] at h0;exact h0) Hfe.out⟩
  ·obtain rfl : k=nt:=by omega
   have Hf : Hid (KB=(0,val σ)):=by show _=_;rw [hkb.out,Ob (by rw [Htl.out];exact Na _),PH,gW]
   go_wp2_with fail
   go_ret
   exact ⟨σ,hI.out,hM.out,by rw [Hf.out];rfl,λ_=>by rw [Hf.out]⟩
section
open Go.RowKit Go.Shelf
structure WX where
 a : OA
 c : Nat
 l : Lz
structure L3 (V : World) (b : Nat) (G : dn) (Bc Bat By Bg Bf l : Nat) (ag : OA) (k cg : Nat) (L : ZZ) : Prop where
 gen : V.cell? ⟨Bc,4,none⟩=some (.slice ag k cg)
 jt : br V ag k L
 yl : V.cell? ⟨By,0,none⟩=some (.func (.yield l) #[] #[])
 gp : V.cell? ⟨Bg,0,none⟩=some (.pointer (some ⟨b,0,none⟩))
 gf : ew V b G
 fr : V.cell? ⟨Bf,0,none⟩=some (.func (.func 251) #[] #[.pointer (some ⟨Bc,0,none⟩),.pointer (some ⟨Bat,0,none⟩),.pointer (some ⟨By,0,none⟩),.pointer (some ⟨Bg,0,none⟩),.pointer (some ⟨Bf,0,none⟩)])
 lt : Bat<V.heap.size
def Ca (V : World) (B i : Nat) : Prop:=V.cell? ⟨B,0,none⟩=some (.int .i64 i)/\V.frozen? ⟨B,0,none⟩=false
theorem Ca.of_block {V V' : World} {B i : Nat} (h : Ca V B i) (hb : V'.heap[B]? = V.heap[B]?) : Ca V' B i :=
 ⟨(NT (w:=V) (a:=⟨B,0,none⟩) hb).trans h.1,(N1 (w:=V) (a:=⟨B,0,none⟩) hb).trans h.2⟩
theorem Ca.ah {V V' : World} {B i : Nat} (h : Ca V B i) (hb : SW V V') : Ca V' B i:=h.of_block (hb.block _ (Nt _ _ h.1))
attribute [local go_sem] QX
def Mm (l n : Nat) (J : List WX->World->Prop) (M : Nat->Prop) (m : Nat) (pre : List WX) (x : WX) (V : World) : Prop :=
 YieldAt Fence.wide m prog l #[.int .i64 (pre.length : Nat),.slice x.a n x.c] V λe V'=>e = .returned (.bool true)/\J (pre ++ [x]) V'/\aE V V' M M
theorem aE.wide {w w' : World} {M I : Nat->Prop} (h : aE w w' M M) (hMI : ∀x,M x->I x) : aE w w' I I :=
 ⟨h.os,h.tape,h.output,h.size,λb hb hI=>h.block b hb λhm=>hI (hMI _ hm),λ_ h=>.inl h⟩
theorem aE.setAt (w : World) {I : Nat->Prop} {B : Nat} (hB : I B) (v : Value) : aE w (w.setCell ⟨B,0,none⟩ v) I I:=by have hb0 : Below 0 w (w.setCell ⟨B,0,none⟩ v):=(Nc 0 w).setCell (Ni _) v;exact ⟨hb0.os,hb0.tape,hb0.output,hb0.size,λb hb hI=>Nz _ _ _ _ λe=>hI (e ▸ hB),λb hb=>.inl hb⟩
theorem zm {W0 : World} {b : Nat} {G : dn} {Bc Bat By Bg Bf l : Nat} {ag : OA} {k cg n : Nat} {L : ZZ} {I : Nat->Prop}
  (J : List WX->World->Prop) (M : Nat->Prop) (hMI : ∀x,M x->I x) (hIB : I Bat) (hMB : ¬ M Bat) (hIl : ∀x,I x->x<W0.heap.size)
  (HE : ∀V,aE W0 V I I->L3 V b G Bc Bat By Bg Bf l ag k cg L)
  (hJa : ∀pre V V',J pre V->SW V V'->J pre V')
  (hJb : ∀pre V v,(∀x ∈ pre,ablk x.a ≠ Bat)->J pre V->J pre (V.setCell ⟨Bat,0,none⟩ v))
  (N : Nat)
  (hY : ∀m pre x V,aE W0 V I I->J pre V->pre.length<N->Ints V x.a n x.l->(∀j,I j->j ≠ ablk x.a)->Mm l n J M m pre x V)
  (hN : N<=1000000) (hn : n<=1000000) (hn1 : 1<=n)
  (au : OA) (cu : Nat) (u : Lz) (pre : List WX) (W : World) (hW : aE W0 W I I) (hJ : J pre W) (hp : ∀x ∈ pre,ablk x.a ≠ Bat)
  (hat0 : Ca W Bat pre.length) (hu : Ints W au n u) (hau : ∀j,I j->j ≠ ablk au) (hlt : pre.length<N) :
  Calls prog 251 #[.int .i64 k,.slice au n cu,.pointer (some ⟨Bc,0,none⟩),.pointer (some ⟨Bat,0,none⟩),.pointer (some ⟨By,0,none⟩),.pointer (some ⟨Bg,0,none⟩),.pointer (some ⟨Bf,0,none⟩)] W
   λe V=>e = .returned (.bool true)/\∃xs : List WX,xs.map WX.l=[u]/\J (pre ++ xs) V/\(∀x ∈ pre ++ xs,ablk x.a ≠ Bat)/\Ca V Bat (pre ++ xs).length/\aE W V I I:=by
 obtain rfl : u.length=n:=hu.len;have E:=HE W hW;obtain ⟨cgen,hmat,cyl,cgp,hgf,cfr,hltB⟩:=E;have hat:=hat0.1;have hfz:=hat0.2;clear hmat cgp hgf cfr;have HHE:=Z5 HE;have HJa:=Z5 hJa;have HJb:=Z5 hJb;have HY:=Z5 hY;have Hau:=Z5 hau;have Hp:=Z5 hp;clear HE hJa hJb hY hau hp;refine (callsIn_wide (n:=8)).1 ?_;refine callsIn_of_wp func251 rfl trivial ?_ rfl;simp only [ntmps251,Ps,NP,Po,Nat.reduceAdd,Nat.reduceSub,O3,O4,Pt,O8,N5,O9];gi_wp2;obtain ⟨W1,hW1e⟩ : ∃W1,W1=W.setCell ⟨Bat,0,none⟩ (Value.int .i64 ((pre.length : Int)+1)):=⟨_,rfl⟩
 rw [<- hW1e];have hm1 : aE W W1 I I:=by rw [hW1e];exact aE.setAt _ hIB _
 have hM1:=hW.trans hm1;have cyl1:=(HHE.out W1 hM1).yl;have cat1 : W1.cell? ⟨Bat,0,none⟩=some (.int .i64 ((pre.length : Int)+1)):=by rw [hW1e];exact P1 _ _ _ (by rw [hat];rfl)
 have fat1 : W1.frozen? ⟨Bat,0,none⟩=false:=by rw [hW1e,Oq];exact hfz
 have hu1 : Ints W1 au u.length u:=hu.dD hm1 (λ_ h=>Hau.out _ h rfl);have hJ1 : J pre W1:=by rw [hW1e];exact HJb.out _ _ _ Hp.out hJ
 have hudr : Ints W1.drew au u.length u:=hu1.ah (Nc _ _).drew;have HS : Hid (∀V a4 c4,V.ownsRow W1.drew.heap.size 3 1 (.slice a4 u.length c4) u.length (u.map (Value.int .i64))->Below W1.drew.heap.size W1.drew V ->
   V.cell? ⟨By,0,none⟩=some (.func (.yield l) #[] #[])/\V.cell? ⟨Bat,0,none⟩=some (.int .i64 ((pre.length : Int)+1))/\V.frozen? ⟨Bat,0,none⟩=false/\ablk a4 ≠ Bat/\aE W V I I/\Mm l u.length J M 7 pre ⟨a4,c4,u⟩ V):=by intro V a4 c4 ho hb;have hbV : SW W1 V:=(Nc _ W1).drew.trans hb;have hMV : aE W1 V I I:=Se hbV I;obtain ⟨ia,_⟩:=R6 ho;have hne:=aY ho (λe=>by have:=ia.pl (by omega);rw [e] at this;cases this);have hBl : Bat<W1.heap.size:=(HHE.out W1 hM1).lt;have hsz : W1.drew.heap.size=W1.heap.size:=rfl;refine ⟨(HHE.out V (hM1.trans hMV)).yl,(hbV.cell (p:=⟨Bat,0,none⟩) hBl).trans cat1,(hbV.frozen (p:=⟨Bat,0,none⟩) hBl).trans fat1,by show ablk a4 ≠ _;omega,hm1.trans hMV,?_⟩;refine HY.out 7 pre ⟨a4,c4,u⟩ V (hM1.trans hMV) (HJa.out _ _ _ hJ1 hbV) hlt ia λj hj=>?_;have h1:=hIl j hj;have h2:=hM1.size;show j ≠ ablk a4;omega
 clear hW1e hJ1 hM1 hu1 hm1 hat;have hwr : IntKind.i64.wrap ((pre.length : Nat) : Int)=(pre.length : Nat):=Ns _ (by omega);have hmx : prog.follows .mixedOrders=true:=by kernel_rfl
 gi_region_with_o (first
  | ((try refine ⟨trivial,?_⟩);gi_at_call 115;refine (callsIn_wide.2 (dP au u.length cu u hudr hn)).mono ?_;rintro e w4 ⟨a4,c4,rfl,ho4,hb4⟩;obtain ⟨cyl4,cat4,fat4,hne4,hm4,fn,tmps,assign,body,hy,hR⟩:=HS.out _ _ _ ho4 hb4)
  | (refine hR.mono ?_;rintro e V ⟨rfl,hJ5,hm5⟩))
 all_goals gi_wp2
 all_goals go_ret
 all_goals exact ⟨rfl,[⟨a4,c4,u⟩],rfl,hJ5,λx hx=>by
   rcases List.mem_append.1 hx with hx | hx
   ·exact Hp.out x hx
   ·rw [List.mem_singleton.1 hx];exact hne4,by
   have h1 : Ca V Bat (pre.length+1):=Ca.of_block ⟨cat4,fat4⟩ (hm5.block _ (Nt _ _ cat4) hMB);rw [Nl];exact h1,hm4.trans (hm5.wide hMI)⟩
end
section
variable {m : Nat} {Q : Lz}
end
def wX (P M : Int) (mod : Lz) (m : Nat) (L : ZZ) (w : World) (e : Ending) (w' : World) : Prop :=
 ∃a1 c1 a2 c2,e = .returned (.tuple #[.agg #[.int .i64 P,.int .i64 M,.slice a1 mod.length c1,.int .i64 m,.slice a2 (dc (af P M.toNat mod) L m).length c2],.int .i64 0])/\cR w.heap.size w' a1 mod.length mod /\
  dq w.heap.size w' a2 (dc (af P M.toNat mod) L m).length (dc (af P M.toNat mod) L m)/\SW w w'
theorem uC (P M : Int) (am : OA) (mn cm : Nat) (mod : Lz) (m : Nat) (a : OA) (n c : Nat) (L : ZZ) (w : World) (hmod : Ints w am mn mod) (hi : br w a n L)
  (hE : eJ P M mod m L=0) (hm1 : 1<=m) (hm64 : m<=64) (hmn : mn<=1000000) :
  Calls prog 68 #[.agg #[.int .i64 P,.int .i64 M,.slice am mn cm],.agg #[.int .i64 m,.slice a n c]] w (wX P M mod m L w):=by
 go_enter func68,ntmps68;go_upto_region 1 with fail;obtain ⟨W,hW⟩ : ∃W : World,W=((w.alloc (.cells #[.int .i64 P,.int .i64 M,.slice am mn cm] 24)).alloc (.cells #[.int .i64 m,.slice a n c] 94)).alloc (.cells #[.int .i64 0,.int .i64 0,.slice none 0 0,.int .i64 0,.slice none 0 0] 27):=⟨_,rfl⟩
 rw [<- hW];have hbW : SW w W:=by rw [hW];exact mF _ _ _ _
 have hsW : W.heap.size=w.heap.size+3:=by rw [hW];simp
 have x0 : aN W w.heap.size [.int .i64 P,.int .i64 M,.slice am mn cm]:=by rw [hW];exact ((R9 _ _ _ rfl).alloc _).alloc _
 have y0 : aN W (w.heap.size+1) [.int .i64 m,.slice a n c]:=by rw [hW];exact (R9 _ _ _ (by simp)).alloc _
 have z0 : aN W (w.heap.size+1+1) [.int .i64 0,.int .i64 0,.slice none 0 0,.int .i64 0,.slice none 0 0]:=by rw [hW];exact R9 _ _ _ (by simp)
 clear hW;have HC : Hid (Calls prog 118 #[.agg #[.int .i64 P,.int .i64 M,.slice am mn cm],.agg #[.int .i64 m,.slice a n c]] W λe w'=>SW W w'/\∃a2 c2 ap cp,e = .returned (.tuple #[.agg #[.int .i64 m,.slice a2 (dc (af P M.toNat mod) L m).length c2],.slice ap (dc (af P M.toNat mod) L m).length cp,.int .i64 0]) /\
   dq W.heap.size w' a2 (dc (af P M.toNat mod) L m).length (dc (af P M.toNat mod) L m)):=by
  refine (qN P M am mn cm mod m a n c L W (hmod.ah hbW) (hi.ah hbW)).mono ?_;rintro e w1 ⟨hb1,⟨h0,_⟩ | ⟨_,m',hm',a1,c1,ap,cp,rfl,hN1,_⟩⟩
  ·exact absurd hE h0
  ·obtain rfl : m=m':=by omega
   rw [<- eo] at hN1 ⊢;exact ⟨hb1,a1,c1,ap,cp,rfl,hN1⟩
 have HO : Hid (∀V a5 k5 c5,SW W V->Calls prog 120 #[.agg #[.int .i64 P,.int .i64 M,.slice am mn cm],.agg #[.int .i64 m,.slice a5 k5 c5],.int .i64 0] V (tq P M mod m a5 k5 c5 V)):=λV a5 k5 c5 hV =>
  D2 P M am mn cm mod m a5 k5 c5 V (hmod.ah (RZ hbW hV)) hmn
 have HPost : Hid (∀a1 c1 a2 c2 w',cR w.heap.size w' a1 mod.length mod->dq w.heap.size w' a2 (dc (af P M.toNat mod) L m).length (dc (af P M.toNat mod) L m)->SW w w' ->
   wX P M mod m L w (.returned (.tuple #[.agg #[.int .i64 P,.int .i64 M,.slice a1 mod.length c1,.int .i64 m,.slice a2 (dc (af P M.toNat mod) L m).length c2],.int .i64 0])) w'):=λa1 c1 a2 c2 w' h1 h2 h3=>⟨a1,c1,a2,c2,rfl,h1,h2,h3⟩
 have Hle : Hid (kY (m : Int)=0):=uY (by omega) (by omega);obtain ⟨KM,hKM⟩ : ∃KM,dc (af P M.toNat mod) L m=KM:=⟨_,rfl⟩
 rw [hKM] at HC HPost;have hS : ∀V,SW W V->V.cell? ⟨w.heap.size,0,none⟩=some (.int .i64 P)/\V.cell? ⟨w.heap.size,1,none⟩=some (.int .i64 M)/\V.cell? ⟨w.heap.size,2,none⟩=some (.slice am mn cm)/\V.cell? ⟨w.heap.size+1,0,none⟩=some (.int .i64 m)/\V.cell? ⟨w.heap.size+1,1,none⟩=some (.slice a n c) /\
   aN V (w.heap.size+1+1) [.int .i64 0,.int .i64 0,.slice none 0 0,.int .i64 0,.slice none 0 0]:=λV hV=>by have x1:=x0.ah hV;have y1:=y0.ah hV;exact ⟨x1.cell 0 rfl,x1.cell 1 rfl,x1.cell 2 rfl,y1.cell 0 rfl,y1.cell 1 rfl,z0.ah hV⟩
 have HS:=Z5 hS;have HbW:=Z5 hbW;have HsW:=Z5 hsW;obtain ⟨q,hq⟩ : ∃q,KM.length=q:=⟨_,rfl⟩
 rw [hq] at HC HPost;clear hE hKM hS x0 y0 z0 hbW hsW hmod hi hq;go_cut [6,7,8] (λv6 v7 v8 wx=>∃g a5 c5,v6 = .pointer (some ⟨g,0,none⟩)/\v8 = .int .i64 0/\wx.cell? ⟨g,0,none⟩=some (.int .i64 m)/\wx.cell? ⟨g,1,none⟩=some (.slice a5 q c5)/\dq W.heap.size wx a5 q KM/\SW W wx);case first =>
  obtain ⟨c0,c1,c2,c3,c4,_⟩:=HS.out W (Nc _ _)
  go_wp2_with fail
  refine HC.out.mono ?_
  rintro e w1 ⟨hb1,a5,c5,ap,cp,rfl,hN5⟩
  clear c0 c1 c2 c3 c4
  go_wp2_with fail
  go_meet
  exact ⟨w1.heap.size,a5,c5,rfl,rfl,aI _ _ _ rfl 0,aI _ _ _ rfl 1,hN5.ah (an _ _),RZ hb1 (an _ _)⟩
 obtain ⟨g,a5,c5,rfl,rfl,g0,g1,hN5,hb5⟩:=hcut;generalize wc=V at *;obtain ⟨c0,c1,c2,c3,c4,zz⟩:=HS.out V hb5;have HOV:=Z5 (HO.out V a5 q c5 hb5);clear HC HO;go_wp2_with fail;refine (wK m V).mono ?_;rintro e w5 ⟨rfl,rfl⟩;rw [Hle.out];go_wp2_with fail;refine HOV.out.mono ?_;rintro e w6 ⟨a6,c6,rfl,hN6,hb6⟩;obtain ⟨_,_,_,_,_,zz6⟩:=HS.out w6 (RZ hb5 hb6);have z0:=zz6.cell 0 rfl;have z1:=zz6.cell 1 rfl;have z2:=zz6.cell 2 rfl;have z3:=zz6.cell 3 rfl;have z4:=zz6.cell 4 rfl;have f0:=zz6.frozen 0;have f1:=zz6.frozen 1;have f2:=zz6.frozen 2;have f3:=zz6.frozen 3;have f4:=zz6.frozen 4;have hbF:=RZ HbW.out (RZ hb5 hb6);have hs:=HsW.out;have hs2:=hb5.size;have hM6:=hN5.ah hb6;have hFin:=HPost.out a6 c6 a5 c5 (((((w6.setCell ⟨w.heap.size+1+1,0,none⟩ (.int .i64 P)).setCell ⟨w.heap.size+1+1,1,none⟩ (.int .i64 M)).setCell ⟨w.heap.size+1+1,2,none⟩ (.slice a6 mod.length c6)).setCell ⟨w.heap.size+1+1,3,none⟩ (.int .i64 m)).setCell ⟨w.heap.size+1+1,4,none⟩ (.slice a5 q c5))
  ((((((hN6.setCell (p:=⟨w.heap.size+1+1,0,none⟩) (by simp;omega) _).setCell (p:=⟨w.heap.size+1+1,1,none⟩) (by simp;omega) _).setCell (p:=⟨w.heap.size+1+1,2,none⟩) (by simp;omega) _).setCell (p:=⟨w.heap.size+1+1,3,none⟩) (by simp;omega) _).setCell (p:=⟨w.heap.size+1+1,4,none⟩) (by simp;omega) _).mono (by omega))
  ((((((hM6.setCell (p:=⟨w.heap.size+1+1,0,none⟩) (by simp;omega) _).setCell (p:=⟨w.heap.size+1+1,1,none⟩) (by simp;omega) _).setCell (p:=⟨w.heap.size+1+1,2,none⟩) (by simp;omega) _).setCell (p:=⟨w.heap.size+1+1,3,none⟩) (by simp;omega) _).setCell (p:=⟨w.heap.size+1+1,4,none⟩) (by simp;omega) _).mono (by omega))
  (((((hbF.setCell (p:=⟨w.heap.size+1+1,0,none⟩) (by simp;omega) _).setCell (p:=⟨w.heap.size+1+1,1,none⟩) (by simp;omega) _).setCell (p:=⟨w.heap.size+1+1,2,none⟩) (by simp;omega) _).setCell (p:=⟨w.heap.size+1+1,3,none⟩) (by simp;omega) _).setCell (p:=⟨w.heap.size+1+1,4,none⟩) (by simp;omega) _)
 have HFin:=Z5 hFin;clear hFin hM6 hN5 hN6 HOV zz zz6;go_wp2_with fail;exact bodyPost_ret (v:=.tuple #[.agg #[.int .i64 P,.int .i64 M,.slice a6 mod.length c6,.int .i64 m,.slice a5 q c5],.int .i64 0]) (by simp [results,results68,go_sem,z0,z1,z2,z3,z4]) rfl HFin.out
section
open Go.RowKit
end
section
open Go.RowKit
end
theorem kA {P M : Int} {mod : Lz} {m : Nat} {D : ZZ} (hfB : bA P M mod=true) (hm : m<=256) (hD : D.length<=256) (hR : bp (af P M.toNat mod).El m D) : eJ P M mod m D=0:=by
 unfold eJ;rw [Nd hfB];unfold iB;rw [Nf (by omega)];have hsh : lZ (m : Int) D=true:=by unfold lZ;rw [NW];intro r hr;have:=(hR r hr).1;simp;omega
 rw [Nf (by rw [hsh];decide),Nd];rw [NW];intro r hr;unfold dY jR;rw [NW];intro x hx;have:=(hR r hr).2 x hx;unfold dn.El at this;simp;exact this
section
def eU (n k : Nat) : Lz:=(List.replicate n 0).set k 1
theorem tC (n k : Nat) : (eU n k).length=n:=by simp [eU]
variable {w : World} {b : Nat} {G : dn}
end
section
open Go.RowKit
end
section
open Go.RowKit
end
section
open Go.RowKit
end
section
variable {O : aL} {El : Int->Prop} {m : Nat} {L : ZZ}
end
section
variable {P M : Int} {mod : Lz} {m : Nat} {L : ZZ}
end
section
open Go.RowKit
end
section
variable {O : aL} {El : Int->Prop} {m : Nat} {L : ZZ}
end
def fB (x : Lz) : Nat:=x.countP λy=>decide (y ≠ 0)
def fD (q : Int) (l : Lz) (n : Nat) : Int:=if l.length=n then gU q l else 4
section
open Go.RowKit
end
section
open Go.RowKit
end
section
variable {O : aL} {k : Nat}
end
section
variable {O : aL} {El : Int->Prop} {m : Nat}
end
section
open Go.RowKit
end
def C8 (P M : Int) (am : OA) (mn cm : Nat) (mod : Lz) (N : Int) (a : OA) (n c : Nat) (L : ZZ) (W : Int) (w : World) (e : Ending) (w' : World) : Prop :=
 SW w w'/\((aF P M mod N L ≠ 0/\e = .returned (.tuple #[.pointer none,.int .i64 (aF P M mod N L)])) \/
 (aF P M mod N L=0/\∃(b : Nat) (w2 : World),e = .returned (.tuple #[.pointer (some ⟨w2.heap.size,0,none⟩),.int .i64 0])/\SW w w2/\ew w2 b (af P M.toNat mod)/\SW w2 w' /\
  aN w' w2.heap.size [.pointer (some ⟨b,0,none⟩),.int .i64 P,.int .i64 M,.slice am mn cm,.int .i64 N,.slice a n c,.slice none 0 0,.bool false,.int .i64 0,.int .i64 W,.slice none 0 0,.int .i64 0]))
theorem DY (P M : Int) (am : OA) (mn cm : Nat) (mod : Lz) (N : Int) (a : OA) (n c : Nat) (L : ZZ) (W : Int) (w : World) (hmod : Ints w am mn mod) (hi : br w a n L) :
  Calls prog 182 #[.agg #[.int .i64 P,.int .i64 M,.slice am mn cm,.int .i64 N,.slice a n c],.int .i64 W] w (C8 P M am mn cm mod N a n c L W w):=by
 go_enter func182,ntmps182;go_wp2_with fail;obtain ⟨U,hU⟩ : ∃U : World,U=w.alloc (.cells #[.int .i64 P,.int .i64 M,.slice am mn cm,.int .i64 N,.slice a n c] 27):=⟨_,rfl⟩
 rw [<- hU];have hbU : SW w U:=by rw [hU];exact an _ _
 have x0 : aN U w.heap.size [.int .i64 P,.int .i64 M,.slice am mn cm,.int .i64 N,.slice a n c]:=by rw [hU];exact R9 _ _ _ rfl
 have HX:=Z5 x0;clear hU x0;refine (dr P M am mn cm mod N a n c L U (hmod.ah hbU) (hi.ah hbU)).mono ?_;rintro e w1 ⟨rfl,hb1⟩;have hbw1:=RZ hbU hb1;by_cases hE : aF P M mod N L=0
 ·obtain ⟨hf,_⟩:=aG hE;have HE:=Z5 hE;have Hf:=Z5 hf;rw [hE];have x1:=HX.out.ah hb1;have c0:=x1.cell 0 rfl;have c1:=x1.cell 1 rfl;have c2:=x1.cell 2 rfl;have hm1:=(hmod.ah hbU).ah hb1;clear hE x1 hf;go_wp2_with fail;refine (ef P M am mn cm mod w1 hm1).mono ?_;rintro e w2 (⟨hB,rfl,hb2⟩ | ⟨hB,b,rfl,hG,hbl,hb2⟩)
  ·rw [Hf.out] at hB;cases hB
  ·clear hB;have hg:=hG.gf;have x2:=(HX.out.ah hb1).ah hb2;have e0:=x2.cell 0 rfl;have e1:=x2.cell 1 rfl;have e2:=x2.cell 2 rfl;have e3:=x2.cell 3 rfl;have e4:=x2.cell 4 rfl;clear x2 c0 c1 c2;go_wp2_with fail;go_ret2;exact ⟨RZ (RZ hbw1 hb2) (an _ _),.inr ⟨HE.out,b,w2,rfl,RZ hbw1 hb2,hg,an _ _,R9 w2 [.pointer (some ⟨b,0,none⟩),.int .i64 P,.int .i64 M,.slice am mn cm,.int .i64 N,.slice a n c,.slice none 0 0,.bool false,.int .i64 0,.int .i64 W,.slice none 0 0,.int .i64 0] _ rfl⟩⟩
 ·have HE:=Z5 hE;have hE' : (aF P M mod N L != 0)=true:=by simpa using hE
  clear hE;go_wp2_with fail;go_ret2;exact ⟨hbw1,.inl ⟨HE.out,rfl⟩⟩
def KA (P M : Int) (am : OA) (mn cm : Nat) (mod : Lz) (m : Nat) (a : OA) (n c : Nat) (L : ZZ) (ay : OA) (ny cy : Nat) (C : jG) (w w' : World) (pb : Nat) : Prop :=
 ∃(b : Nat) (w2 : World),pb=w2.heap.size/\SW w w2/\Eg w2 b (af P M.toNat mod) a n L m ay ny C/\SW w2 w'/\aN w' pb (qG b P M am mn cm m a n c ay ny cy C (.slice none 0 0) 0)
section
open Go.RowKit
end
section
open Go.RowKit
end
def Ss:=@aE.grown
def SK:=@RS.add
end Go.Proofs.YthglbncgemdcbaaGreat
