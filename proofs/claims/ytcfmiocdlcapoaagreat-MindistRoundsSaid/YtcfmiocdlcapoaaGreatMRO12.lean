import Derived.Test.YtcfmiocdlcapoaaGreatMRO11
import Derived.Test.YtcfmiocdlcapoaaGreatK33
import Derived.Test.YtcfmiocdlcapoaaGreatMRO8
import Derived.Test.YtcfmiocdlcapoaaGreatMRO6
import Derived.Test.YtcfmiocdlcapoaaGreatMRO5
import Derived.Test.YtcfmiocdlcapoaaGreatMRO2
import Derived.Test.YtcfmiocdlcapoaaGreatMRO3
import Derived.Test.YtcfmiocdlcapoaaGreatMRO10
import Derived.Test.YtcfmiocdlcapoaaGreatMRO1
import Derived.Test.YtcfmiocdlcapoaaGreatK28
import Derived.Test.YtcfmiocdlcapoaaGreatMRO9
import Derived.Test.YtcfmiocdlcapoaaGreatMRO7
import Derived.Test.YtcfmiocdlcapoaaGreatK34
import Derived.Test.YtcfmiocdlcapoaaGreatK32
import Derived.Test.YtcfmiocdlcapoaaGreatK12
namespace Go.Proofs.YtcfmiocdlcapoaaGreat
set_option linter.unusedVariables false
set_option linter.unusedSimpArgs false
set_option linter.unusedSectionVars false
set_option maxRecDepth 100000
set_option maxHeartbeats 16000000
open Go.RowKit
section
variable {P M : Int} {mod : Lz} {m : Nat} {L : Ll}
theorem Cz (hE : aL P M mod m L=0) {t : Lz × Int} (ht : t ∈ fu (aa P M.toNat mod).ops L m) {l : Nat} {y : Lz} (hy : y ∈ ik (aa P M.toNat mod).ops (dn (aa P M.toNat mod).q) [1] (l+1) (cQ (aa P M.toNat mod).ops m L t.1) (List.replicate m 0)) : CW P M mod m L y:=by
 have hall:=eH (fg hE).1 t ht
 exact ((mC hE hall.1 hall.2.1).1 hy).1
theorem GQ (hE : aL P M mod m L=0) (l : Nat) (b : Lz) (hb : b=[]\/bw b ≠ 0) :
  (fu (aa P M.toNat mod).ops L m).foldl (λb t=>(ik (aa P M.toNat mod).ops (dn (aa P M.toNat mod).q) [1] (l+1) (cQ (aa P M.toNat mod).ops m L t.1) (List.replicate m 0)).foldl (jj (aa P M.toNat mod).ops) b) b =
   nU (aa P M.toNat mod).ops (aa P M.toNat mod).q m (l+1) (gR P M mod m L) b:=by
 obtain ⟨N',e,hm1,hm64,F,hR⟩:=ba hE
 obtain rfl : m=N':=by omega
 unfold nU gR
 rw [List.foldl_map,jD,jD]
 refine zf F (m:=m) _ b hb λy hy=>?_
 obtain ⟨t,ht,hy⟩:=List.mem_flatMap.1 hy
 have h:=Cz hE ht hy
 exact ⟨h.1,h.2.2⟩
end
def mz (w : World) (B0 : Nat) (ao ab : OA) (cb m : Nat) (B : Lz) : Prop:=(B=[]/\ab=none/\cb=0)\/(B.length=m/\bw B ≠ 0/\ab ≠ none/\(ao ≠ none->ablk ab ≠ ablk ao)/\w.ownsRow B0 3 1 (.slice ab m cb) m (B.map (Value.int .i64)))
theorem mz.ints {w : World} {B0 : Nat} {ao ab : OA} {cb m : Nat} {B : Lz} (h : mz w B0 ao ab cb m B) : Ints w ab B.length B:=by
 rcases h with ⟨rfl,rfl,rfl⟩ | ⟨h1,_,_,_,h2⟩
 ·exact Ints.nil _ _
 ·rw [h1];exact (Ints.own h2).1
theorem mz.ah {w w' : World} {B0 : Nat} {ao ab : OA} {cb m : Nat} {B : Lz} (h : mz w B0 ao ab cb m B) (hb : Below w.heap.size w w') : mz w' B0 ao ab cb m B:=by
 rcases h with h | ⟨h1,h2,h3,h4,h5⟩
 ·exact .inl h
 ·exact .inr ⟨h1,h2,h3,h4,aW h5 hb⟩
theorem mz.ne {w : World} {B0 : Nat} {ao ab : OA} {cb m : Nat} {B : Lz} (h : mz w B0 ao ab cb m B) : B=[]\/bw B ≠ 0:=by
 rcases h with ⟨h,_⟩ | ⟨_,h,_⟩
 ·exact .inl h
 ·exact .inr h
theorem xJ {P : Program} {w : World} {ops : Array Oper} {rest : List Oper} {o : Oper} {ac : Act} {Q : Exit->Act->World->Prop}
  (hg : o.guard=none) (s x : Operand) (t e : TypeId) (hop : o.op = .call { callee:=.builtin .append,args:=#[s,x],argTypes:=#[t,t] }) (z : Value) (bytes : Nat)
  (h1 : P.underlying t=some (.slice e)) (h2 : (P.info? e).map (λi=>(i.zero,i.size,i.bytes))=some (some z,4,bytes)) (hz : z.cells.size=4)
  (B : Nat) (a : OA) (n c : Nat) (xs : List Value) (hs : ac.eval s = .slice a n c) (hown : w.ownsRow B e 4 (.slice a n c) n xs)
  (g cc : Nat) (u0 u1 u2 u3 : Value) (hx : ac.eval x = .slice (some ⟨g,0,none⟩) 1 cc) (hu0 : w.cell? ⟨g,0,none⟩=some u0) (hu1 : w.cell? ⟨g,1,none⟩=some u1) (hu2 : w.cell? ⟨g,2,none⟩=some u2) (hu3 : w.cell? ⟨g,3,none⟩=some u3)
  (h1c : ∀u ∈ [u0,u1,u2,u3],u.oneCell'=true)
  (b2 : (n+1) * bytes<=140737488355328) (b3 : n+1<=maxLen) (hB : B<=w.heap.size)
  (hK : ∀a' c' w',w'.ownsRow B e 4 (.slice a' (n+1) c') (n+1) (xs ++ [u0,u1,u2,u3])->w.grownBy w' (Value.slice a n c).ownBlock->(∀b,b<w.heap.size->db a b->db a' b)->wpList P ops Q rest (ac.put o.dst (.slice a' (n+1) c')) w') :
  wpList P ops Q (o :: rest) ac w:=by
 obtain ⟨i,hi,hz0,hz1,hz2⟩ : ∃i,P.info? e=some i/\i.zero=some z/\i.size=4/\i.bytes=bytes:=by
  cases hp : P.info? e with
  | none=>rw [hp] at h2;cases h2
  | some i=>rw [hp] at h2;simp at h2;exact ⟨i,rfl,h2.1,h2.2.1,h2.2.2⟩
 refine wpList_append_own_at w hg s x t hop B e i z 4 bytes h1 hi hz0 hz1 hz2 hz (by decide) _ n xs hs hown ⟨g,0,none⟩ 1 cc [u0,u1,u2,u3] hx rfl ?_ h1c b3 b2 hB λv' w' hown' hgr _ hat=>?_
 ·intro j y hj
  match j,hj with
  | 0,hj=>simp at hj;subst hj;simpa [Addr.add] using hu0
  | 1,hj=>simp at hj;subst hj;simpa [Addr.add] using hu1
  | 2,hj=>simp at hj;subst hj;simpa [Addr.add] using hu2
  | 3,hj=>simp at hj;subst hj;simpa [Addr.add] using hu3
 ·obtain ⟨a',c',rfl⟩ : ∃a' c',v' = .slice a' (n+1) c':=by
   rcases hown'.2 with ⟨_,h0⟩ | ⟨g',cap,cur,rfl,_⟩
   ·omega
   ·exact ⟨_,cap,rfl⟩
  refine hK a' c' w' hown' hgr λb hb hapt=>?_
  have h:=hapt.own n c
  rcases hat with h3 | h3
  ·exact db.kT (n:=n+1) (c:=c') (by rw [h3];exact h)
  ·exact db.kT (n:=n+1) (c:=c') (by rw [h3];intro h4;cases h4;omega)
theorem mz.push {Y Z0 w6 : World} {B0 : Nat} {ao a5 ab : OA} {cb m k co : Nat} {B : Lz} (h : mz Y B0 ao ab cb m B) (hm : 1<=m) (hb : Below Y.heap.size Y Z0) (hg : Z0.grownBy w6 (Value.slice ao k co).ownBlock) (hap : ∀b,b<Z0.heap.size->db ao b->db a5 b) : mz w6 B0 a5 ab cb m B:=by
 rcases h with h | ⟨h1,h2,h3,h4,h5⟩
 ·exact .inl h
 ·have hlt:=(gz h5 h3).2
  have hs:=hb.size
  have ha : db ao (ablk ab):=by
   by_cases e : ao=none
   ·exact .inl e
   ·exact .inr λe2=>h4 e e2.symm
  refine .inr ⟨h1,h2,h3,λhn e=>?_,?_⟩
  ·rcases hap _ (by omega) ha with h6 | h6
   ·exact hn h6
   ·exact h6 e.symm
  ·exact jF (aW h5 hb) λ_=>hg.block _ (by omega) λe=>ha.own _ _ e.symm
theorem IC {X w7 : World} {t : TypeId} (hb : Below (X.alloc (.cells #[.int .i64 0,.slice none 0 0] t)).drew.heap.size (X.alloc (.cells #[.int .i64 0,.slice none 0 0] t)).drew w7) :
  w7.cell? ⟨X.heap.size,0,none⟩=some (.int .i64 0)/\w7.cell? ⟨X.heap.size,1,none⟩=some (.slice none 0 0)/\w7.frozen? ⟨X.heap.size,0,none⟩=false/\w7.frozen? ⟨X.heap.size,1,none⟩=false:=by
 have x7:=(aV.new X [.int .i64 0,.slice none 0 0] t rfl).ah (Below.next (Below.refl _ _).drew hb)
 exact ⟨x7.cell 0 rfl,x7.cell 1 rfl,x7.frozen 0,x7.frozen 1⟩
theorem GZ {X w7 : World} {t : TypeId} {m n c9 : Nat} {a9 : OA} {S : Ll} (hb : Below (X.alloc (.cells #[.int .i64 0,.slice none 0 0] t)).drew.heap.size (X.alloc (.cells #[.int .i64 0,.slice none 0 0] t)).drew w7)
  (hM : bN (X.alloc (.cells #[.int .i64 0,.slice none 0 0] t)).drew.heap.size w7 a9 n S) :
  ((w7.setCell ⟨X.heap.size,0,none⟩ (.int .i64 m)).setCell ⟨X.heap.size,1,none⟩ (.slice a9 n c9)).cell? ⟨X.heap.size,1,none⟩=some (.slice a9 n c9)/\Hid (bZ ((w7.setCell ⟨X.heap.size,0,none⟩ (.int .i64 m)).setCell ⟨X.heap.size,1,none⟩ (.slice a9 n c9)) a9 n S) /\
   Below X.heap.size X ((w7.setCell ⟨X.heap.size,0,none⟩ (.int .i64 m)).setCell ⟨X.heap.size,1,none⟩ (.slice a9 n c9)):=by
 have hsz : (X.alloc (.cells #[.int .i64 0,.slice none 0 0] t)).drew.heap.size=X.heap.size+1:=by
  show (X.alloc (.cells #[.int .i64 0,.slice none 0 0] t)).heap.size=_
  simp
 have hb0 : Below X.heap.size X w7:=Below.trans (an X _).drew (hb.mono (by omega))
 have x7:=(aV.new X [.int .i64 0,.slice none 0 0] t rfl).ah (Below.next (Below.refl _ _).drew hb)
 refine ⟨((x7.gk 0 (.int .i64 m)).gk 1 (.slice a9 n c9)).cell 1 rfl,?_,(hb0.setCell (Nat.le_refl _) _).setCell (Nat.le_refl _) _⟩
 show bZ _ _ _ _
 rw [hsz] at hM
 exact ((hM.setCell (by show X.heap.size<_;omega) _).setCell (by show X.heap.size<_;omega) _).kK
theorem uR (P M : Int) (am : OA) (mn cm : Nat) (mod : Lz) (N : Int) (a : OA) (n c : Nat) (L : Ll) (w : World) (hmod : Ints w am mn mod) (hi : bZ w a n L) :
  Calls Tryz.prog 15 #[.agg #[.int .i64 P,.int .i64 M,.slice am mn cm,.int .i64 N,.slice a n c]] w (gY P M mod N L w):=by
 have HFa : Hid (∀V,Below w.heap.size w V->Calls Tryz.prog 48 #[.agg #[.int .i64 P,.int .i64 M,.slice am mn cm,.int .i64 N,.slice a n c]] V (l7 P M mod N L V)):=λV hV=>uW P M am mn cm mod N a n c L V (hmod.ah hV) (hi.ah hV)
 have Hln:=Z5 hi.len
 have Hmi:=Z5 (And.intro hmod hi)
 clear hmod hi
 go_enter Tryz.func15,Tryz.ntmps15
 go_upto_region 1 with fail
 obtain ⟨W,hW⟩ : ∃W : World,W=w.alloc (.cells #[.int .i64 P,.int .i64 M,.slice am mn cm,.int .i64 N,.slice a n c] 27):=⟨_,rfl⟩
 rw [<- hW]
 have hbW : Below w.heap.size w W:=by rw [hW];exact an _ _
 have x0 : aV W w.heap.size [.int .i64 P,.int .i64 M,.slice am mn cm,.int .i64 N,.slice a n c]:=by rw [hW];exact aV.new _ _ _ rfl
 have HS : Hid (∀V,Below W.heap.size W V->V.cell? ⟨w.heap.size,0,none⟩=some (.int .i64 P)/\V.cell? ⟨w.heap.size,1,none⟩=some (.int .i64 M)/\V.cell? ⟨w.heap.size,2,none⟩=some (.slice am mn cm)/\V.cell? ⟨w.heap.size,3,none⟩=some (.int .i64 N)/\V.cell? ⟨w.heap.size,4,none⟩=some (.slice a n c)):=λV hV=>by
  have x1:=x0.ah hV
  exact ⟨x1.cell 0 rfl,x1.cell 1 rfl,x1.cell 2 rfl,x1.cell 3 rfl,x1.cell 4 rfl⟩
 have HbW:=Z5 hbW
 have HFaW:=Z5 (HFa.out W hbW)
 clear hW x0 hbW HFa
 obtain ⟨c0,c1,c2,c3,c4⟩:=HS.out W (Below.refl _ _)
 go_wp2_with fail
 refine HFaW.out.mono ?_
 rintro e w1 ⟨hb1,⟨hE,rfl⟩ | ⟨hE,m,rfl,kf,af,cf,Rf,T,hT,rfl,hO⟩⟩
 ·have hE2 : (aL P M mod N L != 0)=true:=by simpa using hE
  have HR : Hid (dq P M mod N L=([],[],aL P M mod N L)):=by show _=_;unfold dq;rw [if_pos hE]
  have hF:=Below.next HbW.out hb1
  clear hE HFaW
  generalize aL P M mod N L=er at *
  go_wp2_with fail
  go_ret3
  exact qU HR.out hF
 clear c0 c1 c2 c3 c4 HFaW
 obtain ⟨c0,c1,c2,c3,c4⟩:=HS.out w1 hb1
 by_cases hn0 : n=0
 ·subst hn0
  have HR : Hid (dq P M mod m L=([],[],11)):=by show _=_;unfold dq;rw [if_neg (by rw [hE];decide),if_pos Hln.out]
  have hF:=Below.next HbW.out hb1
  clear hE hO
  go_wp2_with fail
  go_ret3
  exact qU HR.out hF
 obtain ⟨m',em,hm1,hm64,F,hR⟩:=ba hE
 obtain rfl : m=m':=by omega
 have hn64 : n<=64:=by have:=kt hE;have:=Hln.out;omega
 have hL1 : 1<=L.length:=by have:=Hln.out;omega
 have hSt:=hO.str
 have hall:=λt ht=>eH (fg hE).1 t ht
 have hTl:=(fg hE).2
 have hne:=sI hE hL1
 rw [<- hT] at hall hTl hne
 have hkf : T.length=kf:=hO.tl
 have hord : aK P M=((aa P M.toNat mod).q : Int):=by
  obtain ⟨m1,e1,_,h1,_⟩:=fU (bh hE).1
  rw [show M.toNat=m1 by omega];exact h1.symm
 obtain ⟨_,hq2,hq256⟩:=sj hE
 have HOr : Hid (∀V,Calls Tryz.prog 45 #[.agg #[.int .i64 P,.int .i64 M,.slice am mn cm]] V λe w'=>e = .returned (.int .i64 ((aa P M.toNat mod).q : Nat))/\Below V.heap.size V w'):=λV=>by
  rw [<- hord];exact dB P M am mn cm V
 have HSy : Hid (∀t ∈ T,∀V sa Sn sc,Below w.heap.size w V->Ints V sa Sn t.1->Calls Tryz.prog 50 #[.agg #[.int .i64 P,.int .i64 M,.slice am mn cm,.int .i64 m,.slice a n c],.slice sa Sn sc] V λe w'=>∃a1 c1,e = .returned (.tuple #[.agg #[.int .i64 m,.slice a1 n c1],.int .i64 0])/\bN V.heap.size w' a1 n (cQ (aa P M.toNat mod).ops m L t.1)/\Below V.heap.size V w'):=λt ht V sa Sn sc hV hI=>by
  obtain ⟨t1,t2,_,_⟩:=hall t ht
  refine (pX P M am mn cm mod m a n c L sa Sn sc t.1 V (λk m a1 c1 A V h1 h2 h3 h4 h5 h6 h7 h8 h9=>?_) (Hmi.out.1.ah hV) (Hmi.out.2.ah hV) hI).mono ?_
  ·exact Be P M am mn cm mod k a1 k c1 A m a c L V h1 h2 h3 h4 h5 h6 h7 h8 h9 h7
  rintro e w' ⟨hb,⟨h1,_⟩ | ⟨_,m2,e2,a1,c1,rfl,hM⟩⟩
  ·exact absurd (yF hE t1 t2) h1
  ·obtain rfl : m=m2:=by omega
   rw [Hln.out] at hM ⊢
   exact ⟨a1,c1,rfl,hM,hb⟩
 have hn1 : ((n : Int) == 0)=false:=by simp;omega
 have hkl : kf<=64:=by omega
 have HE:=Z5 hE
 have HT:=Z5 hT
 have Hkf:=Z5 hkf
 have Hne:=Z5 hne
 have HSt:=Z5 hSt
 have HF:=Z5 F
 have hplF:=hSt.pl
 clear hE hT hkf hne hO hSt hall hTl F hR hord em
 go_wp2_with fail
 go_loopw [8,9] (λrv iv wr=>∃(i : Nat) (ak : OA) (ck : Nat),i<=kf/\iv = .int .i64 i/\rv = .slice ak i ck/\Hid (wr.ownsRow w1.heap.size 3 1 (.slice ak i ck) i (((T.take i).map (·.2)).map (Value.int .i64)))/\Below w1.heap.size w1 wr) (λ_ iv _=>kf - (intOf iv).toNat)
 case atStart=>exact ⟨0,none,0,Nat.zero_le _,rfl,rfl,by show World.ownsRow _ _ _ _ _ _ _;exact bY,Below.refl _ _⟩
 case round =>
  obtain ⟨i,ak,ck,hik,rfl,rfl,hown,hbr⟩:=hrel
  generalize wr=V at *
  by_cases hlt : i<kf
  ·have hiT : i<T.length:=by rw [Hkf.out];exact hlt
   obtain ⟨sa,sc,_,p1,_⟩:=(HSt.out.ah hbr).cell i hiT
   have Htk : Hid (((T.take (i+1)).map (·.2)).map (Value.int .i64)=((T.take i).map (·.2)).map (Value.int .i64) ++ [.int .i64 T[i].2]):=by
    show _=_
    rw [List.take_succ_eq_append_getElem hiT,List.map_append,List.map_append];rfl
   obtain ⟨r,hr⟩ : ∃r,T[i].2=r:=⟨_,rfl⟩
   rw [hr] at p1 Htk
   have hop8:=aW hown.out (an V (.cells #[.int .i64 r] 3))
   have hcn:=br V (.int .i64 r) 3
   have hbn:=an V (.cells #[.int .i64 r] 3)
   have hsz:=hbr.size
   have hsz8 : w1.heap.size<=(V.alloc (.cells #[.int .i64 r] 3)).heap.size:=by simp;omega
   clear hr hown c0 c1 c2 c3 c4
   go_wp2_with (at_builtin;refine bk rfl _ _ 22 3 rfl (.int .i64 0) 8 Tryz.underlying22 aX rfl w1.heap.size ak i ck _ rfl hop8 ⟨V.heap.size,0,none⟩ 1 (.int .i64 r) rfl hcn rfl (by omega) (by unfold maxLen;omega) hsz8 ?_;intro a5 c5 w5 hown5 hgr5 hap5)
   go_roundw
   case rel =>
    refine ⟨i+1,a5,c5,by omega,by go_num,rfl,?_,Below.app (Below.trans hbr (hbn.mono hsz)) hop8 hgr5 (Nat.le_refl _) hsz8⟩
    show World.ownsRow _ _ _ _ _ _ _
    rw [Htk.out]
    exact hown5
   case measure=>simp [intOf] <;> omega
  ·obtain rfl : i=kf:=by omega
   have hrk:=(Ints.own (l:=T.map (·.2)) (by have h1:=hown.out;rwa [List.take_of_length_le (by rw [Hkf.out];exact Nat.le_refl _)] at h1)).1
   have HrkV:=Z5 hrk
   have hplk:=hrk.pl
   have hi1 : 1<=i:=by
    rcases Nat.eq_zero_or_pos i with h | h
    ·exact absurd (List.eq_nil_of_length_eq_zero (by rw [Hkf.out];exact h)) Hne.out
    ·exact h
   obtain ⟨RES,hRES⟩ : ∃RES,dq P M mod m L=RES:=⟨_,rfl⟩
   have hRES2 : srS (aa P M.toNat mod).ops (aa P M.toNat mod).q m n (gR P M mod m L) (T.map (·.2)) n 1 [] 0 []=RES:=by
    rw [<- hRES];unfold dq
    rw [if_neg (by rw [HE.out];decide),if_neg (by rw [Hln.out];omega),Int.toNat_natCast,Hln.out,HT.out]
   have HRES:=Z5 hRES
   have hb1V:=Below.next hb1 hbr
   have hfml : (gR P M mod m L).length=i:=by unfold gR;rw [List.length_map,<- HT.out,Hkf.out]
   have Hfml:=Z5 hfml
   clear hown hrk hRES hfml c0 c1 c2 c3 c4
   go_wp2_with fail
   go_loopw [10,11,12,13] (λov bv kv wv wr=>∃(W1 : Nat) (ao : OA) (co : Nat) (o : Ll) (ab : OA) (cb : Nat) (B : Lz) (kk : Nat),W1<=n/\wv = .int .i64 ((W1 : Int)+1)/\kv = .int .i64 kk/\ov = .slice ao o.length co/\bv = .slice ab B.length cb /\
     Hid (wr.ownsRow V.heap.size 62 4 (.slice ao o.length co) o.length (rdV o))/\Hid (mz wr V.heap.size ao ab cb m B)/\kk<=65536/\o.length<=W1/\Below V.heap.size V wr /\
     Hid (srS (aa P M.toNat mod).ops (aa P M.toNat mod).q m n (gR P M mod m L) (T.map (·.2)) (n - W1) (W1+1) B kk o=RES)) (λ_ _ _ wv _=>n+1 - (intOf wv).toNat)
   case atStart=>exact ⟨0,none,0,[],none,0,[],0,Nat.zero_le _,rfl,rfl,rfl,rfl,⟨rfl,.inl ⟨rfl,rfl⟩⟩,.inl ⟨rfl,rfl,rfl⟩,by omega,Nat.le_refl _,Below.refl _ _,hRES2⟩
   case round =>
    clear hRES2
    obtain ⟨W1,ao,co,o,ab,cb,B,kk,hW1,rfl,rfl,rfl,rfl,howo,hbest,hkk,hol,hVX,hres⟩:=hrel
    generalize wr=X at *
    have hbWX:=Below.next hb1V hVX
    obtain ⟨c0,c1,c2,c3,c4⟩:=HS.out X hbWX
    by_cases hlt2 : W1<n
    ·have d1 : decide ((W1 : Int)+1<=(n : Int))=true:=by simp;omega
     obtain ⟨f,hf⟩ : ∃f,n - W1=f+1:=⟨n - W1 - 1,by omega⟩
     have hres2:=hres.out
     rw [hf,srS,Hfml.out] at hres2
     obtain ⟨q,hq⟩ : ∃q,(aa P M.toNat mod).q=q:=⟨_,rfl⟩
     rw [hq] at hq2 hq256
     have HRd : Hid (∀V,Calls Tryz.prog 49 #[.int .i64 q,.int .i64 n,.int .i64 i,.int .i64 ((W1 : Int)+1),.int .i64 (65536 - (kk : Int))] V λe w'=>e = .returned (.tuple #[.int .i64 (if il q n i kk (W1+1)=true then (kZ q n i (W1+1) : Int) else 0),.int .i64 (if il q n i kk (W1+1)=true then 0 else 8)])/\Below V.heap.size V w'):=λV=>by
      have h1:=wR q n i kk (W1+1) V (by omega) (by omega) hn64 (by omega) (by omega) hi1 hkl hkk
      rw [show ((W1+1 : Nat) : Int)=(W1 : Int)+1 by omega] at h1
      exact h1
     have hfo:=GQ HE.out W1 B hbest.out.ne
     rw [<- HT.out] at hfo
     obtain ⟨RB,hRB⟩ : ∃RB,nU (aa P M.toNat mod).ops (aa P M.toNat mod).q m (W1+1) (gR P M mod m L) B=RB:=⟨_,rfl⟩
     rw [hRB] at hfo hres2
     rw [hq] at HOr hres2
     have Hq:=Z5 hq
     have Hfo:=Z5 hfo
     have HRB:=Z5 hRB
     have Hf:=Z5 hf
     clear hq hf hfo hRB
     by_cases hm : il q n i kk (W1+1)=true
     rotate_left
     ·rw [if_neg hm] at hres2
      simp only [if_neg hm] at HRd
      have HR : Hid (dq P M mod m L=([],[],8)):=by show _=_;rw [HRES.out,<- hres2]
      have hFW:=Below.next HbW.out hbWX
      clear hres2 hm
      go_wp2_with fail
      refine (HOr.out _).mono ?_
      rintro e X1 ⟨rfl,hb1⟩
      clear c0 c1 c2 c3 c4
      go_wp2_with fail
      refine (HRd.out _).mono ?_
      rintro e X2 ⟨rfl,hb2⟩
      have hF:=Below.next hFW (Below.next hb1 hb2)
      go_wp2_with fail
      go_ret3
      exact qU HR.out hF
     rw [if_pos hm] at hres2
     simp only [if_pos hm] at HRd
     have hmb : kk+kZ q n i (W1+1)<=65536:=by
      have h1:=hm
      unfold il at h1
      simp only [Bool.and_eq_true,decide_eq_true_eq] at h1
      omega
     have hcnt : kZ q n i (W1+1)=i * (chN n (W1+1) * (q - 1) ^ W1):=by unfold kZ;rw [Nat.add_sub_cancel]
     obtain ⟨rn,hrn⟩ : ∃rn,kZ q n i (W1+1)=rn:=⟨_,rfl⟩
     rw [hrn] at HRd hmb hres2 hcnt
     have Hres2:=Z5 hres2
     have Hcnt:=Z5 hcnt
     have Hrn:=Z5 hrn
     clear hres2 hm hrn hcnt
     go_wp2_with fail
     refine (HOr.out _).mono ?_
     rintro e X1 ⟨rfl,hb1⟩
     clear c0 c1 c2 c3 c4
     go_wp2_with fail
     refine (HRd.out _).mono ?_
     rintro e X2 ⟨rfl,hb2⟩
     have hX2:=Below.next hb1 hb2
     have HX2:=Z5 hX2
     have hbest2 : mz X2 V.heap.size ao ab cb m B:=hbest.out.ah hX2
     have hstart : (T.drop 0).foldl (λb t=>(ik (aa P M.toNat mod).ops (dn (aa P M.toNat mod).q) [1] (W1+1) (cQ (aa P M.toNat mod).ops m L t.1) (List.replicate m 0)).foldl (jj (aa P M.toNat mod).ops) b) B=RB:=Hfo.out
     clear hb1 hb2 hX2
     go_wp2_with fail
     go_loopw [11,16] (λbv iv wr=>∃(t : Nat) (ab' : OA) (cb' : Nat) (B' : Lz),t<=i/\iv = .int .i64 t/\bv = .slice ab' B'.length cb'/\Hid (mz wr V.heap.size ao ab' cb' m B')/\Below X2.heap.size X2 wr /\
       Hid ((T.drop t).foldl (λb t=>(ik (aa P M.toNat mod).ops (dn (aa P M.toNat mod).q) [1] (W1+1) (cQ (aa P M.toNat mod).ops m L t.1) (List.replicate m 0)).foldl (jj (aa P M.toNat mod).ops) b) B'=RB)) (λ_ iv _=>i - (intOf iv).toNat)
     case atStart=>exact ⟨0,ab,cb,B,Nat.zero_le _,rfl,rfl,hbest2,Below.refl _ _,hstart⟩
     case round =>
      clear hbest2 hstart
      obtain ⟨t,ab',cb',B',ht,rfl,rfl,hbst,hbY,hfold⟩:=hrel
      generalize wr=Y at *
      have hbWY:=Below.next hbWX (Below.next HX2.out hbY)
      obtain ⟨c0,c1,c2,c3,c4⟩:=HS.out Y hbWY
      by_cases hltt : t<i
      ·have htT : t<T.length:=by rw [Hkf.out];exact hltt
       have hb1Y:=Below.next (Below.next hbr hVX) (Below.next HX2.out hbY)
       obtain ⟨sa,sc,p0,_,pI⟩:=(HSt.out.ah hb1Y).cell t htT
       have HSyt : Hid (∀V',Below Y.heap.size Y V'->Calls Tryz.prog 50 #[.agg #[.int .i64 P,.int .i64 M,.slice am mn cm,.int .i64 m,.slice a n c],.slice sa T[t].1.length sc] V' λe w'=>∃a1 c1,e = .returned (.tuple #[.agg #[.int .i64 m,.slice a1 n c1],.int .i64 0])/\bN V'.heap.size w' a1 n (cQ (aa P M.toNat mod).ops m L T[t].1)/\Below V'.heap.size V' w'):=λV' hV=>HSy.out T[t] (List.getElem_mem _) V' sa _ sc (Below.next (Below.next HbW.out hbWY) hV) (pI.ah hV)
       have hdrop : T.drop t=T[t] :: T.drop (t+1):=List.drop_eq_getElem_cons htT
       have hfold2:=hfold.out
       rw [hdrop,List.foldl_cons] at hfold2
       have Hfold2:=Z5 hfold2
       obtain ⟨tt,htt⟩ : ∃tt,T[t]=tt:=⟨_,rfl⟩
       rw [htt] at p0 pI HSyt Hfold2
       have htm : tt ∈ T:=by rw [<- htt];exact List.getElem_mem _
       have Htm:=Z5 htm
       obtain ⟨S,hS⟩ : ∃S,cQ (aa P M.toNat mod).ops m L tt.1=S:=⟨_,rfl⟩
       rw [hS] at HSyt Hfold2
       obtain ⟨Sn,hSn⟩ : ∃Sn,tt.1.length=Sn:=⟨_,rfl⟩
       rw [hSn] at p0 pI HSyt
       have HS':=Z5 hS
       clear hdrop hfold2 hfold htt hS htm hSn hb1Y
       go_wp2_with fail
       go_upto_region 25 with fail
       have p0a:=aw (an Y (.cells #[.int .i64 0,.slice none 0 0] 82)).drew p0
       obtain ⟨d0,d1',d2,d3,d4⟩:=HS.out _ (Below.next hbWY (an Y (.cells #[.int .i64 0,.slice none 0 0] 82)).drew)
       go_cut [17] (λv wx=>∃g5 a9 c9,v = .pointer (some ⟨g5,0,none⟩)/\wx.cell? ⟨g5,1,none⟩=some (.slice a9 n c9)/\Hid (bZ wx a9 n S)/\Below Y.heap.size Y wx)
       case first =>
        go_region_law ((first
         | (go_simp;go_at_call 50;((with_reducible refine (HSyt.out _ (by first | exact Below.refl _ _ | exact (Below.refl _ _).drew | exact (an _ _).drew | exact an _ _ | assumption)).mono ?_);rintro e w7 ⟨a9,c9,rfl,hM7,hb7⟩;have HM7:=Z5 hM7;clear hM7;first | (have zz:=IC hb7;obtain ⟨z0,z1,f0,f1⟩:=zz) | skip))))
        all_goals (
         go_wp2_with fail
         go_meet
         first
         | (have z9:=z1;exact ⟨_,a9,c9,rfl,GZ hb7 HM7.out⟩)
         | exact ⟨_,a9,c9,rfl,(aV.new w7 [.int .i64 m,.slice a9 n c9] _ rfl).cell 1 rfl,HM7.out.kK.ah (an _ _),Below.next (Below.next (Below.refl _ _).drew hb7) (an _ _)⟩)
       obtain ⟨g5,a9,c9,rfl,hg5,hM5,hbZ⟩:=hcut
       generalize wc=Z at *
       have hbWZ:=Below.next hbWY hbZ
       clear c0 c1 c2 c3 c4 p0 p0a d0 d1' d2 d3 d4
       obtain ⟨c0,c1,c2,c3,c4⟩:=HS.out Z hbWZ
       have hcm:=eH (fg HE.out).1 tt (by rw [<- HT.out];exact Htm.out)
       obtain ⟨hI,hl,hg⟩:=ju hcm.1 hcm.2.1
       have hsl:=jz HE.out hI hl hg
       rw [HS'.out] at hsl
       have hBf : bA P M mod=true:=(bh HE.out).1
       obtain ⟨TT,hTT⟩ : ∃TT,ik (aa P M.toNat mod).ops (dn (aa P M.toNat mod).q) [1] (W1+1) S (List.replicate m 0)=TT:=⟨_,rfl⟩
       have hTl : TT.length<=65536:=by
        rw [<- hTT,oH,lE,Hq.out,hsl.2.1,Hln.out]
        have h1:=Hcnt.out
        have h2 : chN n (W1+1) * (q - 1) ^ W1<=i * (chN n (W1+1) * (q - 1) ^ W1):=Nat.le_mul_of_pos_left _ (by omega)
        omega
       have HSu : Hid (∀V' av cv,Below Z.heap.size Z V'->V'.ownsRow Z.heap.size 3 1 (.slice av m cv) m ((List.replicate m (0 : Int)).map (Value.int .i64))->Calls Tryz.prog 51 #[.agg #[.int .i64 P,.int .i64 M,.slice am mn cm],.slice a9 n c9,.int .i64 0,.int .i64 ((W1 : Int)+1),.slice av m cv,.bool true] V' (vN Z.heap.size TT V')):=λV' av cv hV hv=>by
        have hmZ:=Hmi.out.1.ah (Below.next (Below.next HbW.out hbWZ) hV)
        have h1:=wi am mn cm a9 n c9 hBf hm64 hn64 hsl.1 (W1+1) (by omega) V' Z.heap.size av cv (List.replicate m 0) 0 true hmZ (hM5.out.ah hV) hV.size hv ⟨by simp,λx hx=>by rw [(List.mem_replicate.1 hx).2];exact HF.out.zero⟩ (Nat.zero_le _) (by rw [if_pos rfl,List.drop_zero,hTT];omega)
        rw [if_pos rfl,List.drop_zero,hTT,show ((W1+1 : Nat) : Int)=(W1 : Int)+1 by omega] at h1
        exact h1
       rw [hTT] at Hfold2
       have HTT:=Z5 hTT
       have HTl:=Z5 hTl
       clear hcm hI hl hg hsl hBf hTT hTl
       have hmk:=run_mk (P:=Tryz.prog) 22 3 (.int .i64 0) 8 Tryz.underlying22 aX rfl m (by omega) (by omega)
       have HOw : Hid (∀V' : World,Z.heap.size<=V'.heap.size->(V'.alloc (.cells (Array.replicate m (Value.int .i64 0)) 3)).ownsRow Z.heap.size 3 1 (.slice (some ⟨V'.heap.size,0,none⟩) m m) m ((List.replicate m (0 : Int)).map (Value.int .i64))):=λV' hV'=>by
        have h1:=lN V' 3 (.int .i64 0) m (g:=V'.heap.size) (B:=Z.heap.size) rfl hV' (by unfold maxLen;omega)
        rwa [show List.replicate m (Value.int .i64 0)=(List.replicate m (0 : Int)).map (Value.int .i64) by simp] at h1
       obtain ⟨d0,d1',d2,d3,d4⟩:=HS.out _ (Below.next hbWZ (an Z (.cells (Array.replicate m (Value.int .i64 0)) 3)))
       have hg5b:=aw (an Z (.cells (Array.replicate m (Value.int .i64 0)) 3)) hg5
       go_upto_region 26 with fail
       go_cut [19] (λv wx=>∃aT cT RT,v = .slice aT TT.length cT/\Hid (aU wx Z.heap.size aT TT.length cT RT TT)/\Below Z.heap.size Z wx)
       case first =>
        go_region_law ((first
         | (go_simp;go_at_call 51;((with_reducible refine (HSu.out _ _ _ (by first | exact an _ _ | exact (an _ _).drew | exact Below.next (Below.refl _ _).drew (an _ _)) (by first | exact HOw.out _ (Nat.le_refl _) | exact aW (HOw.out _ (Nat.le_refl _)) (Below.refl _ _).drew)).mono ?_);rintro e w7 ⟨aT,cT,RT,rfl,hO7,hb7⟩;have HO7:=Z5 hO7;clear hO7))))
        all_goals (
         have hF7 : Below Z.heap.size Z w7:=by first | exact Below.next (an _ _) hb7 | exact Below.next (an _ _).drew hb7 | exact Below.next (Below.next (Below.refl _ _).drew (an _ _)) hb7
         go_wp2_with fail
         go_meet
         exact ⟨aT,cT,RT,rfl,HO7.out,hF7⟩)
       obtain ⟨aT,cT,RT,rfl,hOT,hbZ1⟩:=hcut
       generalize wc=Z1 at *
       have hbYZ1:=Below.next hbZ hbZ1
       have hbst1 : mz Z1 V.heap.size ao ab' cb' m B':=hbst.out.ah hbYZ1
       obtain ⟨FB,hFB⟩ : ∃FB,TT.foldl (jj (aa P M.toNat mod).ops) B'=FB:=⟨_,rfl⟩
       rw [hFB] at Hfold2
       have hst0 : (TT.drop 0).foldl (jj (aa P M.toNat mod).ops) B'=FB:=hFB
       have HaX : Hid (ao ≠ none->ablk ao<Y.heap.size):=λh=>Nat.lt_of_lt_of_le (gz howo.out h).2 (Nat.le_trans HX2.out.size hbY.size)
       have hMT : bZ Z1 aT TT.length TT:=(bN.own hOT.out).kK
       have HMT:=Z5 hMT
       have hplT:=hMT.pl
       have hTl2:=HTl.out
       have HY1:=Z5 hbYZ1
       have hVY : V.heap.size<=Y.heap.size:=Nat.le_trans hVX.size (Nat.le_trans HX2.out.size hbY.size)
       have HTw : Hid (∀y ∈ TT,Vc (aa P M.toNat mod).El m y/\bw y ≠ 0):=λy hy=>by
        have hy':=hy
        rw [<- HTT.out,<- HS'.out] at hy'
        have h:=Cz HE.out (t:=tt) (by rw [<- HT.out];exact Htm.out) hy'
        exact ⟨h.1,h.2.2⟩
       have HFd : Hid (bA P M mod=true):=(bh HE.out).1
       clear hmk HOw d0 d1' d2 d3 d4 hg5b hg5 hM5 HSu hFB hMT hOT c0 c1 c2 c3 c4 HSyt
       go_wp2_with fail
       go_loopw [11,20] (λbv jv wr=>∃(j : Nat) (ab2 : OA) (cb2 : Nat) (B2 : Lz),j<=TT.length/\jv = .int .i64 j/\bv = .slice ab2 B2.length cb2/\Hid (mz wr V.heap.size ao ab2 cb2 m B2)/\Below Z1.heap.size Z1 wr/\Hid ((TT.drop j).foldl (jj (aa P M.toNat mod).ops) B2=FB)) (λ_ jv _=>TT.length - (intOf jv).toNat)
       case atStart=>exact ⟨0,ab',cb',B',Nat.zero_le _,rfl,rfl,hbst1,Below.refl _ _,hst0⟩
       case round =>
        clear hbst1 hst0
        obtain ⟨j,ab2,cb2,B2,hj,rfl,rfl,hb2,hbR,hfo⟩:=hrel
        generalize wr=R at *
        have hbYR:=Below.next HY1.out hbR
        have hbWR:=Below.next hbWY hbYR
        obtain ⟨c0,c1,c2,c3,c4⟩:=HS.out R hbWR
        by_cases hltj : j<TT.length
        ·obtain ⟨ar,mr,cr,hcell,hrw⟩:=(HMT.out.ah hbR).cell j hltj
         obtain ⟨hyv,hy0⟩:=HTw.out _ (lh hltj)
         have hmr : mr=m:=by rw [<- hrw.len];exact hyv.1
         rw [hmr] at hcell hrw
         have hdrop : TT.drop j=aj TT j :: TT.drop (j+1):=by rw [List.drop_eq_getElem_cons hltj,aE hltj]
         have hfo2:=hfo.out
         rw [hdrop,List.foldl_cons] at hfo2
         obtain ⟨y,hy⟩ : ∃y,aj TT j=y:=⟨_,rfl⟩
         rw [hy] at hrw hyv hy0 hfo2
         have HMo : Hid (∀V',Below R.heap.size R V'->Calls Tryz.prog 52 #[.agg #[.int .i64 P,.int .i64 M,.slice am mn cm],.slice ar m cr] V' λe w'=>∃a1 c1,e = .returned (.slice a1 m c1)/\w'.ownsRow R.heap.size 3 1 (.slice a1 m c1) m ((dT (aa P M.toNat mod).ops y).map (Value.int .i64))/\Below V'.heap.size V' w'):=λV' hV'=>by
          refine (xT HFd.out hm64 ar cr y V' (Hmi.out.1.ah (Below.next HbW.out (Below.next hbWR hV'))) (hrw.ah hV') hyv hy0).mono ?_
          rintro e w' ⟨a1,c1,rfl,h1,h2⟩
          exact ⟨a1,c1,rfl,aP h1 hV'.size,h2⟩
         have hXw:=ki HF.out hyv hy0
         have hXl : (dT (aa P M.toNat mod).ops y).length=m:=by simp [dT,hyv.1]
         obtain ⟨X9,hX9⟩ : ∃X9,dT (aa P M.toNat mod).ops y=X9:=⟨_,rfl⟩
         have hlk : jj (aa P M.toNat mod).ops B2 y=if B2=[]\/bw X9<bw B2\/(bw X9=bw B2/\cmpL X9 B2<0) then X9 else B2:=by unfold jj;rw [hX9]
         rw [hX9] at HMo hXw hXl
         have hX0 : bw X9 ≠ 0:=by rw [hXw];exact hy0
         have hlm : bw X9<=m:=by rw [<- hXl];exact List.countP_le_length
         have Hlk:=Z5 hlk
         have Hfo2:=Z5 hfo2
         have HXl:=Z5 (And.intro hXl hX0)
         have hTT6 : (j : Int)<(TT.length : Int):=by omega
         clear hdrop hfo2 hy hyv hy0 hXw hX9 hlk hXl hX0 hrw hmr hfo
         go_upto_region 30 with fail
         go_cut [21] (λv wx=>∃a5 c5,v = .slice a5 m c5/\Hid (wx.ownsRow R.heap.size 3 1 (.slice a5 m c5) m (X9.map (Value.int .i64)))/\Below R.heap.size R wx)
         case first =>
          go_region_law ((first
           | (go_simp;go_at_call 52;((with_reducible refine (HMo.out _ (by first | exact Below.refl _ _ | exact (Below.refl _ _).drew)).mono ?_);rintro e w7 ⟨a5,c5,rfl,h7,hb7⟩;have H7:=Z5 h7;clear h7))))
          all_goals (
           have hF7 : Below R.heap.size R w7:=by first | exact hb7 | exact Below.next (Below.refl _ _).drew hb7
           go_wp2_with fail
           go_meet
           exact ⟨a5,c5,rfl,H7.out,hF7⟩)
         obtain ⟨a5,c5,rfl,hO5,hbQ⟩:=hcut
         generalize wc=Q at *
         have hIx:=(Ints.own hO5.out)
         have hIB : Ints Q ab2 B2.length B2:=hb2.out.ints.ah hbQ
         have Hw1:=Z5 (gv a5 m c5 X9 Q hIx.1)
         have Hw2:=Z5 (gv ab2 B2.length cb2 B2 Q hIB)
         have hYR:=hbYR.size
         have HNew : Hid (∀V',Below Q.heap.size Q V'->mz V' V.heap.size ao a5 c5 m X9):=λV' hV'=>by
          have h1:=(Ints.own hO5.out).2 (by omega)
          refine .inr ⟨HXl.out.1,HXl.out.2,?_,λha=>?_,aW (aP hO5.out (by omega)) hV'⟩
          ·intro h2
           have:=hIx.1.pl (by omega)
           rw [h2] at this;cases this
          ·have h2:=HaX.out ha
           have h3:=h1.1
           omega
         have HOld : Hid (∀V',Below Q.heap.size Q V'->mz V' V.heap.size ao ab2 cb2 m B2):=λV' hV'=>hb2.out.ah (Below.next hbQ hV')
         have hbZQ:=Below.next hbR hbQ
         have heq:=λ(w : World) (a : OA) (l c : Nat)=>Go.run_eql_slice_nil (P:=Tryz.prog) w 22 3 a l c Tryz.underlying22
         have hB2:=hb2.out
         have HIx:=Z5 hIx.1
         have HIB:=Z5 hIB
         have HbZQ:=Z5 hbZQ
         clear hIx hIB hO5 hcell c0 c1 c2 c3 c4 hb2 HMo hbZQ
         obtain ⟨u1,hu1⟩ : ∃u1,bw X9=u1:=⟨_,rfl⟩
         rw [hu1] at Hw1 Hlk hlm
         rcases hB2 with ⟨hB0,ha0,hc0⟩ | ⟨hBl,hBw,hBa,hBao,hBo⟩
         ·subst hB0 ha0 hc0
          have hin : (none : OA).isNone=true:=rfl
          have Hlk2 : Hid (jj (aa P M.toNat mod).ops [] y=X9):=by show _=_;rw [Hlk.out,if_pos (.inl rfl)]
          have hw0 : bw ([] : Lz)=0:=rfl
          rw [hw0] at Hw2
          clear hw0 hu1 Hlk
          go_wp2_with fail
          refine Hw1.out.mono ?_
          rintro e w' ⟨rfl,hw'⟩
          obtain rfl:=hw'.symm
          go_wp2_with fail
          refine Hw2.out.mono ?_
          rintro e w' ⟨rfl,hw'⟩
          obtain rfl:=hw'.symm
          go_wp2_with fail
          go_roundw
          case rel=>exact ⟨j+1,a5,c5,X9,by omega,by go_num,by rw [HXl.out.1],HNew.out _ (Below.refl _ _),HbZQ.out,by have h:=Hfo2.out;rw [Hlk2.out] at h;exact h⟩
          case measure=>simp [intOf] <;> omega
         have hin : ab2.isNone=false:=by
          cases ab2 with
          | none=>exact absurd rfl hBa
          | some x=>rfl
         have hBn : B2 ≠ []:=λh=>hBw (by rw [h];rfl)
         obtain ⟨u2,hu2⟩ : ∃u2,bw B2=u2:=⟨_,rfl⟩
         rw [hu2] at Hw2 Hlk
         have h2m : u2<=m:=by rw [<- hu2,<- hBl];exact List.countP_le_length
         have hIBm:=HIB.out
         rw [hBl] at hIBm
         have HLs:=Z5 (zp a5 m c5 X9 ab2 cb2 B2 Q HIx.out hIBm)
         rw [hBl] at Hw2
         rw [hBl]
         have HBl:=Z5 hBl
         have HBn:=Z5 hBn
         clear hBl hBw hBa hBao hBo hBn hu1 hu2 hIBm
         rcases Nat.lt_trichotomy u1 u2 with hlt3 | heq3 | hgt3
         ·have Hlk2 : Hid (jj (aa P M.toNat mod).ops B2 y=X9):=by show _=_;rw [Hlk.out,if_pos (.inr (.inl hlt3))]
          have d1 : decide ((u1 : Int) - (u2 : Int)<0)=true:=by simp;omega
          have d2 : decide ((u1 : Int)<(u2 : Int))=true:=by simp;omega
          have d3 : decide (u1<u2)=true:=by simp;omega
          clear Hlk
          go_wp2_with fail
          refine Hw1.out.mono ?_
          rintro e w' ⟨rfl,hw'⟩
          obtain rfl:=hw'.symm
          go_wp2_with fail
          refine Hw2.out.mono ?_
          rintro e w' ⟨rfl,hw'⟩
          obtain rfl:=hw'.symm
          go_wp2_with fail
          go_roundw
          case rel=>exact ⟨j+1,a5,c5,X9,by omega,by go_num,by rw [HXl.out.1],HNew.out _ (Below.refl _ _),HbZQ.out,by have h:=Hfo2.out;rw [Hlk2.out] at h;exact h⟩
          case measure=>simp [intOf] <;> omega
         ·subst heq3
          obtain ⟨zz,hzz⟩ : ∃zz,decide (cmpL X9 B2<0)=zz:=⟨_,rfl⟩
          rw [hzz] at HLs
          have Hzz:=Z5 hzz
          have d1 : ((u1 : Int) - (u1 : Int))=0:=by omega
          clear hzz
          go_wp2_with fail
          refine Hw1.out.mono ?_
          rintro e w' ⟨rfl,hw'⟩
          obtain rfl:=hw'.symm
          go_wp2_with fail
          refine Hw2.out.mono ?_
          rintro e w' ⟨rfl,hw'⟩
          obtain rfl:=hw'.symm
          go_wp2_with fail
          refine HLs.out.mono ?_
          rintro e Q2 ⟨rfl,hbQ2⟩
          have HbZ2:=Z5 (Below.next HbZQ.out hbQ2)
          cases zz
          ·have Hlk2 : Hid (jj (aa P M.toNat mod).ops B2 y=B2):=by
            show _=_
            rw [Hlk.out,if_neg]
            rintro (h | h | ⟨_,h⟩)
            ·exact HBn.out h
            ·omega
            ·exact (of_decide_eq_false Hzz.out) h
           have HO2:=Z5 (HOld.out Q2 hbQ2)
           clear Hlk
           go_wp2_with fail
           go_roundw
           case rel=>exact ⟨j+1,ab2,cb2,B2,by omega,by go_num,by rw [HBl.out],HO2.out,HbZ2.out,by have h:=Hfo2.out;rw [Hlk2.out] at h;exact h⟩
           case measure=>simp [intOf] <;> omega
          ·have Hlk2 : Hid (jj (aa P M.toNat mod).ops B2 y=X9):=by show _=_;rw [Hlk.out,if_pos (.inr (.inr ⟨by first | trivial | rfl,of_decide_eq_true Hzz.out⟩))]
           have HO2:=Z5 (HNew.out Q2 hbQ2)
           clear Hlk
           go_wp2_with fail
           go_roundw
           case rel=>exact ⟨j+1,a5,c5,X9,by omega,by go_num,by rw [HXl.out.1],HO2.out,HbZ2.out,by have h:=Hfo2.out;rw [Hlk2.out] at h;exact h⟩
           case measure=>simp [intOf] <;> omega
         ·have Hlk2 : Hid (jj (aa P M.toNat mod).ops B2 y=B2):=by
           show _=_
           rw [Hlk.out,if_neg]
           rintro (h | h | ⟨h,_⟩)
           ·exact HBn.out h
           ·omega
           ·omega
          have d1 : decide ((u1 : Int) - (u2 : Int)<0)=false:=by simp;omega
          have d2 : (((u1 : Int) - (u2 : Int)) == 0)=false:=by simp;omega
          have d3 : decide ((u1 : Int)<(u2 : Int))=false:=by simp;omega
          have d4 : decide (u1<u2)=false:=by simp;omega
          clear Hlk
          go_wp2_with fail
          refine Hw1.out.mono ?_
          rintro e w' ⟨rfl,hw'⟩
          obtain rfl:=hw'.symm
          go_wp2_with fail
          refine Hw2.out.mono ?_
          rintro e w' ⟨rfl,hw'⟩
          obtain rfl:=hw'.symm
          go_wp2_with fail
          go_roundw
          case rel=>exact ⟨j+1,ab2,cb2,B2,by omega,by go_num,by rw [HBl.out],HOld.out _ (Below.refl _ _),HbZQ.out,by have h:=Hfo2.out;rw [Hlk2.out] at h;exact h⟩
          case measure=>simp [intOf] <;> omega
        ·obtain rfl : j=TT.length:=by omega
         have hfin:=hfo.out
         rw [List.drop_of_length_le (Nat.le_refl _),List.foldl_nil] at hfin
         subst hfin
         have HbX2:=Z5 (Below.next hbY hbYR)
         clear hfo
         go_wp2_with fail
         go_roundw
         case rel=>exact ⟨t+1,ab2,cb2,B2,by omega,by go_num,rfl,hb2,HbX2.out,Hfold2.out⟩
         case measure=>simp [intOf] <;> omega
      ·obtain rfl : t=i:=by omega
       have hfin:=hfold.out
       rw [List.drop_of_length_le (by rw [Hkf.out];exact Nat.le_refl _),List.foldl_nil] at hfin
       obtain ⟨fl,hfl⟩ : ∃fl,flTo (n : Int) ((W1 : Int)+1) (T.map (·.2)) (T.map (·.2)).length=fl:=⟨_,rfl⟩
       have hflV : uE (n : Int) (T.map (·.2)) ((W1 : Int)+1)=(fl,0):=by
        have h1:=EJ HE.out (v:=(W1 : Int)+1) (by rw [Hln.out];omega) (by rw [Hln.out];exact hn64)
        rw [<- HT.out,Hln.out,hfl] at h1;exact h1
       have hVY:=Below.next hVX (Below.next HX2.out hbY)
       have hflo:=wN (n : Int) ak t ck (T.map (·.2)) ((W1 : Int)+1) Y (HrkV.out.ah hVY)
       rw [hflV] at hflo
       have Hflo:=Z5 hflo
       obtain ⟨zt,hzt⟩ : ∃zt,bw B'=zt:=⟨_,rfl⟩
       have hRes : (if fl > (zt : Int) then (o ++ [[(W1 : Int)+1,((kk+rn : Nat) : Int),(zt : Int),fl]],B',(0 : Int)) else srS (aa P M.toNat mod).ops q m n (gR P M mod m L) (T.map (·.2)) f (W1+1+1) B' (kk+rn) (o ++ [[(W1 : Int)+1,((kk+rn : Nat) : Int),(zt : Int),fl]]))=RES:=by
        have h9:=Hres2.out
        rw [<- hfin,show ((W1+1 : Nat) : Int)=(W1 : Int)+1 by omega,hfl,hzt] at h9
        exact h9
       have hbst:=hbst.out
       have hHWt : ∀X',Below Y.heap.size Y X'->Calls Tryz.prog 20 #[.slice ab' B'.length cb'] X' λe w'=>e = .returned (.int .i64 (zt : Nat))/\w'=X':=λX' hX=>by
        rw [<- hzt];exact gv ab' B'.length cb' B' X' (hbst.ints.ah hX)
       have HWt:=Z5 hHWt
       have Hzt:=Z5 hzt
       have HRes:=Z5 hRes
       have HVY:=Z5 hVY
       have Hbst:=Z5 hbst
       have howY : Y.ownsRow V.heap.size 62 4 (.slice ao o.length co) o.length (rdV o):=jF howo.out λh1=>(Below.next HX2.out hbY).block _ (gz howo.out h1).2
       have HoY : Hid ((Y.alloc (.cells #[.int .i64 ((W1 : Int)+1),.int .i64 ((kk : Int)+(rn : Int)),.int .i64 (zt : Nat),.int .i64 fl] 62)).ownsRow V.heap.size 62 4 (.slice ao o.length co) o.length (rdV o)):=jF howY λh1=>(an Y _).block _ (gz howY h1).2
       have hq4 : aV (Y.alloc (.cells #[.int .i64 ((W1 : Int)+1),.int .i64 ((kk : Int)+(rn : Int)),.int .i64 (zt : Nat),.int .i64 fl] 62)) Y.heap.size [.int .i64 ((W1 : Int)+1),.int .i64 ((kk : Int)+(rn : Int)),.int .i64 (zt : Nat),.int .i64 fl]:=aV.new Y _ _ rfl
       have HQ4:=Z5 hq4
       have hVYs:=hVY.size
       clear hfin hfl hflV hflo hzt hRes hHWt hVY howY hq4 hfold Hres2 c0 c1 c2 c3 c4 hbst
       go_wp2_with fail
       refine Hflo.out.mono ?_
       rintro e w' ⟨rfl,hw'⟩
       obtain rfl:=hw'.symm
       go_upto_region 36 with (first | (go_at_call 20;refine (HWt.out _ (Below.refl _ _)).mono ?_;rintro e w' ⟨rfl,hw'⟩;obtain rfl:=hw'.symm) | (at_builtin;refine xJ rfl _ _ 30 62 rfl (.agg #[.int .i64 0,.int .i64 0,.int .i64 0,.int .i64 0]) 32 Tryz.underlying30 CS rfl V.heap.size ao o.length co (rdV o) rfl HoY.out Y.heap.size 1 (.int .i64 ((W1 : Int)+1)) (.int .i64 ((kk : Int)+(rn : Int))) (.int .i64 (zt : Nat)) (.int .i64 fl) rfl (HQ4.out.cell 0 rfl) (HQ4.out.cell 1 rfl) (HQ4.out.cell 2 rfl) (HQ4.out.cell 3 rfl) (by intro u hu;simp at hu;rcases hu with rfl | rfl | rfl | rfl <;> rfl) (by omega) (by unfold maxLen;omega) (by simp;omega) ?_;intro a5 c5 w6 hown6 hgr6 hap6))
       have hbst6 : mz w6 V.heap.size a5 ab' cb' m B':=Hbst.out.push hm1 (an Y _) hgr6 hap6
       have hbV6 : Below V.heap.size V w6:=(Below.next HVY.out (an Y _)).grown hgr6 (by simp;omega) λk hk=>(HoY.out.lt k hk).1
       have HrV : Hid (rdV o ++ [.int .i64 ((W1 : Int)+1),.int .i64 ((kk : Int)+(rn : Int)),.int .i64 (zt : Nat),.int .i64 fl]=rdV (o ++ [[(W1 : Int)+1,((kk+rn : Nat) : Int),(zt : Int),fl]])):=by
        show _=_
        rw [yo]
        simp [nth]
       have HoL : Hid ((o ++ [[(W1 : Int)+1,((kk+rn : Nat) : Int),(zt : Int),fl]]).length=o.length+1):=by show _=_;simp
       rw [HrV.out] at hown6
       have hRes:=HRes.out
       have hW6:=gv ab' B'.length cb' B' w6 hbst6.ints
       rw [Hzt.out] at hW6
       obtain ⟨o2,ho2⟩ : ∃o2,o ++ [[(W1 : Int)+1,((kk+rn : Nat) : Int),(zt : Int),fl]]=o2:=⟨_,rfl⟩
       rw [ho2] at hRes hown6 HoL HrV
       have HW6:=Z5 hW6
       have Hown6:=Z5 hown6
       have Hbst6:=Z5 hbst6
       have HbV6:=Z5 hbV6
       have hmb2:=hmb
       clear hown6 hbst6 hbV6 hgr6 hap6 ho2 hW6 HRes HWt
       go_wp2_with fail
       refine HW6.out.mono ?_
       rintro e w' ⟨rfl,hw'⟩
       obtain rfl:=hw'.symm
       by_cases hst : (zt : Int)<fl
       ·have hd : decide ((zt : Int)<fl)=true:=decide_eq_true hst
        rw [if_pos hst] at hRes
        have HR9 : Hid (dq P M mod m L=(o2,B',0)):=by show _=_;rw [HRES.out,<- hRes]
        have hF:=Below.next HbW.out (Below.next hb1V HbV6.out)
        clear hRes hst
        go_wp2_with fail
        go_ret3
        exact xI HR9.out hF HoL.out Hown6.out Hbst6.out.ints (Below.refl _ _)
       ·have hd : decide ((zt : Int)<fl)=false:=decide_eq_false hst
        rw [if_neg hst] at hRes
        have HRes:=Z5 hRes
        have hfw : n - (W1+1)=f:=by have:=Hf.out;omega
        have Hfw:=Z5 hfw
        clear hRes hst hfw
        go_wp2_with fail
        go_roundw
        case rel=>exact ⟨W1+1,a5,c5,o2,ab',cb',B',kk+rn,by omega,by go_num,by go_num,by rw [HoL.out],rfl,by rw [HoL.out];exact Hown6.out,Hbst6.out,by omega,by rw [HoL.out];omega,HbV6.out,by show srS _ _ _ _ _ _ (n - (W1+1)) _ _ _ _=_;rw [Hfw.out,Hq.out];exact HRes.out⟩
        case measure=>simp [intOf] <;> omega
    ·obtain rfl : W1=n:=by omega
     have hres3:=hres.out
     rw [Nat.sub_self,srS] at hres3
     have HR9 : Hid (dq P M mod m L=(o,B,0)):=by show _=_;rw [HRES.out,<- hres3]
     have d1 : decide ((W1 : Int)+1<=(W1 : Int))=false:=by simp;omega
     have hF:=Below.next HbW.out hbWX
     clear hres3
     go_wp2_with fail
     go_ret3
     exact xI HR9.out hF rfl howo.out hbest.out.ints (Below.refl _ _)
theorem Cn (O : aQ) (q m k : Nat) (sys : List Ll) (rks : Lz) : ∀(f w : Nat) (b : Lz) (n : Nat) (o : Ll),(srS O q m k sys rks f w b n o).1.length<=o.length+f
 | 0,_,_,_,_=>Nat.le_refl _
 | f+1,w,b,n,o=>by
  rw [srS]
  split
  ·split
   ·simp <;> omega
   ·refine Nat.le_trans (Cn O q m k sys rks f _ _ _ _) ?_
    simp <;> omega
  ·simp
theorem Ij (P M : Int) (mod : Lz) (N : Int) (L : Ll) : (dq P M mod N L).1.length<=64:=by
 unfold dq
 split
 ·simp
 ·rename_i h
  have hE : aL P M mod N L=0:=Decidable.byContradiction h
  split
  ·simp
  ·obtain ⟨m,rfl,hm1,hm64,_,_⟩:=ba hE
   have h1:=kt hE
   refine Nat.le_trans (Cn _ _ _ _ _ _ _ _ _ _ _) ?_
   simp <;> omega
theorem s9 (P M : Int) (am : OA) (mn cm : Nat) (mod : Lz) (N : Int) (a : OA) (n c : Nat) (L : Ll) (w : World) (hmod : Ints w am mn mod) (hi : bZ w a n L) :
  Calls Tryz.prog 3 #[.agg #[.int .i64 P,.int .i64 M,.slice am mn cm,.int .i64 N,.slice a n c]] w λe w'=>e = .returned (.bool true)/\Below w.heap.size w w':=by
 have HSm:=Z5 (λV (hV : Below w.heap.size w V)=>mf P M am mn cm mod N a n c L V (hmod.ah hV) (hi.ah hV))
 have H1:=Z5 (λV (hV : Below w.heap.size w V)=>rD P M am mn cm mod N a n c L V (hmod.ah hV) (hi.ah hV))
 have H2:=Z5 (λV (hV : Below w.heap.size w V)=>uR P M am mn cm mod N a n c L V (hmod.ah hV) (hi.ah hV))
 have H3:=Z5 (λV (hV : Below w.heap.size w V)=>gE P M am mn cm mod N a n c L V (hmod.ah hV) (hi.ah hV))
 have H4:=Z5 (λV (hV : Below w.heap.size w V)=>kX P M am mn cm mod N a n c L V (hmod.ah hV) (hi.ah hV))
 have hlen:=Ij P M mod N L
 unfold gY at H2
 obtain ⟨⟨o,b,er⟩,hr⟩ : ∃r,dq P M mod N L=r:=⟨_,rfl⟩
 rw [hr] at H1 H2 H3 H4 hlen
 dsimp only at H1 H2 H3 H4 hlen
 obtain ⟨d,hd⟩ : ∃d,bw b=d:=⟨_,rfl⟩
 rw [hd] at H3
 have Hd:=Z5 hd
 clear hmod hi hr hd
 go_enter Tryz.func3,Tryz.ntmps3
 go_upto_region 1 with fail
 obtain ⟨W,hW⟩ : ∃W : World,W=w.alloc (.cells #[.int .i64 P,.int .i64 M,.slice am mn cm,.int .i64 N,.slice a n c] 27):=⟨_,rfl⟩
 rw [<- hW]
 have hbW : Below w.heap.size w W:=by rw [hW];exact an _ _
 have x0 : aV W w.heap.size [.int .i64 P,.int .i64 M,.slice am mn cm,.int .i64 N,.slice a n c]:=by rw [hW];exact aV.new _ _ _ rfl
 have HS : Hid (∀V,Below W.heap.size W V->V.cell? ⟨w.heap.size,0,none⟩=some (.int .i64 P)/\V.cell? ⟨w.heap.size,1,none⟩=some (.int .i64 M)/\V.cell? ⟨w.heap.size,2,none⟩=some (.slice am mn cm)/\V.cell? ⟨w.heap.size,3,none⟩=some (.int .i64 N)/\V.cell? ⟨w.heap.size,4,none⟩=some (.slice a n c)):=λV hV=>by
  have x1:=x0.ah hV
  exact ⟨x1.cell 0 rfl,x1.cell 1 rfl,x1.cell 2 rfl,x1.cell 3 rfl,x1.cell 4 rfl⟩
 have HbW:=Z5 hbW
 clear hW x0 hbW
 go_wp2_with fail
 refine (ky W).mono ?_
 rintro e w1 ⟨rfl,hb1⟩
 obtain ⟨c0,c1,c2,c3,c4⟩:=HS.out w1 hb1
 go_wp2_with fail
 refine (HSm.out w1 (Below.next HbW.out hb1)).mono ?_
 rintro e w2 ⟨z,rfl,_,hb2⟩
 have hB2:=Below.next hb1 hb2
 clear c0 c1 c2 c3 c4
 cases z
 ·go_wp2_with fail
  refine (ky w2).mono ?_
  rintro e w3 ⟨rfl,hb3⟩
  have hF:=Below.next HbW.out (Below.next hB2 hb3)
  go_wp2_with fail
  go_ret
  exact ⟨rfl,hF⟩
 obtain ⟨c0,c1,c2,c3,c4⟩:=HS.out w2 hB2
 go_wp2_with fail
 refine (H1.out w2 (Below.next HbW.out hB2)).mono ?_
 rintro e w3 ⟨a1,n1,k1,rfl,h1,hb3⟩
 have hB3:=Below.next hB2 hb3
 have Q1:=Z5 h1
 clear c0 c1 c2 c3 c4 h1
 obtain ⟨c0,c1,c2,c3,c4⟩:=HS.out w3 hB3
 go_wp2_with fail
 refine (H2.out w3 (Below.next HbW.out hB3)).mono ?_
 rintro e w4 ⟨hb4,a2,n2,k2,a3,n3,k3,rfl,h2,h3⟩
 have hB4:=Below.next hB3 hb4
 have Q2:=Z5 (And.intro h2 h3)
 clear c0 c1 c2 c3 c4 h2 h3
 obtain ⟨c0,c1,c2,c3,c4⟩:=HS.out w4 hB4
 go_wp2_with fail
 refine (H3.out w4 (Below.next HbW.out hB4)).mono ?_
 rintro e w5 ⟨rfl,hb5⟩
 have hB5:=Below.next hB4 hb5
 clear c0 c1 c2 c3 c4
 obtain ⟨c0,c1,c2,c3,c4⟩:=HS.out w5 hB5
 go_wp2_with fail
 refine (H4.out w5 (Below.next HbW.out hB5)).mono ?_
 rintro e w6 ⟨a4,n4,k4,rfl,h4,hb6⟩
 have hB6:=Below.next hB5 hb6
 have R1:=(Q1.out.ah (Below.next hb4 (Below.next hb5 hb6)))
 have R2:=(Q2.out.1.ah (Below.next hb5 hb6))
 have R3:=(Q2.out.2.ah (Below.next hb5 hb6))
 have hl1:=R1.len
 have Hs1:=Z5 (oc a1 n1 k1 o a2 n2 k2 w6 R1 R2 (by omega))
 have Hs2:=Z5 (λV (hV : Below w6.heap.size w6 V)=>iJ a3 n3 k3 b a4 n4 k4 b (w:=V) (R3.ah hV) (h4.ah hV))
 have Hs3:=Z5 (λV (hV : Below w6.heap.size w6 V)=>gv a3 n3 k3 b V (R3.ah hV))
 rw [show decide (b=b)=true from decide_eq_true rfl] at Hs2
 rw [Hd.out] at Hs3
 have e1 : (er != er)=false:=by simp
 have e2 : ((d : Int) == (d : Int))=true:=by simp
 have HF6:=Z5 (Below.next HbW.out hB6)
 clear c0 c1 c2 c3 c4 R1 R2 R3 h4 hl1 hb3 hb4 hb5 hb6
 go_wp2_with fail
 refine Hs1.out.mono ?_
 rintro e w7 ⟨rfl,hb7⟩
 go_wp2_with fail
 refine (Hs2.out w7 hb7).mono ?_
 rintro e w8 ⟨rfl,r8⟩
 have hb8:=Below.next hb7 r8.below
 clear r8
 go_wp2_with fail
 refine (Hs3.out w8 hb8).mono ?_
 rintro e w' ⟨rfl,hw'⟩
 obtain rfl:=hw'.symm
 have hF:=Below.next HF6.out hb8
 go_wp2_with fail
 go_ret
 exact ⟨rfl,hF⟩
end Go.Proofs.YtcfmiocdlcapoaaGreat
