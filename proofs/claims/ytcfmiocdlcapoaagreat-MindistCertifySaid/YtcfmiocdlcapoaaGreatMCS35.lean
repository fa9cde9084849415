import Derived.Test.YtcfmiocdlcapoaaGreatMCS34
import Derived.Test.YtcfmiocdlcapoaaGreatMCS30
namespace Go.Proofs.YtcfmiocdlcapoaaGreat
set_option linter.all false
set_option maxRecDepth 100000
set_option maxHeartbeats 16000000
open Go.RowKit Go.Proofs.Tryz
section
variable {P M : Int} {mod : Lz} {m : Nat} {L : Ll}
theorem AX (hE : aJ P M mod m L=0) {t : Lz × Int} (ht : t ∈ eo (ah P M.toNat mod).ops L m) {l : Nat} {y : Lz} (hy : y ∈ gW (ah P M.toNat mod).ops (de (ah P M.toNat mod).q) [1] (l+1) (dk (ah P M.toNat mod).ops m L t.1) (List.replicate m 0)) : CW P M mod m L y:=by have hall:=dQ (eH hE).1 t ht;exact ((mU hE hall.1 hall.2.1).1 hy).1
theorem Fy (hE : aJ P M mod m L=0) (l : Nat) (b : Lz) (hb : b=[]\/bK b ≠ 0) :
  (eo (ah P M.toNat mod).ops L m).foldl (λb t=>(gW (ah P M.toNat mod).ops (de (ah P M.toNat mod).q) [1] (l+1) (dk (ah P M.toNat mod).ops m L t.1) (List.replicate m 0)).foldl (iI (ah P M.toNat mod).ops) b) b =
   lP (ah P M.toNat mod).ops (ah P M.toNat mod).q m (l+1) (gF P M mod m L) b:=by
 obtain ⟨N',e,hm1,hm64,F,hR⟩:=br hE;obtain rfl : m=N':=by omega
 unfold lP gF;rw [List.foldl_map,lF,lF];refine xW F (m:=m) _ b hb λy hy=>?_;obtain ⟨t,ht,hy⟩:=List.mem_flatMap.1 hy;have h:=AX hE ht hy;exact ⟨h.1,h.2.2⟩
end
def kC (w : World) (B0 : Nat) (ao ab : OA) (cb m : Nat) (B : Lz) : Prop:=(B=[]/\ab=none/\cb=0)\/(B.length=m/\bK B ≠ 0/\ab ≠ none/\(ao ≠ none->aj ab ≠ aj ao)/\w.ownsRow B0 3 1 (.slice ab m cb) m (B.map (Value.int .i64)))
theorem kC.ints {w : World} {B0 : Nat} {ao ab : OA} {cb m : Nat} {B : Lz} (h : kC w B0 ao ab cb m B) : Ints w ab B.length B:=by
 rcases h with ⟨rfl,rfl,rfl⟩ | ⟨h1,_,_,_,h2⟩
 ·exact Nr _ _
 ·rw [h1];exact (Ni h2).1
theorem kC.aa {w w' : World} {B0 : Nat} {ao ab : OA} {cb m : Nat} {B : Lz} (h : kC w B0 ao ab cb m B) (hb : NS w w') : kC w' B0 ao ab cb m B:=by
 rcases h with h | ⟨h1,h2,h3,h4,h5⟩
 ·exact .inl h
 ·exact .inr ⟨h1,h2,h3,h4,aX h5 hb⟩
theorem kC.ne {w : World} {B0 : Nat} {ao ab : OA} {cb m : Nat} {B : Lz} (h : kC w B0 ao ab cb m B) : B=[]\/bK B ≠ 0:=by
 rcases h with ⟨h,_⟩ | ⟨_,h,_⟩
 ·exact .inl h
 ·exact .inr h
theorem uG {P : Program} {w : World} {ops : Array Oper} {rest : List Oper} {o : Oper} {ac : Act} {Q : Exit->Act->World->Prop}
  (hg : o.guard=none) (s x : Operand) (t e : TypeId) (hop : o.op = .call { callee:=.builtin .append,args:=#[s,x],argTypes:=#[t,t] }) (z : Value) (bytes : Nat)
  (h1 : P.underlying t=some (.slice e)) (h2 : (P.info? e).map (λi=>(i.zero,i.size,i.bytes))=some (some z,4,bytes)) (hz : z.cells.size=4)
  (B : Nat) (a : OA) (n c : Nat) (xs : List Value) (hs : ac.eval s = .slice a n c) (hown : w.ownsRow B e 4 (.slice a n c) n xs)
  (g cc : Nat) (u0 u1 u2 u3 : Value) (hx : ac.eval x = .slice (some ⟨g,0,none⟩) 1 cc) (hu0 : w.cell? ⟨g,0,none⟩=some u0) (hu1 : w.cell? ⟨g,1,none⟩=some u1) (hu2 : w.cell? ⟨g,2,none⟩=some u2) (hu3 : w.cell? ⟨g,3,none⟩=some u3)
  (h1c : ∀u ∈ [u0,u1,u2,u3],u.oneCell'=true)
  (b2 : (n+1) * bytes<=140737488355328) (b3 : n+1<=maxLen) (hB : B<=w.heap.size)
  (hK : ∀a' c' w',w'.ownsRow B e 4 (.slice a' (n+1) c') (n+1) (xs ++ [u0,u1,u2,u3])->w.grownBy w' (Value.slice a n c).ownBlock->(∀b,b<w.heap.size->cJ a b->cJ a' b)->wpList P ops Q rest (ac.put o.dst (.slice a' (n+1) c')) w') :
  wpList P ops Q (o :: rest) ac w:=by
 obtain ⟨i,hi,hz0,hz1,hz2⟩ : ∃i,P.info? e=some i/\i.zero=some z/\i.size=4/\i.bytes=bytes:=by
  cases hp : P.info? e with
  | none=>rw [hp] at h2;cases h2
  | some i=>rw [hp] at h2;simp at h2;exact ⟨i,rfl,h2.1,h2.2.1,h2.2.2⟩
 refine wpList_append_own_at w hg s x t hop B e i z 4 bytes h1 hi hz0 hz1 hz2 hz (by decide) _ n xs hs hown ⟨g,0,none⟩ 1 cc [u0,u1,u2,u3] hx rfl ?_ h1c b3 b2 hB λv' w' hown' hgr _ hat=>?_
 ·intro j y hj;match j,hj with
  | 0,hj=>simp at hj;subst hj;simpa [Addr.add] using hu0
  | 1,hj=>simp at hj;subst hj;simpa [Addr.add] using hu1
  | 2,hj=>simp at hj;subst hj;simpa [Addr.add] using hu2
  | 3,hj=>simp at hj;subst hj;simpa [Addr.add] using hu3
 ·obtain ⟨a',c',rfl⟩ : ∃a' c',v' = .slice a' (n+1) c':=by
   rcases hown'.2 with ⟨_,h0⟩ | ⟨g',cap,cur,rfl,_⟩
   ·omega
   ·exact ⟨_,cap,rfl⟩
  refine hK a' c' w' hown' hgr λb hb hapt=>?_;have h:=hapt.own n c;rcases hat with h3 | h3
  ·exact NQ (n:=n+1) (c:=c') (by rw [h3];exact h)
  ·exact NQ (n:=n+1) (c:=c') (by rw [h3];intro h4;cases h4;omega)
theorem kC.push {Y Z0 w6 : World} {B0 : Nat} {ao a5 ab : OA} {cb m k co : Nat} {B : Lz} (h : kC Y B0 ao ab cb m B) (hm : 1<=m) (hb : NS Y Z0) (hg : Z0.grownBy w6 (Value.slice ao k co).ownBlock) (hap : ∀b,b<Z0.heap.size->cJ ao b->cJ a5 b) : kC w6 B0 a5 ab cb m B:=by
 rcases h with h | ⟨h1,h2,h3,h4,h5⟩
 ·exact .inl h
 ·have hlt:=(fO h5 h3).2;have hs:=hb.size;have ha : cJ ao (aj ab):=by
   by_cases e : ao=none
   ·exact .inl e
   ·exact .inr λe2=>h4 e e2.symm
  refine .inr ⟨h1,h2,h3,λhn e=>?_,?_⟩
  ·rcases hap _ (by omega) ha with h6 | h6
   ·exact hn h6
   ·exact h6 e.symm
  ·exact iT (aX h5 hb) λ_=>hg.block _ (by omega) λe=>ha.own _ _ e.symm
theorem E4 {X w7 : World} {t : TypeId} (hb : Below (X.alloc (.cells #[.int .i64 0,.slice none 0 0] t)).drew.heap.size (X.alloc (.cells #[.int .i64 0,.slice none 0 0] t)).drew w7) :
  w7.cell? ⟨X.heap.size,0,none⟩=some (.int .i64 0)/\w7.cell? ⟨X.heap.size,1,none⟩=some (.slice none 0 0)/\w7.frozen? ⟨X.heap.size,0,none⟩=false/\w7.frozen? ⟨X.heap.size,1,none⟩=false:=by have x7:=(Nj X [.int .i64 0,.slice none 0 0] t rfl).aa (Nh (I1 _ _).drew hb);exact ⟨x7.cell 0 rfl,x7.cell 1 rfl,x7.frozen 0,x7.frozen 1⟩
theorem Fc {X w7 : World} {t : TypeId} {m n c9 : Nat} {a9 : OA} {S : Ll} (hb : Below (X.alloc (.cells #[.int .i64 0,.slice none 0 0] t)).drew.heap.size (X.alloc (.cells #[.int .i64 0,.slice none 0 0] t)).drew w7)
  (hM : cH (X.alloc (.cells #[.int .i64 0,.slice none 0 0] t)).drew.heap.size w7 a9 n S) :
  ((w7.setCell ⟨X.heap.size,0,none⟩ (.int .i64 m)).setCell ⟨X.heap.size,1,none⟩ (.slice a9 n c9)).cell? ⟨X.heap.size,1,none⟩=some (.slice a9 n c9)/\Hid (ch ((w7.setCell ⟨X.heap.size,0,none⟩ (.int .i64 m)).setCell ⟨X.heap.size,1,none⟩ (.slice a9 n c9)) a9 n S) /\
   NS X ((w7.setCell ⟨X.heap.size,0,none⟩ (.int .i64 m)).setCell ⟨X.heap.size,1,none⟩ (.slice a9 n c9)):=by
 have hsz : (X.alloc (.cells #[.int .i64 0,.slice none 0 0] t)).drew.heap.size=X.heap.size+1:=by show (X.alloc (.cells #[.int .i64 0,.slice none 0 0] t)).heap.size=_;simp
 have hb0 : NS X w7:=Ju (aw X _).drew (hb.mono (by omega));have x7:=(Nj X [.int .i64 0,.slice none 0 0] t rfl).aa (Nh (I1 _ _).drew hb);refine ⟨((x7.gv 0 (.int .i64 m)).gv 1 (.slice a9 n c9)).cell 1 rfl,?_,(hb0.setCell (IZ _) _).setCell (IZ _) _⟩;show ch _ _ _ _;rw [hsz] at hM;exact ((hM.setCell (by show X.heap.size<_;omega) _).setCell (by show X.heap.size<_;omega) _).l7
theorem si (P M : Int) (am : OA) (mn cm : Nat) (mod : Lz) (N : Int) (a : OA) (n c : Nat) (L : Ll) (w : World) (hmod : Ints w am mn mod) (hi : ch w a n L) :
  Calls prog 15 #[.agg #[.int .i64 P,.int .i64 M,.slice am mn cm,.int .i64 N,.slice a n c]] w (gq P M mod N L w):=by
 have HFa : Hid (∀V,NS w V->Calls prog 48 #[.agg #[.int .i64 P,.int .i64 M,.slice am mn cm,.int .i64 N,.slice a n c]] V (ko P M mod N L V)):=λV hV=>sI P M am mn cm mod N a n c L V (hmod.aa hV) (hi.aa hV);have Hln:=Z5 hi.len;have Hmi:=Z5 (Jg hmod hi);clear hmod hi;go_enter func15,ntmps15;go_upto_region 1 with fail;obtain ⟨W,hW⟩ : ∃W : World,W=w.alloc (.cells #[.int .i64 P,.int .i64 M,.slice am mn cm,.int .i64 N,.slice a n c] 27):=⟨_,rfl⟩
 rw [<- hW];have hbW : NS w W:=by rw [hW];exact aw _ _
 have x0 : aZ W w.heap.size [.int .i64 P,.int .i64 M,.slice am mn cm,.int .i64 N,.slice a n c]:=by rw [hW];exact Nj _ _ _ rfl
 have HS : Hid (∀V,NS W V->V.cell? ⟨w.heap.size,0,none⟩=some (.int .i64 P)/\V.cell? ⟨w.heap.size,1,none⟩=some (.int .i64 M)/\V.cell? ⟨w.heap.size,2,none⟩=some (.slice am mn cm)/\V.cell? ⟨w.heap.size,3,none⟩=some (.int .i64 N)/\V.cell? ⟨w.heap.size,4,none⟩=some (.slice a n c)):=λV hV=>by have x1:=x0.aa hV;exact ⟨x1.cell 0 rfl,x1.cell 1 rfl,x1.cell 2 rfl,x1.cell 3 rfl,x1.cell 4 rfl⟩
 have HbW:=Z5 hbW;have HFaW:=Z5 (HFa.out W hbW);clear hW x0 hbW HFa;obtain ⟨c0,c1,c2,c3,c4⟩:=HS.out W (I1 _ _);go_wp2_with fail;refine HFaW.out.mono ?_;rintro e w1 ⟨hb1,⟨hE,rfl⟩ | ⟨hE,m,rfl,kf,af,cf,Rf,T,hT,rfl,hO⟩⟩
 ·have hE2 : (aJ P M mod N L != 0)=true:=by simpa using hE
  have HR : Hid (df P M mod N L=([],[],aJ P M mod N L)):=by show _=_;unfold df;rw [I6 hE]
  have hF:=Nh HbW.out hb1;clear hE HFaW;generalize aJ P M mod N L=er at *;go_wp2_with fail;go_ret3;exact og HR.out hF
 clear c0 c1 c2 c3 c4 HFaW;obtain ⟨c0,c1,c2,c3,c4⟩:=HS.out w1 hb1;by_cases hn0 : n=0
 ·subst hn0;have HR : Hid (df P M mod m L=([],[],11)):=by show _=_;unfold df;rw [I5 (by rw [hE];decide),I6 Hln.out]
  have hF:=Nh HbW.out hb1;clear hE hO;go_wp2_with fail;go_ret3;exact og HR.out hF
 obtain ⟨m',em,hm1,hm64,F,hR⟩:=br hE;obtain rfl : m=m':=by omega
 have hn64 : n<=64:=by have:=vF hE;have:=Hln.out;omega
 have hL1 : 1<=L.length:=by have:=Hln.out;omega
 have hSt:=hO.str;have hall:=λt ht=>dQ (eH hE).1 t ht;have hTl:=(eH hE).2;have hne:=vL hE hL1;rw [<- hT] at hall hTl hne;have hkf : T.length=kf:=hO.tl;have hord : aN P M=((ah P M.toNat mod).q : Int):=by obtain ⟨m1,e1,_,h1,_⟩:=fU (bl hE).1;rw [show M.toNat=m1 by omega];exact h1.symm
 obtain ⟨_,hq2,hq256⟩:=Bm hE;have HOr : Hid (∀V,Calls prog 45 #[.agg #[.int .i64 P,.int .i64 M,.slice am mn cm]] V λe w'=>e = .returned (.int .i64 ((ah P M.toNat mod).q : Nat))/\NS V w'):=λV=>by rw [<- hord];exact fW P M am mn cm V
 have HSy : Hid (∀t ∈ T,∀V sa Sn sc,NS w V->Ints V sa Sn t.1->Calls prog 50 #[.agg #[.int .i64 P,.int .i64 M,.slice am mn cm,.int .i64 m,.slice a n c],.slice sa Sn sc] V λe w'=>∃a1 c1,e = .returned (.tuple #[.agg #[.int .i64 m,.slice a1 n c1],.int .i64 0])/\cH V.heap.size w' a1 n (dk (ah P M.toNat mod).ops m L t.1)/\NS V w'):=λt ht V sa Sn sc hV hI=>by
  obtain ⟨t1,t2,_,_⟩:=hall t ht;refine (nA P M am mn cm mod m a n c L sa Sn sc t.1 V (λk m a1 c1 A V h1 h2 h3 h4 h5 h6 h7 h8 h9=>?_) (Hmi.out.1.aa hV) (Hmi.out.2.aa hV) hI).mono ?_
  ·exact zl P M am mn cm mod k a1 k c1 A m a c L V h1 h2 h3 h4 h5 h6 h7 h8 h9 h7
  rintro e w' ⟨hb,⟨h1,_⟩ | ⟨_,m2,e2,a1,c1,rfl,hM⟩⟩
  ·exact absurd (wo hE t1 t2) h1
  ·obtain rfl : m=m2:=by omega
   rw [Hln.out] at hM ⊢;exact ⟨a1,c1,rfl,hM,hb⟩
 have hn1 : ((n : Int) == 0)=false:=by simp;omega
 have hkl : kf<=64:=by omega
 have HE:=Z5 hE;have HT:=Z5 hT;have Hkf:=Z5 hkf;have Hne:=Z5 hne;have HSt:=Z5 hSt;have HF:=Z5 F;have hplF:=hSt.pl;clear hE hT hkf hne hO hSt hall hTl F hR hord em;go_wp2_with fail;go_loopw [8,9] (λrv iv wr=>∃(i : Nat) (ak : OA) (ck : Nat),i<=kf/\iv = .int .i64 i/\rv = .slice ak i ck/\Hid (wr.ownsRow w1.heap.size 3 1 (.slice ak i ck) i (((T.take i).map (·.2)).map (Value.int .i64)))/\NS w1 wr) (λ_ iv _=>kf - (intOf iv).toNat);case atStart=>exact ⟨0,none,0,I7 _,rfl,rfl,by show World.ownsRow _ _ _ _ _ _ _;exact bX,I1 _ _⟩
 case round =>
  obtain ⟨i,ak,ck,hik,rfl,rfl,hown,hbr⟩:=hrel
  generalize wr=V at *
  by_cases hlt : i<kf
  ·have hiT : i<T.length:=by rw [Hkf.out];exact hlt
   obtain ⟨sa,sc,_,p1,_⟩:=(HSt.out.aa hbr).cell i hiT
   have Htk : Hid (((T.take (i+1)).map (·.2)).map (Value.int .i64)=((T.take i).map (·.2)).map (Value.int .i64) ++ [.int .i64 T[i].2]):=by show _=_;rw [Ja hiT,JR,JR];rfl
   obtain ⟨r,hr⟩ : ∃r,T[i].2=r:=⟨_,rfl⟩
   rw [hr] at p1 Htk
   have hop8:=aX hown.out (aw V (.cells #[.int .i64 r] 3))
   have hcn:=bk V (.int .i64 r) 3
   have hbn:=aw V (.cells #[.int .i64 r] 3)
   have hsz:=hbr.size
   have hsz8 : w1.heap.size<=(V.alloc (.cells #[.int .i64 r] 3)).heap.size:=by simp;omega
   clear hr hown c0 c1 c2 c3 c4
   go_wp2_with (at_builtin;refine bg rfl _ _ 22 3 rfl (.int .i64 0) 8 underlying22 ba rfl w1.heap.size ak i ck _ rfl hop8 ⟨V.heap.size,0,none⟩ 1 (.int .i64 r) rfl hcn rfl (by omega) (by unfold maxLen;omega) hsz8 ?_;intro a5 c5 w5 hown5 hgr5 hap5)
   go_roundw
   case rel =>
    refine ⟨i+1,a5,c5,by omega,by go_num,rfl,?_,Nk (Ju hbr (hbn.mono hsz)) hop8 hgr5 (IZ _) hsz8⟩
    show World.ownsRow _ _ _ _ _ _ _
    rw [Htk.out]
    exact hown5
   case measure=>simp [intOf] <;> omega
  ·obtain rfl : i=kf:=by omega
   have hrk:=(Ni (l:=T.map (·.2)) (by have h1:=hown.out;rwa [I8 (by rw [Hkf.out];exact IZ _)] at h1)).1
   have HrkV:=Z5 hrk
   have hplk:=hrk.pl
   have hi1 : 1<=i:=by
    rcases JS i with h | h
    ·exact absurd (Jp (by rw [Hkf.out];exact h)) Hne.out
    ·exact h
   obtain ⟨RES,hRES⟩ : ∃RES,df P M mod m L=RES:=⟨_,rfl⟩
   have hRES2 : wq (ah P M.toNat mod).ops (ah P M.toNat mod).q m n (gF P M mod m L) (T.map (·.2)) n 1 [] 0 []=RES:=by rw [<- hRES];unfold df;rw [I5 (by rw [HE.out];decide),I5 (by rw [Hln.out];omega),Jd,Hln.out,HT.out]
   have HRES:=Z5 hRES
   have hb1V:=Nh hb1 hbr
   have hfml : (gF P M mod m L).length=i:=by unfold gF;rw [Jl,<- HT.out,Hkf.out]
   have Hfml:=Z5 hfml
   clear hown hrk hRES hfml c0 c1 c2 c3 c4
   go_wp2_with fail
   go_loopw [10,11,12,13] (λov bv kv wv wr=>∃(W1 : Nat) (ao : OA) (co : Nat) (o : Ll) (ab : OA) (cb : Nat) (B : Lz) (kk : Nat),W1<=n/\wv = .int .i64 ((W1 : Int)+1)/\kv = .int .i64 kk/\ov = .slice ao o.length co/\bv = .slice ab B.length cb /\
     Hid (wr.ownsRow V.heap.size 62 4 (.slice ao o.length co) o.length (rW o))/\Hid (kC wr V.heap.size ao ab cb m B)/\kk<=65536/\o.length<=W1/\NS V wr /\
     Hid (wq (ah P M.toNat mod).ops (ah P M.toNat mod).q m n (gF P M mod m L) (T.map (·.2)) (n - W1) (W1+1) B kk o=RES)) (λ_ _ _ wv _=>n+1 - (intOf wv).toNat)
   case atStart=>exact ⟨0,none,0,[],none,0,[],0,I7 _,rfl,rfl,rfl,rfl,⟨rfl,.inl ⟨rfl,rfl⟩⟩,.inl ⟨rfl,rfl,rfl⟩,by omega,IZ _,I1 _ _,hRES2⟩
   case round =>
    clear hRES2
    obtain ⟨W1,ao,co,o,ab,cb,B,kk,hW1,rfl,rfl,rfl,rfl,howo,hbest,hkk,hol,hVX,hres⟩:=hrel
    generalize wr=X at *
    have hbWX:=Nh hb1V hVX
    obtain ⟨c0,c1,c2,c3,c4⟩:=HS.out X hbWX
    by_cases hlt2 : W1<n
    ·have d1 : decide ((W1 : Int)+1<=(n : Int))=true:=by simp;omega
     obtain ⟨f,hf⟩ : ∃f,n - W1=f+1:=⟨n - W1 - 1,by omega⟩
     have hres2:=hres.out
     rw [hf,wq,Hfml.out] at hres2
     obtain ⟨q,hq⟩ : ∃q,(ah P M.toNat mod).q=q:=⟨_,rfl⟩
     rw [hq] at hq2 hq256
     have HRd : Hid (∀V,Calls prog 49 #[.int .i64 q,.int .i64 n,.int .i64 i,.int .i64 ((W1 : Int)+1),.int .i64 (65536 - (kk : Int))] V λe w'=>e = .returned (.tuple #[.int .i64 (if iH q n i kk (W1+1)=true then (kD q n i (W1+1) : Int) else 0),.int .i64 (if iH q n i kk (W1+1)=true then 0 else 8)])/\NS V w'):=λV=>by have h1:=vf q n i kk (W1+1) V (by omega) (by omega) hn64 (by omega) (by omega) hi1 hkl hkk;rw [show ((W1+1 : Nat) : Int)=(W1 : Int)+1 by omega] at h1;exact h1
     have hfo:=Fy HE.out W1 B hbest.out.ne
     rw [<- HT.out] at hfo
     obtain ⟨RB,hRB⟩ : ∃RB,lP (ah P M.toNat mod).ops (ah P M.toNat mod).q m (W1+1) (gF P M mod m L) B=RB:=⟨_,rfl⟩
     rw [hRB] at hfo hres2
     rw [hq] at HOr hres2
     have Hq:=Z5 hq
     have Hfo:=Z5 hfo
     have HRB:=Z5 hRB
     have Hf:=Z5 hf
     clear hq hf hfo hRB
     by_cases hm : iH q n i kk (W1+1)=true
     rotate_left
     ·rw [I5 hm] at hres2
      simp only [I5 hm] at HRd
      have HR : Hid (df P M mod m L=([],[],8)):=by show _=_;rw [HRES.out,<- hres2]
      have hFW:=Nh HbW.out hbWX
      clear hres2 hm
      go_wp2_with fail
      refine (HOr.out _).mono ?_
      rintro e X1 ⟨rfl,hb1⟩
      clear c0 c1 c2 c3 c4
      go_wp2_with fail
      refine (HRd.out _).mono ?_
      rintro e X2 ⟨rfl,hb2⟩
      have hF:=Nh hFW (Nh hb1 hb2)
      go_wp2_with fail
      go_ret3
      exact og HR.out hF
     rw [I6 hm] at hres2
     simp only [I6 hm] at HRd
     have hmb : kk+kD q n i (W1+1)<=65536:=by have h1:=hm;unfold iH at h1;simp only [Jo,JH] at h1;omega
     have hcnt : kD q n i (W1+1)=i * (dp n (W1+1) * (q - 1) ^ W1):=by unfold kD;rw [JU]
     obtain ⟨rn,hrn⟩ : ∃rn,kD q n i (W1+1)=rn:=⟨_,rfl⟩
     rw [hrn] at HRd hmb hres2 hcnt
     have Hres2:=Z5 hres2
     have Hcnt:=Z5 hcnt
     have Hrn:=Z5 hrn
     clear hres2 hm hrn hcnt
     go_wp2_with fail
     refine (HOr.out _).mono ?_
     rintro e X1 ⟨rfl,hb1⟩
     clear c0 c1 c2 c3 c4
     go_wp2_with fail
     refine (HRd.out _).mono ?_
     rintro e X2 ⟨rfl,hb2⟩
     have hX2:=Nh hb1 hb2
     have HX2:=Z5 hX2
     have hbest2 : kC X2 V.heap.size ao ab cb m B:=hbest.out.aa hX2
     have hstart : (T.drop 0).foldl (λb t=>(gW (ah P M.toNat mod).ops (de (ah P M.toNat mod).q) [1] (W1+1) (dk (ah P M.toNat mod).ops m L t.1) (List.replicate m 0)).foldl (iI (ah P M.toNat mod).ops) b) B=RB:=Hfo.out
     clear hb1 hb2 hX2
     go_wp2_with fail
     go_loopw [11,16] (λbv iv wr=>∃(t : Nat) (ab' : OA) (cb' : Nat) (B' : Lz),t<=i/\iv = .int .i64 t/\bv = .slice ab' B'.length cb'/\Hid (kC wr V.heap.size ao ab' cb' m B')/\NS X2 wr /\
       Hid ((T.drop t).foldl (λb t=>(gW (ah P M.toNat mod).ops (de (ah P M.toNat mod).q) [1] (W1+1) (dk (ah P M.toNat mod).ops m L t.1) (List.replicate m 0)).foldl (iI (ah P M.toNat mod).ops) b) B'=RB)) (λ_ iv _=>i - (intOf iv).toNat)
     case atStart=>exact ⟨0,ab,cb,B,I7 _,rfl,rfl,hbest2,I1 _ _,hstart⟩
     case round =>
      clear hbest2 hstart
      obtain ⟨t,ab',cb',B',ht,rfl,rfl,hbst,hbY,hfold⟩:=hrel
      generalize wr=Y at *
      have hbWY:=Nh hbWX (Nh HX2.out hbY)
      obtain ⟨c0,c1,c2,c3,c4⟩:=HS.out Y hbWY
      by_cases hltt : t<i
      ·have htT : t<T.length:=by rw [Hkf.out];exact hltt
       have hb1Y:=Nh (Nh hbr hVX) (Nh HX2.out hbY)
       obtain ⟨sa,sc,p0,_,pI⟩:=(HSt.out.aa hb1Y).cell t htT
       have HSyt : Hid (∀V',NS Y V'->Calls prog 50 #[.agg #[.int .i64 P,.int .i64 M,.slice am mn cm,.int .i64 m,.slice a n c],.slice sa T[t].1.length sc] V' λe w'=>∃a1 c1,e = .returned (.tuple #[.agg #[.int .i64 m,.slice a1 n c1],.int .i64 0])/\cH V'.heap.size w' a1 n (dk (ah P M.toNat mod).ops m L T[t].1)/\NS V' w'):=λV' hV=>HSy.out T[t] (JA _) V' sa _ sc (Nh (Nh HbW.out hbWY) hV) (pI.aa hV)
       have hdrop : T.drop t=T[t] :: T.drop (t+1):=Jt htT
       have hfold2:=hfold.out
       rw [hdrop,KD] at hfold2
       have Hfold2:=Z5 hfold2
       obtain ⟨tt,htt⟩ : ∃tt,T[t]=tt:=⟨_,rfl⟩
       rw [htt] at p0 pI HSyt Hfold2
       have htm : tt ∈ T:=by rw [<- htt];exact JA _
       have Htm:=Z5 htm
       obtain ⟨S,hS⟩ : ∃S,dk (ah P M.toNat mod).ops m L tt.1=S:=⟨_,rfl⟩
       rw [hS] at HSyt Hfold2
       obtain ⟨Sn,hSn⟩ : ∃Sn,tt.1.length=Sn:=⟨_,rfl⟩
       rw [hSn] at p0 pI HSyt
       have HS':=Z5 hS
       clear hdrop hfold2 hfold htt hS htm hSn hb1Y
       go_wp2_with fail
       go_upto_region 25 with fail
       have p0a:=aB (aw Y (.cells #[.int .i64 0,.slice none 0 0] 82)).drew p0
       obtain ⟨d0,d1',d2,d3,d4⟩:=HS.out _ (Nh hbWY (aw Y (.cells #[.int .i64 0,.slice none 0 0] 82)).drew)
       go_cut [17] (λv wx=>∃g5 a9 c9,v = .pointer (some ⟨g5,0,none⟩)/\wx.cell? ⟨g5,1,none⟩=some (.slice a9 n c9)/\Hid (ch wx a9 n S)/\NS Y wx)
       case first =>
        go_region_law ((first
         | (go_simp;go_at_call 50;((with_reducible refine (HSyt.out _ (by first | exact I1 _ _ | exact (I1 _ _).drew | exact (aw _ _).drew | exact aw _ _ | assumption)).mono ?_);rintro e w7 ⟨a9,c9,rfl,hM7,hb7⟩;have HM7:=Z5 hM7;clear hM7;first | (have zz:=E4 hb7;obtain ⟨z0,z1,f0,f1⟩:=zz) | skip))))
        all_goals (
         go_wp2_with fail
         go_meet
         first
         | (have z9:=z1;exact ⟨_,a9,c9,rfl,Fc hb7 HM7.out⟩)
         | exact ⟨_,a9,c9,rfl,(Nj w7 [.int .i64 m,.slice a9 n c9] _ rfl).cell 1 rfl,HM7.out.l7.aa (aw _ _),Nh (Nh (I1 _ _).drew hb7) (aw _ _)⟩)
       obtain ⟨g5,a9,c9,rfl,hg5,hM5,hbZ⟩:=hcut
       generalize wc=Z at *
       have hbWZ:=Nh hbWY hbZ
       clear c0 c1 c2 c3 c4 p0 p0a d0 d1' d2 d3 d4
       obtain ⟨c0,c1,c2,c3,c4⟩:=HS.out Z hbWZ
       have hcm:=dQ (eH HE.out).1 tt (by rw [<- HT.out];exact Htm.out)
       obtain ⟨hI,hl,hg⟩:=jZ hcm.1 hcm.2.1
       have hsl:=lM HE.out hI hl hg
       rw [HS'.out] at hsl
       have hBf : bp P M mod=true:=(bl HE.out).1
       obtain ⟨TT,hTT⟩ : ∃TT,gW (ah P M.toNat mod).ops (de (ah P M.toNat mod).q) [1] (W1+1) S (List.replicate m 0)=TT:=⟨_,rfl⟩
       have hTl : TT.length<=65536:=by rw [<- hTT,mH,jT,Hq.out,hsl.2.1,Hln.out];have h1:=Hcnt.out;have h2 : dp n (W1+1) * (q - 1) ^ W1<=i * (dp n (W1+1) * (q - 1) ^ W1):=Nat.le_mul_of_pos_left _ (by omega);omega
       have HSu : Hid (∀V' av cv,NS Z V'->V'.ownsRow Z.heap.size 3 1 (.slice av m cv) m ((List.replicate m (0 : Int)).map (Value.int .i64))->Calls prog 51 #[.agg #[.int .i64 P,.int .i64 M,.slice am mn cm],.slice a9 n c9,.int .i64 0,.int .i64 ((W1 : Int)+1),.slice av m cv,.bool true] V' (s9 Z.heap.size TT V')):=λV' av cv hV hv=>by have hmZ:=Hmi.out.1.aa (Nh (Nh HbW.out hbWZ) hV);have h1:=tL am mn cm a9 n c9 hBf hm64 hn64 hsl.1 (W1+1) (by omega) V' Z.heap.size av cv (List.replicate m 0) 0 true hmZ (hM5.out.aa hV) hV.size hv ⟨by simp,λx hx=>by rw [(List.mem_replicate.1 hx).2];exact HF.out.zero⟩ (I7 _) (by rw [I6 rfl,Kx,hTT];omega);rw [I6 rfl,Kx,hTT,show ((W1+1 : Nat) : Int)=(W1 : Int)+1 by omega] at h1;exact h1
       rw [hTT] at Hfold2
       have HTT:=Z5 hTT
       have HTl:=Z5 hTl
       clear hcm hI hl hg hsl hBf hTT hTl
       have hmk:=run_mk (P:=prog) 22 3 (.int .i64 0) 8 underlying22 ba rfl m (by omega) (by omega)
       have HOw : Hid (∀V' : World,Z.heap.size<=V'.heap.size->(V'.alloc (.cells (Array.replicate m (Value.int .i64 0)) 3)).ownsRow Z.heap.size 3 1 (.slice (some ⟨V'.heap.size,0,none⟩) m m) m ((List.replicate m (0 : Int)).map (Value.int .i64))):=λV' hV'=>by have h1:=jO V' 3 (.int .i64 0) m (g:=V'.heap.size) (B:=Z.heap.size) rfl hV' (by unfold maxLen;omega);rwa [show List.replicate m (Value.int .i64 0)=(List.replicate m (0 : Int)).map (Value.int .i64) by simp] at h1
       obtain ⟨d0,d1',d2,d3,d4⟩:=HS.out _ (Nh hbWZ (aw Z (.cells (Array.replicate m (Value.int .i64 0)) 3)))
       have hg5b:=aB (aw Z (.cells (Array.replicate m (Value.int .i64 0)) 3)) hg5
       go_upto_region 26 with fail
       go_cut [19] (λv wx=>∃aT cT RT,v = .slice aT TT.length cT/\Hid (aP wx Z.heap.size aT TT.length cT RT TT)/\NS Z wx)
       case first =>
        go_region_law ((first
         | (go_simp;go_at_call 51;((with_reducible refine (HSu.out _ _ _ (by first | exact aw _ _ | exact (aw _ _).drew | exact Nh (I1 _ _).drew (aw _ _)) (by first | exact HOw.out _ (IZ _) | exact aX (HOw.out _ (IZ _)) (I1 _ _).drew)).mono ?_);rintro e w7 ⟨aT,cT,RT,rfl,hO7,hb7⟩;have HO7:=Z5 hO7;clear hO7))))
        all_goals (
         have hF7 : NS Z w7:=by first | exact Nh (aw _ _) hb7 | exact Nh (aw _ _).drew hb7 | exact Nh (Nh (I1 _ _).drew (aw _ _)) hb7
         go_wp2_with fail
         go_meet
         exact ⟨aT,cT,RT,rfl,HO7.out,hF7⟩)
       obtain ⟨aT,cT,RT,rfl,hOT,hbZ1⟩:=hcut
       generalize wc=Z1 at *
       have hbYZ1:=Nh hbZ hbZ1
       have hbst1 : kC Z1 V.heap.size ao ab' cb' m B':=hbst.out.aa hbYZ1
       obtain ⟨FB,hFB⟩ : ∃FB,TT.foldl (iI (ah P M.toNat mod).ops) B'=FB:=⟨_,rfl⟩
       rw [hFB] at Hfold2
       have hst0 : (TT.drop 0).foldl (iI (ah P M.toNat mod).ops) B'=FB:=hFB
       have HaX : Hid (ao ≠ none->aj ao<Y.heap.size):=λh=>Jv (fO howo.out h).2 (Ji HX2.out.size hbY.size)
       have hMT : ch Z1 aT TT.length TT:=(NG hOT.out).l7
       have HMT:=Z5 hMT
       have hplT:=hMT.pl
       have hTl2:=HTl.out
       have HY1:=Z5 hbYZ1
       have hVY : V.heap.size<=Y.heap.size:=Ji hVX.size (Ji HX2.out.size hbY.size)
       have HTw : Hid (∀y ∈ TT,Vc (ah P M.toNat mod).El m y/\bK y ≠ 0):=λy hy=>by have hy':=hy;rw [<- HTT.out,<- HS'.out] at hy';have h:=AX HE.out (t:=tt) (by rw [<- HT.out];exact Htm.out) hy';exact ⟨h.1,h.2.2⟩
       have HFd : Hid (bp P M mod=true):=(bl HE.out).1
       clear hmk HOw d0 d1' d2 d3 d4 hg5b hg5 hM5 HSu hFB hMT hOT c0 c1 c2 c3 c4 HSyt
       go_wp2_with fail
       go_loopw [11,20] (λbv jv wr=>∃(j : Nat) (ab2 : OA) (cb2 : Nat) (B2 : Lz),j<=TT.length/\jv = .int .i64 j/\bv = .slice ab2 B2.length cb2/\Hid (kC wr V.heap.size ao ab2 cb2 m B2)/\NS Z1 wr/\Hid ((TT.drop j).foldl (iI (ah P M.toNat mod).ops) B2=FB)) (λ_ jv _=>TT.length - (intOf jv).toNat)
       case atStart=>exact ⟨0,ab',cb',B',I7 _,rfl,rfl,hbst1,I1 _ _,hst0⟩
       case round =>
        clear hbst1 hst0
        obtain ⟨j,ab2,cb2,B2,hj,rfl,rfl,hb2,hbR,hfo⟩:=hrel
        generalize wr=R at *
        have hbYR:=Nh HY1.out hbR
        have hbWR:=Nh hbWY hbYR
        obtain ⟨c0,c1,c2,c3,c4⟩:=HS.out R hbWR
        by_cases hltj : j<TT.length
        ·obtain ⟨ar,mr,cr,hcell,hrw⟩:=(HMT.out.aa hbR).cell j hltj
         obtain ⟨hyv,hy0⟩:=HTw.out _ (wF hltj)
         have hmr : mr=m:=by rw [<- hrw.len];exact hyv.1
         rw [hmr] at hcell hrw
         have hdrop : TT.drop j=an TT j :: TT.drop (j+1):=by rw [Jt hltj,aE hltj]
         have hfo2:=hfo.out
         rw [hdrop,KD] at hfo2
         obtain ⟨y,hy⟩ : ∃y,an TT j=y:=⟨_,rfl⟩
         rw [hy] at hrw hyv hy0 hfo2
         have HMo : Hid (∀V',NS R V'->Calls prog 52 #[.agg #[.int .i64 P,.int .i64 M,.slice am mn cm],.slice ar m cr] V' λe w'=>∃a1 c1,e = .returned (.slice a1 m c1)/\w'.ownsRow R.heap.size 3 1 (.slice a1 m c1) m ((ei (ah P M.toNat mod).ops y).map (Value.int .i64))/\NS V' w'):=λV' hV'=>by refine (vM HFd.out hm64 ar cr y V' (Hmi.out.1.aa (Nh HbW.out (Nh hbWR hV'))) (hrw.aa hV') hyv hy0).mono ?_;rintro e w' ⟨a1,c1,rfl,h1,h2⟩;exact ⟨a1,c1,rfl,aU h1 hV'.size,h2⟩
         have hXw:=nD HF.out hyv hy0
         have hXl : (ei (ah P M.toNat mod).ops y).length=m:=by simp [ei,hyv.1]
         obtain ⟨X9,hX9⟩ : ∃X9,ei (ah P M.toNat mod).ops y=X9:=⟨_,rfl⟩
         have hlk : iI (ah P M.toNat mod).ops B2 y=if B2=[]\/bK X9<bK B2\/(bK X9=bK B2/\dK X9 B2<0) then X9 else B2:=by unfold iI;rw [hX9]
         rw [hX9] at HMo hXw hXl
         have hX0 : bK X9 ≠ 0:=by rw [hXw];exact hy0
         have hlm : bK X9<=m:=by rw [<- hXl];exact Kd
         have Hlk:=Z5 hlk
         have Hfo2:=Z5 hfo2
         have HXl:=Z5 (Jg hXl hX0)
         have hTT6 : (j : Int)<(TT.length : Int):=by omega
         clear hdrop hfo2 hy hyv hy0 hXw hX9 hlk hXl hX0 hrw hmr hfo
         go_upto_region 30 with fail
         go_cut [21] (λv wx=>∃a5 c5,v = .slice a5 m c5/\Hid (wx.ownsRow R.heap.size 3 1 (.slice a5 m c5) m (X9.map (Value.int .i64)))/\NS R wx)
         case first =>
          go_region_law ((first
           | (go_simp;go_at_call 52;((with_reducible refine (HMo.out _ (by first | exact I1 _ _ | exact (I1 _ _).drew)).mono ?_);rintro e w7 ⟨a5,c5,rfl,h7,hb7⟩;have H7:=Z5 h7;clear h7))))
          all_goals (
           have hF7 : NS R w7:=by first | exact hb7 | exact Nh (I1 _ _).drew hb7
           go_wp2_with fail
           go_meet
           exact ⟨a5,c5,rfl,H7.out,hF7⟩)
         obtain ⟨a5,c5,rfl,hO5,hbQ⟩:=hcut
         generalize wc=Q at *
         have hIx:=(Ni hO5.out)
         have hIB : Ints Q ab2 B2.length B2:=hb2.out.ints.aa hbQ
         have Hw1:=Z5 (fP a5 m c5 X9 Q hIx.1)
         have Hw2:=Z5 (fP ab2 B2.length cb2 B2 Q hIB)
         have hYR:=hbYR.size
         have HNew : Hid (∀V',NS Q V'->kC V' V.heap.size ao a5 c5 m X9):=λV' hV'=>by
          have h1:=(Ni hO5.out).2 (by omega);refine .inr ⟨HXl.out.1,HXl.out.2,?_,λha=>?_,aX (aU hO5.out (by omega)) hV'⟩
          ·intro h2;have:=hIx.1.pl (by omega);rw [h2] at this;cases this
          ·have h2:=HaX.out ha;have h3:=h1.1;omega
         have HOld : Hid (∀V',NS Q V'->kC V' V.heap.size ao ab2 cb2 m B2):=λV' hV'=>hb2.out.aa (Nh hbQ hV')
         have hbZQ:=Nh hbR hbQ
         have heq:=λ(w : World) (a : OA) (l c : Nat)=>Go.run_eql_slice_nil (P:=prog) w 22 3 a l c underlying22
         have hB2:=hb2.out
         have HIx:=Z5 hIx.1
         have HIB:=Z5 hIB
         have HbZQ:=Z5 hbZQ
         clear hIx hIB hO5 hcell c0 c1 c2 c3 c4 hb2 HMo hbZQ
         obtain ⟨u1,hu1⟩ : ∃u1,bK X9=u1:=⟨_,rfl⟩
         rw [hu1] at Hw1 Hlk hlm
         rcases hB2 with ⟨hB0,ha0,hc0⟩ | ⟨hBl,hBw,hBa,hBao,hBo⟩
         ·subst hB0 ha0 hc0
          have hin : (none : OA).isNone=true:=rfl
          have Hlk2 : Hid (iI (ah P M.toNat mod).ops [] y=X9):=by show _=_;rw [Hlk.out,I6 (.inl rfl)]
          have hw0 : bK ([] : Lz)=0:=rfl
          rw [hw0] at Hw2
          clear hw0 hu1 Hlk
          go_wp2_with fail
          refine Hw1.out.mono ?_
          rintro e w' ⟨rfl,hw'⟩
          obtain rfl:=hw'.symm
          go_wp2_with fail
          refine Hw2.out.mono ?_
          rintro e w' ⟨rfl,hw'⟩
          obtain rfl:=hw'.symm
          go_wp2_with fail
          go_roundw
          case rel=>exact ⟨j+1,a5,c5,X9,by omega,by go_num,by rw [HXl.out.1],HNew.out _ (I1 _ _),HbZQ.out,by have h:=Hfo2.out;rw [Hlk2.out] at h;exact h⟩
          case measure=>simp [intOf] <;> omega
         have hin : ab2.isNone=false:=by
          cases ab2 with
          | none=>exact absurd rfl hBa
          | some x=>rfl
         have hBn : B2 ≠ []:=λh=>hBw (by rw [h];rfl)
         obtain ⟨u2,hu2⟩ : ∃u2,bK B2=u2:=⟨_,rfl⟩
         rw [hu2] at Hw2 Hlk
         have h2m : u2<=m:=by rw [<- hu2,<- hBl];exact Kd
         have hIBm:=HIB.out
         rw [hBl] at hIBm
         have HLs:=Z5 (wQ a5 m c5 X9 ab2 cb2 B2 Q HIx.out hIBm)
         rw [hBl] at Hw2
         rw [hBl]
         have HBl:=Z5 hBl
         have HBn:=Z5 hBn
         clear hBl hBw hBa hBao hBo hBn hu1 hu2 hIBm
         rcases MU u1 u2 with hlt3 | heq3 | hgt3
         ·have Hlk2 : Hid (iI (ah P M.toNat mod).ops B2 y=X9):=by show _=_;rw [Hlk.out,I6 (.inr (.inl hlt3))]
          have d1 : decide ((u1 : Int) - (u2 : Int)<0)=true:=by simp;omega
          have d2 : decide ((u1 : Int)<(u2 : Int))=true:=by simp;omega
          have d3 : decide (u1<u2)=true:=by simp;omega
          clear Hlk
          go_wp2_with fail
          refine Hw1.out.mono ?_
          rintro e w' ⟨rfl,hw'⟩
          obtain rfl:=hw'.symm
          go_wp2_with fail
          refine Hw2.out.mono ?_
          rintro e w' ⟨rfl,hw'⟩
          obtain rfl:=hw'.symm
          go_wp2_with fail
          go_roundw
          case rel=>exact ⟨j+1,a5,c5,X9,by omega,by go_num,by rw [HXl.out.1],HNew.out _ (I1 _ _),HbZQ.out,by have h:=Hfo2.out;rw [Hlk2.out] at h;exact h⟩
          case measure=>simp [intOf] <;> omega
         ·subst heq3
          obtain ⟨zz,hzz⟩ : ∃zz,decide (dK X9 B2<0)=zz:=⟨_,rfl⟩
          rw [hzz] at HLs
          have Hzz:=Z5 hzz
          have d1 : ((u1 : Int) - (u1 : Int))=0:=by omega
          clear hzz
          go_wp2_with fail
          refine Hw1.out.mono ?_
          rintro e w' ⟨rfl,hw'⟩
          obtain rfl:=hw'.symm
          go_wp2_with fail
          refine Hw2.out.mono ?_
          rintro e w' ⟨rfl,hw'⟩
          obtain rfl:=hw'.symm
          go_wp2_with fail
          refine HLs.out.mono ?_
          rintro e Q2 ⟨rfl,hbQ2⟩
          have HbZ2:=Z5 (Nh HbZQ.out hbQ2)
          cases zz
          ·have Hlk2 : Hid (iI (ah P M.toNat mod).ops B2 y=B2):=by
            show _=_;rw [Hlk.out,I5];rintro (h | h | ⟨_,h⟩)
            ·exact HBn.out h
            ·omega
            ·exact (of_decide_eq_false Hzz.out) h
           have HO2:=Z5 (HOld.out Q2 hbQ2)
           clear Hlk
           go_wp2_with fail
           go_roundw
           case rel=>exact ⟨j+1,ab2,cb2,B2,by omega,by go_num,by rw [HBl.out],HO2.out,HbZ2.out,by have h:=Hfo2.out;rw [Hlk2.out] at h;exact h⟩
           case measure=>simp [intOf] <;> omega
          ·have Hlk2 : Hid (iI (ah P M.toNat mod).ops B2 y=X9):=by show _=_;rw [Hlk.out,I6 (.inr (.inr ⟨by first | trivial | rfl,LY Hzz.out⟩))]
           have HO2:=Z5 (HNew.out Q2 hbQ2)
           clear Hlk
           go_wp2_with fail
           go_roundw
           case rel=>exact ⟨j+1,a5,c5,X9,by omega,by go_num,by rw [HXl.out.1],HO2.out,HbZ2.out,by have h:=Hfo2.out;rw [Hlk2.out] at h;exact h⟩
           case measure=>simp [intOf] <;> omega
         ·have Hlk2 : Hid (iI (ah P M.toNat mod).ops B2 y=B2):=by
           show _=_;rw [Hlk.out,I5];rintro (h | h | ⟨h,_⟩)
           ·exact HBn.out h
           ·omega
           ·omega
          have d1 : decide ((u1 : Int) - (u2 : Int)<0)=false:=by simp;omega
          have d2 : (((u1 : Int) - (u2 : Int)) == 0)=false:=by simp;omega
          have d3 : decide ((u1 : Int)<(u2 : Int))=false:=by simp;omega
          have d4 : decide (u1<u2)=false:=by simp;omega
          clear Hlk
          go_wp2_with fail
          refine Hw1.out.mono ?_
          rintro e w' ⟨rfl,hw'⟩
          obtain rfl:=hw'.symm
          go_wp2_with fail
          refine Hw2.out.mono ?_
          rintro e w' ⟨rfl,hw'⟩
          obtain rfl:=hw'.symm
          go_wp2_with fail
          go_roundw
          case rel=>exact ⟨j+1,ab2,cb2,B2,by omega,by go_num,by rw [HBl.out],HOld.out _ (I1 _ _),HbZQ.out,by have h:=Hfo2.out;rw [Hlk2.out] at h;exact h⟩
          case measure=>simp [intOf] <;> omega
        ·obtain rfl : j=TT.length:=by omega
         have hfin:=hfo.out
         rw [JD (IZ _),Nf] at hfin
         subst hfin
         have HbX2:=Z5 (Nh hbY hbYR)
         clear hfo
         go_wp2_with fail
         go_roundw
         case rel=>exact ⟨t+1,ab2,cb2,B2,by omega,by go_num,rfl,hb2,HbX2.out,Hfold2.out⟩
         case measure=>simp [intOf] <;> omega
      ·obtain rfl : t=i:=by omega
       have hfin:=hfold.out
       rw [JD (by rw [Hkf.out];exact IZ _),Nf] at hfin
       obtain ⟨fl,hfl⟩ : ∃fl,dO (n : Int) ((W1 : Int)+1) (T.map (·.2)) (T.map (·.2)).length=fl:=⟨_,rfl⟩
       have hflV : ql (n : Int) (T.map (·.2)) ((W1 : Int)+1)=(fl,0):=by have h1:=EW HE.out (v:=(W1 : Int)+1) (by rw [Hln.out];omega) (by rw [Hln.out];exact hn64);rw [<- HT.out,Hln.out,hfl] at h1;exact h1
       have hVY:=Nh hVX (Nh HX2.out hbY)
       have hflo:=vG (n : Int) ak t ck (T.map (·.2)) ((W1 : Int)+1) Y (HrkV.out.aa hVY)
       rw [hflV] at hflo
       have Hflo:=Z5 hflo
       obtain ⟨zt,hzt⟩ : ∃zt,bK B'=zt:=⟨_,rfl⟩
       have hRes : (if fl > (zt : Int) then (o ++ [[(W1 : Int)+1,((kk+rn : Nat) : Int),(zt : Int),fl]],B',(0 : Int)) else wq (ah P M.toNat mod).ops q m n (gF P M mod m L) (T.map (·.2)) f (W1+1+1) B' (kk+rn) (o ++ [[(W1 : Int)+1,((kk+rn : Nat) : Int),(zt : Int),fl]]))=RES:=by have h9:=Hres2.out;rw [<- hfin,show ((W1+1 : Nat) : Int)=(W1 : Int)+1 by omega,hfl,hzt] at h9;exact h9
       have hbst:=hbst.out
       have hHWt : ∀X',NS Y X'->Calls prog 20 #[.slice ab' B'.length cb'] X' λe w'=>e = .returned (.int .i64 (zt : Nat))/\w'=X':=λX' hX=>by rw [<- hzt];exact fP ab' B'.length cb' B' X' (hbst.ints.aa hX)
       have HWt:=Z5 hHWt
       have Hzt:=Z5 hzt
       have HRes:=Z5 hRes
       have HVY:=Z5 hVY
       have Hbst:=Z5 hbst
       have howY : Y.ownsRow V.heap.size 62 4 (.slice ao o.length co) o.length (rW o):=iT howo.out λh1=>(Nh HX2.out hbY).block _ (fO howo.out h1).2
       have HoY : Hid ((Y.alloc (.cells #[.int .i64 ((W1 : Int)+1),.int .i64 ((kk : Int)+(rn : Int)),.int .i64 (zt : Nat),.int .i64 fl] 62)).ownsRow V.heap.size 62 4 (.slice ao o.length co) o.length (rW o)):=iT howY λh1=>(aw Y _).block _ (fO howY h1).2
       have hq4 : aZ (Y.alloc (.cells #[.int .i64 ((W1 : Int)+1),.int .i64 ((kk : Int)+(rn : Int)),.int .i64 (zt : Nat),.int .i64 fl] 62)) Y.heap.size [.int .i64 ((W1 : Int)+1),.int .i64 ((kk : Int)+(rn : Int)),.int .i64 (zt : Nat),.int .i64 fl]:=Nj Y _ _ rfl
       have HQ4:=Z5 hq4
       have hVYs:=hVY.size
       clear hfin hfl hflV hflo hzt hRes hHWt hVY howY hq4 hfold Hres2 c0 c1 c2 c3 c4 hbst
       go_wp2_with fail
       refine Hflo.out.mono ?_
       rintro e w' ⟨rfl,hw'⟩
       obtain rfl:=hw'.symm
       go_upto_region 36 with (first | (go_at_call 20;refine (HWt.out _ (I1 _ _)).mono ?_;rintro e w' ⟨rfl,hw'⟩;obtain rfl:=hw'.symm) | (at_builtin;refine uG rfl _ _ 30 62 rfl (.agg #[.int .i64 0,.int .i64 0,.int .i64 0,.int .i64 0]) 32 underlying30 A5 rfl V.heap.size ao o.length co (rW o) rfl HoY.out Y.heap.size 1 (.int .i64 ((W1 : Int)+1)) (.int .i64 ((kk : Int)+(rn : Int))) (.int .i64 (zt : Nat)) (.int .i64 fl) rfl (HQ4.out.cell 0 rfl) (HQ4.out.cell 1 rfl) (HQ4.out.cell 2 rfl) (HQ4.out.cell 3 rfl) (by intro u hu;simp at hu;rcases hu with rfl | rfl | rfl | rfl <;> rfl) (by omega) (by unfold maxLen;omega) (by simp;omega) ?_;intro a5 c5 w6 hown6 hgr6 hap6))
       have hbst6 : kC w6 V.heap.size a5 ab' cb' m B':=Hbst.out.push hm1 (aw Y _) hgr6 hap6
       have hbV6 : NS V w6:=(Nh HVY.out (aw Y _)).grown hgr6 (by simp;omega) λk hk=>(HoY.out.lt k hk).1
       have HrV : Hid (rW o ++ [.int .i64 ((W1 : Int)+1),.int .i64 ((kk : Int)+(rn : Int)),.int .i64 (zt : Nat),.int .i64 fl]=rW (o ++ [[(W1 : Int)+1,((kk+rn : Nat) : Int),(zt : Int),fl]])):=by show _=_;rw [tZ];simp [nth]
       have HoL : Hid ((o ++ [[(W1 : Int)+1,((kk+rn : Nat) : Int),(zt : Int),fl]]).length=o.length+1):=by show _=_;simp
       rw [HrV.out] at hown6
       have hRes:=HRes.out
       have hW6:=fP ab' B'.length cb' B' w6 hbst6.ints
       rw [Hzt.out] at hW6
       obtain ⟨o2,ho2⟩ : ∃o2,o ++ [[(W1 : Int)+1,((kk+rn : Nat) : Int),(zt : Int),fl]]=o2:=⟨_,rfl⟩
       rw [ho2] at hRes hown6 HoL HrV
       have HW6:=Z5 hW6
       have Hown6:=Z5 hown6
       have Hbst6:=Z5 hbst6
       have HbV6:=Z5 hbV6
       have hmb2:=hmb
       clear hown6 hbst6 hbV6 hgr6 hap6 ho2 hW6 HRes HWt
       go_wp2_with fail
       refine HW6.out.mono ?_
       rintro e w' ⟨rfl,hw'⟩
       obtain rfl:=hw'.symm
       by_cases hst : (zt : Int)<fl
       ·have hd : decide ((zt : Int)<fl)=true:=Jm hst
        rw [I6 hst] at hRes
        have HR9 : Hid (df P M mod m L=(o2,B',0)):=by show _=_;rw [HRES.out,<- hRes]
        have hF:=Nh HbW.out (Nh hb1V HbV6.out)
        clear hRes hst
        go_wp2_with fail
        go_ret3
        exact uf HR9.out hF HoL.out Hown6.out Hbst6.out.ints (I1 _ _)
       ·have hd : decide ((zt : Int)<fl)=false:=Jn hst
        rw [I5 hst] at hRes
        have HRes:=Z5 hRes
        have hfw : n - (W1+1)=f:=by have:=Hf.out;omega
        have Hfw:=Z5 hfw
        clear hRes hst hfw
        go_wp2_with fail
        go_roundw
        case rel=>exact ⟨W1+1,a5,c5,o2,ab',cb',B',kk+rn,by omega,by go_num,by go_num,by rw [HoL.out],rfl,by rw [HoL.out];exact Hown6.out,Hbst6.out,by omega,by rw [HoL.out];omega,HbV6.out,by show wq _ _ _ _ _ _ (n - (W1+1)) _ _ _ _=_;rw [Hfw.out,Hq.out];exact HRes.out⟩
        case measure=>simp [intOf] <;> omega
    ·obtain rfl : W1=n:=by omega
     have hres3:=hres.out
     rw [KK,wq] at hres3
     have HR9 : Hid (df P M mod m L=(o,B,0)):=by show _=_;rw [HRES.out,<- hres3]
     have d1 : decide ((W1 : Int)+1<=(W1 : Int))=false:=by simp;omega
     have hF:=Nh HbW.out hbWX
     clear hres3
     go_wp2_with fail
     go_ret3
     exact uf HR9.out hF rfl howo.out hbest.out.ints (I1 _ _)
theorem qZ (P M : Int) (am : OA) (mn cm : Nat) (mod : Lz) (N : Int) (a : OA) (n c : Nat) (L : Ll) (w : World) (hmod : Ints w am mn mod) (hi : ch w a n L) :
  Calls prog 25 #[.agg #[.int .i64 P,.int .i64 M,.slice am mn cm,.int .i64 N,.slice a n c]] w (jQ (mh P M mod N L) w):=by
 have hn : L.length=n:=hi.len;obtain ⟨V,hV⟩ : ∃V,mh P M mod N L=V:=⟨_,rfl⟩
 rw [hV];unfold mh at hV;obtain ⟨R,hR⟩ : ∃R,df P M mod N L=R:=⟨_,rfl⟩
 rw [hR,hn] at hV;obtain ⟨er,her⟩ : ∃er,R.2.2=er:=⟨_,rfl⟩
 obtain ⟨b,hb⟩ : ∃b,R.2.1=b:=⟨_,rfl⟩
 obtain ⟨d,hd⟩ : ∃d,bK b=d:=⟨_,rfl⟩
 obtain ⟨BD,hBD⟩ : ∃BD,dI P M mod N L n (jH N (d : Nat))=BD:=⟨_,rfl⟩
 obtain ⟨be,hbe⟩ : ∃be,BD.1=be:=⟨_,rfl⟩
 obtain ⟨bt,hbt⟩ : ∃bt,BD.2=bt:=⟨_,rfl⟩
 rw [her,hb,hd,hBD,hbe,hbt] at hV;have HLi : Hid (∀V,NS w V->Calls prog 15 #[.agg #[.int .i64 P,.int .i64 M,.slice am mn cm,.int .i64 N,.slice a n c]] V λe w'=>∃ao no co ar nr cr,e = .returned (.tuple #[.slice ao no co,.slice ar nr cr,.int .i64 er])/\Ints w' ar nr b/\NS V w'):=λV hV=>by have h:=si P M am mn cm mod N a n c L V (hmod.aa hV) (hi.aa hV);unfold gq at h;rw [hR,her,hb] at h;refine h.mono ?_;rintro e w' ⟨h1,ao,no,co,ar,nr,cr,h2,_,h3⟩;exact ⟨ao,no,co,ar,nr,cr,h2,h3,h1⟩
 have HBd : Hid (∀V,NS w V->Calls prog 60 #[.agg #[.int .i64 P,.int .i64 M,.slice am mn cm,.int .i64 N,.slice a n c],.int .i64 (d : Nat)] V λe w'=>∃av nv cv,e = .returned (.tuple #[.agg #[.slice av nv cv],.int .i64 be])/\(be=0->cH V.heap.size w' av nv bt)/\NS V w'):=λV hV=>by
  have h:=kG P M am mn cm mod N a n c L (d : Nat) V (hmod.aa hV) (hi.aa hV);rw [hBD] at h;refine h.mono ?_;rintro e w' ⟨hb1,⟨h2,rfl⟩ | ⟨h2,ar,cr,R,rfl,hO⟩⟩
  ·exact ⟨none,0,0,by rw [hbe],λh=>absurd (hbe.trans h) h2,hb1⟩
  ·exact ⟨ar,_,cr,by rw [<- hbe,h2],λ_=>by rw [<- hbt];exact hO.F0,hb1⟩
 have HV:=Z5 hV;have Hd:=Z5 hd;clear hV hR her hb hd hBD hbe hbt hmod hi hn;go_enter func25,ntmps25;go_wp2_with fail;obtain ⟨U,hU⟩ : ∃U : World,U=(w.alloc (.cells #[.int .i64 P,.int .i64 M,.slice am mn cm,.int .i64 N,.slice a n c] 27)).alloc (.cells #[.slice none 0 0,.slice none 0 0] 49):=⟨_,rfl⟩
 rw [<- hU];have hbU : NS w U:=by rw [hU];exact dA _ _ _
 have x0 : aZ U w.heap.size [.int .i64 P,.int .i64 M,.slice am mn cm,.int .i64 N,.slice a n c]:=by rw [hU];exact (Nj _ _ _ rfl).alloc _
 have z0 : aZ U (w.heap.size+1) [.slice none 0 0,.slice none 0 0]:=by rw [hU];exact Nj _ _ _ (by simp)
 have HS : Hid (∀V,NS U V->V.cell? ⟨w.heap.size,0,none⟩=some (.int .i64 P)/\V.cell? ⟨w.heap.size,1,none⟩=some (.int .i64 M)/\V.cell? ⟨w.heap.size,2,none⟩=some (.slice am mn cm)/\V.cell? ⟨w.heap.size,3,none⟩=some (.int .i64 N)/\V.cell? ⟨w.heap.size,4,none⟩=some (.slice a n c) /\
   V.cell? ⟨w.heap.size+1,0,none⟩=some (.slice none 0 0)/\V.cell? ⟨w.heap.size+1,1,none⟩=some (.slice none 0 0)/\V.frozen? ⟨w.heap.size+1,0,none⟩=false/\V.frozen? ⟨w.heap.size+1,1,none⟩=false):=λV hV=>by have x1:=x0.aa hV;have z1:=z0.aa hV;exact ⟨x1.cell 0 rfl,x1.cell 1 rfl,x1.cell 2 rfl,x1.cell 3 rfl,x1.cell 4 rfl,z1.cell 0 rfl,z1.cell 1 rfl,z1.frozen 0,z1.frozen 1⟩
 have HSet : Hid (∀V u v,NS U V->NS w ((V.setCell ⟨w.heap.size+1,0,none⟩ u).setCell ⟨w.heap.size+1,1,none⟩ v)):=λV u v hV =>
  ((Nh hbU hV).setCell (p:=⟨w.heap.size+1,0,none⟩) (by simp) _).setCell (p:=⟨w.heap.size+1,1,none⟩) (by simp) _
 have hz1:=z0.1;have HBlk : Hid (∀X,NS U X->X.heap[w.heap.size+1]? = some (.cells #[.slice none 0 0,.slice none 0 0] 49)):=λX hX=>by
  rw [hX.block _ hz1,hU];obtain ⟨A',hA⟩ : ∃A' : World,w.alloc (.cells #[.int .i64 P,.int .i64 M,.slice am mn cm,.int .i64 N,.slice a n c] 27)=A':=⟨_,rfl⟩
  have hs : A'.heap.size=w.heap.size+1:=by rw [<- hA];simp
  rw [hA,<- hs];exact Ma
 have HbU:=Z5 hbU;clear hU hbU x0 z0;refine (HLi.out U HbU.out).mono ?_;rintro e w1 ⟨ao,no,co,ax,nx,cx,rfl,hIx,hb1⟩;have HIx:=Z5 hIx;clear hIx;by_cases h1 : er=0;rotate_left
 ·have HR : Hid (V=([],[],er)):=by show _=_;rw [<- HV.out,I5 h1]
  obtain ⟨_,_,_,_,_,z3,z4,f3,f4⟩:=HS.out w1 hb1;have HF:=Z5 (pS HR.out (HSet.out w1 (.slice none 0 0) (.slice none 0 0) hb1));have hE' : (er != 0)=true:=by simpa using h1
  clear h1;go_wp2_with fail;exact bodyPost_ret (v:=.tuple #[.agg #[.slice none 0 0,.slice none 0 0],.int .i64 er]) (by simp [results,results25,go_sem,z3,z4]) rfl HF.out
 subst h1;have hF1:=Nh HbU.out hb1;obtain ⟨c0,c1,c2,c3,c4,z3,z4,f3,f4⟩:=HS.out w1 hb1;have HWt : Hid (∀X,NS w1 X->Calls prog 20 #[.slice ax nx cx] X λe w'=>e = .returned (.int .i64 (d : Nat))/\w'=X):=λX hX=>by rw [<- Hd.out];exact fP ax nx cx b X (HIx.out.aa hX)
 go_upto_region 4 with fail;go_cut [6,7] (λev pv wx=>∃q av nv cv,ev = .int .i64 be/\pv = .pointer (some ⟨q,0,none⟩)/\wx.cell? ⟨q,0,none⟩=some (.slice av nv cv)/\(be=0->cH w1.heap.size wx av nv bt)/\NS w1 wx);case first =>
  have ha1:=aw w1 (.cells #[.slice none 0 0] 47)
  obtain ⟨g0,g1,g2,g3,g4,y3,y4,j3,j4⟩:=HS.out _ (Nh hb1 ha1)
  have xq:=Nj w1 [.slice none 0 0] 47 rfl
  have HXq:=Z5 xq
  clear xq
  go_region_law ((first
   | (go_simp;go_at_call 20;((with_reducible refine (HWt.out _ (by first | exact (I1 _ _).drew | exact I1 _ _ | exact ha1.drew | exact ha1)).mono ?_);rintro e w3 ⟨rfl,hw3⟩;obtain rfl:=hw3.symm))
   | (go_simp;go_at_call 60;((with_reducible refine (HBd.out _ (by first | exact hF1.drew | exact hF1 | exact (Nh hF1 ha1).drew | exact Nh hF1 ha1)).mono ?_);rintro e w5 ⟨av,nv,cv,rfl,hMv,hb5⟩;have HMv:=Z5 hMv;clear hMv;have hb15 : NS w1 w5:=(by first | exact Nh (I1 _ _).drew hb5 | exact Nh ha1.drew hb5 | exact hb5);(try (have xq5:=HXq.out.aa (show Below _ _ w5 from (by first | exact Nh (I1 _ _).drew hb5 | exact hb5));have q5:=xq5.cell 0 rfl;have qf5:=xq5.frozen 0))))))
  all_goals (
   (try simp only [KW,KO,KP,Act.put,I0,I3,I4])
   go_wp2_with fail
   go_meet
   first
    | exact ⟨w5.heap.size,av,nv,cv,rfl,rfl,bk w5 _ _,λh=>((HMv.out h).mono (by first | exact IZ _ | simp)).aa (aw _ _),Nh hb15 (aw _ _)⟩
    | exact ⟨w1.heap.size,av,nv,cv,rfl,rfl,Jk _ _ _ q5,λh=>((HMv.out h).setCell (p:=⟨w1.heap.size,0,none⟩) (by simp) _).mono (by first | exact IZ _ | simp),hb15.setCell (p:=⟨w1.heap.size,0,none⟩) (IZ _) _⟩)
 obtain ⟨q,av,nv,cv,rfl,rfl,hq,hM,hb2⟩:=hcut;generalize wc=X at *;have hbX:=Nh hb1 hb2;obtain ⟨d0,d1,d2,d3,d4,z5,z6,f5,f6⟩:=HS.out X hbX;clear c0 c1 c2 c3 c4 z3 z4 f3 f4;by_cases h2 : be=0;rotate_left
 ·have HR : Hid (V=([],[],be)):=by show _=_;rw [<- HV.out,I6 (by first | trivial | rfl),I5 h2]
  have HF:=Z5 (pS HR.out (HSet.out X (.slice none 0 0) (.slice none 0 0) hbX));have hE' : (be != 0)=true:=by simpa using h2
  clear h2 hM;go_wp2_with fail;exact bodyPost_ret (v:=.tuple #[.agg #[.slice none 0 0,.slice none 0 0],.int .i64 be]) (by simp [results,results25,go_sem,z5,z6]) rfl HF.out
 subst h2;have HR : Hid (V=(b,bt,0)):=by show _=_;rw [<- HV.out,I6 (by first | trivial | rfl),I6 (by first | trivial | rfl)]
 have hM2:=hM (by first | trivial | rfl);have hIX:=HIx.out.aa hb2;have HF : Hid (jQ V w (.returned (.tuple #[.agg #[.slice ax nx cx,.slice av nv cv],.int .i64 0])) ((X.setCell ⟨w.heap.size+1,0,none⟩ (.slice ax nx cx)).setCell ⟨w.heap.size+1,1,none⟩ (.slice av nv cv))):=by
  refine ⟨HSet.out X _ _ hbX,ax,nx,cx,av,nv,cv,by rw [HR.out],?_,?_⟩
  ·rw [HR.out];exact (hIX.bQ (NF X (w.heap.size+1) 0 _) (λhn e=>pU (HBlk.out X hbX) hIX hn e)).bQ (NF _ (w.heap.size+1) 1 _) (λhn e=>pU (HBlk.out X hbX) hIX hn e)
  ·rw [HR.out];have hs1:=hb1.size;exact ((hM2.setCell (p:=⟨w.heap.size+1,0,none⟩) (by show w.heap.size+1<w1.heap.size;omega) _).setCell (p:=⟨w.heap.size+1,1,none⟩) (by show w.heap.size+1<w1.heap.size;omega) _).l7
 clear hM hM2 hIX;go_wp2_with fail;exact bodyPost_ret (v:=.tuple #[.agg #[.slice ax nx cx,.slice av nv cv],.int .i64 0]) (by simp [results,results25,go_sem,z5,z6]) rfl HF.out
section
variable {O : aS} {El : Int->Prop} {m : Nat} {R : Ll} {Q : Lz}
theorem DH {l : Lz} : sr l=true ↔ ∀k,k<l.length->nth l k=0:=by
 rw [Dh];constructor
 ·intro h k hk;exact h _ (aK hk)
 ·intro h y hy;obtain ⟨k,hk,rfl⟩:=List.mem_iff_getElem.1 hy;have h1:=h k hk;rwa [ai hk] at h1
theorem wY (F : dw O El) (hR : cw El m R) (hOk : BS.Ok El m ⟨R,Q⟩) {v : Lz} (hv : Vc El m v) : ∀k,k<=R.length->RS O El m R (λx=>nth (bu O R Q v k) x)->RS O El m R (λx=>nth v x)
 | 0,_,h=>h
 | k+1,hk,h=>by have hu : Vc El m (bu O R Q v k):=Vc.bu F hOk hv k (show k<=R.length by omega);have hp : (nth Q k).toNat<m:=hOk.pl (show k<R.length by omega);have hr : Vc El m (an R k):=hOk.row (show k<R.length by omega);refine wY F hR hOk hv k (by omega) ((RS.add F hR h (.row F (i:=k) (by omega)) (hu.at hp)).congr λx hx=>?_);have h1:=hu.at hx;have h2:=F.cl.mul _ _ (hu.at hp) (hr.at hx);rw [bu,ib F hu hr hp hx,F.mul_comm _ _ (hr.at hx) (hu.at hp),F.add_assoc _ _ _ h1 (F.cl.neg _ h2) h2,F.ru h2,F.add_zero _ h1]
end
section
variable {P M : Int} {mod : Lz} {m : Nat} {L : Ll}
theorem Ch (hE : aJ P M mod m L=0) : pM L (fJ (ah P M.toNat mod) L m) m/\sj L (fJ (ah P M.toNat mod) L m)/\L.length=(fJ (ah P M.toNat mod) L m).length:=by
 obtain ⟨N',e,hm1,hm64,F,hR⟩:=br hE;obtain rfl : m=N':=by omega
 have h6:=(dR (bl hE).2.2.2).2;rw [Jd] at h6;have hcan : iE (ah P M.toNat mod).ops m L=L:=h6;obtain ⟨hPv,hLd⟩:=je F hR;have hcl:=fx F hR;rw [hcan] at hPv hcl hLd;exact ⟨hPv,hLd,hcl⟩
theorem DO (hE : aJ P M mod m L=0) {x : Lz} (hx : Vc (ah P M.toNat mod).El m x) : hasB P M mod m L x=true ↔ RS (ah P M.toNat mod).ops (ah P M.toNat mod).El m L (λi=>nth x i):=by
 obtain ⟨N',e,hm1,hm64,F,hR⟩:=br hE;obtain rfl : m=N':=by omega
 obtain ⟨hP,hl,hlen⟩:=Ch hE;have hI:=vi hR hP hlen;have hvc : Vc (ah P M.toNat mod).El m (bu (ah P M.toNat mod).ops L (fJ (ah P M.toNat mod) L m) x L.length):=Vc.bu F hI.ok hx L.length (IZ _);unfold hasB;rw [DH,hvc.1];constructor
 ·intro h;exact wY F hR hI.ok hx L.length (IZ _) (RS.GS F h)
 ·intro h;exact xC F hR hP hlen hx h
end
theorem D6 {P M : Int} {mod : Lz} {m : Nat} {L : Ll} (hE : aJ P M mod m L=0) {x : Lz} (hx : Vc (ah P M.toNat mod).El m x) : lU P M mod m L x=0:=by
 unfold lU;rw [I6 hE];have hq : ((ah P M.toNat mod).q : Int)=aN P M:=by obtain ⟨m1,e1,_,h1,_⟩:=fU (bl hE).1;rw [show M.toNat=m1 by omega];exact h1
 unfold rj;rw [I6 (by rw [hx.1];simp)];unfold ki;rw [I6];unfold iM;refine List.all_eq_true.2 λy hy=>?_;have h:=hx.2 y hy;unfold jj;simp;exact ⟨h.1,by have:=h.2;omega⟩
theorem Ec {P M : Int} {mod : Lz} {N : Int} {L : Ll} (h : (mh P M mod N L).2.2=0) :
  (df P M mod N L).2.2=0/\vD P M mod N L (mh P M mod N L).1 (mh P M mod N L).2.1=0/\yu P M mod N L (mh P M mod N L).1 (mh P M mod N L).2.1=(bK (df P M mod N L).2.1 : Nat):=by
 obtain ⟨R,hR⟩ : ∃R,df P M mod N L=R:=⟨_,rfl⟩
 have hc : mh P M mod N L=if R.2.2=0 then (if (dI P M mod N L L.length (jH N (bK R.2.1 : Nat))).1=0 then (R.2.1,(dI P M mod N L L.length (jH N (bK R.2.1 : Nat))).2,0) else ([],[],(dI P M mod N L L.length (jH N (bK R.2.1 : Nat))).1)) else ([],[],R.2.2):=by rw [<- hR];rfl
 rw [hR];rw [hc] at h ⊢;by_cases h1 : R.2.2=0;rotate_left
 ·rw [I5 h1] at h;exact absurd h h1
 rw [I6 h1] at h ⊢;by_cases h2 : (dI P M mod N L L.length (jH N (bK R.2.1 : Nat))).1=0;rotate_left
 ·rw [I5 h2] at h;exact absurd h h2
 rw [I6 h2];have hE : aJ P M mod N L=0:=K1 λhn=>by rw [<- hR,df,I6 hn] at h1;exact hn h1
 obtain ⟨m,rfl,_,_,_,_⟩:=br hE;have hk : 1<=L.length:=by refine Nat.one_le_iff_ne_zero.2 λhn=>?_;rw [<- hR,df,I5 (by rw [hE];decide),I6 hn] at h1;cases h1
 obtain ⟨o,b,hb,⟨⟨hv,hrs,hw⟩,_⟩,_⟩ : ∃o b,df P M mod m L=(o,b,0)/\rh P M mod m L b/\(∀x,CW P M mod m L x->qp b (ei (ah P M.toNat mod).ops x)):=by
  rcases FX hE hk with h3 | ⟨o,b,h3,h4,h5,_⟩
  ·rw [<- hR,h3] at h1;cases h1
  ·exact ⟨o,b,h3,h4,h5⟩
 rw [<- hR,hb] at h2 ⊢;have hme : vD P M mod m L b (dI P M mod m L L.length (jH m (bK b : Nat))).2=0:=by unfold vD;rw [I6 hE,I6];refine ⟨D6 hE hv,?_,hw,E2 h2⟩;unfold vJ;rw [I6 (D6 hE hv),Jd];exact (DO hE hv).2 hrs
 refine ⟨rfl,hme,?_⟩;unfold yu;rw [I6 hme]
theorem A7 (k v : Int) (h0 : 0<=v) (h1 : v<=64) (w : World) : Calls prog 23 #[.int .i64 k,.int .i64 v] w (tF w):=by
 obtain ⟨W',rfl⟩ : ∃W' : Nat,v=W':=⟨v.toNat,by omega⟩
 exact uD k W' (by omega) w
def Ik (v : Value) : Prop:=∃z : Bool,v = .bool z
theorem pH (P M : Int) (am : OA) (mn cm : Nat) (mod : Lz) (N : Int) (a : OA) (n c : Nat) (L : Ll) (w : World) (hmod : Ints w am mn mod) (hi : ch w a n L) :
  Calls prog 4 #[.agg #[.int .i64 P,.int .i64 M,.slice am mn cm,.int .i64 N,.slice a n c]] w λe w'=>e = .returned (.bool true)/\NS w w':=by
 have HSm:=Z5 (λV (hV : NS w V)=>vA P M am mn cm mod N a n c L V (hmod.aa hV) (hi.aa hV));have HCn:=Z5 (λV (hV : NS w V)=>o8 300 P M am mn cm mod N a n c L V (hmod.aa hV) (hi.aa hV));have HCk:=Z5 (λV (hV : NS w V)=>gH P M am mn cm mod N a n c L V (hmod.aa hV) (hi.aa hV));have H1:=Z5 (λV (hV : NS w V)=>nT P M am mn cm mod N a n c L V (hmod.aa hV) (hi.aa hV));have H2:=Z5 (λV (hV : NS w V)=>qZ P M am mn cm mod N a n c L V (hmod.aa hV) (hi.aa hV));have H4:=Z5 (λV (hV : NS w V)=>jA P M am mn cm mod N a n c L V (hmod.aa hV) (hi.aa hV));obtain ⟨⟨x,ts,er⟩,hr⟩ : ∃r,mh P M mod N L=r:=⟨_,rfl⟩
 obtain ⟨d,hd⟩ : ∃d,bK (df P M mod N L).2.1=d:=⟨_,rfl⟩
 obtain ⟨re,hre⟩ : ∃re,(df P M mod N L).2.2=re:=⟨_,rfl⟩
 obtain ⟨me,hme⟩ : ∃me,vD P M mod N L x ts=me:=⟨_,rfl⟩
 obtain ⟨mv,hmv⟩ : ∃mv,yu P M mod N L x ts=mv:=⟨_,rfl⟩
 have H3 : Hid (∀V ax nx cx at' nt ct,NS w V->Ints V ax nx x->ch V at' nt ts->Calls prog 27 #[.agg #[.int .i64 P,.int .i64 M,.slice am mn cm,.int .i64 N,.slice a n c],.agg #[.slice ax nx cx,.slice at' nt ct]] V λe w'=>e = .returned (.tuple #[.int .i64 mv,.int .i64 me])/\NS V w'):=λV ax nx cx at' nt ct hV hx ht=>by have h:=qu P M am mn cm mod N a n c L ax nx cx x at' nt ct ts V (hmod.aa hV) (hi.aa hV) hx ht;rw [hme,hmv] at h;exact h
 have HL : Hid (er=0->re=0/\me=0/\mv=(d : Nat)):=λh=>by have h1:=Ec (P:=P) (M:=M) (mod:=mod) (N:=N) (L:=L) (by rw [hr];exact h);rw [hr,hre,hd,hme,hmv] at h1;exact h1
 rw [hr] at H1 H2;rw [hd,hre] at H4;unfold jQ at H1 H2;dsimp only at H1 H2;generalize aJ P M mod N L=ce at *;generalize Cv 300 P M mod N L=cn at *;clear hmod hi hr hd hre hme hmv;go_enter func4,ntmps4;go_upto_region 1 with fail;obtain ⟨W,hW⟩ : ∃W : World,W=w.alloc (.cells #[.int .i64 P,.int .i64 M,.slice am mn cm,.int .i64 N,.slice a n c] 27):=⟨_,rfl⟩
 rw [<- hW];have hbW : NS w W:=by rw [hW];exact aw _ _
 have x0 : aZ W w.heap.size [.int .i64 P,.int .i64 M,.slice am mn cm,.int .i64 N,.slice a n c]:=by rw [hW];exact Nj _ _ _ rfl
 have HS : Hid (∀V,NS W V->V.cell? ⟨w.heap.size,0,none⟩=some (.int .i64 P)/\V.cell? ⟨w.heap.size,1,none⟩=some (.int .i64 M)/\V.cell? ⟨w.heap.size,2,none⟩=some (.slice am mn cm)/\V.cell? ⟨w.heap.size,3,none⟩=some (.int .i64 N)/\V.cell? ⟨w.heap.size,4,none⟩=some (.slice a n c)):=λV hV=>by have x1:=x0.aa hV;exact ⟨x1.cell 0 rfl,x1.cell 1 rfl,x1.cell 2 rfl,x1.cell 3 rfl,x1.cell 4 rfl⟩
 have HbW:=Z5 hbW;clear hW x0 hbW;go_cut [42] (λv wx=>Ik v/\NS W wx);case first =>
  go_wp2_with fail
  refine (oO W).mono ?_
  rintro e w1 ⟨rfl,hb1⟩
  obtain ⟨c0,c1,c2,c3,c4⟩:=HS.out w1 hb1
  go_wp2_with fail
  refine (HSm.out w1 (Nh HbW.out hb1)).mono ?_
  rintro e w2 ⟨z,rfl,_,hb2⟩
  have hB2:=Nh hb1 hb2
  clear c0 c1 c2 c3 c4
  cases z
  ·go_wp2_with fail
   go_meet
   exact ⟨⟨_,rfl⟩,hB2⟩
  obtain ⟨c0,c1,c2,c3,c4⟩:=HS.out w2 hB2
  go_wp2_with fail
  refine (HCn.out w2 (Nh HbW.out hB2)).mono ?_
  rintro e w3 ⟨rfl,hb3⟩
  have hB3:=Nh hB2 hb3
  clear c0 c1 c2 c3 c4
  rcases (show (cn == 0)=true\/(cn == 0)=false by cases (cn == 0) <;> simp) with e1 | e1
  ·obtain ⟨c0,c1,c2,c3,c4⟩:=HS.out w3 hB3
   go_wp2_with fail
   refine (HCk.out w3 (Nh HbW.out hB3)).mono ?_
   rintro e V ⟨rfl,hb4⟩
   have hBV:=Nh hB3 hb4
   clear c0 c1 c2 c3 c4
   rcases (show (ce == 0)=true\/(ce == 0)=false by cases (ce == 0) <;> simp) with e2 | e2
   ·go_wp2_with fail
    go_meet
    exact ⟨⟨_,rfl⟩,hBV⟩
   obtain ⟨c0,c1,c2,c3,c4⟩:=HS.out V hBV
   go_wp2_with fail
   refine (A7 n (max 0 (min (wrap64 (N - (n : Int))) 14)) (by omega) (by omega) V).mono ?_
   rintro e w6 ⟨z,rfl,rfl⟩
   clear c0 c1 c2 c3 c4
   go_wp2_with fail
   go_meet
   exact ⟨⟨_,rfl⟩,hBV⟩
  ·generalize w3=V at *
   have hBV:=hB3
   obtain ⟨c0,c1,c2,c3,c4⟩:=HS.out V hBV
   go_wp2_with fail
   refine (A7 n (max 0 (min (wrap64 (N - (n : Int))) 14)) (by omega) (by omega) V).mono ?_
   rintro e w6 ⟨z,rfl,rfl⟩
   clear c0 c1 c2 c3 c4
   go_wp2_with fail
   go_meet
   exact ⟨⟨_,rfl⟩,hBV⟩
 obtain ⟨⟨z,rfl⟩,hB⟩:=hcut;generalize wc=Y at *;cases z
 rotate_left
 ·go_wp2_with fail;refine (oO Y).mono ?_;rintro e w3 ⟨rfl,hb3⟩;have hF:=Nh HbW.out (Nh hB hb3);go_wp2_with fail;go_ret;exact ⟨rfl,hF⟩
 obtain ⟨c0,c1,c2,c3,c4⟩:=HS.out Y hB;go_wp2_with fail;refine (H1.out Y (Nh HbW.out hB)).mono ?_;rintro e w4 ⟨hb4,ax,nx,cx,at',nt,ct,rfl,hx4,ht4⟩;have hB4:=Nh hB hb4;clear c0 c1 c2 c3 c4 H1;obtain ⟨U4,hU4⟩ : ∃U : World,U=w4.alloc (.cells #[.slice ax nx cx,.slice at' nt ct] 49):=⟨_,rfl⟩
 have hb4' : NS w4 U4:=by rw [hU4];exact aw _ _
 have hX4 : aZ U4 w4.heap.size [.slice ax nx cx,.slice at' nt ct]:=by rw [hU4];exact Nj _ _ _ rfl
 have hBU4:=Nh hB4 hb4';have hI4:=hx4.aa hb4';have hM4:=ht4.aa hb4';have H4':=Z5 (Jg hX4 (Jg hI4 hM4));obtain ⟨c0,c1,c2,c3,c4⟩:=HS.out U4 hBU4;rw [hU4] at c0 c1 c2 c3 c4;have HU4:=Z5 hU4;clear hU4 hX4 hI4 hM4 hx4 ht4;go_wp2_with fail;rw [<- HU4.out];refine (H2.out U4 (Nh HbW.out hBU4)).mono ?_;rintro e w5 ⟨hb5,bx,mx,dx,bt,mt,dt,rfl,hx5,ht5⟩;have hB5:=Nh hBU4 hb5;clear c0 c1 c2 c3 c4 H2;obtain ⟨U5,hU5⟩ : ∃U : World,U=w5.alloc (.cells #[.slice bx mx dx,.slice bt mt dt] 49):=⟨_,rfl⟩
 have hb5' : NS w5 U5:=by rw [hU5];exact aw _ _
 have hX5 : aZ U5 w5.heap.size [.slice bx mx dx,.slice bt mt dt]:=by rw [hU5];exact Nj _ _ _ rfl
 have hBU5:=Nh hB5 hb5';have hbb:=Nh hb5 hb5';have HX:=Z5 (Jg (H4'.out.1.aa hbb) (Jg hX5 (Jg (H4'.out.2.1.aa hbb) (Jg (H4'.out.2.2.aa hbb) (Jg (hx5.aa hb5') (ht5.aa hb5'))))));have HZ : Hid (∀V,NS U5 V->(V.cell? ⟨w.heap.size,0,none⟩=some (.int .i64 P)/\V.cell? ⟨w.heap.size,1,none⟩=some (.int .i64 M)/\V.cell? ⟨w.heap.size,2,none⟩=some (.slice am mn cm)/\V.cell? ⟨w.heap.size,3,none⟩=some (.int .i64 N)/\V.cell? ⟨w.heap.size,4,none⟩=some (.slice a n c)) /\
   (V.cell? ⟨w4.heap.size,0,none⟩=some (.slice ax nx cx)/\V.cell? ⟨w4.heap.size,1,none⟩=some (.slice at' nt ct))/\V.cell? ⟨w5.heap.size,0,none⟩=some (.slice bx mx dx)/\V.cell? ⟨w5.heap.size,1,none⟩=some (.slice bt mt dt)):=λV hV =>
  ⟨HS.out V (Nh hBU5 hV),⟨(HX.out.1.aa hV).cell 0 rfl,(HX.out.1.aa hV).cell 1 rfl⟩,(HX.out.2.1.aa hV).cell 0 rfl,(HX.out.2.1.aa hV).cell 1 rfl⟩
 obtain ⟨⟨c0,c1,c2,c3,c4⟩,⟨p0,p1⟩,q0,q1⟩:=HZ.out U5 (I1 _ _);rw [hU5] at c0 c1 c2 c3 c4 p0 p1 q0 q1;have HU5:=Z5 hU5;have HSI:=Z5 (gS ax nx cx x bx mx dx x (w:=U5) HX.out.2.2.1 HX.out.2.2.2.2.1);have HST:=Z5 (λV (hV : NS U5 V)=>xa at' nt ct ts bt mt dt ts V (HX.out.2.2.2.1.aa hV) (HX.out.2.2.2.2.2.aa hV));rw [show decide (x=x)=true from Jm rfl] at HSI;rw [show decide (ts=ts)=true from Jm rfl] at HST;have HF5:=Z5 (Nh HbW.out hBU5);have e0 : (er != er)=false:=by simp
 clear hU5 hX5 hx5 ht5 hbb HU4 H4' hb4 hb5 hb4' hb5' HS HSm HCn HCk;go_upto_region 5 with fail;rw [<- HU5.out] at c0 c1 c2 c3 c4 p0 p1 q0 q1 ⊢;go_wp2_with fail;refine HSI.out.mono ?_;rintro e w6 ⟨rfl,r6⟩;have hb6:=r6.below;clear r6 c0 c1 c2 c3 c4 p0 p1 q0 q1;obtain ⟨⟨c0,c1,c2,c3,c4⟩,⟨p0,p1⟩,q0,q1⟩:=HZ.out w6 hb6;go_wp2_with fail;refine (HST.out w6 hb6).mono ?_;rintro e w7 ⟨rfl,hb7⟩;have hb67:=Nh hb6 hb7;have hF7:=Nh HF5.out hb67;clear c0 c1 c2 c3 c4 p0 p1 q0 q1;by_cases hE : er=0;rotate_left
 ·have e3 : (er != 0)=true:=by simpa using hE
  clear hE;go_wp2_with fail;go_ret;exact ⟨rfl,hF7⟩
 obtain ⟨h1,h2,h3⟩:=HL.out hE;subst hE h1 h2 h3;obtain ⟨⟨c0,c1,c2,c3,c4⟩,⟨p0,p1⟩,q0,q1⟩:=HZ.out w7 hb67;have HC:=Z5 (H3.out w7 ax nx cx at' nt ct hF7 (HX.out.2.2.1.aa hb67) (HX.out.2.2.2.1.aa hb67));clear H3 HL e0;go_wp2_with fail;refine HC.out.mono ?_;rintro e w8 ⟨rfl,hb8⟩;have hb68:=Nh hb67 hb8;clear c0 c1 c2 c3 c4 p0 p1 q0 q1 HC;obtain ⟨⟨c0,c1,c2,c3,c4⟩,⟨p0,p1⟩,q0,q1⟩:=HZ.out w8 hb68;have HD:=Z5 (H4.out w8 (Nh HF5.out hb68));go_wp2_with fail;refine HD.out.mono ?_;rintro e w9 ⟨rfl,hb9⟩;have hF:=Nh HF5.out (Nh hb68 hb9);have e4 : ((d : Int) == (d : Int))=true:=by simp
 clear c0 c1 c2 c3 c4 p0 p1 q0 q1 HD;go_wp2_with fail;go_ret;exact ⟨rfl,hF⟩
end Go.Proofs.YtcfmiocdlcapoaaGreat
