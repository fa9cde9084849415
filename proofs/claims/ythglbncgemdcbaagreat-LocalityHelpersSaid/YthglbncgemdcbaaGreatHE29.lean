import Derived.Test.YthglbncgemdcbaaGreatHE26
import Derived.Test.YthglbncgemdcbaaGreatHE25
namespace Go.Proofs.YthglbncgemdcbaaGreat
set_option linter.all false
set_option maxRecDepth 100000
set_option maxHeartbeats 8000000
open Go.RowKit Go.Proofs.Tryz
theorem DK : (prog.info? 103).map (λi=>(i.zero,i.size,i.bytes))=some (some (.agg #[.slice none 0 0]),1,24):=by kernel_rfl
theorem uP {P : Program} {w : World} {ops : Array Oper} {rest : List Oper} {o : Oper} {ac : Act} {Q : Exit->Act->World->Prop}
  (hg : o.guard=none) (s x : Operand) (t e : TypeId) (hop : o.op = .call { callee:=.builtin .append,args:=#[s,x],argTypes:=#[t,t] }) (z : Value) (bytes : Nat)
  (h1 : P.underlying t=some (.slice e)) (h2 : (P.info? e).map (λi=>(i.zero,i.size,i.bytes))=some (some z,1,bytes)) (hz : z.cells.size=1)
  (B : Nat) (a : OA) (n c : Nat) (xs : List Value) (hs : ac.eval s = .slice a n c) (hown : w.ownsRow B e 1 (.slice a n c) n xs)
  (ad : Addr) (cc : Nat) (u : Value) (hx : ac.eval x = .slice (some ad) 1 cc) (hu : w.cell? ad=some u) (h1c : u.oneCell'=true)
  (b2 : (n+1) * bytes<=140737488355328) (b3 : n+1<=maxLen) (hB : B<=w.heap.size)
  (hK : ∀a' c' w',w'.ownsRow B e 1 (.slice a' (n+1) c') (n+1) (xs ++ [u])->w.grownBy w' (Value.slice a n c).ownBlock->(∀b,b<w.heap.size->eA a b->eA a' b)->wpList P ops Q rest (ac.put o.dst (.slice a' (n+1) c')) w') :
  wpList P ops Q (o :: rest) ac w:=by
 obtain ⟨i,hi,hz0,hz1,hz2⟩:=info_parts h2;refine wpList_append_own_at w hg s x t hop B e i z 1 bytes h1 hi hz0 hz1 hz2 hz (by decide) _ n xs hs hown ad 1 cc [u] hx rfl ?_ ?_ b3 b2 hB λv' w' hown' hgr _ hat=>?_
 ·intro j v hj;match j,hj with
  | 0,hj=>simp at hj;subst hj;simpa [Addr.add] using hu
 ·intro v hv;simp at hv;subst hv;exact h1c
 ·obtain ⟨a',c',rfl,_⟩:=Me hown';refine hK a' c' w' hown' hgr λb hb hapt=>?_;have h:=hapt.own n c;rcases hat with h3 | h3
  ·exact eA.mU (n:=n+1) (c:=c') (by rw [h3];exact h)
  ·exact eA.mU (n:=n+1) (c:=c') (by rw [h3];intro h4;cases h4;omega)
structure TX where
 a : OA
 c : Nat
 T : Ll
def E9 (y : TX) : Value:=.slice y.a y.T.length y.c
theorem EI {w w' : World} {B : Nat} {e : TypeId} {a : OA} {n c : Nat} {xs : List Value} (h : w.ownsRow B e 1 (.slice a n c) n xs) (hb : a ≠ none->w'.heap[ablk a]? = w.heap[ablk a]?) : w'.ownsRow B e 1 (.slice a n c) n xs:=by
 refine ⟨h.1,?_⟩;rcases h.2 with h2 | ⟨g,cap,cur,hv,hg,hh,r⟩
 ·exact .inl h2
 ·cases hv
  exact .inr ⟨g,_,cur,rfl,hg,by rw [show w'.heap[g]? = w.heap[g]? from hb (by simp)];exact hh,r⟩
theorem aB.GD {w w' : World} {A A' : Nat->Prop} (h : aB w w' A A) (hs : ∀b,A' b->A b\/w.heap.size<=b) : aB w w' A A':=⟨h.os,h.tape,h.output,h.size,h.block,hs⟩
theorem fQ.yj {A A' : Nat->Prop} {w w' : World} {a : OA} {n : Nat} {L : Ll} (h : fQ A w a n L) (hM : aB w w' A A') : fQ A' w' a n L :=
 ⟨h.len,h.pl,h.max,λhn=>hM.not (h.jX.lt hn) (h.no hn),λi hi=>by obtain ⟨b,m,c,h1,h2,h3⟩:=h.cell i hi;exact ⟨b,m,c,hM.cell h1 (h.no (by omega)),h2.dG hM h3,λhm=>hM.not (h2.lt hm) (h3 hm)⟩⟩
theorem aO.Gp {w : World} {g : Nat} {x y : Value} (h : aO w g [x,y]) (u : Value) : aO (w.setCell ⟨g,1,none⟩ u) g [x,u]:=by
 have hc0:=h.cell 0 rfl;have hc1:=h.cell 1 rfl;refine ⟨by have:=h.1;simpa using this,λi v hv=>?_,λi=>by rw [IM];exact h.2.2 i⟩;match i,hv with
 | 0,hv=>simp at hv;subst hv;rw [H9 _ _ _ _ (by simp)];exact hc0
 | 1,hv=>simp at hv;subst hv;exact Ih w _ _ hc1
 | i+2,hv=>simp at hv
def TA (B Bo : Nat) (at' : OA) : Nat->Prop:=λb=>b<B\/b=Bo\/(at' ≠ none/\b=ablk at')
structure jW (B : Nat) (V : World) (Bo : Nat) (v0 : Value) (at' : OA) (ct : Nat) (tt : List TX) : Prop where
 bo : B<=Bo
 box : aO V Bo [v0,.slice at' tt.length ct]
 tow : V.ownsRow B 103 1 (.slice at' tt.length ct) tt.length (tt.map E9)
 at1 : eA at' Bo
 tx : ∀y ∈ tt,fQ (TA B Bo at') V y.a y.T.length y.T/\y.T.length<=y.c
section
variable {B : Nat} {V V' w5 : World} {Bo : Nat} {v0 : Value} {at' : OA} {ct : Nat} {tt : List TX} {o : Obj}
theorem jW.af (h : jW B V Bo v0 at' ct tt) (hb : Mv V V') : jW B V' Bo v0 at' ct tt :=
 ⟨h.bo,h.box.af hb,bj h.tow hb,h.at1,λy hy=>⟨(h.tx y hy).1.af hb,(h.tx y hy).2⟩⟩
theorem jW.start (hB : B<=Bo) (h : aO V Bo [v0,.slice none 0 0]) : jW B V Bo v0 none 0 [] :=
 ⟨hB,h,cF,.inl rfl,λy hy=>by simp at hy⟩
theorem jW.lt (h : jW B V Bo v0 at' ct tt) : ∀b,TA B Bo at' b->b<V.heap.size:=λb hb=>by
 have h0:=h.bo;have h9:=h.box.1;rcases hb with h1 | rfl | ⟨h1,rfl⟩
 ·omega
 ·exact h.box.1
 ·exact (aS h.tow h1).2
theorem jW.Gm (h : jW B V Bo v0 at' ct tt) {x : TX} (hx : fQ (TA B Bo at') V x.a x.T.length x.T) (hxc : x.T.length<=x.c) {a5 : OA} {c5 : Nat}
  (hown : w5.ownsRow B 103 1 (.slice a5 (tt.length+1) c5) (tt.length+1) (tt.map E9 ++ [E9 x])) (hg : (V.alloc o).grownBy w5 (Value.slice at' tt.length ct).ownBlock) (hap : ∀b,b<(V.alloc o).heap.size->eA at' b->eA a5 b) :
  jW B (w5.setCell ⟨Bo,1,none⟩ (.slice a5 (tt.length+1) c5)) Bo v0 a5 c5 (tt ++ [x])/\∀w0,Below B w0 V->Below B w0 (w5.setCell ⟨Bo,1,none⟩ (.slice a5 (tt.length+1) c5)):=by
 have hne : a5 ≠ none:=λe=>by
  obtain ⟨y,z,hv,hp⟩:=Me hown;cases hv
  have:=hp (by omega);rw [e] at this;cases this
 have hsz : (V.alloc o).heap.size=V.heap.size+1:=by simp
 have hM0 : aB V (w5.setCell ⟨Bo,1,none⟩ (.slice a5 (tt.length+1) c5)) (TA B Bo at') (TA B Bo at') :=
  ((L4 (an V o) _).trans (Mn hg λh1=>.inr (.inr ⟨h1,rfl⟩))).trans (aB.qc (I:=TA B Bo at') (p:=⟨Bo,1,none⟩) _ (.inr (.inl rfl)) _)
 have hsub : ∀b,TA B Bo a5 b->TA B Bo at' b\/V.heap.size<=b:=λb hb=>by
  rcases hb with hb | hb | ⟨_,hb⟩
  ·exact .inl (.inl hb)
  ·exact .inl (.inr (.inl hb))
  ·rcases ID b V.heap.size with h1 | h1
   ·by_cases h2 : eA at' b
    ·rcases hap b (by omega) h2 with h3 | h3
     ·exact absurd h3 hne
     ·exact absurd hb.symm h3
    ·exact .inl (.inr (.inr ⟨λe=>h2 (.inl e),Iv λe=>h2 (.inr λe2=>e e2.symm)⟩))
   ·exact .inr h1
 have hM:=hM0.GD hsub;have hb5 : aO w5 Bo [v0,.slice at' tt.length ct]:=by have hx:=h.box.alloc o;have hBo:=h.box.1;have hb9 : w5.heap[Bo]? = (V.alloc o).heap[Bo]?:=hg.block Bo (by omega) λe=>h.at1.own _ _ e.symm;exact ⟨It hx.1 hg.size,λj v hv=>(Ii (w:=V.alloc o) (a:=⟨Bo,j,none⟩) hb9).trans (hx.2.1 j v hv),λj=>(Ix (w:=V.alloc o) (a:=⟨Bo,j,none⟩) hb9).trans (hx.2.2 j)⟩
 have hapB : eA a5 Bo:=hap Bo (by have:=h.box.1;omega) h.at1;refine ⟨⟨h.bo,?_,?_,hapB,λy hy=>?_⟩,λw0 hw=>(L3 (hw.alloc (by have:=h.bo;have:=h.box.1;omega) o) (h.tow.alloc o) hg (GQ _) (by have:=h.bo;have:=h.box.1;omega)).setCell (p:=⟨Bo,1,none⟩) h.bo _⟩
 ·rw [H5];exact hb5.Gp _
 ·rw [H5,II];exact dF hown _ (hapB.elim (λe=>.inl e) λe=>.inr e)
 ·rcases List.mem_append.1 hy with hy | hy
  ·exact ⟨(h.tx y hy).1.yj hM,(h.tx y hy).2⟩
  ·rw [List.mem_singleton.1 hy];exact ⟨hx.yj hM,hxc⟩
theorem jW.set (h : jW B V Bo v0 at' ct tt) {p : Addr} (hp : p.block<B) (v : Value) : jW B (V.setCell p v) Bo v0 at' ct tt:=by have hM : aB V (V.setCell p v) (TA B Bo at') (TA B Bo at'):=aB.qc (I:=TA B Bo at') (p:=p) _ (.inl hp) _;have hb:=h.bo;have hblk : ∀b,B<=b->(V.setCell p v).heap[b]? = V.heap[b]?:=λb h1=>Ia _ _ _ _ (by omega);refine ⟨h.bo,?_,EI h.tow λh1=>hblk _ (aS h.tow h1).1,h.at1,λy hy=>⟨(h.tx y hy).1.yj hM,(h.tx y hy).2⟩⟩;have hb9:=hblk Bo h.bo;exact ⟨by have:=h.box.1;simpa using this,λj v hv=>(Ii (w:=V) (a:=⟨Bo,j,none⟩) hb9).trans (h.box.2.1 j v hv),λj=>(Ix (w:=V) (a:=⟨Bo,j,none⟩) hb9).trans (h.box.2.2 j)⟩
end
def tC (T : List Ll) (i : Nat) : Ll:=T.getD i []
theorem tJ {l : List Ll} {i : Nat} (h : i<l.length) : tC l i=l[i]:=by simp [tC,h]
structure jl (w : World) (a : OA) (n : Nat) (TT : List Ll) : Prop where
 len : TT.length=n
 pl : Pl a n
 max : n<=maxLen
 cell : ∀i,i<n->∃b m c,w.cell? ⟨ablk a,aL a+i,none⟩=some (.slice b m c)/\bC w b m (tC TT i)/\m<=c
theorem jl.af {w w' : World} {a : OA} {n : Nat} {TT : List Ll} (h : jl w a n TT) (hb : Mv w w') : jl w' a n TT :=
 ⟨h.len,h.pl,h.max,λi hi=>by obtain ⟨b,m,c,h1,h2,h3⟩:=h.cell i hi;exact ⟨b,m,c,ak hb h1,h2.af hb,h3⟩⟩
theorem jW.trees {B : Nat} {V : World} {Bo : Nat} {v0 : Value} {at' : OA} {ct : Nat} {tt : List TX} (h : jW B V Bo v0 at' ct tt) : jl V at' tt.length (tt.map TX.T):=by
 refine ⟨by simp,?_,?_,λi hi=>?_⟩
 ·obtain ⟨a',c',hv,hp⟩:=Me h.tow;cases hv;exact hp
 ·rcases Jk tt.length with h0 | h0
  ·rw [h0];exact G0 _
  ·exact (bu h.tow 0 h0).2.2.2.2
 ·have h1:=(bu h.tow i hi).1;have e1 : (tt.map E9)[i]? = some (E9 tt[i]):=by rw [Js,Iu hi];rfl
  refine ⟨tt[i].a,tt[i].T.length,tt[i].c,by rw [h1,e1];rfl,?_⟩;rw [tJ (by rw [H8];exact hi),IF];exact ⟨(h.tx _ (Iw hi)).1.jX,(h.tx _ (Iw hi)).2⟩
theorem re {w w' : World} {ao : OA} {m c : Nat} {ad : Addr} (hg : w.grownBy w' (Value.slice ao m c).ownBlock) (hlt : ad.block<w.heap.size) (h : w.frozen? ad=false) (hne : eA ao ad.block) : w'.frozen? ad=false :=
 (Ix (w:=w) (a:=ad) (hg.block _ hlt λe=>hne.own m c e.symm)).trans h
def zL (T : Ll) (er : Int) (V : World) (e : Ending) (w' : World) : Prop:=∃av nv cv,e = .returned (.tuple #[.agg #[.slice av nv cv],.int .i64 er])/\bQ V.heap.size w' av nv T/\nv<=cv/\Mv V w'
theorem mW.Gl {V : Int × Ll} {w w' : World} {e : Ending} (h : mW V w e w') : zL (if V.1=0 then V.2 else []) V.1 w e w':=by
 obtain ⟨hb,⟨h1,rfl⟩ | ⟨h1,ar,cr,R,rfl,hO⟩⟩:=h
 ·rw [GU h1];exact ⟨none,0,0,rfl,Mp (aP.FX w' w.heap.size),GQ _,hb⟩
 ·rw [GV h1];exact ⟨ar,_,cr,by rw [h1],Mp hO,mP hO.own,hb⟩
theorem xL {P M : Int} {mod : LI} {m : Nat} {L : Ll} (hE : aG P M mod m L=0) : bL (ah P M.toNat mod) (aZ (ah P M.toNat mod) L m) m=aZ (ah P M.toNat mod) L m:=by
 obtain ⟨N',e,hm1,hm64,F,hR⟩:=bf hE;obtain rfl : m=N':=by omega
 exact nF F (mJ F (di F hR) (dI F hR).1 (dw F hR))
theorem rq (P M : Int) (am : OA) (mn cm : Nat) (mod : LI) (m : Nat) (a : OA) (n c : Nat) (L : Ll) (w : World) (hmod : Ints w am mn mod) (hi : bC w a n L) (hE : aG P M mod m L=0) :
  Calls prog 99 #[.agg #[.int .i64 P,.int .i64 M,.slice am mn cm,.int .i64 m,.slice a n c]] w (lS (ah P M.toNat mod) L m w):=by
 have HN : Hid (∀V,Mv w V->Calls prog 157 #[.agg #[.int .i64 P,.int .i64 M,.slice am mn cm],.slice a n c,.int .i64 m] V (lS (ah P M.toNat mod) L m V)):=λV hV=>by
  obtain ⟨N',e,hm1,hm64,F,hR⟩:=bf hE;obtain rfl : m=N':=by omega
  have hn:=hi.len;have hl:=ko hE;exact BW P M am mn cm mod m a n c L V (hmod.af hV) (hi.af hV) (aQ hE).1 hR (by omega) (by omega)
 clear hmod hi hE;unfold lS at HN ⊢;generalize aZ (ah P M.toNat mod) L m=D at *;go_enter func99,ntmps99;go_upto_region 1 with fail;obtain ⟨W,hW⟩ : ∃W : World,W=w.alloc (.cells #[.int .i64 P,.int .i64 M,.slice am mn cm,.int .i64 m,.slice a n c] 27):=⟨_,rfl⟩
 rw [<- hW];have hbW : Mv w W:=by rw [hW];exact an _ _
 have x0 : aO W w.heap.size [.int .i64 P,.int .i64 M,.slice am mn cm,.int .i64 m,.slice a n c]:=by rw [hW];exact LZ _ _ _ rfl
 have c0:=x0.cell 0 rfl;have c1:=x0.cell 1 rfl;have c2:=x0.cell 2 rfl;have c3:=x0.cell 3 rfl;have c4:=x0.cell 4 rfl;clear hW x0;go_wp2_with fail;refine (HN.out W hbW).mono ?_;rintro e w1 ⟨a1,k1,R,rfl,hO,hb1⟩;have hs:=hbW.size;have hF:=LY hbW hb1;have HO:=Z5 (aP.mono hO hs);clear hO c0 c1 c2 c3 c4;go_wp2_with fail;go_ret;exact ⟨a1,k1,R,rfl,HO.out,hF⟩
def iK (P M : Int) (mod : LI) (N : Int) (L : Ll) (w : World) (e : Ending) (w' : World) : Prop :=
 Mv w w'/\((aG P M mod N L ≠ 0/\e = .returned (.tuple #[.agg #[.int .i64 0,.int .i64 0,.slice none 0 0,.int .i64 0,.slice none 0 0],.int .i64 (aG P M mod N L)])) \/
  (aG P M mod N L=0/\∃a1 c1 a2 c2,e = .returned (.tuple #[.agg #[.int .i64 P,.int .i64 M,.slice a1 mod.length c1,.int .i64 N,.slice a2 (aZ (ah P M.toNat mod) L N.toNat).length c2],.int .i64 0])/\Ints w' a1 mod.length mod /\
   bC w' a2 (aZ (ah P M.toNat mod) L N.toNat).length (aZ (ah P M.toNat mod) L N.toNat)))
theorem DF {P M : Int} {mod : LI} {m : Nat} {L : Ll} (hE : aG P M mod m L=0) : (aZ (ah P M.toNat mod) L m).length<=m:=ko (kU hE).1
theorem nQ (P M : Int) (am : OA) (mn cm : Nat) (mod : LI) (N : Int) (a : OA) (n c : Nat) (L : Ll) (w : World) (hmod : Ints w am mn mod) (hi : bC w a n L) :
  Calls prog 45 #[.agg #[.int .i64 P,.int .i64 M,.slice am mn cm,.int .i64 N,.slice a n c]] w (iK P M mod N L w):=by
 have HK : Hid (∀V,Mv w V->Calls prog 35 #[.agg #[.int .i64 P,.int .i64 M,.slice am mn cm,.int .i64 N,.slice a n c]] V λe w'=>e = .returned (.int .i64 (aG P M mod N L))/\Mv V w'):=λV hV=>lG P M am mn cm mod N a n c L V (hmod.af hV) (hi.af hV);have HPa : Hid (aG P M mod N L=0->∀V,Mv w V->Calls prog 99 #[.agg #[.int .i64 P,.int .i64 M,.slice am mn cm,.int .i64 N,.slice a n c]] V λe w'=>∃a1 k1,e = .returned (.slice a1 (aZ (ah P M.toNat mod) L N.toNat).length k1)/\bC w' a1 (aZ (ah P M.toNat mod) L N.toNat).length (aZ (ah P M.toNat mod) L N.toNat)/\Mv V w'):=λhE V hV=>by obtain ⟨m,rfl,_⟩:=bf hE;rw [GW];refine (rq P M am mn cm mod m a n c L V (hmod.af hV) (hi.af hV) hE).mono ?_;rintro e w' ⟨a1,k1,R,rfl,hO,hb⟩;exact ⟨a1,k1,rfl,hO.jX,hb⟩
 have HMk : Hid (aG P M mod N L=0->∀V a1 k1,Mv w V->bC V a1 (aZ (ah P M.toNat mod) L N.toNat).length (aZ (ah P M.toNat mod) L N.toNat)->Calls prog 72 #[.agg #[.int .i64 P,.int .i64 M,.slice am mn cm],.slice a1 (aZ (ah P M.toNat mod) L N.toNat).length k1,.int .i64 N] V λe w' =>
   ∃a2 c2 a3 c3,e = .returned (.agg #[.int .i64 P,.int .i64 M,.slice a2 mod.length c2,.int .i64 N,.slice a3 (aZ (ah P M.toNat mod) L N.toNat).length c3])/\bA V.heap.size w' a2 mod.length mod/\bQ V.heap.size w' a3 (aZ (ah P M.toNat mod) L N.toNat).length (aZ (ah P M.toNat mod) L N.toNat)/\Mv V w'):=λhE V a1 k1 hV hM=>by
  obtain ⟨m,rfl,hm1,hm64,F,hR⟩:=bf hE;rw [GW] at hM ⊢;have hmn : mn<=8:=by have:=kQ (aQ hE).1;rw [<- hmod.len];exact this
  have hRd : bG (ah P M.toNat mod).El m (aZ (ah P M.toNat mod) L m):=by
   obtain ⟨N',e,_,_,_,hR'⟩:=bf (kU hE).1;obtain rfl : m=N':=by omega
   exact hR'
  have h:=u3 P M am mn cm mod m a1 (aZ (ah P M.toNat mod) L m).length k1 (aZ (ah P M.toNat mod) L m) V (hmod.af hV) hM (aQ hE).1 hRd (by omega) (by have h6:=DF hE;omega) (by omega);unfold pT at h;rw [xL hE] at h;exact h
 have HFin : Hid (∀a2 c2 a3 c3 w',aG P M mod N L=0->Mv w w'->Ints w' a2 mod.length mod->bC w' a3 (aZ (ah P M.toNat mod) L N.toNat).length (aZ (ah P M.toNat mod) L N.toNat) ->
   iK P M mod N L w (.returned (.tuple #[.agg #[.int .i64 P,.int .i64 M,.slice a2 mod.length c2,.int .i64 N,.slice a3 (aZ (ah P M.toNat mod) L N.toNat).length c3],.int .i64 0])) w'):=λa2 c2 a3 c3 w' hE hb h1 h2=>⟨hb,.inr ⟨hE,a2,c2,a3,c3,rfl,h1,h2⟩⟩
 have HNo : Hid (∀w',aG P M mod N L ≠ 0->Mv w w'->iK P M mod N L w (.returned (.tuple #[.agg #[.int .i64 0,.int .i64 0,.slice none 0 0,.int .i64 0,.slice none 0 0],.int .i64 (aG P M mod N L)])) w'):=λw' h hb=>⟨hb,.inl ⟨h,rfl⟩⟩
 generalize iK P M mod N L w=Post at *;generalize aG P M mod N L=ce at *;obtain ⟨q,hq⟩ : ∃q,(aZ (ah P M.toNat mod) L N.toNat).length=q:=⟨_,rfl⟩
 rw [hq] at HPa HMk HFin;clear hq;generalize aZ (ah P M.toNat mod) L N.toNat=D at *;have hHm:=Z5 hmod;clear hmod hi hHm;go_enter func45,ntmps45;go_wp2_with fail;obtain ⟨W,hW⟩ : ∃W : World,W=(w.alloc (.cells #[.int .i64 P,.int .i64 M,.slice am mn cm,.int .i64 N,.slice a n c] 27)).alloc (.cells #[.int .i64 0,.int .i64 0,.slice none 0 0,.int .i64 0,.slice none 0 0] 27):=⟨_,rfl⟩
 rw [<- hW];have hbW : Mv w W:=by rw [hW];exact du _ _ _
 have hsW : W.heap.size=w.heap.size+2:=by rw [hW];simp
 have x0 : aO W w.heap.size [.int .i64 P,.int .i64 M,.slice am mn cm,.int .i64 N,.slice a n c]:=by rw [hW];exact (LZ _ _ _ rfl).alloc _
 have z0 : aO W (w.heap.size+1) [.int .i64 0,.int .i64 0,.slice none 0 0,.int .i64 0,.slice none 0 0]:=by rw [hW];exact LZ _ _ _ (by simp)
 clear hW;have hS : ∀V,Mv W V->V.cell? ⟨w.heap.size,0,none⟩=some (.int .i64 P)/\V.cell? ⟨w.heap.size,1,none⟩=some (.int .i64 M)/\V.cell? ⟨w.heap.size,2,none⟩=some (.slice am mn cm)/\V.cell? ⟨w.heap.size,3,none⟩=some (.int .i64 N)/\V.cell? ⟨w.heap.size,4,none⟩=some (.slice a n c) /\
   aO V (w.heap.size+1) [.int .i64 0,.int .i64 0,.slice none 0 0,.int .i64 0,.slice none 0 0]:=λV hV=>by have x1:=x0.af hV;exact ⟨x1.cell 0 rfl,x1.cell 1 rfl,x1.cell 2 rfl,x1.cell 3 rfl,x1.cell 4 rfl,z0.af hV⟩
 have HS:=Z5 hS;have HbW:=Z5 hbW;have HsW:=Z5 hsW;refine (HK.out W hbW).mono ?_;rintro e w1 ⟨rfl,hb1⟩;have hF1:=LY hbW hb1;have hs1 : w.heap.size+2<=w1.heap.size:=by rw [<- hsW];exact hb1.size
 have Hs1:=Z5 hs1;clear hS x0 z0 hbW hsW hs1;have HS5 : Hid (∀(V : World) (v0 v1 v2 v3 v4 : Value),Mv w V->Mv w (((((V.setCell ⟨w.heap.size+1,0,none⟩ v0).setCell ⟨w.heap.size+1,1,none⟩ v1).setCell ⟨w.heap.size+1,2,none⟩ v2).setCell ⟨w.heap.size+1,3,none⟩ v3).setCell ⟨w.heap.size+1,4,none⟩ v4)):=λV v0 v1 v2 v3 v4 h =>
  (((((h.setCell (p:=⟨w.heap.size+1,0,none⟩) (by simp) _).setCell (p:=⟨w.heap.size+1,1,none⟩) (by simp) _).setCell (p:=⟨w.heap.size+1,2,none⟩) (by simp) _).setCell (p:=⟨w.heap.size+1,3,none⟩) (by simp) _).setCell (p:=⟨w.heap.size+1,4,none⟩) (by simp) _)
 by_cases h0 : ce=0;rotate_left
 ·have d0 : (ce != 0)=true:=by simpa using h0
  obtain ⟨_,_,_,_,_,zz6⟩:=HS.out w1 hb1;have z0:=zz6.cell 0 rfl;have z1:=zz6.cell 1 rfl;have z2:=zz6.cell 2 rfl;have z3:=zz6.cell 3 rfl;have z4:=zz6.cell 4 rfl;have f0:=zz6.frozen 0;have f1:=zz6.frozen 1;have f2:=zz6.frozen 2;have f3:=zz6.frozen 3;have f4:=zz6.frozen 4;have HF:=Z5 (HNo.out _ h0 (HS5.out w1 (.int .i64 0) (.int .i64 0) (.slice none 0 0) (.int .i64 0) (.slice none 0 0) hF1));clear h0 zz6;go_wp2_with fail;exact bodyPost_ret (v:=.tuple #[.agg #[.int .i64 0,.int .i64 0,.slice none 0 0,.int .i64 0,.slice none 0 0],.int .i64 ce]) (by simp [results,results45,go_sem,z0,z1,z2,z3,z4]) rfl HF.out
 have d0 : (ce != 0)=false:=by simp [h0]
 have HPa1:=Z5 (HPa.out h0);have HMk1:=Z5 (HMk.out h0);have HSet : Hid (∀(V : World) (a2 : OA) (c2 : Nat) (a3 : OA) (c3 : Nat),Mv w1 V->bA w1.heap.size V a2 mod.length mod->bQ w1.heap.size V a3 q D->Post (.returned (.tuple #[.agg #[.int .i64 P,.int .i64 M,.slice a2 mod.length c2,.int .i64 N,.slice a3 q c3],.int .i64 0])) (((((V.setCell ⟨w.heap.size+1,0,none⟩ (.int .i64 P)).setCell ⟨w.heap.size+1,1,none⟩ (.int .i64 M)).setCell ⟨w.heap.size+1,2,none⟩ (.slice a2 mod.length c2)).setCell ⟨w.heap.size+1,3,none⟩ (.int .i64 N)).setCell ⟨w.heap.size+1,4,none⟩ (.slice a3 q c3))):=λV a2 c2 a3 c3 hV hN hM=>by
  have h1:=Hs1.out;refine HFin.out a2 c2 a3 c3 _ h0 (HS5.out V _ _ _ _ _ (LY hF1 hV)) ?_ ?_
  ·exact (((((hN.setCell (p:=⟨w.heap.size+1,0,none⟩) (by simp;omega) _).setCell (p:=⟨w.heap.size+1,1,none⟩) (by simp;omega) _).setCell (p:=⟨w.heap.size+1,2,none⟩) (by simp;omega) _).setCell (p:=⟨w.heap.size+1,3,none⟩) (by simp;omega) _).setCell (p:=⟨w.heap.size+1,4,none⟩) (by simp;omega) _).ints
  ·exact (((((hM.setCell (p:=⟨w.heap.size+1,0,none⟩) (by simp;omega) _).setCell (p:=⟨w.heap.size+1,1,none⟩) (by simp;omega) _).setCell (p:=⟨w.heap.size+1,2,none⟩) (by simp;omega) _).setCell (p:=⟨w.heap.size+1,3,none⟩) (by simp;omega) _).setCell (p:=⟨w.heap.size+1,4,none⟩) (by simp;omega) _).jX
 obtain ⟨c0,c1,c2,c3,c4,_⟩:=HS.out w1 hb1;clear h0 HPa HMk HFin HNo HK;go_upto_region 4 with fail;go_region_law ((first
  | (go_simp;go_at_call 99;((with_reducible refine (HPa1.out _ (by first | exact hF1.drew | exact hF1)).mono ?_);rintro e w3 ⟨a3,k3,rfl,hM3,hb3⟩;have hb3w : Mv w1 w3:=(by first | exact LY (GS _ _).drew hb3 | exact hb3);obtain ⟨g0,g1,g2,g3,g4,_⟩:=HS.out w3 (LY hb1 hb3w)))
  | (go_simp;go_at_call 72;((with_reducible refine (HMk1.out _ a3 k3 (by first | exact LY hF1 hb3w | exact (LY hF1 hb3w).drew) (by first | exact hM3 | exact hM3.af (GS _ _).drew)).mono ?_);rintro e w5 ⟨a5,k5,a6,k6,rfl,hN5,hN6,hb5⟩;have hb5w : Mv w1 w5:=(by first | exact LY hb3w hb5 | exact LY hb3w.drew hb5);have HFi:=Z5 (HSet.out w5 a5 k5 a6 k6 hb5w (by first | exact hN5.mono hb3w.size | exact hN5.mono hb3w.drew.size) (by first | exact hN6.mono hb3w.size | exact hN6.mono hb3w.drew.size));obtain ⟨_,_,_,_,_,zz6⟩:=HS.out w5 (LY hb1 hb5w);have z0:=zz6.cell 0 rfl;have z1:=zz6.cell 1 rfl;have z2:=zz6.cell 2 rfl;have z3:=zz6.cell 3 rfl;have z4:=zz6.cell 4 rfl;have f0:=zz6.frozen 0;have f1:=zz6.frozen 1;have f2:=zz6.frozen 2;have f3:=zz6.frozen 3;have f4:=zz6.frozen 4;clear zz6 hN5 hN6))))
 all_goals (
  go_wp2_with fail
  exact bodyPost_ret (v:=.tuple #[.agg #[.int .i64 P,.int .i64 M,.slice a5 mod.length k5,.int .i64 N,.slice a6 q k6],.int .i64 0]) (by simp [results,results45,go_sem,z0,z1,z2,z3,z4]) rfl HFi.out)
theorem xB {P M : Int} {am : OA} {mn cm : Nat} {mod : LI} (hE : ba P M mod=true) (x y : Int) (w : World) (hmod : Ints w am mn mod) (hx : (ah P M.toNat mod).El x) (hy : (ah P M.toNat mod).El y) :
  Calls prog 114 #[.agg #[.int .i64 P,.int .i64 M,.slice am mn cm],.int .i64 x,.int .i64 y] w λe w'=>e = .returned (.int .i64 ((ah P M.toNat mod).ops.mul x y))/\Mv w w':=by
 obtain ⟨k,hk,hel,hq,hF,hA,_⟩:=fK hE;subst hk;obtain ⟨k',e2,hrf,hmods⟩:=en (P:=P) (M:=(k : Int)) (mod:=mod) (by rw [cU];exact hE);obtain rfl : k=k':=by omega
 rw [GW] at hx hy ⊢;rw [<- hel] at hx hy;rw [hA.mul x y hx hy];exact mc P k am mn cm mod x y w hrf (hmods w am mn hmod) (hrf.gE hx) (hrf.gE hy)
theorem yU {P M : Int} {am : OA} {mn cm : Nat} {mod : LI} (hE : ba P M mod=true) (x y : Int) (w : World) (hx : (ah P M.toNat mod).El x) (hy : (ah P M.toNat mod).El y) :
  Calls prog 113 #[.agg #[.int .i64 P,.int .i64 M,.slice am mn cm],.int .i64 x,.int .i64 y] w λe w'=>e = .returned (.int .i64 ((ah P M.toNat mod).ops.add x y))/\Mv w w':=by
 obtain ⟨k,hk,hel,hq,hF,hA,_⟩:=fK hE;subst hk;obtain ⟨k',e2,hrf,hmods⟩:=en (P:=P) (M:=(k : Int)) (mod:=mod) (by rw [cU];exact hE);obtain rfl : k=k':=by omega
 rw [GW] at hx hy ⊢;rw [<- hel] at hx hy;rw [hA.add x y hx hy];exact vq P k am mn cm x y w hrf (hrf.gE hx) (hrf.gE hy)
theorem Di {P M : Int} {mod : LI} (hB : ba P M mod=true) (am : OA) (mn cm : Nat) (w : World) :
  Calls prog 24 #[.agg #[.int .i64 P,.int .i64 M,.slice am mn cm]] w λe w'=>e = .returned (.int .i64 ((ah P M.toNat mod).q : Nat))/\Mv w w':=by obtain ⟨k,hk,hel,hq,hF,hA,_⟩:=fK hB;subst hk;have h:=gX P k am mn cm w;rw [GW];rw [hq];exact h
theorem AF {P M : Int} {am : OA} {mn cm : Nat} {mod : LI} {m : Nat} {L : Ll} (hE : aG P M mod m L=0) (ax : OA) (cx : Nat) (x : LI) (a : OA) (n c : Nat) (w : World)
  (hmod : Ints w am mn mod) (hx : Ints w ax n x) (hi : bC w a n L) (hxe : ∀k,k<L.length->(ah P M.toNat mod).El (nth x k)) :
  Calls prog 213 #[.agg #[.int .i64 P,.int .i64 M,.slice am mn cm],.slice ax n cx,.slice a n c,.int .i64 m] w λe w' =>
   ∃a1 c1,e = .returned (.slice a1 m c1)/\w'.ownsRow w.heap.size 3 1 (.slice a1 m c1) m ((cmbTo (ah P M.toNat mod).ops m x L L.length).map (Value.int .i64))/\Mv w w':=by
 obtain ⟨_,_,hm64,_⟩:=aQ hE;have hn : n<=256:=by rw [<- hi.len];exact (dT hE).choose_spec.2.2.2.1
 have hil:=hi.len;obtain ⟨m',em,_,_,_,hR⟩:=bf hE;obtain rfl : m=m':=by omega
 obtain ⟨k,hk,hel,hq,hF,hA,_⟩:=fK (aQ hE).1;subst hk;obtain ⟨k',e2,hrf,hmods⟩:=en (P:=P) (M:=(k : Int)) (mod:=mod) (by rw [cU];exact (aQ hE).1);obtain rfl : k=k':=by omega
 rw [GW] at hxe hR ⊢;rw [<- hel] at hxe hR;have hag:=sT hF hA hR hxe;refine (uy P k am mn cm mod ax cx x a n c L m w ⟨hrf,hmods w am mn hmod⟩ hx hi (λj hj=>hxe j (by omega)) hR
  (λj hj=>by rw [<- hag j (by omega)];exact (jN hF hR hxe j (by omega)).1) (by omega) (by omega)).mono ?_
 rintro e w' ⟨a1,c1,rfl,hown,hb⟩;refine ⟨a1,c1,rfl,?_,hb⟩;rw [hag _ (GQ _),hil];exact hown
def tn (q n t i : Nat) : LI:=List.replicate (n - t) 0 ++ digN q t i
theorem Ck (q n t i : Nat) (h : t<n) : (tn q n t i).set (n - 1 - t) ((i / q ^ t % q : Nat) : Int)=tn q n (t+1) i:=by
 unfold tn;have e : n - t=(n - 1 - t)+1:=by omega
 have e2 : n - (t+1)=n - 1 - t:=by omega
 rw [e2,e,digN,List.replicate_succ',IZ,J8 _ _ (by simp),KZ,Ko];rfl
theorem Ar (P M : Int) (am : OA) (mn cm : Nat) (mod : LI) (m : Nat) (a : OA) (n c : Nat) (L : Ll) (i : Nat) (w : World) (hmod : Ints w am mn mod) (hi : bC w a n L) (hE : aG P M mod m L=0) (hi6 : i<=65536) :
  Calls prog 160 #[.agg #[.int .i64 P,.int .i64 M,.slice am mn cm,.int .i64 m,.slice a n c],.int .i64 i] w λe w' =>
   ∃a1 c1,e = .returned (.slice a1 m c1)/\w'.ownsRow w.heap.size 3 1 (.slice a1 m c1) m ((cmbTo (ah P M.toNat mod).ops m (digN (ah P M.toNat mod).q L.length i) L L.length).map (Value.int .i64))/\Mv w w':=by
 have hq:=oT hE;have hn : n<=256:=by rw [<- hi.len];exact (dT hE).choose_spec.2.2.2.1
 have HO : Hid (∀V,Calls prog 24 #[.agg #[.int .i64 P,.int .i64 M,.slice am mn cm]] V λe w'=>e = .returned (.int .i64 ((ah P M.toNat mod).q : Nat))/\Mv V w'):=λV=>Di (aQ hE).1 am mn cm V;have hil:=hi.len;subst hil;have HC : Hid (∀V ax cx,Mv w V->Ints V ax L.length (digN (ah P M.toNat mod).q L.length i)->Calls prog 213 #[.agg #[.int .i64 P,.int .i64 M,.slice am mn cm],.slice ax L.length cx,.slice a L.length c,.int .i64 m] V λe w' =>
   ∃a1 c1,e = .returned (.slice a1 m c1)/\w'.ownsRow V.heap.size 3 1 (.slice a1 m c1) m ((cmbTo (ah P M.toNat mod).ops m (digN (ah P M.toNat mod).q L.length i) L L.length).map (Value.int .i64))/\Mv V w'):=λV ax cx hV hx =>
  AF hE ax cx (digN (ah P M.toNat mod).q L.length i) a L.length c V (hmod.af hV) hx (hi.af hV) (λk hk =>
   tV (q:=(ah P M.toNat mod).q) (n:=i) (by omega) L.length _ (aH (l:=digN (ah P M.toNat mod).q L.length i) (i:=k) (by rw [qj];exact hk)))
 obtain ⟨X,hX⟩ : ∃X,cmbTo (ah P M.toNat mod).ops m (digN (ah P M.toNat mod).q L.length i) L L.length=X:=⟨_,rfl⟩
 rw [hX] at HC ⊢;obtain ⟨_,hq2,hq256⟩:=hq;generalize (ah P M.toNat mod).q=q at *;have hpl:=hi.pl;clear hX hmod hE hi;generalize L.length=n at *;go_enter func160,ntmps160;go_upto_region 1 with fail;obtain ⟨W,hW⟩ : ∃W : World,W=w.alloc (.cells #[.int .i64 P,.int .i64 M,.slice am mn cm,.int .i64 m,.slice a n c] 27):=⟨_,rfl⟩
 rw [<- hW];have hbW : Mv w W:=by rw [hW];exact an _ _
 have x0 : aO W w.heap.size [.int .i64 P,.int .i64 M,.slice am mn cm,.int .i64 m,.slice a n c]:=by rw [hW];exact LZ _ _ _ rfl
 have HX:=Z5 x0;have HbW:=Z5 hbW;have c0:=x0.cell 0 rfl;have c1:=x0.cell 1 rfl;have c2:=x0.cell 2 rfl;clear hW x0 hbW;go_wp2_with fail;refine (HO.out W).mono ?_;rintro e w1 ⟨rfl,hb1⟩;clear c0 c1 c2;have hF1:=LY HbW.out hb1;have y1:=HX.out.af hb1;have c4:=y1.cell 4 rfl;clear y1;go_wp2_with (at_make;refine bP rfl _ _ 22 3 rfl (.int .i64 0) 8 underlying22 bg rfl n rfl rfl (by omega) (by unfold maxLen;omega) ?_;intro a5 w5 hown hbel hge hlt5);clear c4;have hown0 : w5.ownsRow w1.heap.size 3 1 (.slice a5 n n) n ((tn q n 0 i).map (Value.int .i64)):=by rw [show tn q n 0 i=List.replicate n 0 by simp [tn,digN],Jn];exact hown
 clear hown hge hlt5;go_loopw [7,1] (λiv nv wr=>∃t : Nat,t<=n/\iv = .int .i64 ((n : Int) - 1 - t)/\nv = .int .i64 ((i / q ^ t : Nat) : Int)/\wr.ownsRow w1.heap.size 3 1 (.slice a5 n n) n ((tn q n t i).map (Value.int .i64))/\Mv w1 wr) (λiv _ _=>(intOf iv+1).toNat);case atStart=>exact ⟨0,G0 _,by go_num,by simp,hown0,hbel⟩
 case round =>
  clear hown0 hbel
  obtain ⟨t,ht,rfl,rfl,hown,hbr⟩:=hrel
  by_cases hlt : t<n
  ·have hset:=Ck q n t i hlt
   have Hset:=Z5 hset
   obtain ⟨x,hx⟩ : ∃x,i / q ^ t=x:=⟨_,rfl⟩
   have hx6 : x<=65536:=by rw [<- hx];exact H7 (Kk _ _) hi6
   have Hn : Hid (i / q ^ (t+1)=x / q):=by show _=_;rw [<- hx,Jt,Nat.div_div_eq_div_mul]
   rw [hx] at Hset ⊢
   have hqq : (q : Int) ≠ 0:=by omega
   have hqb : ((q : Int) == 0)=false:=by simpa using hqq
   have r1 : ((x : Nat) : Int).tmod (q : Nat)=((x % q : Nat) : Int):=by rw [IV (by omega)];simp
   have r2 : ((x : Nat) : Int).tdiv (q : Nat)=((x / q : Nat) : Int):=by rw [Ku (by omega)];simp
   have hxq : x / q<=x:=Kk _ _
   have hxm : x % q<=x:=Nat.mod_le _ _
   obtain ⟨y,hy⟩ : ∃y,x / q=y:=⟨_,rfl⟩
   obtain ⟨z,hz⟩ : ∃z,x % q=z:=⟨_,rfl⟩
   rw [hy] at r2 hxq Hn
   rw [hz] at r1 hxm Hset
   have r3 : IntKind.i64.wrap (y : Int)=y:=Ha _ (by omega)
   obtain ⟨j,hj⟩ : ∃j : Nat,n - 1 - t=j:=⟨_,rfl⟩
   have hjn : j<n:=by omega
   have hj2 : (n : Int) - 1 - t=j:=by omega
   have hj3 : (n : Int) - 1 - (t+1 : Nat)=(j : Int) - 1:=by omega
   rw [hj] at Hset
   rw [hj2]
   have Hj3:=Z5 hj3
   obtain ⟨hints,hmine⟩:=L0 hown
   have hpl5:=hints.pl
   have cz:=hints.cell j hjn
   have fz:=(hmine (by omega)).2 j hjn
   have hB:=(hmine (by omega)).1
   have d0 : decide ((0 : Int)<=(j : Int))=true:=by simp
   clear hx hset hy hz hj hj2 hj3 hxq hints hmine
   go_wp2_with fail
   go_roundw
   case rel =>
    have h:=bt hown j hjn (.int .i64 (z : Int))
    rw [<- Im,Hset.out] at h
    exact ⟨t+1,by omega,by rw [Hj3.out] <;> go_num,by rw [Hn.out],h,hbr.setCell hB _⟩
   case measure=>simp [intOf] <;> omega
  ·obtain rfl : t=n:=by omega
   have d0 : decide ((0 : Int)<=(t : Int) - 1 - t)=false:=by simp;omega
   have hrow : tn q t t i=digN q t i:=by simp [tn]
   rw [hrow] at hown
   have hF2:=LY hF1 hbr
   have HCm:=Z5 (HC.out wr a5 t hF2 (L0 hown).1)
   have y2:=HX.out.af (LY hb1 hbr)
   have c0:=y2.cell 0 rfl
   have c1:=y2.cell 1 rfl
   have c2:=y2.cell 2 rfl
   have c3:=y2.cell 3 rfl
   have c4:=y2.cell 4 rfl
   clear hrow hown y2
   go_wp2_with fail
   refine HCm.out.mono ?_
   rintro e w6 ⟨a6,c6,rfl,hown6,hb6⟩
   have HF:=Z5 (bd hown6 hF2.size)
   have hF3:=LY hF2 hb6
   clear c0 c1 c2 c3 c4 hown6
   go_wp2_with fail
   go_ret
   exact ⟨a6,c6,rfl,HF.out,hF3⟩
def na (er : Int) (S : Ll) (w : World) (e : Ending) (w' : World) : Prop :=
 Mv w w'/\((er ≠ 0/\e = .returned (.tuple #[.slice none 0 0,.int .i64 er]))\/(er=0/\∃a k c,e = .returned (.tuple #[.slice a k c,.int .i64 0])/\bC w' a k S))
theorem uH (P M : Int) (am : OA) (mn cm : Nat) (mod : LI) (m : Nat) (a : OA) (n c : Nat) (L : Ll) (w : World) (hmod : Ints w am mn mod) (hi : bC w a n L) (hE : aG P M mod m L=0) :
  Calls prog 104 #[.agg #[.int .i64 P,.int .i64 M,.slice am mn cm,.int .i64 m,.slice a n c]] w (na (iW (ah P M.toNat mod).q L.length) (wlkS (ah P M.toNat mod).ops (ah P M.toNat mod).q L (List.replicate m 0)) w):=by
 have HSz : Hid (∀V,Mv w V->Calls prog 46 #[.agg #[.int .i64 P,.int .i64 M,.slice am mn cm,.int .i64 m,.slice a n c]] V λe w' =>
   e = .returned (.tuple #[.int .i64 (lW (ah P M.toNat mod).q L.length),.int .i64 (iW (ah P M.toNat mod).q L.length)])/\Mv V w'):=λV hV=>by have h:=nZ P M am mn cm mod m a n c L V (hmod.af hV) (hi.af hV);unfold F8 Ga at h;rw [GV hE,GV hE] at h;exact h
 have hq:=(oT hE).2;have hln:=iL (ah P M.toNat mod).ops (ah P M.toNat mod).q L (List.replicate m 0);have HAt : Hid (∀V i,Mv w V->i<(ah P M.toNat mod).q ^ L.length->i<=65536->Calls prog 160 #[.agg #[.int .i64 P,.int .i64 M,.slice am mn cm,.int .i64 m,.slice a n c],.int .i64 (i : Nat)] V λe w' =>
   ∃a1 c1,e = .returned (.slice a1 m c1)/\w'.ownsRow V.heap.size 3 1 (.slice a1 m c1) m ((ai (wlkS (ah P M.toNat mod).ops (ah P M.toNat mod).q L (List.replicate m 0)) i).map (Value.int .i64))/\Mv V w'):=λV i hV hi1 hi2=>by rw [zX (by omega) hi1];exact Ar P M am mn cm mod m a n c L i V (hmod.af hV) (hi.af hV) hE hi2
 have HRl : Hid (∀i,i<(ah P M.toNat mod).q ^ L.length->(ai (wlkS (ah P M.toNat mod).ops (ah P M.toNat mod).q L (List.replicate m 0)) i).length=m):=λi hi1=>by
  rw [zX (by omega) hi1];obtain ⟨m',em,hm1,hm64,F,hR⟩:=bf hE;obtain rfl : m=m':=by omega
  exact (jN F hR (λk hk=>tV (q:=(ah P M.toNat mod).q) (n:=i) (by omega) L.length _ (aH (l:=digN (ah P M.toNat mod).q L.length i) (i:=k) (by rw [qj];exact hk))) L.length (GQ _)).1.1
 have hcase : (iW (ah P M.toNat mod).q L.length=0/\lW (ah P M.toNat mod).q L.length=(((ah P M.toNat mod).q ^ L.length : Nat) : Int)/\(ah P M.toNat mod).q ^ L.length<=65536)\/iW (ah P M.toNat mod).q L.length ≠ 0:=by
  by_cases h : ((ah P M.toNat mod).q : Int) ^ L.length<=65536
  ·refine .inl ⟨(l7 h).2,?_,?_⟩
   ·rw [(l7 h).1];simp
   ·have e : ((ah P M.toNat mod).q : Int) ^ L.length=(((ah P M.toNat mod).q ^ L.length : Nat) : Int):=by simp
    rw [e] at h;omega
  ·refine .inr ?_;rw [(qH h).2];decide
 have hm64:=(aQ hE).2.2.1;generalize iW (ah P M.toNat mod).q L.length=er at *;generalize lW (ah P M.toNat mod).q L.length=v at *;generalize wlkS (ah P M.toNat mod).ops (ah P M.toNat mod).q L (List.replicate m 0)=S at *;generalize (ah P M.toNat mod).q ^ L.length=NN at *;clear hmod hi hE hq;go_enter func104,ntmps104;go_upto_region 1 with fail;obtain ⟨W,hW⟩ : ∃W : World,W=w.alloc (.cells #[.int .i64 P,.int .i64 M,.slice am mn cm,.int .i64 m,.slice a n c] 27):=⟨_,rfl⟩
 rw [<- hW];have hbW : Mv w W:=by rw [hW];exact an _ _
 have x0 : aO W w.heap.size [.int .i64 P,.int .i64 M,.slice am mn cm,.int .i64 m,.slice a n c]:=by rw [hW];exact LZ _ _ _ rfl
 have HX:=Z5 x0;have HbW:=Z5 hbW;have c0:=x0.cell 0 rfl;have c1:=x0.cell 1 rfl;have c2:=x0.cell 2 rfl;have c3:=x0.cell 3 rfl;have c4:=x0.cell 4 rfl;clear hW x0 hbW;go_wp2_with fail;refine (HSz.out W HbW.out).mono ?_;rintro e w1 ⟨rfl,hb1⟩;have hF1:=LY HbW.out hb1;clear c0 c1 c2 c3 c4;rcases hcase with ⟨h0,hv,h6⟩ | h0;rotate_left
 ·have d0 : (er != 0)=true:=by simpa using h0
  have H0:=Z5 h0;clear h0;go_wp2_with fail;go_ret2;exact ⟨hF1,.inl ⟨H0.out,rfl⟩⟩
 subst h0;subst hv;have Hln:=Z5 hln;clear hln;go_wp2_with fail;go_loopw [6,7] (λsv iv wr=>∃(k : Nat) (a1 : OA) (c1 : Nat),k<=NN/\iv = .int .i64 k/\sv = .slice a1 k c1/\(∃R,aP wr w1.heap.size a1 k c1 R (S.take k))/\Mv w1 wr) (λ_ iv _=>NN - (intOf iv).toNat);case atStart=>exact ⟨0,none,0,G0 _,rfl,rfl,⟨[],by simpa using Mr w1 w1.heap.size⟩,GS _ _⟩
 case round =>
  obtain ⟨k,a1,c1,hk,rfl,rfl,⟨R,hO⟩,hbr⟩:=hrel
  by_cases hlt : k<NN
  ·have hF2:=LY hF1 hbr
   have HA:=Z5 (HAt.out wr k hF2 hlt (by omega))
   have hkS : k<S.length:=by rw [Hln.out];exact hlt
   have Htk : Hid (S.take (k+1)=S.take k ++ [ai S k]):=by show _=_;rw [Hj hkS,aD hkS]
   have HL:=Z5 (HRl.out k hlt)
   obtain ⟨x,hx⟩ : ∃x,ai S k=x:=⟨_,rfl⟩
   rw [hx] at HA Htk HL
   have y1:=HX.out.af (LY hb1 hbr)
   have c0:=y1.cell 0 rfl
   have c1':=y1.cell 1 rfl
   have c2:=y1.cell 2 rfl
   have c3:=y1.cell 3 rfl
   have c4:=y1.cell 4 rfl
   have hsz:=hbr.size
   clear hx hkS y1
   go_wp2_with fail
   refine HA.out.mono ?_
   rintro e w3 ⟨a3,c3',rfl,hown3,hb3⟩
   clear c0 c1' c2 c3 c4
   have hbn:=an w3 (.cells #[.slice a3 m c3'] 22)
   have hO3:=hO.af hb3
   have hO4:=hO.af (LY hb3 hbn)
   have hs4 : w1.heap.size<=(w3.alloc (.cells #[.slice a3 m c3'] 22)).heap.size:=by have h1:=hb3.size;simp;omega
   have Hown3:=Z5 hown3
   clear hown3
   go_wp2_with (at_builtin;refine aU rfl _ _ 25 22 rfl (.slice none 0 0) 24 underlying25 ew rfl w1.heap.size a1 k c1 _ rfl hO4.own ⟨w3.heap.size,0,none⟩ 1 (.slice a3 m c3') rfl (bm w3 _ _) rfl (by omega) (by unfold maxLen;omega) hs4 ?_;intro a5 c5 w5 hown5 hgr5 hap5)
   go_roundw
   case rel =>
    have hown4 : (w3.alloc (.cells #[.slice a3 m c3'] 22)).ownsRow w1.heap.size 3 1 (.slice a3 m c3') m (x.map (Value.int .i64)):=bd (bj Hown3.out (an _ _)) hsz
    have hra : a3 ≠ none->¬ bI a1 R (ablk a3):=λh0 hI=>by have h1:=(aS Hown3.out h0).1;have h2:=(hO.lt _ hI).2;omega
    have hP:=Mi hO4 (by rw [HL.out];exact hown4) hra (by rw [HL.out];exact hown5) hgr5 hap5
    exact ⟨k+1,a5,c5,by omega,by go_num,rfl,⟨_,by rw [Htk.out];exact hP⟩,L3 (LY hbr (LY hb3 hbn)) hO4.own hgr5 (GQ _) hs4⟩
   case measure=>simp [intOf] <;> omega
  ·obtain rfl : k=NN:=by omega
   rw [H6 (by rw [Hln.out];exact GQ _)] at hO
   have hF:=LY hF1 hbr
   have HO:=Z5 hO.jX
   clear hO
   go_wp2_with fail
   go_ret2
   exact ⟨hF,.inr ⟨rfl,a1,k,c1,rfl,HO.out⟩⟩
def Dz (P M : Int) (mod : LI) (N : Int) (L : Ll) : Int:=if aG P M mod N L=0 then qE P M mod N.toNat L else aG P M mod N L
theorem wP (P M : Int) (am : OA) (mn cm : Nat) (mod : LI) (N : Int) (a : OA) (n c : Nat) (L : Ll) (w : World) (hmod : Ints w am mn mod) (hi : bC w a n L) :
  Calls prog 49 #[.agg #[.int .i64 P,.int .i64 M,.slice am mn cm,.int .i64 N,.slice a n c]] w (na (Dz P M mod N L) (mS P M mod N.toNat L) w):=by
 have HD : Hid (∀V,Mv w V->Calls prog 45 #[.agg #[.int .i64 P,.int .i64 M,.slice am mn cm,.int .i64 N,.slice a n c]] V (iK P M mod N L V)):=λV hV=>nQ P M am mn cm mod N a n c L V (hmod.af hV) (hi.af hV);have HWd : Hid (aG P M mod N L=0->∀V a1 c1 a2 c2,Ints V a1 mod.length mod->bC V a2 (aZ (ah P M.toNat mod) L N.toNat).length (aZ (ah P M.toNat mod) L N.toNat)->Calls prog 104 #[.agg #[.int .i64 P,.int .i64 M,.slice a1 mod.length c1,.int .i64 N,.slice a2 (aZ (ah P M.toNat mod) L N.toNat).length c2]] V (na (Dz P M mod N L) (mS P M mod N.toNat L) V)):=λhE V a1 c1 a2 c2 h1 h2=>by rw [Dz,GV hE];obtain ⟨m,rfl,_⟩:=bf hE;rw [GW] at h2 ⊢;exact uH P M a1 _ c1 mod m a2 _ c2 _ V h1 h2 (kU hE).1
 have HE : Hid (aG P M mod N L ≠ 0->Dz P M mod N L=aG P M mod N L):=λh=>by rw [Dz,GU h]
 unfold iK at HD;unfold na at HWd ⊢;generalize Dz P M mod N L=er at *;generalize aG P M mod N L=ce at *;generalize mS P M mod N.toNat L=S at *;generalize aZ (ah P M.toNat mod) L N.toNat=D at *;obtain ⟨nm,hnm⟩ : ∃nm,mod.length=nm:=⟨_,rfl⟩
 obtain ⟨nd,hnd⟩ : ∃nd,D.length=nd:=⟨_,rfl⟩
 rw [hnm,hnd] at HD HWd;clear hmod hi hnm hnd;go_enter func49,ntmps49;go_upto_region 1 with fail;obtain ⟨W,hW⟩ : ∃W : World,W=w.alloc (.cells #[.int .i64 P,.int .i64 M,.slice am mn cm,.int .i64 N,.slice a n c] 27):=⟨_,rfl⟩
 rw [<- hW];have hbW : Mv w W:=by rw [hW];exact an _ _
 have x0 : aO W w.heap.size [.int .i64 P,.int .i64 M,.slice am mn cm,.int .i64 N,.slice a n c]:=by rw [hW];exact LZ _ _ _ rfl
 have c0:=x0.cell 0 rfl;have c1:=x0.cell 1 rfl;have c2:=x0.cell 2 rfl;have c3:=x0.cell 3 rfl;have c4:=x0.cell 4 rfl;have HbW:=Z5 hbW;clear hW x0 hbW;go_wp2_with fail;refine (HD.out W HbW.out).mono ?_;rintro e w1 ⟨hb1,⟨h1,rfl⟩ | ⟨h1,a1,k1,a2,k2,rfl,hI1,hM1⟩⟩
 ·have hF1:=LY HbW.out (LY hb1 (an w1 (.cells #[.int .i64 0,.int .i64 0,.slice none 0 0,.int .i64 0,.slice none 0 0] 27)));have d0 : (ce != 0)=true:=by simpa using h1
  have HR:=Z5 (HE.out h1);have H1:=Z5 h1;clear c0 c1 c2 c3 c4 h1;go_wp2_with fail;go_ret2;exact ⟨hF1,.inl ⟨by rw [HR.out];exact H1.out,by rw [HR.out] <;> rfl⟩⟩
 have HW1:=Z5 (HWd.out h1);have d0 : (ce != 0)=false:=by simp [h1]
 obtain ⟨U,hU⟩ : ∃U : World,U=w1.alloc (.cells #[.int .i64 P,.int .i64 M,.slice a1 nm k1,.int .i64 N,.slice a2 nd k2] 27):=⟨_,rfl⟩
 have hbU : Mv w1 U:=by rw [hU];exact an _ _
 have y0 : aO U w1.heap.size [.int .i64 P,.int .i64 M,.slice a1 nm k1,.int .i64 N,.slice a2 nd k2]:=by rw [hU];exact LZ _ _ _ rfl
 have hF:=LY HbW.out (LY hb1 hbU);have HC:=Z5 (HW1.out U a1 k1 a2 k2 (hI1.af hbU) (hM1.af hbU));clear c0 c1 c2 c3 c4 hI1 hM1 h1;have c0:=y0.cell 0 rfl;have c1:=y0.cell 1 rfl;have c2:=y0.cell 2 rfl;have c3:=y0.cell 3 rfl;have c4:=y0.cell 4 rfl;rw [hU] at c0 c1 c2 c3 c4;have HU:=Z5 hU;clear hU y0;go_wp2_with fail;rw [<- HU.out];refine HC.out.mono ?_;rintro e w2 ⟨hb2,⟨h1,rfl⟩ | ⟨h1,a3,k3,c3',rfl,hM⟩⟩
 ·have hF2:=LY hF hb2;clear c0 c1 c2 c3 c4;go_wp2_with fail;go_ret2;exact ⟨hF2,.inl ⟨h1,rfl⟩⟩
 ·have hF2:=LY hF hb2;have HM:=Z5 hM;clear c0 c1 c2 c3 c4 hM;go_wp2_with fail;go_ret2;exact ⟨hF2,.inr ⟨h1,a3,k3,c3',rfl,HM.out⟩⟩
theorem pd : ∀ {s t : LI},s.length=t.length->cmpL s t<0->∃i,i<s.length/\(∀j,j<i->nth s j=nth t j)/\nth s i<nth t i
 | [],[],_,h=>by simp [cmpL] at h
 | x :: s,y :: t,hl,h=>by
  rw [cmpL] at h;by_cases h1 : x<y
  ·exact ⟨0,by simp,λj hj=>by omega,by simpa [nth] using h1⟩
  ·rw [GU h1] at h;by_cases h2 : y<x
   ·rw [GV h2] at h;omega
   ·rw [GU h2] at h;obtain ⟨i,a1,a2,a3⟩:=pd (by simpa using hl) h;refine ⟨i+1,by simpa using a1,λj hj=>?_,by simpa [nth] using a3⟩;match j,hj with
    | 0,_=>show x=y;omega
    | j+1,hj=>simpa [nth] using a2 j (by omega)
theorem vZ : ∀ {s t : LI} {i : Nat},i<s.length->i<t.length->(∀j,j<i->nth s j=nth t j)->nth s i<nth t i->cmpL s t<0
 | x :: s,y :: t,0,_,_,_,h=>by
  have h' : x<y:=by simpa [nth] using h
  rw [cmpL,GV h'];omega
 | x :: s,y :: t,i+1,h1,h2,h3,h4=>by
  have h0 : x=y:=by simpa [nth] using h3 0 (by omega)
  rw [cmpL,GU (by omega),GU (by omega)];exact vZ (i:=i) (by simpa using h1) (by simpa using h2) (λj hj=>by simpa [nth] using h3 (j+1) (by omega)) (by simpa [nth] using h4)
theorem qI (a : OA) (n c : Nat) (x : LI) (w : World) (h : Ints w a n x) (hn : n<=1000000) :
  Calls prog 106 #[.slice a n c] w (bS w (bH x n (-1))):=by
 have HG1 : Hid (∀k : Nat,nth x k ≠ 0->bH x (k+1) (-1)=bH x k (-1) ++ [(k : Int)]):=λk h1=>by rw [gR,GV ⟨h1,by omega⟩]
 have HG2 : Hid (∀k : Nat,nth x k=0->bH x (k+1) (-1)=bH x k (-1)):=λk h1=>by rw [gR,GU];rintro ⟨h2,_⟩;exact h2 h1
 have HGl : Hid (∀k,(bH x k (-1)).length<=k):=λk=>eT _ _ _;have HI:=Z5 h;have hpl:=h.pl;have hmx:=h.max;unfold maxLen at hmx;obtain ⟨Z,hZ⟩ : ∃Z : Nat->LI,(λk=>bH x k (-1))=Z:=⟨_,rfl⟩
 have hZk : ∀k,bH x k (-1)=Z k:=λk=>by rw [<- hZ]
 simp only [hZk] at HG1 HG2 HGl ⊢;have HZ0 : Hid (Z 0=[]):=by rw [<- hZ];rfl
 clear hZk hZ h;go_enter func106,ntmps106;go_wp2_with fail;go_loopw [3,4] (λov iv wr=>∃(k g : Nat) (a1 : OA) (c1 : Nat),k<=n/\iv = .int .i64 k/\Hid ((Z k).length=g)/\ov = .slice a1 g c1/\wr.ownsRow w.heap.size 3 1 (.slice a1 g c1) g ((Z k).map (Value.int .i64))/\Mv w wr) (λ_ iv _=>n - (intOf iv).toNat);case atStart=>exact ⟨0,0,none,0,G0 _,rfl,by show _=_;rw [HZ0.out];rfl,rfl,by rw [HZ0.out];exact cF,GS _ _⟩
 case round =>
  obtain ⟨j,g,a2,c2,hj,rfl,Hg2,rfl,hown,hbz⟩:=hrel
  by_cases hltj : j<n
  ·have hgk : g<=j:=by have h:=HGl.out j;rw [Hg2.out] at h;omega
   have cj:=(HI.out.af hbz).cell j hltj
   have hG1:=HG1.out j
   have hG2:=HG2.out j
   obtain ⟨y,hy⟩ : ∃y,nth x j=y:=⟨_,rfl⟩
   rw [hy] at cj hG1 hG2
   clear hy
   by_cases hy0 : y=0
   ·have Hn:=Z5 (hG2 hy0)
    have d1 : (y != 0)=false:=by simpa using hy0
    clear hG1 hG2 hy0
    go_wp2_with fail
    go_roundw
    case rel=>exact ⟨j+1,g,a2,c2,by omega,by go_num,by show _=_;rw [Hn.out];exact Hg2.out,rfl,by rw [Hn.out];exact hown,hbz⟩
    case measure=>simp [intOf] <;> omega
   ·have d1 : (y != 0)=true:=by simpa using hy0
    have Hn:=Z5 (hG1 hy0)
    clear hG1 hG2 hy0
    have hsz:=hbz.size
    have hcn:=bm wr (.int .i64 j) 3
    go_wp2_with (at_builtin;refine aU rfl _ _ 22 3 rfl (.int .i64 0) 8 underlying22 bg rfl w.heap.size a2 g c2 _ rfl (hown.alloc _) ⟨wr.heap.size,0,none⟩ 1 (.int .i64 j) rfl hcn rfl (by omega) (by unfold maxLen;omega) (by simp;omega) ?_;intro a5 c5 w5 hown5 hgr5 hap5)
    go_roundw
    case rel =>
     refine ⟨j+1,g+1,a5,c5,by omega,by go_num,by show _=_;rw [Hn.out,H5,Hg2.out];rfl,rfl,by rw [Hn.out];simpa using hown5,L3 (L5 hbz _) (hown.alloc _) hgr5 (GQ _) (L5 hbz _).size⟩
    case measure=>simp [intOf] <;> omega
  ·obtain rfl : j=n:=by omega
   have HR : Hid (∀e,e=Ending.returned (.slice a2 g c2)->bS w (Z j) e wr):=λe he=>⟨a2,c2,by rw [Hg2.out];exact he,by rw [Hg2.out];exact hown,hbz⟩
   clear hown
   go_wp2_with fail
   go_ret
   exact HR.out _ rfl
theorem uk (a : OA) (n c : Nat) (s : LI) (b : OA) (k d : Nat) (t : LI) (w : World) (h : Ints w a n s) (h' : Ints w b k t) :
  Calls prog 105 #[.slice a n c,.slice b k d] w λe w'=>e = .returned (.bool (eF s t))/\Mv w w':=by
 have Hl:=Z5 h.len;have Hl':=Z5 h'.len;have hpl:=h.pl;have hpl':=h'.pl;have hmax:=h.max;have hmax':=h'.max;unfold maxLen at hmax hmax';by_cases hnk : n=k;rotate_left
 ·have d1 : ((n : Int) != k)=true:=by simp;omega
  have HR : Hid (eF s t=decide (n<k)):=by show _=_;rw [eF,Hl.out,Hl'.out,Ic hnk,LW,Bool.or_false]
  go_enter func105,ntmps105;go_wp2_with fail;go_ret;exact ⟨aR HR.out.symm,GS _ _⟩
 subst hnk;have d1 : ((n : Int) != n)=false:=by simp
 have HLt : Hid (∀j,j<n->(∀i,i<j->nth s i=nth t i)->nth s j<nth t j->eF s t=true):=λj hj hp hlt=>ga.2 (.inr ⟨by rw [Hl.out,Hl'.out],vZ (by rw [Hl.out];exact hj) (by rw [Hl'.out];exact hj) hp hlt⟩);have HGt : Hid (∀j,j<n->(∀i,i<j->nth s i=nth t i)->nth t j<nth s j->eF s t=false):=λj hj hp hlt=>by
  cases hh : eF s t
  ·rfl
  ·rcases ga.1 hh with h1 | ⟨h1,h2⟩
   ·rw [Hl.out,Hl'.out] at h1;omega
   ·obtain ⟨i,hi1,hi2,hi3⟩:=pd h1 h2;by_cases e1 : i<j
    ·rw [hp i e1] at hi3;omega
    ·by_cases e2 : i=j
     ·subst e2;omega
     ·rw [hi2 j (by omega)] at hlt;omega
 have HEq : Hid ((∀i,i<n->nth s i=nth t i)->eF s t=false):=λhp=>by
  cases hh : eF s t
  ·rfl
  ·rcases ga.1 hh with h1 | ⟨h1,h2⟩
   ·rw [Hl.out,Hl'.out] at h1;omega
   ·obtain ⟨i,hi1,hi2,hi3⟩:=pd h1 h2;rw [hp i (by rw [<- Hl.out];exact hi1)] at hi3;omega
 generalize eF s t=z at *;go_enter func105,ntmps105;go_wp2_with fail;go_loopw [5] (λiv wr=>∃j : Nat,j<=n/\iv = .int .i64 j/\Hid (∀i,i<j->nth s i=nth t i)/\aY w wr) (λi _=>n - (intOf i).toNat);case atStart=>exact ⟨0,G0 _,rfl,λi hi=>by omega,L7 _⟩
 case round =>
  obtain ⟨j,hj,rfl,hp,hd⟩:=hrel
  generalize wr=V at *
  by_cases hlt : j<n
  ·have c1:=(h.drawn hd).cell j hlt
   have c2:=(h'.drawn hd).cell j hlt
   have HX : Hid (∀U,aY w U->U.cell? ⟨ablk a,aL a+j,none⟩=some (.int .i64 (nth s j))/\U.cell? ⟨ablk b,aL b+j,none⟩=some (.int .i64 (nth t j))):=λU hU=>⟨(h.drawn hU).cell j hlt,(h'.drawn hU).cell j hlt⟩
   by_cases h1 : nth s j=nth t j
   ·have h1' : (nth s j != nth t j)=false:=by simpa using h1
    have Hp : Hid (∀i,i<j+1->nth s i=nth t i):=λi hi=>by
     by_cases e : i=j
     ·subst e;exact h1
     ·exact hp.out i (by omega)
    clear h1 hp
    go_wp2_with fail
    go_quiet (fail)
    go_wp2
    go_roundw
    case rel=>exact ⟨j+1,by omega,by go_num,Hp.out,hd.drewN _⟩
    case measure=>simp [intOf] <;> omega
   ·have h1' : (nth s j != nth t j)=true:=by simpa using h1
    have Hz : Hid (decide (nth s j<nth t j)=z):=by
     show _=_;by_cases h2 : nth s j<nth t j
     ·rw [HLt.out j hlt hp.out h2];simpa using h2
     ·rw [HGt.out j hlt hp.out (by omega)];simpa using h2
    clear h1 hp
    go_wp2_with fail
    go_cut [30] (λv wx=>v = .bool true/\aY w wx)
    case first=>go_wp2_with fail;go_quiet (fail);go_wp2_with fail;go_meet;exact ⟨by first | rfl | simp [h1'],hd.drewN _⟩
    obtain ⟨rfl,hcut⟩:=hcut
    clear c1 c2
    generalize wc=wx at *
    obtain ⟨c1,c2⟩:=HX.out wx hcut
    go_wp2_with fail
    go_quiet (fail)
    go_wp2
    go_ret
    exact ⟨aR Hz.out,(hcut.drewN _).below⟩
  ·obtain rfl : j=n:=by omega
   have HR : Hid (z=false):=HEq.out hp.out
   go_wp2_with fail
   go_ret
   exact ⟨aR HR.out.symm,hd.below⟩
theorem xp (a : OA) (n c : Nat) (W : Ll) (m i : Nat) (w0 w : World) (hW : bC w0 a n W) (hb0 : Mv w0 w) (hm : ∀r ∈ W,r.length=m) (hi : i<m) (hm64 : m<=64) :
  Calls prog 50 #[.slice a n c,.int .i64 i] w λe w'=>Mv w w'/\∃ar nr cr,e = .returned (.slice ar nr cr)/\jU w0 ar nr (bstL m i W n):=by
 have hln:=hW.len;have HM:=Z5 hW;have Hb0:=Z5 hb0;have hpl:=hW.pl;have hmx:=hW.max;unfold maxLen at hmx;have Hrow : Hid (∀k,k<n->(ai W k).length=m):=λk hk=>hm _ (gv (by omega));have HSup : Hid (∀V b k c x,k<=1000000->Ints V b k x->Calls prog 106 #[.slice b k c] V (bS V (bH x k (-1)))):=λV b k c x hk h=>qI b k c x V h hk;have Heq:=Z5 (λ(w : World) (a : OA) (l c : Nat)=>Go.run_eql_slice_nil (P:=prog) w 22 3 a l c underlying22);clear hW hm hln hb0;go_enter func50,ntmps50;go_wp2_with fail;go_loopw [5,6] (λbv iv wr=>∃(k : Nat) (ab : OA) (nb cb : Nat) (b : LI),k<=n/\iv = .int .i64 k/\bv = .slice ab nb cb/\Hid (bstL m i W k=b)/\Hid (b=[]\/(b.length=m/\nth b i=1))/\Hid (jU w0 ab nb b)/\Mv w wr) (λ_ iv _=>n - (intOf iv).toNat);case atStart=>exact ⟨0,none,0,0,[],G0 _,rfl,rfl,rfl,.inl rfl,⟨L6 _ _,rfl⟩,GS _ _⟩
 case round =>
  obtain ⟨k,ab,nb,cb,b,hk,rfl,rfl,Hst,Hbl,Hb,hbr⟩:=hrel
  generalize wr=V at *
  by_cases hlt : k<n
  ·obtain ⟨ar,mr,cr,hcell0,hrw0⟩:=HM.out.cell k hlt
   have hcell:=ak (LY Hb0.out hbr) hcell0
   have hrw:=hrw0.af (LY Hb0.out hbr)
   have hmr : mr=m:=by rw [<- hrw.len];exact Hrow.out k hlt
   subst hmr
   have hri:=hrw.cell i hi
   have hplr:=hrw.pl
   have hrn : ar.isNone=false:=by
    cases ar with
    | none=>have:=hrw.pl (by omega);cases this
    | some x=>rfl
   obtain ⟨r,hr⟩ : ∃r,ai W k=r:=⟨_,rfl⟩
   have hrl : r.length=mr:=by rw [<- hr];exact Hrow.out k hlt
   rw [hr] at hrw hrw0 hri
   have Hnx : Hid (bstL mr i W (k+1)=tK mr i b r):=by show _=_;rw [bstL,Hst.out,hr]
   clear hr
   obtain ⟨y,hy⟩ : ∃y,nth r i=y:=⟨_,rfl⟩
   rw [hy] at hri
   by_cases hy1 : y=1
   rotate_left
   ·have d1 : (y == 1)=false:=by simpa using hy1
    have Hn2 : Hid (bstL mr i W (k+1)=b):=by show _=_;rw [Hnx.out,tK,GU (by rw [GW,hy];exact hy1)]
    clear hy hy1 hrw hrw0 hcell0
    go_wp2_with fail
    go_roundw
    case rel=>exact ⟨k+1,ab,nb,cb,b,by omega,by go_num,rfl,Hn2.out,Hbl.out,Hb.out,hbr⟩
    case measure=>simp [intOf] <;> omega
   have d1 : (y == 1)=true:=by simpa using hy1
   have hri1 : nth r i=1:=by rw [hy];exact hy1
   have Hri1:=Z5 hri1
   have Hn2 : Hid (bstL mr i W (k+1)=if b=[]\/eF (bH r mr i) (bH b mr i)=true then r else b):=by show _=_;rw [Hnx.out,tK,GV (by rw [GW];exact hri1)]
   have Hr : Hid (jU w0 ar mr r):=⟨hrw0,by rw [hrn];exact (Ic λe=>by rw [e] at hrl;simp at hrl;omega).symm⟩
   have Hrl:=Z5 hrl
   have heq:=Heq.out
   clear hy hy1 hrn Hnx hrl hri1 hrw0 hcell0
   rcases Hbl.out with hb0 | ⟨hbm,hb1⟩
   ·have hin : ab.isNone=true:=by rw [Hb.out.2];exact Ig hb0
    have Hn3 : Hid (bstL mr i W (k+1)=r):=by show _=_;rw [Hn2.out,GV (.inl hb0)]
    clear hb0 hrw
    go_wp2_with fail
    go_roundw
    case rel=>exact ⟨k+1,ar,mr,cr,r,by omega,by go_num,rfl,Hn3.out,.inr ⟨Hrl.out,Hri1.out⟩,Hr.out,hbr⟩
    case measure=>simp [intOf] <;> omega
   have hbn : b ≠ []:=λe=>by rw [e] at hbm;simp at hbm;omega
   have hin : ab.isNone=false:=by rw [Hb.out.2];exact Ic hbn
   have hnb : nb=mr:=by rw [<- Hb.out.1.len];exact hbm
   subst hnb
   have Hn4 : Hid (bstL nb i W (k+1)=if eF (bH r nb (-1)) (bH b nb (-1))=true then r else b):=by
    show _=_;rw [Hn2.out,pz r nb (-1) (.inl (by omega)),pz b nb (-1) (.inl (by omega)),AA hi (by rw [Hri1.out];decide) (by rw [hb1];decide)];by_cases hl : eF (bH r nb i) (bH b nb i)=true
    ·rw [GV (.inr hl),GV hl]
    ·rw [GU (λh=>h.elim hbn hl),GU hl]
   have HS1:=Z5 (HSup.out V ar nb cr r (by omega) hrw)
   have HSt : Hid (∀V',Mv V V'->Calls prog 106 #[.slice ab nb cb] V' (bS V' (bH b nb (-1)))):=λV' hV'=>HSup.out V' ab nb cb b (by omega) (Hb.out.1.af (LY (LY Hb0.out hbr) hV'))
   have Hbb : Hid (b=[]\/(b.length=nb/\nth b i=1)):=.inr ⟨hbm,hb1⟩
   obtain ⟨s,hs⟩ : ∃s,bH r nb (-1)=s:=⟨_,rfl⟩
   obtain ⟨t,ht⟩ : ∃t,bH b nb (-1)=t:=⟨_,rfl⟩
   rw [hs] at HS1
   rw [ht] at HSt
   rw [hs,ht] at Hn4
   clear hs ht hrw hbm hb1 hbn
   go_wp2_with fail
   refine HS1.out.mono ?_
   rintro e w1 ⟨a1,k1,rfl,hown1,hb1⟩
   have HS2:=Z5 (HSt.out w1 hb1)
   have Ho1:=Z5 hown1
   clear hown1
   go_wp2_with fail
   refine HS2.out.mono ?_
   rintro e w2 ⟨a2,k2,rfl,hown2,hb2⟩
   have HF:=Z5 (uk a1 s.length k1 s a2 t.length k2 t w2 ((L0 Ho1.out).1.af hb2) (L0 hown2).1)
   have hb12:=LY hb1 hb2
   obtain ⟨z,hz⟩ : ∃z,eF s t=z:=⟨_,rfl⟩
   rw [hz] at HF Hn4
   clear hown2 hz
   go_wp2_with fail
   refine HF.out.mono ?_
   rintro e w3 ⟨rfl,hb3⟩
   have hbF:=LY hb12 hb3
   have hbr3:=LY hbr hbF
   have hcell3:=ak hbF hcell
   clear hcell hri
   cases z
   ·have Hn5 : Hid (bstL nb i W (k+1)=b):=by show _=_;rw [Hn4.out];rfl
    go_wp2_with fail
    go_roundw
    case rel=>exact ⟨k+1,ab,nb,cb,b,by omega,by go_num,rfl,Hn5.out,Hbb.out,Hb.out,hbr3⟩
    case measure=>simp [intOf] <;> omega
   ·have Hn5 : Hid (bstL nb i W (k+1)=r):=by show _=_;rw [Hn4.out];rfl
    go_wp2_with fail
    go_roundw
    case rel=>exact ⟨k+1,ar,nb,cr,r,by omega,by go_num,rfl,Hn5.out,.inr ⟨Hrl.out,Hri1.out⟩,Hr.out,hbr3⟩
    case measure=>simp [intOf] <;> omega
  ·obtain rfl : k=n:=by omega
   have HR : Hid (jU w0 ab nb (bstL m i W k)):=by show jU w0 ab nb _;rw [Hst.out];exact Hb.out
   go_wp2_with fail
   go_ret
   exact ⟨hbr,ab,nb,cb,rfl,HR.out⟩
theorem vX (a : OA) (n c : Nat) (W : Ll) (m i : Nat) (w : World) (hW : bC w a n W) (hm : ∀r ∈ W,r.length=m) (hi : i<m) (hm64 : m<=64) :
  Calls prog 50 #[.slice a n c,.int .i64 i] w λe w'=>Mv w w'/\∃ar nr cr,e = .returned (.slice ar nr cr)/\jU w' ar nr (bstL m i W n) :=
 (xp a n c W m i w w hW (GS _ _) hm hi hm64).mono λ_ _ ⟨hb,ar,nr,cr,h1,h2⟩=>⟨hb,ar,nr,cr,h1,h2.af hb⟩
end Go.Proofs.YthglbncgemdcbaaGreat
