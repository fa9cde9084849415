import Derived.Test.YthglbncgemdcbaaGreatCK19
import Derived.Test.YthglbncgemdcbaaGreatCK18
namespace Go.Proofs.YthglbncgemdcbaaGreat
set_option linter.all false
set_option maxRecDepth 100000
set_option maxHeartbeats 8000000
open Go.RowKit Go.Proofs.Tryz
theorem og (w : World) (x : Int) (e : TypeId) {g : Nat} (Z : g=w.heap.size) : Ints (w.alloc (.cells #[.int .i64 x] e)) (some ⟨g,0,none⟩) 1 [x] :=
 ⟨rfl,λ_=>rfl,by unfold maxLen;omega,λi hi=>by
  obtain rfl : i=0:=by omega
  exact aF _ _ _ Z 0⟩
theorem bu.tail {w : World} {b o nx : Nat} {t : LI} {Z : Ll} (h : bu w (some ⟨b,o,none⟩) nx (t :: Z)) : bu w (some ⟨b,o+1,none⟩) (nx - 1) Z:=by
 have X:=h.len;simp only [Kr] at X;refine ⟨by omega,λ_=>rfl,by have:=h.max;omega,λi hi=>?_⟩;obtain ⟨b',Y,V,h1,h2⟩:=h.cell (i+1) (by omega);refine ⟨b',Y,V,?_,?_⟩
 ·simp only [ablk_some,aoff_some] at h1 ⊢;rw [show o+1+i=o+(i+1) by omega];exact h1
 ·have e : ai (t :: Z) (i+1)=ai Z i:=by unfold ai;simp
  rw [e] at h2;exact h2
theorem bu.empty (w : World) (a : OA) : bu w a 0 []:=⟨rfl,λh=>by omega,by unfold maxLen;omega,λi hi=>by omega⟩
def Ju (R : Option Ll) (Z Y : Value) (w' : World) : Prop :=
 (R=none/\Z = .slice none 0 0/\Y = .bool false)\/(∃rest a' X,R=some rest/\Z = .slice a' rest.length X/\Y = .bool true/\bu w' a' rest.length rest/\rest.length<=X)
def nC (R : Option Ll) (w : World) (e : Ending) (w' : World) : Prop:=OC w w'/\∃Z Y,e = .returned (.tuple #[Z,Y])/\Ju R Z Y w'
theorem rFollow26_any (P M : Int) (am : OA) (O cm : Nat) (mod : LI) (m : Nat) (a : OA) (n c : Nat) (L : Ll) (K : OA) (N cy : Nat) (C : iz) (w0 : World)
  (hmod : Ints w0 am O mod) (hi : bu w0 a n L) (hE : aJ P M mod m L=0) (cb : Bool) (hc : C.cos=cb) (hRight : Hid (zw P M am O cm mod m a n c L K N cy C w0)) (hw6 : C.W<=64) (hm6 : m<=64) :
  ∀(d : Nat) (w : World) (sa : OA) (ns cs : Nat) (s : LI) (az : OA) (nz cz : Nat) (z : LI) (ax : OA) (nx cx : Nat) (ts : Ll),ns+d=C.W->nz<=64->nx<=cx->OC w0 w ->
   Ints w sa ns s->Ints w az nz z->bu w ax nx ts->z.Nodup->(∀x ∈ z,0<=x/\x<(m : Int)) ->
   Calls prog 196 #[kQ P M am O cm m a n c K N cy C,.slice sa ns cs,.slice az nz cz,.slice ax nx cx] w (nC (folS (ah P M.toNat mod).ops L m C d s z ts) w)
 | d,w,sa,ns,cs,s,az,nz,cz,z,ax,nx,cx,ts,hd,hnz,hnc,hb,hs,hz,Q,hzn,hzb=>by
  have IH : Hid (∀d',d'+1=d->∀(w : World) (sa : OA) (ns cs : Nat) (s : LI) (az : OA) (nz cz : Nat) (z : LI) (ax : OA) (nx cx : Nat) (ts : Ll),ns+d'=C.W->nz<=64->nx<=cx->OC w0 w ->
   Ints w sa ns s->Ints w az nz z->bu w ax nx ts->z.Nodup->(∀x ∈ z,0<=x/\x<(m : Int)) ->
   Calls prog 196 #[kQ P M am O cm m a n c K N cy C,.slice sa ns cs,.slice az nz cz,.slice ax nx cx] w (nC (folS (ah P M.toNat mod).ops L m C d' s z ts) w)):=λd' hd'=>by subst hd';exact rFollow26_any P M am O cm mod m a n c L K N cy C w0 hmod hi hE cb hc hRight hw6 hm6 d'
  have Hsl:=Z5 hs.len;have Hzl:=Z5 hz.len;obtain ⟨RF,hRF⟩ : ∃RF,folS (ah P M.toNat mod).ops L m C d s z ts=RF:=⟨_,rfl⟩
  rw [hRF];have HRF:=Z5 hRF;have Hz:=Z5 (JZ hzn hzb);have hmaxx:=Q.max;unfold maxLen at hmaxx;clear hRF hzn hzb;by_cases hx0 : nx=0
  ·subst hx0;have hts0 : ts=[]:=Kd Q.len;have HF : Hid (RF=none):=by show _=_;rw [<- HRF.out,hts0,vV]
   have hd0 : ((0 : Int) == 0)=true:=rfl;have S:=an w (.cells #[.int .i64 P,.int .i64 M,.slice am O cm,.int .i64 m,.slice a n c,.int .i64 C.M,.int .i64 C.W,.slice K N cy,.bool cb] 149);unfold kQ;rw [hc];clear hts0 IH HRF Q hc;go_enter func196,ntmps196;go_wp2_with fail;go_quiet (fail);go_wp2_with fail;go_ret2;exact ⟨NX S (N6 ⟨_,rfl⟩),_,_,rfl,.inl ⟨HF.out,rfl,rfl⟩⟩
  obtain ⟨t,X,rfl⟩ : ∃t X,ts=t :: X:=by
   cases ts with
   | nil=>have:=Q.len;simp at this;omega
   | cons t X=>exact ⟨t,X,rfl⟩
  obtain ⟨rb,ro,rfl⟩ : ∃rb ro,ax=some ⟨rb,ro,none⟩:=⟨_,_,Q.pl (by omega)⟩
  have hlen : X.length=nx - 1:=by have:=Q.len;simp at this;omega
  obtain ⟨ra,rn,rc,hcell,I⟩:=Q.cell 0 (by omega);simp only [ablk_some,aoff_some,MW] at hcell;rw [show ai (t :: X) 0=t from rfl] at I;have hd0 : ((nx : Int) == 0)=false:=by simp;omega
  have h0nx : (0 : Int)<(nx : Int):=by omega
  have h0nx2 : 0<nx:=by omega
  have hplx:=Q.pl;have E : ∀V,OC w V->Calls prog 187 #[kQ P M am O cm m a n c K N cy C,.slice sa ns cs,.slice ra rn rc] V λe w'=>e = .returned (.bool (dm (ah P M.toNat mod).ops L m C s t))/\OC V w':=λV Y=>by have hbV:=hb.trans (Y.mono hb.size);exact hRight.out V sa ns cs s ra rn rc t (by omega) hbV (hs.af Y) (I.af Y)
  have hm1:=cZ hE;obtain ⟨rr,hrr⟩ : ∃rr,dm (ah P M.toNat mod).ops L m C s t=rr:=⟨_,rfl⟩
  rw [hrr] at E;have hKi0 : rr=true->∀V,OC w V->Calls prog 188 #[kQ P M am O cm m a n c K N cy C,.slice sa ns cs,.slice az nz cz,.slice ra rn rc] V (db V (iW C s z t)):=λhr V Y=>by have hok:=(qu (hrr.trans hr)).1;have hl:=jB hok (by omega);rw [I.len] at hl;exact xx P M am O cm m a n c K N cy C sa ns cs s az nz cz z ra rn rc t V (hs.af Y) (hz.af Y) (I.af Y) (by omega)
  have Hrr:=Z5 hrr;unfold kQ at E hKi0;simp only [hc] at E hKi0;have HRt:=Z5 E;have HKi:=Z5 hKi0;have Hlen:=Z5 hlen;have hzr:=Q.tail;unfold kQ;rw [hc];have Hc:=Z5 hc;clear E hKi0 hrr hm1 hlen hc;go_enter func196,ntmps196;go_upto_region 1 with fail;obtain ⟨U,hU⟩ : ∃U : World,U=w.alloc (.cells #[.int .i64 P,.int .i64 M,.slice am O cm,.int .i64 m,.slice a n c,.int .i64 C.M,.int .i64 C.W,.slice K N cy,.bool cb] 149):=⟨_,rfl⟩
  rw [<- hU];have hbU : OC w U:=by rw [hU];exact an _ _
  have x0 : aO U w.heap.size [.int .i64 P,.int .i64 M,.slice am O cm,.int .i64 m,.slice a n c,.int .i64 C.M,.int .i64 C.W,.slice K N cy,.bool cb]:=by rw [hU];exact NY _ _ _ rfl
  have hcU:=aB hbU hcell;have HS : Hid (∀V,OC U V->V.cell? ⟨w.heap.size,0,none⟩=some (.int .i64 P)/\V.cell? ⟨w.heap.size,1,none⟩=some (.int .i64 M)/\V.cell? ⟨w.heap.size,2,none⟩=some (.slice am O cm)/\V.cell? ⟨w.heap.size,3,none⟩=some (.int .i64 m)/\V.cell? ⟨w.heap.size,4,none⟩=some (.slice a n c) /\
    V.cell? ⟨w.heap.size,5,none⟩=some (.int .i64 C.M)/\V.cell? ⟨w.heap.size,6,none⟩=some (.int .i64 C.W)/\V.cell? ⟨w.heap.size,7,none⟩=some (.slice K N cy)/\V.cell? ⟨w.heap.size,8,none⟩=some (.bool cb)/\V.cell? ⟨rb,ro,none⟩=some (.slice ra rn rc)/\OC U V):=λV Y=>by have x1:=x0.af Y;exact ⟨x1.cell 0 rfl,x1.cell 1 rfl,x1.cell 2 rfl,x1.cell 3 rfl,x1.cell 4 rfl,x1.cell 5 rfl,x1.cell 6 rfl,x1.cell 7 rfl,x1.cell 8 rfl,aB Y hcU,Y⟩
  have HbU:=Z5 hbU;clear hU x0 hcU;go_cut [25] (λv wx=>v = .bool (!rr)/\OC U wx);case first =>
   go_region_held3 (λV=>V.cell? ⟨w.heap.size,0,none⟩=some (.int .i64 P)/\V.cell? ⟨w.heap.size,1,none⟩=some (.int .i64 M)/\V.cell? ⟨w.heap.size,2,none⟩=some (.slice am O cm)/\V.cell? ⟨w.heap.size,3,none⟩=some (.int .i64 m)/\V.cell? ⟨w.heap.size,4,none⟩=some (.slice a n c) /\
     V.cell? ⟨w.heap.size,5,none⟩=some (.int .i64 C.M)/\V.cell? ⟨w.heap.size,6,none⟩=some (.int .i64 C.W)/\V.cell? ⟨w.heap.size,7,none⟩=some (.slice K N cy)/\V.cell? ⟨w.heap.size,8,none⟩=some (.bool cb)/\V.cell? ⟨rb,ro,none⟩=some (.slice ra rn rc)/\OC U V)
    ((refine HS.out _ ?_;first | exact H | exact (JP _ _).drew | assumption | (go_split_ands;assumption)))
    (first
    | (go_at_call 187;((with_reducible refine (HRt.out _ (NX HbU.out (by go_split_ands;assumption))).mono ?_);rintro e w3 ⟨rfl,r⟩;have H : OC U w3:=(by go_split_ands;exact NX (by assumption) r))))
   all_goals (go_wp2_with fail;go_meet;exact ⟨rfl,H⟩)
  obtain ⟨rfl,hb2⟩:=hcut;generalize wc=w2 at *;cases rr
  ·have HF : Hid (RF=none):=by show _=_;rw [<- HRF.out,xY _ _ _ _ _ _ _ _ _ Hrr.out]
   have S:=NX HbU.out hb2;go_wp2_with fail;go_ret2;exact ⟨S,_,_,rfl,.inl ⟨HF.out,rfl,rfl⟩⟩
  obtain ⟨F,hFd⟩ : ∃F,folS (ah P M.toNat mod).ops L m C (d - 1)=F:=⟨_,rfl⟩
  have HF : Hid (RF=kfol F s z (iW C s z t) X):=by show _=_;rw [<- HRF.out,Bz _ _ _ _ _ _ _ _ _ (by rw [Hsl.out];exact hd) Hrr.out,<- hFd];rfl
  have HFd:=Z5 hFd;have hok:=(qu Hrr.out).1;obtain ⟨Z,hks⟩ : ∃Z,iW C s z t=Z:=⟨_,rfl⟩
  have hkl : Z.length<=64:=by
   have h1:=jB hok (by omega);have h2 : Z.length<=t.length:=by
    rw [<- hks,iW];split
    ·exact Mj _ _
    ·simp
   omega
  have hknd : Z.Nodup/\(∀x ∈ Z,0<=x/\x<(m : Int))/\(∀x ∈ Z,¬ x ∈ z)/\(0<Z.length->ns<C.W):=by
   refine ⟨?_,λx B=>?_,λx B=>?_,λh=>?_⟩
   ·rw [<- hks,iW];split
    ·exact LZ _ (pE hok)
    ·simp
   ·rw [<- hks] at B;obtain ⟨q,hq,rfl⟩:=List.mem_iff_getElem.1 (qJ B).1;rw [<- aj hq];exact oq hok q hq
   ·rw [<- hks] at B;exact (qJ B).2.1
   ·rw [<- hks] at h;have h1:=qJ (Kp (n:=0) h);rw [Hsl.out] at h1;exact h1.2.2
  have HKs:=Z5 hknd;rw [hks] at HF HKi;have HKi:=Z5 (HKi.out rfl);have hbw2:=NX HbU.out hb2;obtain ⟨c0,c1,c2,c3,c4,c5,c6,c7,c8,A,_⟩:=HS.out w2 hb2;clear hFd hok hks hknd;go_upto_region 3 with fail;go_cut [10] (λv wx=>∃ak ck,v = .slice ak Z.length ck/\wx.ownsRow U.heap.size 3 1 (.slice ak Z.length ck) Z.length (Z.map (Value.int .i64))/\OC U wx);case first =>
   have hszU:=hb2.size
   go_region_held3 (λV=>V.cell? ⟨w.heap.size,0,none⟩=some (.int .i64 P)/\V.cell? ⟨w.heap.size,1,none⟩=some (.int .i64 M)/\V.cell? ⟨w.heap.size,2,none⟩=some (.slice am O cm)/\V.cell? ⟨w.heap.size,3,none⟩=some (.int .i64 m)/\V.cell? ⟨w.heap.size,4,none⟩=some (.slice a n c) /\
     V.cell? ⟨w.heap.size,5,none⟩=some (.int .i64 C.M)/\V.cell? ⟨w.heap.size,6,none⟩=some (.int .i64 C.W)/\V.cell? ⟨w.heap.size,7,none⟩=some (.slice K N cy)/\V.cell? ⟨w.heap.size,8,none⟩=some (.bool cb)/\V.cell? ⟨rb,ro,none⟩=some (.slice ra rn rc)/\OC U V)
    ((refine HS.out _ ?_;first | exact H | exact NX hb2 (JP _ _).drew | assumption | (go_split_ands;assumption)))
    (first
    | (go_at_call 188;((with_reducible refine (HKi.out _ (NX HbU.out (by go_split_ands;assumption))).mono ?_);rintro e w3 ⟨ak,ck,rfl,hown3,r⟩;have H : OC U w3:=(by go_split_ands;exact NX (by assumption) r))))
   all_goals (go_wp2_with fail;go_meet;exact ⟨ak,ck,rfl,bd hown3 hszU,H⟩)
  obtain ⟨ak,ck,rfl,hownk,r⟩:=hcut;generalize wc=w3 at *;clear c0 c1 c2 c3 c4 c5 c6 c7 c8 A;go_upto_region 4 with fail;go_cut [11] (λv wx=>∃ar cr,v = .slice ar (nx - 1) cr/\bu w3 ar (nx - 1) X/\nx - 1<=cr/\w3=wx);case first =>
   have hzw:=hzr.af (NX HbU.out r)
   have hn1 : (1 : Int)<=(nx : Int):=by omega
   have hn2 : (nx : Int)<=(cx : Int):=by omega
   have hn3 : (1 : Int)<=(cx : Int):=by omega
   by_cases hc1 : cx=1
   ·have hnx1 : nx=1:=by omega
    subst hnx1
    subst hc1
    have hts0 : X=[]:=Kd (by rw [Hlen.out])
    go_wp2_with fail
    go_meet
    exact ⟨_,_,rfl,by rw [hts0];exact bu.empty _ _,by omega,rfl⟩
   ·have hc2 : ¬ cx=1:=hc1
    go_wp2_with fail
    go_meet
    exact ⟨_,_,rfl,hzw,by omega,rfl⟩
  obtain ⟨ar,cr,rfl,hzr3,hncr,rfl⟩:=hcut;obtain ⟨ik,_⟩:=NZ hownk;have hplk:=ik.pl;have hckap:=lh hownk;have D:=Z5 (NX HbU.out r);have hs3:=hs.af D.out;have hz3:=hz.af D.out;have hns64 : ns<=64:=by omega
  have Hb0:=Z5 hb;obtain ⟨kl,hkle⟩ : ∃kl,Z.length=kl:=⟨_,rfl⟩
  rw [hkle] at hownk hkl ik hplk hckap;rw [hkle];have Hkl:=Z5 hkle;have HSk : Hid (∀V,OC w3 V->V.cell? ⟨w.heap.size,0,none⟩=some (.int .i64 P)/\V.cell? ⟨w.heap.size,1,none⟩=some (.int .i64 M)/\V.cell? ⟨w.heap.size,2,none⟩=some (.slice am O cm)/\V.cell? ⟨w.heap.size,3,none⟩=some (.int .i64 m)/\V.cell? ⟨w.heap.size,4,none⟩=some (.slice a n c) /\
    V.cell? ⟨w.heap.size,5,none⟩=some (.int .i64 C.M)/\V.cell? ⟨w.heap.size,6,none⟩=some (.int .i64 C.W)/\V.cell? ⟨w.heap.size,7,none⟩=some (.slice K N cy)/\V.cell? ⟨w.heap.size,8,none⟩=some (.bool cb)):=λV Y=>by obtain ⟨c0,c1,c2,c3,c4,c5,c6,c7,c8,_,_⟩:=HS.out V (NX r Y);exact ⟨c0,c1,c2,c3,c4,c5,c6,c7,c8⟩
  have HIH : Hid (∀(V : World) (j : Nat) (a5 : OA) (c5 : Nat) (a7 : OA) (c7 : Nat) (a9 : OA) (n9 A : Nat) (rs : Ll),j<kl->n9<=A->OC w3 V->Ints V a5 (ns+1) (s ++ [nth Z j])->Ints V a7 (nz+j) (z ++ Z.take j)->bu V a9 n9 rs ->
    Calls prog 196 #[.agg #[.int .i64 P,.int .i64 M,.slice am O cm,.int .i64 m,.slice a n c,.int .i64 C.M,.int .i64 C.W,.slice K N cy,.bool cb],.slice a5 (ns+1) c5,.slice a7 (nz+j) c7,.slice a9 n9 A] V (nC (F (s ++ [nth Z j]) (z ++ Z.take j) rs) V)):=by
   intro V j a5 c5 a7 c7 a9 n9 A rs hj h9 Y h1 h2 h3;have hjk : j<Z.length:=by rw [Hkl.out];exact hj
   have hnsW:=HKs.out.2.2.2 (by omega);obtain ⟨d',hd'⟩ : ∃d',d'+1=d:=⟨d - 1,by omega⟩
   have hnd : (z ++ Z.take j).Nodup:=by rw [K2];exact ⟨Hz.out.1,LP (Me _ _) HKs.out.1,λx B y hy e=>HKs.out.2.2.1 y (KQ hy) (e ▸ B)⟩
   have hbd : ∀x ∈ z ++ Z.take j,0<=x/\x<(m : Int):=λx B=>by
    rcases List.mem_append.1 B with B | B
    ·exact Hz.out.2 x B
    ·exact HKs.out.2.1 x (KQ B)
   have hle : nz+j<=64:=by have h4:=mJ hnd hbd;rw [h2.len] at h4;omega
   have h5:=IH.out d' hd' V a5 (ns+1) c5 (s ++ [nth Z j]) a7 (nz+j) c7 (z ++ Z.take j) a9 n9 A rs (by omega) hle h9 (Hb0.out.trans ((NX D.out Y).mono Hb0.out.size)) h1 h2 h3 hnd hbd;rw [show d'=d - 1 by omega,HFd.out] at h5;unfold kQ at h5;rw [Hc.out] at h5;exact h5
  clear IH hkle hb2 hb I Q hzr hs hz hmod hi hE hm6 hw6;go_wp2_with fail;go_loopw [11,12,13] (λrv ov jv wr=>∃(j : Nat) (okb : Bool) (a9 : OA) (n9 A : Nat) (rs : Ll),j<=kl/\jv = .int .i64 j/\ov = .bool okb/\rv = .slice a9 n9 A/\n9<=A/\OC w3 wr/\bu wr a9 n9 rs /\
    Hid (if okb=true then RF=kfol F s (z ++ Z.take j) (Z.drop j) rs else RF=none/\a9=none/\n9=0/\A=0))
   (λ_ _ jv _=>kl - (intOf jv).toNat)
  case atStart=>exact ⟨0,true,ar,nx - 1,cr,X,JU _,rfl,rfl,rfl,hncr,JP _ _,hzr3,(show if true=true then _ else _ by rw [JT rfl,List.take_zero,K7,Ls];exact HF.out)⟩
  case round =>
   obtain ⟨j,okb,a9,n9,A,rs,hj,rfl,rfl,rfl,h9,G,hrs,hst⟩:=hrel
   generalize wr=U1 at *
   cases okb
   ·have Hst : Hid (RF=none/\a9=none/\n9=0/\A=0):=by have:=hst.out;rw [JR (by decide)] at this;exact this
    have S:=NX D.out G
    by_cases hlt : j<kl
    ·go_wp2_with fail
     go_ret2
     obtain ⟨h1,rfl,rfl,rfl⟩:=Hst.out
     exact ⟨S,_,_,rfl,.inl ⟨h1,rfl,rfl⟩⟩
    ·obtain rfl : j=kl:=by omega
     go_wp2_with fail
     go_ret2
     obtain ⟨h1,rfl,rfl,rfl⟩:=Hst.out
     exact ⟨S,_,_,rfl,.inl ⟨h1,rfl,rfl⟩⟩
   have Hst : Hid (RF=kfol F s (z ++ Z.take j) (Z.drop j) rs):=by have:=hst.out;rw [JT rfl] at this;exact this
   clear hst
   by_cases hlt : j<kl
   ·have hjk : j<Z.length:=by rw [Hkl.out];exact hlt
    have Hst2 : Hid (RF=match F (s ++ [nth Z j]) (z ++ Z.take j) rs with | none=>none | some X=>kfol F s (z ++ Z.take (j+1)) (Z.drop (j+1)) X):=by show _=_;rw [Hst.out,show Z.drop j=nth Z j :: Z.drop (j+1) by rw [aj hjk];exact KA hjk,kfol,mI Z hjk,KI];cases F (s ++ [nth Z j]) (z ++ Z.take j) rs <;> rfl
    have ikU:=ik.af G
    have cj:=ikU.cell j hlt
    have hs9:=hs3.af G
    have hz9:=hz3.af G
    have hkt:=Ints.take ikU (Nat.le_of_lt hlt)
    have HW1 : Hid (∀V g,OC U1 V->Ints V (some ⟨g,0,none⟩) 1 [nth Z j]->Calls prog 185 #[.slice sa ns cs,.slice (some ⟨g,0,none⟩) 1 1] V λe w'=>∃a2 c2,e = .returned (.slice a2 (ns+1) c2)/\Ints w' a2 (ns+1) (s ++ [nth Z j])/\OC V w'):=λV g Y hg=>by refine (oZ sa ns cs s (some ⟨g,0,none⟩) 1 1 [nth Z j] V (hs9.af Y) hg (by omega) (by omega)).mono ?_;rintro e w' ⟨a2,c2,rfl,ho,hbw⟩;exact ⟨a2,c2,rfl,(NZ ho).1,hbw⟩
    have HW2 : Hid (∀V,OC U1 V->Calls prog 185 #[.slice az nz cz,.slice ak j ck] V λe w'=>∃a2 c2,e = .returned (.slice a2 (nz+j) c2)/\Ints w' a2 (nz+j) (z ++ Z.take j)/\OC V w'):=λV Y=>by refine (oZ az nz cz z ak j ck (Z.take j) V (hz9.af Y) (hkt.af Y) (by omega) (by omega)).mono ?_;rintro e w' ⟨a2,c2,rfl,ho,hbw⟩;exact ⟨a2,c2,rfl,(NZ ho).1,hbw⟩
    have HFo : Hid (∀V a5 c5 a7 c7,OC U1 V->Ints V a5 (ns+1) (s ++ [nth Z j])->Ints V a7 (nz+j) (z ++ Z.take j)->Calls prog 196 #[.agg #[.int .i64 P,.int .i64 M,.slice am O cm,.int .i64 m,.slice a n c,.int .i64 C.M,.int .i64 C.W,.slice K N cy,.bool cb],.slice a5 (ns+1) c5,.slice a7 (nz+j) c7,.slice a9 n9 A] V
      (nC (F (s ++ [nth Z j]) (z ++ Z.take j) rs) V)):=λV a5 c5 a7 c7 Y h1 h2=>HIH.out V j a5 c5 a7 c7 a9 n9 A rs hlt h9 (NX G Y) h1 h2 (hrs.af Y)
    have HSU : Hid (∀V,OC U1 V->V.cell? ⟨w.heap.size,0,none⟩=some (.int .i64 P)/\V.cell? ⟨w.heap.size,1,none⟩=some (.int .i64 M)/\V.cell? ⟨w.heap.size,2,none⟩=some (.slice am O cm)/\V.cell? ⟨w.heap.size,3,none⟩=some (.int .i64 m)/\V.cell? ⟨w.heap.size,4,none⟩=some (.slice a n c) /\
      V.cell? ⟨w.heap.size,5,none⟩=some (.int .i64 C.M)/\V.cell? ⟨w.heap.size,6,none⟩=some (.int .i64 C.W)/\V.cell? ⟨w.heap.size,7,none⟩=some (.slice K N cy)/\V.cell? ⟨w.heap.size,8,none⟩=some (.bool cb)/\V.cell? ⟨ablk ak,aL ak+j,none⟩=some (.int .i64 (nth Z j))/\OC U1 V):=λV Y=>by obtain ⟨c0,c1,c2,c3,c4,c5,c6,c7,c8⟩:=HSk.out V (NX G Y);exact ⟨c0,c1,c2,c3,c4,c5,c6,c7,c8,aB Y cj,Y⟩
    obtain ⟨x,B⟩ : ∃x,nth Z j=x:=⟨_,rfl⟩
    rw [B] at HW1 HFo HSU Hst2 cj
    obtain ⟨FR,hFR⟩ : ∃FR,F (s ++ [x]) (z ++ Z.take j) rs=FR:=⟨_,rfl⟩
    rw [hFR] at HFo Hst2
    have hj0 : (0 : Int)<=(j : Int):=by omega
    have hjc : (j : Int)<=(ck : Int):=by omega
    have hjl : (j : Int)<(kl : Int):=by omega
    have HbR:=Z5 G
    clear B hFR hjk hkt hs9 hz9 ikU cj hrs Hst
    go_upto_region 9 with fail
    go_region_held3 (λV=>V.cell? ⟨w.heap.size,0,none⟩=some (.int .i64 P)/\V.cell? ⟨w.heap.size,1,none⟩=some (.int .i64 M)/\V.cell? ⟨w.heap.size,2,none⟩=some (.slice am O cm)/\V.cell? ⟨w.heap.size,3,none⟩=some (.int .i64 m)/\V.cell? ⟨w.heap.size,4,none⟩=some (.slice a n c) /\
      V.cell? ⟨w.heap.size,5,none⟩=some (.int .i64 C.M)/\V.cell? ⟨w.heap.size,6,none⟩=some (.int .i64 C.W)/\V.cell? ⟨w.heap.size,7,none⟩=some (.slice K N cy)/\V.cell? ⟨w.heap.size,8,none⟩=some (.bool cb)/\V.cell? ⟨ablk ak,aL ak+j,none⟩=some (.int .i64 x)/\OC U1 V)
     ((refine HSU.out _ ?_;first | exact (JP _ _).drew | exact hb11w | exact hb5w | exact hb7w | exact ((JP _ _).alloc (JO _) _).drew | exact N1 hb7w _ | assumption | (go_split_ands;assumption) | (go_split_ands;exact N1 (by assumption) _)))
     (first
     | (go_at_call 185;((with_reducible refine (HW1.out _ _ (by go_split_ands;assumption) (by first | exact (og _ _ _ rfl).af (JP _ _).drew | exact og _ _ _ rfl | exact ((og _ _ _ rfl).af (JP _ _).drew).af hb7)).mono ?_);rintro e w5 ⟨a5,c5,rfl,hI5,hb5⟩;have hb5w : OC U1 w5:=(by go_split_ands;exact NX (by assumption) hb5)))
     | (go_at_call 185;((with_reducible refine (HW2.out _ (by go_split_ands;assumption)).mono ?_);rintro e w7 ⟨a7,c7,rfl,hI7,hb7⟩;have hb7w : OC U1 w7:=(by go_split_ands;exact NX (by assumption) hb7)))
     | (go_at_call 196;((with_reducible refine (HFo.out _ a5 c5 a7 c7 (by go_split_ands;assumption) (by first | exact hI5 | exact hI5.af hb7) (by first | exact hI7 | exact hI7.af hb5 | exact (hI7.af (an _ _)).af hb5)).mono ?_);rintro e w11 ⟨hb11,rv,ov,rfl,hFV⟩;have hb11w : OC U1 w11:=(by go_split_ands;exact NX (by assumption) hb11))))
    all_goals (
     have S:=NX HbR.out hb11w
     rcases hFV with ⟨h1,rfl,rfl⟩ | ⟨rest,a12,c12,h1,rfl,rfl,hM12,h12⟩
     ·have Hn : Hid (RF=none):=by show _=_;rw [Hst2.out,h1]
      clear h1
      go_wp2_with fail
      go_roundw
      case rel=>exact ⟨j+1,false,none,0,0,[],by omega,by go_num,rfl,rfl,JO _,S,bu.empty _ _,(show if false=true then _ else _ by rw [JR (by decide)];exact ⟨Hn.out,rfl,rfl,rfl⟩)⟩
      case measure=>simp [intOf] <;> omega
     ·have Hn : Hid (RF=kfol F s (z ++ Z.take (j+1)) (Z.drop (j+1)) rest):=by show _=_;rw [Hst2.out,h1]
      clear h1
      go_wp2_with fail
      go_roundw
      case rel=>exact ⟨j+1,true,a12,rest.length,c12,rest,by omega,by go_num,rfl,rfl,h12,S,hM12,(show if true=true then _ else _ by rw [JT rfl];exact Hn.out)⟩
      case measure=>simp [intOf] <;> omega)
   ·have hjl2 : j=kl:=by omega
    subst hjl2
    have Ho : Hid (RF=some rs):=by show _=_;rw [Hst.out,KD (by rw [Hkl.out];exact JO _),kfol]
    have S:=NX D.out G
    have Hrs:=Z5 hrs
    go_wp2_with fail
    go_ret2
    refine ⟨S,_,_,rfl,.inr ⟨rs,a9,A,Ho.out,?_,rfl,?_,?_⟩⟩
    ·rw [Hrs.out.len];rfl
    ·rw [Hrs.out.len];exact Hrs.out
    ·rw [Hrs.out.len];exact h9
end Go.Proofs.YthglbncgemdcbaaGreat
