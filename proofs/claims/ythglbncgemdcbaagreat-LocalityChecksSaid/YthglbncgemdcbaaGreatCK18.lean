import Derived.Test.YthglbncgemdcbaaGreatCK15
import Derived.Test.YthglbncgemdcbaaGreatCK13
namespace Go.Proofs.YthglbncgemdcbaaGreat
set_option linter.all false
set_option maxRecDepth 100000
set_option maxHeartbeats 8000000
open Go.RowKit Go.Proofs.Tryz
def fiV : Option Ll->Int × Ll
 | none=>(13,[])
 | some r=>(0,r)
theorem Bd {F : LI->LI->Ll->Option Ll} {s : LI} : ∀(Y z : LI) (Z : Ll),gr (λs z Z=>fiV (F s z Z)) s z Y Z=fiV (kfol F s z Y Z)
 | [],z,Z=>rfl
 | k :: Y,z,Z=>by
  rw [gr,kfol];cases h : F (s ++ [k]) z Z with
  | none=>exact JR (by simp [fiV])
  | some r=>exact (JT rfl).trans (Bd Y (z ++ [k]) r)
theorem Bz (O : aM) (L : Ll) (m : Nat) (C : iz) (d : Nat) (s z t : LI) (Y : Ll) (hd : s.length+d=C.W) (Z : dm O L m C s t=true) :
  folS O L m C d s z (t :: Y)=kfol (folS O L m C (d - 1)) s z (if s.length<C.W then t.filter (λx=>decide (¬ x ∈ z)) else []) Y:=by
 match d with
 | 0 =>
  have h1 : (if s.length<C.W then t.filter (λx=>decide (¬ x ∈ z)) else [])=[]:=JR (by omega)
  rw [h1,folS]
  exact JT Z
 | d+1 =>
  have h1 : (if s.length<C.W then t.filter (λx=>decide (¬ x ∈ z)) else [])=iW C s z t:=rfl
  rw [h1,folS]
  exact JT Z
theorem xY (O : aM) (L : Ll) (m : Nat) (C : iz) (d : Nat) (s z t : LI) (Y : Ll) (Z : dm O L m C s t=false) : folS O L m C d s z (t :: Y)=none:=by
 match d with
 | 0=>rw [folS];exact JR (by rw [Z];simp)
 | d+1=>rw [folS];exact JR (by rw [Z];simp)
theorem vV (O : aM) (L : Ll) (m : Nat) (C : iz) (d : Nat) (s z : LI) : folS O L m C d s z []=none:=by
 match d with
 | 0=>rw [folS]
 | d+1=>rw [folS]
def uz (O : World) (Z b : Nat) (P M : Int) (am : OA) (U cm : Nat) (m : Nat) (a : OA) (n c : Nat) (Q : OA) (S cy : Nat) (C : iz) (V : Value) (X : Ll) (R : Option Ll) (w : World) (e : Ending) (w' : World) : Prop :=
 ∃Y,Y<=X.length/\aO w' Z (lL b P M am U cm m a n c Q S cy C V Y)/\aD w w' (λx=>x=Z) (λx=>x=Z)/\e = .returned (.int .i64 (fiV R).1)/\((fiV R).1=0->X.drop Y=(fiV R).2)
theorem o6 {F : World} {b : Nat} {G : cX} {a : OA} {n : Nat} {L : Ll} {m : Nat} {ay : OA} {ny : Nat} {C : iz} (Z : Nat) (P M : Int) (am : OA) (mn cm c cy : Nat)
  (X : OA) (nx B : Nat) (Q : Ll) (E : zU F b G a n L m ay ny C) (K : bu F X nx Q) (hpb : F.heap.size<=Z) :
  ∀(d : Nat) (w : World) (k : Nat) (D : OA) (ns cs : Nat) (s : LI) (r : OA) (nz cz : Nat) (z : LI),ns+d=C.W->nz<=64->k<=nx->OC F w->aO w Z (lL b P M am mn cm m a n c ay ny cy C (.slice X nx B) k) ->
   Ints w D ns s->Ints w r nz z->(0<ns->ablk D ≠ Z)->(0<nz->ablk r ≠ Z)->z.Nodup->(∀x ∈ z,0<=x/\x<(m : Int)) ->
   Calls prog 193 #[.pointer (some ⟨Z,0,none⟩),.slice D ns cs,.slice r nz cz] w (uz F Z b P M am mn cm m a n c ay ny cy C (.slice X nx B) Q (folS G.ops L m C d s z (Q.drop k)) w)
 | d,w,k,D,ns,cs,s,r,nz,cz,z,hd,hnz,hk,hb,hB,hs,hz,hsp,hzp,hzn,hzb=>by
  have IH : Hid (∀A,A+1=d->∀(w : World) (k : Nat) (D : OA) (ns cs : Nat) (s : LI) (r : OA) (nz cz : Nat) (z : LI),ns+A=C.W->nz<=64->k<=nx->OC F w->aO w Z (lL b P M am mn cm m a n c ay ny cy C (.slice X nx B) k) ->
   Ints w D ns s->Ints w r nz z->(0<ns->ablk D ≠ Z)->(0<nz->ablk r ≠ Z)->z.Nodup->(∀x ∈ z,0<=x/\x<(m : Int)) ->
   Calls prog 193 #[.pointer (some ⟨Z,0,none⟩),.slice D ns cs,.slice r nz cz] w (uz F Z b P M am mn cm m a n c ay ny cy C (.slice X nx B) Q (folS G.ops L m C A s z (Q.drop k)) w)):=λA hd'=>by subst hd';exact o6 Z P M am mn cm c cy X nx B Q E K hpb A
  have I:=Z5 K.len;have hm6:=E.m6;have hw6:=E.w6;have hplx:=K.pl;have hmaxx:=K.max;unfold maxLen at hmaxx;have HE:=Z5 E;have Hsl:=Z5 hs.len;have p10:=hB.cell 10 rfl;have p11:=hB.cell 11 rfl;obtain ⟨RF,hRF⟩ : ∃RF,folS G.ops L m C d s z (Q.drop k)=RF:=⟨_,rfl⟩
  rw [hRF];have HRF:=Z5 hRF;have HB:=Z5 hB;have Hz:=Z5 (JZ hzn hzb);clear hRF hB hzn hzb E;by_cases hkx : k=nx
  ·have hd1 : ((k : Int) == (nx : Int))=true:=by simp;omega
   have HF : Hid (RF=none):=by show _=_;rw [<- HRF.out,KD (by rw [I.out];omega),vV]
   go_enter func193,ntmps193;clear hkx;go_wp2_with fail;go_quiet (fail);go_wp2_with fail;go_ret;exact ⟨k,by rw [I.out];exact hk,HB.out.af (N6 ⟨_,rfl⟩),N3 (N6 ⟨_,rfl⟩) _,by rw [HF.out];rfl,λh=>by rw [HF.out] at h;cases h⟩
  have hkl : k<nx:=by omega
  have hd1 : ((k : Int) == (nx : Int))=false:=by simp;omega
  obtain ⟨ra,rn,rc,O,S⟩:=K.cell k hkl;have hcw : w.cell? ⟨ablk X,aL X+k,none⟩=some (.slice ra rn rc):=(hb.cell (J2 F _ O)).trans O;have hkts : k<Q.length:=by rw [I.out];exact hkl
  have Hdr : Hid (Q.drop k=ai Q k :: Q.drop (k+1)):=by show _=_;rw [KA hkts,aE hkts]
  generalize ai Q k=t at *;have hrow:=S.af hb;have HRt:=Z5 (λ(V : World) (H : OC w V)=>pj (c:=c) (cy:=cy) Z P M am mn cm (.slice X nx B) k D ns cs s ra rn rc t HE.out (hb.trans (H.mono hb.size)) (HB.out.af H) (hs.af H) (hrow.af H) (by omega));have HSk : Hid (∀V : World,OC w V->V.cell? ⟨Z,10,none⟩=some (.slice X nx B)/\V.cell? ⟨Z,11,none⟩=some (.int .i64 k)/\V.cell? ⟨ablk X,aL X+k,none⟩=some (.slice ra rn rc)/\OC w V):=λV H =>
   ⟨(HB.out.af H).cell 10 rfl,(HB.out.af H).cell 11 rfl,aB H hcw,H⟩
  obtain ⟨rr,hrr⟩ : ∃rr,dm G.ops L m C s t=rr:=⟨_,rfl⟩
  rw [hrr] at HRt;have Hrr:=Z5 hrr;clear hkx hrr;go_enter func193,ntmps193;go_upto_region 1 with fail;go_cut [32] (λv wx=>v = .bool (!rr)/\OC w wx);case first =>
   go_region_held3 (λW=>W.cell? ⟨Z,10,none⟩=some (.slice X nx B)/\W.cell? ⟨Z,11,none⟩=some (.int .i64 k)/\W.cell? ⟨ablk X,aL X+k,none⟩=some (.slice ra rn rc)/\OC w W)
    ((refine HSk.out _ ?_;first | exact hb3w | exact (JP _ _).drew | assumption | (go_split_ands;assumption)))
    (first
    | (go_at_call 233;((with_reducible refine (HRt.out _ (by go_split_ands;assumption)).mono ?_);rintro e w3 ⟨rfl,hb3⟩;have hb3w : OC w w3:=(by go_split_ands;exact NX (by assumption) hb3))))
   all_goals (go_wp2_with fail;go_meet;exact ⟨rfl,hb3w⟩)
  obtain ⟨rfl,hb2⟩:=hcut;generalize wc=w2 at *;cases rr
  ·have HF : Hid (RF=none):=by show _=_;rw [<- HRF.out,Hdr.out,xY _ _ _ _ _ _ _ _ _ Hrr.out]
   go_wp2_with fail;go_ret;exact ⟨k,by rw [I.out];exact hk,HB.out.af hb2,N3 hb2 _,by rw [HF.out];rfl,λh=>by rw [HF.out] at h;cases h⟩
  have HF : Hid (RF=kfol (folS G.ops L m C (d - 1)) s z (if ns<C.W then t.filter (λx=>decide (¬ x ∈ z)) else []) (Q.drop (k+1))):=by show _=_;rw [<- HRF.out,Hdr.out,Bz _ _ _ _ _ _ _ _ _ (by rw [Hsl.out];exact hd) Hrr.out,Hsl.out]
  have N:=(qu Hrr.out).1;have htn:=pE N;have hrl : rn<=64:=by have h1:=jB N (by omega);rw [S.len] at h1;omega
  have htr:=oq N;have hB2:=HB.out.af hb2;have f11:=hB2.frozen 11;have q11:=hB2.cell 11 rfl;have hmf : ∀(fn : Fn) (first cap : Array Value) (w : World),(Instr.makeFunc fn first cap).run prog w = .ok (.func fn first cap) w:=λ_ _ _ _=>rfl;go_upto_region 4 with fail;obtain ⟨U,hU⟩ : ∃U : World,U=w2.setCell ⟨Z,11,none⟩ (.int .i64 ((k : Int)+1)):=⟨_,rfl⟩
  rw [<- hU];have hBU : aO U Z (lL b P M am mn cm m a n c ay ny cy C (.slice X nx B) (k+1)):=by rw [hU];exact hB2.setCell 11 (.int .i64 ((k : Int)+1))
  have hMU : aD w U (λx=>x=Z) (λx=>x=Z):=by rw [hU];exact (N3 hb2 _).trans (aD.put w2 Z 11 _)
  have hk1 : k+1<=Q.length:=by rw [I.out];omega
  have HCh : Hid (∀V : World,bm U V->Calls prog 234 #[.pointer (some ⟨Z,0,none⟩),.slice D ns cs,.slice r nz cz,.slice ra rn rc,.func (.func 193) #[.pointer (some ⟨Z,0,none⟩)] #[]] V
    (uz F Z b P M am mn cm m a n c ay ny cy C (.slice X nx B) Q RF w)):=λV H=>by
   have hMV : aD w V (λx=>x=Z) (λx=>x=Z):=hMU.trans (N3 H.below _);have hbV : OC F V:=hb.trans (hMV.below (λx Y=>by rw [Y];exact hpb) hb.size);have hsV:=hs.dQ hMV hsp;have hzV:=hz.dQ hMV hzp;have hBV:=hBU.af H.below;have hpw : Z<w.heap.size:=HB.out.1;refine (pI (σ:=Nat) (λV κ=>κ<=Q.length/\OC F V/\aO V Z (lL b P M am mn cm m a n c ay ny cy C (.slice X nx B) κ)/\Ints V D ns s) (λ_ x=>x=Z) (λκ=>Q.drop κ) (λs z Q=>fiV (folS G.ops L m C (d - 1) s z Q)) Z C.W
    D ns cs s r nz cz z ra rn rc t V (k+1) ⟨hk1,hbV,hBV,hsV⟩ ?_ (hBV.cell 9 rfl) (λV' κ h=>⟨h.2.2.2,S.af h.2.1⟩) (λV' κ x h Y=>by rw [Y];exact h.2.2.1.1) hzV htn (by omega) (by omega) (by omega) (by omega) ?_).mono ?_
   ·rintro V1 V2 κ ⟨e1,e2,e3,e4⟩ hM;have hMb : Below V.heap.size V1 V2\/True:=.inr trivial;have hpV : Z<V.heap.size:=hBV.1;refine ⟨e1,e2.trans (hM.below (λx Y=>J4 hbV.size Y.1) e2.size),e3.dQ hM λY=>Y.2 rfl,e4.dQ hM λhn Y=>?_⟩;have h1:=hsV.lt hn;omega
   ·intro hlt V1 κ a1 c1 a2 c2 j zc hj hzc hnj hI hM h1 h2 h3 h4;obtain ⟨A,hd'⟩ : ∃A,A+1=d:=⟨d - 1,by omega⟩
    have hzl : zc.length<=64/\zc.Nodup/\∀x ∈ zc,0<=x/\x<(m : Int):=by
     have hsub : ∀x ∈ (t.take j).filter (λx=>decide (¬ x ∈ z)),x ∈ t/\¬ x ∈ z:=λx Y=>by rw [Lx] at Y;exact ⟨KQ Y.1,by simpa using Y.2⟩
     have hnd : zc.Nodup:=by rw [hzc,K2];refine ⟨Hz.out.1,LZ _ (LP (Me _ _) htn),λx Y y hy e=>?_⟩;exact (hsub y hy).2 (e ▸ Y)
     have hbd : ∀x ∈ zc,0<=x/\x<(m : Int):=λx Y=>by
      rw [hzc] at Y;rcases List.mem_append.1 Y with Y | Y
      ·exact Hz.out.2 x Y
      ·obtain ⟨q,hq,rfl⟩:=List.mem_iff_getElem.1 (hsub x Y).1;rw [<- aj hq];exact htr q hq
     exact ⟨J4 (mJ hnd hbd) hm6,hnd,hbd⟩
    have h5:=IH.out A hd' V1 κ a1 (ns+1) c1 (s ++ [nth t j]) a2 zc.length c2 zc (by omega) hzl.1 (by rw [<- I.out];exact hI.1) hI.2.1 hI.2.2.1 h1 h2 (λ_=>h3) (λh0=>h4 (by intro e;have:=h2.pl h0;rw [e] at this;cases this)) hzl.2.1 hzl.2.2;have hdd : d - 1=A:=by omega
    refine h5.mono ?_;rintro e V2 ⟨k',g1,g2,g3,g4,g5⟩;rw [hdd];exact ⟨k',⟨g1,hI.2.1.trans (g3.below (λx Y=>by rw [Y];exact hpb) hI.2.1.size),g2,hI.2.2.2.dQ g3 λhn=>hsp hn⟩,g3,g4,g5⟩
   ·rintro e V2 ⟨k',g1,g2,g3,g4⟩;rw [Bd,<- HF.out] at g3 g4;exact ⟨k',g1.1,g1.2.2.1,hMV.trans g2,g3,g4⟩
  have hwk : IntKind.i64.wrap (k : Int)=(k : Int):=J3 _ (by omega);have hkx : (k : Int)<(nx : Int):=by omega
  have HCd:=Z5 (HCh.out U.drew ⟨1,rfl⟩);clear HCh;have u10:=hBU.cell 10 rfl;have u11:=hBU.cell 11 rfl;have urow : U.cell? ⟨ablk X,aL X+k,none⟩=some (.slice ra rn rc):=by refine hMU.cell hcw λh=>?_;have h1:=J2 F _ O;have h2 : ablk X=Z:=h;simp only at h1;omega
  clear IH HRt HSk hBU hMU hB2 hU q11 f11 N htn S hrow K hs hz hk1 HF;go_region_law ((first
   | (go_simp;go_at_call 234;((with_reducible refine HCd.out.mono ?_);rintro e w5 ⟨k',g1,g2,g3,rfl,g5⟩))))
  all_goals (
   go_wp2_with fail
   go_ret
   exact ⟨k',g1,g2,g3,rfl,g5⟩)
end Go.Proofs.YthglbncgemdcbaaGreat
