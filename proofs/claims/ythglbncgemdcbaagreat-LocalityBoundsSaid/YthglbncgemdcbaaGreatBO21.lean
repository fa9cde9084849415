import Derived.Test.YthglbncgemdcbaaGreatBO19
import Derived.Test.YthglbncgemdcbaaGreatBO16
namespace Go.Proofs.YthglbncgemdcbaaGreat
set_option linter.all false
set_option maxRecDepth 100000
set_option maxHeartbeats 8000000
open Go.RowKit Go.Proofs.Tryz
def fiV:Option ZZ->Int × ZZ
 | none=>(13,[])
 | some r=>(0,r)
theorem Dc {F:Lz->Lz->ZZ->Option ZZ} {s:Lz}:∀(Y z:Lz) (Z:ZZ),gT (λs z Z=>fiV (F s z Z)) s z Y Z=fiV (kfol F s z Y Z)
 | [],z,Z=>rfl
 | k :: Y,z,Z=>by
  rw [gT,kfol];cases h:F (s ++ [k]) z Z with
  | none=>exact M8 (by simp [fiV])
  | some r=>exact (M7 rfl).trans (Dc Y (z ++ [k]) r)
theorem Ko (O:aL) (L:ZZ) (m:Nat) (C:kW) (d:Nat) (s z t:Lz) (Z:ZZ) (hd:s.length+d=C.W) (Y:eB O L m C s t=true) :
  folS O L m C d s z (t :: Z)=kfol (folS O L m C (d - 1)) s z (if s.length<C.W then t.filter (λx=>decide (¬ x ∈ z)) else []) Z:=by
 match d with
 | 0 =>
  have h1:(if s.length<C.W then t.filter (λx=>decide (¬ x ∈ z)) else [])=[]:=M8 (by omega)
  rw [h1,folS]
  exact M7 Y
 | d+1 =>
  have h1:(if s.length<C.W then t.filter (λx=>decide (¬ x ∈ z)) else [])=AZ C s z t:=rfl
  rw [h1,folS]
  exact M7 Y
theorem GU (O:aL) (L:ZZ) (m:Nat) (C:kW) (d:Nat) (s z t:Lz) (Y:ZZ) (Z:eB O L m C s t=false):folS O L m C d s z (t :: Y)=none:=by
 match d with
 | 0=>rw [folS];exact M8 (by rw [Z];simp)
 | d+1=>rw [folS];exact M8 (by rw [Z];simp)
theorem H8 (O:aL) (L:ZZ) (m:Nat) (C:kW) (d:Nat) (s z:Lz):folS O L m C d s z []=none:=by
 match d with
 | 0=>rw [folS]
 | d+1=>rw [folS]
def xg (N:ej) (Z b:Nat) (P M:Int) (am:OA) (S Q:Nat) (m:Nat) (a:OA) (n c:Nat) (V:OA) (O cy:Nat) (C:kW) (U:Value) (X:ZZ) (R:Option ZZ) (w:ej) (e:Ending) (w':ej):Prop :=
 ∃Y,Y<=X.length/\aQ w' Z (mT b P M am S Q m a n c V O cy C U Y)/\aB w w' (λx=>x=Z) (λx=>x=Z)/\e = .returned (cG (fiV R).1)/\((fiV R).1=0->X.drop Y=(fiV R).2)
theorem qL {D:ej} {b:Nat} {G:bX} {a:OA} {n:Nat} {L:ZZ} {m:Nat} {ay:OA} {ny:Nat} {C:kW} (Z:Nat) (P M:Int) (am:OA) (mn cm c cy:Nat)
  (X:OA) (Q A:Nat) (S:ZZ) (E:Ce D b G a n L m ay ny C) (I:bP D X Q S) (hpb:D.heap.size<=Z) :
  ∀(d:Nat) (w:ej) (k:Nat) (F:OA) (ns cs:Nat) (s:Lz) (r:OA) (nz cz:Nat) (z:Lz),ns+d=C.W->nz<=64->k<=Q->SJ D w->aQ w Z (mT b P M am mn cm m a n c ay ny cy C (.slice X Q A) k) ->
   Ints w F ns s->Ints w r nz z->(0<ns->ablk F ≠ Z)->(0<nz->ablk r ≠ Z)->z.Nodup->(∀x ∈ z,0<=x/\x<(m:Int)) ->
   Calls prog 193 #[ea Z 0,.slice F ns cs,.slice r nz cz] w (xg D Z b P M am mn cm m a n c ay ny cy C (.slice X Q A) S (folS G.ops L m C d s z (S.drop k)) w)
 | d,w,k,F,ns,cs,s,r,nz,cz,z,hd,hnz,hk,hb,hB,hs,hz,hsp,hzp,hzn,hzb=>by
  have IH:Hid (∀d',d'+1=d->∀(w:ej) (k:Nat) (F:OA) (ns cs:Nat) (s:Lz) (r:OA) (nz cz:Nat) (z:Lz),ns+d'=C.W->nz<=64->k<=Q->SJ D w->aQ w Z (mT b P M am mn cm m a n c ay ny cy C (.slice X Q A) k) ->
   Ints w F ns s->Ints w r nz z->(0<ns->ablk F ≠ Z)->(0<nz->ablk r ≠ Z)->z.Nodup->(∀x ∈ z,0<=x/\x<(m:Int)) ->
   Calls prog 193 #[ea Z 0,.slice F ns cs,.slice r nz cz] w (xg D Z b P M am mn cm m a n c ay ny cy C (.slice X Q A) S (folS G.ops L m C d' s z (S.drop k)) w)):=λd' hd'=>by subst hd';exact qL Z P M am mn cm c cy X Q A S E I hpb d'
  have H:=Z5 I.len;have hm6:=E.m6;have hw6:=E.w6;have hplx:=I.pl;have hmaxx:=I.max;unfold maxLen at hmaxx;have HE:=Z5 E;have Hsl:=Z5 hs.len;have p10:=hB.cell 10 rfl;have p11:=hB.cell 11 rfl;obtain ⟨RF,hRF⟩:∃RF,folS G.ops L m C d s z (S.drop k)=RF:=⟨_,rfl⟩
  rw [hRF];have HRF:=Z5 hRF;have HB:=Z5 hB;have Hz:=Z5 (Ng hzn hzb);clear hRF hB hzn hzb E;by_cases hkx:k=Q
  ·have hd1:((k:Int) == (Q:Int))=true:=by simp;omega
   have HF:Hid (RF=none):=by show _=_;rw [<- HRF.out,Ob (by rw [H.out];omega),H8]
   go_enter func193,ntmps193;clear hkx;go_wp2_with fail;go_quiet (fail);go_wp2_with fail;go_ret;exact ⟨k,by rw [H.out];exact hk,HB.ai (Sd ⟨_,rfl⟩),RZ (Sd ⟨_,rfl⟩) _,by rw [HF.out];rfl,λh=>by rw [HF.out] at h;cases h⟩
  have hkl:k<Q:=by omega
  have hd1:((k:Int) == (Q:Int))=false:=by simp;omega
  obtain ⟨ra,rn,rc,N,O⟩:=I.cell k hkl;have hcw:w.cell? ⟨ablk X,aN X+k,none⟩=some (.slice ra rn rc):=(hb.cell (Nf D _ N)).trans N;have hkts:k<S.length:=by rw [H.out];exact hkl
  have Hdr:Hid (S.drop k=aj S k :: S.drop (k+1)):=by show _=_;rw [NX hkts,aH hkts]
  generalize aj S k=t at *;have hrow:=O.ai hb;have HRt:=Z5 (λ(V:ej) (B:SJ w V)=>qk (c:=c) (cy:=cy) Z P M am mn cm (.slice X Q A) k F ns cs s ra rn rc t HE.out (hb.trans (B.mono hb.size)) (HB.ai B) (hs.ai B) (hrow.ai B) (by omega));have HSk:Hid (∀V:ej,SJ w V->V.cell? ⟨Z,10,none⟩=some (.slice X Q A)/\V.cell? ⟨Z,11,none⟩=some (cG k)/\V.cell? ⟨ablk X,aN X+k,none⟩=some (.slice ra rn rc)/\SJ w V):=λV B =>
   ⟨(HB.ai B).cell 10 rfl,(HB.ai B).cell 11 rfl,aC B hcw,B⟩
  obtain ⟨rr,hrr⟩:∃rr,eB G.ops L m C s t=rr:=⟨_,rfl⟩
  rw [hrr] at HRt;have Hrr:=Z5 hrr;clear hkx hrr;go_enter func193,ntmps193;go_upto_region 1 with fail;go_cut [32] (λv wx=>v = .bool (!rr)/\SJ w wx);case first =>
   go_region_held3 (λW=>W.cell? ⟨Z,10,none⟩=some (.slice X Q A)/\W.cell? ⟨Z,11,none⟩=some (cG k)/\W.cell? ⟨ablk X,aN X+k,none⟩=some (.slice ra rn rc)/\SJ w W)
    ((refine HSk _ ?_;first|exact hb3w|exact (M5 _ _).drew|assumption|(go_split_ands;assumption)))
    (first
    | (go_at_call 233;((with_reducible refine (HRt.out _ (by go_split_ands;assumption)).mono ?_);rintro e w3 ⟨rfl,hb3⟩;have hb3w:SJ w w3:=(by go_split_ands;exact RU (by assumption) hb3))))
   all_goals (go_wp2_with fail;go_meet;exact ⟨rfl,hb3w⟩)
  obtain ⟨rfl,hb2⟩:=hcut;generalize wc=w2 at *;cases rr
  ·have HF:Hid (RF=none):=by show _=_;rw [<- HRF.out,Hdr.out,GU _ _ _ _ _ _ _ _ _ Hrr.out]
   go_wp2_with fail;go_ret;exact ⟨k,by rw [H.out];exact hk,HB.ai hb2,RZ hb2 _,by rw [HF.out];rfl,λh=>by rw [HF.out] at h;cases h⟩
  have HF:Hid (RF=kfol (folS G.ops L m C (d - 1)) s z (if ns<C.W then t.filter (λx=>decide (¬ x ∈ z)) else []) (S.drop (k+1))):=by show _=_;rw [<- HRF.out,Hdr.out,Ko _ _ _ _ _ _ _ _ _ (by rw [Hsl.out];exact hd) Hrr.out,Hsl.out]
  have K:=(IP Hrr.out).1;have htn:=qp K;have hrl:rn<=64:=by have h1:=mM K (by omega);rw [O.len] at h1;omega
  have htr:=pL K;have hB2:=HB.ai hb2;have f11:=hB2.frozen 11;have q11:=hB2.cell 11 rfl;have hmf:∀(fn:Fn) (first cap:Array Value) (w:ej),(Instr.makeFunc fn first cap).run prog w = .ok (.func fn first cap) w:=λ_ _ _ _=>rfl;go_upto_region 4 with fail;obtain ⟨U,hU⟩:∃U:ej,U=w2.setCell ⟨Z,11,none⟩ (cG ((k:Int)+1)):=⟨_,rfl⟩
  rw [<- hU];have hBU:aQ U Z (mT b P M am mn cm m a n c ay ny cy C (.slice X Q A) (k+1)):=by rw [hU];exact hB2.setCell 11 (cG ((k:Int)+1))
  have hMU:aB w U (λx=>x=Z) (λx=>x=Z):=by rw [hU];exact (RZ hb2 _).trans (SG w2 Z 11 _)
  have hk1:k+1<=S.length:=by rw [H.out];omega
  have HCh:Hid (∀V:ej,bm U V->Calls prog 234 #[ea Z 0,.slice F ns cs,.slice r nz cz,.slice ra rn rc,.func (.func 193) #[ea Z 0] #[]] V
    (xg D Z b P M am mn cm m a n c ay ny cy C (.slice X Q A) S RF w)):=λV B=>by
   have hMV:aB w V (λx=>x=Z) (λx=>x=Z):=hMU.trans (RZ B.below _);have hbV:SJ D V:=hb.trans (hMV.below (λx Y=>by rw [Y];exact hpb) hb.size);have hsV:=hs.cQ hMV hsp;have hzV:=hz.cQ hMV hzp;have hBV:=hBU.ai B.below;have hpw:Z<w.heap.size:=HB.1;refine (qX (σ:=Nat) (λV κ=>κ<=S.length/\SJ D V/\aQ V Z (mT b P M am mn cm m a n c ay ny cy C (.slice X Q A) κ)/\Ints V F ns s) (λ_ x=>x=Z) (λκ=>S.drop κ) (λs z S=>fiV (folS G.ops L m C (d - 1) s z S)) Z C.W
    F ns cs s r nz cz z ra rn rc t V (k+1) ⟨hk1,hbV,hBV,hsV⟩ ?_ (hBV.cell 9 rfl) (λV' κ h=>⟨h.2.2.2,O.ai h.2.1⟩) (λV' κ x h Y=>by rw [Y];exact h.2.2.1.1) hzV htn (by omega) (by omega) (by omega) (by omega) ?_).mono ?_
   ·rintro V1 V2 κ ⟨e1,e2,e3,e4⟩ hM;have hMb:Below V.heap.size V1 V2\/True:=.inr trivial;have hpV:Z<V.heap.size:=hBV.1;refine ⟨e1,e2.trans (hM.below (λx Y=>Np hbV.size Y.1) e2.size),e3.cQ hM λY=>Y.2 rfl,e4.cQ hM λhn Y=>?_⟩;have h1:=hsV.lt hn;omega
   ·intro hlt V1 κ a1 c1 a2 c2 j zc hj hzc hnj hI hM h1 h2 h3 h4;obtain ⟨d',hd'⟩:∃d',d'+1=d:=⟨d - 1,by omega⟩
    have hzl:zc.length<=64/\zc.Nodup/\∀x ∈ zc,0<=x/\x<(m:Int):=by
     have hsub:∀x ∈ (t.take j).filter (λx=>decide (¬ x ∈ z)),x ∈ t/\¬ x ∈ z:=λx Y=>by rw [OT] at Y;exact ⟨N9 Y.1,by simpa using Y.2⟩
     have hnd:zc.Nodup:=by rw [hzc,Oj];refine ⟨Hz.1,PB _ (PO (PY _ _) htn),λx Y y hy e=>?_⟩;exact (hsub y hy).2 (e ▸ Y)
     have hbd:∀x ∈ zc,0<=x/\x<(m:Int):=λx Y=>by
      rw [hzc] at Y;rcases List.mem_append.1 Y with Y | Y
      ·exact Hz.2 x Y
      ·obtain ⟨q,hq,rfl⟩:=List.mem_iff_getElem.1 (hsub x Y).1;rw [<- an hq];exact htr q hq
     exact ⟨Np (sQ hnd hbd) hm6,hnd,hbd⟩
    have h5:=IH d' hd' V1 κ a1 (ns+1) c1 (s ++ [nth t j]) a2 zc.length c2 zc (by omega) hzl.1 (by rw [<- H.out];exact hI.1) hI.2.1 hI.2.2.1 h1 h2 (λ_=>h3) (λh0=>h4 (by intro e;have:=h2.pl h0;rw [e] at this;cases this)) hzl.2.1 hzl.2.2;have hdd:d - 1=d':=by omega
    refine h5.mono ?_;rintro e V2 ⟨k',g1,g2,g3,g4,g5⟩;rw [hdd];exact ⟨k',⟨g1,hI.2.1.trans (g3.below (λx Y=>by rw [Y];exact hpb) hI.2.1.size),g2,hI.2.2.2.cQ g3 λhn=>hsp hn⟩,g3,g4,g5⟩
   ·rintro e V2 ⟨k',g1,g2,g3,g4⟩;rw [Dc,<- HF.out] at g3 g4;exact ⟨k',g1.1,g1.2.2.1,hMV.trans g2,g3,g4⟩
  have hwk:IntKind.i64.wrap (k:Int)=(k:Int):=Nn _ (by omega);have hkx:(k:Int)<(Q:Int):=by omega
  have HCd:=Z5 (HCh U.drew ⟨1,rfl⟩);clear HCh;have u10:=hBU.cell 10 rfl;have u11:=hBU.cell 11 rfl;have urow:U.cell? ⟨ablk X,aN X+k,none⟩=some (.slice ra rn rc):=by refine hMU.cell hcw λh=>?_;have h1:=Nf D _ N;have h2:ablk X=Z:=h;simp only at h1;omega
  clear IH HRt HSk hBU hMU hB2 hU q11 f11 K htn O hrow I hs hz hk1 HF;go_region_law ((first
   | (go_simp;go_at_call 234;((with_reducible refine HCd.out.mono ?_);rintro e w5 ⟨k',g1,g2,g3,rfl,g5⟩))))
  all_goals (
   go_wp2_with fail
   go_ret
   exact ⟨k',g1,g2,g3,rfl,g5⟩)
end Go.Proofs.YthglbncgemdcbaaGreat
