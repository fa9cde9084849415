import Derived.Test.YthglbncgemdcbaaGreatS19
import Derived.Test.YthglbncgemdcbaaGreatS20
namespace Go.Proofs.YthglbncgemdcbaaGreat
set_option linter.all false
set_option maxRecDepth 100000
set_option maxHeartbeats 8000000
open Go.RowKit Go.Proofs.Tryz
def fiV : Option ZZ->Int × ZZ
 | none=>(13,[])
 | some r=>(0,r)
theorem Fe {F : Lz->Lz->ZZ->Option ZZ} {s : Lz} : ∀(ks z : Lz) (ts : ZZ),gW (λs z ts=>fiV (F s z ts)) s z ks ts=fiV (kfol F s z ks ts)
 | [],z,ts=>rfl
 | k :: ks,z,ts=>by
  rw [gW,kfol];cases h : F (s ++ [k]) z ts with
  | none=>exact Nf (by simp [fiV])
  | some r=>exact (Nd rfl).trans (Fe ks (z ++ [k]) r)
theorem EG (O : aL) (L : ZZ) (m : Nat) (C : jG) (d : Nat) (s z t : Lz) (ts : ZZ) (hd : s.length+d=C.W) (hr : dI O L m C s t=true) :
  folS O L m C d s z (t :: ts)=kfol (folS O L m C (d - 1)) s z (if s.length<C.W then t.filter (λx=>decide (¬ x ∈ z)) else []) ts:=by
 match d with
 | 0 =>
  have h1 : (if s.length<C.W then t.filter (λx=>decide (¬ x ∈ z)) else [])=[]:=Nf (by omega)
  rw [h1,folS]
  exact Nd hr
 | d+1 =>
  have h1 : (if s.length<C.W then t.filter (λx=>decide (¬ x ∈ z)) else [])=iy C s z t:=rfl
  rw [h1,folS]
  exact Nd hr
theorem Be (O : aL) (L : ZZ) (m : Nat) (C : jG) (d : Nat) (s z t : Lz) (ts : ZZ) (hr : dI O L m C s t=false) : folS O L m C d s z (t :: ts)=none:=by
 match d with
 | 0=>rw [folS];exact Nf (by rw [hr];simp)
 | d+1=>rw [folS];exact Nf (by rw [hr];simp)
theorem Bp (O : aL) (L : ZZ) (m : Nat) (C : jG) (d : Nat) (s z : Lz) : folS O L m C d s z []=none:=by
 match d with
 | 0=>rw [folS]
 | d+1=>rw [folS]
def A5 (w0 : World) (pb b : Nat) (P M : Int) (am : OA) (mn cm : Nat) (m : Nat) (a : OA) (n c : Nat) (ay : OA) (ny cy : Nat) (C : jG) (sv : Value) (ts : ZZ) (R : Option ZZ) (w : World) (e : Ending) (w' : World) : Prop :=
 ∃k',k'<=ts.length/\aN w' pb (qG b P M am mn cm m a n c ay ny cy C sv k')/\aE w w' (λx=>x=pb) (λx=>x=pb)/\e = .returned (.int .i64 (fiV R).1)/\((fiV R).1=0->ts.drop k'=(fiV R).2)
theorem uc {w0 : World} {b : Nat} {G : dn} {a : OA} {n : Nat} {L : ZZ} {m : Nat} {ay : OA} {ny : Nat} {C : jG} (pb : Nat) (P M : Int) (am : OA) (mn cm c cy : Nat)
  (ax : OA) (nx cx : Nat) (ts : ZZ) (E : Eg w0 b G a n L m ay ny C) (hts : br w0 ax nx ts) (hpb : w0.heap.size<=pb) :
  ∀(d : Nat) (w : World) (k : Nat) (sa : OA) (ns cs : Nat) (s : Lz) (az : OA) (nz cz : Nat) (z : Lz),ns+d=C.W->nz<=64->k<=nx->SW w0 w->aN w pb (qG b P M am mn cm m a n c ay ny cy C (.slice ax nx cx) k) ->
   Ints w sa ns s->Ints w az nz z->(0<ns->ablk sa ≠ pb)->(0<nz->ablk az ≠ pb)->z.Nodup->(∀x ∈ z,0<=x/\x<(m : Int)) ->
   Calls prog 193 #[.pointer (some ⟨pb,0,none⟩),.slice sa ns cs,.slice az nz cz] w (A5 w0 pb b P M am mn cm m a n c ay ny cy C (.slice ax nx cx) ts (folS G.ops L m C d s z (ts.drop k)) w)
 | d,w,k,sa,ns,cs,s,az,nz,cz,z,hd,hnz,hk,hb,hB,hs,hz,hsp,hzp,hzn,hzb=>by
  have IH : Hid (∀d',d'+1=d->∀(w : World) (k : Nat) (sa : OA) (ns cs : Nat) (s : Lz) (az : OA) (nz cz : Nat) (z : Lz),ns+d'=C.W->nz<=64->k<=nx->SW w0 w->aN w pb (qG b P M am mn cm m a n c ay ny cy C (.slice ax nx cx) k) ->
   Ints w sa ns s->Ints w az nz z->(0<ns->ablk sa ≠ pb)->(0<nz->ablk az ≠ pb)->z.Nodup->(∀x ∈ z,0<=x/\x<(m : Int)) ->
   Calls prog 193 #[.pointer (some ⟨pb,0,none⟩),.slice sa ns cs,.slice az nz cz] w (A5 w0 pb b P M am mn cm m a n c ay ny cy C (.slice ax nx cx) ts (folS G.ops L m C d' s z (ts.drop k)) w)):=λd' hd'=>by subst hd';exact uc pb P M am mn cm c cy ax nx cx ts E hts hpb d'
  have Htl:=Z5 hts.len;have hm6:=E.m6;have hw6:=E.w6;have hplx:=hts.pl;have hmaxx:=hts.max;unfold maxLen at hmaxx;have HE:=Z5 E;have Hsl:=Z5 hs.len;have p10:=hB.cell 10 rfl;have p11:=hB.cell 11 rfl;obtain ⟨RF,hRF⟩ : ∃RF,folS G.ops L m C d s z (ts.drop k)=RF:=⟨_,rfl⟩
  rw [hRF];have HRF:=Z5 hRF;have HB:=Z5 hB;have Hz:=Z5 (Np hzn hzb);clear hRF hB hzn hzb E;by_cases hkx : k=nx
  ·have hd1 : ((k : Int) == (nx : Int))=true:=by simp;omega
   have HF : Hid (RF=none):=by show _=_;rw [<- HRF.out,Ob (by rw [Htl.out];omega),Bp]
   go_enter func193,ntmps193;clear hkx;go_wp2_with fail;go_quiet (fail);go_wp2_with fail;go_ret;exact ⟨k,by rw [Htl.out];exact hk,HB.out.ah (Sj ⟨_,rfl⟩),Se (Sj ⟨_,rfl⟩) _,by rw [HF.out];rfl,λh=>by rw [HF.out] at h;cases h⟩
  have hkl : k<nx:=by omega
  have hd1 : ((k : Int) == (nx : Int))=false:=by simp;omega
  obtain ⟨ra,rn,rc,hcell,hrow0⟩:=hts.cell k hkl;have hcw : w.cell? ⟨ablk ax,aK ax+k,none⟩=some (.slice ra rn rc):=(hb.cell (Nt w0 _ hcell)).trans hcell;have hkts : k<ts.length:=by rw [Htl.out];exact hkl
  have Hdr : Hid (ts.drop k=ai ts k :: ts.drop (k+1)):=by show _=_;rw [NV hkts,aC hkts]
  generalize ai ts k=t at *;have hrow:=hrow0.ah hb;have HRt:=Z5 (λ(V : World) (hV : SW w V)=>uu (c:=c) (cy:=cy) pb P M am mn cm (.slice ax nx cx) k sa ns cs s ra rn rc t HE.out (hb.trans (hV.mono hb.size)) (HB.out.ah hV) (hs.ah hV) (hrow.ah hV) (by omega));have HSk : Hid (∀V : World,SW w V->V.cell? ⟨pb,10,none⟩=some (.slice ax nx cx)/\V.cell? ⟨pb,11,none⟩=some (.int .i64 k)/\V.cell? ⟨ablk ax,aK ax+k,none⟩=some (.slice ra rn rc)/\SW w V):=λV hV =>
   ⟨(HB.out.ah hV).cell 10 rfl,(HB.out.ah hV).cell 11 rfl,aB hV hcw,hV⟩
  obtain ⟨rr,hrr⟩ : ∃rr,dI G.ops L m C s t=rr:=⟨_,rfl⟩
  rw [hrr] at HRt;have Hrr:=Z5 hrr;clear hkx hrr;go_enter func193,ntmps193;go_upto_region 1 with fail;go_cut [32] (λv wx=>v = .bool (!rr)/\SW w wx);case first =>
   go_region_held3 (λW=>W.cell? ⟨pb,10,none⟩=some (.slice ax nx cx)/\W.cell? ⟨pb,11,none⟩=some (.int .i64 k)/\W.cell? ⟨ablk ax,aK ax+k,none⟩=some (.slice ra rn rc)/\SW w W)
    ((refine HSk.out _ ?_;first | exact hb3w | exact (Nc _ _).drew | assumption | (go_split_ands;assumption)))
    (first
    | (go_at_call 233;((with_reducible refine (HRt.out _ (by go_split_ands;assumption)).mono ?_);rintro e w3 ⟨rfl,hb3⟩;have hb3w : SW w w3:=(by go_split_ands;exact RZ (by assumption) hb3))))
   all_goals (go_wp2_with fail;go_meet;exact ⟨rfl,hb3w⟩)
  obtain ⟨rfl,hb2⟩:=hcut;generalize wc=w2 at *;cases rr
  ·have HF : Hid (RF=none):=by show _=_;rw [<- HRF.out,Hdr.out,Be _ _ _ _ _ _ _ _ _ Hrr.out]
   go_wp2_with fail;go_ret;exact ⟨k,by rw [Htl.out];exact hk,HB.out.ah hb2,Se hb2 _,by rw [HF.out];rfl,λh=>by rw [HF.out] at h;cases h⟩
  have HF : Hid (RF=kfol (folS G.ops L m C (d - 1)) s z (if ns<C.W then t.filter (λx=>decide (¬ x ∈ z)) else []) (ts.drop (k+1))):=by show _=_;rw [<- HRF.out,Hdr.out,EG _ _ _ _ _ _ _ _ _ (by rw [Hsl.out];exact hd) Hrr.out,Hsl.out]
  have hoks:=(sC Hrr.out).1;have htn:=p9 hoks;have hrl : rn<=64:=by have h1:=jx hoks (by omega);rw [hrow0.len] at h1;omega
  have htr:=qi hoks;have hB2:=HB.out.ah hb2;have f11:=hB2.frozen 11;have q11:=hB2.cell 11 rfl;have hmf : ∀(fn : Fn) (first cap : Array Value) (w : World),(Instr.makeFunc fn first cap).run prog w = .ok (.func fn first cap) w:=λ_ _ _ _=>rfl;go_upto_region 4 with fail;obtain ⟨U,hU⟩ : ∃U : World,U=w2.setCell ⟨pb,11,none⟩ (.int .i64 ((k : Int)+1)):=⟨_,rfl⟩
  rw [<- hU];have hBU : aN U pb (qG b P M am mn cm m a n c ay ny cy C (.slice ax nx cx) (k+1)):=by rw [hU];exact hB2.setCell 11 (.int .i64 ((k : Int)+1))
  have hMU : aE w U (λx=>x=pb) (λx=>x=pb):=by rw [hU];exact (Se hb2 _).trans (aE.put w2 pb 11 _)
  have hk1 : k+1<=ts.length:=by rw [Htl.out];omega
  have HCh : Hid (∀V : World,bf U V->Calls prog 234 #[.pointer (some ⟨pb,0,none⟩),.slice sa ns cs,.slice az nz cz,.slice ra rn rc,.func (.func 193) #[.pointer (some ⟨pb,0,none⟩)] #[]] V
    (A5 w0 pb b P M am mn cm m a n c ay ny cy C (.slice ax nx cx) ts RF w)):=λV hV=>by
   have hMV : aE w V (λx=>x=pb) (λx=>x=pb):=hMU.trans (Se hV.below _);have hbV : SW w0 V:=hb.trans (hMV.below (λx hx=>by rw [hx];exact hpb) hb.size);have hsV:=hs.dD hMV hsp;have hzV:=hz.dD hMV hzp;have hBV:=hBU.ah hV.below;have hpw : pb<w.heap.size:=HB.out.1;refine (uQ (σ:=Nat) (λV κ=>κ<=ts.length/\SW w0 V/\aN V pb (qG b P M am mn cm m a n c ay ny cy C (.slice ax nx cx) κ)/\Ints V sa ns s) (λ_ x=>x=pb) (λκ=>ts.drop κ) (λs z ts=>fiV (folS G.ops L m C (d - 1) s z ts)) pb C.W
    sa ns cs s az nz cz z ra rn rc t V (k+1) ⟨hk1,hbV,hBV,hsV⟩ ?_ (hBV.cell 9 rfl) (λV' κ h=>⟨h.2.2.2,hrow0.ah h.2.1⟩) (λV' κ x h hx=>by rw [hx];exact h.2.2.1.1) hzV htn (by omega) (by omega) (by omega) (by omega) ?_).mono ?_
   ·rintro V1 V2 κ ⟨e1,e2,e3,e4⟩ hM;have hMb : Below V.heap.size V1 V2\/True:=.inr trivial;have hpV : pb<V.heap.size:=hBV.1;refine ⟨e1,e2.trans (hM.below (λx hx=>Nr hbV.size hx.1) e2.size),e3.dD hM λhx=>hx.2 rfl,e4.dD hM λhn hx=>?_⟩;have h1:=hsV.lt hn;omega
   ·intro hlt V1 κ a1 c1 a2 c2 j zc hj hzc hnj hI hM h1 h2 h3 h4;obtain ⟨d',hd'⟩ : ∃d',d'+1=d:=⟨d - 1,by omega⟩
    have hzl : zc.length<=64/\zc.Nodup/\∀x ∈ zc,0<=x/\x<(m : Int):=by
     have hsub : ∀x ∈ (t.take j).filter (λx=>decide (¬ x ∈ z)),x ∈ t/\¬ x ∈ z:=λx hx=>by rw [OG] at hx;exact ⟨Og hx.1,by simpa using hx.2⟩
     have hnd : zc.Nodup:=by rw [hzc,OM];refine ⟨Hz.out.1,Oy _ (Pd (PK _ _) htn),λx hx y hy e=>?_⟩;exact (hsub y hy).2 (e ▸ hx)
     have hbd : ∀x ∈ zc,0<=x/\x<(m : Int):=λx hx=>by
      rw [hzc] at hx;rcases List.mem_append.1 hx with hx | hx
      ·exact Hz.out.2 x hx
      ·obtain ⟨q,hq,rfl⟩:=List.mem_iff_getElem.1 (hsub x hx).1;rw [<- aj hq];exact htr q hq
     exact ⟨Nr (mW hnd hbd) hm6,hnd,hbd⟩
    have h5:=IH.out d' hd' V1 κ a1 (ns+1) c1 (s ++ [nth t j]) a2 zc.length c2 zc (by omega) hzl.1 (by rw [<- Htl.out];exact hI.1) hI.2.1 hI.2.2.1 h1 h2 (λ_=>h3) (λh0=>h4 (by intro e;have:=h2.pl h0;rw [e] at this;cases this)) hzl.2.1 hzl.2.2;have hdd : d - 1=d':=by omega
    refine h5.mono ?_;rintro e V2 ⟨k',g1,g2,g3,g4,g5⟩;rw [hdd];exact ⟨k',⟨g1,hI.2.1.trans (g3.below (λx hx=>by rw [hx];exact hpb) hI.2.1.size),g2,hI.2.2.2.dD g3 λhn=>hsp hn⟩,g3,g4,g5⟩
   ·rintro e V2 ⟨k',g1,g2,g3,g4⟩;rw [Fe,<- HF.out] at g3 g4;exact ⟨k',g1.1,g1.2.2.1,hMV.trans g2,g3,g4⟩
  have hwk : IntKind.i64.wrap (k : Int)=(k : Int):=Ns _ (by omega);have hkx : (k : Int)<(nx : Int):=by omega
  have HCd:=Z5 (HCh.out U.drew ⟨1,rfl⟩);clear HCh;have u10:=hBU.cell 10 rfl;have u11:=hBU.cell 11 rfl;have urow : U.cell? ⟨ablk ax,aK ax+k,none⟩=some (.slice ra rn rc):=by refine hMU.cell hcw λh=>?_;have h1:=Nt w0 _ hcell;have h2 : ablk ax=pb:=h;simp only at h1;omega
  clear IH HRt HSk hBU hMU hB2 hU q11 f11 hoks htn hrow0 hrow hts hs hz hk1 HF;go_region_law ((first
   | (go_simp;go_at_call 234;((with_reducible refine HCd.out.mono ?_);rintro e w5 ⟨k',g1,g2,g3,rfl,g5⟩))))
  all_goals (
   go_wp2_with fail
   go_ret
   exact ⟨k',g1,g2,g3,rfl,g5⟩)
end Go.Proofs.YthglbncgemdcbaaGreat
