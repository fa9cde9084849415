import Derived.Test.YthglbncgemdcbaaGreatCE15
import Derived.Test.YthglbncgemdcbaaGreatCE14
namespace Go.Proofs.YthglbncgemdcbaaGreat
set_option linter.all false
set_option maxRecDepth 100000
set_option maxHeartbeats 8000000
open Go.RowKit Go.Proofs.Tryz
def fiV:Option Ll->Int × Ll
 | none=>(13,[])
 | some r=>(0,r)
theorem BK {F:LI->LI->Ll->Option Ll} {s:LI}:∀(Y z:LI) (Z:Ll),e9 (λs z Z=>fiV (F s z Z)) s z Y Z=fiV (kfol F s z Y Z)
 | [],z,Z=>rfl
 | k :: Y,z,Z=>by
  rw [e9,kfol];cases h:F (s ++ [k]) z Z with
  | none=>exact KY (by simp [fiV])
  | some r=>exact (KX rfl).trans (BK Y (z ++ [k]) r)
theorem IW (O:aP) (L:Ll) (m:Nat) (C:js) (d:Nat) (s z t:LI) (Y:Ll) (hd:s.length+d=C.W) (Z:dx O L m C s t=true) :
  folS O L m C d s z (t :: Y)=kfol (folS O L m C (d - 1)) s z (if s.length<C.W then t.filter (λx=>decide (¬ x ∈ z)) else []) Y:=by
 match d with
 | 0 =>
  have h1:(if s.length<C.W then t.filter (λx=>decide (¬ x ∈ z)) else [])=[]:=KY (by omega)
  rw [h1,folS]
  exact KX Z
 | d+1 =>
  have h1:(if s.length<C.W then t.filter (λx=>decide (¬ x ∈ z)) else [])=jL C s z t:=rfl
  rw [h1,folS]
  exact KX Z
theorem Fo (O:aP) (L:Ll) (m:Nat) (C:js) (d:Nat) (s z t:LI) (Y:Ll) (Z:dx O L m C s t=false):folS O L m C d s z (t :: Y)=none:=by
 match d with
 | 0=>rw [folS];exact KY (by rw [Z];simp)
 | d+1=>rw [folS];exact KY (by rw [Z];simp)
theorem E9 (O:aP) (L:Ll) (m:Nat) (C:js) (d:Nat) (s z:LI):folS O L m C d s z []=none:=by
 match d with
 | 0=>rw [folS]
 | d+1=>rw [folS]
def wa (O:World) (Y b:Nat) (P M:Int) (am:OA) (S cm:Nat) (m:Nat) (a:OA) (n c:Nat) (V:OA) (U cy:Nat) (C:js) (Q:Value) (X:Ll) (R:Option Ll) (w:World) (e:Ending) (w':World):Prop :=
 ∃Z,Z<=X.length/\aQ w' Y (mA b P M am S cm m a n c V U cy C Q Z)/\aC w w' (λx=>x=Y) (λx=>x=Y)/\e = .returned (cG (fiV R).1)/\((fiV R).1=0->X.drop Z=(fiV R).2)
theorem pS {B:World} {b:Nat} {G:cZ} {a:OA} {n:Nat} {L:Ll} {m:Nat} {ay:OA} {ny:Nat} {C:js} (Z:Nat) (P M:Int) (am:OA) (mn cm c cy:Nat)
  (X:OA) (nx A:Nat) (Q:Ll) (E:Ak B b G a n L m ay ny C) (K:bw B X nx Q) (hpb:B.heap.size<=Z) :
  ∀(d:Nat) (w:World) (k:Nat) (D:OA) (ns cs:Nat) (s:LI) (az:OA) (nz cz:Nat) (z:LI),ns+d=C.W->nz<=64->k<=nx->PY B w->aQ w Z (mA b P M am mn cm m a n c ay ny cy C (.slice X nx A) k) ->
   Ints w D ns s->Ints w az nz z->(0<ns->ablk D ≠ Z)->(0<nz->ablk az ≠ Z)->z.Nodup->(∀x ∈ z,0<=x/\x<(m:Int)) ->
   Calls prog 193 #[.pointer (some ⟨Z,0,none⟩),.slice D ns cs,.slice az nz cz] w (wa B Z b P M am mn cm m a n c ay ny cy C (.slice X nx A) Q (folS G.ops L m C d s z (Q.drop k)) w)
 | d,w,k,D,ns,cs,s,az,nz,cz,z,hd,hnz,hk,hb,hB,hs,hz,hsp,hzp,hzn,hzb=>by
  have IH:Hid (∀r,r+1=d->∀(w:World) (k:Nat) (D:OA) (ns cs:Nat) (s:LI) (az:OA) (nz cz:Nat) (z:LI),ns+r=C.W->nz<=64->k<=nx->PY B w->aQ w Z (mA b P M am mn cm m a n c ay ny cy C (.slice X nx A) k) ->
   Ints w D ns s->Ints w az nz z->(0<ns->ablk D ≠ Z)->(0<nz->ablk az ≠ Z)->z.Nodup->(∀x ∈ z,0<=x/\x<(m:Int)) ->
   Calls prog 193 #[.pointer (some ⟨Z,0,none⟩),.slice D ns cs,.slice az nz cz] w (wa B Z b P M am mn cm m a n c ay ny cy C (.slice X nx A) Q (folS G.ops L m C r s z (Q.drop k)) w)):=λr hd'=>by subst hd';exact pS Z P M am mn cm c cy X nx A Q E K hpb r
  have H:=Z5 K.len;have hm6:=E.m6;have hw6:=E.w6;have hplx:=K.pl;have hmaxx:=K.max;unfold maxLen at hmaxx;have HE:=Z5 E;have Hsl:=Z5 hs.len;have p10:=hB.cell 10 rfl;have p11:=hB.cell 11 rfl;obtain ⟨RF,hRF⟩:∃RF,folS G.ops L m C d s z (Q.drop k)=RF:=⟨_,rfl⟩
  rw [hRF];have HRF:=Z5 hRF;have HB:=Z5 hB;have Hz:=Z5 (K3 hzn hzb);clear hRF hB hzn hzb E;by_cases hkx:k=nx
  ·have hd1:((k:Int) == (nx:Int))=true:=by simp;omega
   have HF:Hid (RF=none):=by show _=_;rw [<- HRF.out,L0 (by rw [H.out];omega),E9]
   go_enter func193,ntmps193;clear hkx;go_wp2_with fail;go_quiet (fail);go_wp2_with fail;go_ret;exact ⟨k,by rw [H.out];exact hk,HB.af (Pw ⟨_,rfl⟩),Pr (Pw ⟨_,rfl⟩) _,by rw [HF.out];rfl,λh=>by rw [HF.out] at h;cases h⟩
  have hkl:k<nx:=by omega
  have hd1:((k:Int) == (nx:Int))=false:=by simp;omega
  obtain ⟨ra,rn,rc,O,S⟩:=K.cell k hkl;have hcw:w.cell? ⟨ablk X,aJ X+k,none⟩=some (.slice ra rn rc):=(hb.cell (Lb B _ O)).trans O;have hkts:k<Q.length:=by rw [H.out];exact hkl
  have Hdr:Hid (Q.drop k=ai Q k :: Q.drop (k+1)):=by show _=_;rw [LH hkts,aE hkts]
  generalize ai Q k=t at *;have hrow:=S.af hb;have HRt:=Z5 (λ(V:World) (F:PY w V)=>qi (c:=c) (cy:=cy) Z P M am mn cm (.slice X nx A) k D ns cs s ra rn rc t HE.out (hb.trans (F.mono hb.size)) (HB.af F) (hs.af F) (hrow.af F) (by omega));have HSk:Hid (∀V:World,PY w V->V.cell? ⟨Z,10,none⟩=some (.slice X nx A)/\V.cell? ⟨Z,11,none⟩=some (cG k)/\V.cell? ⟨ablk X,aJ X+k,none⟩=some (.slice ra rn rc)/\PY w V):=λV F =>
   ⟨(HB.af F).cell 10 rfl,(HB.af F).cell 11 rfl,aB F hcw,F⟩
  obtain ⟨rr,hrr⟩:∃rr,dx G.ops L m C s t=rr:=⟨_,rfl⟩
  rw [hrr] at HRt;have Hrr:=Z5 hrr;clear hkx hrr;go_enter func193,ntmps193;go_upto_region 1 with fail;go_cut [32] (λv wx=>v = .bool (!rr)/\PY w wx);case first =>
   go_region_held3 (λW=>W.cell? ⟨Z,10,none⟩=some (.slice X nx A)/\W.cell? ⟨Z,11,none⟩=some (cG k)/\W.cell? ⟨ablk X,aJ X+k,none⟩=some (.slice ra rn rc)/\PY w W)
    ((refine HSk _ ?_;first | exact hb3w | exact (KU _ _).drew | assumption | (go_split_ands;assumption)))
    (first
    | (go_at_call 233;((with_reducible refine (HRt.out _ (by go_split_ands;assumption)).mono ?_);rintro e w3 ⟨rfl,hb3⟩;have hb3w:PY w w3:=(by go_split_ands;exact Pm (by assumption) hb3))))
   all_goals (go_wp2_with fail;go_meet;exact ⟨rfl,hb3w⟩)
  obtain ⟨rfl,hb2⟩:=hcut;generalize wc=w2 at *;cases rr
  ·have HF:Hid (RF=none):=by show _=_;rw [<- HRF.out,Hdr.out,Fo _ _ _ _ _ _ _ _ _ Hrr.out]
   go_wp2_with fail;go_ret;exact ⟨k,by rw [H.out];exact hk,HB.af hb2,Pr hb2 _,by rw [HF.out];rfl,λh=>by rw [HF.out] at h;cases h⟩
  have HF:Hid (RF=kfol (folS G.ops L m C (d - 1)) s z (if ns<C.W then t.filter (λx=>decide (¬ x ∈ z)) else []) (Q.drop (k+1))):=by show _=_;rw [<- HRF.out,Hdr.out,IW _ _ _ _ _ _ _ _ _ (by rw [Hsl.out];exact hd) Hrr.out,Hsl.out]
  have N:=(yS Hrr.out).1;have htn:=qs N;have hrl:rn<=64:=by have h1:=mx N (by omega);rw [S.len] at h1;omega
  have htr:=pL N;have hB2:=HB.af hb2;have f11:=hB2.frozen 11;have q11:=hB2.cell 11 rfl;have hmf:∀(fn:Fn) (first cap:Array Value) (w:World),(Instr.makeFunc fn first cap).run prog w = .ok (.func fn first cap) w:=λ_ _ _ _=>rfl;go_upto_region 4 with fail;obtain ⟨U,hU⟩:∃U:World,U=w2.setCell ⟨Z,11,none⟩ (cG ((k:Int)+1)):=⟨_,rfl⟩
  rw [<- hU];have hBU:aQ U Z (mA b P M am mn cm m a n c ay ny cy C (.slice X nx A) (k+1)):=by rw [hU];exact hB2.setCell 11 (cG ((k:Int)+1))
  have hMU:aC w U (λx=>x=Z) (λx=>x=Z):=by rw [hU];exact (Pr hb2 _).trans (aC.put w2 Z 11 _)
  have hk1:k+1<=Q.length:=by rw [H.out];omega
  have HCh:Hid (∀V:World,bg U V->Calls prog 234 #[.pointer (some ⟨Z,0,none⟩),.slice D ns cs,.slice az nz cz,.slice ra rn rc,.func (.func 193) #[.pointer (some ⟨Z,0,none⟩)] #[]] V
    (wa B Z b P M am mn cm m a n c ay ny cy C (.slice X nx A) Q RF w)):=λV F=>by
   have hMV:aC w V (λx=>x=Z) (λx=>x=Z):=hMU.trans (Pr F.below _);have hbV:PY B V:=hb.trans (hMV.below (λx Y=>by rw [Y];exact hpb) hb.size);have hsV:=hs.dc hMV hsp;have hzV:=hz.dc hMV hzp;have hBV:=hBU.af F.below;have hpw:Z<w.heap.size:=HB.1;refine (qu (σ:=Nat) (λV κ=>κ<=Q.length/\PY B V/\aQ V Z (mA b P M am mn cm m a n c ay ny cy C (.slice X nx A) κ)/\Ints V D ns s) (λ_ x=>x=Z) (λκ=>Q.drop κ) (λs z Q=>fiV (folS G.ops L m C (d - 1) s z Q)) Z C.W
    D ns cs s az nz cz z ra rn rc t V (k+1) ⟨hk1,hbV,hBV,hsV⟩ ?_ (hBV.cell 9 rfl) (λV' κ h=>⟨h.2.2.2,S.af h.2.1⟩) (λV' κ x h Y=>by rw [Y];exact h.2.2.1.1) hzV htn (by omega) (by omega) (by omega) (by omega) ?_).mono ?_
   ·rintro V1 V2 κ ⟨e1,e2,e3,e4⟩ hM;have hMb:Below V.heap.size V1 V2\/True:=.inr trivial;have hpV:Z<V.heap.size:=hBV.1;refine ⟨e1,e2.trans (hM.below (λx Y=>K9 hbV.size Y.1) e2.size),e3.dc hM λY=>Y.2 rfl,e4.dc hM λhn Y=>?_⟩;have h1:=hsV.lt hn;omega
   ·intro hlt V1 κ a1 c1 a2 c2 j zc hj hzc hnj hI hM h1 h2 h3 h4;obtain ⟨r,hd'⟩:∃r,r+1=d:=⟨d - 1,by omega⟩
    have hzl:zc.length<=64/\zc.Nodup/\∀x ∈ zc,0<=x/\x<(m:Int):=by
     have hsub:∀x ∈ (t.take j).filter (λx=>decide (¬ x ∈ z)),x ∈ t/\¬ x ∈ z:=λx Y=>by rw [MQ] at Y;exact ⟨Mb Y.1,by simpa using Y.2⟩
     have hnd:zc.Nodup:=by rw [hzc,Mq];refine ⟨Hz.1,Nh _ (M4 (Nx _ _) htn),λx Y y hy e=>?_⟩;exact (hsub y hy).2 (e ▸ Y)
     have hbd:∀x ∈ zc,0<=x/\x<(m:Int):=λx Y=>by
      rw [hzc] at Y;rcases List.mem_append.1 Y with Y | Y
      ·exact Hz.2 x Y
      ·obtain ⟨q,hq,rfl⟩:=List.mem_iff_getElem.1 (hsub x Y).1;rw [<- aj hq];exact htr q hq
     exact ⟨K9 (lI hnd hbd) hm6,hnd,hbd⟩
    have h5:=IH r hd' V1 κ a1 (ns+1) c1 (s ++ [nth t j]) a2 zc.length c2 zc (by omega) hzl.1 (by rw [<- H.out];exact hI.1) hI.2.1 hI.2.2.1 h1 h2 (λ_=>h3) (λh0=>h4 (by intro e;have:=h2.pl h0;rw [e] at this;cases this)) hzl.2.1 hzl.2.2;have hdd:d - 1=r:=by omega
    refine h5.mono ?_;rintro e V2 ⟨k',g1,g2,g3,g4,g5⟩;rw [hdd];exact ⟨k',⟨g1,hI.2.1.trans (g3.below (λx Y=>by rw [Y];exact hpb) hI.2.1.size),g2,hI.2.2.2.dc g3 λhn=>hsp hn⟩,g3,g4,g5⟩
   ·rintro e V2 ⟨k',g1,g2,g3,g4⟩;rw [BK,<- HF.out] at g3 g4;exact ⟨k',g1.1,g1.2.2.1,hMV.trans g2,g3,g4⟩
  have hwk:IntKind.i64.wrap (k:Int)=(k:Int):=La _ (by omega);have hkx:(k:Int)<(nx:Int):=by omega
  have HCd:=Z5 (HCh U.drew ⟨1,rfl⟩);clear HCh;have u10:=hBU.cell 10 rfl;have u11:=hBU.cell 11 rfl;have urow:U.cell? ⟨ablk X,aJ X+k,none⟩=some (.slice ra rn rc):=by refine hMU.cell hcw λh=>?_;have h1:=Lb B _ O;have h2:ablk X=Z:=h;simp only at h1;omega
  clear IH HRt HSk hBU hMU hB2 hU q11 f11 N htn S hrow K hs hz hk1 HF;go_region_law ((first
   | (go_simp;go_at_call 234;((with_reducible refine HCd.out.mono ?_);rintro e w5 ⟨k',g1,g2,g3,rfl,g5⟩))))
  all_goals (
   go_wp2_with fail
   go_ret
   exact ⟨k',g1,g2,g3,rfl,g5⟩)
end Go.Proofs.YthglbncgemdcbaaGreat
