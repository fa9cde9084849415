import Derived.Test.YthglbncgemdcbaaGreatBO21
import Derived.Test.YthglbncgemdcbaaGreatBO20
import Derived.Test.YthglbncgemdcbaaGreatBO17
namespace Go.Proofs.YthglbncgemdcbaaGreat
set_option linter.all false
set_option maxRecDepth 100000
set_option maxHeartbeats 8000000
open Go.RowKit Go.Proofs.Tryz
theorem wJ {w w0:ej} {b:Nat} {G:bX} {a:OA} {n:Nat} {L:ZZ} {m:Nat} {ay:OA} {ny:Nat} {C:kW} (F:Nat) (P M:Int) (am:OA) (mn cm c cy:Nat)
  (Q:OA) (S j:Nat) (N:ZZ) (E:Ce w0 b G a n L m ay ny C) (hts:bP w0 Q S N) (A:w0.heap.size<=F) (hb:SJ w0 w) (hB:aQ w F (mT b P M am mn cm m a n c ay ny cy C ds 0)) :
  Calls prog 136 #[ea F 0,.agg #[.slice Q S j]] w λe w'=>e = .returned (cG (provS G.ops L m C N))/\SJ w0 w':=by
 have Htl:=Z5 hts.len;obtain ⟨PR,I⟩:∃PR,provS G.ops L m C N=PR:=⟨_,rfl⟩
 rw [I];have HPR:=Z5 I;clear I;have hb1:SJ w (w.alloc (.cells #[.slice Q S j] 103)):=aD _ _;have z:=hB.ai hb1;have f10:=z.frozen 10;have q10:=z.cell 10 rfl;have hsb:F<w.heap.size:=hB.1;go_enter func136,ntmps136;go_wp2_with fail;obtain ⟨Z,hZ⟩:∃Z:ej,Z=(w.setCell ⟨F,10,none⟩ (.slice Q S j)).alloc (.cells #[.slice Q S j] 103):=⟨_,rfl⟩
 rw [<- hZ];have hBZ:aQ Z F (mT b P M am mn cm m a n c ay ny cy C (.slice Q S j) 0):=by rw [hZ];exact (hB.setCell 10 (.slice Q S j)).alloc _
 have H:SJ w0 Z:=by rw [hZ];exact RU (hb.setCell A _) (aD _ _)
 clear hZ z f10 q10 hB;refine (qL F P M am mn cm c cy Q S j N E hts A C.W Z 0 none 0 0 [] none 0 0 [] (by omega) (by omega) (by omega) H hBZ (R9 _ _) (R9 _ _) (λh=>by omega) (λh=>by omega) (by simp) (λx hx=>by simp at hx)).mono ?_;rintro e w5 ⟨k',g1,g2,g3,he,g5⟩;have U:SJ w0 w5:=H.trans (g3.below (λx hx=>by rw [hx];exact A) H.size);rw [O9] at g5 he;have c10:=g2.cell 10 rfl;have c11:=g2.cell 11 rfl;have Y:PR=match folS G.ops L m C C.W [] [] N with | some []=>0 | _=>13:=by rw [<- HPR.out];rfl
 cases hf:folS G.ops L m C C.W [] [] N with
 | none =>
  rw [hf] at Y he
  have HP:=Z5 Y
  have K:e = .returned (cG 13):=he
  subst K
  clear hf Y g5 he
  have hd:((13:Int) == 0)=false:=rfl
  go_wp2_with fail
  go_quiet (fail)
  go_wp2_with fail
  go_ret
  exact ⟨by rw [HP.out];rfl,U.trans (RQ (Sd ⟨_,rfl⟩) U.size)⟩
 | some r =>
  rw [hf] at Y g5 he
  have K:e = .returned (cG 0):=he
  subst K
  clear he
  have g6:N.drop k'=r:=g5 rfl
  have hlen:r.length=S - k':=by rw [<- g6,OK,Htl.out]
  rw [Htl.out] at g1
  by_cases hk:k'<S
  ·have HP:Hid (PR=13):=by
    show _=_;rw [Y];cases r with
    | nil=>simp at hlen;omega
    | cons x r=>rfl
   have hd:decide ((k':Int)<(S:Int))=true:=by simp;omega
   clear hf Y g5 g6 hlen
   go_wp2_with fail
   go_quiet (fail)
   go_wp2_with fail
   go_ret
   exact ⟨by rw [HP.out];rfl,U.trans (RQ (Sd ⟨_,rfl⟩) U.size)⟩
  ·have HP:Hid (PR=0):=by
    show _=_;rw [Y];cases r with
    | nil=>rfl
    | cons x r=>simp at hlen;omega
   have hd:decide ((k':Int)<(S:Int))=false:=by simp;omega
   clear hf Y g5 g6 hlen
   go_wp2_with fail
   go_quiet (fail)
   go_wp2_with fail
   go_ret
   exact ⟨by rw [HP.out];rfl,U.trans (RQ (Sd ⟨_,rfl⟩) U.size)⟩
def BM (Z:ej) (V:Int × ZZ) (e:Ending) (w':ej):Prop :=
 SJ Z w'/\((V.1 ≠ 0/\e = ec #[.agg #[ds],cG V.1]) \/
  (V.1=0/\∃ar cr R,e = ec #[.agg #[.slice ar V.2.length cr],cG 0]/\aS w' Z.heap.size ar V.2.length cr R V.2))
theorem CP {w Q:ej} {b:Nat} {G:bX} {a:OA} {n:Nat} {L:ZZ} {m:Nat} {ay:OA} {ny:Nat} {C:kW} (K:Nat) (P M:Int) (am:OA) (mn cm c cy:Nat)
  (E:Ce Q b G a n L m ay ny C) (F:Q.heap.size<=K) (hb:SJ Q w) (hB:aQ w K (mT b P M am mn cm m a n c ay ny cy C ds 0)) :
  Calls prog 128 #[ea K 0] w (BM Q (vW G.ops L m C)):=by
 obtain ⟨V,hV⟩:∃V,vW G.ops L m C=V:=⟨_,rfl⟩
 rw [hV];have HV:=Z5 hV;clear hV;have hsb:K<w.heap.size:=hB.1;go_enter func128,ntmps128;go_wp2_with fail;obtain ⟨U,A⟩:∃U:ej,U=w.alloc (.cells #[ds] 103):=⟨_,rfl⟩
 rw [<- A];have z:SJ w U:=by rw [A];exact aD _ _
 have hsU:U.heap.size=w.heap.size+1:=by rw [A];simp
 have x0:aQ U w.heap.size [ds]:=by rw [A];exact RV _ _ _ rfl
 have hBU:=hB.ai z;have Y:SJ Q U:=hb.trans (z.mono hb.size);clear A hB;have hM0:kM U Q.heap.size K b P M am mn cm m a n c ay ny cy C ⟨none,0,[],[]⟩:=⟨hBU,SB U _,λh=>by
  rcases h with ⟨h1,_⟩ | ⟨i,hi,_⟩
  ·exact h1 rfl
  ·simp at hi,by simp⟩
 refine (qw K P M am mn cm c cy E F C.W U ⟨none,0,[],[]⟩ none 0 0 [] none 0 0 [] (by omega) (by omega) Y hM0 (R9 _ _) (R9 _ _) (λh=>by omega) (λh=>by omega) (by simp) (λx hx=>by simp at hx)).mono ?_;rintro e w5 ⟨Z,g1,g2,g3,g4,rfl,g6⟩;have hVe:jX G.ops L m C C.W [] [] []=V:=HV.out;rw [hVe] at g6 ⊢;have r:¬ (⟨none,0,[],[]⟩:Aw).J K w.heap.size:=λh=>by
  rcases h with h | ⟨h1,_⟩ | ⟨i,hi,_⟩
  ·omega
  ·exact h1 rfl
  ·simp at hi
 have H:SJ Q w5:=Y.trans (g4.below (λx hx=>by
  rcases hx with h | ⟨h1,_⟩ | ⟨i,hi,_⟩
  ·rw [h];exact F
  ·exact absurd rfl h1
  ·simp at hi) Y.size)
 have x5:=x0.cQ g4 r;have z0:=x5.cell 0 rfl;have f0:=x5.frozen 0;have j:¬ bN Z.ar Z.R w.heap.size:=λh=>g4.not x0.1 r (.inr h);have N:=hb.size;obtain ⟨ve,I⟩:=V;dsimp only at g6 ⊢;by_cases S:ve=0
 ·subst S;have ht:Z.T=I:=g6 rfl;have hF:∀v:Value,SJ Q (w5.setCell ⟨w.heap.size,0,none⟩ v)/\aS (w5.setCell ⟨w.heap.size,0,none⟩ v) Q.heap.size Z.ar I.length Z.cr Z.R I:=λv=>by refine ⟨H.setCell N _,?_⟩;rw [<- ht];exact g1.om.bf λx hx=>Nt _ _ _ _ λe=>j (by have e':x=w.heap.size:=e;rw [<- e'];exact hx)
  have HF:=Z5 hF;have p10:=g1.box.cell 10 rfl;rw [ht] at p10;clear g1 g2 g3 g4 g6 hF ht;go_wp2_with fail;have z1:(w5.setCell ⟨w.heap.size,0,none⟩ (.slice Z.ar I.length Z.cr)).cell? ⟨w.heap.size,0,none⟩=some (.slice Z.ar I.length Z.cr):=Ns _ _ _ z0;exact bodyPost_ret (v:=.tuple #[.agg #[.slice Z.ar I.length Z.cr],cG 0]) (by simp [results,results128,go_sem,z0,z1]) rfl ⟨(HF _).1,.inr ⟨rfl,Z.ar,Z.cr,Z.R,rfl,(HF _).2⟩⟩
 ·have hve':(ve != 0)=true:=by simpa using S
  have Hne:=Z5 S;have HF:=Z5 (λv:Value=>H.setCell (p:=⟨w.heap.size,0,none⟩) N v);clear g1 g2 g3 g4 g6 S;go_wp2_with fail;have z1:(w5.setCell ⟨w.heap.size,0,none⟩ ds).cell? ⟨w.heap.size,0,none⟩=some ds:=Ns _ _ _ z0;exact bodyPost_ret (v:=.tuple #[.agg #[ds],cG ve]) (by simp [results,results128,go_sem,z0,z1]) rfl ⟨HF _,.inl ⟨Hne,rfl⟩⟩
def pT (V:Int × ZZ) (w:ej) (e:Ending) (w':ej):Prop :=
 SJ w w'/\((V.1 ≠ 0/\e = ec #[.agg #[ds],cG V.1]) \/
  (V.1=0/\∃ar cr R,e = ec #[.agg #[.slice ar V.2.length cr],cG 0]/\aS w' w.heap.size ar V.2.length cr R V.2))
section
open Go.RowKit
end
section
variable {O:aL} {El:Int->Prop} {m:Nat} {L:ZZ} {C:kW}
end
def yc (x:Lz) (m:Nat):Lz:=((List.range m).filter λj=>decide (nth x j ≠ 0)).map Int.ofNat
theorem A5 {x:Lz} {m:Nat} {y:Int}:y ∈ yc x m ↔ ∃j:Nat,j<m/\nth x j ≠ 0/\y=j:=by
 unfold yc;rw [OW];constructor
 ·rintro ⟨j,Z,rfl⟩;rw [OT,OG] at Z;exact ⟨j,Z.1,by simpa using Z.2,rfl⟩
 ·rintro ⟨j,h1,h2,rfl⟩;exact ⟨j,by rw [OT,OG];exact ⟨h1,by simpa using h2⟩,rfl⟩
theorem sy {x:Lz} {m:Nat} (h:x.length=m):(yc x m).length=bY x:=by
 have e:x=(List.range m).map (nth x):=by refine Ou (by simp [h]) λi h1 h2=>?_;rw [Oc,O1,an h1]
 unfold yc bY;rw [No,<- List.countP_eq_length_filter];conv=>rhs;rw [e,Qf]
 rfl
theorem rR {x:Lz}:bY x=0 ↔ ∀k,k<x.length->nth x k=0:=by
 unfold bY;rw [PK];constructor
 ·intro h k Z;have h1:=h _ (aG Z);simpa using h1
 ·intro h y hy;obtain ⟨k,Z,rfl⟩:=List.mem_iff_getElem.1 hy;have h1:=h k Z;rw [an Z] at h1;simp [h1]
section
variable {P M:Int} {mod:Lz} {m:Nat} {L:ZZ}
end
section
def msgs (q:Nat):Nat->ZZ
 | 0=>[[]]
 | k+1=>(List.range q).flatMap λ(a:Nat)=>(msgs q k).map λs=>(a:Int) :: s
def addAll (O:aL):Lz->Lz->ZZ->Lz
 | u,a :: s,r :: R=>addAll O (gO O u a r) s R
 | u,_,_=>u
theorem AP (O:aL) (q:Nat):∀(R:ZZ) (u:Lz),wlkS O q R u=(msgs q R.length).map λs=>addAll O u s R
 | [],u=>by simp [wlkS,msgs,addAll]
 | r :: R,u=>by rw [wlkS,NO,msgs,List.map_flatMap];congr 1;funext a;rw [AP O q R,PE];rfl
theorem ml {q:Nat}:∀ {k:Nat} {s:Lz},s ∈ msgs q k ↔ s.length=k/\∀x ∈ s,0<=x/\x<(q:Int)
 | 0,s=>by
  rw [msgs,NR];constructor
  ·rintro rfl;simp
  ·rintro ⟨h,_⟩;exact NF h
 | k+1,s=>by
  rw [msgs,QB];constructor
  ·rintro ⟨a,ha,h⟩;obtain ⟨t,Y,rfl⟩:=List.mem_map.1 h;obtain ⟨h1,h2⟩:=ml.1 Y;refine ⟨by simp [h1],λx Z=>?_⟩;rcases List.mem_cons.1 Z with rfl | Z
   ·have:=List.mem_range.1 ha;omega
   ·exact h2 x Z
  ·rintro ⟨h,h2⟩;match s,h,h2 with
   | x :: t,h,h2 =>
    have Z:=h2 x (by simp)
    refine ⟨x.toNat,List.mem_range.2 (by omega),List.mem_map.2 ⟨t,ml.2 ⟨by simpa using h,λy hy=>h2 y (by simp [hy])⟩,?_⟩⟩
    rw [OV Z.1]
variable {O:aL} {m:Nat}
theorem kS {v:Lz} {L:ZZ} (h:v.length=L.length):∀(d j:Nat),j+d=L.length->addAll O (cmbTo O m v L j) (v.drop j) (L.drop j)=cmbTo O m v L L.length
 | 0,j,Z=>by
  obtain rfl:j=L.length:=by omega
  rw [Ob (M4 _),Ob (by omega)];rfl
 | d+1,j,Z=>by rw [NX (show j<v.length by omega),NX (show j<L.length by omega),addAll];rw [<- kS h d (j+1) (by omega)];congr 1;rw [cmbTo,an (show j<v.length by omega),aH (show j<L.length by omega)];rfl
theorem Ka {q:Nat} {L:ZZ}:wlkS O q L (List.replicate m 0)=(msgs q L.length).map λv=>cmbTo O m v L L.length:=by rw [AP];refine N6 λv Z=>?_;have h:=kS (O:=O) (m:=m) (v:=v) (L:=L) (ml.1 Z).1 L.length 0 (by omega);rw [O9,O9] at h;exact h
end
def eG (x:Lz) (m:Nat) (i:Int):Lz:=((List.range m).filter λj=>decide (nth x j ≠ 0) && decide ((j:Int) ≠ i)).map Int.ofNat
theorem vR (x:Lz) (m:Nat) (i:Int):eG x (m+1) i=if nth x m ≠ 0/\(m:Int) ≠ i then eG x m i ++ [(m:Int)] else eG x m i:=by
 unfold eG;rw [Ot,Pk,NT];by_cases h:nth x m ≠ 0/\(m:Int) ≠ i
 ·rw [M7 h,QC,M7 (by simp [h.1,h.2])];rfl
 ·rw [M8 h,QC,M8 (by simpa using h)];simp
theorem Ik (x:Lz) (m:Nat) (i:Int) (h:i<0\/(m:Int)<=i):eG x m i=yc x m:=by unfold eG yc;refine congrArg _ (List.filter_congr λj Z=>?_);have:=List.mem_range.1 Z;rw [Nv (show (j:Int) ≠ i by omega),Re]
theorem mx {x:Lz} {m:Nat} {i y:Int}:y ∈ eG x m i ↔ ∃j:Nat,j<m/\nth x j ≠ 0/\(j:Int) ≠ i/\y=j:=by
 unfold eG;rw [OW];constructor
 ·rintro ⟨j,Z,rfl⟩;rw [OT,OG] at Z;have h:=Z.2;simp only [Nx,NM] at h;exact ⟨j,Z.1,h.1,h.2,rfl⟩
 ·rintro ⟨j,h1,h2,h3,rfl⟩;exact ⟨j,by rw [OT,OG];exact ⟨h1,by simp [h2,h3]⟩,rfl⟩
theorem Dl {x:Lz} {m:Nat} {i y:Int} (h:y ∈ eG x m i):0<=y/\y<m:=by obtain ⟨j,Z,_,_,rfl⟩:=mx.1 h;omega
theorem iA (x:Lz) (m:Nat) (i:Int):(eG x m i).length<=m:=by unfold eG;rw [No];exact Np (QY _ _) (by simp)
def FT (m:Nat) (i:Int) (b w:Lz):Lz:=if nth w i.toNat=1 then (if b=[]\/qy (eG w m i) (eG b m i)=true then w else b) else b
def bstL (m:Nat) (i:Int) (W:ZZ):Nat->Lz
 | 0=>[]
 | k+1=>FT m i (bstL m i W k) (aj W k)
theorem r9 {m:Nat} {i:Int} {W:ZZ}:∀k,k<=W.length->bstL m i W k=[]\/(bstL m i W k ∈ W/\nth (bstL m i W k) i.toNat=1)
 | 0,_=>.inl rfl
 | k+1,h=>by
  rw [bstL,FT];split
  ·rename_i h1;split
   ·exact .inr ⟨jy (by omega),h1⟩
   ·exact r9 k (by omega)
  ·exact r9 k (by omega)
section
variable {P M:Int} {mod:Lz} {m:Nat} {L:ZZ}
def uS (P M:Int) (mod:Lz) (m:Nat) (L:ZZ):ZZ:=wlkS (ah P M.toNat mod).ops (ah P M.toNat mod).q (bt (ah P M.toNat mod) L m) (List.replicate m 0)
theorem IN (Z:aI P M mod m L=0):bt (ah P M.toNat mod) L m=sU (ah P M.toNat mod).ops m L:=by unfold bt sU bu;rfl
theorem JK {L:ZZ} (F:bQ (ah P M.toNat mod).ops (ah P M.toNat mod).El) (U:bz (ah P M.toNat mod).El m L) {x:Lz} :
  x ∈ wlkS (ah P M.toNat mod).ops (ah P M.toNat mod).q L (List.replicate m 0) ↔ Vc (ah P M.toNat mod).El m x/\RS (ah P M.toNat mod).ops (ah P M.toNat mod).El m L (λi=>nth x i):=by
 rw [Ka,OW];constructor
 ·rintro ⟨v,Z,rfl⟩;obtain ⟨h1,h2⟩:=ml.1 Z;exact iZ F U (λk S=>h2 _ (aG (by omega))) L.length (M4 _)
 ·rintro ⟨h1,h2⟩;obtain ⟨v,Z,h3⟩:=RS.MA F U h2;have Y:∀k,k<L.length->(ah P M.toNat mod).El (nth v k):=λk S=>Z.at S;have c1:=(iZ F U Y L.length (M4 _)).1;exact ⟨v,ml.2 ⟨Z.1,λy hy=>Z.2 y hy⟩,(fy (by rw [h1.1,c1.1]) λi hi=>h3 i (by rw [<- h1.1];exact hi)).symm⟩
theorem sC (Z:aI P M mod m L=0) {x:Lz} :
  x ∈ uS P M mod m L ↔ Vc (ah P M.toNat mod).El m x/\RS (ah P M.toNat mod).ops (ah P M.toNat mod).El m (sU (ah P M.toNat mod).ops m L) (λi=>nth x i):=by
 obtain ⟨U,e,S,Y,F,Q⟩:=aT Z;obtain rfl:m=U:=by omega
 unfold uS;rw [IN Z];exact JK F (rI F Q)
def gZ (P M:Int) (mod:Lz) (m:Nat) (L:ZZ) (i:Int):Lz:=bstL m i (uS P M mod m L) (uS P M mod m L).length
theorem rT {a b:Lz} (h:qy a b=false):b.length<=a.length:=by unfold qy at h;simp only [Bool.or_eq_false_iff,decide_eq_false_iff_not] at h;omega
theorem GM {a b:Lz} (h:qy a b=true):a.length<=b.length:=by unfold qy at h;simp only [Qe,Nx,NM] at h;omega
theorem DY {i:Int} {W:ZZ}:∀k,k<=W.length->∀t,t<k->nth (aj W t) i.toNat=1->bstL m i W k ≠ []/\(eG (bstL m i W k) m i).length<=(eG (aj W t) m i).length
 | 0,_,t,U,_=>by omega
 | k+1,S,t,U,h1=>by
  have hne:aj W t ≠ []\/True:=.inr trivial;rw [bstL,FT];rcases NU t k with h | h
  ·obtain ⟨Y,Z⟩:=DY k (by omega) t h h1;split
   ·split
    ·rename_i h3;refine ⟨λe=>?_,?_⟩
     ·rename_i h2;rw [e] at h2;simp [nth] at h2
     ·rcases h3 with h3 | h3
      ·exact absurd h3 Y
      ·exact Np (GM h3) Z
    ·exact ⟨Y,Z⟩
   ·exact ⟨Y,Z⟩
  ·obtain rfl:t=k:=by omega
   rw [M7 h1];split
   ·exact ⟨λe=>by rw [e] at h1;simp [nth] at h1,M4 _⟩
   ·rename_i h3;simp only [not_or,Bool.not_eq_true] at h3;exact ⟨h3.1,rT h3.2⟩
theorem xW (U:aI P M mod m L=0) (i:Int):(gZ P M mod m L i=[]/\∀y ∈ uS P M mod m L,nth y i.toNat ≠ 1) \/
  (gZ P M mod m L i ∈ uS P M mod m L/\nth (gZ P M mod m L i) i.toNat=1/\∀y ∈ uS P M mod m L,nth y i.toNat=1->(eG (gZ P M mod m L i) m i).length<=(eG y m i).length):=by
 have Z:∀y ∈ uS P M mod m L,nth y i.toNat=1->gZ P M mod m L i ≠ []/\(eG (gZ P M mod m L i) m i).length<=(eG y m i).length:=λy hy h1=>by obtain ⟨t,Y,rfl⟩:=mq hy;exact DY _ (M4 _) t Y h1
 rcases r9 (m:=m) (i:=i) (W:=uS P M mod m L) _ (M4 _) with h | ⟨h1,h2⟩
 ·exact .inl ⟨h,λy hy h1=>(Z y hy h1).1 h⟩
 ·exact .inr ⟨h1,h2,λy hy h3=>(Z y hy h3).2⟩
def repTo (O:aL) (d x:Lz) (S:Lz):Nat->Int
 | 0=>0
 | k+1=>O.add (repTo O d x S k) (O.mul (O.neg (nth d (nth S k).toNat)) (nth x (nth S k).toNat))
end
section
variable {O:aL} {El:Int->Prop} {m:Nat}
end
section
variable {P M:Int} {mod:Lz} {m:Nat} {L:ZZ}
end
theorem ik (a:OA) (n c:Nat) (x:Lz) (i:Int) (w:ej) (h:Ints w a n x) (hn:n<=1000000) :
  Calls prog 61 #[.slice a n c,cG i] w (cR w (eG x n i)):=by
 have HG1:Hid (∀k:Nat,nth x k ≠ 0->(k:Int) ≠ i->eG x (k+1) i=eG x k i ++ [(k:Int)]):=λk h1 h2=>by rw [vR,M7 ⟨h1,h2⟩]
 have F:Hid (∀k:Nat,nth x k=0\/(k:Int)=i->eG x (k+1) i=eG x k i):=λk h1=>by rw [vR,M8];rintro ⟨h2,h3⟩;rcases h1 with h1 | h1;exact h2 h1;exact h3 h1
 have HGl:Hid (∀k,(eG x k i).length<=k):=λk=>iA _ _ _;have HI:=Z5 h;have hpl:=h.pl;have hmx:=h.max;unfold maxLen at hmx;obtain ⟨Z,hZ⟩:∃Z:Nat->Lz,(λk=>eG x k i)=Z:=⟨_,rfl⟩
 have z:∀k,eG x k i=Z k:=λk=>by rw [<- hZ]
 simp only [z] at HG1 F HGl ⊢;have r:Hid (Z 0=[]):=by rw [<- hZ];rfl
 clear z hZ h;go_enter func61,ntmps61;go_wp2_with fail;go_loopw [5,10] (λov iv wr=>∃(k g:Nat) (a1:OA) (c1:Nat),k<=n/\iv = cG k/\Hid ((Z k).length=g)/\ov = .slice a1 g c1/\wr.ownsRow w.heap.size 3 1 (.slice a1 g c1) g ((Z k).map (Value.int .i64))/\SJ w wr) (λ_ iv _=>n - (intOf iv).toNat);case atStart=>exact ⟨0,0,none,0,Nb _,rfl,by show _=_;rw [r.out];rfl,rfl,by rw [r.out];exact cJ,M5 _ _⟩
 case round =>
  obtain ⟨j,g,a2,c2,hj,rfl,Q,rfl,Y,S⟩:=hrel
  by_cases hltj:j<n
  ·have hgk:g<=j:=by have h:=HGl j;rw [Q.out] at h;omega
   have cj:=(HI.ai S).cell j hltj
   have I:=HG1 j
   have N:=F j
   obtain ⟨y,hy⟩:∃y,nth x j=y:=⟨_,rfl⟩
   rw [hy] at cj I N
   clear hy
   by_cases U:y=0
   ·have H:=Z5 (N (.inl U))
    have d1:(y != 0)=false:=by simpa using U
    clear I N U
    go_wp2_with fail
    go_roundw
    case rel=>exact ⟨j+1,g,a2,c2,by omega,by go_num,by show _=_;rw [H.out];exact Q.out,rfl,by rw [H.out];exact Y,S⟩
    case measure=>simp [intOf]<;>omega
   have d1:(y != 0)=true:=by simpa using U
   by_cases K:(j:Int)=i
   ·have H:=Z5 (N (.inr K))
    have d2:((j:Int) != i)=false:=by simpa using K
    clear I N U K
    go_wp2_with fail
    go_roundw
    case rel=>exact ⟨j+1,g,a2,c2,by omega,by go_num,by show _=_;rw [H.out];exact Q.out,rfl,by rw [H.out];exact Y,S⟩
    case measure=>simp [intOf]<;>omega
   ·have H:=Z5 (I U K)
    have d2:((j:Int) != i)=true:=by simpa using K
    clear I N U K
    have hsz:=S.size
    have hcn:=bh wr (cG j) 3
    go_wp2_with (at_builtin;refine bd rfl _ _ 22 3 rfl (cG 0) 8 underlying22 br rfl w.heap.size a2 g c2 _ rfl (Y.alloc _) ⟨wr.heap.size,0,none⟩ 1 (cG j) rfl hcn rfl (by omega) (by unfold maxLen;omega) (by simp;omega) ?_;intro a5 c5 w5 G A hap5)
    go_roundw
    case rel =>
     refine ⟨j+1,g+1,a5,c5,by omega,by go_num,by show _=_;rw [H.out,Ni,Q.out];rfl,rfl,by rw [H.out];simpa using G,RY (R6 S _) (Y.alloc _) A (M4 _) (R6 S _).size⟩
    case measure=>simp [intOf]<;>omega
  ·obtain rfl:j=n:=by omega
   have HR:Hid (∀e,e=Ending.returned (.slice a2 g c2)->cR w (Z j) e wr):=λe he=>⟨a2,c2,by rw [Q.out];exact he,by rw [Q.out];exact Y,S⟩
   clear Y
   go_wp2_with fail
   go_ret
   exact HR _ rfl
theorem nY (a:OA) (n c:Nat) (x:Lz) (w:ej) (h:Ints w a n x) (Y:n<=1000000) :
  Calls prog 76 #[.slice a n c] w λe w'=>e = .returned (cG (bY x:Nat))/\SJ w w':=by
 have Z:=h.len;have S:=Z5 (ik a n c x (-1) w h Y);have hw:(eG x n (-1)).length=bY x:=by rw [Ik x n (-1) (.inl (by omega))];exact sy Z
 have U:=Z5 hw;clear h Z hw;go_enter func76,ntmps76;go_wp2_with fail;refine S.mono ?_;rintro e Q ⟨a1,c1,rfl,_,hb⟩;rw [U.out];go_wp2_with fail;go_ret;exact ⟨rfl,hb⟩
def su (w:ej) (a:OA) (n:Nat) (x:Lz):Prop:=Ints w a n x/\a.isNone=decide (x=[])
theorem su.ai {w w':ej} {a:OA} {n:Nat} {x:Lz} (h:su w a n x) (hb:SJ w w'):su w' a n x:=⟨h.1.ai hb,h.2⟩
theorem nS (a:OA) (n c:Nat) (W:ZZ) (m i:Nat) (w:ej) (hW:bP w a n W) (hm:∀r ∈ W,r.length=m) (hi:i<m) (hm64:m<=64) :
  Calls prog 102 #[.slice a n c,cG i] w λe w'=>SJ w w'/\∃ar nr cr,e = .returned (.slice ar nr cr)/\su w' ar nr (bstL m i W n):=by
 have hln:=hW.len;have HM:=Z5 hW;have hpl:=hW.pl;have hmx:=hW.max;unfold maxLen at hmx;have Hrow:Hid (∀k,k<n->(aj W k).length=m):=λk hk=>hm _ (jy (by omega));have HSup:Hid (∀V b k c x,k<=1000000->Ints V b k x->Calls prog 61 #[.slice b k c,cG i] V (cR V (eG x k i))):=λV b k c x hk h=>ik b k c x i V h hk;have Heq:=Z5 (λ(w:ej) (a:OA) (l c:Nat)=>Go.run_eql_slice_nil (P:=prog) w 22 3 a l c underlying22);clear hW hm hln;go_enter func102,ntmps102;go_wp2_with fail;go_loopw [5,12] (λbv iv wr=>∃(k:Nat) (H:OA) (Z cb:Nat) (b:Lz),k<=n/\iv = cG k/\bv = .slice H Z cb/\Hid (bstL m i W k=b)/\Hid (b=[]\/b.length=m)/\Hid (su wr H Z b)/\SJ w wr) (λ_ iv _=>n - (intOf iv).toNat);case atStart=>exact ⟨0,none,0,0,[],Nb _,rfl,rfl,rfl,.inl rfl,⟨R9 _ _,rfl⟩,M5 _ _⟩
 case round =>
  obtain ⟨k,H,Z,cb,b,hk,rfl,rfl,Hst,Hbl,Hb,A⟩:=hrel
  generalize wr=V at *
  by_cases hlt:k<n
  ·obtain ⟨ar,I,cr,hcell,Y⟩:=(HM.ai A).cell k hlt
   have hmr:I=m:=by rw [<- Y.len];exact Hrow k hlt
   subst hmr
   have hri:=Y.cell i hi
   have hplr:=Y.pl
   have hrn:ar.isNone=false:=by
    cases ar with
    | none=>have:=Y.pl (by omega);cases this
    | some x=>rfl
   obtain ⟨r,hr⟩:∃r,aj W k=r:=⟨_,rfl⟩
   have hrl:r.length=I:=by rw [<- hr];exact Hrow k hlt
   rw [hr] at Y hri
   have Hnx:Hid (bstL I i W (k+1)=FT I i b r):=by show _=_;rw [bstL,Hst.out,hr]
   clear hr
   obtain ⟨y,hy⟩:∃y,nth r i=y:=⟨_,rfl⟩
   rw [hy] at hri
   have hii:(i:Int)<(I:Int):=by omega
   by_cases K:y=1
   rotate_left
   ·have d1:(y != 1)=true:=by simpa using K
    have Q:Hid (bstL I i W (k+1)=b):=by show _=_;rw [Hnx.out,FT,M8 (by rw [M9,hy];exact K)]
    clear hy K Y
    go_wp2_with fail
    go_roundw
    case rel=>exact ⟨k+1,H,Z,cb,b,by omega,by go_num,rfl,Q,Hbl,Hb,A⟩
    case measure=>simp [intOf]<;>omega
   have d1:(y != 1)=false:=by simpa using K
   have Q:Hid (bstL I i W (k+1)=if b=[]\/qy (eG r I i) (eG b I i)=true then r else b):=by show _=_;rw [Hnx.out,FT,M7 (by rw [M9,hy];exact K)]
   have Hr:Hid (su V ar I r):=⟨Y,by rw [hrn];exact (Nu λe=>by rw [e] at hrl;simp at hrl;omega).symm⟩
   have Hrl:=Z5 hrl
   have heq:=Heq.out
   clear hy K hrn Hnx hrl
   rcases Hbl.out with hb0 | z
   ·have hin:H.isNone=true:=by rw [Hb.2];exact Nv hb0
    have S:Hid (bstL I i W (k+1)=r):=by show _=_;rw [Q.out,M7 (.inl hb0)]
    clear hb0 Y
    go_wp2_with fail
    go_roundw
    case rel=>exact ⟨k+1,ar,I,cr,r,by omega,by go_num,rfl,S,.inr Hrl.out,Hr,A⟩
    case measure=>simp [intOf]<;>omega
   have hbn:b ≠ []:=λe=>by rw [e] at z;simp at z;omega
   have hin:H.isNone=false:=by rw [Hb.2];exact Nu hbn
   have hnb:Z=I:=by rw [<- Hb.1.len];exact z
   subst hnb
   have HS1:=Z5 (HSup V ar Z cr r (by omega) Y)
   obtain ⟨s,hs⟩:∃s,eG r Z i=s:=⟨_,rfl⟩
   obtain ⟨t,ht⟩:∃t,eG b Z i=t:=⟨_,rfl⟩
   have hsl:s.length<=Z:=by rw [<- hs];exact iA _ _ _
   have htl:t.length<=Z:=by rw [<- ht];exact iA _ _ _
   have HSt:Hid (∀V',SJ V V'->Calls prog 61 #[.slice H Z cb,cG i] V' (cR V' t)):=λV' hV'=>by rw [<- ht];exact HSup V' H Z cb b (by omega) (Hb.1.ai hV')
   rw [hs] at HS1
   rw [hs,ht] at Q
   clear hs ht Y z
   have Hbn:=Z5 hbn
   clear hbn
   go_wp2_with fail
   refine HS1.mono ?_
   rintro e w1 ⟨a1,k1,rfl,F,hb1⟩
   have HS2:=Z5 (HSt w1 hb1)
   have Ho1:=Z5 F
   clear F
   go_wp2_with fail
   refine HS2.mono ?_
   rintro e w2 ⟨a2,k2,rfl,G,j⟩
   have N:=RU A (RU hb1 j)
   have Hcmp:=Z5 (qt a1 s.length k1 s a2 t.length k2 t w2 ((RW Ho1.out).1.ai j) (RW G).1)
   have Hb2:Hid (su w2 H Z b):=Hb.ai (RU hb1 j)
   have Hr2:Hid (su w2 ar Z r):=Hr.ai (RU hb1 j)
   clear G hcell hri
   by_cases h1:s.length<t.length
   ·have S:Hid (bstL Z i W (k+1)=r):=by show _=_;rw [Q.out,M7 (.inr (mG.2 (.inl h1)))]
    go_wp2_with fail
    go_roundw
    case rel=>exact ⟨k+1,ar,Z,cr,r,by omega,by go_num,rfl,S,.inr Hrl.out,Hr2,N⟩
    case measure=>simp [intOf]<;>omega
   ·by_cases h2:s.length=t.length
    ·have hd2:((s.length:Int) == (t.length:Int))=true:=by simp;omega
     have hle:t.length<=s.length:=by omega
     by_cases h3:cmpL s t<0
     ·have S:Hid (bstL Z i W (k+1)=r):=by show _=_;rw [Q.out,M7 (.inr (mG.2 (.inr ⟨h2,h3⟩)))]
      have hd3:decide (cmpL s t<0)=true:=by simpa using h3
      clear h1 h2 h3
      go_wp2_with (go_at_call 159;refine Hcmp.mono ?_;rintro e w' ⟨rfl,rfl⟩)
      go_roundw
      case rel=>exact ⟨k+1,ar,Z,cr,r,by omega,by go_num,rfl,S,.inr Hrl.out,Hr2,N⟩
      case measure=>simp [intOf]<;>omega
     ·have S:Hid (bstL Z i W (k+1)=b):=by
       show _=_;rw [Q.out,M8 λU=>?_];rcases U with U | U
       ·exact Hbn U
       ·rcases mG.1 U with U | U
        ·exact h1 U
        ·exact h3 U.2
      have hd3:decide (cmpL s t<0)=false:=by simpa using h3
      clear h1 h2 h3
      go_wp2_with (go_at_call 159;refine Hcmp.mono ?_;rintro e w' ⟨rfl,rfl⟩)
      go_roundw
      case rel=>exact ⟨k+1,H,Z,cb,b,by omega,by go_num,rfl,S,Hbl,Hb2,N⟩
      case measure=>simp [intOf]<;>omega
    ·have S:Hid (bstL Z i W (k+1)=b):=by
      show _=_;rw [Q.out,M8 λU=>?_];rcases U with U | U
      ·exact Hbn U
      ·rcases mG.1 U with U | U
       ·exact h1 U
       ·exact h2 U.1
     have hd2:((s.length:Int) == (t.length:Int))=false:=by simp;omega
     have hle:t.length<=s.length:=by omega
     clear h1 h2
     go_wp2_with fail
     go_roundw
     case rel=>exact ⟨k+1,H,Z,cb,b,by omega,by go_num,rfl,S,Hbl,Hb2,N⟩
     case measure=>simp [intOf]<;>omega
  ·obtain rfl:k=n:=by omega
   have HR:Hid (SJ w V/\∃ar nr cr,Ending.returned (.slice H Z cb) = .returned (.slice ar nr cr)/\su V ar nr (bstL m i W k)):=⟨A,H,Z,cb,rfl,by rw [Hst.out];exact Hb⟩
   go_wp2_with fail
   go_ret
   exact HR
theorem um (n:Int) (w:ej):Calls prog 64 #[cG n] w λe w'=>e = .returned (.bool (decide (1<=n) && decide (n<=64)))/\w'=w:=by
 go_enter func64,ntmps64;by_cases h1:1<=n
 ·have d1:decide (1<=n)=true:=Nv h1;have H1:=Z5 h1;clear h1;go_wp2_with fail;go_ret;exact ⟨by first|(simp;done)|(simp;intro _;exact H1),rfl⟩
 ·have d1:decide (1<=n)=false:=Nu h1;have H1:=Z5 h1;clear h1;go_wp2_with fail;go_ret;exact ⟨by first|(simp;done)|(simp;intro h;exact absurd h H1.out),rfl⟩
def tn (n k r:Int):Int:=if n<1\/64<n\/k<1\/n<k\/r<1\/n<r then 6 else 0
def oW (n k r:Int):Int:=if n<1\/64<n\/k<1\/n<k\/r<1\/n<r then 0 else n - k - (k+r - 1).tdiv r+2
theorem JB {n k r:Int} (h:n<1\/64<n\/k<1\/n<k\/r<1\/n<r):tn n k r=6/\oW n k r=0:=by unfold tn oW;rw [M7 h,M7 h];exact ⟨rfl,rfl⟩
theorem Jk {n k r:Int} (h:¬ (n<1\/64<n\/k<1\/n<k\/r<1\/n<r)):tn n k r=0/\oW n k r=n - k - (k+r - 1).tdiv r+2:=by unfold tn oW;rw [M8 h,M8 h];exact ⟨rfl,rfl⟩
theorem qK (n k r:Int) (w:ej):Calls prog 22 #[cG n,cG k,cG r] w λe w'=>e = ec #[cG (oW n k r),cG (tn n k r)]/\w'=w:=by
 have Y:Hid ((n<1\/64<n\/k<1\/n<k\/r<1\/n<r)->tn n k r=6/\oW n k r=0):=JB;have K:Hid (¬ (n<1\/64<n\/k<1\/n<k\/r<1\/n<r)->tn n k r=0/\oW n k r=n - k - (k+r - 1).tdiv r+2):=Jk;obtain ⟨E,I⟩:∃E,tn n k r=E:=⟨_,rfl⟩
 obtain ⟨V,H⟩:∃V,oW n k r=V:=⟨_,rfl⟩
 rw [I,H] at Y K ⊢;clear I H;go_enter func22,ntmps22;by_cases h1:n<1
 ·have d1:decide (n<1)=true:=Nv h1;have Z:=Z5 (Y (.inl h1));clear h1;go_wp2_with fail;go_ret2;exact ⟨by rw [Z.1,Z.2]<;>rfl,rfl⟩
 have d1:decide (n<1)=false:=Nu h1;by_cases h2:64<n
 ·have d2:decide (64<n)=true:=Nv h2;have Z:=Z5 (Y (.inr (.inl h2)));clear h1 h2;go_wp2_with fail;go_ret2;exact ⟨by rw [Z.1,Z.2]<;>rfl,rfl⟩
 have d2:decide (64<n)=false:=Nu h2;by_cases h3:k<1
 ·have d3:decide (k<1)=true:=Nv h3;have Z:=Z5 (Y (.inr (.inr (.inl h3))));clear h1 h2 h3;go_wp2_with fail;go_ret2;exact ⟨by rw [Z.1,Z.2]<;>rfl,rfl⟩
 have d3:decide (k<1)=false:=Nu h3;by_cases h4:n<k
 ·have d4:decide (n<k)=true:=Nv h4;have Z:=Z5 (Y (.inr (.inr (.inr (.inl h4)))));clear h1 h2 h3 h4;go_wp2_with fail;go_ret2;exact ⟨by rw [Z.1,Z.2]<;>rfl,rfl⟩
 have d4:decide (n<k)=false:=Nu h4;by_cases h5:r<1
 ·have d5:decide (r<1)=true:=Nv h5;have Z:=Z5 (Y (.inr (.inr (.inr (.inr (.inl h5))))));clear h1 h2 h3 h4 h5;go_wp2_with fail;go_ret2;exact ⟨by rw [Z.1,Z.2]<;>rfl,rfl⟩
 have d5:decide (r<1)=false:=Nu h5;by_cases U:n<r
 ·have d6:decide (n<r)=true:=Nv U;have Z:=Z5 (Y (.inr (.inr (.inr (.inr (.inr U))))));clear h1 h2 h3 h4 h5 U;go_wp2_with fail;go_ret2;exact ⟨by rw [Z.1,Z.2]<;>rfl,rfl⟩
 have d6:decide (n<r)=false:=Nu U;have Z:=Z5 (K (by omega));have Q:0<=(k+r - 1).tdiv r:=Int.tdiv_nonneg (by omega) (by omega);have S:(k+r - 1).tdiv r<=k+r - 1:=Int.tdiv_le_self _ (by omega);obtain ⟨q,G⟩:∃q,(k+r - 1).tdiv r=q:=⟨_,rfl⟩
 rw [G] at Q S Z;have j:IntKind.i64.wrap (n - k)=n - k:=Nn _ (by omega);have k2:IntKind.i64.wrap (k+r)=k+r:=Nn _ (by omega);have k3:IntKind.i64.wrap (k+r - 1)=k+r - 1:=Nn _ (by omega);have A:IntKind.i64.wrap q=q:=Nn _ (by omega);have z:IntKind.i64.wrap (n - k - q)=n - k - q:=Nn _ (by omega);have k6:IntKind.i64.wrap (n - k - q+2)=n - k - q+2:=Nn _ (by omega);have N:r ≠ 0:=by omega
 have F:(r == 0)=false:=by simpa using N
 go_wp2_with fail;go_ret2;exact ⟨by rw [Z.1,Z.2]<;>rfl,rfl⟩
def jY (P M:Int) (mod:Lz) (N:Int) (L:ZZ) (i:Int):Int:=if aI P M mod N L=0 then (if i<0\/N<=i then 6 else 0) else aI P M mod N L
theorem mw (P M:Int) (am:OA) (Q F:Nat) (mod:Lz) (N:Int) (a:OA) (n c:Nat) (L:ZZ) (i:Int) (w:ej) (Z:Ints w am Q mod) (hi:bP w a n L) :
  Calls prog 47 #[.agg #[cG P,cG M,.slice am Q F,cG N,.slice a n c],cG i] w λe w'=>e = .returned (cG (jY P M mod N L i))/\SJ w w':=by
 have K:Hid (∀V,SJ w V->Calls prog 88 #[.agg #[cG P,cG M,.slice am Q F,cG N,.slice a n c]] V λe w'=>e = .returned (cG (aI P M mod N L))/\SJ V w'):=λV j=>cH P M am Q F mod N a n c L V (Z.ai j) (hi.ai j);have I:Hid (jY P M mod N L i=if aI P M mod N L=0 then (if i<0\/N<=i then 6 else 0) else aI P M mod N L):=rfl;obtain ⟨E,z⟩:∃E,jY P M mod N L i=E:=⟨_,rfl⟩
 obtain ⟨ce,U⟩:∃ce,aI P M mod N L=ce:=⟨_,rfl⟩
 rw [z,U] at I;rw [U] at K;rw [z];clear z U Z hi;go_enter func47,ntmps47;go_upto_region 1 with fail;obtain ⟨W,A⟩:∃W:ej,W=w.alloc (.cells #[cG P,cG M,.slice am Q F,cG N,.slice a n c] 27):=⟨_,rfl⟩
 rw [<- A];have G:SJ w W:=by rw [A];exact aD _ _
 have Y:aQ W w.heap.size [cG P,cG M,.slice am Q F,cG N,.slice a n c]:=by rw [A];exact RV _ _ _ rfl
 have HX:=Z5 Y;have c0:=Y.cell 0 rfl;have c1:=Y.cell 1 rfl;have c2:=Y.cell 2 rfl;have r:=Y.cell 3 rfl;have c4:=Y.cell 4 rfl;clear A Y;go_wp2_with fail;refine (K W G).mono ?_;rintro e w1 ⟨rfl,H⟩;have hF:=RU G H;clear c0 c1 c2 r c4;have r:=(HX.ai H).cell 3 rfl;by_cases h0:ce=0;rotate_left
 ·have d0:(ce != 0)=true:=by simpa using h0
  have S:Hid (E=ce):=by show _=_;rw [I.out,M8 h0]
  clear h0;go_wp2_with fail;go_ret;exact ⟨aK S.symm,hF⟩
 have d0:(ce != 0)=false:=by simpa using h0
 by_cases h1:i<0
 ·have d1:decide (i<0)=true:=Nv h1;have S:Hid (E=6):=by show _=_;rw [I.out,M7 h0,M7 (.inl h1)]
  clear h0 h1;go_wp2_with fail;go_ret;exact ⟨aK S.symm,hF⟩
 have d1:decide (i<0)=false:=Nu h1;by_cases h2:N<=i
 ·have d2:decide (N<=i)=true:=Nv h2;have S:Hid (E=6):=by show _=_;rw [I.out,M7 h0,M7 (.inr h2)]
  clear h0 h1 h2;go_wp2_with fail;go_ret;exact ⟨aK S.symm,hF⟩
 ·have d2:decide (N<=i)=false:=Nu h2;have S:Hid (E=0):=by show _=_;rw [I.out,M7 h0,M8 (by omega)]
  clear h0 h1 h2;go_wp2_with fail;go_ret;exact ⟨aK S.symm,hF⟩
theorem yy (P M:Int) (am:OA) (S N:Nat) (mod:Lz) (m:Nat) (a:OA) (k c:Nat) (L:ZZ) (w:ej) (G:aI P M mod m L=0) (Y:Ints w am S mod) (hi:bP w a k L)
  (Z:jU (ah P M.toNat mod).q k ≠ 0) :
  Calls prog 158 #[.agg #[cG P,cG M,.slice am S N,cG m,.slice a k c]] w λe w'=>e = ec #[ds,cG (jU (ah P M.toNat mod).q k)]/\SJ w w':=by
 have H:Hid (∀V,SJ w V->Calls prog 210 #[.agg #[cG P,cG M,.slice am S N,cG m,.slice a k c]] V λe w'=>e = ec #[cG (nD (ah P M.toNat mod).q k),cG (jU (ah P M.toNat mod).q k)]/\SJ V w') :=
  λV F=>yY P M am S N mod m a k c L V G (Y.ai F) (hi.ai F)
 generalize nD (ah P M.toNat mod).q k=v at *;generalize jU (ah P M.toNat mod).q k=f at *;have d0:(f != 0)=true:=by simpa using Z
 clear Z Y hi G;go_enter func158,ntmps158;go_upto_region 1 with fail;obtain ⟨W,K⟩:∃W:ej,W=w.alloc (.cells #[cG P,cG M,.slice am S N,cG m,.slice a k c] 27):=⟨_,rfl⟩
 rw [<- K];have Q:SJ w W:=by rw [K];exact aD _ _
 have U:aQ W w.heap.size [cG P,cG M,.slice am S N,cG m,.slice a k c]:=by rw [K];exact RV _ _ _ rfl
 have c0:=U.cell 0 rfl;have c1:=U.cell 1 rfl;have c2:=U.cell 2 rfl;have A:=U.cell 3 rfl;have c4:=U.cell 4 rfl;clear K U;go_wp2_with fail;refine (H W Q).mono ?_;rintro e z ⟨rfl,I⟩;have hF:=RU Q I;clear c0 c1 c2 A c4;go_wp2_with fail;go_ret2;exact ⟨rfl,hF⟩
def yG (P M:Int) (mod:Lz) (m:Nat) (L:ZZ):Int:=jU (ah P M.toNat mod).q (bt (ah P M.toNat mod) L m).length
def l7 (P M:Int) (mod:Lz) (m:Nat) (L:ZZ) (w:ej) (e:Ending) (w':ej):Prop :=
 SJ w w'/\((yG P M mod m L ≠ 0/\e = ec #[ds,cG (yG P M mod m L)]) \/
  (yG P M mod m L=0/\∃a k c,e = ec #[.slice a k c,cG 0]/\bP w' a k (uS P M mod m L)))
theorem CM (P M:Int) (am:OA) (Y S:Nat) (mod:Lz) (m:Nat) (a:OA) (n c:Nat) (L:ZZ) (w:ej) (H:aI P M mod m L=0) (Z:Ints w am Y mod) (hi:bP w a n (bt (ah P M.toNat mod) L m)) :
  Calls prog 158 #[.agg #[cG P,cG M,.slice am Y S,cG m,.slice a n c]] w (l7 P M mod m L w):=by
 have Q:=(pD H).1;have U:=hi.len;by_cases h:yG P M mod m L=0
 ·have K:((ah P M.toNat mod).q:Int) ^ (bt (ah P M.toNat mod) L m).length<=65536:=by
   unfold yG jU at h;split at h
   ·assumption
   ·cases h
  have h2:(ah P M.toNat mod).q ^ n<=65536:=by
   rw [<- U];have e:((ah P M.toNat mod).q:Int) ^ (bt (ah P M.toNat mod) L m).length=(((ah P M.toNat mod).q ^ (bt (ah P M.toNat mod) L m).length:Nat):Int):=by simp
   rw [e] at K;omega
  refine (Eg P M am Y S mod m a n c _ w _ Q Z hi rfl h2).mono ?_;rintro e w' ⟨I,co,rfl,N,hb⟩;exact ⟨hb,.inr ⟨h,I,_,co,rfl,N⟩⟩
 ·have h2:jU (ah P M.toNat mod).q n ≠ 0:=by rw [<- U];exact h
  refine (yy P M am Y S mod m a n c _ w Q Z hi h2).mono ?_;rintro e w' ⟨rfl,hb⟩;refine ⟨hb,.inl ⟨h,?_⟩⟩;unfold yG;rw [U]
theorem sj (P M:Int) (am:OA) (Y j:Nat) (mod:Lz) (m:Nat) (a:OA) (n c:Nat) (L:ZZ) (w:ej) (Z:Ints w am Y mod) (hi:bP w a n L) (hE:aI P M mod m L=0) :
  Calls prog 101 #[.agg #[cG P,cG M,.slice am Y j,cG m,.slice a n c]] w (l7 P M mod m L w):=by
 have hmn:Y<=8:=by have:=mB (aX hE).1;rw [<- Z.len];exact this
 have HD:Hid (∀V,SJ w V->Calls prog 80 #[.agg #[cG P,cG M,.slice am Y j,cG m,.slice a n c]] V (ky P M mod m L V)):=λV hV=>tu P M am Y j mod m a n c L V (Z.ai hV) (hi.ai hV) hE (by omega);have HWd:Hid (∀V a1 n1 c1 a2 n2 c2,Ints V a1 n1 mod->bP V a2 n2 (bt (ah P M.toNat mod) L m)->Calls prog 158 #[.agg #[cG P,cG M,.slice a1 n1 c1,cG m,.slice a2 n2 c2]] V (l7 P M mod m L V)) :=
  λV a1 n1 c1 a2 n2 c2 h1 h2=>CM P M a1 n1 c1 mod m a2 n2 c2 L V hE h1 h2
 unfold ky at HD;unfold l7 at HWd ⊢;generalize bt (ah P M.toNat mod) L m=D at *;generalize yG P M mod m L=f at *;generalize uS P M mod m L=S at *;obtain ⟨H,hnm⟩:∃H,mod.length=H:=⟨_,rfl⟩
 obtain ⟨nd,hnd⟩:∃nd,D.length=nd:=⟨_,rfl⟩
 rw [hnm,hnd] at HD;clear Z hi hE hmn hnm hnd;go_enter func101,ntmps101;go_upto_region 1 with fail;obtain ⟨W,hW⟩:∃W:ej,W=w.alloc (.cells #[cG P,cG M,.slice am Y j,cG m,.slice a n c] 27):=⟨_,rfl⟩
 rw [<- hW];have F:SJ w W:=by rw [hW];exact aD _ _
 have K:aQ W w.heap.size [cG P,cG M,.slice am Y j,cG m,.slice a n c]:=by rw [hW];exact RV _ _ _ rfl
 have c0:=K.cell 0 rfl;have c1:=K.cell 1 rfl;have c2:=K.cell 2 rfl;have r:=K.cell 3 rfl;have c4:=K.cell 4 rfl;have A:=Z5 F;clear hW K F;go_wp2_with fail;refine (HD W A.out).mono ?_;rintro e w1 ⟨a1,k1,a2,k2,rfl,hI1,z,hb1⟩;obtain ⟨U,hU⟩:∃U:ej,U=w1.alloc (.cells #[cG P,cG M,.slice a1 H k1,cG m,.slice a2 nd k2] 27):=⟨_,rfl⟩
 have N:SJ w1 U:=by rw [hU];exact aD _ _
 have I:aQ U w1.heap.size [cG P,cG M,.slice a1 H k1,cG m,.slice a2 nd k2]:=by rw [hU];exact RV _ _ _ rfl
 have hF:=RU A.out (RU hb1 N);have HC:=Z5 (HWd U a1 H k1 a2 nd k2 (hI1.ints.ai N) (z.lL.ai N));clear c0 c1 c2 r c4 hI1 z;have c0:=I.cell 0 rfl;have c1:=I.cell 1 rfl;have c2:=I.cell 2 rfl;have r:=I.cell 3 rfl;have c4:=I.cell 4 rfl;rw [hU] at c0 c1 c2 r c4;have HU:=Z5 hU;clear hU I;go_wp2_with fail;rw [<- HU.out];refine HC.mono ?_;rintro e w2 ⟨G,⟨h1,rfl⟩ | ⟨h1,a3,k3,c3',rfl,hM⟩⟩
 ·have Q:=RU hF G;clear c0 c1 c2 r c4;go_wp2_with fail;go_ret2;exact ⟨Q,.inl ⟨h1,rfl⟩⟩
 ·have Q:=RU hF G;have HM:=Z5 hM;clear c0 c1 c2 r c4 hM;go_wp2_with fail;go_ret2;exact ⟨Q,.inr ⟨h1,a3,k3,c3',rfl,HM⟩⟩
section
variable {O:aL} {El:Int->Prop}
def fA (O:aL) (x:Int):Nat->Int
 | 0=>1
 | k+1=>O.mul (fA O x k) x
theorem eK (F:bQ O El) {x:Int} (Z:El x):∀k,El (fA O x k)
 | 0=>F.one
 | k+1=>F.cl.mul _ _ (eK F Z k) Z
theorem yb (F:bQ O El) {x:Int} (Z:El x) (a:Nat):∀b,fA O x (a+b)=O.mul (fA O x a) (fA O x b)
 | 0=>by rw [QK];exact (F.iH (eK F Z a)).symm
 | b+1=>by rw [<- Pq];show O.mul (fA O x (a+b)) x=O.mul _ (O.mul (fA O x b) x);rw [yb F Z a b,F.mul_assoc _ _ _ (eK F Z a) (eK F Z b) Z]
theorem o6 (F:bQ O El) {x:Int} (Z:El x) (a:Nat):∀b,fA O x (a * b)=fA O (fA O x a) b
 | 0=>rfl
 | b+1=>by rw [PF,yb F Z,o6 F Z a b];rfl
def jC (n:Nat) (c:Int) (e:Nat):Lz:=(List.replicate n 0).set e c
def lF (O:aL) (a b:Lz):Lz:=List.zipWith O.add a b
theorem jK (F:bQ O El) {n e:Nat} {c:Int} (Z:El c):∀y ∈ jC n c e,El y:=λy hy=>by
 rcases Oe hy with h | rfl
 ·rw [N3 h];exact F.zero
 ·exact Z
theorem Gv (F:bQ O El) (n:Nat):∀y ∈ List.replicate n (0:Int),El y:=λy hy=>by rw [N3 hy];exact F.zero
theorem xa (F:bQ O El) {x:Int} (Z:El x) (n:Nat):iU O (List.replicate n 0) x=0:=kA F Z λy hy=>N3 hy
theorem ox (F:bQ O El) {x c:Int} (Z:El x) (Y:El c):∀(n e:Nat),e<n->iU O (jC n c e) x=O.mul c (fA O x e)
 | 0,e,h=>by omega
 | n+1,0,_=>by show O.add c (O.mul x (iU O (List.replicate n 0) x))=O.mul c 1;rw [xa F Z,F.df Z,F.add_zero _ Y,F.iH Y]
 | n+1,e+1,h=>by show O.add 0 (O.mul x (iU O (jC n c e) x))=O.mul c (O.mul (fA O x e) x);rw [ox F Z Y n e (by omega),F.ui (F.cl.mul _ _ Z (F.cl.mul _ _ Y (eK F Z e))),F.mul_comm _ _ Z (F.cl.mul _ _ Y (eK F Z e)),F.mul_assoc _ _ _ Y (eK F Z e) Z]
theorem rp (F:bQ O El):∀ {a b:Lz},(∀y ∈ a,El y)->(∀y ∈ b,El y)->∀y ∈ lF O a b,El y
 | [],b,_,_,y,hy=>by simp [lF] at hy
 | x :: a,[],_,_,y,hy=>by simp [lF] at hy
 | x :: a,z :: b,ha,hb,y,hy=>by
  rcases List.mem_cons.1 (show y ∈ O.add x z :: lF O a b from hy) with rfl | hy
  ·exact F.cl.add _ _ (ha x (by simp)) (hb z (by simp))
  ·exact rp F (λw hw=>ha w (NC _ hw)) (λw hw=>hb w (NC _ hw)) y hy
theorem rh (F:bQ O El) {x:Int} (Z:El x):∀ {a b:Lz},a.length=b.length->(∀y ∈ a,El y)->(∀y ∈ b,El y)->iU O (lF O a b) x=O.add (iU O a x) (iU O b x)
 | [],[],_,_,_=>by show (0:Int)=O.add 0 0;rw [F.add_zero 0 F.zero]
 | [],_ :: _,h,_,_=>by simp at h
 | _ :: _,[],h,_,_=>by simp at h
 | c :: a,d :: b,h,ha,hb=>by have N:=ha c (by simp);have hd:=hb d (by simp);have U:∀y ∈ a,El y:=λw hw=>ha w (NC _ hw);have Y:∀y ∈ b,El y:=λw hw=>hb w (NC _ hw);have S:=lV F Z U;have Q:=lV F Z Y;show O.add (O.add c d) (O.mul x (iU O (lF O a b) x))=O.add (O.add c (O.mul x (iU O a x))) (O.add d (O.mul x (iU O b x)));rw [rh F Z (by simpa using h) U Y,F.mul_add _ _ _ Z S Q,F.Em N hd (F.cl.mul _ _ Z S) (F.cl.mul _ _ Z Q)]
theorem sH {a b:Lz} {i:Nat} (ha:i<a.length) (hb:i<b.length):nth (lF O a b) i=O.add (nth a i) (nth b i):=by
 have Z:i<(List.zipWith O.add a b).length:=by rw [Ov];omega
 show nth (List.zipWith O.add a b) i=_;rw [an Z,an ha,an hb,PC]
theorem oK {n e i:Nat} {c:Int} (he:e<n):nth (jC n c e) i=if i=e then c else 0:=by
 unfold jC;rw [eT _ _ _ _ (by simpa using he)];split
 ·rfl
 ·simp [nth,Na,NP];split<;>rfl
def Eo (O:aL) (v:Lz) (E:Nat->Nat) (x:Int):Nat->Int
 | 0=>0
 | k+1=>O.add (Eo O v E x k) (O.mul (nth v k) (fA O x (E k)))
theorem yS (F:bQ O El) {v:Lz} {E:Nat->Nat} {n:Nat}:∀k,(∀j,j<k->El (nth v j)/\E j<n)->(∀i j,i<j->j<k->E i<E j) ->
  ∃a:Lz,a.length=n/\(∀y ∈ a,El y)/\(∀x,El x->iU O a x=Eo O v E x k)/\(∀j,j<k->nth a (E j)=nth v j)/\∀i,(∀j,j<k->i ≠ E j)->nth a i=0
 | 0,_,_=>⟨List.replicate n 0,by simp,Gv F n,λx Q=>xa F Q n,λj Z=>by omega,λi _=>by simp [nth,Na,NP];split<;>rfl⟩
 | k+1,h,H=>by
  obtain ⟨a,h1,h2,h3,h4,h5⟩:=yS F k (λj Z=>h j (by omega)) λi j hi Z=>H i j hi (by omega);obtain ⟨K,I⟩:=h k (by omega);have N:(jC n (nth v k) (E k)).length=n:=by simp [jC]
  have G:nth a (E k)=0:=h5 _ λj Z=>by have:=H j k Z (by omega);omega
  refine ⟨lF O a (jC n (nth v k) (E k)),by unfold lF;rw [Ov,h1,N,Nat.min_self],rp F h2 (jK F K),λx Q=>?_,λj Z=>?_,λi hi=>?_⟩
  ·rw [rh F Q (by rw [h1,N]) h2 (jK F K),h3 x Q,ox F Q K n _ I];rfl
  ·have S:=(h j Z).2;rw [sH (by rw [h1];exact S) (by rw [N];exact S),oK I];rcases NU j k with Y | Y
   ·have:=H j k Y (by omega);rw [M8 (by omega),h4 j Y,F.add_zero _ (h j Z).1]
   ·obtain rfl:j=k:=by omega
    rw [M7 rfl,G,F.ui K]
  ·by_cases U:i<n
   ·rw [sH (by rw [h1];exact U) (by rw [N];exact U),oK I,M8 (hi k (by omega)),h5 i λj Z=>hi j (by omega),F.add_zero 0 F.zero]
   ·have A:(lF O a (jC n (nth v k) (E k))).length<=i:=by unfold lF;rw [Ov,h1,N];omega
    generalize lF O a (jC n (nth v k) (E k))=z at A ⊢;unfold nth;rw [Na,N5 A];rfl
theorem zr (F:bQ O El) {v:Lz} {E:Nat->Nat} {r:Nat} {c:Int} (S:El c):∀k,(∀j,j<k->El (nth v j)/\E j % (r+1)<r) ->
  ∃b:Lz,b.length=r/\(∀y ∈ b,El y)/\∀x,El x->fA O x (r+1)=c->iU O b x=Eo O v E x k
 | 0,_=>⟨List.replicate r 0,by simp,Gv F r,λx Z _=>xa F Z r⟩
 | k+1,h=>by
  obtain ⟨b,h1,h2,h3⟩:=zr F S k λj I=>h j (by omega);obtain ⟨Q,K⟩:=h k (by omega);have Y:=F.cl.mul _ _ Q (eK F S (E k / (r+1)));have N:(jC r (O.mul (nth v k) (fA O c (E k / (r+1)))) (E k % (r+1))).length=r:=by simp [jC]
  refine ⟨lF O b (jC r (O.mul (nth v k) (fA O c (E k / (r+1)))) (E k % (r+1))),by unfold lF;rw [Ov,h1,N,Nat.min_self],rp F h2 (jK F Y),λx Z U=>?_⟩;rw [rh F Z (by rw [h1,N]) h2 (jK F Y),h3 x Z U,ox F Z Y r _ K];show _=O.add _ (O.mul (nth v k) (fA O x (E k)));have e:fA O x (E k)=O.mul (fA O c (E k / (r+1))) (fA O x (E k % (r+1))):=by have h4:E k=(r+1) * (E k / (r+1))+E k % (r+1):=(Po _ _).symm;rw [<- U,<- o6 F Z,<- yb F Z,<- h4]
  rw [e,F.mul_assoc _ _ _ Q (eK F S _) (eK F Z _)]
def iJ (O:aL) (X:Lz) (E:Nat->Nat) (k:Nat):ZZ:=(List.range k).map λj=>X.map λx=>fA O x (E j)
theorem zW {X:Lz} {E:Nat->Nat} {k j:Nat} (Z:j<k):aj (iJ O X E k) j=X.map λx=>fA O x (E j):=by
 unfold iJ;have Y:j<((List.range k).map λj=>X.map λx=>fA O x (E j)).length:=by simpa using Z
 rw [aH Y,Oc,O1]
theorem oG (F:bQ O El) {X:Lz} (Y:∀x ∈ X,El x) {E:Nat->Nat} {k:Nat}:bz El X.length (iJ O X E k):=λr S=>by obtain ⟨j,Z,rfl⟩:=mq S;rw [zW (by simpa [iJ] using Z)];exact ⟨by simp,λy hy=>by obtain ⟨x,U,rfl⟩:=List.mem_map.1 hy;exact eK F (Y x U) _⟩
theorem nV {X:Lz} {f:Int->Int} {p:Nat} (Z:p<X.length):nth (X.map f) p=f (nth X p):=by rw [an (by simpa using Z),Oc,an Z]
theorem wY (F:bQ O El) {X:Lz} (N:∀x ∈ X,El x) {E:Nat->Nat} {n:Nat} {v:Lz} (Q:∀j,j<n->El (nth v j)) {p:Nat} (S:p<X.length):∀k,k<=n->nth (cmbTo O X.length v (iJ O X E n) k) p=Eo O v E (nth X p) k
 | 0,_=>by show nth (List.replicate X.length 0) p=0;simp [nth,Na,NP];split<;>rfl
 | k+1,r=>by
  have K:=Q k (by omega);have H:=N (nth X p) (aG S);have I:=eK F H (E k);have G:=wY F N (E:=E) Q S k (by omega);have z:=oG F N (E:=E) (k:=n);have U:(iJ O X E n).length=n:=by simp [iJ]
  obtain ⟨⟨c1,c2⟩,_⟩:=iZ F z (x:=v) (λj A=>Q j (by rw [U] at A;exact A)) k (by rw [U];omega);have Y:El (Eo O v E (nth X p) k):=by rw [<- G];exact R0 ⟨c1,c2⟩ S
  rw [cmbTo];show _=O.add (Eo O v E (nth X p) k) (O.mul (nth v k) (fA O (nth X p) (E k)));split
  ·rename_i h0;rw [G,h0,F.lI I,F.add_zero _ Y]
  ·have Z:aj (iJ O X E n) k=X.map λx=>fA O x (E k):=zW (by omega);rw [gY _ _ _ _ _ (by rw [Z,c1];simp) (by rw [c1];exact S),G,Z,nV S];split
   ·rename_i h0;rw [h0,F.df K,F.add_zero _ Y]
   ·rfl
end
section
variable {O:aL} {El:Int->Prop} {m:Nat} {L:ZZ}
theorem Ci (F:bQ O El) (e:bz El m L) (h:∀v,Vc El L.length v->(∀p,p<m->nth (cmbTo O m v L L.length) p=0)->∀j,j<L.length->nth v j=0):(aE O L m).2.length=L.length:=by
 obtain ⟨hP,hs1,hs2⟩:=iI F e m (M4 _);have hRr:=jo F e m (M4 _);obtain ⟨R,hR⟩:∃R,(aE O L m).1=R:=⟨_,rfl⟩
 obtain ⟨P,hPe⟩:∃P,(aE O L m).2=P:=⟨_,rfl⟩
 have hRl:R.length=L.length:=by rw [<- hR];exact bW O L m
 rw [hR,hPe] at hP;rw [hR] at hs1 hs2 hRr;rw [hPe];have hle:=hP.le;rw [hRl] at hle;refine NB λhne=>?_;have hn:P.length<L.length:=by omega
 obtain ⟨A,hA⟩:∃A,(P.map λq=>bp L q.toNat)=A:=⟨_,rfl⟩
 have hAl:A.length=P.length:=by rw [<- hA,No]
 have S:bz El L.length A:=λr hr=>by rw [<- hA] at hr;obtain ⟨q,_,rfl⟩:=List.mem_map.1 hr;exact dw e F.zero q.toNat
 have hAi:∀i,i<P.length->aj A i=bp L (nth P i).toNat:=λi hi=>by rw [aH (by omega),an hi];simp [<- hA]
 obtain ⟨Y,I⟩:=dc F S;have Z:=cU F S;have U:=dk F S;have hPA:(aE O A L.length).2.length<=P.length:=by have:=(eO O A L.length).2;rw [hAl] at this;exact this
 obtain ⟨Q,hQ⟩:∃Q,(aE O A L.length).2=Q:=⟨_,rfl⟩
 obtain ⟨B,hB⟩:∃B,bI O L.length A=B:=⟨_,rfl⟩
 have H:=(dC F S).2;rw [hB] at Y I Z U H;rw [hQ] at Y I Z hPA;have hcnt:=va (m:=L.length) Q (λj hj=>Y.lt j hj) I.asc;have h0:0<(eW Q L.length).length:=by omega
 obtain ⟨c,hc⟩:∃c,(eW Q L.length).getD 0 0=c:=⟨_,rfl⟩
 obtain ⟨K,hcn⟩:=lM h0;rw [hc] at K hcn;obtain ⟨v,hv⟩:∃v,kerTo O L.length B Q c Q.length=v:=⟨_,rfl⟩
 have z:Vc El L.length v:=by rw [<- hv];exact kI F U Y Z K _ (M4 _)
 have hvc:nth v c=1:=by rw [<- hv];exact ju Y K hcn _ (M4 _)
 have N:∀p,p<L.length->El (nth v p):=λp hp=>z.at hp;have G:∀i,i<B.length->dotN O (λp=>nth v p) (λp=>nth (aj B i) p) L.length=0:=λi hi=>by have h1:=ow F U Y I Z i 0 hi (by rw [gI];exact h0);rw [jP O L.length B Q L.length h0,hc,hv] at h1;rw [gW F L.length N (λp hp=>R0 (U.row hi) hp)];exact h1
 have hz:∀p,p<m->nth (cmbTo O m v L L.length) p=0:=by
  obtain ⟨c1,c2⟩:=iZ F e N L.length (M4 _);refine zw F hRr hP (hs2.rs c2) λj hj=>?_;have hpl:=(hP.lt j hj)
  rw [mQ F e N (show (nth P j).toNat<m by omega) _ (M4 _)];have h2:dotN O (λp=>nth v p) (λp=>nth (aj A j) p) L.length=0:=qf F U N G (H j (by omega));rw [hAi j hj] at h2;rw [<- h2];exact gu L.length λp hp=>⟨rfl,(dx _ _ p hp).symm⟩
 have h3:=h v z hz c K;rw [hvc] at h3;exact absurd h3 (by decide)
end
section
variable {O:aL} {El:Int->Prop} {X:Lz} {E:Nat->Nat} {k D:Nat}
theorem Lp (X:Lz) (a:Lz):bY (X.map (iU O a))+(X.filter λy=>decide (iU O a y=0)).length=X.length:=by
 unfold bY;rw [Qf];induction X with
 | nil=>rfl
 | cons y X Z =>
  have e1:((λy:Int=>decide (y ≠ 0)) ∘ iU O a) y=decide (iU O a y ≠ 0):=rfl
  rw [Pd,QC,NO,e1]
  by_cases h:iU O a y=0
  ·rw [M8 (show ¬ decide (iU O a y ≠ 0)=true by simpa using h),M7 (show decide (iU O a y=0)=true by simpa using h),NO]
   omega
  ·rw [M7 (show decide (iU O a y ≠ 0)=true by simpa using h),M8 (show ¬ decide (iU O a y=0)=true by simpa using h)]
   omega
theorem DO (F:bQ O El) (Y:∀x ∈ X,El x) (N:∀i j,i<j->j<k->E i<E j) (Q:∀j,j<k->E j<=D) {v:Lz} (Z:∀j,j<k->El (nth v j)) :
  ∃a:Lz,a.length=D+1/\(∀y ∈ a,El y)/\(∀p,p<X.length->nth (cmbTo O X.length v (iJ O X E k) k) p=iU O a (nth X p))/\∀j,j<k->nth a (E j)=nth v j:=by obtain ⟨a,h1,h2,h3,h4,_⟩:=yS F (v:=v) (E:=E) (n:=D+1) k (λj S=>⟨Z j S,by have:=Q j S;omega⟩) N;exact ⟨a,h1,h2,λp U=>by rw [wY F Y Z U k (M4 _),h3 _ (Y _ (aG U))],h4⟩
theorem Dd (F:bQ O El) (Y:X.Nodup) (U:∀x ∈ X,El x) {a:Lz} (S:a.length=D+1) (ha:∀y ∈ a,El y) (h:bY (X.map (iU O a))+D<X.length):∀c ∈ a,c=0:=by have h1:=Lp (O:=O) X a;refine kZ F (X:=X.filter λy=>decide (iU O a y=0)) (PB _ Y) (λx Z=>U x (List.mem_filter.1 Z).1) ha (λx Z=>by simpa using (List.mem_filter.1 Z).2) (by omega)
theorem oe:(iJ O X E k).length=k:=by simp [iJ]
theorem Cw (F:bQ O El) (N:X.Nodup) (U:∀x ∈ X,El x) (I:∀i j,i<j->j<k->E i<E j) (K:∀j,j<k->E j<=D) {w:Lz} (hw:Vc El X.length w)
  (G:RS O El X.length (bI O X.length (iJ O X E k)) (λi=>nth w i)) (h0:bY w ≠ 0):X.length<=bY w+D:=by
 have Q:=oG F U (E:=E) (k:=k);obtain ⟨v,S,h1⟩:=RS.MA F Q ((dC F Q).1.rs G);rw [oe] at S h1;obtain ⟨a,a1,a2,a3,_⟩:=DO F U I K (v:=v) λj H=>S.at H;have Y:w=X.map (iU O a):=fy (by rw [hw.1,No]) λp Z=>by rw [hw.1] at Z;rw [nV Z,<- a3 p Z];exact h1 p Z
 refine Of λA=>h0 ?_;have h2:=Dd F N U a1 a2 (by rw [<- Y];omega);rw [Y];exact rR.2 λp Z=>by rw [No] at Z;rw [nV Z];exact kA F (U _ (aG Z)) h2
theorem IZ (F:bQ O El) (K:X.Nodup) (U:∀x ∈ X,El x) (I:∀i j,i<j->j<k->E i<E j) (Q:∀j,j<k->E j<=D) (H:D<X.length):(bI O X.length (iJ O X E k)).length=k:=by
 have N:=oG F U (E:=E) (k:=k);rw [cU F N,Ci F N,oe];intro v S h0 j Z;rw [oe] at S h0 Z;obtain ⟨a,a1,a2,a3,a4⟩:=DO F U I Q (v:=v) λj Z=>S.at Z;have G:bY (X.map (iU O a))=0:=rR.2 λp Y=>by rw [No] at Y;rw [nV Y,<- a3 p Y];exact h0 p Y
 have h2:=Dd F K U a1 a2 (by omega);rw [<- a4 j Z];exact h2 _ (aG (by rw [a1];have:=Q j Z;omega))
theorem F6 (F:bQ O El) (hn:X.Nodup) (U:∀x ∈ X,El x) {r:Nat} (hr:∀j,j<k->E j % (r+1)<r) {c:Int} (hc:El c) {l:Z6} (Y:∀p ∈ l,p<X.length/\fA O (nth X p) (r+1)=c) (I:l.Nodup) (A:r<=l.length)
  {q:Nat} (K:q<X.length) (H:fA O (nth X q) (r+1)=c):lu O El (bI O X.length (iJ O X E k)).length (bp (bI O X.length (iJ O X E k))) l q:=by
 have hR:=oG F U (E:=E) (k:=k);refine (xy (λp Z=>(Y p Z).1) K).2 λf hf h0=>?_;obtain ⟨v,hv,h1⟩:=RS.MA F hR ((dC F hR).1.rs hf);rw [oe] at hv h1;have Q:∀j,j<k->El (nth v j):=λj N=>hv.at N;obtain ⟨b,b1,b2,b3⟩:=zr F (v:=v) (E:=E) (r:=r) hc k λj N=>⟨Q j N,hr j N⟩
 have S:∀p,p<X.length->fA O (nth X p) (r+1)=c->f p=iU O b (nth X p):=λp Z G=>by rw [h1 p Z,wY F U Q Z k (M4 _),b3 _ (U _ (aG Z)) G]
 have hz:=kZ F (X:=l.map (nth X)) (a:=b) (by
  unfold List.Nodup;rw [OH];refine I.imp_of_mem λ{p p'} Z hp' hne e=>hne ?_;rw [an (Y p Z).1,an (Y p' hp').1] at e;exact (Rx hn).1 e) (λx z=>by
   obtain ⟨p,Z,rfl⟩:=List.mem_map.1 z;exact U _ (aG (Y p Z).1)) b2 (λx z=>by
   obtain ⟨p,Z,rfl⟩:=List.mem_map.1 z;rw [<- S p (Y p Z).1 (Y p Z).2];exact h0 p Z) (by rw [b1,No];exact A)
 rw [S q K H];exact kA F (U _ (aG K)) hz
end
def sd (P M:Int) (mod:Lz) (m:Nat) (L:ZZ) (i:Int):Int:=if yG P M mod m L=0 then (if gZ P M mod m L i=[] then 11 else 0) else yG P M mod m L
def jg (P M:Int) (mod:Lz) (m:Nat) (L:ZZ) (i:Int):Lz:=eG (gZ P M mod m L i) m i
def oF (P M:Int) (mod:Lz) (m:Nat) (L:ZZ) (i:Int):Lz:=(jg P M mod m L i).map λj=>(ah P M.toNat mod).neg (nth (gZ P M mod m L i) j.toNat)
def nX (Z:Int) (S C:Lz) (w:ej) (e:Ending) (w':ej):Prop :=
 SJ w w'/\((Z ≠ 0/\e = ec #[ds,ds,cG Z]) \/
  (Z=0/\∃a c a2 c2,e = ec #[.slice a S.length c,.slice a2 S.length c2,cG 0]/\Ints w' a S.length S/\Ints w' a2 S.length C))
theorem qC (P M:Int) (am:OA) (mn cm:Nat) (mod:Lz) (m i:Nat) (a:OA) (n c:Nat) (L:ZZ) (w:ej) (Q:Ints w am mn mod) (hi:bP w a n L) (hE:aI P M mod m L=0) (him:i<m) :
  Calls prog 48 #[.agg #[cG P,cG M,.slice am mn cm,cG m,.slice a n c],cG i] w (nX (sd P M mod m L i) (jg P M mod m L i) (oF P M mod m L i) w):=by
 have I:m<=64:=by obtain ⟨N',e,hm1,I,F,hR⟩:=aT hE;omega
 have HD:Hid (∀V,SJ w V->Calls prog 101 #[.agg #[cG P,cG M,.slice am mn cm,cG m,.slice a n c]] V (l7 P M mod m L V)):=λV hV=>sj P M am mn cm mod m a n c L V (Q.ai hV) (hi.ai hV) hE;have HNw:Hid (∀V,SJ w V->Calls prog 52 #[.agg #[cG P,cG M,.slice am mn cm]] V λe w'=>∃b,e = ec #[ea b 0,cG 0]/\dg w' b (ah P M.toNat mod)/\SJ V w'):=λV hV=>by
  refine (dh P M am mn cm mod V (Q.ai hV)).mono ?_;rintro e w' (⟨h1,_⟩ | ⟨_,b,h2,h3,_,h4⟩)
  ·rw [(aX hE).1] at h1;cases h1
  ·exact ⟨b,h2,h3.gf,h4⟩
 have HH:Hid (∀V aW nW cW,bP V aW nW (uS P M mod m L)->Calls prog 102 #[.slice aW nW cW,cG i] V λe w'=>SJ V w'/\∃ar nr cr,e = .returned (.slice ar nr cr)/\su w' ar nr (gZ P M mod m L i)):=λV aW nW cW hW=>by
  have h:=nS aW nW cW (uS P M mod m L) m i V hW (λr hr=>((sC hE).1 hr).1.1) him I;have e:gZ P M mod m L (i:Nat)=bstL m (i:Nat) (uS P M mod m L) nW:=by rw [gZ,hW.len]
  rw [e];exact h
 have hhel:=xW hE (i:Int);have HEl:Hid (gZ P M mod m L i ≠ []->(ah P M.toNat mod).vn (gZ P M mod m L i)/\(gZ P M mod m L i).length=m):=λhne=>by
  rcases hhel with ⟨h,_⟩ | ⟨h,_,_⟩
  ·exact absurd h hne
  ·obtain ⟨h1,_⟩:=(sC hE).1 h;exact ⟨h1.2,h1.1⟩
 have H:Hid (sd P M mod m L i=if yG P M mod m L=0 then (if gZ P M mod m L i=[] then 11 else 0) else yG P M mod m L):=rfl;obtain ⟨x,hx⟩:∃x,gZ P M mod m L i=x:=⟨_,rfl⟩
 have HC:Hid (oF P M mod m L i=(jg P M mod m L i).map λj=>(ah P M.toNat mod).neg (nth x j.toNat)):=by rw [<- hx];rfl
 have HS:Hid (jg P M mod m L i=eG x m i):=by rw [<- hx];rfl
 rw [hx] at HH HEl H;unfold l7 at HD;generalize sd P M mod m L i=er at *;generalize oF P M mod m L i=C at *;generalize jg P M mod m L i=S at *;generalize yG P M mod m L=f at *;generalize uS P M mod m L=Dw at *;generalize ah P M.toNat mod=G at *;clear Q hi hE hx hhel;go_enter func48,ntmps48;go_upto_region 1 with fail;obtain ⟨W,hW⟩:∃W:ej,W=w.alloc (.cells #[cG P,cG M,.slice am mn cm,cG m,.slice a n c] 27):=⟨_,rfl⟩
 rw [<- hW];have hbW:SJ w W:=by rw [hW];exact aD _ _
 have x0:aQ W w.heap.size [cG P,cG M,.slice am mn cm,cG m,.slice a n c]:=by rw [hW];exact RV _ _ _ rfl
 have HX:=Z5 x0;have HbW:=Z5 hbW;have c0:=x0.cell 0 rfl;have c1:=x0.cell 1 rfl;have c2:=x0.cell 2 rfl;have c3:=x0.cell 3 rfl;have c4:=x0.cell 4 rfl;clear hW x0 hbW;go_wp2_with fail;refine (HD W HbW.out).mono ?_;rintro e w1 ⟨hb1,⟨h1,rfl⟩ | ⟨h1,aW,nW,cW,rfl,hM⟩⟩
 ·have hF:=RU HbW.out hb1;have d0:(f != 0)=true:=by simpa using h1
  have HR:Hid (er=f):=by show _=_;rw [H.out,M8 h1]
  have H1:=Z5 h1;clear c0 c1 c2 c3 c4 h1;go_wp2_with fail;go_ret3;exact ⟨hF,.inl ⟨by rw [HR.out];exact H1.out,by rw [HR.out]<;>rfl⟩⟩
 have HM:=Z5 hM;have hF1:=RU HbW.out hb1;have H1:=Z5 h1;clear c0 c1 c2 c3 c4 hM h1;have y1:=HX.ai hb1;have c0:=y1.cell 0 rfl;have c1:=y1.cell 1 rfl;have c2:=y1.cell 2 rfl;clear y1;go_wp2_with fail;refine (HNw w1 hF1).mono ?_;rintro e w2 ⟨b,rfl,hG2,hb2⟩;have hF2:=RU hF1 hb2;have HG:=Z5 hG2;have HH2:=Z5 (HH w2 aW nW cW (HM.ai hb2));clear c0 c1 c2 hG2;go_wp2_with fail;refine HH2.mono ?_;rintro e w3 ⟨hb3,ax,nx,cx,rfl,Z⟩;have hF3:=RU hF2 hb3;have heq:=λ(w:ej) (a:OA) (l c:Nat)=>Go.run_eql_slice_nil (P:=prog) w 22 3 a l c underlying22;by_cases h0:x=[]
 ·have hin:ax.isNone=true:=by rw [Z.2];exact Nv h0
  have HR:Hid (er=11):=by show _=_;rw [H.out,M7 H1.out,M7 h0]
  clear h0 Z;go_wp2_with fail;go_ret3;exact ⟨hF3,.inl ⟨by rw [HR.out];decide,by rw [HR.out]<;>rfl⟩⟩
 have hin:ax.isNone=false:=by rw [Z.2];exact Nu h0
 have HR:Hid (er=0):=by show _=_;rw [H.out,M7 H1.out,M8 h0]
 obtain ⟨hxe,hxl⟩:=HEl h0;have hnx:nx=m:=by rw [<- Z.1.len];exact hxl
 subst hnx;have HX3:=Z5 Z.1;have HSu:=Z5 (ik ax nx cx x i w3 Z.1 (by omega));rw [<- HS.out] at HSu;have Hxe:=Z5 hxe;have Hxl:=Z5 hxl;have HSb:Hid (∀j,j<S.length->0<=nth S j/\nth S j<nx):=λj hj=>by have h:=aG hj;rw [HS.out] at h;exact Dl (by rw [HS.out];exact h)
 clear h0 Z hxe hxl;go_wp2_with fail;refine HSu.mono ?_;rintro e w4 ⟨a4,k4,rfl,Y,hb4⟩;have hF4:=RU hF3 hb4;have HI4:=Z5 (RW Y).1;have hpl4:=(RW Y).1.pl;obtain ⟨q,hq⟩:∃q,S.length=q:=⟨_,rfl⟩
 have hq64:q<=64:=by rw [<- hq,HS.out];exact Np (iA _ _ _) I
 rw [hq] at HI4 hpl4 HSb ⊢;have Hq:=Z5 hq;have HG4:Hid (∀V,SJ w4 V->dg V b G/\Ints V ax nx x/\Ints V a4 q S):=λV hV=>⟨HG.ai (RU hb3 (RU hb4 hV)),HX3.ai (RU hb4 hV),HI4.ai hV⟩
 have hplx:=HX3.pl;clear Y hq;go_wp2_with fail;go_loopw [12,42] (λcv iv wr=>∃(k:Nat) (a5:OA) (c5:Nat),k<=q/\iv = cG k/\cv = .slice a5 k c5/\wr.ownsRow w4.heap.size 3 1 (.slice a5 k c5) k (((S.take k).map λj=>G.neg (nth x j.toNat)).map (Value.int .i64))/\SJ w4 wr) (λ_ iv _=>q - (intOf iv).toNat);case atStart=>exact ⟨0,none,0,Nb _,rfl,rfl,cJ,M5 _ _⟩
 case round =>
  obtain ⟨k,a5,c5,hk,rfl,rfl,U,K⟩:=hrel
  generalize wr=V at *
  by_cases A:k<q
  ·obtain ⟨hG,hIx,hIs⟩:=HG4 V K
   have ck:=hIs.cell k A
   obtain ⟨hs0,hs1⟩:=HSb k A
   have Htk:Hid (S.take (k+1)=S.take k ++ [nth S k]):=by show _=_;rw [Nh (by rw [Hq.out];exact A),an (by rw [Hq.out];exact A)]
   obtain ⟨j,hj⟩:∃j:Nat,nth S k=j:=⟨(nth S k).toNat,by omega⟩
   rw [hj] at ck hs1 Htk
   have hjn:j<nx:=by omega
   have cx:=hIx.cell j hjn
   have hye:=Hxe.nth (i:=j) (by rw [Hxl.out];exact hjn)
   have HNg:=Z5 (Jo (nth x j) hG hye)
   have Hown:=Z5 U
   obtain ⟨y,hy⟩:∃y,nth x j=y:=⟨_,rfl⟩
   rw [hy] at cx HNg
   obtain ⟨z,hz⟩:∃z,G.neg y=z:=⟨_,rfl⟩
   rw [hz] at HNg
   have Hz:Hid (G.neg (nth x j)=z):=by rw [hy];exact hz
   clear hG hIx hIs hs0 hj hye U hy hz
   have hsz:=K.size
   go_wp2_with fail
   refine HNg.mono ?_
   rintro e w6 ⟨m6,rfl,rfl⟩
   have N:=bj Hown.out (Sd ⟨m6,rfl⟩)
   have hbr6:=RU K (Sd ⟨m6,rfl⟩)
   have hcn:=bh (V.drewN m6) (cG z) 3
   go_wp2_with (at_builtin;refine bd rfl _ _ 22 3 rfl (cG 0) 8 underlying22 br rfl w4.heap.size a5 k c5 _ rfl (N.alloc _) ⟨(V.drewN m6).heap.size,0,none⟩ 1 (cG z) rfl hcn rfl (by omega) (by unfold maxLen;omega) (by simp;omega) ?_;intro a7 c7 w7 hown7 hgr7 hap7)
   go_roundw
   case rel=>exact ⟨k+1,a7,c7,by omega,by go_num,rfl,by rw [Htk.out,NT,NT];simpa [Hz.out] using hown7,RY (R6 hbr6 _) (N.alloc _) hgr7 (M4 _) (R6 hbr6 _).size⟩
   case measure=>simp [intOf]<;>omega
  ·obtain rfl:k=q:=by omega
   have hIC:Ints V a5 k C:=by have h:=(RW U).1;rw [<- Hq.out,Qz] at h;rw [HC.out];rw [Hq.out] at h;exact h
   have HP:Hid (nX er S C w (ec #[.slice a4 k k4,.slice a5 k c5,cG 0]) V):=⟨RU hF4 K,.inr ⟨HR,a4,k4,a5,c5,by rw [Hq.out],by rw [Hq.out];exact HI4.ai K,by rw [Hq.out];exact hIC⟩⟩
   clear U hIC
   go_wp2_with fail
   go_ret3
   exact HP
def FE (P M:Int) (mod:Lz) (N:Int) (L:ZZ) (i:Int):Int:=if jY P M mod N L i=0 then sd P M mod N.toNat L i else jY P M mod N L i
theorem uo (P M:Int) (am:OA) (U K:Nat) (mod:Lz) (N:Int) (a:OA) (n c:Nat) (L:ZZ) (i:Int) (w:ej) (Z:Ints w am U mod) (hi:bP w a n L) :
  Calls prog 15 #[.agg #[cG P,cG M,.slice am U K,cG N,.slice a n c],cG i] w (nX (FE P M mod N L i) (jg P M mod N.toNat L i) (oF P M mod N.toNat L i) w):=by
 have HP:Hid (∀V,SJ w V->Calls prog 47 #[.agg #[cG P,cG M,.slice am U K,cG N,.slice a n c],cG i] V λe w'=>e = .returned (cG (jY P M mod N L i))/\SJ V w'):=λV r=>mw P M am U K mod N a n c L i V (Z.ai r) (hi.ai r);have HH:Hid (jY P M mod N L i=0->∀V,SJ w V->Calls prog 48 #[.agg #[cG P,cG M,.slice am U K,cG N,.slice a n c],cG i] V (nX (sd P M mod N.toNat L i) (jg P M mod N.toNat L i) (oF P M mod N.toNat L i) V)):=λh V r=>by
  unfold jY at h;split at h
  ·rename_i hE;split at h
   ·cases h
   ·obtain ⟨m,rfl,_⟩:=aT hE;obtain ⟨j,rfl⟩:∃j:Nat,i=j:=⟨i.toNat,by omega⟩
    rw [M9];exact qC P M am U K mod m j a n c L V (Z.ai r) (hi.ai r) hE (by omega)
  ·rename_i hE;exact absurd h hE
 have HE:Hid (FE P M mod N L i=if jY P M mod N L i=0 then sd P M mod N.toNat L i else jY P M mod N L i):=rfl;generalize FE P M mod N L i=er at *;generalize jY P M mod N L i=pe at *;generalize sd P M mod N.toNat L i=he at *;generalize jg P M mod N.toNat L i=S at *;generalize oF P M mod N.toNat L i=C at *;clear Z hi;go_enter func15,ntmps15;go_upto_region 1 with fail;obtain ⟨W,hW⟩:∃W:ej,W=w.alloc (.cells #[cG P,cG M,.slice am U K,cG N,.slice a n c] 27):=⟨_,rfl⟩
 rw [<- hW];have A:SJ w W:=by rw [hW];exact aD _ _
 have Q:aQ W w.heap.size [cG P,cG M,.slice am U K,cG N,.slice a n c]:=by rw [hW];exact RV _ _ _ rfl
 have HX:=Z5 Q;have z:=Z5 A;have c0:=Q.cell 0 rfl;have c1:=Q.cell 1 rfl;have c2:=Q.cell 2 rfl;have c3:=Q.cell 3 rfl;have c4:=Q.cell 4 rfl;clear hW Q A;go_wp2_with fail;refine (HP W z.out).mono ?_;rintro e w1 ⟨rfl,hb1⟩;have Y:=RU z.out hb1;clear c0 c1 c2 c3 c4;by_cases h0:pe=0;rotate_left
 ·have d0:(pe != 0)=true:=by simpa using h0
  have H:Hid (er=pe):=by show _=_;rw [HE.out,M8 h0]
  have H0:=Z5 h0;clear h0 HH;go_wp2_with fail;go_ret3;exact ⟨Y,.inl ⟨by rw [H.out];exact H0.out,by rw [H.out]<;>rfl⟩⟩
 have d0:(pe != 0)=false:=by simpa using h0
 have H:Hid (er=he):=by show _=_;rw [HE.out,M7 h0]
 have HC:=Z5 (HH h0 w1 Y);have G:=HX.ai hb1;have c0:=G.cell 0 rfl;have c1:=G.cell 1 rfl;have c2:=G.cell 2 rfl;have c3:=G.cell 3 rfl;have c4:=G.cell 4 rfl;clear G h0 HH;go_wp2_with fail;refine HC.mono ?_;rintro e w2 ⟨F,⟨h1,rfl⟩ | ⟨h1,a2,k2,a3,k3,rfl,hI2,hI3⟩⟩
 ·have I:=RU Y F;have H1:=Z5 h1;clear c0 c1 c2 c3 c4 h1;go_wp2_with fail;go_ret3;exact ⟨I,.inl ⟨by rw [H.out];exact H1.out,by rw [H.out]<;>rfl⟩⟩
 ·have I:=RU Y F;have H1:=Z5 (Ng h1 (Ng hI2 hI3));clear c0 c1 c2 c3 c4 h1 hI2 hI3;go_wp2_with fail;go_ret3;exact ⟨I,.inr ⟨by rw [H.out];exact H1.1,a2,k2,a3,k3,rfl,H1.2.1,H1.2.2⟩⟩
def tC (P M:Int) (mod:Lz) (m:Nat) (S:ZZ) (w:ej) (e:Ending) (w':ej):Prop :=
 ∃a1 c1 a2 c2,e = ec #[.agg #[cG P,cG M,.slice a1 mod.length c1,cG m,.slice a2 S.length c2],cG 0]/\bH w.heap.size w' a1 mod.length mod /\
  bJ w.heap.size w' a2 S.length S/\SJ w w'
theorem zB (P M:Int) (am:OA) (F r:Nat) (mod:Lz) (m:Nat) (a:OA) (n c:Nat) (L:ZZ) (Q:OA) (Y N:Nat) (a':OA) (n' c':Nat) (L':ZZ) (w:ej)
  (A:Ints w am F mod) (hi:bP w a n L) (hmod':Ints w Q Y mod) (hi':bP w a' n' L') (hE:aI P M mod m L=0) (hE':aI P M mod m L'=0) (hmn:F<=1000000) :
  Calls prog 126 #[.agg #[cG P,cG M,.slice am F r,cG m,.slice a n c],.agg #[cG P,cG M,.slice Q Y N,cG m,.slice a' n' c']] w (tC P M mod m (bI (ah P M.toNat mod).ops m (L ++ L')) w):=by
 have HTw:Hid (∀V,SJ w V->Calls prog 180 #[.agg #[cG P,cG M,.slice am F r,cG m,.slice a n c],.agg #[cG P,cG M,.slice Q Y N,cG m,.slice a' n' c']] V λe w'=>e = .returned (cG 0)/\SJ V w'):=λV K =>
  JO P M am F r mod m a n c L Q Y N a' n' c' L' V (A.ai K) (hi.ai K) (hmod'.ai K) (hi'.ai K) hE hE'
 have HSu:Hid (∀V,SJ w V->Calls prog 181 #[.agg #[cG P,cG M,.slice am F r],.agg #[cG m,.slice a n c],.agg #[cG m,.slice a' n' c']] V (oa (bI (ah P M.toNat mod).ops m (L ++ L')) m V)):=λV K =>
  xN P M am F r mod m a n c L a' n' c' L' V (A.ai K) (hi.ai K) (hi'.ai K) hE hE'
 have HOf:Hid (∀V a5 I c5,SJ w V->Calls prog 120 #[.agg #[cG P,cG M,.slice am F r],.agg #[cG m,.slice a5 I c5],cG 0] V (qd P M mod m a5 I c5 V)):=λV a5 I c5 K =>
  B2 P M am F r mod m a5 I c5 V (A.ai K) hmn
 obtain ⟨S,hS⟩:∃S,bI (ah P M.toNat mod).ops m (L ++ L')=S:=⟨_,rfl⟩
 rw [hS] at HSu ⊢;have G:Hid (∀a1 c1 a2 c2 w',bH w.heap.size w' a1 mod.length mod->bJ w.heap.size w' a2 S.length S->SJ w w' ->
   tC P M mod m S w (ec #[.agg #[cG P,cG M,.slice a1 mod.length c1,cG m,.slice a2 S.length c2],cG 0]) w'):=λa1 c1 a2 c2 w' h1 h2 h3=>⟨a1,c1,a2,c2,rfl,h1,h2,h3⟩
 generalize tC P M mod m S w=Post at *;unfold oa at HSu;unfold qd at HOf;obtain ⟨q,hq⟩:∃q,S.length=q:=⟨_,rfl⟩
 obtain ⟨nm,hnm⟩:∃nm,mod.length=nm:=⟨_,rfl⟩
 rw [hq] at HSu G;rw [hnm] at HOf G;clear A hi hmod' hi' hE hE' hS hq hnm;go_enter func126,ntmps126;go_upto_region 1 with fail;obtain ⟨W,hW⟩:∃W:ej,W=((w.alloc (.cells #[cG P,cG M,.slice am F r,cG m,.slice a n c] 27)).alloc (.cells #[cG P,cG M,.slice Q Y N,cG m,.slice a' n' c'] 27)).alloc (.cells #[cG 0,cG 0,ds,cG 0,ds] 27):=⟨_,rfl⟩
 rw [<- hW];have hbW:SJ w W:=by rw [hW];exact kY _ _ _ _
 have hsW:W.heap.size=w.heap.size+3:=by rw [hW];simp
 have x0:aQ W w.heap.size [cG P,cG M,.slice am F r,cG m,.slice a n c]:=by rw [hW];exact ((RV _ _ _ rfl).alloc _).alloc _
 have y0:aQ W (w.heap.size+1) [cG P,cG M,.slice Q Y N,cG m,.slice a' n' c']:=by rw [hW];exact (RV _ _ _ (by simp)).alloc _
 have z0:aQ W (w.heap.size+1+1) [cG 0,cG 0,ds,cG 0,ds]:=by rw [hW];exact RV _ _ _ (by simp)
 clear hW;have HX:Hid (∀V,SJ W V->V.cell? ⟨w.heap.size,0,none⟩=some (cG P)/\V.cell? ⟨w.heap.size,1,none⟩=some (cG M)/\V.cell? ⟨w.heap.size,2,none⟩=some (.slice am F r)/\V.cell? ⟨w.heap.size,3,none⟩=some (cG m)/\V.cell? ⟨w.heap.size,4,none⟩=some (.slice a n c) /\
   V.cell? ⟨w.heap.size+1,0,none⟩=some (cG P)/\V.cell? ⟨w.heap.size+1,1,none⟩=some (cG M)/\V.cell? ⟨w.heap.size+1,2,none⟩=some (.slice Q Y N)/\V.cell? ⟨w.heap.size+1,3,none⟩=some (cG m)/\V.cell? ⟨w.heap.size+1,4,none⟩=some (.slice a' n' c')):=λV K=>by have x1:=x0.ai K;have y1:=y0.ai K;exact ⟨x1.cell 0 rfl,x1.cell 1 rfl,x1.cell 2 rfl,x1.cell 3 rfl,x1.cell 4 rfl,y1.cell 0 rfl,y1.cell 1 rfl,y1.cell 2 rfl,y1.cell 3 rfl,y1.cell 4 rfl⟩
 have HZ:=Z5 z0;have HbW:=Z5 hbW;have HsW:=Z5 hsW;clear x0 y0 z0 hbW hsW;obtain ⟨c0,c1,c2,c3,c4,d0,d1,d2,d3,d4⟩:=HX W (M5 _ _);go_wp2_with fail;refine (HTw W HbW.out).mono ?_;rintro e U ⟨rfl,hb1⟩;have hF1:=RU HbW.out hb1;clear c0 c1 c2 c3 c4 d0 d1 d2 d3 d4;have HS5:Hid (∀V,SJ U V->V.cell? ⟨w.heap.size,0,none⟩=some (cG P)/\V.cell? ⟨w.heap.size,1,none⟩=some (cG M)/\V.cell? ⟨w.heap.size,2,none⟩=some (.slice am F r)/\V.cell? ⟨w.heap.size,3,none⟩=some (cG m)/\V.cell? ⟨w.heap.size,4,none⟩=some (.slice a n c) /\
   V.cell? ⟨w.heap.size+1,0,none⟩=some (cG P)/\V.cell? ⟨w.heap.size+1,1,none⟩=some (cG M)/\V.cell? ⟨w.heap.size+1,2,none⟩=some (.slice Q Y N)/\V.cell? ⟨w.heap.size+1,3,none⟩=some (cG m)/\V.cell? ⟨w.heap.size+1,4,none⟩=some (.slice a' n' c')/\SJ U V):=λV K=>by obtain ⟨q0,q1,q2,q3,q4,r0,r1,r2,r3,r4⟩:=HX V (RU hb1 K);exact ⟨q0,q1,q2,q3,q4,r0,r1,r2,r3,r4,K⟩
 have HS1:=Z5 (λV (K:SJ U V)=>HSu V (RU hF1 K));have HwU:Hid (w.heap.size<=U.heap.size):=hF1.size;obtain ⟨c0,c1,c2,c3,c4,d0,d1,d2,d3,d4,_⟩:=HS5 U (M5 _ _);go_upto_region 4 with fail;go_cut [7,8] (λv7 v8 wx=>v8 = cG 0/\∃g a5 I,v7 = ea g 0/\Hid (aQ wx g [cG m,.slice a5 q I])/\Hid (bJ U.heap.size wx a5 q S)/\SJ U wx);case first =>
  go_region_held3 (λV=>V.cell? ⟨w.heap.size,0,none⟩=some (cG P)/\V.cell? ⟨w.heap.size,1,none⟩=some (cG M)/\V.cell? ⟨w.heap.size,2,none⟩=some (.slice am F r)/\V.cell? ⟨w.heap.size,3,none⟩=some (cG m)/\V.cell? ⟨w.heap.size,4,none⟩=some (.slice a n c) /\
   V.cell? ⟨w.heap.size+1,0,none⟩=some (cG P)/\V.cell? ⟨w.heap.size+1,1,none⟩=some (cG M)/\V.cell? ⟨w.heap.size+1,2,none⟩=some (.slice Q Y N)/\V.cell? ⟨w.heap.size+1,3,none⟩=some (cG m)/\V.cell? ⟨w.heap.size+1,4,none⟩=some (.slice a' n' c')/\SJ U V)
   ((refine HS5 _ ?_;first|exact (M5 _ _).drew|assumption|(go_split_ands;first|assumption|exact RU (by assumption) (aD _ _)|exact (RU (by assumption) (aD _ _)).drew|exact RU (by assumption) (by assumption)|exact Qb (Qb (by assumption) (by first|exact hB5.size|exact z.size|exact hB2.size|simp) _) (by first|exact hB5.size|exact z.size|exact hB2.size|simp) _)))
   (first
    | (go_at_call 91;((with_reducible refine (oh P M am F r m a n c _).mono ?_);rintro e w2 ⟨rfl,hb2⟩;have hB2:SJ U w2:=(by go_split_ands;exact RU (by assumption) hb2);(first|(have j:=Z5 (kC hb2))|(have j:=Z5 (jB hb2))|(have j:=Z5 (HB3.out.ai hb2))|skip)))
    | (go_at_call 91;((with_reducible refine (oh P M Q Y N m a' n' c' _).mono ?_);rintro e w3 ⟨rfl,hb3⟩;have z:SJ U w3:=(by go_split_ands;exact RU (by assumption) hb3);(first|(have HB3:=Z5 (kC hb3))|(have HB3:=Z5 (jB hb3))|(have HB3:=Z5 (j.out.ai hb3))|skip)))
    | (go_at_call 181;((with_reducible refine (HS1.out _ (by go_split_ands;assumption)).mono ?_);rintro e w5 ⟨a5,I,rfl,hM5,hb5⟩;have hB5:SJ U w5:=(by go_split_ands;exact RU (by assumption) hb5);have HM5:=Z5 hM5;clear hM5;(first|(have H:=Z5 (kC hb5))|(have H:=Z5 (jB hb5))|(have H:=Z5 (HB3.out.ai hb5))|(have H:=Z5 (j.out.ai hb5))|skip);(first|(have z0:=H.out.cell 0 rfl;have z1:=H.out.cell 1 rfl;have f0:=H.out.frozen 0;have f1:=H.out.frozen 1)|skip))))
  all_goals (
   go_wp2_with fail
   go_meet
   first
    | exact ⟨rfl,_,a5,I,rfl,RV w5 [cG m,.slice a5 q I] _ rfl,(HM5.ai (aD _ _)).mono ((by first|exact z.size|exact hB2.size|exact (RU z (aD _ _)).size|exact (RU hB2 (aD _ _)).size)),by go_split_ands;assumption⟩
    | exact ⟨rfl,_,a5,I,rfl,(H.setCell 0 (cG m)).setCell 1 (.slice a5 q I),((HM5.setCell (by first|exact HB3.1|exact j.1|simp) _).setCell (by first|exact HB3.1|exact j.1|simp) _).mono ((by first|exact z.size|exact hB2.size|exact (RU z (aD _ _)).size|exact (RU hB2 (aD _ _)).size)),by go_split_ands;assumption⟩)
 obtain ⟨rfl,g,a5,I,rfl,HB,HM,hbV⟩:=hcut;generalize wc=V at *;have hF2:=RU hF1 hbV;clear c0 c1 c2 c3 c4 d0 d1 d2 d3 d4;obtain ⟨c0,c1,c2,_⟩:=HX V (RU hb1 hbV);have g0:=HB.cell 0 rfl;have g1:=HB.cell 1 rfl;have HOV:=Z5 (HOf V a5 q I hF2);clear HOf HSu HTw;go_wp2_with fail;refine HOV.mono ?_;rintro e w6 ⟨a6,c6,rfl,hN6,hb6⟩;have Z:=HZ.ai (RU (RU hb1 hbV) hb6);have z0:=Z.cell 0 rfl;have z1:=Z.cell 1 rfl;have z2:=Z.cell 2 rfl;have z3:=Z.cell 3 rfl;have z4:=Z.cell 4 rfl;have f0:=Z.frozen 0;have f1:=Z.frozen 1;have f2:=Z.frozen 2;have f3:=Z.frozen 3;have f4:=Z.frozen 4;have hbF:=RU hF2 hb6;have hs:=HsW.out;have hs1:=hb1.size;have hs2:=hbV.size;have hM6:bJ w.heap.size (((((w6.setCell ⟨w.heap.size+1+1,0,none⟩ (cG P)).setCell ⟨w.heap.size+1+1,1,none⟩ (cG M)).setCell ⟨w.heap.size+1+1,2,none⟩ (.slice a6 nm c6)).setCell ⟨w.heap.size+1+1,3,none⟩ (cG m)).setCell ⟨w.heap.size+1+1,4,none⟩ (.slice a5 q I)) a5 q S :=
  ((((((HM.ai hb6).setCell (p:=⟨w.heap.size+1+1,0,none⟩) (by simp;omega) _).setCell (p:=⟨w.heap.size+1+1,1,none⟩) (by simp;omega) _).setCell (p:=⟨w.heap.size+1+1,2,none⟩) (by simp;omega) _).setCell (p:=⟨w.heap.size+1+1,3,none⟩) (by simp;omega) _).setCell (p:=⟨w.heap.size+1+1,4,none⟩) (by simp;omega) _).mono HwU.out
 have hFin:=G a6 c6 a5 I (((((w6.setCell ⟨w.heap.size+1+1,0,none⟩ (cG P)).setCell ⟨w.heap.size+1+1,1,none⟩ (cG M)).setCell ⟨w.heap.size+1+1,2,none⟩ (.slice a6 nm c6)).setCell ⟨w.heap.size+1+1,3,none⟩ (cG m)).setCell ⟨w.heap.size+1+1,4,none⟩ (.slice a5 q I))
  ((((((hN6.setCell (p:=⟨w.heap.size+1+1,0,none⟩) (by simp;omega) _).setCell (p:=⟨w.heap.size+1+1,1,none⟩) (by simp;omega) _).setCell (p:=⟨w.heap.size+1+1,2,none⟩) (by simp;omega) _).setCell (p:=⟨w.heap.size+1+1,3,none⟩) (by simp;omega) _).setCell (p:=⟨w.heap.size+1+1,4,none⟩) (by simp;omega) _).mono (by omega))
  hM6
  (((((hbF.setCell (p:=⟨w.heap.size+1+1,0,none⟩) (by simp;omega) _).setCell (p:=⟨w.heap.size+1+1,1,none⟩) (by simp;omega) _).setCell (p:=⟨w.heap.size+1+1,2,none⟩) (by simp;omega) _).setCell (p:=⟨w.heap.size+1+1,3,none⟩) (by simp;omega) _).setCell (p:=⟨w.heap.size+1+1,4,none⟩) (by simp;omega) _)
 have HFin:=Z5 hFin;clear hFin hM6 hN6 HOV Z g0 g1 c0 c1 c2;go_wp2_with fail;exact bodyPost_ret (v:=.tuple #[.agg #[cG P,cG M,.slice a6 nm c6,cG m,.slice a5 q I],cG 0]) (by simp [results,results126,go_sem,z0,z1,z2,z3,z4]) rfl HFin.out
section
variable {O:aL} {El:Int->Prop} {q:Nat} {g:Int}
structure JH (O:aL) (El:Int->Prop) (q:Nat) (g:Int):Prop where
 el:El g
 rng:∀x,El x ↔ 0<=x/\x<(q:Int)
 q2:2<=q
 all:∀x,El x->x ≠ 0->∃k,k<q - 1/\x=fA O g k
 inj:∀i j,i<q - 1->j<q - 1->fA O g i=fA O g j->i=j
 last:fA O g (q - 1)=1
 ne:∀k,fA O g k ≠ 0
theorem rz (F:bQ O El):∀k,fA O 1 k=1
 | 0=>rfl
 | k+1=>by show O.mul (fA O 1 k) 1=1;rw [rz F k,F.one_mul 1 F.one]
theorem oD (F:bQ O El) {x y:Int} (Z:El x) (hy:El y):∀k,fA O (O.mul x y) k=O.mul (fA O x k) (fA O y k)
 | 0=>(F.one_mul 1 F.one).symm
 | k+1=>by have a:=eK F Z k;have b:=eK F hy k;show O.mul (fA O (O.mul x y) k) (O.mul x y)=O.mul (O.mul (fA O x k) x) (O.mul (fA O y k) y);rw [oD F Z hy k,F.mul_assoc _ _ _ a b (F.cl.mul _ _ Z hy),F.mul_assoc _ _ _ a Z (F.cl.mul _ _ b hy),<- F.mul_assoc _ _ _ b Z hy,F.mul_comm _ _ b Z,F.mul_assoc _ _ _ Z b hy]
def rtTo (O:aL) (n:Nat):Nat->Lz
 | 0=>[]
 | k+1=>if fA O ((k:Int)+1) n=1 then rtTo O n k ++ [(k:Int)+1] else rtTo O n k
theorem iN {n:Nat} {x:Int}:∀ {k:Nat},x ∈ rtTo O n k ↔ 1<=x/\x<=(k:Int)/\fA O x n=1
 | 0=>by simp only [rtTo,List.not_mem_nil,false_iff];intro h;have h1:=h.1;have h2:=h.2.1;omega
 | k+1=>by
  rw [rtTo];by_cases h:fA O ((k:Int)+1) n=1
  ·rw [M7 h,NW,iN,NR];constructor
   ·rintro (⟨a,b,c⟩ | rfl)
    ·exact ⟨a,by omega,c⟩
    ·exact ⟨by omega,by omega,h⟩
   ·rintro ⟨a,b,c⟩;by_cases e:x=(k:Int)+1
    ·exact .inr e
    ·exact .inl ⟨a,by omega,c⟩
  ·rw [M8 h,iN];constructor
   ·rintro ⟨a,b,c⟩;exact ⟨a,by omega,c⟩
   ·rintro ⟨a,b,c⟩;refine ⟨a,?_,c⟩;have e:x ≠ (k:Int)+1:=λe=>h (by rw [<- e];exact c);omega
theorem kU (n:Nat):∀k,(rtTo O n k).Nodup
 | 0=>Qq
 | k+1=>by
  rw [rtTo];split
  ·unfold List.Nodup;rw [Py];refine ⟨kU n k,List.pairwise_singleton _ _,λa ha b hb e=>?_⟩;rw [NR] at hb;have:=(iN.1 ha).2.1;omega
  ·exact kU n k
theorem D4 (F:bQ O El) (h:JH O El q g) {n:Nat} (z:1<=n) (hd:n ∣ q - 1):(rtTo O n (q - 1)).length=n:=by
 obtain ⟨s,I⟩:=hd;have r:=h.q2;have G:1<=s:=Nat.one_le_iff_ne_zero.2 λe=>by rw [e,Nat.mul_zero] at I;omega
 have S:∀x ∈ rtTo O n (q - 1),El x:=λx U=>by obtain ⟨a,b,_⟩:=iN.1 U;exact (h.rng x).2 ⟨by omega,by omega⟩
 refine RM (Of λhc=>?_) ?_
 ·have Z:=F.cl.neg _ F.one;have h1:=kZ F (X:=rtTo O n (q - 1)) (a:=lF O (jC (n+1) 1 n) (jC (n+1) (O.neg 1) 0)) (kU n _) S (rp F (jK F F.one) (jK F Z)) (λx U=>by have Y:=S x U;rw [rh F Y (by simp [jC]) (jK F F.one) (jK F Z),ox F Y F.one _ _ (by omega),ox F Y Z _ _ (by omega),(iN.1 U).2.2];show O.add (O.mul 1 1) (O.mul (O.neg 1) 1)=0;rw [F.one_mul 1 F.one,F.iH Z,F.add_neg 1 F.one]) (by unfold lF;rw [Ov];simp [jC];omega);have h2:=h1 (nth (lF O (jC (n+1) 1 n) (jC (n+1) (O.neg 1) 0)) n) (aG (by unfold lF;rw [Ov];simp [jC]));rw [sH (by simp [jC]) (by simp [jC]),oK (by omega),oK (by omega),M7 rfl,M8 (by omega),F.add_zero 1 F.one] at h2;exact absurd h2 (by decide)
 ·have Q:∀j,j<n->j * s<q - 1:=λj H=>by rw [I];exact Nat.mul_lt_mul_of_pos_right H (by omega)
  have N:((List.range n).map λj=>fA O g (j * s)).Nodup:=by unfold List.Nodup;rw [OH];refine List.nodup_range.imp_of_mem λ{a b} ha hb hne e=>hne ?_;have h3:=h.inj _ _ (Q a (List.mem_range.1 ha)) (Q b (List.mem_range.1 hb)) e;exact Nat.eq_of_mul_eq_mul_right (by omega) h3
  have h2:=iw (T:=rtTo O n (q - 1)) N λx U=>by obtain ⟨j,H,rfl⟩:=List.mem_map.1 U;have K:=eK F h.el (j * s);have A:=(h.rng _).1 K;have hne:=h.ne (j * s);refine iN.2 ⟨by omega,by omega,?_⟩;rw [<- o6 F h.el,show j * s * n=(q - 1) * j by rw [I,Nat.mul_assoc,Oz s n,Oz],o6 F h.el,h.last,rz F]
  simpa using h2
def fD (O:aL) (U:Lz) (N:Nat):Nat->Lz
 | 0=>[]
 | k+1=>if (fD O U N k).length<N/\¬ ((k:Int)+1) ∈ fD O U N k then fD O U N k ++ bF (U.map (O.mul ((k:Int)+1))) else fD O U N k
structure Mz (O:aL) (El:Int->Prop) (U:Lz) (s:Nat) (X:Lz):Prop where
 nd:X.Nodup
 el:∀y ∈ X,El y/\y ≠ 0
 cl:∀y ∈ X,∀u ∈ U,O.mul y u ∈ X
 Gy:∃c,X.length=s * c/\∀j t,j<c->t<s->fA O (nth X (s * j+t)) s=fA O (nth X (s * j)) s
theorem vy {a b:Lz} {i:Nat} (h:i<a.length):nth (a ++ b) i=nth a i:=by unfold nth;rw [Na,Na,NA h]
theorem vg {a b:Lz} {i:Nat}:nth (a ++ b) (a.length+i)=nth b i:=by unfold nth;rw [Na,Na,N4 (by omega),Nat.add_sub_cancel_left]
theorem K1 (F:bQ O El) {U X:Lz} {s:Nat} (hs:1<=s) (r:U.Nodup) (hUl:U.length=s) (z:∀u,u ∈ U ↔ El u/\u ≠ 0/\fA O u s=1) (h:Mz O El U s X) {x:Int} (S:El x) (h0:x ≠ 0) (hn:¬ x ∈ X) :
  Mz O El U s (X ++ bF (U.map (O.mul x))):=by
 have Z:∀u ∈ U,El u/\u ≠ 0/\fA O u s=1:=λu hu=>(z u).1 hu;have hinv:∀u ∈ U,O.inv u ∈ U/\O.mul u (O.inv u)=1:=λu hu=>by
  obtain ⟨a,b,c⟩:=Z u hu;have hi:=F.cl.inv u a b;have hm:=F.mul_inv u a b;refine ⟨(z _).2 ⟨hi,λe=>?_,?_⟩,hm⟩
  ·rw [e,F.df a] at hm;exact absurd hm (by decide)
  ·have h1:=oD F a hi s;rw [hm,rz F,c,F.one_mul _ (eK F hi s)] at h1;exact h1.symm
 have Y:∀y,y ∈ bF (U.map (O.mul x)) ↔ ∃u ∈ U,O.mul x u=y:=λy=>by rw [(cB _).mem_iff,OW]
 have hmul:∀ {u v:Int},El u->El v->u ≠ 0->v ≠ 0->O.mul u v ≠ 0:=λhu K h1 h2 e=>h2 (F.nE hu K h1 e);refine ⟨?_,λy hy=>?_,λy hy u hu=>?_,?_⟩
 ·unfold List.Nodup;rw [Py];refine ⟨h.nd,?_,λa ha b hb e=>?_⟩
  ·refine ((cB (U.map (O.mul x))).nodup_iff).2 ?_;unfold List.Nodup;rw [OH];refine r.imp_of_mem λ{u v} hu K hne e=>hne ?_;obtain ⟨a1,a2,_⟩:=Z u hu;obtain ⟨N,_,_⟩:=Z v K;have e1:O.mul (O.inv x) (O.mul x u)=O.mul (O.inv x) (O.mul x v):=by rw [e]
   have hi:=F.cl.inv x S h0;rw [<- F.mul_assoc _ _ _ hi S a1,<- F.mul_assoc _ _ _ hi S N,F.mul_comm _ _ hi S,F.mul_inv x S h0,F.one_mul _ a1,F.one_mul _ N] at e1;exact e1
  ·subst e;obtain ⟨u,hu,e⟩:=(Y a).1 hb;obtain ⟨H,hi2⟩:=hinv u hu;obtain ⟨u1,_,_⟩:=Z u hu;obtain ⟨i1,_,_⟩:=Z _ H;have h1:=h.cl a ha _ H;rw [<- e,F.mul_assoc _ _ _ S u1 i1,hi2,F.iH S] at h1;exact hn h1
 ·rcases List.mem_append.1 hy with hy | hy
  ·exact h.el y hy
  ·obtain ⟨u,hu,rfl⟩:=(Y y).1 hy;obtain ⟨a1,a2,_⟩:=Z u hu;exact ⟨F.cl.mul _ _ S a1,hmul S a1 h0 a2⟩
 ·rcases List.mem_append.1 hy with hy | hy
  ·exact List.mem_append.2 (.inl (h.cl y hy u hu))
  ·obtain ⟨v,K,rfl⟩:=(Y y).1 hy;obtain ⟨a1,a2,a3⟩:=Z u hu;obtain ⟨N,b2,b3⟩:=Z v K;refine List.mem_append.2 (.inr ((Y _).2 ⟨O.mul v u,(z _).2 ⟨F.cl.mul _ _ N a1,hmul N a1 b2 a2,?_⟩,?_⟩))
   ·rw [oD F N a1,b3,a3,F.one_mul 1 F.one]
   ·exact (F.mul_assoc _ _ _ S N a1).symm
 ·obtain ⟨c,A,hb⟩:=h.Gy;have hl:(bF (U.map (O.mul x))).length=s:=by rw [fb,No,hUl]
  refine ⟨c+1,by rw [Ni,hl,A,PF],λj t hj G=>?_⟩;have I:∀t,t<s->fA O (nth (bF (U.map (O.mul x))) t) s=fA O x s:=λt G=>by obtain ⟨u,hu,e⟩:=(Y _).1 (aG (l:=bF (U.map (O.mul x))) (i:=t) (by rw [hl];exact G));obtain ⟨a1,_,a3⟩:=Z u hu;rw [<- e,oD F S a1,a3,F.iH (eK F S s)]
  rcases NU j c with Q | Q
  ·have hle:s * j+s<=s * c:=by rw [<- PF];exact N7 s Q
   rw [vy (by rw [A];omega),vy (by rw [A];omega)];exact hb j t Q G
  ·obtain rfl:j=c:=by omega
   rw [<- A,vg,I t G];have e0:nth (X ++ bF (U.map (O.mul x))) X.length=nth (bF (U.map (O.mul x))) 0:=vg (i:=0);rw [e0,I 0 (by omega)]
theorem I7 (F:bQ O El) (h:JH O El q g) {s c:Nat} (hs:1<=s) (hd:s ∣ q - 1) (hc:s * c<=q - 1) :
  Mz O El (rtTo O s (q - 1)) s (fD O (rtTo O s (q - 1)) (s * c) (q - 1))/\(fD O (rtTo O s (q - 1)) (s * c) (q - 1)).length=s * c:=by
 have hq:=h.q2;obtain ⟨U,Y⟩:∃U,rtTo O s (q - 1)=U:=⟨_,rfl⟩
 have K:U.length=s:=by rw [<- Y];exact D4 F h hs hd
 have r:U.Nodup:=by rw [<- Y];exact kU s _
 have hU:∀u,u ∈ U ↔ El u/\u ≠ 0/\fA O u s=1:=λu=>by
  rw [<- Y,iN];constructor
  ·rintro ⟨a,b,e⟩;exact ⟨(h.rng u).2 ⟨by omega,by omega⟩,by omega,e⟩
  ·rintro ⟨a,b,e⟩;have:=(h.rng u).1 a;exact ⟨by omega,by omega,e⟩
 rw [Y];have h1U:(1:Int) ∈ U:=(hU 1).2 ⟨F.one,by decide,rz F s⟩;have key:∀k,k<=q - 1->Mz O El U s (fD O U (s * c) k)/\(fD O U (s * c) k).length<=s * c/\((∀j:Nat,j<k->((j:Int)+1) ∈ fD O U (s * c) k)\/(fD O U (s * c) k).length=s * c):=λk=>by
  induction k with
  | zero=>intro _;exact ⟨⟨Qq,by simp [fD],by simp [fD],0,by simp [fD],λj t N=>by omega⟩,by simp [fD],.inl λj N=>by omega⟩
  | succ k ih =>
   intro hk
   obtain ⟨Q,i2,I⟩:=ih (by omega)
   rw [fD]
   by_cases hcnd:(fD O U (s * c) k).length<s * c/\¬ ((k:Int)+1) ∈ fD O U (s * c) k
   ·rw [M7 hcnd]
    have S:El ((k:Int)+1):=(h.rng _).2 ⟨by omega,by omega⟩
    have H:((k:Int)+1) ≠ 0:=by omega
    have z:=K1 F hs r K hU Q S H hcnd.2
    obtain ⟨c',A,_⟩:=Q.Gy
    have hl:(bF (U.map (O.mul ((k:Int)+1)))).length=s:=by rw [fb,No,K]
    have hcc:c'<c:=by refine Of λhn=>?_;have h1:=N7 s (show c<=c' by omega);have h2:=hcnd.1;omega
    have hle:s * c'+s<=s * c:=by rw [<- PF];exact N7 s hcc
    refine ⟨z,by rw [Ni,hl,A];exact hle,.inl λj N=>?_⟩
    rcases NU j k with Z | Z
    ·rcases I with h3 | h3
     ·exact List.mem_append.2 (.inl (h3 j Z))
     ·exact absurd h3 (by have:=hcnd.1;omega)
    ·obtain rfl:j=k:=by omega
     refine List.mem_append.2 (.inr ((cB _).mem_iff.2 (List.mem_map.2 ⟨1,h1U,F.iH S⟩)))
   ·rw [M8 hcnd]
    refine ⟨Q,i2,?_⟩
    by_cases hlt:(fD O U (s * c) k).length<s * c
    ·have G:((k:Int)+1) ∈ fD O U (s * c) k:=Of λhn=>hcnd ⟨hlt,hn⟩
     rcases I with h3 | h3
     ·refine .inl λj N=>?_
      rcases NU j k with Z | Z
      ·exact h3 j Z
      ·obtain rfl:j=k:=by omega
       exact G
     ·exact .inr h3
    ·exact .inr (by omega)
 obtain ⟨Q,i2,I⟩:=key (q - 1) (M4 _);refine ⟨Q,?_⟩;rcases I with h3 | h3
 ·have hnd:((List.range (q - 1)).map λj:Nat=>(j:Int)+1).Nodup:=by unfold List.Nodup;rw [OH];exact Qv (λhne e=>hne (by omega)) Rz
  have h4:=iw (T:=fD O U (s * c) (q - 1)) hnd λx hx=>by obtain ⟨j,N,rfl⟩:=List.mem_map.1 hx;exact h3 j (List.mem_range.1 N)
  rw [No,OI] at h4;omega
 ·exact h3
def gv (r j:Nat):Nat:=j+j / r
theorem KE {r i j:Nat} (h:i<j):gv r i<gv r j:=by unfold gv;have:=Ra (c:=r) (Nat.le_of_lt h);omega
theorem Lu {r:Nat} (Z:1<=r) (j:Nat):gv r j=(r+1) * (j / r)+j % r:=by unfold gv;have h:=Po j r;rw [PI];omega
theorem KZ {r:Nat} (Z:1<=r) (j:Nat):gv r j % (r+1)<r:=by have h1:=O8 j (show r > 0 by omega);rw [Lu Z,Nat.mul_add_mod,Qa (by omega)];exact h1
end
theorem Au {G:bX} {l:Lz} (h:fC G.q l=true):G.vn l:=λx Z=>by have h1:=List.all_eq_true.1 h x Z;simpa [jx,bX.El] using h1
theorem CU {w:ej} {b:Nat} {G:bX} (q U:Nat) (x:Int) (S:w.cell? ⟨q,0,none⟩=some (ea U 0)) (Q:w.cell? ⟨U,0,none⟩=some (ea b 0)) (h:dg w b G) :
  Calls prog 183 #[cG x,ea q 0] w λe w'=>e = .returned (.bool (!(decide (0<=x) && decide (x<G.q))))/\w=w':=by
 go_enter func183,ntmps183;go_wp2_with fail;refine (Mc x h).mono ?_;rintro e w' ⟨rfl,rfl⟩;obtain ⟨z,Z⟩:∃z,(decide (0<=x) && decide (x<G.q))=z:=⟨_,rfl⟩
 have Y:=Z5 Z;rw [Z];clear Z;cases z
 ·go_wp2_with fail;go_ret;exact ⟨ba (by rw [Y.out];rfl),rfl⟩
 ·go_wp2_with fail;go_ret;exact ⟨ba (by rw [Y.out];rfl),rfl⟩
theorem wX (p:Int->Bool) (q:Nat) (a:OA) (n c:Nat) (l:Lz) (w:ej) (hi:Ints w a n l) (H:∀k,k<n->Calls prog 183 #[cG (nth l k),ea q 0] w λe w'=>e = .returned (.bool (p (nth l k)))/\w=w') :
  Calls prog 111 #[.slice a n c,.func (.func 183) #[] #[ea q 0]] w λe w'=>∃z:Int,e = .returned (cG z)/\(0<=z ↔ l.any p=true)/\w=w':=by
 have A:=hi.pl;have S:=hi.max;have r:=Z5 H;have F:=Z5 hi.len;unfold maxLen at S;clear H;go_enter func111,ntmps111;go_wp2_with fail;go_loop [8] (λI=>∃k:Nat,k<=n/\I = cG k/\Hid (∀j,j<k->p (nth l j)=false)) (λI=>n - (intOf I).toNat);case atStart=>exact ⟨0,Nb _,rfl,λj K=>by omega⟩
 case round =>
  obtain ⟨k,hk,rfl,Y⟩:=hrel
  by_cases U:k<n
  ·have ck:=hi.cell k U
   have Z:=r k U
   obtain ⟨z,Q⟩:∃z,p (nth l k)=z:=⟨_,rfl⟩
   rw [Q] at Z
   have G:=Z5 Z
   cases z
   ·have Hn:Hid (∀j,j<k+1->p (nth l j)=false):=λj K=>by
     by_cases e:j=k
     ·subst e;exact Q
     ·exact Y j (by omega)
    clear Q Z Y
    go_wp2_with fail
    refine G.mono ?_
    rintro e w' ⟨rfl,rfl⟩
    go_wp2_with fail
    go_round
    case rel=>exact ⟨k+1,by omega,by go_num,Hn⟩
    case measure=>simp [intOf]<;>omega
   ·have N:Hid (l.any p=true):=by show _=_;rw [PG];exact ⟨nth l k,aG (by rw [F.out];exact U),Q⟩
    clear Q Z Y
    go_wp2_with fail
    refine G.mono ?_
    rintro e w' ⟨rfl,rfl⟩
    go_wp2_with fail
    go_ret
    exact ⟨k,rfl,⟨λ_=>by first|exact N.out|exact List.any_eq_true.1 N.out,λ_=>Pj _⟩,rfl⟩
  ·obtain rfl:k=n:=by omega
   have N:Hid (l.any p=false):=by show _=_;rw [P0];intro x hx;obtain ⟨j,K,rfl⟩:=List.mem_iff_getElem.1 hx;have:=Y j (by rw [<- F.out];exact K);rw [an K] at this;rw [this];decide
   go_wp2_with fail
   go_ret
   exact ⟨-1,rfl,⟨λh=>absurd h (by omega),λh=>by have h2:l.any p=true:=(by first|exact h|exact List.any_eq_true.2 h);rw [N.out] at h2;exact absurd h2 (by decide)⟩,rfl⟩
theorem q8 (p:Int->Bool) (q:Nat) (a:OA) (n c:Nat) (l:Lz) (w:ej) (hi:Ints w a n l) (S:∀k,k<n->Calls prog 183 #[cG (nth l k),ea q 0] w λe w'=>e = .returned (.bool (p (nth l k)))/\w=w') :
  Calls prog 53 #[.slice a n c,.func (.func 183) #[] #[ea q 0]] w λe w'=>e = .returned (.bool (l.any p))/\w=w':=by
 have Q:=Z5 (wX p q a n c l w hi S);clear S;go_enter func53,ntmps53;go_wp2_with fail;refine Q.mono ?_;rintro e w' ⟨z,rfl,Z,rfl⟩;by_cases h0:0<=z
 ·have Y:Hid (l.any p=true):=Z.1 h0;have U:decide (0<=z)=true:=by simpa using h0
  clear Z h0;go_wp2_with fail;go_ret;exact ⟨ba Y.symm,rfl⟩
 ·have Y:Hid (l.any p=false):=by
   show _=_;cases h:l.any p
   ·rfl
   ·exact absurd (Z.2 h) h0
  have U:decide (0<=z)=false:=by simpa using h0
  clear Z h0;go_wp2_with fail;go_ret;exact ⟨ba Y.symm,rfl⟩
def gX (P M:Int) (mod:Lz) (N:Int) (L:ZZ) (y:Lz) (W:Int):Int :=
 if aI P M mod N L=0 then (if (y.length:Int) ≠ N then 4 else if fC (ah P M.toNat mod).q y=false then 2 else if W<0\/N<W then 6 else 0) else aI P M mod N L
def lR (P M:Int) (am:OA) (U S:Nat) (mod:Lz) (N:Int) (a:OA) (n c:Nat) (L:ZZ) (Y:OA) (Q cy:Nat) (y:Lz) (W:Int) (w:ej) (e:Ending) (w':ej):Prop :=
 SJ w w'/\((gX P M mod N L y W ≠ 0/\e = ec #[.pointer none,cG (gX P M mod N L y W)]) \/
 (gX P M mod N L y W=0/\∃Z,e = ec #[ea Z 0,cG 0]/\J4 P M am U S mod N.toNat a n c L Y Q cy ⟨0,W.toNat,true,y⟩ w w' Z))
theorem qm (P M:Int) (am:OA) (mn cm:Nat) (mod:Lz) (N:Int) (a:OA) (n c:Nat) (L:ZZ) (z:OA) (H cy:Nat) (y:Lz) (W:Int) (w:ej) (hmod:Ints w am mn mod) (hi:bP w a n L) (hy:Ints w z H y) :
  Calls prog 127 #[.agg #[cG P,cG M,.slice am mn cm,cG N,.slice a n c],.slice z H cy,cG W] w (lR P M am mn cm mod N a n c L z H cy y W w):=by
 have Hil:=Z5 hi.len;have Hyl:=Z5 hy.len;go_enter func127,ntmps127;go_wp2_with fail;obtain ⟨U,hU⟩:∃U:ej,U=w.alloc (.cells #[cG P,cG M,.slice am mn cm,cG N,.slice a n c] 27):=⟨_,rfl⟩
 rw [<- hU];have K:SJ w U:=by rw [hU];exact aD _ _
 have x0:aQ U w.heap.size [cG P,cG M,.slice am mn cm,cG N,.slice a n c]:=by rw [hU];exact RV _ _ _ rfl
 have HX:=Z5 x0;clear hU x0;refine (Bh P M am mn cm mod N a n c L W U (hmod.ai K) (hi.ai K)).mono ?_;rintro e r ⟨hb1,⟨hE,rfl⟩ | ⟨hE,b,S,rfl,G,hG,hb3,hB⟩⟩
 ·have HE:Hid (gX P M mod N L y W=aI P M mod N L):=M8 hE;have Hne:=Z5 hE;have hE1:(aI P M mod N L == 0)=false:=by simpa using hE
  have hE2:(aI P M mod N L != 0)=true:=by simpa using hE
  have I:=RU (RU K hb1) (aD r (.cells #[.pointer none] 143));clear hE;go_wp2_with fail;go_ret2;exact ⟨I,.inl ⟨by rw [HE.out];exact Hne.out,by rw [HE.out];rfl⟩⟩
 ·have HE:Hid (gX P M mod N L y W=if (H:Int) ≠ N then 4 else if fC (ah P M.toNat mod).q y=false then 2 else if W<0\/N<W then 6 else 0):=by show _=_;rw [gX,M7 hE,Hyl.out]
  have Hrw:=Z5 (eh hE);have j:=aD r (.cells #[ea S.heap.size 0] 143);have I:=RU (RU K hb1) j;have xq:(r.alloc (.cells #[ea S.heap.size 0] 143)).cell? ⟨r.heap.size,0,none⟩=some (ea S.heap.size 0):=aF _ _ _ rfl 0;have hB4:=hB.ai j;have F:=RU hb3 j;have hG4:=hG.ai F;have x4:=(HX.ai hb1).ai j;have c3:=x4.cell 3 rfl;have p0:=hB4.cell 0 rfl;have hy4:=(hy.ai K).ai (RU hb1 j);have A:=Z5 (q8 (λx=>!(decide (0<=x) && decide (x<(ah P M.toNat mod).q))) r.heap.size z H cy y _ hy4 λk hk=>CU r.heap.size S.heap.size (nth y k) xq p0 hG4);rw [xX] at A;have HB:=Z5 hB4;have HB1:=Z5 hB;have hmf:∀(fn:Fn) (first cap:Array Value) (w:ej),(Instr.makeFunc fn first cap).run prog w = .ok (.func fn first cap) w:=λ_ _ _ _=>rfl;have hsw1:S.heap.size ≠ r.heap.size:=by have:=hB.1;omega
  clear hB p0 hE hy4 hG4;by_cases h1:(H:Int) ≠ N
  ·have Q:Hid (gX P M mod N L y W=4):=by show _=_;rw [HE.out,M7 h1]
   have d1:((H:Int) != N)=true:=by simpa using h1
   clear h1;go_wp2_with fail;go_ret2;exact ⟨I,.inl ⟨by rw [Q.out];decide,by rw [Q.out];rfl⟩⟩
  have hny:(H:Int)=N:=Classical.not_not.1 h1;have d1:((H:Int) != N)=false:=by simp [hny]
  have HE1:Hid (gX P M mod N L y W=if fC (ah P M.toNat mod).q y=false then 2 else if W<0\/N<W then 6 else 0):=by show _=_;rw [HE.out,M8 h1]
  have Hny:=Z5 hny;clear h1 hny;obtain ⟨ze,hze⟩:∃ze,fC (ah P M.toNat mod).q y=ze:=⟨_,rfl⟩
  rw [hze] at A HE1;have Hze:=Z5 hze;clear hze;cases ze
  ·have Q:Hid (gX P M mod N L y W=2):=by show _=_;rw [HE1.out,M7 rfl]
   go_wp2_with fail;refine A.mono ?_;rintro e w5 ⟨rfl,rfl⟩;go_wp2_with fail;go_ret2;exact ⟨I,.inl ⟨by rw [Q.out];decide,by rw [Q.out];rfl⟩⟩
  have HE3:Hid (gX P M mod N L y W=if W<0\/N<W then 6 else 0):=by show _=_;rw [HE1.out,M8 (by decide)]
  by_cases h3:W<0
  ·have Q:Hid (gX P M mod N L y W=6):=by show _=_;rw [HE3.out,M7 (.inl h3)]
   have d3:decide (W<0)=true:=by simpa using h3
   clear h3;go_wp2_with fail;refine A.mono ?_;rintro e w5 ⟨rfl,rfl⟩;go_wp2_with fail;go_ret2;exact ⟨I,.inl ⟨by rw [Q.out];decide,by rw [Q.out];rfl⟩⟩
  have d3:decide (W<0)=false:=by simpa using h3
  by_cases h4:N<W
  ·have Q:Hid (gX P M mod N L y W=6):=by show _=_;rw [HE3.out,M7 (.inr h4)]
   have d4:decide (N<W)=true:=by simpa using h4
   clear h3 h4;go_wp2_with fail;refine A.mono ?_;rintro e w5 ⟨rfl,rfl⟩;go_wp2_with fail;go_ret2;exact ⟨I,.inl ⟨by rw [Q.out];decide,by rw [Q.out];rfl⟩⟩
  have d4:decide (N<W)=false:=by simpa using h4
  have Q:Hid (gX P M mod N L y W=0):=by
   show _=_;rw [HE3.out,M8];rintro (h | h)
   ·exact h3 h
   ·exact h4 h
  obtain ⟨m,hm,hm1,hm2,hLl,hRw⟩:=Hrw.out;have hPE0:Hid (Ce S b (ah P M.toNat mod) a n L N.toNat z H ⟨0,W.toNat,true,y⟩):=by
   have hn256:n<=1000000:=by rw [<- Hil.out];omega
   have hNm:N.toNat=H:=by have:=Hny.out;omega
   have hyw2:=(hy.ai K).ai G;exact { g:=hG,lL:=(hi.ai K).ai G,rws:=by rw [hm,M9];exact hRw,n6:=hn256,m6:=by omega,w6:=by show W.toNat<=64;omega,yl:=λ_=>hNm.symm,y:=λ_=>by rw [hNm];exact hyw2,ye:=λ_=>Au Hze.out }
  have Hnn:=Z5 (Ng (show 0<=N by omega) (show 0<=W by omega));go_wp2_with fail;refine A.mono ?_;rintro e w5 ⟨rfl,rfl⟩;clear A;go_wp2_with fail;obtain ⟨Y,hY⟩:∃Y:ej,Y=r.alloc (.cells #[ea S.heap.size 0] 143):=⟨_,rfl⟩
  rw [<- hY] at HB xq I F ⊢;have HF:Hid (∀Z:ej,Z=((Y.setCell ⟨S.heap.size,6,none⟩ (.slice z H cy)).setCell ⟨S.heap.size,7,none⟩ (.bool true)).drew->lR P M am mn cm mod N a n c L z H cy y W w (ec #[ea S.heap.size 0,cG 0]) Z):=λZ hZ=>by rw [hZ];have h5:=((HB.setCell 6 (.slice z H cy)).setCell 7 (.bool true)).ai (M5 _ _).drew;refine ⟨((I.setCell (p:=⟨S.heap.size,6,none⟩) (Np K.size G.size) _).setCell (p:=⟨S.heap.size,7,none⟩) (Np K.size G.size) _).drew,.inr ⟨Q,S.heap.size,rfl,b,S,rfl,RU K G,hPE0,((F.setCell (by simp) _).setCell (by simp) _).drew,?_⟩⟩;rw [mT];dsimp only;rw [OV Hnn.1,OV Hnn.2];exact h5
  have HF2:Hid (∀Z:ej,Z=((Y.setCell ⟨S.heap.size,6,none⟩ (.slice z H cy)).setCell ⟨S.heap.size,7,none⟩ (.bool true))->lR P M am mn cm mod N a n c L z H cy y W w (ec #[ea S.heap.size 0,cG 0]) Z):=λZ hZ=>by
   rw [hZ];have h5:=((HB.setCell 6 (.slice z H cy)).setCell 7 (.bool true))
   refine ⟨((I.setCell (p:=⟨S.heap.size,6,none⟩) (Np K.size G.size) _).setCell (p:=⟨S.heap.size,7,none⟩) (Np K.size G.size) _),.inr ⟨Q,S.heap.size,rfl,b,S,rfl,RU K G,hPE0,((F.setCell (by simp) _).setCell (by simp) _),?_⟩⟩;rw [mT];dsimp only;rw [OV Hnn.1,OV Hnn.2];exact h5
  have f6:=HB.frozen 6;have q6:=HB.cell 6 rfl;have f7:=HB.frozen 7;have q7:=HB.cell 7 rfl;have s7:(Y.setCell ⟨S.heap.size,6,none⟩ (.slice z H cy)).cell? ⟨S.heap.size,7,none⟩=some (.bool false):=(HB.setCell 6 (.slice z H cy)).cell 7 rfl;have s6:(Y.setCell ⟨S.heap.size,7,none⟩ (.bool true)).cell? ⟨S.heap.size,6,none⟩=some ds:=(HB.setCell 7 (.bool true)).cell 6 rfl;have x6:(Y.setCell ⟨S.heap.size,6,none⟩ (.slice z H cy)).cell? ⟨r.heap.size,0,none⟩=some (ea S.heap.size 0):=by rw [Nr _ _ _ _ (by simp<;>omega)];exact xq
  have x7:(Y.setCell ⟨S.heap.size,7,none⟩ (.bool true)).cell? ⟨r.heap.size,0,none⟩=some (ea S.heap.size 0):=by rw [Nr _ _ _ _ (by simp<;>omega)];exact xq
  have x67:((Y.setCell ⟨S.heap.size,6,none⟩ (.slice z H cy)).setCell ⟨S.heap.size,7,none⟩ (.bool true)).cell? ⟨r.heap.size,0,none⟩=some (ea S.heap.size 0):=by rw [Nr _ _ _ _ (by simp<;>omega)];exact x6
  clear h3 h4 hm hm1 hm2 hY I F;go_region;all_goals (
   go_wp2_with fail
   go_ret2
   first|exact HF _ rfl|exact HF2 _ rfl)
def sG (P M:Int) (mod:Lz) (N:Int) (L:ZZ) (y:Lz) (W:Int) (Z:ZZ):Int :=
 if gX P M mod N L y W=0 then provS (ah P M.toNat mod).ops L N.toNat ⟨0,W.toNat,true,y⟩ Z else gX P M mod N L y W
def me (P M:Int) (mod:Lz) (N:Int) (L:ZZ) (y:Lz) (W:Int):Int × ZZ :=
 if gX P M mod N L y W=0 then vW (ah P M.toNat mod).ops L N.toNat ⟨0,W.toNat,true,y⟩ else (gX P M mod N L y W,[])
theorem pG (P M:Int) (am:OA) (A cm:Nat) (mod:Lz) (N:Int) (a:OA) (n c:Nat) (L:ZZ) (ay:OA) (ny cy:Nat) (y:Lz) (W:Int) (I:OA) (r j:Nat) (Q:ZZ) (w:ej)
  (F:Ints w am A mod) (hi:bP w a n L) (hy:Ints w ay ny y) (hts:bP w I r Q) :
  Calls prog 82 #[.agg #[cG P,cG M,.slice am A cm,cG N,.slice a n c],.slice ay ny cy,cG W,.agg #[.slice I r j]] w λe w'=>e = .returned (cG (sG P M mod N L y W Q))/\SJ w w':=by
 go_enter func82,ntmps82;go_wp2_with fail;obtain ⟨U,hU⟩:∃U:ej,U=(w.alloc (.cells #[cG P,cG M,.slice am A cm,cG N,.slice a n c] 27)).alloc (.cells #[.slice I r j] 103):=⟨_,rfl⟩
 rw [<- hU];have Z:SJ w U:=by rw [hU];exact dP _ _ _
 have x0:aQ U (w.heap.size+1) [.slice I r j]:=by rw [hU];exact RV _ _ _ (by simp)
 have HX:=Z5 x0;clear hU x0;refine (qm P M am A cm mod N a n c L ay ny cy y W U (F.ai Z) (hi.ai Z) (hy.ai Z)).mono ?_;rintro e w1 ⟨G,⟨Y,rfl⟩ | ⟨Y,pb,rfl,hCl⟩⟩
 ·have HE:Hid (sG P M mod N L y W Q=gX P M mod N L y W):=M8 Y;have hE1:(gX P M mod N L y W == 0)=false:=by simpa using Y
  have hE2:(gX P M mod N L y W != 0)=true:=by simpa using Y
  have S:=RU Z G;clear Y;go_wp2_with fail;go_ret;exact ⟨by rw [HE.out];rfl,S⟩
 ·have HE:Hid (sG P M mod N L y W Q=provS (ah P M.toNat mod).ops L N.toNat ⟨0,W.toNat,true,y⟩ Q):=M7 Y;have x1:=HX.ai G;have c0:=x1.cell 0 rfl;obtain ⟨b,w2,rfl,H,z,hb3,hB⟩:=hCl;have HPr:=Z5 (wJ w2.heap.size P M am A cm c cy I r j Q z ((hts.ai Z).ai H) (M4 _) hb3 hB);have K:=RU Z H;clear x1 hB z Y;go_wp2_with fail;refine HPr.mono ?_;rintro e w3 ⟨rfl,hb4⟩;have S:=RU K hb4;go_wp2_with fail;go_ret;exact ⟨by rw [HE.out];rfl,S⟩
theorem pX (P M:Int) (am:OA) (mn cm:Nat) (mod:Lz) (N:Int) (a:OA) (n c:Nat) (L:ZZ) (ay:OA) (ny cy:Nat) (y:Lz) (W:Int) (w:ej)
  (j:Ints w am mn mod) (hi:bP w a n L) (hy:Ints w ay ny y) :
  Calls prog 75 #[.agg #[cG P,cG M,.slice am mn cm,cG N,.slice a n c],.slice ay ny cy,cG W] w (pT (me P M mod N L y W) w):=by
 obtain ⟨V,hV⟩:∃V,me P M mod N L y W=V:=⟨_,rfl⟩
 rw [hV];have HV:=Z5 hV;clear hV;go_enter func75,ntmps75;go_wp2_with fail;obtain ⟨U,hU⟩:∃U:ej,U=(w.alloc (.cells #[cG P,cG M,.slice am mn cm,cG N,.slice a n c] 27)).alloc (.cells #[ds] 103):=⟨_,rfl⟩
 rw [<- hU];have Y:SJ w U:=by rw [hU];exact dP _ _ _
 have hsU:U.heap.size=w.heap.size+2:=by rw [hU];simp
 have x0:aQ U (w.heap.size+1) [ds]:=by rw [hU];exact RV _ _ _ (by simp)
 have HX:=Z5 x0;clear hU x0;refine (qm P M am mn cm mod N a n c L ay ny cy y W U (j.ai Y) (hi.ai Y) (hy.ai Y)).mono ?_;rintro e w1 ⟨G,⟨K,rfl⟩ | ⟨K,pb,rfl,hCl⟩⟩
 ·have HE:Hid (V=(gX P M mod N L y W,[])):=by show _=_;rw [<- HV.out];exact M8 K
  have hE1:(gX P M mod N L y W == 0)=false:=by simpa using K
  have hE2:(gX P M mod N L y W != 0)=true:=by simpa using K
  have Q:=Z5 K;have z:=HX.ai G;have z0:=z.cell 0 rfl;have f0:=z.frozen 0;have F:=Z5 (λv:Value=>(RU Y G).setCell (p:=⟨w.heap.size+1,0,none⟩) (by simp) v);clear K z;generalize gX P M mod N L y W=er at *;go_wp2_with fail;have z1:(w1.setCell ⟨w.heap.size+1,0,none⟩ ds).cell? ⟨w.heap.size+1,0,none⟩=some ds:=Ns _ _ _ z0;exact bodyPost_ret (v:=.tuple #[.agg #[ds],cG er]) (by simp [results,results75,go_sem,z0,z1]) rfl ⟨F _,.inl ⟨by rw [HE.out];exact Q.out,by rw [HE.out]⟩⟩
 ·have HE:Hid (vW (ah P M.toNat mod).ops L N.toNat ⟨0,W.toNat,true,y⟩=V):=by show _=_;rw [<- HV.out];exact (M7 K).symm
  have z:=HX.ai G;obtain ⟨b,w2,rfl,A,hPE,hb3,hB⟩:=hCl;have I:=CP w2.heap.size P M am mn cm c cy hPE (M4 _) hb3 hB;rw [HE.out] at I;have HTr:=Z5 I;have Z:=RU Y A;have x2:=HX.ai A;have hs2:w.heap.size+1<w2.heap.size:=x2.1;clear z hB hPE K I;go_wp2_with fail;refine HTr.mono ?_;rintro e w3 ⟨S,⟨r,rfl⟩ | ⟨r,ar,cr,R,rfl,hO⟩⟩
  ·have H:=x2.ai S;have z0:=H.cell 0 rfl;have f0:=H.frozen 0;have F:=Z5 (λv:Value=>(RU Z S).setCell (p:=⟨w.heap.size+1,0,none⟩) (by simp) v);have Q:=Z5 r;obtain ⟨ve,vt⟩:=V;dsimp only at Q ⊢;clear H r;go_wp2_with fail;have z1:(w3.setCell ⟨w.heap.size+1,0,none⟩ ds).cell? ⟨w.heap.size+1,0,none⟩=some ds:=Ns _ _ _ z0;exact bodyPost_ret (v:=.tuple #[.agg #[ds],cG ve]) (by simp [results,results75,go_sem,z0,z1]) rfl ⟨F _,.inl ⟨Q,rfl⟩⟩
  ·have H:=x2.ai S;have z0:=H.cell 0 rfl;have f0:=H.frozen 0;have hF:∀v:Value,SJ w (w3.setCell ⟨w.heap.size+1,0,none⟩ v)/\aS (w3.setCell ⟨w.heap.size+1,0,none⟩ v) w.heap.size ar V.2.length cr R V.2:=λv=>by refine ⟨(RU Z S).setCell (by simp) v,?_⟩;refine (aS.mono hO Z.size).bf λx hx=>Nt _ _ _ _ λe=>?_;have h1:=(hO.lt x hx).1;have e':x=w.heap.size+1:=e;omega
   have F:=Z5 hF;obtain ⟨ve,vt⟩:=V;dsimp only at r F ⊢;subst r;clear H hO hF;go_wp2_with fail;have z1:(w3.setCell ⟨w.heap.size+1,0,none⟩ (.slice ar vt.length cr)).cell? ⟨w.heap.size+1,0,none⟩=some (.slice ar vt.length cr):=Ns _ _ _ z0;exact bodyPost_ret (v:=.tuple #[.agg #[.slice ar vt.length cr],cG 0]) (by simp [results,results75,go_sem,z0,z1]) rfl ⟨(F _).1,.inr ⟨rfl,ar,cr,R,rfl,(F _).2⟩⟩
theorem vK {P M:Int} {mod:Lz} {m:Nat} {L:ZZ} (hE:aI P M mod m L=0) {Q:Lz} (hQ:Ga m Q) (hl:Q.length=L.length) (hg:(jm (ah P M.toNat mod).ops L Q).length=Q.length)
  {v:Lz} (hvl:v.length=L.length) (G:∀k,k<L.length->(ah P M.toNat mod).El (nth v k)) :
  Vc (ah P M.toNat mod).El m (cmbTo (ah P M.toNat mod).ops m v (en (ah P M.toNat mod).ops m L Q) L.length) /\
  (∀i,i<m->nth (redTo (ah P M.toNat mod).ops L (bu (ah P M.toNat mod) L m) (cmbTo (ah P M.toNat mod).ops m v (en (ah P M.toNat mod).ops m L Q) L.length) L.length) i=0) /\
  bg Q (cmbTo (ah P M.toNat mod).ops m v (en (ah P M.toNat mod).ops m L Q) L.length)=v:=by
 obtain ⟨N',e,hm1,hm64,F,A⟩:=aT hE;obtain rfl:m=N':=by omega
 have h6:=(dF (aX hE).2.2.2).2;rw [M9] at h6;have H:bI (ah P M.toNat mod).ops m L=L:=h6;obtain ⟨K,_⟩:=dc F A;have I:=cU F A;rw [H] at K I;have Y:=λi hi=>A0 F A hQ hl hg i hi;obtain ⟨N,hSl,hSu,_⟩:=ob hE hQ hl hg;obtain ⟨c1,c2⟩:=iZ F N (x:=v) (λk hk=>G k (by omega)) L.length (by omega);have z:eY (ah P M.toNat mod).ops (ah P M.toNat mod).El m (en (ah P M.toNat mod).ops m L Q) L:=λi hi=>by obtain ⟨e,he,hy,_⟩:=Y i (by omega);exact ⟨e,he,hy⟩
 refine ⟨c1,Jp F A K I c1 (z.rs c2),?_⟩;refine fy (by rw [hvl,<- hl];simp [bg]) λj hj=>?_;have S:j<Q.length:=by simpa [bg] using hj
 have hqj:=hQ j S;rw [fM Q _ S,mQ F N (λk hk=>G k (by omega)) (by omega) _ (by omega)];have Z:∀t,t<L.length->nth (aj (en (ah P M.toNat mod).ops m L Q) t) (nth Q j).toNat=if t=j then 1 else 0:=λt ht=>by obtain ⟨e',_,hy',hj'⟩:=Y t ht;rw [hy' _ (by omega),hj' j S]
 have U:=G j (by omega);rw [ki F (x:=j) (by
  show (ah P M.toNat mod).El ((ah P M.toNat mod).ops.mul (nth v j) (nth (aj (en (ah P M.toNat mod).ops m L Q) j) (nth Q j).toNat));rw [Z j (by omega),M7 rfl,F.iH U];exact U) L.length (λp hp r=>by
  show (ah P M.toNat mod).ops.mul (nth v p) (nth (aj (en (ah P M.toNat mod).ops m L Q) p) (nth Q j).toNat)=0;rw [Z p hp,M8 r,F.df (G p hp)]),M7 (by omega)]
 show (ah P M.toNat mod).ops.mul (nth v j) (nth (aj (en (ah P M.toNat mod).ops m L Q) j) (nth Q j).toNat)=_;rw [Z j (by omega),M7 rfl,F.iH U]
section
variable {O:aL} {El:Int->Prop} {m:Nat} {L:ZZ}
structure MX (O:aL) (El:Int->Prop) (m:Nat) (L:ZZ) (y t:Lz) (k:Nat) (st:LS):Prop where
 rws:bz El m st.rows
 len:st.rows.length=L.length
 vc:Vc El m st.sum
 top:st.top=k
 kl:k<=L.length
 sup:eY O El m L st.rows
 sub:eY O El m st.rows L
 cos:∃f,RS O El m L f/\(∀x,x<m->El (f x))/\∀x,x<m->nth st.sum x=O.add (nth y x) (f x)
 one:∀i,i<k->nth (aj st.rows i) (nth t i).toNat=1
 zero:∀j i,j<k->j<i->i<L.length->nth (aj st.rows i) (nth t j).toNat=0
 sz:∀j,j<k->nth st.sum (nth t j).toNat=0
end
section
variable {O:aL} {El:Int->Prop} {m:Nat} {L V:ZZ}
theorem JV (F:bQ O El) (Q:bz El m L) {i:Nat} (hi:i<m) {y:Lz} (Z:RS O El m (sU O m L) (λj=>nth y j)) (h1:nth y i=1) {l:Z6} (S:∀x ∈ l,x<m)
  (h:∀j,j<m->j ≠ i->nth y j ≠ 0->j ∈ l):lu O El L.length (bp L) l i :=
 Fz F Q S hi Z h1 λj Y hne U=>Of λh0=>U (h j Y hne h0)
end
section
variable {P M:Int} {mod:Lz} {m:Nat} {L:ZZ}
def fV (P M:Int) (mod:Lz) (m:Nat) (L:ZZ) (i:Int):ZZ:=bt (ah P M.toNat mod) (bI (ah P M.toNat mod).ops m (L ++ [eZ m i])) m
end
section
variable {O:aL} {El:Int->Prop} {m:Nat} {L:ZZ}
end
section
variable {P M:Int} {mod:Lz} {m:Nat} {L:ZZ}
end
theorem Ke:(prog.info? 103).map (λi=>(i.zero,i.size,i.bytes))=some (some (.agg #[ds]),1,24):=by kernel_rfl
theorem xj {P:Program} {w:ej} {ops:Array Oper} {rest:List Oper} {o:Oper} {ac:Act} {Q:Exit->Act->ej->Prop}
  (hg:o.guard=none) (s x:Operand) (t e:TypeId) (r:o.op = .call { callee:=.builtin .append,args:=#[s,x],argTypes:=#[t,t] }) (z:Value) (bytes:Nat)
  (h1:P.underlying t=some (.slice e)) (h2:(P.info? e).map (λi=>(i.zero,i.size,i.bytes))=some (some z,1,bytes)) (hz:z.cells.size=1)
  (B:Nat) (a:OA) (n c:Nat) (xs:List Value) (hs:ac.eval s = .slice a n c) (S:w.ownsRow B e 1 (.slice a n c) n xs)
  (ad:Addr) (cc:Nat) (u:Value) (hx:ac.eval x = .slice (some ad) 1 cc) (hu:w.cell? ad=some u) (K:u.oneCell'=true)
  (b2:(n+1) * bytes<=140737488355328) (b3:n+1<=maxLen) (hB:B<=w.heap.size)
  (hK:∀a' Y w',w'.ownsRow B e 1 (.slice a' (n+1) Y) (n+1) (xs ++ [u])->w.grownBy w' (Value.slice a n c).ownBlock->(∀b,b<w.heap.size->dq a b->dq a' b)->wpList P ops Q rest (ac.put o.dst (.slice a' (n+1) Y)) w') :
  wpList P ops Q (o :: rest) ac w:=by
 obtain ⟨i,hi,H,A,G⟩:=info_parts h2;refine wpList_append_own_at w hg s x t r B e i z 1 bytes h1 hi H A G hz (by decide) _ n xs hs S ad 1 cc [u] hx rfl ?_ ?_ b3 b2 hB λv' w' Z I _ F=>?_
 ·intro j v N;match j,N with
  | 0,N=>simp at N;subst N;simpa [Addr.add] using hu
 ·intro v hv;simp at hv;subst hv;exact K
 ·obtain ⟨a',Y,rfl,_⟩:=Sf Z;refine hK a' Y w' Z I λb hb U=>?_;have h:=U.own n c;rcases F with h3 | h3
  ·exact SC (n:=n+1) (c:=Y) (by rw [h3];exact h)
  ·exact SC (n:=n+1) (c:=Y) (by rw [h3];intro h4;cases h4;omega)
structure TX where
 a:OA
 c:Nat
 T:ZZ
def AO (y:TX):Value:=.slice y.a y.T.length y.c
theorem yu {w w':ej} {B:Nat} {e:TypeId} {a:OA} {n c:Nat} {xs:List Value} (h:w.ownsRow B e 1 (.slice a n c) n xs) (hb:a ≠ none->w'.heap[ablk a]? = w.heap[ablk a]?):w'.ownsRow B e 1 (.slice a n c) n xs:=by
 refine ⟨h.1,?_⟩;rcases h.2 with h2 | ⟨g,cap,cur,Z,Y,U,r⟩
 ·exact .inl h2
 ·cases Z
  exact .inr ⟨g,_,cur,rfl,Y,by rw [show w'.heap[g]? = w.heap[g]? from hb (by simp)];exact U,r⟩
theorem aB.G9 {w w':ej} {A Z:Nat->Prop} (h:aB w w' A A) (Y:∀b,Z b->A b\/w.heap.size<=b):aB w w' A Z:=⟨h.os,h.tape,h.output,h.size,h.block,Y⟩
theorem fU.pO {A U:Nat->Prop} {w w':ej} {a:OA} {n:Nat} {L:ZZ} (h:fU A w a n L) (Z:aB w w' A U):fU U w' a n L :=
 ⟨h.len,h.pl,h.max,λY=>Z.not (h.lL.lt Y) (h.no Y),λi hi=>by obtain ⟨b,m,c,h1,h2,h3⟩:=h.cell i hi;exact ⟨b,m,c,Z.cell h1 (h.no (by omega)),h2.cQ Z h3,λhm=>Z.not (h2.lt hm) (h3 hm)⟩⟩
theorem aQ.Mx {w:ej} {g:Nat} {x y:Value} (h:aQ w g [x,y]) (u:Value):aQ (w.setCell ⟨g,1,none⟩ u) g [x,u]:=by
 have Y:=h.cell 0 rfl;have U:=h.cell 1 rfl;refine ⟨by have:=h.1;simpa using this,λi v Z=>?_,λi=>by rw [NY];exact h.2.2 i⟩;match i,Z with
 | 0,Z=>simp at Z;subst Z;rw [Nr _ _ _ _ (by simp)];exact Y
 | 1,Z=>simp at Z;subst Z;exact Ns w _ _ U
 | i+2,Z=>simp at Z
def TA (B Bo:Nat) (at':OA):Nat->Prop:=λb=>b<B\/b=Bo\/(at' ≠ none/\b=ablk at')
structure lD (B:Nat) (V:ej) (Bo:Nat) (v0:Value) (at':OA) (ct:Nat) (tt:List TX):Prop where
 bo:B<=Bo
 box:aQ V Bo [v0,.slice at' tt.length ct]
 tow:V.ownsRow B 103 1 (.slice at' tt.length ct) tt.length (tt.map AO)
 at1:dq at' Bo
 tx:∀y ∈ tt,fU (TA B Bo at') V y.a y.T.length y.T/\y.T.length<=y.c
section
variable {B:Nat} {V V' w5:ej} {Bo:Nat} {v0:Value} {at':OA} {ct:Nat} {tt:List TX} {o:Obj}
theorem lD.ai (h:lD B V Bo v0 at' ct tt) (hb:SJ V V'):lD B V' Bo v0 at' ct tt :=
 ⟨h.bo,h.box.ai hb,bj h.tow hb,h.at1,λy hy=>⟨(h.tx y hy).1.ai hb,(h.tx y hy).2⟩⟩
theorem lD.start (Z:B<=Bo) (h:aQ V Bo [v0,ds]):lD B V Bo v0 none 0 [] :=
 ⟨Z,h,cJ,.inl rfl,λy hy=>by simp at hy⟩
theorem lD.lt (h:lD B V Bo v0 at' ct tt):∀b,TA B Bo at' b->b<V.heap.size:=λb hb=>by
 have h0:=h.bo;have Z:=h.box.1;rcases hb with h1 | rfl | ⟨h1,rfl⟩
 ·omega
 ·exact h.box.1
 ·exact (aP h.tow h1).2
theorem lD.My (h:lD B V Bo v0 at' ct tt) {x:TX} (K:fU (TA B Bo at') V x.a x.T.length x.T) (F:x.T.length<=x.c) {a5:OA} {Q:Nat}
  (Y:w5.ownsRow B 103 1 (.slice a5 (tt.length+1) Q) (tt.length+1) (tt.map AO ++ [AO x])) (H:(V.alloc o).grownBy w5 (Value.slice at' tt.length ct).ownBlock) (N:∀b,b<(V.alloc o).heap.size->dq at' b->dq a5 b) :
  lD B (w5.setCell ⟨Bo,1,none⟩ (.slice a5 (tt.length+1) Q)) Bo v0 a5 Q (tt ++ [x])/\∀r,Below B r V->Below B r (w5.setCell ⟨Bo,1,none⟩ (.slice a5 (tt.length+1) Q)):=by
 have hne:a5 ≠ none:=λe=>by
  obtain ⟨y,z,G,hp⟩:=Sf Y;cases G
  have:=hp (by omega);rw [e] at this;cases this
 have hsz:(V.alloc o).heap.size=V.heap.size+1:=by simp
 have A:aB V (w5.setCell ⟨Bo,1,none⟩ (.slice a5 (tt.length+1) Q)) (TA B Bo at') (TA B Bo at') :=
  ((RZ (aD V o) _).trans (Se H λh1=>.inr (.inr ⟨h1,rfl⟩))).trans (aB.se (I:=TA B Bo at') (p:=⟨Bo,1,none⟩) _ (.inr (.inl rfl)) _)
 have S:∀b,TA B Bo a5 b->TA B Bo at' b\/V.heap.size<=b:=λb hb=>by
  rcases hb with hb | hb | ⟨_,hb⟩
  ·exact .inl (.inl hb)
  ·exact .inl (.inr (.inl hb))
  ·rcases NU b V.heap.size with h1 | h1
   ·by_cases h2:dq at' b
    ·rcases N b (by omega) h2 with h3 | h3
     ·exact absurd h3 hne
     ·exact absurd hb.symm h3
    ·exact .inl (.inr (.inr ⟨λe=>h2 (.inl e),NB λe=>h2 (.inr λe2=>e e2.symm)⟩))
   ·exact .inr h1
 have hM:=A.G9 S;have hb5:aQ w5 Bo [v0,.slice at' tt.length ct]:=by have K:=h.box.alloc o;have hBo:=h.box.1;have U:w5.heap[Bo]? = (V.alloc o).heap[Bo]?:=H.block Bo (by omega) λe=>h.at1.own _ _ e.symm;exact ⟨Nz K.1 H.size,λj v G=>(NG (w:=V.alloc o) (a:=⟨Bo,j,none⟩) U).trans (K.2.1 j v G),λj=>(NI (w:=V.alloc o) (a:=⟨Bo,j,none⟩) U).trans (K.2.2 j)⟩
 have Z:dq a5 Bo:=N Bo (by have:=h.box.1;omega) h.at1;refine ⟨⟨h.bo,?_,?_,Z,λy hy=>?_⟩,λr hw=>(RY (hw.alloc (by have:=h.bo;have:=h.box.1;omega) o) (h.tow.alloc o) H (M4 _) (by have:=h.bo;have:=h.box.1;omega)).setCell (p:=⟨Bo,1,none⟩) h.bo _⟩
 ·rw [Ni];exact hb5.Mx _
 ·rw [Ni,NT];exact dO Y _ (Z.elim (λe=>.inl e) λe=>.inr e)
 ·rcases List.mem_append.1 hy with hy | hy
  ·exact ⟨(h.tx y hy).1.pO hM,(h.tx y hy).2⟩
  ·rw [List.mem_singleton.1 hy];exact ⟨K.pO hM,F⟩
theorem lD.set (h:lD B V Bo v0 at' ct tt) {p:Addr} (Q:p.block<B) (v:Value):lD B (V.setCell p v) Bo v0 at' ct tt:=by have S:aB V (V.setCell p v) (TA B Bo at') (TA B Bo at'):=aB.se (I:=TA B Bo at') (p:=p) _ (.inl Q) _;have hb:=h.bo;have Z:∀b,B<=b->(V.setCell p v).heap[b]? = V.heap[b]?:=λb h1=>Nt _ _ _ _ (by omega);refine ⟨h.bo,?_,yu h.tow λh1=>Z _ (aP h.tow h1).1,h.at1,λy hy=>⟨(h.tx y hy).1.pO S,(h.tx y hy).2⟩⟩;have Y:=Z Bo h.bo;exact ⟨by have:=h.box.1;simpa using this,λj v U=>(NG (w:=V) (a:=⟨Bo,j,none⟩) Y).trans (h.box.2.1 j v U),λj=>(NI (w:=V) (a:=⟨Bo,j,none⟩) Y).trans (h.box.2.2 j)⟩
end
def xJ (T:List ZZ) (i:Nat):ZZ:=T.getD i []
theorem yC {l:List ZZ} {i:Nat} (h:i<l.length):xJ l i=l[i]:=by simp [xJ,h]
structure j6 (w:ej) (a:OA) (n:Nat) (TT:List ZZ):Prop where
 len:TT.length=n
 pl:Pl a n
 max:n<=maxLen
 cell:∀i,i<n->∃b m c,w.cell? ⟨ablk a,aN a+i,none⟩=some (.slice b m c)/\bP w b m (xJ TT i)/\m<=c
theorem j6.ai {w w':ej} {a:OA} {n:Nat} {TT:List ZZ} (h:j6 w a n TT) (hb:SJ w w'):j6 w' a n TT :=
 ⟨h.len,h.pl,h.max,λi hi=>by obtain ⟨b,m,c,h1,h2,h3⟩:=h.cell i hi;exact ⟨b,m,c,aC hb h1,h2.ai hb,h3⟩⟩
theorem lD.trees {B:Nat} {V:ej} {Bo:Nat} {v0:Value} {at':OA} {ct:Nat} {tt:List TX} (h:lD B V Bo v0 at' ct tt):j6 V at' tt.length (tt.map TX.T):=by
 refine ⟨by simp,?_,?_,λi hi=>?_⟩
 ·obtain ⟨a',U,Z,Y⟩:=Sf h.tow;cases Z;exact Y
 ·rcases Om tt.length with h0 | h0
  ·rw [h0];exact Nb _
  ·exact (bL h.tow 0 h0).2.2.2.2
 ·have h1:=(bL h.tow i hi).1;have e1:(tt.map AO)[i]? = some (AO tt[i]):=by rw [OQ,NJ hi];rfl
  refine ⟨tt[i].a,tt[i].T.length,tt[i].c,by rw [h1,e1];rfl,?_⟩;rw [yC (by rw [No];exact hi),Oc];exact ⟨(h.tx _ (NL hi)).1.lL,(h.tx _ (NL hi)).2⟩
theorem uC {w w':ej} {Y:OA} {m c:Nat} {ad:Addr} (U:w.grownBy w' (Value.slice Y m c).ownBlock) (Z:ad.block<w.heap.size) (h:w.frozen? ad=false) (hne:dq Y ad.block):w'.frozen? ad=false :=
 (NI (w:=w) (a:=ad) (U.block _ Z λe=>hne.own m c e.symm)).trans h
def Ea (T:ZZ) (S:Int) (V:ej) (e:Ending) (w':ej):Prop:=∃U Z Y,e = ec #[.agg #[.slice U Z Y],cG S]/\bJ V.heap.size w' U Z T/\Z<=Y/\SJ V w'
theorem pT.Mh {V:Int × ZZ} {w w':ej} {e:Ending} (h:pT V w e w'):Ea (if V.1=0 then V.2 else []) V.1 w e w':=by
 obtain ⟨hb,⟨h1,rfl⟩ | ⟨h1,ar,cr,R,rfl,Z⟩⟩:=h
 ·rw [M8 h1];exact ⟨none,0,0,rfl,Sq (aS.K8 w' w.heap.size),M4 _,hb⟩
 ·rw [M7 h1];exact ⟨ar,_,cr,by rw [h1],Sq Z,o7 Z.own,hb⟩
section
variable {P M:Int} {mod:Lz} {m:Nat} {L:ZZ}
end
def lU (P M:Int) (mod:Lz) (N:Int) (L:ZZ) (y:Lz):Int:=if aI P M mod N L=0 then uz (aO P M) y N.toNat else aI P M mod N L

section
open Go.RowKit
end
section
open Go.RowKit
end
end Go.Proofs.YthglbncgemdcbaaGreat
