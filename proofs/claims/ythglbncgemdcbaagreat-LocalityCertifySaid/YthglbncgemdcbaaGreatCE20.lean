import Derived.Test.YthglbncgemdcbaaGreatCE18
import Derived.Test.YthglbncgemdcbaaGreatCE16
namespace Go.Proofs.YthglbncgemdcbaaGreat
set_option linter.all false
set_option maxRecDepth 100000
set_option maxHeartbeats 4000000
open Go.RowKit Go.Proofs.Tryz
theorem wm {w z:World} {b:Nat} {G:cZ} {a:OA} {n:Nat} {L:Ll} {m:Nat} {ay:OA} {ny:Nat} {C:js} (F:Nat) (P M:Int) (am:OA) (mn cm c cy:Nat)
  (S:OA) (nx A:Nat) (N:Ll) (E:Ak z b G a n L m ay ny C) (hts:bw z S nx N) (j:z.heap.size<=F) (hb:PY z w) (hB:aQ w F (mA b P M am mn cm m a n c ay ny cy C ds 0)) :
  Calls prog 136 #[.pointer (some ⟨F,0,none⟩),.agg #[.slice S nx A]] w λe w'=>e = .returned (cG (provS G.ops L m C N))/\PY z w':=by
 have Htl:=Z5 hts.len;obtain ⟨PR,Q⟩:∃PR,provS G.ops L m C N=PR:=⟨_,rfl⟩
 rw [Q];have HPR:=Z5 Q;clear Q;have hb1:PY w (w.alloc (.cells #[.slice S nx A] 103)):=an _ _;have K:=hB.af hb1;have f10:=K.frozen 10;have q10:=K.cell 10 rfl;have hsb:F<w.heap.size:=hB.1;go_enter func136,ntmps136;go_wp2_with fail;obtain ⟨Z,hZ⟩:∃Z:World,Z=(w.setCell ⟨F,10,none⟩ (.slice S nx A)).alloc (.cells #[.slice S nx A] 103):=⟨_,rfl⟩
 rw [<- hZ];have hBZ:aQ Z F (mA b P M am mn cm m a n c ay ny cy C (.slice S nx A) 0):=by rw [hZ];exact (hB.setCell 10 (.slice S nx A)).alloc _
 have H:PY z Z:=by rw [hZ];exact Pm (hb.setCell j _) (an _ _)
 clear hZ K f10 q10 hB;refine (pS F P M am mn cm c cy S nx A N E hts j C.W Z 0 none 0 0 [] none 0 0 [] (by omega) (by omega) (by omega) H hBZ (Pu _ _) (Pu _ _) (λh=>by omega) (λh=>by omega) (by simp) (λx hx=>by simp at hx)).mono ?_;rintro e w5 ⟨k',g1,g2,g3,he,g5⟩;have U:PY z w5:=H.trans (g3.below (λx hx=>by rw [hx];exact j) H.size);rw [MK] at g5 he;have c10:=g2.cell 10 rfl;have c11:=g2.cell 11 rfl;have Y:PR=match folS G.ops L m C C.W [] [] N with | some []=>0 | _=>13:=by rw [<- HPR.out];rfl
 cases hf:folS G.ops L m C C.W [] [] N with
 | none =>
  rw [hf] at Y he
  have HP:=Z5 Y
  have he':e = .returned (cG 13):=he
  subst he'
  clear hf Y g5 he
  have hd:((13:Int) == 0)=false:=rfl
  go_wp2_with fail
  go_quiet (fail)
  go_wp2_with fail
  go_ret
  exact ⟨by rw [HP.out];rfl,U.trans (Ph (Pw ⟨_,rfl⟩) U.size)⟩
 | some r =>
  rw [hf] at Y g5 he
  have he':e = .returned (cG 0):=he
  subst he'
  clear he
  have g6:N.drop k'=r:=g5 rfl
  have hlen:r.length=nx - k':=by rw [<- g6,N7,Htl.out]
  rw [Htl.out] at g1
  by_cases hk:k'<nx
  ·have HP:Hid (PR=13):=by
    show _=_;rw [Y];cases r with
    | nil=>simp at hlen;omega
    | cons x r=>rfl
   have hd:decide ((k':Int)<(nx:Int))=true:=by simp;omega
   clear hf Y g5 g6 hlen
   go_wp2_with fail
   go_quiet (fail)
   go_wp2_with fail
   go_ret
   exact ⟨by rw [HP.out];rfl,U.trans (Ph (Pw ⟨_,rfl⟩) U.size)⟩
  ·have HP:Hid (PR=0):=by
    show _=_;rw [Y];cases r with
    | nil=>rfl
    | cons x r=>simp at hlen;omega
   have hd:decide ((k':Int)<(nx:Int))=false:=by simp;omega
   clear hf Y g5 g6 hlen
   go_wp2_with fail
   go_quiet (fail)
   go_wp2_with fail
   go_ret
   exact ⟨by rw [HP.out];rfl,U.trans (Ph (Pw ⟨_,rfl⟩) U.size)⟩
def Bh (Z:World) (V:Int × Ll) (e:Ending) (w':World):Prop :=
 PY Z w'/\((V.1 ≠ 0/\e = .returned (.tuple #[.agg #[ds],cG V.1])) \/
  (V.1=0/\∃ar cr R,e = .returned (.tuple #[.agg #[.slice ar V.2.length cr],cG 0])/\aO w' Z.heap.size ar V.2.length cr R V.2))
theorem BF {w Q:World} {b:Nat} {G:cZ} {a:OA} {n:Nat} {L:Ll} {m:Nat} {ay:OA} {ny:Nat} {C:js} (K:Nat) (P M:Int) (am:OA) (mn cm c cy:Nat)
  (E:Ak Q b G a n L m ay ny C) (hpb:Q.heap.size<=K) (hb:PY Q w) (hB:aQ w K (mA b P M am mn cm m a n c ay ny cy C ds 0)) :
  Calls prog 128 #[.pointer (some ⟨K,0,none⟩)] w (Bh Q (sX G.ops L m C)):=by
 obtain ⟨V,hV⟩:∃V,sX G.ops L m C=V:=⟨_,rfl⟩
 rw [hV];have HV:=Z5 hV;clear hV;have hsb:K<w.heap.size:=hB.1;go_enter func128,ntmps128;go_wp2_with fail;obtain ⟨U,hU⟩:∃U:World,U=w.alloc (.cells #[ds] 103):=⟨_,rfl⟩
 rw [<- hU];have z:PY w U:=by rw [hU];exact an _ _
 have hsU:U.heap.size=w.heap.size+1:=by rw [hU];simp
 have x0:aQ U w.heap.size [ds]:=by rw [hU];exact Po _ _ _ rfl
 have hBU:=hB.af z;have Y:PY Q U:=hb.trans (z.mono hb.size);clear hU hB;have hM0:kF U Q.heap.size K b P M am mn cm m a n c ay ny cy C ⟨none,0,[],[]⟩:=⟨hBU,PE U _,λh=>by
  rcases h with ⟨h1,_⟩ | ⟨i,hi,_⟩
  ·exact h1 rfl
  ·simp at hi,by simp⟩
 refine (pR K P M am mn cm c cy E hpb C.W U ⟨none,0,[],[]⟩ none 0 0 [] none 0 0 [] (by omega) (by omega) Y hM0 (Pu _ _) (Pu _ _) (λh=>by omega) (λh=>by omega) (by simp) (λx j=>by simp at j)).mono ?_;rintro e w5 ⟨Z,g1,g2,g3,g4,rfl,g6⟩;have hVe:gH G.ops L m C C.W [] [] []=V:=HV.out;rw [hVe] at g6 ⊢;have A:¬ (⟨none,0,[],[]⟩:mD).J K w.heap.size:=λh=>by
  rcases h with h | ⟨h1,_⟩ | ⟨i,hi,_⟩
  ·omega
  ·exact h1 rfl
  ·simp at hi
 have hb5:PY Q w5:=Y.trans (g4.below (λx j=>by
  rcases j with h | ⟨h1,_⟩ | ⟨i,hi,_⟩
  ·rw [h];exact hpb
  ·exact absurd rfl h1
  ·simp at hi) Y.size)
 have x5:=x0.dc g4 A;have z0:=x5.cell 0 rfl;have f0:=x5.frozen 0;have F:¬ bQ Z.ar Z.R w.heap.size:=λh=>g4.not x0.1 A (.inr h);have N:=hb.size;obtain ⟨ve,H⟩:=V;dsimp only at g6 ⊢;by_cases S:ve=0
 ·subst S;have ht:Z.T=H:=g6 rfl;have hF:∀v:Value,PY Q (w5.setCell ⟨w.heap.size,0,none⟩ v)/\aO (w5.setCell ⟨w.heap.size,0,none⟩ v) Q.heap.size Z.ar H.length Z.cr Z.R H:=λv=>by refine ⟨hb5.setCell N _,?_⟩;rw [<- ht];exact g1.om.bp λx j=>Lf _ _ _ _ λe=>F (by have e':x=w.heap.size:=e;rw [<- e'];exact j)
  have HF:=Z5 hF;have p10:=g1.box.cell 10 rfl;rw [ht] at p10;clear g1 g2 g3 g4 g6 hF ht;go_wp2_with fail;have z1:(w5.setCell ⟨w.heap.size,0,none⟩ (.slice Z.ar H.length Z.cr)).cell? ⟨w.heap.size,0,none⟩=some (.slice Z.ar H.length Z.cr):=Lh _ _ _ z0;exact bodyPost_ret (v:=.tuple #[.agg #[.slice Z.ar H.length Z.cr],cG 0]) (by simp [results,results128,go_sem,z0,z1]) rfl ⟨(HF _).1,.inr ⟨rfl,Z.ar,Z.cr,Z.R,rfl,(HF _).2⟩⟩
 ·have hve':(ve != 0)=true:=by simpa using S
  have Hne:=Z5 S;have HF:=Z5 (λv:Value=>hb5.setCell (p:=⟨w.heap.size,0,none⟩) N v);clear g1 g2 g3 g4 g6 S;go_wp2_with fail;have z1:(w5.setCell ⟨w.heap.size,0,none⟩ ds).cell? ⟨w.heap.size,0,none⟩=some ds:=Lh _ _ _ z0;exact bodyPost_ret (v:=.tuple #[.agg #[ds],cG ve]) (by simp [results,results128,go_sem,z0,z1]) rfl ⟨HF _,.inl ⟨Hne,rfl⟩⟩
def j4 (V:Int × Ll) (w:World) (e:Ending) (w':World):Prop :=
 PY w w'/\((V.1 ≠ 0/\e = .returned (.tuple #[.agg #[ds],cG V.1])) \/
  (V.1=0/\∃ar cr R,e = .returned (.tuple #[.agg #[.slice ar V.2.length cr],cG 0])/\aO w' w.heap.size ar V.2.length cr R V.2))
section
open Go.RowKit
end
section
variable {O:aP} {El:Int->Prop} {m:Nat} {L:Ll} {C:js}
end
def sS (x:LI) (m:Nat):LI:=((List.range m).filter λj=>decide (nth x j ≠ 0)).map Int.ofNat
theorem rO {x:LI} {m:Nat} (h:x.length=m):(sS x m).length=iK x:=by
 have e:x=(List.range m).map (nth x):=by refine Mi (by simp [h]) λi h1 h2=>?_;rw [LU,ML,aj h1]
 unfold sS iK;rw [Lc,<- List.countP_eq_length_filter];conv=>rhs;rw [e,Pd]
 rfl
theorem zC {x:LI}:iK x=0 ↔ ∀k,k<x.length->nth x k=0:=by
 unfold iK;rw [List.countP_eq_zero];constructor
 ·intro h k Z;have h1:=h _ (aG Z);simpa using h1
 ·intro h y Y;obtain ⟨k,Z,rfl⟩:=List.mem_iff_getElem.1 Y;have h1:=h k Z;rw [aj Z] at h1;simp [h1]
section
variable {P M:Int} {mod:LI} {m:Nat} {L:Ll}
end
def qc (p:Nat->Bool) (s n:Nat):LI:=((List.range' s n).filter p).map Int.ofNat
theorem nO (p:Nat->Bool) (s n:Nat):qc p s (n+1)=if p s=true then (s:Int) :: qc p (s+1) n else qc p (s+1) n:=by unfold qc;rw [List.range'_succ,NG];split <;> rfl
theorem uU {p q:Nat->Bool} {s n:Nat} (h:∀j,s<=j->j<s+n->p j=q j):qc p s n=qc q s n:=by unfold qc;rw [O3 λj Z=>h j (List.mem_range'_1.1 Z).1 (List.mem_range'_1.1 Z).2]
theorem GX {p:Nat->Bool} {s n:Nat} {x:Int} (h:x ∈ qc p s n):(s:Int)<=x:=by unfold qc at h;obtain ⟨j,Z,rfl⟩:=List.mem_map.1 h;have:=(List.mem_range'_1.1 (List.mem_filter.1 Z).1).1;show (s:Int)<=(j:Int);omega
theorem uE (x:Int) (a b:LI):cmpL (x :: a) (x :: b)=cmpL a b:=by rw [cmpL,KY (by omega),KY (by omega)]
theorem Cr {x:Int} {a l:LI} (Z:l ≠ []) (h:∀y ∈ l,x<y):cmpL (x :: a) l = -1:=by
 cases l with
 | nil=>exact absurd rfl Z
 | cons y b=>rw [cmpL,KX (h y (by simp))]
theorem CO {x:Int} {a l:LI} (Z:l ≠ []) (h:∀y ∈ l,x<y):cmpL l (x :: a)=1:=by
 cases l with
 | nil=>exact absurd rfl Z
 | cons y b =>
  have:=h y (by simp)
  rw [cmpL,KY (by omega),KX this]
theorem tf {p q p' q':Nat->Bool} {i:Nat} (H:∀j,j ≠ i->p' j=p j) (G:∀j,j ≠ i->q' j=q j) (N:p i=true) (Q:q i=true) (U:p' i=false) (S:q' i=false):∀n s,s<=i->i<s+n ->
  (qc p s n).length=(qc p' s n).length+1/\(qc q s n).length=(qc q' s n).length+1/\((qc p' s n).length=(qc q' s n).length->cmpL (qc p s n) (qc q s n)=cmpL (qc p' s n) (qc q' s n))
 | 0,s,h1,h2=>by omega
 | n+1,s,h1,h2=>by
  rw [nO p,nO q,nO p',nO q'];by_cases K:s=i
  ·subst K;have e1:qc p' (s+1) n=qc p (s+1) n:=uU λj a _=>H j (by omega);have e2:qc q' (s+1) n=qc q (s+1) n:=uU λj a _=>G j (by omega);rw [KX N,KX Q,KY (by rw [U];decide),KY (by rw [S];decide),e1,e2];exact ⟨rfl,rfl,λ_=>uE _ _ _⟩
  ·obtain ⟨F,z,A⟩:=tf H G N Q U S n (s+1) (by omega) (by omega);have lo:∀ {r:Nat->Bool},∀y ∈ qc r (s+1) n,(s:Int)<y:=λy hy=>by have:=GX hy;omega
   have ne:∀ {l:LI},0<l.length->l ≠ []:=λh e=>by rw [e] at h;simp at h
   rw [H s K,G s K];by_cases Y:p s=true
   ·rw [KX Y,KX Y];by_cases Z:q s=true
    ·rw [KX Z,KX Z];simp only [LB,uE];exact ⟨by omega,by omega,λh=>A (by omega)⟩
    ·rw [KY Z,KY Z];simp only [LB];refine ⟨by omega,z,λh=>?_⟩;rw [Cr (ne (by omega)) lo,Cr (ne (by omega)) lo]
   ·rw [KY Y,KY Y];by_cases Z:q s=true
    ·rw [KX Z,KX Z];simp only [LB];refine ⟨F,by omega,λh=>?_⟩;rw [CO (ne (by omega)) lo,CO (ne (by omega)) lo]
    ·rw [KY Z,KY Z];exact ⟨F,z,A⟩
def b8 (x:LI) (m:Nat) (i:Int):LI:=((List.range m).filter λj=>decide (nth x j ≠ 0) && decide ((j:Int) ≠ i)).map Int.ofNat
theorem l6 (x:LI) (m:Nat) (i:Int):b8 x (m+1) i=if nth x m ≠ 0/\(m:Int) ≠ i then b8 x m i ++ [(m:Int)] else b8 x m i:=by
 unfold b8;rw [Mn,M5,LJ];by_cases h:nth x m ≠ 0/\(m:Int) ≠ i
 ·rw [KX h,NG,KX (by simp [h.1,h.2])];rfl
 ·rw [KY h,NG,KY (by simpa using h)];simp
theorem rU (x:LI) (m:Nat) (i:Int) (h:i<0\/(m:Int)<=i):b8 x m i=sS x m:=by unfold b8 sS;refine congrArg _ (O3 λj Z=>?_);have:=List.mem_range.1 Z;rw [Lj (show (j:Int) ≠ i by omega),Bool.and_true]
theorem FU {x:LI} {m:Nat} {i y:Int}:y ∈ b8 x m i ↔ ∃j:Nat,j<m/\nth x j ≠ 0/\(j:Int) ≠ i/\y=j:=by
 unfold b8;rw [Nv];constructor
 ·rintro ⟨j,Z,rfl⟩;rw [MQ,NX] at Z;have h:=Z.2;simp only [Lm,LM] at h;exact ⟨j,Z.1,h.1,h.2,rfl⟩
 ·rintro ⟨j,h1,h2,h3,rfl⟩;exact ⟨j,by rw [MQ,NX];exact ⟨h1,by simp [h2,h3]⟩,rfl⟩
theorem CY {x:LI} {m:Nat} {i y:Int} (h:y ∈ b8 x m i):0<=y/\y<m:=by obtain ⟨j,Z,_,_,rfl⟩:=FU.1 h;omega
theorem iI (x:LI) (m:Nat) (i:Int):(b8 x m i).length<=m:=by unfold b8;rw [Lc];exact K9 (NC _ _) (by simp)
theorem Gs {x:LI} {m i:Nat} (Y:x.length=m) (hi:i<m) (h:nth x i ≠ 0):(b8 x m i).length+1=iK x:=by
 rw [<- rO Y];have h1:=(tf (p:=λj=>decide (nth x j ≠ 0)) (q:=λj=>decide (nth x j ≠ 0)) (p':=λj=>decide (nth x j ≠ 0) && decide ((j:Int) ≠ i)) (q':=λj=>decide (nth x j ≠ 0) && decide ((j:Int) ≠ i)) (i:=i)
  (λj Z=>by simp;omega) (λj Z=>by simp;omega) (by simpa using h) (by simpa using h) (by simp) (by simp) m 0 (by omega) (by omega)).1
 unfold qc at h1;rw [<- OG] at h1;exact h1.symm
theorem En {x y:LI} {m i:Nat} (hi:i<m) (Z:nth x i ≠ 0) (S:nth y i ≠ 0):fu (sS x m) (sS y m)=fu (b8 x m i) (b8 y m i):=by
 have h1:=tf (p:=λj=>decide (nth x j ≠ 0)) (q:=λj=>decide (nth y j ≠ 0)) (p':=λj=>decide (nth x j ≠ 0) && decide ((j:Int) ≠ i)) (q':=λj=>decide (nth y j ≠ 0) && decide ((j:Int) ≠ i)) (i:=i)
  (λj U=>by simp;omega) (λj U=>by simp;omega) (by simpa using Z) (by simpa using S) (by simp) (by simp) m 0 (by omega) (by omega)
 unfold qc at h1;rw [<- OG] at h1;obtain ⟨a,b,c⟩:=h1;unfold fu;change (sS x m).length=(b8 x m i).length+1 at a;change (sS y m).length=(b8 y m i).length+1 at b;change (b8 x m i).length=(b8 y m i).length->cmpL (sS x m) (sS y m)=cmpL (b8 x m i) (b8 y m i) at c;by_cases h:(b8 x m i).length=(b8 y m i).length
 ·rw [c h,a,b];simp [h]
 ·rw [a,b];have e1:decide ((b8 x m i).length=(b8 y m i).length)=false:=by simpa using h
  have Y:decide ((b8 x m i).length+1=(b8 y m i).length+1)=false:=by simp;exact h
  rw [e1,Y];simp
def vX (m:Nat) (i:Int) (b w:LI):LI:=if nth w i.toNat=1 then (if b=[]\/fu (b8 w m i) (b8 b m i)=true then w else b) else b
def bstL (m:Nat) (i:Int) (W:Ll):Nat->LI
 | 0=>[]
 | k+1=>vX m i (bstL m i W k) (ai W k)
theorem so {m:Nat} {i:Int} {W:Ll}:∀k,k<=W.length->bstL m i W k=[]\/(bstL m i W k ∈ W/\nth (bstL m i W k) i.toNat=1)
 | 0,_=>.inl rfl
 | k+1,h=>by
  rw [bstL,vX];split
  ·rename_i h1;split
   ·exact .inr ⟨eZ (by omega),h1⟩
   ·exact so k (by omega)
  ·exact so k (by omega)
section
def msgs (q:Nat):Nat->Ll
 | 0=>[[]]
 | k+1=>(List.range q).flatMap λ(a:Nat)=>(msgs q k).map λs=>(a:Int) :: s
def addAll (O:aP):LI->LI->Ll->LI
 | u,a :: s,r :: R=>addAll O (lU O u a r) s R
 | u,_,_=>u
theorem zp (O:aP) (q:Nat):∀(R:Ll) (u:LI),wlkS O q R u=(msgs q R.length).map λs=>addAll O u s R
 | [],u=>by simp [wlkS,msgs,addAll]
 | r :: R,u=>by rw [wlkS,LB,msgs,List.map_flatMap];congr 1;funext a;rw [zp O q R,O4];rfl
theorem lV {q:Nat}:∀ {k:Nat} {s:LI},s ∈ msgs q k ↔ s.length=k/\∀x ∈ s,0<=x/\x<(q:Int)
 | 0,s=>by
  rw [msgs,LQ];constructor
  ·rintro rfl;simp
  ·rintro ⟨h,_⟩;exact Lw h
 | k+1,s=>by
  rw [msgs,List.mem_flatMap];constructor
  ·rintro ⟨a,ha,h⟩;obtain ⟨t,U,rfl⟩:=List.mem_map.1 h;obtain ⟨h1,h2⟩:=lV.1 U;refine ⟨by simp [h1],λx Z=>?_⟩;rcases List.mem_cons.1 Z with rfl | Z
   ·have:=List.mem_range.1 ha;omega
   ·exact h2 x Z
  ·rintro ⟨h,h2⟩;match s,h,h2 with
   | x :: t,h,h2 =>
    have Z:=h2 x (by simp)
    refine ⟨x.toNat,List.mem_range.2 (by omega),List.mem_map.2 ⟨t,lV.2 ⟨by simpa using h,λy Y=>h2 y (by simp [Y])⟩,?_⟩⟩
    rw [Mk Z.1]
variable {O:aP} {m:Nat}
theorem sY {v:LI} {L:Ll} (h:v.length=L.length):∀(d j:Nat),j+d=L.length->addAll O (cmbTo O m v L j) (v.drop j) (L.drop j)=cmbTo O m v L L.length
 | 0,j,Z=>by
  obtain rfl:j=L.length:=by omega
  rw [L0 (KT _),L0 (by omega)];rfl
 | d+1,j,Z=>by rw [LH (show j<v.length by omega),LH (show j<L.length by omega),addAll];rw [<- sY h d (j+1) (by omega)];congr 1;rw [cmbTo,aj (show j<v.length by omega),aE (show j<L.length by omega)];rfl
theorem Cw {q:Nat} {L:Ll}:wlkS O q L (List.replicate m 0)=(msgs q L.length).map λv=>cmbTo O m v L L.length:=by rw [zp];refine MF λv Z=>?_;have h:=sY (O:=O) (m:=m) (v:=v) (L:=L) (lV.1 Z).1 L.length 0 (by omega);rw [MK,MK] at h;exact h
end
section
variable {P M:Int} {mod:LI} {m:Nat} {L:Ll}
def oD (P M:Int) (mod:LI) (m:Nat) (L:Ll):Ll:=wlkS (ah P M.toNat mod).ops (ah P M.toNat mod).q (aU (ah P M.toNat mod) L m) (List.replicate m 0)
theorem Fw (Z:aI P M mod m L=0):aU (ah P M.toNat mod) L m=gG (ah P M.toNat mod).ops m L:=by unfold aU gG bq;rfl
theorem IX {L:Ll} (F:bK (ah P M.toNat mod).ops (ah P M.toNat mod).El) (Y:bt (ah P M.toNat mod).El m L) {x:LI} :
  x ∈ wlkS (ah P M.toNat mod).ops (ah P M.toNat mod).q L (List.replicate m 0) ↔ Vc (ah P M.toNat mod).El m x/\RS (ah P M.toNat mod).ops (ah P M.toNat mod).El m L (λi=>nth x i):=by
 rw [Cw,Nv];constructor
 ·rintro ⟨v,Z,rfl⟩;obtain ⟨h1,h2⟩:=lV.1 Z;exact iM F Y (λk S=>h2 _ (aG (by omega))) L.length (KT _)
 ·rintro ⟨h1,h2⟩;obtain ⟨v,Z,h3⟩:=RS.KG F Y h2;have U:∀k,k<L.length->(ah P M.toNat mod).El (nth v k):=λk S=>Z.at S;have c1:=(iM F Y U L.length (KT _)).1;exact ⟨v,lV.2 ⟨Z.1,λy Q=>Z.2 y Q⟩,(gJ (by rw [h1.1,c1.1]) λi hi=>h3 i (by rw [<- h1.1];exact hi)).symm⟩
theorem pJ (Z:aI P M mod m L=0) {x:LI} :
  x ∈ oD P M mod m L ↔ Vc (ah P M.toNat mod).El m x/\RS (ah P M.toNat mod).ops (ah P M.toNat mod).El m (gG (ah P M.toNat mod).ops m L) (λi=>nth x i):=by
 obtain ⟨Q,e,S,Y,F,U⟩:=aZ Z;obtain rfl:m=Q:=by omega
 unfold oD;rw [Fw Z];exact IX F (mj F U)
def gE (P M:Int) (mod:LI) (m:Nat) (L:Ll) (i:Int):LI:=bstL m i (oD P M mod m L) (oD P M mod m L).length
theorem sE {a b:LI} (h:fu a b=false):b.length<=a.length:=by unfold fu at h;simp only [Bool.or_eq_false_iff,decide_eq_false_iff_not] at h;omega
theorem EC {a b:LI} (h:fu a b=true):a.length<=b.length:=by unfold fu at h;simp only [NO,Lm,LM] at h;omega
theorem Co {i:Int} {W:Ll}:∀k,k<=W.length->∀t,t<k->nth (ai W t) i.toNat=1->bstL m i W k ≠ []/\(b8 (bstL m i W k) m i).length<=(b8 (ai W t) m i).length
 | 0,_,t,U,_=>by omega
 | k+1,S,t,U,h1=>by
  have hne:ai W t ≠ []\/True:=.inr trivial;rw [bstL,vX];rcases LP t k with h | h
  ·obtain ⟨Y,Z⟩:=Co k (by omega) t h h1;split
   ·split
    ·rename_i h3;refine ⟨λe=>?_,?_⟩
     ·rename_i h2;rw [e] at h2;simp [nth] at h2
     ·rcases h3 with h3 | h3
      ·exact absurd h3 Y
      ·exact K9 (EC h3) Z
    ·exact ⟨Y,Z⟩
   ·exact ⟨Y,Z⟩
  ·obtain rfl:t=k:=by omega
   rw [KX h1];split
   ·exact ⟨λe=>by rw [e] at h1;simp [nth] at h1,KT _⟩
   ·rename_i h3;simp only [not_or,Bool.not_eq_true] at h3;exact ⟨h3.1,sE h3.2⟩
theorem xd (S:aI P M mod m L=0) (i:Int):(gE P M mod m L i=[]/\∀y ∈ oD P M mod m L,nth y i.toNat ≠ 1) \/
  (gE P M mod m L i ∈ oD P M mod m L/\nth (gE P M mod m L i) i.toNat=1/\∀y ∈ oD P M mod m L,nth y i.toNat=1->(b8 (gE P M mod m L i) m i).length<=(b8 y m i).length):=by
 have Z:∀y ∈ oD P M mod m L,nth y i.toNat=1->gE P M mod m L i ≠ []/\(b8 (gE P M mod m L i) m i).length<=(b8 y m i).length:=λy Y h1=>by obtain ⟨t,U,rfl⟩:=fZ Y;exact Co _ (KT _) t U h1
 rcases so (m:=m) (i:=i) (W:=oD P M mod m L) _ (KT _) with h | ⟨h1,h2⟩
 ·exact .inl ⟨h,λy Y h1=>(Z y Y h1).1 h⟩
 ·exact .inr ⟨h1,h2,λy Y h3=>(Z y Y h3).2⟩
def repTo (O:aP) (d x:LI) (S:LI):Nat->Int
 | 0=>0
 | k+1=>O.add (repTo O d x S k) (O.mul (O.neg (nth d (nth S k).toNat)) (nth x (nth S k).toNat))
end
section
variable {O:aP} {El:Int->Prop} {m:Nat}
end
section
variable {P M:Int} {mod:LI} {m:Nat} {L:Ll}
end
theorem rS {G:cZ} {l:LI} (h:ez G.q l=true):G.Ch l:=λx Z=>by have h1:=List.all_eq_true.1 h x Z;simpa [iQ,cZ.El] using h1
theorem Av {w:World} {b:Nat} {G:cZ} (q U:Nat) (x:Int) (Q:w.cell? ⟨q,0,none⟩=some (.pointer (some ⟨U,0,none⟩))) (S:w.cell? ⟨U,0,none⟩=some (.pointer (some ⟨b,0,none⟩))) (h:dU w b G) :
  Calls prog 183 #[cG x,.pointer (some ⟨q,0,none⟩)] w λe w'=>e = .returned (.bool (!(decide (0<=x) && decide (x<G.q))))/\w=w':=by
 go_enter func183,ntmps183;go_wp2_with fail;refine (J9 x h).mono ?_;rintro e w' ⟨rfl,rfl⟩;obtain ⟨z,Z⟩:∃z,(decide (0<=x) && decide (x<G.q))=z:=⟨_,rfl⟩
 have Y:=Z5 Z;rw [Z];clear Z;cases z
 ·go_wp2_with fail;go_ret;exact ⟨aX (by rw [Y.out];rfl),rfl⟩
 ·go_wp2_with fail;go_ret;exact ⟨aX (by rw [Y.out];rfl),rfl⟩
theorem eL (p:Int->Bool) (q:Nat) (a:OA) (n c:Nat) (l:LI) (w:World) (hi:Ints w a n l) (A:∀k,k<n->Calls prog 183 #[cG (nth l k),.pointer (some ⟨q,0,none⟩)] w λe w'=>e = .returned (.bool (p (nth l k)))/\w=w') :
  Calls prog 111 #[.slice a n c,.func (.func 183) #[] #[.pointer (some ⟨q,0,none⟩)]] w λe w'=>∃z:Int,e = .returned (cG z)/\(0<=z ↔ l.any p=true)/\w=w':=by
 have hpl:=hi.pl;have Q:=hi.max;have HF:=Z5 A;have G:=Z5 hi.len;unfold maxLen at Q;clear A;go_enter func111,ntmps111;go_wp2_with fail;go_loop [8] (λH=>∃k:Nat,k<=n/\H = cG k/\Hid (∀j,j<k->p (nth l j)=false)) (λH=>n - (intOf H).toNat);case atStart=>exact ⟨0,K0 _,rfl,λj N=>by omega⟩
 case round =>
  obtain ⟨k,hk,rfl,Z⟩:=hrel
  by_cases U:k<n
  ·have ck:=hi.cell k U
   have Y:=HF k U
   obtain ⟨z,S⟩:∃z,p (nth l k)=z:=⟨_,rfl⟩
   rw [S] at Y
   have F:=Z5 Y
   cases z
   ·have Hn:Hid (∀j,j<k+1->p (nth l j)=false):=λj N=>by
     by_cases e:j=k
     ·subst e;exact S
     ·exact Z j (by omega)
    clear S Y Z
    go_wp2_with fail
    refine F.mono ?_
    rintro e w' ⟨rfl,rfl⟩
    go_wp2_with fail
    go_round
    case rel=>exact ⟨k+1,by omega,by go_num,Hn⟩
    case measure=>simp [intOf] <;> omega
   ·have K:Hid (l.any p=true):=by show _=_;rw [Nk];exact ⟨nth l k,aG (by rw [G.out];exact U),S⟩
    clear S Y Z
    go_wp2_with fail
    refine F.mono ?_
    rintro e w' ⟨rfl,rfl⟩
    go_wp2_with fail
    go_ret
    exact ⟨k,rfl,⟨λ_=>by first | exact K.out | exact List.any_eq_true.1 K.out,λ_=>M3 _⟩,rfl⟩
  ·obtain rfl:k=n:=by omega
   have K:Hid (l.any p=false):=by show _=_;rw [Ny];intro x hx;obtain ⟨j,N,rfl⟩:=List.mem_iff_getElem.1 hx;have:=Z j (by rw [<- G.out];exact N);rw [aj N] at this;rw [this];decide
   go_wp2_with fail
   go_ret
   exact ⟨-1,rfl,⟨λh=>absurd h (by omega),λh=>by have h2:l.any p=true:=(by first | exact h | exact List.any_eq_true.2 h);rw [K.out] at h2;exact absurd h2 (by decide)⟩,rfl⟩
theorem qy (p:Int->Bool) (q:Nat) (a:OA) (n c:Nat) (l:LI) (w:World) (hi:Ints w a n l) (S:∀k,k<n->Calls prog 183 #[cG (nth l k),.pointer (some ⟨q,0,none⟩)] w λe w'=>e = .returned (.bool (p (nth l k)))/\w=w') :
  Calls prog 53 #[.slice a n c,.func (.func 183) #[] #[.pointer (some ⟨q,0,none⟩)]] w λe w'=>e = .returned (.bool (l.any p))/\w=w':=by
 have Q:=Z5 (eL p q a n c l w hi S);clear S;go_enter func53,ntmps53;go_wp2_with fail;refine Q.mono ?_;rintro e w' ⟨z,rfl,Z,rfl⟩;by_cases h0:0<=z
 ·have Y:Hid (l.any p=true):=Z.1 h0;have U:decide (0<=z)=true:=by simpa using h0
  clear Z h0;go_wp2_with fail;go_ret;exact ⟨aX Y.symm,rfl⟩
 ·have Y:Hid (l.any p=false):=by
   show _=_;cases h:l.any p
   ·rfl
   ·exact absurd (Z.2 h) h0
  have U:decide (0<=z)=false:=by simpa using h0
  clear Z h0;go_wp2_with fail;go_ret;exact ⟨aX Y.symm,rfl⟩
def ew (P M:Int) (mod:LI) (N:Int) (L:Ll) (y:LI) (W:Int):Int :=
 if aI P M mod N L=0 then (if (y.length:Int) ≠ N then 4 else if ez (ah P M.toNat mod).q y=false then 2 else if W<0\/N<W then 6 else 0) else aI P M mod N L
def lp (P M:Int) (am:OA) (S cm:Nat) (mod:LI) (N:Int) (a:OA) (n c:Nat) (L:Ll) (Y:OA) (U cy:Nat) (y:LI) (W:Int) (w:World) (e:Ending) (w':World):Prop :=
 PY w w'/\((ew P M mod N L y W ≠ 0/\e = .returned (.tuple #[.pointer none,cG (ew P M mod N L y W)])) \/
 (ew P M mod N L y W=0/\∃Z,e = .returned (.tuple #[.pointer (some ⟨Z,0,none⟩),cG 0])/\Iy P M am S cm mod N.toNat a n c L Y U cy ⟨0,W.toNat,true,y⟩ w w' Z))
theorem qo (P M:Int) (am:OA) (mn cm:Nat) (mod:LI) (N:Int) (a:OA) (n c:Nat) (L:Ll) (z:OA) (G cy:Nat) (y:LI) (W:Int) (w:World) (hmod:Ints w am mn mod) (hi:bw w a n L) (hy:Ints w z G y) :
  Calls prog 127 #[.agg #[cG P,cG M,.slice am mn cm,cG N,.slice a n c],.slice z G cy,cG W] w (lp P M am mn cm mod N a n c L z G cy y W w):=by
 have Hil:=Z5 hi.len;have Hyl:=Z5 hy.len;go_enter func127,ntmps127;go_wp2_with fail;obtain ⟨U,hU⟩:∃U:World,U=w.alloc (.cells #[cG P,cG M,.slice am mn cm,cG N,.slice a n c] 27):=⟨_,rfl⟩
 rw [<- hU];have K:PY w U:=by rw [hU];exact an _ _
 have x0:aQ U w.heap.size [cG P,cG M,.slice am mn cm,cG N,.slice a n c]:=by rw [hU];exact Po _ _ _ rfl
 have HX:=Z5 x0;clear hU x0;refine (BB P M am mn cm mod N a n c L W U (hmod.af K) (hi.af K)).mono ?_;rintro e w1 ⟨hb1,⟨hE,rfl⟩ | ⟨hE,b,S,rfl,F,hG,hb3,hB⟩⟩
 ·have HE:Hid (ew P M mod N L y W=aI P M mod N L):=KY hE;have Hne:=Z5 hE;have hE1:(aI P M mod N L == 0)=false:=by simpa using hE
  have hE2:(aI P M mod N L != 0)=true:=by simpa using hE
  have H:=Pm (Pm K hb1) (an w1 (.cells #[.pointer none] 143));clear hE;go_wp2_with fail;go_ret2;exact ⟨H,.inl ⟨by rw [HE.out];exact Hne.out,by rw [HE.out];rfl⟩⟩
 ·have HE:Hid (ew P M mod N L y W=if (G:Int) ≠ N then 4 else if ez (ah P M.toNat mod).q y=false then 2 else if W<0\/N<W then 6 else 0):=by show _=_;rw [ew,KX hE,Hyl.out]
  have Hrw:=Z5 (di hE);have hbn:=an w1 (.cells #[.pointer (some ⟨S.heap.size,0,none⟩)] 143);have H:=Pm (Pm K hb1) hbn;have xq:(w1.alloc (.cells #[.pointer (some ⟨S.heap.size,0,none⟩)] 143)).cell? ⟨w1.heap.size,0,none⟩=some (.pointer (some ⟨S.heap.size,0,none⟩)):=aF _ _ _ rfl 0;have hB4:=hB.af hbn;have A:=Pm hb3 hbn;have hG4:=hG.af A;have x4:=(HX.af hb1).af hbn;have c3:=x4.cell 3 rfl;have p0:=hB4.cell 0 rfl;have hy4:=(hy.af K).af (Pm hb1 hbn);have j:=Z5 (qy (λx=>!(decide (0<=x) && decide (x<(ah P M.toNat mod).q))) w1.heap.size z G cy y _ hy4 λk hk=>Av w1.heap.size S.heap.size (nth y k) xq p0 hG4);rw [vF] at j;have HB:=Z5 hB4;have HB1:=Z5 hB;have hmf:∀(fn:Fn) (first cap:Array Value) (w:World),(Instr.makeFunc fn first cap).run prog w = .ok (.func fn first cap) w:=λ_ _ _ _=>rfl;have hsw1:S.heap.size ≠ w1.heap.size:=by have:=hB.1;omega
  clear hB p0 hE hy4 hG4;by_cases h1:(G:Int) ≠ N
  ·have Q:Hid (ew P M mod N L y W=4):=by show _=_;rw [HE.out,KX h1]
   have d1:((G:Int) != N)=true:=by simpa using h1
   clear h1;go_wp2_with fail;go_ret2;exact ⟨H,.inl ⟨by rw [Q.out];decide,by rw [Q.out];rfl⟩⟩
  have hny:(G:Int)=N:=Classical.not_not.1 h1;have d1:((G:Int) != N)=false:=by simp [hny]
  have HE1:Hid (ew P M mod N L y W=if ez (ah P M.toNat mod).q y=false then 2 else if W<0\/N<W then 6 else 0):=by show _=_;rw [HE.out,KY h1]
  have Hny:=Z5 hny;clear h1 hny;obtain ⟨ze,hze⟩:∃ze,ez (ah P M.toNat mod).q y=ze:=⟨_,rfl⟩
  rw [hze] at j HE1;have Hze:=Z5 hze;clear hze;cases ze
  ·have Q:Hid (ew P M mod N L y W=2):=by show _=_;rw [HE1.out,KX rfl]
   go_wp2_with fail;refine j.mono ?_;rintro e w5 ⟨rfl,rfl⟩;go_wp2_with fail;go_ret2;exact ⟨H,.inl ⟨by rw [Q.out];decide,by rw [Q.out];rfl⟩⟩
  have HE3:Hid (ew P M mod N L y W=if W<0\/N<W then 6 else 0):=by show _=_;rw [HE1.out,KY (by decide)]
  by_cases h3:W<0
  ·have Q:Hid (ew P M mod N L y W=6):=by show _=_;rw [HE3.out,KX (.inl h3)]
   have d3:decide (W<0)=true:=by simpa using h3
   clear h3;go_wp2_with fail;refine j.mono ?_;rintro e w5 ⟨rfl,rfl⟩;go_wp2_with fail;go_ret2;exact ⟨H,.inl ⟨by rw [Q.out];decide,by rw [Q.out];rfl⟩⟩
  have d3:decide (W<0)=false:=by simpa using h3
  by_cases h4:N<W
  ·have Q:Hid (ew P M mod N L y W=6):=by show _=_;rw [HE3.out,KX (.inr h4)]
   have d4:decide (N<W)=true:=by simpa using h4
   clear h3 h4;go_wp2_with fail;refine j.mono ?_;rintro e w5 ⟨rfl,rfl⟩;go_wp2_with fail;go_ret2;exact ⟨H,.inl ⟨by rw [Q.out];decide,by rw [Q.out];rfl⟩⟩
  have d4:decide (N<W)=false:=by simpa using h4
  have Q:Hid (ew P M mod N L y W=0):=by
   show _=_;rw [HE3.out,KY];rintro (h | h)
   ·exact h3 h
   ·exact h4 h
  obtain ⟨m,hm,hm1,hm2,hLl,hRw⟩:=Hrw.out;have hPE0:Hid (Ak S b (ah P M.toNat mod) a n L N.toNat z G ⟨0,W.toNat,true,y⟩):=by
   have hn256:n<=1000000:=by rw [<- Hil.out];omega
   have hNm:N.toNat=G:=by have:=Hny.out;omega
   have hyw2:=(hy.af K).af F;exact { g:=hG,iZ:=(hi.af K).af F,rws:=by rw [hm,KV];exact hRw,n6:=hn256,m6:=by omega,w6:=by show W.toNat<=64;omega,yl:=λ_=>hNm.symm,y:=λ_=>by rw [hNm];exact hyw2,ye:=λ_=>rS Hze.out }
  have Hnn:=Z5 (K3 (show 0<=N by omega) (show 0<=W by omega));go_wp2_with fail;refine j.mono ?_;rintro e w5 ⟨rfl,rfl⟩;clear j;go_wp2_with fail;obtain ⟨Y,hY⟩:∃Y:World,Y=w1.alloc (.cells #[.pointer (some ⟨S.heap.size,0,none⟩)] 143):=⟨_,rfl⟩
  rw [<- hY] at HB xq H A ⊢;have HF:Hid (∀Z:World,Z=((Y.setCell ⟨S.heap.size,6,none⟩ (.slice z G cy)).setCell ⟨S.heap.size,7,none⟩ (.bool true)).drew->lp P M am mn cm mod N a n c L z G cy y W w (.returned (.tuple #[.pointer (some ⟨S.heap.size,0,none⟩),cG 0])) Z):=λZ hZ=>by rw [hZ];have h5:=((HB.setCell 6 (.slice z G cy)).setCell 7 (.bool true)).af (KU _ _).drew;refine ⟨((H.setCell (p:=⟨S.heap.size,6,none⟩) (K9 K.size F.size) _).setCell (p:=⟨S.heap.size,7,none⟩) (K9 K.size F.size) _).drew,.inr ⟨Q,S.heap.size,rfl,b,S,rfl,Pm K F,hPE0,((A.setCell (by simp) _).setCell (by simp) _).drew,?_⟩⟩;rw [mA];dsimp only;rw [Mk Hnn.1,Mk Hnn.2];exact h5
  have HF2:Hid (∀Z:World,Z=((Y.setCell ⟨S.heap.size,6,none⟩ (.slice z G cy)).setCell ⟨S.heap.size,7,none⟩ (.bool true))->lp P M am mn cm mod N a n c L z G cy y W w (.returned (.tuple #[.pointer (some ⟨S.heap.size,0,none⟩),cG 0])) Z):=λZ hZ=>by
   rw [hZ];have h5:=((HB.setCell 6 (.slice z G cy)).setCell 7 (.bool true))
   refine ⟨((H.setCell (p:=⟨S.heap.size,6,none⟩) (K9 K.size F.size) _).setCell (p:=⟨S.heap.size,7,none⟩) (K9 K.size F.size) _),.inr ⟨Q,S.heap.size,rfl,b,S,rfl,Pm K F,hPE0,((A.setCell (by simp) _).setCell (by simp) _),?_⟩⟩;rw [mA];dsimp only;rw [Mk Hnn.1,Mk Hnn.2];exact h5
  have f6:=HB.frozen 6;have q6:=HB.cell 6 rfl;have f7:=HB.frozen 7;have q7:=HB.cell 7 rfl;have s7:(Y.setCell ⟨S.heap.size,6,none⟩ (.slice z G cy)).cell? ⟨S.heap.size,7,none⟩=some (.bool false):=(HB.setCell 6 (.slice z G cy)).cell 7 rfl;have s6:(Y.setCell ⟨S.heap.size,7,none⟩ (.bool true)).cell? ⟨S.heap.size,6,none⟩=some ds:=(HB.setCell 7 (.bool true)).cell 6 rfl;have x6:(Y.setCell ⟨S.heap.size,6,none⟩ (.slice z G cy)).cell? ⟨w1.heap.size,0,none⟩=some (.pointer (some ⟨S.heap.size,0,none⟩)):=by rw [Le _ _ _ _ (by simp <;> omega)];exact xq
  have x7:(Y.setCell ⟨S.heap.size,7,none⟩ (.bool true)).cell? ⟨w1.heap.size,0,none⟩=some (.pointer (some ⟨S.heap.size,0,none⟩)):=by rw [Le _ _ _ _ (by simp <;> omega)];exact xq
  have x67:((Y.setCell ⟨S.heap.size,6,none⟩ (.slice z G cy)).setCell ⟨S.heap.size,7,none⟩ (.bool true)).cell? ⟨w1.heap.size,0,none⟩=some (.pointer (some ⟨S.heap.size,0,none⟩)):=by rw [Le _ _ _ _ (by simp <;> omega)];exact x6
  clear h3 h4 hm hm1 hm2 hY H A;go_region;all_goals (
   go_wp2_with fail
   go_ret2
   first | exact HF _ rfl | exact HF2 _ rfl)
def mI (P M:Int) (mod:LI) (N:Int) (L:Ll) (y:LI) (W:Int) (Z:Ll):Int :=
 if ew P M mod N L y W=0 then provS (ah P M.toNat mod).ops L N.toNat ⟨0,W.toNat,true,y⟩ Z else ew P M mod N L y W
def gM (P M:Int) (mod:LI) (N:Int) (L:Ll) (y:LI) (W:Int):Int × Ll :=
 if ew P M mod N L y W=0 then sX (ah P M.toNat mod).ops L N.toNat ⟨0,W.toNat,true,y⟩ else (ew P M mod N L y W,[])
theorem pB (P M:Int) (am:OA) (A cm:Nat) (mod:LI) (N:Int) (a:OA) (n c:Nat) (L:Ll) (ay:OA) (ny cy:Nat) (y:LI) (W:Int) (F:OA) (nx cx:Nat) (Q:Ll) (w:World)
  (z:Ints w am A mod) (hi:bw w a n L) (hy:Ints w ay ny y) (hts:bw w F nx Q) :
  Calls prog 82 #[.agg #[cG P,cG M,.slice am A cm,cG N,.slice a n c],.slice ay ny cy,cG W,.agg #[.slice F nx cx]] w λe w'=>e = .returned (cG (mI P M mod N L y W Q))/\PY w w':=by
 go_enter func82,ntmps82;go_wp2_with fail;obtain ⟨U,hU⟩:∃U:World,U=(w.alloc (.cells #[cG P,cG M,.slice am A cm,cG N,.slice a n c] 27)).alloc (.cells #[.slice F nx cx] 103):=⟨_,rfl⟩
 rw [<- hU];have Z:PY w U:=by rw [hU];exact bY _ _ _
 have x0:aQ U (w.heap.size+1) [.slice F nx cx]:=by rw [hU];exact Po _ _ _ (by simp)
 have HX:=Z5 x0;clear hU x0;refine (qo P M am A cm mod N a n c L ay ny cy y W U (z.af Z) (hi.af Z) (hy.af Z)).mono ?_;rintro e w1 ⟨K,⟨S,rfl⟩ | ⟨S,pb,rfl,hCl⟩⟩
 ·have HE:Hid (mI P M mod N L y W Q=ew P M mod N L y W):=KY S;have hE1:(ew P M mod N L y W == 0)=false:=by simpa using S
  have hE2:(ew P M mod N L y W != 0)=true:=by simpa using S
  have Y:=Pm Z K;clear S;go_wp2_with fail;go_ret;exact ⟨by rw [HE.out];rfl,Y⟩
 ·have HE:Hid (mI P M mod N L y W Q=provS (ah P M.toNat mod).ops L N.toNat ⟨0,W.toNat,true,y⟩ Q):=KX S;have x1:=HX.af K;have c0:=x1.cell 0 rfl;obtain ⟨b,w2,rfl,G,H,hb3,hB⟩:=hCl;have HPr:=Z5 (wm w2.heap.size P M am A cm c cy F nx cx Q H ((hts.af Z).af G) (KT _) hb3 hB);have j:=Pm Z G;clear x1 hB H S;go_wp2_with fail;refine HPr.mono ?_;rintro e w3 ⟨rfl,hb4⟩;have Y:=Pm j hb4;go_wp2_with fail;go_ret;exact ⟨by rw [HE.out];rfl,Y⟩
theorem pr (P M:Int) (am:OA) (mn cm:Nat) (mod:LI) (N:Int) (a:OA) (n c:Nat) (L:Ll) (ay:OA) (ny cy:Nat) (y:LI) (W:Int) (w:World)
  (hmod:Ints w am mn mod) (hi:bw w a n L) (hy:Ints w ay ny y) :
  Calls prog 75 #[.agg #[cG P,cG M,.slice am mn cm,cG N,.slice a n c],.slice ay ny cy,cG W] w (j4 (gM P M mod N L y W) w):=by
 obtain ⟨V,hV⟩:∃V,gM P M mod N L y W=V:=⟨_,rfl⟩
 rw [hV];have HV:=Z5 hV;clear hV;go_enter func75,ntmps75;go_wp2_with fail;obtain ⟨U,hU⟩:∃U:World,U=(w.alloc (.cells #[cG P,cG M,.slice am mn cm,cG N,.slice a n c] 27)).alloc (.cells #[ds] 103):=⟨_,rfl⟩
 rw [<- hU];have Z:PY w U:=by rw [hU];exact bY _ _ _
 have hsU:U.heap.size=w.heap.size+2:=by rw [hU];simp
 have x0:aQ U (w.heap.size+1) [ds]:=by rw [hU];exact Po _ _ _ (by simp)
 have HX:=Z5 x0;clear hU x0;refine (qo P M am mn cm mod N a n c L ay ny cy y W U (hmod.af Z) (hi.af Z) (hy.af Z)).mono ?_;rintro e w1 ⟨G,⟨Q,rfl⟩ | ⟨Q,pb,rfl,hCl⟩⟩
 ·have HE:Hid (V=(ew P M mod N L y W,[])):=by show _=_;rw [<- HV.out];exact KY Q
  have hE1:(ew P M mod N L y W == 0)=false:=by simpa using Q
  have hE2:(ew P M mod N L y W != 0)=true:=by simpa using Q
  have S:=Z5 Q;have A:=HX.af G;have z0:=A.cell 0 rfl;have f0:=A.frozen 0;have F:=Z5 (λv:Value=>(Pm Z G).setCell (p:=⟨w.heap.size+1,0,none⟩) (by simp) v);clear Q A;generalize ew P M mod N L y W=er at *;go_wp2_with fail;have z1:(w1.setCell ⟨w.heap.size+1,0,none⟩ ds).cell? ⟨w.heap.size+1,0,none⟩=some ds:=Lh _ _ _ z0;exact bodyPost_ret (v:=.tuple #[.agg #[ds],cG er]) (by simp [results,results75,go_sem,z0,z1]) rfl ⟨F _,.inl ⟨by rw [HE.out];exact S.out,by rw [HE.out]⟩⟩
 ·have HE:Hid (sX (ah P M.toNat mod).ops L N.toNat ⟨0,W.toNat,true,y⟩=V):=by show _=_;rw [<- HV.out];exact (KX Q).symm
  have A:=HX.af G;obtain ⟨b,w2,rfl,j,z,hb3,hB⟩:=hCl;have H:=BF w2.heap.size P M am mn cm c cy z (KT _) hb3 hB;rw [HE.out] at H;have HTr:=Z5 H;have Y:=Pm Z j;have x2:=HX.af j;have hs2:w.heap.size+1<w2.heap.size:=x2.1;clear A hB z Q H;go_wp2_with fail;refine HTr.mono ?_;rintro e w3 ⟨hb4,⟨hv,rfl⟩ | ⟨hv,ar,cr,R,rfl,hO⟩⟩
  ·have K:=x2.af hb4;have z0:=K.cell 0 rfl;have f0:=K.frozen 0;have F:=Z5 (λv:Value=>(Pm Y hb4).setCell (p:=⟨w.heap.size+1,0,none⟩) (by simp) v);have S:=Z5 hv;obtain ⟨ve,vt⟩:=V;dsimp only at S ⊢;clear K hv;go_wp2_with fail;have z1:(w3.setCell ⟨w.heap.size+1,0,none⟩ ds).cell? ⟨w.heap.size+1,0,none⟩=some ds:=Lh _ _ _ z0;exact bodyPost_ret (v:=.tuple #[.agg #[ds],cG ve]) (by simp [results,results75,go_sem,z0,z1]) rfl ⟨F _,.inl ⟨S,rfl⟩⟩
  ·have K:=x2.af hb4;have z0:=K.cell 0 rfl;have f0:=K.frozen 0;have hF:∀v:Value,PY w (w3.setCell ⟨w.heap.size+1,0,none⟩ v)/\aO (w3.setCell ⟨w.heap.size+1,0,none⟩ v) w.heap.size ar V.2.length cr R V.2:=λv=>by refine ⟨(Pm Y hb4).setCell (by simp) v,?_⟩;refine (aO.mono hO Y.size).bp λx hx=>Lf _ _ _ _ λe=>?_;have h1:=(hO.lt x hx).1;have e':x=w.heap.size+1:=e;omega
   have F:=Z5 hF;obtain ⟨ve,vt⟩:=V;dsimp only at hv F ⊢;subst hv;clear K hO hF;go_wp2_with fail;have z1:(w3.setCell ⟨w.heap.size+1,0,none⟩ (.slice ar vt.length cr)).cell? ⟨w.heap.size+1,0,none⟩=some (.slice ar vt.length cr):=Lh _ _ _ z0;exact bodyPost_ret (v:=.tuple #[.agg #[.slice ar vt.length cr],cG 0]) (by simp [results,results75,go_sem,z0,z1]) rfl ⟨(F _).1,.inr ⟨rfl,ar,cr,R,rfl,(F _).2⟩⟩
section
variable {O:aP} {El:Int->Prop} {m:Nat} {L:Ll}
theorem n7 (F:bK O El) {v r:LI} {i x:Nat} (Z:Vc El m v) (U:Vc El m r) (hi:i<m) (Y:x<m):nth (gz O v i r) x=O.add (nth v x) (O.neg (O.mul (nth r x) (nth v i))):=by
 by_cases h0:nth v i=0
 ·have e:gz O v i r=v:=by unfold gz;rw [KX h0]
  rw [e,h0,F.dh (U.at Y),F.fw,F.add_zero _ (Z.at Y)]
 ·rw [sg O v i r x (by rw [U.1,Z.1]) (by rw [Z.1];exact Y) h0];split
  ·rename_i h1;rw [h1,F.jw (Z.at hi),F.fw,F.add_zero _ (Z.at Y)]
  ·rw [F.mul_comm _ _ (Z.at hi) (U.at Y)]
theorem JD (F:bK O El) {v r:LI} {i:Nat} (Z:Vc El m v) (Y:Vc El m r) (hi:i<m):Vc El m (gz O v i r) :=
 ⟨by rw [eK _ _ _ _ (by rw [Y.1,Z.1])];exact Z.1,qG F.cl Z.2 Y.2 (by rw [Y.1,Z.1]) (by rw [Z.1];exact hi)⟩
theorem zN (O:aP) (t i:Nat) (L:Ll):∀l,l<=L.length->∀j,ai (dW O t i L l) j=if j<l/\t<j then gz O (ai L j) i (ai L t) else ai L j
 | 0,_,j=>by rw [dW,KY (by omega)]
 | l+1,S,j=>by
  have Y:=zN O t i L l (by omega);rw [dW];by_cases Z:t<l
  ·rw [KX Z,eC _ _ _ _ (by rw [fI];omega)];by_cases e:j=l
   ·subst e;rw [KX rfl,Y j,Y t,KY (by omega),KY (by omega),KX ⟨by omega,Z⟩]
   ·rw [KY e,Y j];by_cases h:j<l/\t<j
    ·rw [KX h,KX ⟨by omega,h.2⟩]
    ·rw [KY h,KY λU=>h ⟨by omega,U.2⟩]
  ·rw [KY Z,Y j];by_cases h:j<l/\t<j
   ·rw [KX h,KX ⟨by omega,h.2⟩]
   ·rw [KY h,KY λU=>h ⟨by omega,U.2⟩]
theorem F8 (O:aP) {L:Ll} {t k:Nat} (i:Nat) (Z:t<L.length) (U:k<L.length) (Q:t<=k) {j:Nat} (S:j<L.length) :
  ai (iN O L t k i) j=if t<j then gz O (ai L (dX t k j)) i ((ai L k).map (O.mul (O.inv (nth (ai L k) i)))) else if j=t then (ai L k).map (O.mul (O.inv (nth (ai L k) i))) else ai L j:=by
 have Y:dX t k t=k:=by
  unfold dX;by_cases e:t=k
  ·rw [KX e];exact e
  ·rw [KY e,KX rfl]
 unfold iN;rw [gO _ _ _ _ Z U,Y,zN _ _ _ _ _ (by rw [LZ,bC];exact KT _)];rw [eC _ _ _ _ (by rw [bC];exact Z),eC _ _ _ _ (by rw [bC];exact Z),KX rfl,gO _ _ _ _ Z U];by_cases h:t<j
 ·rw [KX ⟨S,h⟩,KX h,KY (by omega)]
 ·rw [KY λK=>h K.2,KY h];by_cases e:j=t
  ·rw [KX e,KX e]
  ·rw [KY e,KY e];have N:dX t k j=j:=by unfold dX;rw [KY (by omega),KY e]
   rw [N]
structure JF (O:aP) (El:Int->Prop) (m:Nat) (L:Ll) (y t:LI) (k:Nat) (st:LS):Prop where
 rws:bt El m st.rows
 len:st.rows.length=L.length
 vc:Vc El m st.sum
 top:st.top=k
 kl:k<=L.length
 sup:eF O El m L st.rows
 sub:eF O El m st.rows L
 cos:∃f,RS O El m L f/\(∀x,x<m->El (f x))/\∀x,x<m->nth st.sum x=O.add (nth y x) (f x)
 one:∀i,i<k->nth (ai st.rows i) (nth t i).toNat=1
 zero:∀j i,j<k->j<i->i<L.length->nth (ai st.rows i) (nth t j).toNat=0
 sz:∀j,j<k->nth st.sum (nth t j).toNat=0
theorem Iz (F:bK O El) {R:Ll} {t:LI} {k:Nat} (z:bt El m R) (hk:k<=R.length) (U:∀i,i<k->nth (ai R i) (nth t i).toNat=1) (hzero:∀j i,j<k->j<i->i<R.length->nth (ai R i) (nth t j).toNat=0)
  {x:Nat} (H:∀i,k<=i->i<R.length->nth (ai R i) x=0):kB O El R.length (ba R) (j9 t k) x:=by
 intro Q Z h0;have N:=ch z F.zero;have hu:∀j,j<k->Q (gu R.length j)=0:=by
  intro j;induction j using Nat.strongRecOn with
  | ind j A =>
   intro K
   have h1:=h0 (nth t j).toNat ((fM t _ k).2 ⟨j,K,rfl⟩)
   rw [ja F Z (N _)] at h1
   have S:=Z.el _ (iF F R.length j)
   have h2:∀p,p<R.length->nth (ba R (nth t j).toNat) p=nth (ai R p) (nth t j).toNat:=λp Y=>dj R _ p Y
   rw [lW F (x:=j) (by
    show El (O.mul (Q (gu R.length j)) (nth (ba R (nth t j).toNat) j));rw [h2 j (by omega),U j K,F.iV S];exact S) R.length (λp Y G=>by
    show O.mul (Q (gu R.length p)) (nth (ba R (nth t j).toNat) p)=0;rw [h2 p Y];by_cases e:p<j
    ·rw [A p e (by omega),<- h2 p Y,F.jw ((N _).at Y)]
    ·rw [hzero j p K (by omega) Y,F.dh (Z.el _ (iF F _ p))]),KX (by omega)] at h1
   have h3:O.mul (Q (gu R.length j)) (nth (ba R (nth t j).toNat) j)=0:=h1
   rw [h2 j (by omega),U j K,F.iV S] at h3
   exact h3
 rw [ja F Z (N _)];refine mc F _ λp Y=>?_;show O.mul (Q (gu R.length p)) (nth (ba R x) p)=0;by_cases e:p<k
 ·rw [hu p e,F.jw ((N _).at Y)]
 ·rw [dj R _ p Y,H p (by omega) Y,F.dh (Z.el _ (iF F _ p))]
theorem IE {t:LI} {k:Nat} (Y:k<=t.length) {y:Nat} (h:y ∈ j9 t k):y ∈ gA (t.take k):=by obtain ⟨j,Z,rfl⟩:=(fM t _ k).1 h;refine pM.2 ⟨nth t j,?_,rfl⟩;rw [aj (show j<t.length by omega)];rw [List.mem_take_iff_getElem];exact ⟨j,by omega,rfl⟩
theorem EL (F:bK O El) (Z:bt El m L) {t:LI} (U:kC O L t=t.length) {k:Nat} (Y:k<t.length):¬ kB O El L.length (ba L) (gA (t.take k)) (nth t k).toNat:=λS=>by
 have h1:kC O L (t.take (k+1))=(t.take (k+1)).length:=Gp F Z (A:=t.drop (k+1)) (by rw [Nb];exact U);have h2:=Ff O L (t.take k);have h3:=jR F Z (t.take k ++ [nth t k]);rw [nD] at h3;have Q:=h3.uniq (Rk.dep _ S (jR F Z (t.take k)));have e:t.take (k+1)=t.take k ++ [nth t k]:=by rw [K4 Y,aj Y]
 rw [e] at h1;rw [K6,Lt,Lo] at h1;rw [Lt] at h2;omega
theorem Gm (F:bK O El) (hL:bt El m L) {y t:LI} (hT:tu m t) (ht:kC O L t=t.length) {k:Nat} (hk:k<t.length) {st:LS} (h:JF O El m L y t k st) (hy:Vc El m y):JF O El m L y t (k+1) (jE O st (nth t k).toNat):=by
 have hi0:=hT k hk;have hi:(nth t k).toNat<m:=by omega
 obtain ⟨i,hie⟩:∃i,(nth t k).toNat=i:=⟨_,rfl⟩
 have htop:=h.top;have hlen:=h.len;have hkl:k<=st.rows.length:=by rw [hlen];exact h.kl
 have Q:bd st.rows i st.top ≠ st.rows.length:=λhf=>by
  refine EL F hL ht hk ?_;have h1:kB O El st.rows.length (ba st.rows) (j9 t k) i:=Iz F h.rws hkl h.one (λj U h1 h2 h3=>h.zero j U h1 h2 (by omega)) λp hp hpl=>by refine lF st.rows i (st.rows.length - st.top) st.top p (by omega) ?_;unfold bd at hf;omega
  have h2:=eF.cl h.sup (λz hz=>by obtain ⟨j,Y,rfl⟩:=(fM t _ k).1 hz;have:=hT j (by omega);omega) (by omega) h1;rw [hie];exact (gg F hL).sub (λz hz=>IE (by omega) hz) h2
 obtain ⟨a1,a2,a3⟩:=B2 (by omega) Q;have hq:∃q,bd st.rows i st.top=q:=⟨_,rfl⟩
 obtain ⟨q,hqe⟩:=hq;rw [hqe] at a1 a2 a3 Q;have hkn:k<st.rows.length:=by omega
 rw [hie] at hi ⊢;have hstep:jE O st i=⟨iN O st.rows st.top q i,gz O st.sum i (ai (iN O st.rows st.top q i) st.top),st.top+1⟩:=by unfold jE;rw [hqe,KY Q]
 rw [hstep,htop];rw [htop] at a1;have hrq:=h.rws.row (i:=q) a2;have hp:El (nth (ai st.rows q) i):=Ps hrq hi;have hpi:=F.cl.inv _ hp a3;obtain ⟨N,hN⟩:∃N,(ai st.rows q).map (O.mul (O.inv (nth (ai st.rows q) i)))=N:=⟨_,rfl⟩
 have K:Vc El m N:=by rw [<- hN];exact Vc.EH F hrq hpi
 have hNx:∀x,x<m->nth N x=O.mul (O.inv (nth (ai st.rows q) i)) (nth (ai st.rows q) x):=λx Z=>by rw [<- hN];exact kE O _ _ (by rw [hrq.1];exact Z)
 have hNi:nth N i=1:=by rw [hNx i hi,F.mul_comm _ _ hpi hp,F.mul_inv _ hp a3]
 obtain ⟨R',hR'⟩:∃R',iN O st.rows k q i=R':=⟨_,rfl⟩
 have S:∀j,j<st.rows.length->ai R' j=if k<j then gz O (ai st.rows (dX k q j)) i N else if j=k then N else ai st.rows j:=λj Y=>by rw [<- hR',F8 O i hkn a2 a1 Y,hN]
 have hR'l:R'.length=st.rows.length:=by rw [<- hR',jU]
 have hR'r:bt El m R':=by rw [<- hR'];exact rG F.cl h.rws hkn a2 hi a3
 have G:ai R' k=N:=by rw [S k hkn,KY (by omega),KX rfl]
 have A:∀j,j<st.rows.length->dX k q j<st.rows.length:=λj Y=>ka hkn a2 Y;have H:∀j x,j<st.rows.length->k<j->x<m->nth (ai R' j) x=O.add (nth (ai st.rows (dX k q j)) x) (O.neg (O.mul (nth N x) (nth (ai st.rows (dX k q j)) i))):=λj x Y hkj Z=>by rw [S j Y,KX hkj];exact n7 F (h.rws.row (A j Y)) K hi Z
 have hNrs:RS O El m st.rows (λx=>nth N x):=((PB F a2).smul F hpi).congr λx Z=>hNx x Z;have hsub':eF O El m R' st.rows:=λj Y=>by
  rw [hR'l] at Y;by_cases h1:k<j
  ·exact ((PB F (A j Y)).comb F hNrs (Ps (h.rws.row (A j Y)) hi)).congr λx Z=>H j x Y h1 Z
  ·by_cases h2:j=k
   ·subst h2;rw [G];exact hNrs
   ·rw [S j Y,KY h1,KY h2];exact PB F Y
 have hkR:k<R'.length:=by omega
 have hsup':eF O El m st.rows R':=λj Y=>by
  by_cases h1:j<k
  ·refine (PB F (i:=j) (by omega)).congr λx Z=>?_;rw [S j Y,KY (by omega),KY (by omega)]
  ·by_cases h2:j=q
   ·subst h2;refine ((PB F hkR).smul F hp).congr λx Z=>?_;have hx1:El (nth (ai st.rows j) x):=Ps hrq Z;rw [G,hNx x Z,<- F.mul_assoc _ _ _ hp hpi hx1,F.mul_inv _ hp a3,F.one_mul _ hx1]
   ·obtain ⟨j',hj',hkj,hfj⟩:∃j',j'<st.rows.length/\k<j'/\dX k q j'=j:=by
     by_cases h3:j=k
     ·refine ⟨q,a2,by omega,?_⟩;unfold dX;rw [KX rfl,h3]
     ·refine ⟨j,Y,by omega,?_⟩;unfold dX;rw [KY h2,KY h3]
    have hs:El (nth (ai st.rows j) i):=Ps (h.rws.row Y) hi;refine ((PB F (i:=j') (by omega)).comb F (PB F hkR) (F.cl.neg _ hs)).congr λx Z=>?_;have hx2:El (nth (ai st.rows j) x):=Ps (h.rws.row Y) Z;have hq:=F.cl.mul _ _ (K.at Z) hs;rw [H j' x hj' hkj Z,hfj,G,F.mul_neg (K.at Z) hs,F.neg_neg hq,F.add_assoc _ _ _ hx2 (F.cl.neg _ hq) hq,F.lL hq,F.add_zero _ hx2]
 rw [hR',G];have hlow:∀j p,j<k->k<=p->p<st.rows.length->nth (ai st.rows p) (nth t j).toNat=0:=λj p h1 h2 h3=>h.zero j p h1 (by omega) (by omega);have hNj:∀j,j<k->nth N (nth t j).toNat=0:=λj Y=>by have:=hT j (by omega);rw [hNx _ (by omega),hlow j q Y a1 a2,F.dh hpi]
 refine ⟨hR'r,(show R'.length=L.length by omega),JD F h.vc K hi,rfl,by omega,h.sup.trans hsup',hsub'.trans h.sub,?_,?_,?_,?_⟩
 ·obtain ⟨f,hf,hfe,hfx⟩:=h.cos;have hs:=h.vc.at hi;refine ⟨_,hf.comb F (h.sub.rs hNrs) hs,λx Z=>F.cl.add _ _ (hfe x Z) (F.cl.neg _ (F.cl.mul _ _ (K.at Z) hs)),λx Z=>?_⟩;have hq:=F.cl.neg _ (F.cl.mul _ _ (K.at Z) hs);show nth (gz O st.sum i N) x=_;rw [n7 F h.vc K hi Z,hfx x Z,F.add_assoc _ _ _ (hy.at Z) (hfe x Z) hq]
 ·intro U hi';show nth (ai R' U) _=1;by_cases e:U=k
  ·subst e;rw [G,hie];exact hNi
  ·rw [S U (by omega),KY (by omega),KY e];exact h.one U (by omega)
 ·intro j U Y hji hil;show nth (ai R' U) _=0;have htj:=hT j (by omega);by_cases e:j=k
  ·subst e;rw [hie,H U i (by omega) hji hi,hNi];have hv:El (nth (ai st.rows (dX j q U)) i):=Ps (h.rws.row (A U (by omega))) hi;rw [F.one_mul _ hv,F.add_neg _ hv]
  ·by_cases e2:k<U
   ·rw [H U _ (by omega) e2 (by omega),hNj j (by omega)];have hv:El (nth (ai st.rows (dX k q U)) i):=Ps (h.rws.row (A U (by omega))) hi;have hfk:k<=dX k q U:=by unfold dX;split <;> (try split) <;> omega
    rw [hlow j _ (by omega) hfk (A U (by omega)),F.jw hv,F.fw,F.add_zero _ F.zero]
   ·by_cases e3:U=k
    ·subst e3;rw [G];exact hNj j (by omega)
    ·rw [S U (by omega),KY e2,KY e3];exact h.zero j U (by omega) hji hil
 ·intro j Y;show nth (gz O st.sum i N) _=0;have htj:=hT j (by omega);have hs:=h.vc.at hi;by_cases e:j=k
  ·subst e;rw [hie,n7 F h.vc K hi hi,hNi,F.one_mul _ hs,F.add_neg _ hs]
  ·rw [n7 F h.vc K hi (by omega),hNj j (by omega),h.sz j (by omega),F.jw hs,F.fw,F.add_zero _ F.zero]
theorem Cc (F:bK O El) (Y:bt El m L) {y t:LI} (S:tu m t) (U:kC O L t=t.length) (Z:Vc El m y):∀k,k<=t.length->JF O El m L y t k (gN O L y t k)
 | 0,_=>by refine ⟨Y,rfl,Z,rfl,K0 _,eF.refl F L,eF.refl F L,?_,λi hi=>by omega,λj i N=>by omega,λj N=>by omega⟩;refine ⟨λ_=>0,?_,λx _=>F.zero,λx Q=>by show nth y x=_;rw [F.add_zero _ (Z.at Q)]⟩;exact RS.Gb F λ_ _=>rfl
 | k+1,K=>by rw [gN];exact Gm F Y S U (by omega) (Cc F Y S U Z k (by omega)) Z
def Kd (O:aP) (El:Int->Prop) (m:Nat) (L:Ll) (y X:LI):Prop:=Vc El m X/\∃f,RS O El m L f/\(∀x,x<m->El (f x))/\∀x,x<m->nth X x=O.add (nth y x) (f x)
theorem GD (F:bK O El) (hL:bt El m L) {y X X' t Q:LI} (hy:Vc El m y) (hX:Kd O El m L y X) (hX':Kd O El m L y X') (hT:tu m t) (ht:kC O L Q<=kC O L t) (hQ:∀x ∈ t,x ∈ Q)
  (h0:∀x ∈ t,nth X x.toNat=0) (h0':∀x ∈ t,nth X' x.toNat=0) {x:Int} (hx:x ∈ Q) (Y:x.toNat<m):nth X x.toNat=nth X' x.toNat:=by
 obtain ⟨hXv,f,⟨e,he,G⟩,U,hfx⟩:=hX;obtain ⟨hXv',f',⟨e',he',N⟩,Z,S⟩:=hX';have A:=F.one;have hc:kB O El L.length (ba L) (gA t) x.toNat:=by
  refine Lr λhn=>?_;have h1:=IV F hL (Q:=t) (x:=x) hn;have h2:=E6 F hL (Q:=t ++ [x]) (Q':=Q) λz K=>by
   rcases List.mem_append.1 K with K | K
   ·exact hQ z K
   ·rw [List.mem_singleton.1 K];exact hx
  omega
 have hd:=hc _ (he.comb F he' A) λz K=>by obtain ⟨p,hp,rfl⟩:=pM.1 K;obtain ⟨j,hj,rfl⟩:=List.mem_iff_getElem.1 hp;have hb:=hT j hj;rw [aj hj] at hb;show O.add (e (ba L (t[j]).toNat)) (O.neg (O.mul (e' (ba L (t[j]).toNat)) 1))=0;have k1:=h0 _ hp;have k2:=h0' _ hp;rw [hfx _ (by omega)] at k1;rw [S _ (by omega)] at k2;have yv:=hy.at (i:=(t[j]).toNat) (by omega);have q1:=F.jX yv (U _ (by omega)) k1;have q2:=F.jX yv (Z _ (by omega)) k2;rw [<- G _ (by omega),<- N _ (by omega),q1,q2,F.iV (F.cl.neg _ yv),F.add_neg _ (F.cl.neg _ yv)]
 have H:O.add (e (ba L x.toNat)) (O.neg (O.mul (e' (ba L x.toNat)) 1))=0:=hd;rw [<- G _ Y,<- N _ Y,F.iV (Z _ Y)] at H;have q:=F.jX (U _ Y) (F.cl.neg _ (Z _ Y)) H;have q2:=congrArg O.neg q;rw [F.neg_neg (Z _ Y),F.neg_neg (U _ Y)] at q2;rw [hfx _ Y,S _ Y,q2]
theorem qk {s v Y:LI}:∀k:Nat,(∀j:Nat,j<k->¬ (j:Int) ∈ s->nth v j=nth Y j)->fS s v k=fS s Y k
 | 0,_=>rfl
 | k+1,h=>by
  have U:=qk k λj S=>h j (by omega);rw [fS,fS,U];by_cases h2:(k:Int) ∈ s
  ·rw [KY λZ=>Z.2 h2,KY λZ=>Z.2 h2]
  ·rw [h k (by omega) h2]
theorem Dv (F:bK O El) (K:bt El m L) {y s t X:LI} (H:Vc El m y) (U:tu m t) (A:kC O L t=t.length) (hr:kC O L (frTo false s m)=t.length) (N:∀x ∈ t,¬ x ∈ s) (e:Kd O El m L y X) (h0:∀x ∈ t,nth X x.toNat=0) :
  gk O L y s t=fS s X m:=by
 have h:=Cc F K U A H t.length (KT _);unfold gk;rw [h.vc.1];refine qk m λj G S=>?_;have z:Kd O El m L y (gN O L y t t.length).sum:=⟨h.vc,h.cos⟩
 refine GD F K H z e U (Q:=frTo false s m) (by omega) (λx Y=>?_) (λx Y=>?_) h0 (x:=(j:Int)) ((ef m).2 ⟨j,G,rfl,by simpa using S⟩) (by simpa using G)
 ·obtain ⟨q,Z,rfl⟩:=List.mem_iff_getElem.1 Y;have hb:=U q Z;rw [aj Z] at hb;exact (ef m).2 ⟨(t[q]).toNat,by omega,by omega,by rw [Mk hb.1];simpa using N _ Y⟩
 ·obtain ⟨q,Z,rfl⟩:=List.mem_iff_getElem.1 Y;have:=h.sz q Z;rwa [aj Z] at this
end
section
variable {O:aP} {El:Int->Prop}
def fB (O:aP) (x:Int):Nat->Int
 | 0=>1
 | k+1=>O.mul (fB O x k) x
theorem eU (F:bK O El) {x:Int} (Z:El x):∀k,El (fB O x k)
 | 0=>F.one
 | k+1=>F.cl.mul _ _ (eU F Z k) Z
theorem wY (F:bK O El) {x:Int} (Z:El x) (a:Nat):∀b,fB O x (a+b)=O.mul (fB O x a) (fB O x b)
 | 0=>by rw [O0];exact (F.iV (eU F Z a)).symm
 | b+1=>by rw [<- Nat.add_assoc];show O.mul (fB O x (a+b)) x=O.mul _ (O.mul (fB O x b) x);rw [wY F Z a b,F.mul_assoc _ _ _ (eU F Z a) (eU F Z b) Z]
theorem nR (F:bK O El) {x:Int} (Z:El x) (a:Nat):∀b,fB O x (a * b)=fB O (fB O x a) b
 | 0=>rfl
 | b+1=>by rw [Nj,wY F Z,nR F Z a b];rfl
def ju (n:Nat) (c:Int) (e:Nat):LI:=(List.replicate n 0).set e c
def lj (O:aP) (a b:LI):LI:=List.zipWith O.add a b
theorem jx (F:bK O El) {n e:Nat} {c:Int} (Y:El c):∀y ∈ ju n c e,El y:=λy Z=>by
 rcases Mj Z with h | rfl
 ·rw [L6 h];exact F.zero
 ·exact Y
theorem Gc (F:bK O El) (n:Nat):∀y ∈ List.replicate n (0:Int),El y:=λy Z=>by rw [L6 Z];exact F.zero
theorem vI (F:bK O El) {x:Int} (Z:El x) (n:Nat):iG O (List.replicate n 0) x=0:=ko F Z λy Y=>L6 Y
theorem oG (F:bK O El) {x c:Int} (Z:El x) (Y:El c):∀(n e:Nat),e<n->iG O (ju n c e) x=O.mul c (fB O x e)
 | 0,e,h=>by omega
 | n+1,0,_=>by show O.add c (O.mul x (iG O (List.replicate n 0) x))=O.mul c 1;rw [vI F Z,F.dh Z,F.add_zero _ Y,F.iV Y]
 | n+1,e+1,h=>by show O.add 0 (O.mul x (iG O (ju n c e) x))=O.mul c (O.mul (fB O x e) x);rw [oG F Z Y n e (by omega),F.tP (F.cl.mul _ _ Z (F.cl.mul _ _ Y (eU F Z e))),F.mul_comm _ _ Z (F.cl.mul _ _ Y (eU F Z e)),F.mul_assoc _ _ _ Y (eU F Z e) Z]
theorem qV (F:bK O El):∀ {a b:LI},(∀y ∈ a,El y)->(∀y ∈ b,El y)->∀y ∈ lj O a b,El y
 | [],b,_,_,y,Z=>by simp [lj] at Z
 | x :: a,[],_,_,y,Z=>by simp [lj] at Z
 | x :: a,z :: b,ha,hb,y,Z=>by
  rcases List.mem_cons.1 (show y ∈ O.add x z :: lj O a b from Z) with rfl | Z
  ·exact F.cl.add _ _ (ha x (by simp)) (hb z (by simp))
  ·exact qV F (λw hw=>ha w (LF _ hw)) (λw hw=>hb w (LF _ hw)) y Z
theorem qE (F:bK O El) {x:Int} (Z:El x):∀ {a b:LI},a.length=b.length->(∀y ∈ a,El y)->(∀y ∈ b,El y)->iG O (lj O a b) x=O.add (iG O a x) (iG O b x)
 | [],[],_,_,_=>by show (0:Int)=O.add 0 0;rw [F.add_zero 0 F.zero]
 | [],_ :: _,h,_,_=>by simp at h
 | _ :: _,[],h,_,_=>by simp at h
 | c :: a,d :: b,h,ha,hb=>by have N:=ha c (by simp);have hd:=hb d (by simp);have Y:∀y ∈ a,El y:=λw hw=>ha w (LF _ hw);have U:∀y ∈ b,El y:=λw hw=>hb w (LF _ hw);have S:=lK F Z Y;have Q:=lK F Z U;show O.add (O.add c d) (O.mul x (iG O (lj O a b) x))=O.add (O.add c (O.mul x (iG O a x))) (O.add d (O.mul x (iG O b x)));rw [qE F Z (by simpa using h) Y U,F.mul_add _ _ _ Z S Q,F.D5 N hd (F.cl.mul _ _ Z S) (F.cl.mul _ _ Z Q)]
theorem sQ {a b:LI} {i:Nat} (ha:i<a.length) (hb:i<b.length):nth (lj O a b) i=O.add (nth a i) (nth b i):=by
 have Z:i<(List.zipWith O.add a b).length:=by rw [Mm];omega
 show nth (List.zipWith O.add a b) i=_;rw [aj Z,aj ha,aj hb,Ni]
theorem oH {n e i:Nat} {c:Int} (he:e<n):nth (ju n c e) i=if i=e then c else 0:=by
 unfold ju;rw [dS _ _ _ _ (by simpa using he)];split
 ·rfl
 ·simp [nth,KZ,Ls];split <;> rfl
def Dg (O:aP) (v:LI) (E:Nat->Nat) (x:Int):Nat->Int
 | 0=>0
 | k+1=>O.add (Dg O v E x k) (O.mul (nth v k) (fB O x (E k)))
theorem yx (F:bK O El) {v:LI} {E:Nat->Nat} {n:Nat}:∀k,(∀j,j<k->El (nth v j)/\E j<n)->(∀i j,i<j->j<k->E i<E j) ->
  ∃a:LI,a.length=n/\(∀y ∈ a,El y)/\(∀x,El x->iG O a x=Dg O v E x k)/\(∀j,j<k->nth a (E j)=nth v j)/\∀i,(∀j,j<k->i ≠ E j)->nth a i=0
 | 0,_,_=>⟨List.replicate n 0,by simp,Gc F n,λx U=>vI F U n,λj Z=>by omega,λi _=>by simp [nth,KZ,Ls];split <;> rfl⟩
 | k+1,h,H=>by
  obtain ⟨a,h1,h2,h3,h4,e⟩:=yx F k (λj Z=>h j (by omega)) λi j hi Z=>H i j hi (by omega);obtain ⟨K,G⟩:=h k (by omega);have Q:(ju n (nth v k) (E k)).length=n:=by simp [ju]
  have A:nth a (E k)=0:=e _ λj Z=>by have:=H j k Z (by omega);omega
  refine ⟨lj O a (ju n (nth v k) (E k)),by unfold lj;rw [Mm,h1,Q,Nat.min_self],qV F h2 (jx F K),λx U=>?_,λj Z=>?_,λi hi=>?_⟩
  ·rw [qE F U (by rw [h1,Q]) h2 (jx F K),h3 x U,oG F U K n _ G];rfl
  ·have N:=(h j Z).2;rw [sQ (by rw [h1];exact N) (by rw [Q];exact N),oH G];rcases LP j k with Y | Y
   ·have:=H j k Y (by omega);rw [KY (by omega),h4 j Y,F.add_zero _ (h j Z).1]
   ·obtain rfl:j=k:=by omega
    rw [KX rfl,A,F.tP K]
  ·by_cases S:i<n
   ·rw [sQ (by rw [h1];exact S) (by rw [Q];exact S),oH G,KY (hi k (by omega)),e i λj Z=>hi j (by omega),F.add_zero 0 F.zero]
   ·have hz:(lj O a (ju n (nth v k) (E k))).length<=i:=by unfold lj;rw [Mm,h1,Q];omega
    generalize lj O a (ju n (nth v k) (E k))=z at hz ⊢;unfold nth;rw [KZ,Mc hz];rfl
theorem xy (F:bK O El) {v:LI} {E:Nat->Nat} {r:Nat} {c:Int} (S:El c):∀k,(∀j,j<k->El (nth v j)/\E j % (r+1)<r) ->
  ∃b:LI,b.length=r/\(∀y ∈ b,El y)/\∀x,El x->fB O x (r+1)=c->iG O b x=Dg O v E x k
 | 0,_=>⟨List.replicate r 0,by simp,Gc F r,λx Z _=>vI F Z r⟩
 | k+1,h=>by
  obtain ⟨b,h1,h2,h3⟩:=xy F S k λj G=>h j (by omega);obtain ⟨Q,H⟩:=h k (by omega);have Y:=F.cl.mul _ _ Q (eU F S (E k / (r+1)));have N:(ju r (O.mul (nth v k) (fB O c (E k / (r+1)))) (E k % (r+1))).length=r:=by simp [ju]
  refine ⟨lj O b (ju r (O.mul (nth v k) (fB O c (E k / (r+1)))) (E k % (r+1))),by unfold lj;rw [Mm,h1,N,Nat.min_self],qV F h2 (jx F Y),λx Z U=>?_⟩;rw [qE F Z (by rw [h1,N]) h2 (jx F Y),h3 x Z U,oG F Z Y r _ H];show _=O.add _ (O.mul (nth v k) (fB O x (E k)));have e:fB O x (E k)=O.mul (fB O c (E k / (r+1))) (fB O x (E k % (r+1))):=by have K:E k=(r+1) * (E k / (r+1))+E k % (r+1):=(MP _ _).symm;rw [<- U,<- nR F Z,<- wY F Z,<- K]
  rw [e,F.mul_assoc _ _ _ Q (eU F S _) (eU F Z _)]
def iy (O:aP) (X:LI) (E:Nat->Nat) (k:Nat):Ll:=(List.range k).map λj=>X.map λx=>fB O x (E j)
theorem yI {X:LI} {E:Nat->Nat} {k j:Nat} (Z:j<k):ai (iy O X E k) j=X.map λx=>fB O x (E j):=by
 unfold iy;have Y:j<((List.range k).map λj=>X.map λx=>fB O x (E j)).length:=by simpa using Z
 rw [aE Y,LU,ML]
theorem oJ (F:bK O El) {X:LI} (Q:∀x ∈ X,El x) {E:Nat->Nat} {k:Nat}:bt El X.length (iy O X E k):=λr Z=>by obtain ⟨j,Y,rfl⟩:=fZ Z;rw [yI (by simpa [iy] using Y)];exact ⟨by simp,λy U=>by obtain ⟨x,S,rfl⟩:=List.mem_map.1 U;exact eU F (Q x S) _⟩
theorem oC {X:LI} {f:Int->Int} {p:Nat} (Z:p<X.length):nth (X.map f) p=f (nth X p):=by rw [aj (by simpa using Z),LU,aj Z]
theorem vP (F:bK O El) {X:LI} (K:∀x ∈ X,El x) {E:Nat->Nat} {n:Nat} {v:LI} (Q:∀j,j<n->El (nth v j)) {p:Nat} (U:p<X.length):∀k,k<=n->nth (cmbTo O X.length v (iy O X E n) k) p=Dg O v E (nth X p) k
 | 0,_=>by show nth (List.replicate X.length 0) p=0;simp [nth,KZ,Ls];split <;> rfl
 | k+1,hk=>by
  have H:=Q k (by omega);have G:=K (nth X p) (aG U);have N:=eU F G (E k);have A:=vP F K (E:=E) Q U k (by omega);have e:=oJ F K (E:=E) (k:=n);have S:(iy O X E n).length=n:=by simp [iy]
  obtain ⟨⟨c1,c2⟩,_⟩:=iM F e (x:=v) (λj z=>Q j (by rw [S] at z;exact z)) k (by rw [S];omega);have Z:El (Dg O v E (nth X p) k):=by rw [<- A];exact Ps ⟨c1,c2⟩ U
  rw [cmbTo];show _=O.add (Dg O v E (nth X p) k) (O.mul (nth v k) (fB O (nth X p) (E k)));split
  ·rename_i h0;rw [A,h0,F.jw N,F.add_zero _ Z]
  ·have Y:ai (iy O X E n) k=X.map λx=>fB O x (E k):=yI (by omega);rw [gj _ _ _ _ _ (by rw [Y,c1];simp) (by rw [c1];exact U),A,Y,oC U];split
   ·rename_i h0;rw [h0,F.dh H,F.add_zero _ Z]
   ·rfl
end
section
variable {O:aP} {El:Int->Prop} {m:Nat} {L:Ll}
theorem zW (F:bK O El) (e:bt El m L) (h:∀v,Vc El L.length v->(∀p,p<m->nth (cmbTo O m v L L.length) p=0)->∀j,j<L.length->nth v j=0):(aD O L m).2.length=L.length:=by
 obtain ⟨hP,hs1,hs2⟩:=fV F e m (KT _);have hRr:=iB F e m (KT _);obtain ⟨R,hR⟩:∃R,(aD O L m).1=R:=⟨_,rfl⟩
 obtain ⟨P,hPe⟩:∃P,(aD O L m).2=P:=⟨_,rfl⟩
 have hRl:R.length=L.length:=by rw [<- hR];exact bN O L m
 rw [hR,hPe] at hP;rw [hR] at hs1 hs2 hRr;rw [hPe];have hle:=hP.le;rw [hRl] at hle;refine Lr λhne=>?_;have hn:P.length<L.length:=by omega
 obtain ⟨A,hA⟩:∃A,(P.map λq=>ba L q.toNat)=A:=⟨_,rfl⟩
 have hAl:A.length=P.length:=by rw [<- hA,Lc]
 have H:bt El L.length A:=λr hr=>by rw [<- hA] at hr;obtain ⟨q,_,rfl⟩:=List.mem_map.1 hr;exact ch e F.zero q.toNat
 have hAi:∀i,i<P.length->ai A i=ba L (nth P i).toNat:=λi hi=>by rw [aE (by omega),aj hi];simp [<- hA]
 obtain ⟨Y,S⟩:=bU F H;have Z:=cI F H;have U:=bS F H;have hPA:(aD O A L.length).2.length<=P.length:=by have:=(ei O A L.length).2;rw [hAl] at this;exact this
 obtain ⟨Q,hQ⟩:∃Q,(aD O A L.length).2=Q:=⟨_,rfl⟩
 obtain ⟨B,hB⟩:∃B,bI O L.length A=B:=⟨_,rfl⟩
 have G:=(dN F H).2;rw [hB] at Y S Z U G;rw [hQ] at Y S Z hPA;have hcnt:=ej (m:=L.length) Q (λj hj=>Y.lt j hj) S.asc;have h0:0<(eX Q L.length).length:=by omega
 obtain ⟨c,hc⟩:∃c,(eX Q L.length).getD 0 0=c:=⟨_,rfl⟩
 obtain ⟨K,hcn⟩:=lS h0;rw [hc] at K hcn;obtain ⟨v,hv⟩:∃v,kerTo O L.length B Q c Q.length=v:=⟨_,rfl⟩
 have hvv:Vc El L.length v:=by rw [<- hv];exact kq F U Y Z K _ (KT _)
 have hvc:nth v c=1:=by rw [<- hv];exact je Y K hcn _ (KT _)
 have N:∀p,p<L.length->El (nth v p):=λp hp=>hvv.at hp;have z:∀i,i<B.length->dotN O (λp=>nth v p) (λp=>nth (ai B i) p) L.length=0:=λi hi=>by have h1:=od F U Y S Z i 0 hi (by rw [fR];exact h0);rw [jF O L.length B Q L.length h0,hc,hv] at h1;rw [gr F L.length N (λp hp=>Ps (U.row hi) hp)];exact h1
 have hz:∀p,p<m->nth (cmbTo O m v L L.length) p=0:=by
  obtain ⟨c1,c2⟩:=iM F e N L.length (KT _);refine yD F hRr hP (hs2.rs c2) λj hj=>?_;have hpl:=(hP.lt j hj)
  rw [qR F e N (show (nth P j).toNat<m by omega) _ (KT _)];have h2:dotN O (λp=>nth v p) (λp=>nth (ai A j) p) L.length=0:=mT F U N z (G j (by omega));rw [hAi j hj] at h2;rw [<- h2];exact eO L.length λp hp=>⟨rfl,(dj _ _ p hp).symm⟩
 have h3:=h v hvv hz c K;rw [hvc] at h3;exact absurd h3 (by decide)
end
section
variable {O:aP} {El:Int->Prop} {X:LI} {E:Nat->Nat} {k D:Nat}
theorem JW (X:LI) (a:LI):iK (X.map (iG O a))+(X.filter λy=>decide (iG O a y=0)).length=X.length:=by
 unfold iK;rw [Pd];induction X with
 | nil=>rfl
 | cons y X Z =>
  have e1:((λy:Int=>decide (y ≠ 0)) ∘ iG O a) y=decide (iG O a y ≠ 0):=rfl
  rw [List.countP_cons,NG,LB,e1]
  by_cases h:iG O a y=0
  ·rw [KY (show ¬ decide (iG O a y ≠ 0)=true by simpa using h),KX (show decide (iG O a y=0)=true by simpa using h),LB]
   omega
  ·rw [KX (show decide (iG O a y ≠ 0)=true by simpa using h),KY (show ¬ decide (iG O a y=0)=true by simpa using h)]
   omega
theorem BR (F:bK O El) (U:∀x ∈ X,El x) (Q:∀i j,i<j->j<k->E i<E j) (K:∀j,j<k->E j<=D) {v:LI} (Z:∀j,j<k->El (nth v j)) :
  ∃a:LI,a.length=D+1/\(∀y ∈ a,El y)/\(∀p,p<X.length->nth (cmbTo O X.length v (iy O X E k) k) p=iG O a (nth X p))/\∀j,j<k->nth a (E j)=nth v j:=by obtain ⟨a,h1,h2,h3,N,_⟩:=yx F (v:=v) (E:=E) (n:=D+1) k (λj S=>⟨Z j S,by have:=K j S;omega⟩) Q;exact ⟨a,h1,h2,λp Y=>by rw [vP F U Z Y k (KT _),h3 _ (U _ (aG Y))],N⟩
theorem Ce (F:bK O El) (U:X.Nodup) (Y:∀x ∈ X,El x) {a:LI} (S:a.length=D+1) (ha:∀y ∈ a,El y) (h:iK (X.map (iG O a))+D<X.length):∀c ∈ a,c=0:=by have h1:=JW (O:=O) X a;refine kH F (X:=X.filter λy=>decide (iG O a y=0)) (Nh _ U) (λx Z=>Y x (List.mem_filter.1 Z).1) ha (λx Z=>by simpa using (List.mem_filter.1 Z).2) (by omega)
theorem og:(iy O X E k).length=k:=by simp [iy]
theorem Ap (F:bK O El) (H:X.Nodup) (U:∀x ∈ X,El x) (K:∀i j,i<j->j<k->E i<E j) (G:∀j,j<k->E j<=D) {w:LI} (hw:Vc El X.length w)
  (N:RS O El X.length (bI O X.length (iy O X E k)) (λi=>nth w i)) (h0:iK w ≠ 0):X.length<=iK w+D:=by
 have Q:=oJ F U (E:=E) (k:=k);obtain ⟨v,S,h1⟩:=RS.KG F Q ((dN F Q).1.rs N);rw [og] at S h1;obtain ⟨a,a1,a2,a3,_⟩:=BR F U K G (v:=v) λj A=>S.at A;have Y:w=X.map (iG O a):=gJ (by rw [hw.1,Lc]) λp Z=>by rw [hw.1] at Z;rw [oC Z,<- a3 p Z];exact h1 p Z
 refine MO λz=>h0 ?_;have h2:=Ce F H U a1 a2 (by rw [<- Y];omega);rw [Y];exact zC.2 λp Z=>by rw [Lc] at Z;rw [oC Z];exact ko F (U _ (aG Z)) h2
theorem FC (F:bK O El) (G:X.Nodup) (U:∀x ∈ X,El x) (H:∀i j,i<j->j<k->E i<E j) (Q:∀j,j<k->E j<=D) (K:D<X.length):(bI O X.length (iy O X E k)).length=k:=by
 have N:=oJ F U (E:=E) (k:=k);rw [cI F N,zW F N,og];intro v S h0 j Z;rw [og] at S h0 Z;obtain ⟨a,a1,a2,a3,a4⟩:=BR F U H Q (v:=v) λj Z=>S.at Z;have A:iK (X.map (iG O a))=0:=zC.2 λp Y=>by rw [Lc] at Y;rw [oC Y,<- a3 p Y];exact h0 p Y
 have h2:=Ce F G U a1 a2 (by omega);rw [<- a4 j Z];exact h2 _ (aG (by rw [a1];have:=Q j Z;omega))
theorem C1 (F:bK O El) (hn:X.Nodup) (U:∀x ∈ X,El x) {r:Nat} (hr:∀j,j<k->E j % (r+1)<r) {c:Int} (hc:El c) {l:LN} (Y:∀p ∈ l,p<X.length/\fB O (nth X p) (r+1)=c) (hln:l.Nodup) (G:r<=l.length)
  {q:Nat} (H:q<X.length) (z:fB O (nth X q) (r+1)=c):kB O El (bI O X.length (iy O X E k)).length (ba (bI O X.length (iy O X E k))) l q:=by
 have hR:=oJ F U (E:=E) (k:=k);refine (IJ (λp Z=>(Y p Z).1) H).2 λf hf h0=>?_;obtain ⟨v,hv,h1⟩:=RS.KG F hR ((dN F hR).1.rs hf);rw [og] at hv h1;have S:∀j,j<k->El (nth v j):=λj N=>hv.at N;obtain ⟨b,b1,b2,b3⟩:=xy F (v:=v) (E:=E) (r:=r) hc k λj N=>⟨S j N,hr j N⟩
 have Q:∀p,p<X.length->fB O (nth X p) (r+1)=c->f p=iG O b (nth X p):=λp Z A=>by rw [h1 p Z,vP F U S Z k (KT _),b3 _ (U _ (aG Z)) A]
 have hz:=kH F (X:=l.map (nth X)) (a:=b) (by
  unfold List.Nodup;rw [Nz];refine hln.imp_of_mem λ{p p'} Z hp' hne e=>hne ?_;rw [aj (Y p Z).1,aj (Y p' hp').1] at e;exact (O7 hn).1 e) (λx K=>by
   obtain ⟨p,Z,rfl⟩:=List.mem_map.1 K;exact U _ (aG (Y p Z).1)) b2 (λx K=>by
   obtain ⟨p,Z,rfl⟩:=List.mem_map.1 K;rw [<- Q p (Y p Z).1 (Y p Z).2];exact h0 p Z) (by rw [b1,Lc];exact G)
 rw [Q q H z];exact ko F (U _ (aG H)) hz
end
theorem DH {P M:Int} {am:OA} {K cm:Nat} {mod:LI} {m:Nat} {L:Ll} (H:aI P M mod m L=0) (G:OA) (j:Nat) (v:LI) (s:Int) (F:OA) (cu:Nat) (u:LI) (w:World)
  (Q:Ints w am K mod) (hi:Ints w G m v) (hu:Ints w F m u) (S:Vc (ah P M.toNat mod).El m v) (N:(ah P M.toNat mod).El s) (Z:Vc (ah P M.toNat mod).El m u) :
  Calls prog 227 #[.agg #[cG P,cG M,.slice am K cm],.slice G m j,cG s,.slice F m cu] w λe w'=>∃a1 c1,e = .returned (.slice a1 m c1)/\Ints w' a1 m (bX (ah P M.toNat mod).ops v s u)/\PY w w':=by
 obtain ⟨k,hk,z,hq,hF,hA,_⟩:=eQ (aL H).1;subst hk;obtain ⟨k',e2,A,U⟩:=dQ (P:=P) (M:=(k:Int)) (mod:=mod) (by rw [cB];exact (aL H).1);obtain rfl:k=k':=by omega
 obtain ⟨_,_,hm64,_⟩:=aL H;rw [KV] at S N Z ⊢;rw [<- z] at S N Z;have h:=na P k am K cm mod G m j v s F cu u w ⟨A,U w am K Q⟩ N hi hu S.2 Z.2 (by omega);rw [<- kL hA hF.cl v u s S.2 Z.2 N] at h;refine h.mono ?_;rintro e w' ⟨a1,c1,rfl,Y,hb⟩;have hl:(bX (ah P k mod).ops v s u).length=m:=by rw [dm _ _ _ _ (by rw [Z.1,S.1])];exact S.1
 rw [hl] at Y ⊢;exact ⟨a1,c1,rfl,(Pn Y).1,hb⟩
section
variable {P M:Int} {mod:LI} {m:Nat} {L:Ll}
theorem Dr {y:LI} {W:Int} (h:ew P M mod m L y W=0):aI P M mod m L=0/\Vc (ah P M.toNat mod).El m y/\ez (ah P M.toNat mod).q y=true/\0<=W/\W<=m:=by
 unfold ew at h;by_cases Y:aI P M mod m L=0
 ·rw [KX Y] at h;by_cases h1:(y.length:Int) ≠ m
  ·rw [KX h1] at h;cases h
  ·rw [KY h1] at h;by_cases h2:ez (ah P M.toNat mod).q y=false
   ·rw [KX h2] at h;cases h
   ·rw [KY h2] at h;have Z:ez (ah P M.toNat mod).q y=true:=by simpa using h2
    by_cases h3:W<0\/(m:Int)<W
    ·rw [KX h3] at h;cases h
    ·exact ⟨Y,⟨by omega,rS Z⟩,Z,by omega,by omega⟩
 ·rw [KY Y] at h;exact absurd h Y
end
def iX (A:Ll) (b:LI):Ll:=List.zipWith (λr x=>r ++ [x]) A b
def solTo (k:Nat) (E:Ll) (P:LI):Nat->LI
 | 0=>List.replicate k 0
 | j+1=>(solTo k E P j).set (nth P j).toNat (nth (ai E j) k)
def wh (O:aP) (A:Ll) (b:LI) (k:Nat):LI:=solTo k (aD O (iX A b) k).1 (aD O (iX A b) k).2 (aD O (iX A b) k).2.length
theorem uz (k:Nat) (E:Ll) (P:LI):∀j,(solTo k E P j).length=k
 | 0=>by simp [solTo]
 | j+1=>by rw [solTo,LZ];exact uz k E P j
theorem jf {A:Ll} {b:LI} (h:b.length=A.length):(iX A b).length=A.length:=by simp [iX,h]
theorem oO {A:Ll} {b:LI} (h:b.length=A.length) {i:Nat} (hi:i<A.length):ai (iX A b) i=ai A i ++ [nth b i]:=by rw [aE (show i<(iX A b).length by rw [jf h];exact hi),aE hi,aj (show i<b.length by omega)];simp [iX]
section
variable {O:aP} {El:Int->Prop} {m k:Nat}
theorem CH {A:Ll} {b:LI} (U:bt El k A) (h:b.length=A.length) (hb:∀x ∈ b,El x):bt El (k+1) (iX A b):=λr Y=>by
 obtain ⟨i,hi,rfl⟩:=List.mem_iff_getElem.1 Y;rw [jf h] at hi;rw [<- aE,oO h hi];have h1:=U.row hi;refine ⟨by rw [K6,h1.1];rfl,λy Z=>?_⟩;rcases List.mem_append.1 Z with Z | Z
 ·exact h1.2 y Z
 ·rw [List.mem_singleton.1 Z];exact hb _ (aG (by omega))
theorem F3 {A:Ll} {b:LI} (Z:bt El k A) (h:b.length=A.length):(iX A b).map (List.take k)=A:=by refine Mi (by rw [Lc,jf h]) λi h1 h2=>?_;rw [LU,<- aE (show i<(iX A b).length by rw [jf h];exact h2),oO h h2,<- aE h2];have h3:=(Z.row h2).1;rw [NJ (by omega),K5 (by omega)]
theorem IG {l:LI} {x:Int} {i:Nat} (h:i<l.length):nth (l ++ [x]) i=nth l i:=by unfold nth;simp only [KZ];rw [Lg h]
theorem xR {l:LI} {x:Int}:nth (l ++ [x]) l.length=x:=by unfold nth;simp [KZ]
theorem Fj (F:bK O El) {L:Ll} (G:bt El m L) {t:LI} (hT:tu m t) (ht:kC O L t=t.length):(aD O (t.map λq=>ba L q.toNat) L.length).2.length=t.length:=by
 obtain ⟨A,hA⟩:∃A,(t.map λq=>ba L q.toNat)=A:=⟨_,rfl⟩
 have hAl:A.length=t.length:=by rw [<- hA,Lc]
 have hAi:∀i,i<t.length->ai A i=ba L (nth t i).toNat:=λi hi=>by rw [aE (by omega),aj hi];simp [<- hA]
 have hAr:bt El L.length A:=λr H=>by rw [<- hA] at H;obtain ⟨q,_,rfl⟩:=List.mem_map.1 H;exact ch G F.zero _
 rw [hA];obtain ⟨h1,h2,h3⟩:=fV F hAr L.length (KT _);have Y:=iB F hAr L.length (KT _);have hEl:(aD O A L.length).1.length=A.length:=bN _ _ _;have hle:=h1.le;rw [hEl,hAl] at hle;refine Oj hle ?_;obtain ⟨E,hE⟩:∃E,(aD O A L.length).1=E:=⟨_,rfl⟩
 obtain ⟨p,hp⟩:∃p,(aD O A L.length).2.length=p:=⟨_,rfl⟩
 have hzero:=h1.zero;rw [hE] at Y hEl h3 hzero;rw [hp] at hzero ⊢;let c:Nat->LI:=λi=>if i<m then ba L i else if i - m<p/\i - m<E.length then ai E (i - m) else ba L 0
 have hc:∀i,Vc El L.length (c i):=λi=>by
  show Vc El L.length (if i<m then ba L i else if i - m<p/\i - m<E.length then ai E (i - m) else ba L 0);split
  ·exact ch G F.zero _
  ·split
   ·rename_i h;exact Y.row h.2
   ·exact ch G F.zero _
 have Z:∀i,i<m->c i=ba L i:=λi hi=>KX hi;have hr1:=Rk.map (cl':=kB O El L.length c) (λi=>i<m) id (λl x hl K=>by
  rw [NL];constructor
  ·intro h φ N h0;show φ (c x)=0;rw [Z x K];exact h φ N λy S=>by rw [<- Z y (hl y S)];exact h0 y S
  ·intro h φ N h0;have h4:φ (c x)=0:=h φ N λy S=>by rw [Z y (hl y S)];exact h0 y S
   rwa [Z x K] at h4) (jR F G t) λy S=>by
  obtain ⟨z,hz,rfl⟩:=pM.1 S;obtain ⟨j,hj,rfl⟩:=List.mem_iff_getElem.1 hz;have:=hT j hj;rw [aj hj] at this;omega
 rw [NL,ht] at hr1;obtain ⟨n2,hr2⟩:=Rk.ex (kB O El L.length c) ((List.range p).map (m + ·));have hn2:=hr2.len;rw [Lc,Ma] at hn2;refine K9 (Rk.le (B3 F hc) hr1 hr2 λx K=>?_) hn2;obtain ⟨z,hz,rfl⟩:=pM.1 K;obtain ⟨i,hi,rfl⟩:=List.mem_iff_getElem.1 hz;have hti:=hT i hi;rw [aj hi] at hti;intro ψ Q h0;rw [Z _ (by omega)];have U:=hAi i hi;rw [aj hi] at U;obtain ⟨e,he,K⟩:=h3 i (by omega);have H:∀q,q<L.length->El (ψ (gu L.length q)):=λq hq=>Q.el _ (iF F _ q);have hz:=kj F Y he (r:=λq=>ψ (gu L.length q)) H λj hj=>by
  by_cases hjp:j<p
  ·have h4:=h0 (m+j) (List.mem_map.2 ⟨j,List.mem_range.2 hjp,rfl⟩);have h5:c (m+j)=ai E j:=by show (if m+j<m then ba L (m+j) else if m+j - m<p/\m+j - m<E.length then ai E (m+j - m) else ba L 0)=_;rw [KY (by omega),KX (by omega),show m+j - m=j by omega]
   rw [h5,ja F Q (Y.row hj)] at h4;exact h4
  ·refine mc F _ λq hq=>?_;show O.mul (ψ (gu L.length q)) (nth (ai E j) q)=0;rw [hzero j q (by omega) hj hq,F.dh (H q hq)]
 rw [ja F Q (ch G F.zero _)];rw [<- hz];refine eO _ λq hq=>⟨rfl,?_⟩
 rw [<- U];exact K q hq
theorem zR (F:bK O El) {f:Nat->Int} {x:LI} {v:Int} {p:Nat} (Y:∀q,q<k->El (f q)) (S:∀q,q<k->El (nth x q)) (N:El v) (K:p<k) (A:x.length=k) (h0:nth x p=0):∀t,t<=k ->
  dotN O f (λq=>nth (x.set p v) q) t=if p<t then O.add (dotN O f (λq=>nth x q) t) (O.mul (f p) v) else dotN O f (λq=>nth x q) t
 | 0,_=>by rw [KY (by omega)];rfl
 | t+1,j=>by
  have z:=zR F Y S N K A h0 t (by omega);have hd:=kJ F (O:=O) (a:=f) (b:=λq=>nth x q) t (λq H=>Y q (by omega)) λq H=>S q (by omega);have G:∀q,q<k->nth (x.set p v) q=if q=p then v else nth x q:=λq H=>by
   unfold nth;simp only [KZ,Md];by_cases e:p=q
   ·subst e;rw [KX rfl,KX (by omega),KX rfl];rfl
   ·rw [KY e,KY λU=>e U.symm]
  have Q:dotN O f (λq=>nth (x.set p v) q) (t+1)=O.add (dotN O f (λq=>nth (x.set p v) q) t) (O.mul (f t) (nth (x.set p v) t)):=rfl;have Z:dotN O f (λq=>nth x q) (t+1)=O.add (dotN O f (λq=>nth x q) t) (O.mul (f t) (nth x t)):=rfl;rw [Q,Z,z,G t (by omega)];by_cases e:t=p
  ·subst e;rw [KY (by omega),KX rfl,KX (by omega),h0,F.dh (Y t (by omega)),F.add_zero _ hd]
  ·rw [KY e];by_cases U:p<t
   ·rw [KX U,KX (by omega)];have h1:=F.cl.mul _ _ (Y p K) N;have h2:=F.cl.mul _ _ (Y t (by omega)) (S t (by omega));rw [F.add_assoc _ _ _ hd h1 h2,F.add_comm _ _ h1 h2,F.add_assoc _ _ _ hd h2 h1]
   ·rw [KY U,KY (by omega)]
theorem sK (k q:Nat):nth (List.replicate k (0:Int)) q=0:=by unfold nth;simp only [KZ,Ls];split <;> rfl
theorem AD (F:bK O El) {E:Ll} {P:LI} (Z:bt El (k+1) E) (hle:P.length<=E.length):∀j,j<=P.length->∀q,q<k->El (nth (solTo k E P j) q)
 | 0,_,q,_=>by rw [solTo,sK];exact F.zero
 | j+1,S,q,U=>by
  have Y:=AD F Z hle j (by omega) q U;rw [solTo];unfold nth;simp only [KZ,Md];split
  ·split
   ·exact Ps (Z.row (i:=j) (by omega)) (by omega)
   ·exact F.zero
  ·unfold nth at Y;simpa only [KZ] using Y
theorem B7 {E:Ll} {P:LI} {q:Nat}:∀j,(∀i,i<j->(nth P i).toNat ≠ q)->nth (solTo k E P j) q=0
 | 0,_=>by rw [solTo,sK]
 | j+1,h=>by have Z:nth (solTo k E P j) q=0:=B7 j λi hi=>h i (by omega);rw [solTo];unfold nth at Z ⊢;simp only [KZ,Md] at Z ⊢;have h1:=h j (by omega);unfold nth at h1;simp only [KZ] at h1;rw [KY h1];exact Z
theorem CZ (F:bK O El) {E:Ll} {P:LI} {f:Nat->Int} (Y:∀q,q<k->El (f q)) (Z:bt El (k+1) E) (hle:P.length<=E.length) (U:∀j,j<P.length->0<=nth P j/\nth P j<k) (ha:∀i j,i<j->j<P.length->nth P i<nth P j) :
  ∀j,j<=P.length->dotN O f (λq=>nth (solTo k E P j) q) k=dotN O (λi=>f (nth P i).toNat) (λi=>nth (ai E i) k) j
 | 0,_=>by refine mc F _ λq S=>?_;show O.mul (f q) (nth (solTo k E P 0) q)=0;rw [solTo,sK,F.dh (Y q S)]
 | j+1,K=>by
  have N:=CZ F Y Z hle U ha j (by omega);have Q:=U j (by omega);have h0:nth (solTo k E P j) (nth P j).toNat=0:=B7 j λi hi=>by have:=ha i j hi (by omega);have:=U i (by omega);omega
  have h:=zR F (f:=f) (x:=solTo k E P j) (v:=nth (ai E j) k) (p:=(nth P j).toNat) Y (AD F Z hle j (by omega)) (Ps (Z.row (i:=j) (by omega)) (by omega)) (by omega) (uz _ _ _ _) h0 k (KT _);rw [KX (by omega)] at h;show dotN O f (λq=>nth ((solTo k E P j).set (nth P j).toNat (nth (ai E j) k)) q) k=_;rw [h,N];rfl
theorem AQ (F:bK O El) {A:Ll} {b:LI} (hA:bt El k A) (hb:b.length=A.length) (H:∀x ∈ b,El x) (K:(aD O A k).2.length=A.length) :
  (∀q,q<k->El (nth (wh O A b k) q))/\(aD O (iX A b) k).2.length=A.length/\∀i,i<A.length->dotN O (λq=>nth (ai A i) q) (λq=>nth (wh O A b k) q) k=nth b i:=by
 have hJ:=CH hA hb H;have N:=(pX (O:=O) (k:=k) (J:=iX A b) k (KT _)).2;rw [F3 hA hb] at N;rw [N] at K;obtain ⟨h1,_,h3⟩:=fV F hJ k (by omega);have z:=o8 F hJ k (by omega);have U:=iB F hJ k (by omega);have S:(aD O (iX A b) k).1.length=A.length:=by rw [bN,jf hb]
 unfold wh;refine ⟨AD F U (by omega) _ (KT _),K,λi hi=>?_⟩;obtain ⟨e,he,Q⟩:=h3 i (by rw [jf hb];exact hi);rw [oO hb hi] at Q;have Q:∀x,x<k+1->nth (ai A i ++ [nth b i]) x=e (ba (aD O (iX A b) k).1 x):=λx h=>Q x h;have Y:=hA.row hi;have G:∀q,q<k->nth (ai A i) q=e (ba (aD O (iX A b) k).1 q):=λq Z=>by rw [<- Q q (by omega),IG (by rw [Y.1];exact Z)]
 have hxb:nth b i=e (ba (aD O (iX A b) k).1 k):=by rw [<- Q k (by omega)];have h4:=Y.1;rw [<- h4,xR]
 rw [CZ F (f:=λq=>nth (ai A i) q) (λq Z=>Ps Y Z) U (by omega) (λj hj=>by have:=h1.lt j hj;omega) z.asc _ (KT _),hxb,ja F he (ch U F.zero k),S,K];refine eO _ λj hj=>⟨?_,?_⟩
 ·have hpj:=h1.lt j (by omega);show nth (ai A i) (nth (aD O (iX A b) k).2 j).toNat=_;rw [G _ (by omega)];congr 1;refine gJ (by rw [dz,uZ];exact S) λq Z=>?_;rw [dz] at Z;rw [dj _ _ q Z,uG (by omega)];exact h1.one j q (by omega) Z
 ·rw [dj _ _ j (by omega)]
def zm (O:aP) (L:Ll) (y t:LI):LI:=wh O (t.map λq=>ba L q.toNat) (t.map λq=>O.neg (nth y q.toNat)) L.length
def rC (O:aP) (m:Nat) (L:Ll) (y t:LI):LI:=bX O y 1 (cmbTo O m (zm O L y t) L L.length)
theorem Ct (F:bK O El) {L:Ll} (U:bt El m L) {y t:LI} (Q:Vc El m y) (K:tu m t):bt El L.length (t.map λq=>ba L q.toNat)/\∀x ∈ (t.map λq=>O.neg (nth y q.toNat)),El x:=by
 refine ⟨λr Y=>?_,λx S=>?_⟩
 ·obtain ⟨q,_,rfl⟩:=List.mem_map.1 Y;exact ch U F.zero _
 ·obtain ⟨q,N,rfl⟩:=List.mem_map.1 S;obtain ⟨j,Z,rfl⟩:=List.mem_iff_getElem.1 N;have:=K j Z;rw [aj Z] at this;exact F.cl.neg _ (Q.at (by omega))
theorem B9 (F:bK O El) {L:Ll} (S:bt El m L) {y t:LI} (U:Vc El m y) (z:tu m t) (ht:kC O L t=t.length) :
  Kd O El m L y (rC O m L y t)/\(∀x ∈ t,nth (rC O m L y t) x.toNat=0)/\(∀q,q<L.length->El (nth (zm O L y t) q))/\(aD O (iX (t.map λq=>ba L q.toNat) (t.map λq=>O.neg (nth y q.toNat))) L.length).2.length=t.length:=by
 obtain ⟨hA,hb⟩:=Ct F S U z;obtain ⟨A,G,N⟩:=AQ F hA (b:=t.map λq=>O.neg (nth y q.toNat)) (by simp) hb (by rw [Fj F S z ht,Lc]);rw [Lc] at G;have Z:∀q,q<L.length->El (nth (zm O L y t) q):=A;obtain ⟨c1,c2⟩:=iM F S Z L.length (KT _);have e:(cmbTo O m (zm O L y t) L L.length).length=y.length:=by rw [c1.1,U.1]
 have K:∀x,x<m->nth (rC O m L y t) x=O.add (nth y x) (nth (cmbTo O m (zm O L y t) L L.length) x):=λx Y=>by
  unfold rC;rw [gj _ _ _ _ _ e (by rw [U.1];exact Y)];split
  ·rename_i h0;rw [h0,F.add_zero _ (U.at Y)]
  ·rw [F.one_mul _ (c1.at Y)]
 refine ⟨⟨⟨by unfold rC;rw [dm _ _ _ _ e];exact U.1,by unfold rC;exact o0 F.cl U.2 c1.2 F.one⟩,_,c2,λx Y=>c1.at Y,K⟩,λx Y=>?_,Z,G⟩;obtain ⟨i,hi,rfl⟩:=List.mem_iff_getElem.1 Y;have j:=z i hi;rw [aj hi] at j;have H:i<(t.map λq=>ba L q.toNat).length:=by rw [Lc];exact hi
 have h:=N i H;have e1:nth (t.map λq=>O.neg (nth y q.toNat)) i=O.neg (nth y (t[i]).toNat):=by rw [aj (by rw [Lc];exact hi)];simp
 have e2:ai (t.map λq=>ba L q.toNat) i=ba L (t[i]).toNat:=by rw [aE H];simp
 rw [e1,e2] at h;rw [K _ (by omega),qR F S Z (by omega) _ (KT _)];have e3:dotN O (λq=>nth (zm O L y t) q) (λq=>nth (ai L q) (t[i]).toNat) L.length=O.neg (nth y (t[i]).toNat):=by rw [<- h,gr F _ (λq Q=>Z q Q) λq Q=>Ps (S.row Q) (by omega)];exact eO _ λq Q=>⟨(dj L _ q Q).symm,rfl⟩
 rw [e3,F.add_neg _ (U.at (by omega))]
end
theorem Cp (s X:LI):∀k,iK (bR (frTo false s k) X)=fS s X k
 | 0=>by simp [frTo,bR,iK,fS]
 | k+1=>by
  have Z:=Cp s X k;rw [frTo,fS];by_cases h:(k:Int) ∈ s
  ·rw [KY (by simpa using h),KY λY=>Y.2 h,Z]
  ·rw [KX (by simpa using h)];unfold bR iK at Z ⊢;rw [LJ,OO,Z];by_cases h0:nth X k=0
   ·rw [KY λY=>Y.1 h0];simp [h0]
   ·rw [KX ⟨h0,h⟩];simp [h0]
section
variable {O:aP} {El:Int->Prop} {q:Nat} {g:Int}
structure Io (O:aP) (El:Int->Prop) (q:Nat) (g:Int):Prop where
 el:El g
 rng:∀x,El x ↔ 0<=x/\x<(q:Int)
 q2:2<=q
 all:∀x,El x->x ≠ 0->∃k,k<q - 1/\x=fB O g k
 inj:∀i j,i<q - 1->j<q - 1->fB O g i=fB O g j->i=j
 last:fB O g (q - 1)=1
 ne:∀k,fB O g k ≠ 0
theorem qJ (F:bK O El):∀k,fB O 1 k=1
 | 0=>rfl
 | k+1=>by show O.mul (fB O 1 k) 1=1;rw [qJ F k,F.one_mul 1 F.one]
theorem nI (F:bK O El) {x y:Int} (Z:El x) (Y:El y):∀k,fB O (O.mul x y) k=O.mul (fB O x k) (fB O y k)
 | 0=>(F.one_mul 1 F.one).symm
 | k+1=>by have a:=eU F Z k;have b:=eU F Y k;show O.mul (fB O (O.mul x y) k) (O.mul x y)=O.mul (O.mul (fB O x k) x) (O.mul (fB O y k) y);rw [nI F Z Y k,F.mul_assoc _ _ _ a b (F.cl.mul _ _ Z Y),F.mul_assoc _ _ _ a Z (F.cl.mul _ _ b Y),<- F.mul_assoc _ _ _ b Z Y,F.mul_comm _ _ b Z,F.mul_assoc _ _ _ Z b Y]
def rtTo (O:aP) (n:Nat):Nat->LI
 | 0=>[]
 | k+1=>if fB O ((k:Int)+1) n=1 then rtTo O n k ++ [(k:Int)+1] else rtTo O n k
theorem iE {n:Nat} {x:Int}:∀ {k:Nat},x ∈ rtTo O n k ↔ 1<=x/\x<=(k:Int)/\fB O x n=1
 | 0=>by simp only [rtTo,List.not_mem_nil,false_iff];intro h;have h1:=h.1;have h2:=h.2.1;omega
 | k+1=>by
  rw [rtTo];by_cases h:fB O ((k:Int)+1) n=1
  ·rw [KX h,L8,iE,LQ];constructor
   ·rintro (⟨a,b,c⟩ | rfl)
    ·exact ⟨a,by omega,c⟩
    ·exact ⟨by omega,by omega,h⟩
   ·rintro ⟨a,b,c⟩;by_cases e:x=(k:Int)+1
    ·exact .inr e
    ·exact .inl ⟨a,by omega,c⟩
  ·rw [KY h,iE];constructor
   ·rintro ⟨a,b,c⟩;exact ⟨a,by omega,c⟩
   ·rintro ⟨a,b,c⟩;refine ⟨a,?_,c⟩;have e:x ≠ (k:Int)+1:=λe=>h (by rw [<- e];exact c);omega
theorem kK (n:Nat):∀k,(rtTo O n k).Nodup
 | 0=>OH
 | k+1=>by
  rw [rtTo];split
  ·unfold List.Nodup;rw [NK];refine ⟨kK n k,List.pairwise_singleton _ _,λa ha b hb e=>?_⟩;rw [LQ] at hb;have:=(iE.1 ha).2.1;omega
  ·exact kK n k
theorem Cb (F:bK O El) (h:Io O El q g) {n:Nat} (hn:1<=n) (hd:n ∣ q - 1):(rtTo O n (q - 1)).length=n:=by
 obtain ⟨s,N⟩:=hd;have hq:=h.q2;have z:1<=s:=Nat.one_le_iff_ne_zero.2 λe=>by rw [e,Nat.mul_zero] at N;omega
 have S:∀x ∈ rtTo O n (q - 1),El x:=λx U=>by obtain ⟨a,b,_⟩:=iE.1 U;exact (h.rng x).2 ⟨by omega,by omega⟩
 refine Oj (MO λhc=>?_) ?_
 ·have Z:=F.cl.neg _ F.one;have h1:=kH F (X:=rtTo O n (q - 1)) (a:=lj O (ju (n+1) 1 n) (ju (n+1) (O.neg 1) 0)) (kK n _) S (qV F (jx F F.one) (jx F Z)) (λx U=>by have Y:=S x U;rw [qE F Y (by simp [ju]) (jx F F.one) (jx F Z),oG F Y F.one _ _ (by omega),oG F Y Z _ _ (by omega),(iE.1 U).2.2];show O.add (O.mul 1 1) (O.mul (O.neg 1) 1)=0;rw [F.one_mul 1 F.one,F.iV Z,F.add_neg 1 F.one]) (by unfold lj;rw [Mm];simp [ju];omega);have h2:=h1 (nth (lj O (ju (n+1) 1 n) (ju (n+1) (O.neg 1) 0)) n) (aG (by unfold lj;rw [Mm];simp [ju]));rw [sQ (by simp [ju]) (by simp [ju]),oH (by omega),oH (by omega),KX rfl,KY (by omega),F.add_zero 1 F.one] at h2;exact absurd h2 (by decide)
 ·have Q:∀j,j<n->j * s<q - 1:=λj G=>by rw [N];exact Nat.mul_lt_mul_of_pos_right G (by omega)
  have K:((List.range n).map λj=>fB O g (j * s)).Nodup:=by unfold List.Nodup;rw [Nz];refine List.nodup_range.imp_of_mem λ{a b} ha hb hne e=>hne ?_;have h3:=h.inj _ _ (Q a (List.mem_range.1 ha)) (Q b (List.mem_range.1 hb)) e;exact Nat.eq_of_mul_eq_mul_right (by omega) h3
  have h2:=jV (T:=rtTo O n (q - 1)) K λx U=>by obtain ⟨j,G,rfl⟩:=List.mem_map.1 U;have H:=eU F h.el (j * s);have A:=(h.rng _).1 H;have hne:=h.ne (j * s);refine iE.2 ⟨by omega,by omega,?_⟩;rw [<- nR F h.el,show j * s * n=(q - 1) * j by rw [N,N6,Me s n,Me],nR F h.el,h.last,qJ F]
  simpa using h2
def fE (O:aP) (U:LI) (N:Nat):Nat->LI
 | 0=>[]
 | k+1=>if (fE O U N k).length<N/\¬ ((k:Int)+1) ∈ fE O U N k then fE O U N k ++ cO (U.map (O.mul ((k:Int)+1))) else fE O U N k
structure Ku (O:aP) (El:Int->Prop) (U:LI) (s:Nat) (X:LI):Prop where
 nd:X.Nodup
 el:∀y ∈ X,El y/\y ≠ 0
 cl:∀y ∈ X,∀u ∈ U,O.mul y u ∈ X
 blk:∃c,X.length=s * c/\∀j t,j<c->t<s->fB O (nth X (s * j+t)) s=fB O (nth X (s * j)) s
theorem uy {a b:LI} {i:Nat} (h:i<a.length):nth (a ++ b) i=nth a i:=by unfold nth;rw [KZ,KZ,Lg h]
theorem uI {a b:LI} {i:Nat}:nth (a ++ b) (a.length+i)=nth b i:=by unfold nth;rw [KZ,KZ,L4 (by omega),Nat.add_sub_cancel_left]
theorem G9 (F:bK O El) {U X:LI} {s:Nat} (hs:1<=s) (hUn:U.Nodup) (hUl:U.length=s) (hU:∀u,u ∈ U ↔ El u/\u ≠ 0/\fB O u s=1) (h:Ku O El U s X) {x:Int} (S:El x) (h0:x ≠ 0) (hn:¬ x ∈ X) :
  Ku O El U s (X ++ cO (U.map (O.mul x))):=by
 have Z:∀u ∈ U,El u/\u ≠ 0/\fB O u s=1:=λu hu=>(hU u).1 hu;have hinv:∀u ∈ U,O.inv u ∈ U/\O.mul u (O.inv u)=1:=λu hu=>by
  obtain ⟨a,b,c⟩:=Z u hu;have hi:=F.cl.inv u a b;have hm:=F.mul_inv u a b;refine ⟨(hU _).2 ⟨hi,λe=>?_,?_⟩,hm⟩
  ·rw [e,F.dh a] at hm;exact absurd hm (by decide)
  ·have h1:=nI F a hi s;rw [hm,qJ F,c,F.one_mul _ (eU F hi s)] at h1;exact h1.symm
 have Y:∀y,y ∈ cO (U.map (O.mul x)) ↔ ∃u ∈ U,O.mul x u=y:=λy=>by rw [(dC _).mem_iff,Nv]
 have hmul:∀ {u v:Int},El u->El v->u ≠ 0->v ≠ 0->O.mul u v ≠ 0:=λhu H h1 h2 e=>h2 (F.vr hu H h1 e);refine ⟨?_,λy Q=>?_,λy Q u hu=>?_,?_⟩
 ·unfold List.Nodup;rw [NK];refine ⟨h.nd,?_,λa ha b hb e=>?_⟩
  ·refine ((dC (U.map (O.mul x))).nodup_iff).2 ?_;unfold List.Nodup;rw [Nz];refine hUn.imp_of_mem λ{u v} hu H hne e=>hne ?_;obtain ⟨a1,a2,_⟩:=Z u hu;obtain ⟨K,_,_⟩:=Z v H;have e1:O.mul (O.inv x) (O.mul x u)=O.mul (O.inv x) (O.mul x v):=by rw [e]
   have hi:=F.cl.inv x S h0;rw [<- F.mul_assoc _ _ _ hi S a1,<- F.mul_assoc _ _ _ hi S K,F.mul_comm _ _ hi S,F.mul_inv x S h0,F.one_mul _ a1,F.one_mul _ K] at e1;exact e1
  ·subst e;obtain ⟨u,hu,e⟩:=(Y a).1 hb;obtain ⟨A,hi2⟩:=hinv u hu;obtain ⟨u1,_,_⟩:=Z u hu;obtain ⟨i1,_,_⟩:=Z _ A;have h1:=h.cl a ha _ A;rw [<- e,F.mul_assoc _ _ _ S u1 i1,hi2,F.iV S] at h1;exact hn h1
 ·rcases List.mem_append.1 Q with Q | Q
  ·exact h.el y Q
  ·obtain ⟨u,hu,rfl⟩:=(Y y).1 Q;obtain ⟨a1,a2,_⟩:=Z u hu;exact ⟨F.cl.mul _ _ S a1,hmul S a1 h0 a2⟩
 ·rcases List.mem_append.1 Q with Q | Q
  ·exact List.mem_append.2 (.inl (h.cl y Q u hu))
  ·obtain ⟨v,H,rfl⟩:=(Y y).1 Q;obtain ⟨a1,a2,a3⟩:=Z u hu;obtain ⟨K,b2,b3⟩:=Z v H;refine List.mem_append.2 (.inr ((Y _).2 ⟨O.mul v u,(hU _).2 ⟨F.cl.mul _ _ K a1,hmul K a1 b2 a2,?_⟩,?_⟩))
   ·rw [nI F K a1,b3,a3,F.one_mul 1 F.one]
   ·exact (F.mul_assoc _ _ _ S K a1).symm
 ·obtain ⟨c,hc,hb⟩:=h.blk;have hl:(cO (U.map (O.mul x))).length=s:=by rw [eE,Lc,hUl]
  refine ⟨c+1,by rw [K6,hl,hc,Nj],λj t hj z=>?_⟩;have G:∀t,t<s->fB O (nth (cO (U.map (O.mul x))) t) s=fB O x s:=λt z=>by obtain ⟨u,hu,e⟩:=(Y _).1 (aG (l:=cO (U.map (O.mul x))) (i:=t) (by rw [hl];exact z));obtain ⟨a1,_,a3⟩:=Z u hu;rw [<- e,nI F S a1,a3,F.iV (eU F S s)]
  rcases LP j c with N | N
  ·have hle:s * j+s<=s * c:=by rw [<- Nj];exact Mr s N
   rw [uy (by rw [hc];omega),uy (by rw [hc];omega)];exact hb j t N z
  ·obtain rfl:j=c:=by omega
   rw [<- hc,uI,G t z];have e0:nth (X ++ cO (U.map (O.mul x))) X.length=nth (cO (U.map (O.mul x))) 0:=uI (i:=0);rw [e0,G 0 (by omega)]
theorem F6 (F:bK O El) (h:Io O El q g) {s c:Nat} (hs:1<=s) (hd:s ∣ q - 1) (hc:s * c<=q - 1) :
  Ku O El (rtTo O s (q - 1)) s (fE O (rtTo O s (q - 1)) (s * c) (q - 1))/\(fE O (rtTo O s (q - 1)) (s * c) (q - 1)).length=s * c:=by
 have hq:=h.q2;obtain ⟨U,Y⟩:∃U,rtTo O s (q - 1)=U:=⟨_,rfl⟩
 have N:U.length=s:=by rw [<- Y];exact Cb F h hs hd
 have hUn:U.Nodup:=by rw [<- Y];exact kK s _
 have hU:∀u,u ∈ U ↔ El u/\u ≠ 0/\fB O u s=1:=λu=>by
  rw [<- Y,iE];constructor
  ·rintro ⟨a,b,e⟩;exact ⟨(h.rng u).2 ⟨by omega,by omega⟩,by omega,e⟩
  ·rintro ⟨a,b,e⟩;have:=(h.rng u).1 a;exact ⟨by omega,by omega,e⟩
 rw [Y];have A:(1:Int) ∈ U:=(hU 1).2 ⟨F.one,by decide,qJ F s⟩;have key:∀k,k<=q - 1->Ku O El U s (fE O U (s * c) k)/\(fE O U (s * c) k).length<=s * c/\((∀j:Nat,j<k->((j:Int)+1) ∈ fE O U (s * c) k)\/(fE O U (s * c) k).length=s * c):=λk=>by
  induction k with
  | zero=>intro _;exact ⟨⟨OH,by simp [fE],by simp [fE],0,by simp [fE],λj t K=>by omega⟩,by simp [fE],.inl λj K=>by omega⟩
  | succ k ih =>
   intro hk
   obtain ⟨Q,i2,H⟩:=ih (by omega)
   rw [fE]
   by_cases hcnd:(fE O U (s * c) k).length<s * c/\¬ ((k:Int)+1) ∈ fE O U (s * c) k
   ·rw [KX hcnd]
    have S:El ((k:Int)+1):=(h.rng _).2 ⟨by omega,by omega⟩
    have hx0:((k:Int)+1) ≠ 0:=by omega
    have G:=G9 F hs hUn N hU Q S hx0 hcnd.2
    obtain ⟨c',hc',_⟩:=Q.blk
    have hl:(cO (U.map (O.mul ((k:Int)+1)))).length=s:=by rw [eE,Lc,N]
    have hcc:c'<c:=by refine MO λhn=>?_;have h1:=Mr s (show c<=c' by omega);have h2:=hcnd.1;omega
    have hle:s * c'+s<=s * c:=by rw [<- Nj];exact Mr s hcc
    refine ⟨G,by rw [K6,hl,hc'];exact hle,.inl λj K=>?_⟩
    rcases LP j k with Z | Z
    ·rcases H with h3 | h3
     ·exact List.mem_append.2 (.inl (h3 j Z))
     ·exact absurd h3 (by have:=hcnd.1;omega)
    ·obtain rfl:j=k:=by omega
     refine List.mem_append.2 (.inr ((dC _).mem_iff.2 (List.mem_map.2 ⟨1,A,F.iV S⟩)))
   ·rw [KY hcnd]
    refine ⟨Q,i2,?_⟩
    by_cases hlt:(fE O U (s * c) k).length<s * c
    ·have z:((k:Int)+1) ∈ fE O U (s * c) k:=MO λhn=>hcnd ⟨hlt,hn⟩
     rcases H with h3 | h3
     ·refine .inl λj K=>?_
      rcases LP j k with Z | Z
      ·exact h3 j Z
      ·obtain rfl:j=k:=by omega
       exact z
     ·exact .inr h3
    ·exact .inr (by omega)
 obtain ⟨Q,i2,H⟩:=key (q - 1) (KT _);refine ⟨Q,?_⟩;rcases H with h3 | h3
 ·have hnd:((List.range (q - 1)).map λj:Nat=>(j:Int)+1).Nodup:=by unfold List.Nodup;rw [Nz];exact List.Pairwise.imp (λhne e=>hne (by omega)) List.nodup_range
  have h4:=jV (T:=fE O U (s * c) (q - 1)) hnd λx hx=>by obtain ⟨j,K,rfl⟩:=List.mem_map.1 hx;exact h3 j (List.mem_range.1 K)
  rw [Lc,Ma] at h4;omega
 ·exact h3
def gq (r j:Nat):Nat:=j+j / r
theorem Ic {r i j:Nat} (h:i<j):gq r i<gq r j:=by unfold gq;have:=OI (c:=r) (Nat.le_of_lt h);omega
theorem J0 {r:Nat} (Z:1<=r) (j:Nat):gq r j=(r+1) * (j / r)+j % r:=by unfold gq;have h:=MP j r;rw [NA];omega
theorem IM {r:Nat} (Z:1<=r) (j:Nat):gq r j % (r+1)<r:=by have h1:=MJ j (show r > 0 by omega);rw [J0 Z,Nat.mul_add_mod,NH (by omega)];exact h1
end
section
variable {O:aP} {El:Int->Prop} {m:Nat} {L V:Ll}
end
section
variable {P M:Int} {mod:LI} {m:Nat} {L:Ll}
def da (P M:Int) (mod:LI) (m:Nat) (L:Ll) (i:Int):Ll:=aU (ah P M.toNat mod) (bI (ah P M.toNat mod).ops m (L ++ [bM m i])) m
end
section
variable {O:aP} {El:Int->Prop} {m:Nat} {L:Ll}
theorem GH (F:bK O El) {B:Ll} (Y:bt El m B) {f:Nat->Int} (Z:∀x,x<m->El (f x)):RS O El m (gG O m (bI O m B)) f ↔ ∀r ∈ B,dotN O f (λp=>nth r p) m=0:=by
 have U:=bS F Y;obtain ⟨s1,s2⟩:=dN F Y;rw [qS F U Z];constructor
 ·intro h r S;obtain ⟨i,hi,rfl⟩:=fZ S;exact mT F U Z h (s2 i hi)
 ·intro h i hi;exact mT F Y Z (λj Q=>h _ (eZ Q)) (s1 i hi)
theorem uW (F:bK O El) (Y:bt El m L) (i:Int):bt El m (L ++ [bM m i]):=λr Z=>by
 rcases List.mem_append.1 Z with h | h
 ·exact Y r h
 ·rw [List.mem_singleton.1 h];exact lA F m i
theorem IS (F:bK O El) (U:bt El m L) {i:Nat} (hi:i<m) {f:Nat->Int} (Z:∀x,x<m->El (f x)):RS O El m (gG O m (bI O m (L ++ [bM m (i:Int)]))) f ↔ RS O El m (gG O m L) f/\f i=0:=by
 rw [GH F (uW F U i) Z,qS F U Z];constructor
 ·intro h;refine ⟨λj Y=>h _ (List.mem_append.2 (.inl (eZ Y))),?_⟩;have h1:=h (bM m (i:Int)) (List.mem_append.2 (.inr (List.mem_singleton.2 rfl)));rw [nP F Z (z:=(i:Int)) (by simpa using hi)] at h1;simpa using h1
 ·rintro ⟨h1,h2⟩ r S;rcases List.mem_append.1 S with h | h
  ·obtain ⟨j,Y,rfl⟩:=fZ h;exact h1 j Y
  ·rw [List.mem_singleton.1 h,nP F Z (z:=(i:Int)) (by simpa using hi)];simpa using h2
theorem E2 (F:bK O El) {A B:Ll} (U:bt El m A) (S:bt El m B) (h:∀f:Nat->Int,(∀x,x<m->El (f x))->(RS O El m (gG O m A) f ↔ RS O El m (gG O m B) f)):gG O m A=gG O m B:=by
 have a2:=fY F (bS F U) (bU F U).1 (cI F U);have Z:=fY F (bS F S) (bU F S).1 (cI F S);have Q:bt El m (gG O m A):=bS F a2;have N:bt El m (gG O m B):=bS F Z;refine yR F Q N (bU F a2).1 (bU F Z).1 (bU F a2).2 (bU F Z).2 (cI F a2) (cI F Z) (λi hi=>?_) (λi hi=>?_)
 ·exact (h _ λx Y=>Ps (Q.row hi) Y).1 (PB F hi)
 ·exact (h _ λx Y=>Ps (N.row hi) Y).2 (PB F hi)
theorem Fx (F:bK O El) (Z:bt El m L) {i:Nat} (hi:i<m):Cy O m (gG O m L) [(i:Int)]=gG O m (bI O m (L ++ [bM m (i:Int)])):=by
 have U:=mj F Z;have N:KK m [(i:Int)]:=λz Y=>by rw [List.mem_singleton.1 Y];omega
 refine E2 F (λr Q=>?_) (bS F (uW F Z (i:Int))) λf S=>?_
 ·rcases List.mem_append.1 Q with h | h
  ·exact mj F U r h
  ·obtain ⟨z,_,rfl⟩:=List.mem_map.1 h;exact lA F m z
 ·refine (EB F U N S).trans (Iff.trans ?_ (IS F Z hi S).symm);constructor
  ·rintro ⟨h1,h2⟩;exact ⟨h1,by have:=h2 (i:Int) (by simp);simpa using this⟩
  ·rintro ⟨h1,h2⟩;exact ⟨h1,λz Y=>by rw [List.mem_singleton.1 Y];simpa using h2⟩
end
section
variable {P M:Int} {mod:LI} {m:Nat} {L:Ll}
theorem Ij (i:Int):da P M mod m L i=gG (ah P M.toNat mod).ops m (bI (ah P M.toNat mod).ops m (L ++ [bM m i])):=by unfold da aU gG bq;rfl
end
theorem B8:(prog.info? 103).map (λi=>(i.zero,i.size,i.bytes))=some (some (.agg #[ds]),1,24):=by kernel_rfl
theorem n8 {P:Program} {w:World} {ops:Array Oper} {rest:List Oper} {o:Oper} {ac:Act} {Q:Exit->Act->World->Prop}
  (hg:o.guard=none) (s x:Operand) (t e:TypeId) (hop:o.op = .call { callee:=.builtin .append,args:=#[s,x],argTypes:=#[t,t] }) (z:Value) (bytes:Nat)
  (h1:P.underlying t=some (.slice e)) (h2:(P.info? e).map (λi=>(i.zero,i.size,i.bytes))=some (some z,1,bytes)) (hz:z.cells.size=1)
  (B:Nat) (a:OA) (n c:Nat) (xs:List Value) (hs:ac.eval s = .slice a n c) (U:w.ownsRow B e 1 (.slice a n c) n xs)
  (ad:Addr) (cc:Nat) (u:Value) (hx:ac.eval x = .slice (some ad) 1 cc) (hu:w.cell? ad=some u) (h1c:u.oneCell'=true)
  (b2:(n+1) * bytes<=140737488355328) (b3:n+1<=maxLen) (hB:B<=w.heap.size)
  (hK:∀a' Y w',w'.ownsRow B e 1 (.slice a' (n+1) Y) (n+1) (xs ++ [u])->w.grownBy w' (Value.slice a n c).ownBlock->(∀b,b<w.heap.size->eY a b->eY a' b)->wpList P ops Q rest (ac.put o.dst (.slice a' (n+1) Y)) w') :
  wpList P ops Q (o :: rest) ac w:=by
 obtain ⟨i,hi,F,A,K⟩:=info_parts h2;refine wpList_append_own_at w hg s x t hop B e i z 1 bytes h1 hi F A K hz (by decide) _ n xs hs U ad 1 cc [u] hx rfl ?_ ?_ b3 b2 hB λv' w' Z H _ G=>?_
 ·intro j v N;match j,N with
  | 0,N=>simp at N;subst N;simpa [Addr.add] using hu
 ·intro v hv;simp at hv;subst hv;exact h1c
 ·obtain ⟨a',Y,rfl,_⟩:=PG Z;refine hK a' Y w' Z H λb hb S=>?_;have h:=S.own n c;rcases G with h3 | h3
  ·exact eY.pI (n:=n+1) (c:=Y) (by rw [h3];exact h)
  ·exact eY.pI (n:=n+1) (c:=Y) (by rw [h3];intro h4;cases h4;omega)
structure TX where
 a:OA
 c:Nat
 T:Ll
def Fm (y:TX):Value:=.slice y.a y.T.length y.c
theorem IN {w w':World} {B:Nat} {e:TypeId} {a:OA} {n c:Nat} {xs:List Value} (h:w.ownsRow B e 1 (.slice a n c) n xs) (hb:a ≠ none->w'.heap[ablk a]? = w.heap[ablk a]?):w'.ownsRow B e 1 (.slice a n c) n xs:=by
 refine ⟨h.1,?_⟩;rcases h.2 with h2 | ⟨g,cap,cur,Z,Y,U,r⟩
 ·exact .inl h2
 ·cases Z
  exact .inr ⟨g,_,cur,rfl,Y,by rw [show w'.heap[g]? = w.heap[g]? from hb (by simp)];exact U,r⟩
theorem aC.KC {w w':World} {A Z:Nat->Prop} (h:aC w w' A A) (Y:∀b,Z b->A b\/w.heap.size<=b):aC w w' A Z:=⟨h.os,h.tape,h.output,h.size,h.block,Y⟩
theorem gB.Aq {A U:Nat->Prop} {w w':World} {a:OA} {n:Nat} {L:Ll} (h:gB A w a n L) (Z:aC w w' A U):gB U w' a n L :=
 ⟨h.len,h.pl,h.max,λY=>Z.not (h.iZ.lt Y) (h.no Y),λi hi=>by obtain ⟨b,m,c,h1,h2,h3⟩:=h.cell i hi;exact ⟨b,m,c,Z.cell h1 (h.no (by omega)),h2.dc Z h3,λhm=>Z.not (h2.lt hm) (h3 hm)⟩⟩
theorem aQ.Kg {w:World} {g:Nat} {x y:Value} (h:aQ w g [x,y]) (u:Value):aQ (w.setCell ⟨g,1,none⟩ u) g [x,u]:=by
 have U:=h.cell 0 rfl;have Y:=h.cell 1 rfl;refine ⟨by have:=h.1;simpa using this,λi v Z=>?_,λi=>by rw [L7];exact h.2.2 i⟩;match i,Z with
 | 0,Z=>simp at Z;subst Z;rw [Le _ _ _ _ (by simp)];exact U
 | 1,Z=>simp at Z;subst Z;exact Lh w _ _ Y
 | i+2,Z=>simp at Z
def TA (B Bo:Nat) (at':OA):Nat->Prop:=λb=>b<B\/b=Bo\/(at' ≠ none/\b=ablk at')
structure jY (B:Nat) (V:World) (Bo:Nat) (v0:Value) (at':OA) (ct:Nat) (tt:List TX):Prop where
 bo:B<=Bo
 box:aQ V Bo [v0,.slice at' tt.length ct]
 tow:V.ownsRow B 103 1 (.slice at' tt.length ct) tt.length (tt.map Fm)
 at1:eY at' Bo
 tx:∀y ∈ tt,gB (TA B Bo at') V y.a y.T.length y.T/\y.T.length<=y.c
section
variable {B:Nat} {V V' w5:World} {Bo:Nat} {v0:Value} {at':OA} {ct:Nat} {tt:List TX} {o:Obj}
theorem jY.af (h:jY B V Bo v0 at' ct tt) (hb:PY V V'):jY B V' Bo v0 at' ct tt :=
 ⟨h.bo,h.box.af hb,bf h.tow hb,h.at1,λy Z=>⟨(h.tx y Z).1.af hb,(h.tx y Z).2⟩⟩
theorem jY.start (Z:B<=Bo) (h:aQ V Bo [v0,ds]):jY B V Bo v0 none 0 [] :=
 ⟨Z,h,cU,.inl rfl,λy Y=>by simp at Y⟩
theorem jY.lt (h:jY B V Bo v0 at' ct tt):∀b,TA B Bo at' b->b<V.heap.size:=λb hb=>by
 have h0:=h.bo;have Z:=h.box.1;rcases hb with h1 | rfl | ⟨h1,rfl⟩
 ·omega
 ·exact h.box.1
 ·exact (aT h.tow h1).2
theorem jY.Jg (h:jY B V Bo v0 at' ct tt) {x:TX} (S:gB (TA B Bo at') V x.a x.T.length x.T) (A:x.T.length<=x.c) {a5:OA} {N:Nat}
  (Z:w5.ownsRow B 103 1 (.slice a5 (tt.length+1) N) (tt.length+1) (tt.map Fm ++ [Fm x])) (G:(V.alloc o).grownBy w5 (Value.slice at' tt.length ct).ownBlock) (H:∀b,b<(V.alloc o).heap.size->eY at' b->eY a5 b) :
  jY B (w5.setCell ⟨Bo,1,none⟩ (.slice a5 (tt.length+1) N)) Bo v0 a5 N (tt ++ [x])/\∀w0,Below B w0 V->Below B w0 (w5.setCell ⟨Bo,1,none⟩ (.slice a5 (tt.length+1) N)):=by
 have hne:a5 ≠ none:=λe=>by
  obtain ⟨y,z,F,hp⟩:=PG Z;cases F
  have:=hp (by omega);rw [e] at this;cases this
 have hsz:(V.alloc o).heap.size=V.heap.size+1:=by simp
 have hM0:aC V (w5.setCell ⟨Bo,1,none⟩ (.slice a5 (tt.length+1) N)) (TA B Bo at') (TA B Bo at') :=
  ((Pr (an V o) _).trans (PC G λh1=>.inr (.inr ⟨h1,rfl⟩))).trans (aC.rp (I:=TA B Bo at') (p:=⟨Bo,1,none⟩) _ (.inr (.inl rfl)) _)
 have K:∀b,TA B Bo a5 b->TA B Bo at' b\/V.heap.size<=b:=λb hb=>by
  rcases hb with hb | hb | ⟨_,hb⟩
  ·exact .inl (.inl hb)
  ·exact .inl (.inr (.inl hb))
  ·rcases LP b V.heap.size with h1 | h1
   ·by_cases h2:eY at' b
    ·rcases H b (by omega) h2 with h3 | h3
     ·exact absurd h3 hne
     ·exact absurd hb.symm h3
    ·exact .inl (.inr (.inr ⟨λe=>h2 (.inl e),Lr λe=>h2 (.inr λe2=>e e2.symm)⟩))
   ·exact .inr h1
 have hM:=hM0.KC K;have hb5:aQ w5 Bo [v0,.slice at' tt.length ct]:=by have S:=h.box.alloc o;have hBo:=h.box.1;have Q:w5.heap[Bo]? = (V.alloc o).heap[Bo]?:=G.block Bo (by omega) λe=>h.at1.own _ _ e.symm;exact ⟨Lx S.1 G.size,λj v F=>(Lu (w:=V.alloc o) (a:=⟨Bo,j,none⟩) Q).trans (S.2.1 j v F),λj=>(LK (w:=V.alloc o) (a:=⟨Bo,j,none⟩) Q).trans (S.2.2 j)⟩
 have Y:eY a5 Bo:=H Bo (by have:=h.box.1;omega) h.at1;refine ⟨⟨h.bo,?_,?_,Y,λy U=>?_⟩,λw0 hw=>(Pp (hw.alloc (by have:=h.bo;have:=h.box.1;omega) o) (h.tow.alloc o) G (KT _) (by have:=h.bo;have:=h.box.1;omega)).setCell (p:=⟨Bo,1,none⟩) h.bo _⟩
 ·rw [K6];exact hb5.Kg _
 ·rw [K6,LJ];exact ee Z _ (Y.elim (λe=>.inl e) λe=>.inr e)
 ·rcases List.mem_append.1 U with U | U
  ·exact ⟨(h.tx y U).1.Aq hM,(h.tx y U).2⟩
  ·rw [List.mem_singleton.1 U];exact ⟨S.Aq hM,A⟩
theorem jY.set (h:jY B V Bo v0 at' ct tt) {p:Addr} (N:p.block<B) (v:Value):jY B (V.setCell p v) Bo v0 at' ct tt:=by have S:aC V (V.setCell p v) (TA B Bo at') (TA B Bo at'):=aC.rp (I:=TA B Bo at') (p:=p) _ (.inl N) _;have hb:=h.bo;have Z:∀b,B<=b->(V.setCell p v).heap[b]? = V.heap[b]?:=λb h1=>Lf _ _ _ _ (by omega);refine ⟨h.bo,?_,IN h.tow λh1=>Z _ (aT h.tow h1).1,h.at1,λy U=>⟨(h.tx y U).1.Aq S,(h.tx y U).2⟩⟩;have Y:=Z Bo h.bo;exact ⟨by have:=h.box.1;simpa using this,λj v Q=>(Lu (w:=V) (a:=⟨Bo,j,none⟩) Y).trans (h.box.2.1 j v Q),λj=>(LK (w:=V) (a:=⟨Bo,j,none⟩) Y).trans (h.box.2.2 j)⟩
end
def oo (T:List Ll) (i:Nat):Ll:=T.getD i []
theorem oL {l:List Ll} {i:Nat} (h:i<l.length):oo l i=l[i]:=by simp [oo,h]
structure fQ (w:World) (a:OA) (n:Nat) (TT:List Ll):Prop where
 len:TT.length=n
 pl:Pl a n
 max:n<=maxLen
 cell:∀i,i<n->∃b m c,w.cell? ⟨ablk a,aJ a+i,none⟩=some (.slice b m c)/\bw w b m (oo TT i)/\m<=c
theorem fQ.af {w w':World} {a:OA} {n:Nat} {TT:List Ll} (h:fQ w a n TT) (hb:PY w w'):fQ w' a n TT :=
 ⟨h.len,h.pl,h.max,λi hi=>by obtain ⟨b,m,c,h1,h2,h3⟩:=h.cell i hi;exact ⟨b,m,c,aB hb h1,h2.af hb,h3⟩⟩
theorem jY.trees {B:Nat} {V:World} {Bo:Nat} {v0:Value} {at':OA} {ct:Nat} {tt:List TX} (h:jY B V Bo v0 at' ct tt):fQ V at' tt.length (tt.map TX.T):=by
 refine ⟨by simp,?_,?_,λi hi=>?_⟩
 ·obtain ⟨a',U,Z,Y⟩:=PG h.tow;cases Z;exact Y
 ·rcases MI tt.length with h0 | h0
  ·rw [h0];exact K0 _
  ·exact (bH h.tow 0 h0).2.2.2.2
 ·have h1:=(bH h.tow i hi).1;have e1:(tt.map Fm)[i]? = some (Fm tt[i]):=by rw [MS,LC hi];rfl
  refine ⟨tt[i].a,tt[i].T.length,tt[i].c,by rw [h1,e1];rfl,?_⟩;rw [oL (by rw [Lc];exact hi),LU];exact ⟨(h.tx _ (Ly hi)).1.iZ,(h.tx _ (Ly hi)).2⟩
theorem mP {w w':World} {Y:OA} {m c:Nat} {ad:Addr} (U:w.grownBy w' (Value.slice Y m c).ownBlock) (Z:ad.block<w.heap.size) (h:w.frozen? ad=false) (hne:eY Y ad.block):w'.frozen? ad=false :=
 (LK (w:=w) (a:=ad) (U.block _ Z λe=>hne.own m c e.symm)).trans h
def r9 (T:Ll) (S:Int) (V:World) (e:Ending) (w':World):Prop:=∃Y Z U,e = .returned (.tuple #[.agg #[.slice Y Z U],cG S])/\cF V.heap.size w' Y Z T/\Z<=U/\PY V w'
theorem j4.Je {V:Int × Ll} {w w':World} {e:Ending} (h:j4 V w e w'):r9 (if V.1=0 then V.2 else []) V.1 w e w':=by
 obtain ⟨hb,⟨h1,rfl⟩ | ⟨h1,ar,cr,R,rfl,Z⟩⟩:=h
 ·rw [KY h1];exact ⟨none,0,0,rfl,PT (aO.Gb w' w.heap.size),KT _,hb⟩
 ·rw [KX h1];exact ⟨ar,_,cr,by rw [h1],PT Z,mz Z.own,hb⟩
theorem pZ {P M:Int} {mod:LI} (h:bs P M mod=true):∃g,Io (ah P M.toNat mod).ops (ah P M.toNat mod).El (ah P M.toNat mod).q g:=by
 have F:=dO h;obtain ⟨m,y,rfl,N,U,z,K,G⟩:=kU h;rw [KV] at F ⊢;have Y:∀x,(ah P m mod).El x ↔ eW P m x:=λx=>by simp only [cZ.El,ah,eW];rw [K]
 have Z:∀k,fB (ah P m mod).ops y k=pw P m mod y k:=λk=>by
  induction k with
  | zero=>rfl
  | succ k A =>
   show (ah P m mod).ops.mul (fB (ah P m mod).ops y k) y=dq P m mod (pw P m mod y k) y
   rw [A]
   exact G.qL (pQ N y k) G.yel
 refine ⟨y,(Y y).2 G.yel,λx=>Iff.rfl,G.q2,λx Q h0=>?_,λi j hi S e=>?_,?_,λk=>?_⟩
 ·obtain ⟨k,H,e,_⟩:=G.log ((Y x).1 Q) h0;exact ⟨k,H,by rw [Z];exact e⟩
 ·rw [Z,Z,<- G.val i hi,<- G.val j S] at e;exact G.inj hi S e
 ·rw [Z];exact G.last
 ·rw [Z];exact G.Jd k
section
variable {O:aP} {El:Int->Prop} {q:Nat} {g:Int}
def zT (O:aP) (q r c:Nat):LI:=fE O (rtTo O (r+1) (q - 1)) ((r+1) * c) (q - 1)
def Jr (O:aP) (q r c k:Nat):Ll:=iy O (zT O q r c) (gq r) k
theorem GF {r c k j:Nat} (Z:1<=r) (U:k<=c * r) (Y:j<k):gq r j<=(k - 1)+(k - 1) / r/\(k - 1)+(k - 1) / r<(r+1) * c:=by
 refine ⟨?_,?_⟩
 ·unfold gq;have:=OI (c:=r) (show j<=k - 1 by omega);omega
 ·have h1:(k - 1) / r<c:=Nat.div_lt_of_lt_mul (by rw [Me];omega);have h2:=MP (k - 1) r;have h3:=MJ (k - 1) (show r > 0 by omega);have S:r * ((k - 1) / r)+r<=r * c:=by rw [<- Nj];exact Mr r h1
  rw [NA];omega
theorem J5 (F:bK O El) (h:Io O El q g) {r c k:Nat} (H:1<=r) (hd:(r+1) ∣ q - 1) (hc:(r+1) * c<=q - 1) (hk1:1<=k) (hk:k<=c * r) :
  (zT O q r c).length=(r+1) * c/\(∀x ∈ zT O q r c,El x)/\(bI O ((r+1) * c) (Jr O q r c k)).length=k /\
  (∀w,Vc El ((r+1) * c) w->RS O El ((r+1) * c) (bI O ((r+1) * c) (Jr O q r c k)) (λi=>nth w i)->iK w ≠ 0->(r+1) * c<=iK w+((k - 1)+(k - 1) / r)) /\
  ∀j,j<c->∀l:LN,(∀p ∈ l,(r+1) * j<=p/\p<(r+1) * j+(r+1))->l.Nodup->r<=l.length->∀p,(r+1) * j<=p->p<(r+1) * j+(r+1) ->
   kB O El (bI O ((r+1) * c) (Jr O q r c k)).length (ba (bI O ((r+1) * c) (Jr O q r c k))) l p:=by
 obtain ⟨hI,hl⟩:=F6 F h (s:=r+1) (c:=c) (by omega) hd hc;have Z:(zT O q r c).length=(r+1) * c:=hl;have U:∀x ∈ zT O q r c,El x:=λx hx=>(hI.el x hx).1;have hE:∀i j,i<j->j<k->gq r i<gq r j:=λi j hij _=>Ic hij;have hD:∀j,j<k->gq r j<=(k - 1)+(k - 1) / r:=λj K=>(GF H hk K).1;have A:(k - 1)+(k - 1) / r<(zT O q r c).length:=by rw [Z];exact (GF H hk (show 0<k by omega)).2
 unfold Jr;rw [<- Z];refine ⟨rfl,U,FC F hI.nd U hE hD A,λw hw hrs h0=>Ap F hI.nd U hE hD hw hrs h0,λj K l Y hln e p hp1 hp2=>?_⟩;have hlt:(r+1) * j+(r+1)<=(zT O q r c).length:=by rw [Z,<- Nj];exact Mr (r+1) K
 obtain ⟨S,hc',Q⟩:=hI.blk;have z:S=c:=by
  have h1:(r+1) * S=(r+1) * c:=by rw [<- hc'];exact Z
  exact Nat.eq_of_mul_eq_mul_left (by omega) h1
 subst z;have N:∀p,(r+1) * j<=p->p<(r+1) * j+(r+1)->fB O (nth (zT O q r S) p) (r+1)=fB O (nth (zT O q r S) ((r+1) * j)) (r+1):=λp h1 h2=>by have h3:=Q j (p - (r+1) * j) K (by omega);rw [show (r+1) * j+(p - (r+1) * j)=p by omega] at h3;exact h3
 exact C1 F hI.nd U (r:=r) (λj _=>IM H j) (c:=fB O (nth (zT O q r S) ((r+1) * j)) (r+1)) (eU F (U _ (aG (by omega))) _)
  (λp G=>⟨by have:=(Y p G).2;omega,N p (Y p G).1 (Y p G).2⟩) hln e (by omega) (N p hp1 hp2)
end
def JV (G:cZ) (x:Int) (n:Nat):Int:=nth G.ex ((nth G.lg x.toNat * ((n:Int) % ((G.q:Int) - 1))) % ((G.q:Int) - 1)).toNat
theorem G8 {P M:Int} {mod:LI} (h:bs P M mod=true) {x:Int} (U:(ah P M.toNat mod).El x) (h0:x ≠ 0) (n:Nat):JV (ah P M.toNat mod) x n=fB (ah P M.toNat mod).ops x n:=by
 have F:=dO h;obtain ⟨m,y,rfl,Q,S,j,H,G⟩:=kU h;rw [KV] at F U ⊢;have Y:∀x,(ah P m mod).El x ↔ eW P m x:=λx=>by simp only [cZ.El,ah,eW];rw [H]
 have Z:∀k,fB (ah P m mod).ops y k=pw P m mod y k:=λk=>by
  induction k with
  | zero=>rfl
  | succ k A =>
   show (ah P m mod).ops.mul (fB (ah P m mod).ops y k) y=dq P m mod (pw P m mod y k) y
   rw [A]
   exact G.qL (pQ Q y k) G.yel
 obtain ⟨a,ha,rfl,_⟩:=G.log ((Y x).1 U) h0;have e:=G.q2;have z:nth (ah P m mod).lg (pw P m mod y a).toNat=a:=G.Il ha;have e1:((a:Int) * ((n:Int) % ((aK P m).toNat - 1))) % (((aK P m).toNat:Int) - 1)=(((a * (n % ((aK P m).toNat - 1))) % ((aK P m).toNat - 1):Nat):Int):=by
  have N:((aK P m).toNat:Int) - 1=(((aK P m).toNat - 1:Nat):Int):=by omega
  rw [N,MH,Om,MH]
 have K:(ah P m mod).q=(aK P m).toNat:=rfl;unfold JV;rw [z,K,e1,KV];show nth (fW P m mod (aK P m).toNat) _=_;rw [G.val _ (MJ _ (by omega)),G.red,<- Z,<- Z,<- nR F ((Y y).2 G.yel),Z,Z,<- G.red (a * (n % _)),<- G.red (a * n)];congr 1;rw [Nat.mul_mod,Nat.mod_mod,<- Nat.mul_mod]
section
variable {O:aP} {El:Int->Prop} {q:Nat} {g:Int}
theorem Cu (U:LI) (N:Nat) {k:Nat} (h:N<=(fE O U N k).length):∀j,fE O U N (k+j)=fE O U N k
 | 0=>rfl
 | j+1=>by show fE O U N ((k+j)+1)=_;rw [fE,Cu U N h j,KY (by omega)]
def iY (r x:Nat):Nat:=x - x / (r+1)
theorem Da {r x:Nat} (h:x % (r+1)=r):iY r (x+1)=iY r x:=by
 unfold iY;have h1:=MP x (r+1);have h2:(x+1) / (r+1)=x / (r+1)+1:=by
  have e:x+1=0+(x / (r+1)+1) * (r+1):=by rw [NA,Me];omega
  rw [e,Nc _ _ (by omega)];simp
 rw [h2];omega
theorem Et {r x:Nat} (Y:1<=r) (h:x % (r+1) ≠ r):iY r (x+1)=iY r x+1/\x=gq r (iY r x):=by
 have h1:=MP x (r+1);have h3:=MJ x (show r+1 > 0 by omega);have hle:x / (r+1)<=x:=NP _ _;have h2:(x+1) / (r+1)=x / (r+1):=by
  have e:x+1=(x % (r+1)+1)+(x / (r+1)) * (r+1):=by rw [Me];omega
  rw [e,Nc _ _ (by omega),O8 (by omega)];simp
 have Z:iY r x=x % (r+1)+x / (r+1) * r:=by
  unfold iY;have e:(r+1) * (x / (r+1))=x / (r+1) * r+x / (r+1):=by rw [NA,Me]
  omega
 refine ⟨by unfold iY;rw [h2];omega,?_⟩;have hd:iY r x / r=x / (r+1):=by rw [Z,Nc _ _ (by omega),O8 (by omega)];simp
 unfold gq;rw [hd];unfold iY;omega
theorem I1 {r x:Nat} (Z:1<=r) {k:Nat} (h:iY r x<k):x<2 * k:=by unfold iY at h;have:x / (r+1)<=x / 2:=Nat.div_le_div_left (by omega) (by omega);omega
theorem DT (r:Nat):iY r 0=0:=by simp [iY]
theorem Es (X:LI) (E:Nat->Nat) (k:Nat):iy O X E (k+1)=iy O X E k ++ [X.map λx=>fB O x (E k)]:=by unfold iy;rw [Mn,LJ];rfl
end
def CN (P M:Int) (mod:LI) (c r k:Int):Int :=
 if bs P M mod=false then 1 else if c<1\/64<c\/r<1\/64<r\/k<1\/64<k then 6 else
 if (((ah P M.toNat mod).q:Int) - 1) % (r+1) ≠ 0\/(((ah P M.toNat mod).q:Int) - 1) / (r+1)<c then 10 else
 if 64<c * (r+1) then 4 else if c * r<k then 9 else 0
def jC (q:Nat) (l:LI):List Bool:=(List.range q).map λ(y:Nat)=>decide ((y:Int) ∈ l)
theorem D1 (q:Nat) (l:LI):(jC q l).length=q:=by simp [jC]
theorem AU {q y:Nat} (l:LI) (h:y<q):qx (jC q l) y=decide ((y:Int) ∈ l):=by rw [nH (by rw [D1];exact h)];simp [jC]
theorem Dy {q y:Nat} (l:LI):(jC q l).set y true=jC q (l ++ [(y:Int)]):=by
 refine Mi (by simp [jC]) λi h1 h2=>?_;rw [O6];simp only [jC,LU,ML,L8,LQ];split
 ·rename_i h;subst h;simp
 ·rename_i h;have:¬ (i:Int)=y:=by omega
  simp [this]
theorem Ed (q:Nat):jC q []=List.replicate q false:=by refine Mi (by simp [jC]) λi h1 h2=>?_;simp [jC]
section
variable {O:aP} {El:Int->Prop} {q:Nat} {g:Int}
def Cn (O:aP) (n x:Nat):LI:=rtTo O n (x - 1)
def Ck (O:aP) (U:LI) (N x:Nat):LI:=fE O U N (x - 1)
theorem IK (n:Nat):Cn O n 1=[]:=rfl
theorem zj {n x:Nat} (h1:1<=x) (h:fB O (x:Int) n=1):Cn O n (x+1)=Cn O n x ++ [(x:Int)]:=by
 obtain ⟨j,rfl⟩:∃j,x=j+1:=⟨x - 1,by omega⟩
 have e:((j+1:Nat):Int)=(j:Int)+1:=by omega
 rw [e] at h ⊢;show rtTo O n (j+1)=rtTo O n j ++ _;rw [rtTo,KX h]
theorem zK {n x:Nat} (h1:1<=x) (h:fB O (x:Int) n ≠ 1):Cn O n (x+1)=Cn O n x:=by
 obtain ⟨j,rfl⟩:∃j,x=j+1:=⟨x - 1,by omega⟩
 have e:((j+1:Nat):Int)=(j:Int)+1:=by omega
 rw [e] at h;show rtTo O n (j+1)=rtTo O n j;rw [rtTo,KY h]
theorem vh (n:Nat):∀x,(Cn O n x).length<=x
 | 0=>by simp [Cn,rtTo]
 | 1=>by simp [Cn,rtTo]
 | x+2=>by
  by_cases h:fB O ((x+1:Nat):Int) n=1
  ·rw [zj (by omega) h,K6];have:=vh n (x+1);simp;omega
  ·rw [zK (by omega) h];have:=vh n (x+1);omega
theorem GV (U:LI) (N:Nat):Ck O U N 1=[]:=rfl
theorem Ft {U:LI} {N x:Nat} (h1:1<=x) (h:(Ck O U N x).length<N) (h2:¬ (x:Int) ∈ Ck O U N x):Ck O U N (x+1)=Ck O U N x ++ cO (U.map (O.mul (x:Int))):=by
 obtain ⟨j,rfl⟩:∃j,x=j+1:=⟨x - 1,by omega⟩
 have e:((j+1:Nat):Int)=(j:Int)+1:=by omega
 rw [e] at h2 ⊢;show fE O U N (j+1)=fE O U N j ++ _;rw [fE,KX ⟨h,h2⟩]
theorem FQ {U:LI} {N x:Nat} (h1:1<=x) (h2:(x:Int) ∈ Ck O U N x):Ck O U N (x+1)=Ck O U N x:=by
 obtain ⟨j,rfl⟩:∃j,x=j+1:=⟨x - 1,by omega⟩
 have e:((j+1:Nat):Int)=(j:Int)+1:=by omega
 rw [e] at h2;show fE O U N (j+1)=fE O U N j;rw [fE,KY λh=>h.2 h2]
theorem Gu {U:LI} {N x:Nat} (Z:x<=q) (h:N<=(Ck O U N x).length):Ck O U N x=Ck O U N q:=by have h1:=Cu (O:=O) U N (k:=x - 1) h (q - 1 - (x - 1));show fE O U N (x - 1)=fE O U N (q - 1);rw [<- h1];congr 1;omega
end
section
variable {P M:Int} {mod:LI} {c r k:Int}
theorem Ki (h:bs P M mod=false):CN P M mod c r k=1:=by unfold CN;rw [KX h]
theorem Kn (h:bs P M mod=true) (h1:c<1\/64<c\/r<1\/64<r\/k<1\/64<k):CN P M mod c r k=6:=by unfold CN;rw [KY (by rw [h];simp),KX h1]
theorem JE (h:bs P M mod=true) {Q c r k:Nat} (N:(ah P M.toNat mod).q=Q+1) (h1:1<=c/\c<=64) (h2:1<=r/\r<=64) (h3:1<=k/\k<=64) :
  CN P M mod c r k=if Q % (r+1) ≠ 0\/Q / (r+1)<c then 10 else if 64<c * (r+1) then 4 else if c * r<k then 9 else 0:=by
 unfold CN;rw [KY (by rw [h];simp),KY (by omega),N];have e1:(((Q+1:Nat):Int) - 1) % ((r:Int)+1)=((Q % (r+1):Nat):Int):=by rw [show ((Q+1:Nat):Int) - 1=(Q:Int) by omega,MH];rfl
 have Z:(((Q+1:Nat):Int) - 1) / ((r:Int)+1)=((Q / (r+1):Nat):Int):=by rw [show ((Q+1:Nat):Int) - 1=(Q:Int) by omega,Int.natCast_ediv];rfl
 rw [e1,Z];have U:(c:Int) * ((r:Int)+1)=((c * (r+1):Nat):Int):=by simp
 have Y:(c:Int) * (r:Int)=((c * r:Nat):Int):=by simp
 rw [U,Y];have c1:((Q % (r+1):Nat):Int) ≠ 0\/((Q / (r+1):Nat):Int)<(c:Int) ↔ Q % (r+1) ≠ 0\/Q / (r+1)<c:=by omega
 have c2:(64:Int)<((c * (r+1):Nat):Int) ↔ 64<c * (r+1):=by omega
 have S:((c * r:Nat):Int)<(k:Int) ↔ c * r<k:=by omega
 simp only [c1,c2,S]
end
def GG (P M:Int) (mod:LI) (c r k:Nat):Ll:=bI (ah P M.toNat mod).ops ((r+1) * c) (Jr (ah P M.toNat mod).ops (ah P M.toNat mod).q r c k)
theorem H8 {P M:Int} {mod:LI} (H:bs P M mod=true) {Q c r k:Nat} (A:(ah P M.toNat mod).q=Q+1) (e:1<=r) (hd:Q % (r+1)=0) (z:c<=Q / (r+1)) :
  let G:=ah P M.toNat mod
  (Cn G.ops (r+1) (Q+1)).length=r+1/\(∀x ∈ Cn G.ops (r+1) (Q+1),G.El x)/\(Ck G.ops (Cn G.ops (r+1) (Q+1)) ((r+1) * c) (Q+1))=zT G.ops G.q r c /\
  (zT G.ops G.q r c).length=(r+1) * c/\(∀x ∈ zT G.ops G.q r c,G.El x/\x ≠ 0)/\(r+1) * c<=Q:=by
 intro G;have F:=dO H;obtain ⟨g,K⟩:=pZ H;have Z:G.q - 1=Q:=by show (ah P M.toNat mod).q - 1=Q;omega
 have Y:(r+1) ∣ G.q - 1:=by rw [Z];exact Oh hd
 have U:(r+1) * c<=Q:=by have h1:=Mr (r+1) z;have h2:=Nat.mul_div_le Q (r+1);omega
 obtain ⟨hI,j⟩:=F6 F K (s:=r+1) (c:=c) (by omega) Y (by rw [show (ah P M.toNat mod).q - 1=Q from Z];exact U);refine ⟨?_,?_,?_,j,λx S=>hI.el x S,U⟩
 ·have:=Cb F K (n:=r+1) (by omega) Y;rw [show (ah P M.toNat mod).q - 1=Q from Z] at this;exact this
 ·intro x S;have N:x ∈ rtTo G.ops (r+1) Q:=S;obtain ⟨h1,h2,_⟩:=iE.1 N;show 0<=x/\x<_;rw [show (((ah P M.toNat mod).q:Nat):Int)=(Q:Int)+1 by rw [A];simp];omega
 ·unfold zT Ck Cn;rw [show (ah P M.toNat mod).q - 1=Q from Z];simp
def digN (q:Nat):Nat->Nat->LI
 | 0,_=>[]
 | k+1,n=>((n / q ^ k % q:Nat):Int) :: digN q k n
theorem ta (q n:Nat):∀k,(digN q k n).length=k
 | 0=>rfl
 | k+1=>by rw [digN,LB,ta]
theorem wj {q n:Nat} (Y:0<q):∀k,∀x ∈ digN q k n,0<=x/\x<(q:Int)
 | 0,x,Z=>by simp [digN] at Z
 | k+1,x,Z=>by
  rw [digN] at Z;rcases List.mem_cons.1 Z with rfl | Z
  ·have:=MJ (n / q ^ k) Y;omega
  ·exact wj Y k x Z
theorem yN {q:Nat} (Z:0<q) (a r k:Nat):∀t,t<=k->digN q t (a * q ^ k+r)=digN q t r
 | 0,_=>rfl
 | t+1,Y=>by
  rw [digN,digN,yN Z a r k t (by omega)];congr 2;obtain ⟨d,rfl⟩:∃d,k=t+1+d:=⟨k - (t+1),by omega⟩
  have e:a * q ^ (t+1+d)+r=r+(a * q ^ d * q) * q ^ t:=by
   rw [Nat.pow_add,MT];have:a * (q ^ t * q * q ^ d)=a * q ^ d * q * q ^ t:=by rw [N6 a,N6 a];congr 1;rw [Me (q ^ t * q),Me (q ^ t) q,N6]
   omega
  rw [e,Nc _ _ (Nat.pow_pos Z),Nat.add_mul_mod_self_right]
theorem sD {f:Nat->Ll} {B:Nat} (Z:∀a,(f a).length=B):∀c,((List.range c).flatMap f).length=c * B/\∀a,a<c->∀r,r<B->ai ((List.range c).flatMap f) (a * B+r)=ai (f a) r
 | 0=>⟨by simp,λa ha=>by omega⟩
 | c+1=>by
  obtain ⟨h1,h2⟩:=sD Z c;rw [Mn,OK,Oe];refine ⟨by rw [K6,h1,Z,NA],λa ha r Y=>?_⟩;simp only [ai,KZ] at h2 ⊢;by_cases U:a<c
  ·have h3:a * B+r<c * B:=by have:=OD B (show a+1<=c by omega);rw [NA] at this;omega
   rw [Lg (by rw [h1];exact h3)];exact h2 a U r Y
  ·obtain rfl:a=c:=by omega
   rw [L4 (by rw [h1];omega),h1,show a * B+r - a * B=r by omega]
theorem kb (q:Nat):∀k,(msgs q k).length=q ^ k
 | 0=>rfl
 | k+1=>by rw [msgs,(sD (B:=q ^ k) (λa=>by rw [Lc,kb q k]) q).1,MT,Me]
theorem yL {q:Nat} (Z:0<q):∀k n,n<q ^ k->ai (msgs q k) n=digN q k n
 | 0,n,h=>by
  obtain rfl:n=0:=by simp at h;exact h
  rfl
 | k+1,n,h=>by
  have Y:=Nat.pow_pos (n:=k) Z;have e:n=n / q ^ k * q ^ k+n % q ^ k:=by have:=MP n (q ^ k);rw [Me] at this;omega
  have h1:n / q ^ k<q:=(Nat.div_lt_iff_lt_mul Y).2 (by rw [Me,<- MT];exact h);have h2:=MJ n Y;have h3:=(sD (f:=λ(a:Nat)=>(msgs q k).map λs=>(a:Int) :: s) (B:=q ^ k) (λa=>by rw [Lc,kb q k]) q).2 (n / q ^ k) h1 (n % q ^ k) h2;rw [<- e] at h3;rw [msgs,h3,aE (by rw [Lc,kb];exact h2),LU,<- aE (by rw [kb];exact h2),yL Z k _ h2,digN,NH h1];congr 1;have U:=yN Z (n / q ^ k) (n % q ^ k) k k (KT _);rw [<- e] at U;exact U.symm
theorem Cl {O:aP} {m q:Nat} (Z:0<q) {L:Ll} {n:Nat} (h:n<q ^ L.length):ai (wlkS O q L (List.replicate m 0)) n=cmbTo O m (digN q L.length n) L L.length:=by rw [Cw,aE (by rw [Lc,kb];exact h),LU,<- aE (by rw [kb];exact h),yL Z _ _ h]
end Go.Proofs.YthglbncgemdcbaaGreat
