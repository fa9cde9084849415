import Derived.Test.YthglbncgemdcbaaGreatCK18
import Derived.Test.YthglbncgemdcbaaGreatCK16
namespace Go.Proofs.YthglbncgemdcbaaGreat
set_option linter.all false
set_option maxRecDepth 100000
set_option maxHeartbeats 8000000
open Go.RowKit Go.Proofs.Tryz
theorem uC {w N : World} {b : Nat} {G : cX} {a : OA} {n : Nat} {L : Ll} {m : Nat} {ay : OA} {ny : Nat} {C : iz} (A : Nat) (P M : Int) (am : OA) (mn cm c cy : Nat)
  (S : OA) (nx H : Nat) (j : Ll) (E : zU N b G a n L m ay ny C) (hts : bu N S nx j) (F : N.heap.size<=A) (hb : OC N w) (hB : aO w A (lL b P M am mn cm m a n c ay ny cy C (.slice none 0 0) 0)) :
  Calls prog 136 #[.pointer (some ⟨A,0,none⟩),.agg #[.slice S nx H]] w λe w'=>e = .returned (.int .i64 (provS G.ops L m C j))/\OC N w':=by
 have Htl:=Z5 hts.len;obtain ⟨PR,I⟩ : ∃PR,provS G.ops L m C j=PR:=⟨_,rfl⟩
 rw [I];have HPR:=Z5 I;clear I;have hb1 : OC w (w.alloc (.cells #[.slice S nx H] 103)):=an _ _;have z:=hB.af hb1;have f10:=z.frozen 10;have q10:=z.cell 10 rfl;have hsb : A<w.heap.size:=hB.1;go_enter func136,ntmps136;go_wp2_with fail;obtain ⟨Z,hZ⟩ : ∃Z : World,Z=(w.setCell ⟨A,10,none⟩ (.slice S nx H)).alloc (.cells #[.slice S nx H] 103):=⟨_,rfl⟩
 rw [<- hZ];have hBZ : aO Z A (lL b P M am mn cm m a n c ay ny cy C (.slice S nx H) 0):=by rw [hZ];exact (hB.setCell 10 (.slice S nx H)).alloc _
 have Q : OC N Z:=by rw [hZ];exact NX (hb.setCell F _) (an _ _)
 clear hZ z f10 q10 hB;refine (o6 A P M am mn cm c cy S nx H j E hts F C.W Z 0 none 0 0 [] none 0 0 [] (by omega) (by omega) (by omega) Q hBZ (N5 _ _) (N5 _ _) (λh=>by omega) (λh=>by omega) (by simp) (λx hx=>by simp at hx)).mono ?_;rintro e w5 ⟨k',g1,g2,g3,he,g5⟩;have U : OC N w5:=Q.trans (g3.below (λx hx=>by rw [hx];exact F) Q.size);rw [Ls] at g5 he;have c10:=g2.cell 10 rfl;have c11:=g2.cell 11 rfl;have Y : PR=match folS G.ops L m C C.W [] [] j with | some []=>0 | _=>13:=by rw [<- HPR.out];rfl
 cases hf : folS G.ops L m C C.W [] [] j with
 | none =>
  rw [hf] at Y he
  have HP:=Z5 Y
  have K : e = .returned (.int .i64 13):=he
  subst K
  clear hf Y g5 he
  have hd : ((13 : Int) == 0)=false:=rfl
  go_wp2_with fail
  go_quiet (fail)
  go_wp2_with fail
  go_ret
  exact ⟨by rw [HP.out];rfl,U.trans (NV (N6 ⟨_,rfl⟩) U.size)⟩
 | some r =>
  rw [hf] at Y g5 he
  have K : e = .returned (.int .i64 0):=he
  subst K
  clear he
  have g6 : j.drop k'=r:=g5 rfl
  have hlen : r.length=nx - k':=by rw [<- g6,ML,Htl.out]
  rw [Htl.out] at g1
  by_cases hk : k'<nx
  ·have HP : Hid (PR=13):=by
    show _=_;rw [Y];cases r with
    | nil=>simp at hlen;omega
    | cons x r=>rfl
   have hd : decide ((k' : Int)<(nx : Int))=true:=by simp;omega
   clear hf Y g5 g6 hlen
   go_wp2_with fail
   go_quiet (fail)
   go_wp2_with fail
   go_ret
   exact ⟨by rw [HP.out];rfl,U.trans (NV (N6 ⟨_,rfl⟩) U.size)⟩
  ·have HP : Hid (PR=0):=by
    show _=_;rw [Y];cases r with
    | nil=>rfl
    | cons x r=>simp at hlen;omega
   have hd : decide ((k' : Int)<(nx : Int))=false:=by simp;omega
   clear hf Y g5 g6 hlen
   go_wp2_with fail
   go_quiet (fail)
   go_wp2_with fail
   go_ret
   exact ⟨by rw [HP.out];rfl,U.trans (NV (N6 ⟨_,rfl⟩) U.size)⟩
def zE (Z : World) (V : Int × Ll) (e : Ending) (w' : World) : Prop :=
 OC Z w'/\((V.1 ≠ 0/\e = .returned (.tuple #[.agg #[.slice none 0 0],.int .i64 V.1])) \/
  (V.1=0/\∃ar cr R,e = .returned (.tuple #[.agg #[.slice ar V.2.length cr],.int .i64 0])/\aT w' Z.heap.size ar V.2.length cr R V.2))
theorem zD {w S : World} {b : Nat} {G : cX} {a : OA} {n : Nat} {L : Ll} {m : Nat} {ay : OA} {ny : Nat} {C : iz} (K : Nat) (P M : Int) (am : OA) (mn cm c cy : Nat)
  (E : zU S b G a n L m ay ny C) (hpb : S.heap.size<=K) (hb : OC S w) (hB : aO w K (lL b P M am mn cm m a n c ay ny cy C (.slice none 0 0) 0)) :
  Calls prog 128 #[.pointer (some ⟨K,0,none⟩)] w (zE S (td G.ops L m C)):=by
 obtain ⟨V,hV⟩ : ∃V,td G.ops L m C=V:=⟨_,rfl⟩
 rw [hV];have HV:=Z5 hV;clear hV;have hsb : K<w.heap.size:=hB.1;go_enter func128,ntmps128;go_wp2_with fail;obtain ⟨U,z⟩ : ∃U : World,U=w.alloc (.cells #[.slice none 0 0] 103):=⟨_,rfl⟩
 rw [<- z];have F : OC w U:=by rw [z];exact an _ _
 have hsU : U.heap.size=w.heap.size+1:=by rw [z];simp
 have x0 : aO U w.heap.size [.slice none 0 0]:=by rw [z];exact NY _ _ _ rfl
 have hBU:=hB.af F;have Y : OC S U:=hb.trans (F.mono hb.size);clear z hB;have hM0 : jR U S.heap.size K b P M am mn cm m a n c ay ny cy C ⟨none,0,[],[]⟩:=⟨hBU,Oe U _,λh=>by
  rcases h with ⟨h1,_⟩ | ⟨i,hi,_⟩
  ·exact h1 rfl
  ·simp at hi,by simp⟩
 refine (o8 K P M am mn cm c cy E hpb C.W U ⟨none,0,[],[]⟩ none 0 0 [] none 0 0 [] (by omega) (by omega) Y hM0 (N5 _ _) (N5 _ _) (λh=>by omega) (λh=>by omega) (by simp) (λx r=>by simp at r)).mono ?_;rintro e w5 ⟨Z,g1,g2,g3,g4,rfl,g6⟩;have hVe : jn G.ops L m C C.W [] [] []=V:=HV.out;rw [hVe] at g6 ⊢;have j : ¬ (⟨none,0,[],[]⟩ : wb).J K w.heap.size:=λh=>by
  rcases h with h | ⟨h1,_⟩ | ⟨i,hi,_⟩
  ·omega
  ·exact h1 rfl
  ·simp at hi
 have A : OC S w5:=Y.trans (g4.below (λx r=>by
  rcases r with h | ⟨h1,_⟩ | ⟨i,hi,_⟩
  ·rw [h];exact hpb
  ·exact absurd rfl h1
  ·simp at hi) Y.size)
 have x5:=x0.dQ g4 j;have z0:=x5.cell 0 rfl;have f0:=x5.frozen 0;have H : ¬ bX Z.ar Z.R w.heap.size:=λh=>g4.not x0.1 j (.inr h);have N:=hb.size;obtain ⟨ve,I⟩:=V;dsimp only at g6 ⊢;by_cases Q : ve=0
 ·subst Q;have ht : Z.T=I:=g6 rfl;have hF : ∀v : Value,OC S (w5.setCell ⟨w.heap.size,0,none⟩ v)/\aT (w5.setCell ⟨w.heap.size,0,none⟩ v) S.heap.size Z.ar I.length Z.cr Z.R I:=λv=>by refine ⟨A.setCell N _,?_⟩;rw [<- ht];exact g1.om.bj λx r=>J6 _ _ _ _ λe=>H (by have e' : x=w.heap.size:=e;rw [<- e'];exact r)
  have HF:=Z5 hF;have p10:=g1.box.cell 10 rfl;rw [ht] at p10;clear g1 g2 g3 g4 g6 hF ht;go_wp2_with fail;have z1 : (w5.setCell ⟨w.heap.size,0,none⟩ (.slice Z.ar I.length Z.cr)).cell? ⟨w.heap.size,0,none⟩=some (.slice Z.ar I.length Z.cr):=Kf _ _ _ z0;exact bodyPost_ret (v:=.tuple #[.agg #[.slice Z.ar I.length Z.cr],.int .i64 0]) (by simp [results,results128,go_sem,z0,z1]) rfl ⟨(HF.out _).1,.inr ⟨rfl,Z.ar,Z.cr,Z.R,rfl,(HF.out _).2⟩⟩
 ·have hve' : (ve != 0)=true:=by simpa using Q
  have Hne:=Z5 Q;have HF:=Z5 (λv : Value=>A.setCell (p:=⟨w.heap.size,0,none⟩) N v);clear g1 g2 g3 g4 g6 Q;go_wp2_with fail;have z1 : (w5.setCell ⟨w.heap.size,0,none⟩ (.slice none 0 0)).cell? ⟨w.heap.size,0,none⟩=some (.slice none 0 0):=Kf _ _ _ z0;exact bodyPost_ret (v:=.tuple #[.agg #[.slice none 0 0],.int .i64 ve]) (by simp [results,results128,go_sem,z0,z1]) rfl ⟨HF.out _,.inl ⟨Hne.out,rfl⟩⟩
def oP (V : Int × Ll) (w : World) (e : Ending) (w' : World) : Prop :=
 OC w w'/\((V.1 ≠ 0/\e = .returned (.tuple #[.agg #[.slice none 0 0],.int .i64 V.1])) \/
  (V.1=0/\∃ar cr R,e = .returned (.tuple #[.agg #[.slice ar V.2.length cr],.int .i64 0])/\aT w' w.heap.size ar V.2.length cr R V.2))
section
open Go.RowKit
end
section
variable {O : aM} {El : Int->Prop} {m : Nat} {L : Ll} {C : iz}
end
def Ee (x : LI) (m : Nat) : LI:=((List.range m).filter λj=>decide (nth x j ≠ 0)).map Int.ofNat
theorem yB {x : LI} {m : Nat} (h : x.length=m) : (Ee x m).length=gU x:=by
 have e : x=(List.range m).map (nth x):=by refine KW (by simp [h]) λi h1 h2=>?_;rw [KF,Lt,aj h1]
 unfold Ee gU;rw [J5,<- List.countP_eq_length_filter];conv=>rhs;rw [e,NR]
 rfl
theorem xV {x : LI} : gU x=0 ↔ ∀k,k<x.length->nth x k=0:=by
 unfold gU;rw [List.countP_eq_zero];constructor
 ·intro h k Z;have h1:=h _ (aI Z);simpa using h1
 ·intro h y Y;obtain ⟨k,Z,rfl⟩:=List.mem_iff_getElem.1 Y;have h1:=h k Z;rw [aj Z] at h1;simp [h1]
section
variable {P M : Int} {mod : LI} {m : Nat} {L : Ll}
end
section
def msgs (q : Nat) : Nat->Ll
 | 0=>[[]]
 | k+1=>(List.range q).flatMap λ(a : Nat)=>(msgs q k).map λs=>(a : Int) :: s
def addAll (O : aM) : LI->LI->Ll->LI
 | u,a :: s,r :: R=>addAll O (kO O u a r) s R
 | u,_,_=>u
theorem yw (O : aM) (q : Nat) : ∀(R : Ll) (u : LI),wlkS O q R u=(msgs q R.length).map λs=>addAll O u s R
 | [],u=>by simp [wlkS,msgs,addAll]
 | r :: R,u=>by rw [wlkS,Kr,msgs,List.map_flatMap];congr 1;funext a;rw [yw O q R,NI];rfl
theorem kR {q : Nat} : ∀ {k : Nat} {s : LI},s ∈ msgs q k ↔ s.length=k/\∀x ∈ s,0<=x/\x<(q : Int)
 | 0,s=>by
  rw [msgs,Kx];constructor
  ·rintro rfl;simp
  ·rintro ⟨h,_⟩;exact Kd h
 | k+1,s=>by
  rw [msgs,List.mem_flatMap];constructor
  ·rintro ⟨a,ha,h⟩;obtain ⟨t,U,rfl⟩:=List.mem_map.1 h;obtain ⟨h1,h2⟩:=kR.1 U;refine ⟨by simp [h1],λx Z=>?_⟩;rcases List.mem_cons.1 Z with rfl | Z
   ·have:=List.mem_range.1 ha;omega
   ·exact h2 x Z
  ·rintro ⟨h,h2⟩;match s,h,h2 with
   | x :: t,h,h2 =>
    have Z:=h2 x (by simp)
    refine ⟨x.toNat,List.mem_range.2 (by omega),List.mem_map.2 ⟨t,kR.2 ⟨by simpa using h,λy Y=>h2 y (by simp [Y])⟩,?_⟩⟩
    rw [KY Z.1]
variable {O : aM} {m : Nat}
theorem qV {v : LI} {L : Ll} (h : v.length=L.length) : ∀(d j : Nat),j+d=L.length->addAll O (cmbTo O m v L j) (v.drop j) (L.drop j)=cmbTo O m v L L.length
 | 0,j,Z=>by
  obtain rfl : j=L.length:=by omega
  rw [KD (JO _),KD (by omega)];rfl
 | d+1,j,Z=>by rw [KA (show j<v.length by omega),KA (show j<L.length by omega),addAll];rw [<- qV h d (j+1) (by omega)];congr 1;rw [cmbTo,aj (show j<v.length by omega),aE (show j<L.length by omega)];rfl
theorem Gv {q : Nat} {L : Ll} : wlkS O q L (List.replicate m 0)=(msgs q L.length).map λv=>cmbTo O m v L L.length:=by rw [yw];refine Lh λv Z=>?_;have h:=qV (O:=O) (m:=m) (v:=v) (L:=L) (kR.1 Z).1 L.length 0 (by omega);rw [Ls,Ls] at h;exact h
end
def eO (x : LI) (m : Nat) (i : Int) : LI:=((List.range m).filter λj=>decide (nth x j ≠ 0) && decide ((j : Int) ≠ i)).map Int.ofNat
theorem tl (x : LI) (m : Nat) (i : Int) : eO x (m+1) i=if nth x m ≠ 0/\(m : Int) ≠ i then eO x m i ++ [(m : Int)] else eO x m i:=by
 unfold eO;rw [K5,LQ,Ko];by_cases h : nth x m ≠ 0/\(m : Int) ≠ i
 ·rw [JT h,MQ,JT (by simp [h.1,h.2])];rfl
 ·rw [JR h,MQ,JR (by simpa using h)];simp
theorem D1 (x : LI) (m : Nat) (i : Int) (h : i<0\/(m : Int)<=i) : eO x m i=Ee x m:=by unfold eO Ee;refine congrArg _ (List.filter_congr λj Z=>?_);have:=List.mem_range.1 Z;rw [Kc (show (j : Int) ≠ i by omega),Bool.and_true]
theorem EI {x : LI} {m : Nat} {i y : Int} : y ∈ eO x m i ↔ ∃j : Nat,j<m/\nth x j ≠ 0/\(j : Int) ≠ i/\y=j:=by
 unfold eO;rw [Md];constructor
 ·rintro ⟨j,Z,rfl⟩;rw [Lx,MA] at Z;have h:=Z.2;simp only [J9,Kt] at h;exact ⟨j,Z.1,h.1,h.2,rfl⟩
 ·rintro ⟨j,h1,h2,h3,rfl⟩;exact ⟨j,by rw [Lx,MA];exact ⟨h1,by simp [h2,h3]⟩,rfl⟩
theorem Bu {x : LI} {m : Nat} {i y : Int} (h : y ∈ eO x m i) : 0<=y/\y<m:=by obtain ⟨j,Z,_,_,rfl⟩:=EI.1 h;omega
theorem jh (x : LI) (m : Nat) (i : Int) : (eO x m i).length<=m:=by unfold eO;rw [J5];exact J4 (Mj _ _) (by simp)
def BV (m : Nat) (i : Int) (b w : LI) : LI:=if nth w i.toNat=1 then (if b=[]\/oU (eO w m i) (eO b m i)=true then w else b) else b
def bstL (m : Nat) (i : Int) (W : Ll) : Nat->LI
 | 0=>[]
 | k+1=>BV m i (bstL m i W k) (ai W k)
theorem qY {m : Nat} {i : Int} {W : Ll} : ∀k,k<=W.length->bstL m i W k=[]\/(bstL m i W k ∈ W/\nth (bstL m i W k) i.toNat=1)
 | 0,_=>.inl rfl
 | k+1,h=>by
  rw [bstL,BV];split
  ·rename_i h1;split
   ·exact .inr ⟨fp (by omega),h1⟩
   ·exact qY k (by omega)
  ·exact qY k (by omega)
section
variable {P M : Int} {mod : LI} {m : Nat} {L : Ll}
def tS (P M : Int) (mod : LI) (m : Nat) (L : Ll) : Ll:=wlkS (ah P M.toNat mod).ops (ah P M.toNat mod).q (aQ (ah P M.toNat mod) L m) (List.replicate m 0)
theorem Ft (Z : aJ P M mod m L=0) : aQ (ah P M.toNat mod) L m=gw (ah P M.toNat mod).ops m L:=by unfold aQ gw bh;rfl
theorem FF {L : Ll} (F : bI (ah P M.toNat mod).ops (ah P M.toNat mod).El) (Y : bs (ah P M.toNat mod).El m L) {x : LI} :
  x ∈ wlkS (ah P M.toNat mod).ops (ah P M.toNat mod).q L (List.replicate m 0) ↔ Vc (ah P M.toNat mod).El m x/\RS (ah P M.toNat mod).ops (ah P M.toNat mod).El m L (λi=>nth x i):=by
 rw [Gv,Md];constructor
 ·rintro ⟨v,Z,rfl⟩;obtain ⟨h1,h2⟩:=kR.1 Z;exact ju F Y (λk S=>h2 _ (aI (by omega))) L.length (JO _)
 ·rintro ⟨h1,h2⟩;obtain ⟨v,Z,h3⟩:=RS.Jy F Y h2;have U : ∀k,k<L.length->(ah P M.toNat mod).El (nth v k):=λk S=>Z.at S;have c1:=(ju F Y U L.length (JO _)).1;exact ⟨v,kR.2 ⟨Z.1,λy Q=>Z.2 y Q⟩,(fZ (by rw [h1.1,c1.1]) λi hi=>h3 i (by rw [<- h1.1];exact hi)).symm⟩
theorem vu (Y : aJ P M mod m L=0) {x : LI} :
  x ∈ tS P M mod m L ↔ Vc (ah P M.toNat mod).El m x/\RS (ah P M.toNat mod).ops (ah P M.toNat mod).El m (gw (ah P M.toNat mod).ops m L) (λi=>nth x i):=by
 obtain ⟨U,e,S,Z,F,Q⟩:=aY Y;obtain rfl : m=U:=by omega
 unfold tS;rw [Ft Y];exact FF F (lz F Q)
def gv (P M : Int) (mod : LI) (m : Nat) (L : Ll) (i : Int) : LI:=bstL m i (tS P M mod m L) (tS P M mod m L).length
theorem qT {a b : LI} (h : oU a b=false) : b.length<=a.length:=by unfold oU at h;simp only [Bool.or_eq_false_iff,decide_eq_false_iff_not] at h;omega
theorem D5 {a b : LI} (h : oU a b=true) : a.length<=b.length:=by unfold oU at h;simp only [Ms,J9,Kt] at h;omega
theorem BQ {i : Int} {W : Ll} : ∀k,k<=W.length->∀t,t<k->nth (ai W t) i.toNat=1->bstL m i W k ≠ []/\(eO (bstL m i W k) m i).length<=(eO (ai W t) m i).length
 | 0,_,t,U,_=>by omega
 | k+1,S,t,U,h1=>by
  have hne : ai W t ≠ []\/True:=.inr trivial;rw [bstL,BV];rcases Kz t k with h | h
  ·obtain ⟨Y,Z⟩:=BQ k (by omega) t h h1;split
   ·split
    ·rename_i h3;refine ⟨λe=>?_,?_⟩
     ·rename_i h2;rw [e] at h2;simp [nth] at h2
     ·rcases h3 with h3 | h3
      ·exact absurd h3 Y
      ·exact J4 (D5 h3) Z
    ·exact ⟨Y,Z⟩
   ·exact ⟨Y,Z⟩
  ·obtain rfl : t=k:=by omega
   rw [JT h1];split
   ·exact ⟨λe=>by rw [e] at h1;simp [nth] at h1,JO _⟩
   ·rename_i h3;simp only [not_or,Bool.not_eq_true] at h3;exact ⟨h3.1,qT h3.2⟩
theorem vp (S : aJ P M mod m L=0) (i : Int) : (gv P M mod m L i=[]/\∀y ∈ tS P M mod m L,nth y i.toNat ≠ 1) \/
  (gv P M mod m L i ∈ tS P M mod m L/\nth (gv P M mod m L i) i.toNat=1/\∀y ∈ tS P M mod m L,nth y i.toNat=1->(eO (gv P M mod m L i) m i).length<=(eO y m i).length):=by
 have Z : ∀y ∈ tS P M mod m L,nth y i.toNat=1->gv P M mod m L i ≠ []/\(eO (gv P M mod m L i) m i).length<=(eO y m i).length:=λy Y h1=>by obtain ⟨t,U,rfl⟩:=ga Y;exact BQ _ (JO _) t U h1
 rcases qY (m:=m) (i:=i) (W:=tS P M mod m L) _ (JO _) with h | ⟨h1,h2⟩
 ·exact .inl ⟨h,λy Y h1=>(Z y Y h1).1 h⟩
 ·exact .inr ⟨h1,h2,λy Y h3=>(Z y Y h3).2⟩
def repTo (O : aM) (d x : LI) (S : LI) : Nat->Int
 | 0=>0
 | k+1=>O.add (repTo O d x S k) (O.mul (O.neg (nth d (nth S k).toNat)) (nth x (nth S k).toNat))
end
section
variable {O : aM} {El : Int->Prop} {m : Nat}
end
section
variable {P M : Int} {mod : LI} {m : Nat} {L : Ll}
end
theorem gB (a : OA) (n c : Nat) (x : LI) (i : Int) (w : World) (h : Ints w a n x) (hn : n<=1000000) :
  Calls prog 61 #[.slice a n c,.int .i64 i] w (db w (eO x n i)):=by
 have HG1 : Hid (∀k : Nat,nth x k ≠ 0->(k : Int) ≠ i->eO x (k+1) i=eO x k i ++ [(k : Int)]):=λk h1 h2=>by rw [tl,JT ⟨h1,h2⟩]
 have A : Hid (∀k : Nat,nth x k=0\/(k : Int)=i->eO x (k+1) i=eO x k i):=λk h1=>by rw [tl,JR];rintro ⟨h2,h3⟩;rcases h1 with h1 | h1;exact h2 h1;exact h3 h1
 have z : Hid (∀k,(eO x k i).length<=k):=λk=>jh _ _ _;have HI:=Z5 h;have hpl:=h.pl;have hmx:=h.max;unfold maxLen at hmx;obtain ⟨Z,hZ⟩ : ∃Z : Nat->LI,(λk=>eO x k i)=Z:=⟨_,rfl⟩
 have hZk : ∀k,eO x k i=Z k:=λk=>by rw [<- hZ]
 simp only [hZk] at HG1 A z ⊢;have r : Hid (Z 0=[]):=by rw [<- hZ];rfl
 clear hZk hZ h;go_enter func61,ntmps61;go_wp2_with fail;go_loopw [5,10] (λov iv wr=>∃(k g : Nat) (a1 : OA) (c1 : Nat),k<=n/\iv = .int .i64 k/\Hid ((Z k).length=g)/\ov = .slice a1 g c1/\wr.ownsRow w.heap.size 3 1 (.slice a1 g c1) g ((Z k).map (Value.int .i64))/\OC w wr) (λ_ iv _=>n - (intOf iv).toNat);case atStart=>exact ⟨0,0,none,0,JU _,rfl,by show _=_;rw [r.out];rfl,rfl,by rw [r.out];exact cF,JP _ _⟩
 case round =>
  obtain ⟨j,g,a2,c2,hj,rfl,K,rfl,Y,S⟩:=hrel
  by_cases hltj : j<n
  ·have hgk : g<=j:=by have h:=z.out j;rw [K.out] at h;omega
   have cj:=(HI.out.af S).cell j hltj
   have I:=HG1.out j
   have Q:=A.out j
   obtain ⟨y,hy⟩ : ∃y,nth x j=y:=⟨_,rfl⟩
   rw [hy] at cj I Q
   clear hy
   by_cases U : y=0
   ·have H:=Z5 (Q (.inl U))
    have d1 : (y != 0)=false:=by simpa using U
    clear I Q U
    go_wp2_with fail
    go_roundw
    case rel=>exact ⟨j+1,g,a2,c2,by omega,by go_num,by show _=_;rw [H.out];exact K.out,rfl,by rw [H.out];exact Y,S⟩
    case measure=>simp [intOf] <;> omega
   have d1 : (y != 0)=true:=by simpa using U
   by_cases N : (j : Int)=i
   ·have H:=Z5 (Q (.inr N))
    have d2 : ((j : Int) != i)=false:=by simpa using N
    clear I Q U N
    go_wp2_with fail
    go_roundw
    case rel=>exact ⟨j+1,g,a2,c2,by omega,by go_num,by show _=_;rw [H.out];exact K.out,rfl,by rw [H.out];exact Y,S⟩
    case measure=>simp [intOf] <;> omega
   ·have H:=Z5 (I U N)
    have d2 : ((j : Int) != i)=true:=by simpa using N
    clear I Q U N
    have hsz:=S.size
    have hcn:=bf wr (.int .i64 j) 3
    go_wp2_with (at_builtin;refine aS rfl _ _ 22 3 rfl (.int .i64 0) 8 underlying22 aV rfl w.heap.size a2 g c2 _ rfl (Y.alloc _) ⟨wr.heap.size,0,none⟩ 1 (.int .i64 j) rfl hcn rfl (by omega) (by unfold maxLen;omega) (by simp;omega) ?_;intro a5 c5 w5 G F hap5)
    go_roundw
    case rel =>
     refine ⟨j+1,g+1,a5,c5,by omega,by go_num,by show _=_;rw [H.out,J0,K.out];rfl,rfl,by rw [H.out];simpa using G,N0 (N1 S _) (Y.alloc _) F (JO _) (N1 S _).size⟩
    case measure=>simp [intOf] <;> omega
  ·obtain rfl : j=n:=by omega
   have HR : Hid (∀e,e=Ending.returned (.slice a2 g c2)->db w (Z j) e wr):=λe he=>⟨a2,c2,by rw [K.out];exact he,by rw [K.out];exact Y,S⟩
   clear Y
   go_wp2_with fail
   go_ret
   exact HR.out _ rfl
theorem nS (a : OA) (n c : Nat) (x : LI) (w : World) (h : Ints w a n x) (S : n<=1000000) :
  Calls prog 76 #[.slice a n c] w λe w'=>e = .returned (.int .i64 (gU x : Nat))/\OC w w':=by
 have Z:=h.len;have Y:=Z5 (gB a n c x (-1) w h S);have hw : (eO x n (-1)).length=gU x:=by rw [D1 x n (-1) (.inl (by omega))];exact yB Z
 have U:=Z5 hw;clear h Z hw;go_enter func76,ntmps76;go_wp2_with fail;refine Y.out.mono ?_;rintro e Q ⟨a1,c1,rfl,_,hb⟩;rw [U.out];go_wp2_with fail;go_ret;exact ⟨rfl,hb⟩
def rQ (w : World) (a : OA) (n : Nat) (x : LI) : Prop:=Ints w a n x/\a.isNone=decide (x=[])
theorem rQ.af {w w' : World} {a : OA} {n : Nat} {x : LI} (h : rQ w a n x) (hb : OC w w') : rQ w' a n x:=⟨h.1.af hb,h.2⟩
theorem nN (a : OA) (n c : Nat) (W : Ll) (m i : Nat) (w : World) (hW : bu w a n W) (hm : ∀r ∈ W,r.length=m) (hi : i<m) (hm64 : m<=64) :
  Calls prog 102 #[.slice a n c,.int .i64 i] w λe w'=>OC w w'/\∃ar nr cr,e = .returned (.slice ar nr cr)/\rQ w' ar nr (bstL m i W n):=by
 have hln:=hW.len;have HM:=Z5 hW;have hpl:=hW.pl;have hmx:=hW.max;unfold maxLen at hmx;have Hrow : Hid (∀k,k<n->(ai W k).length=m):=λk hk=>hm _ (fp (by omega));have HSup : Hid (∀V b k c x,k<=1000000->Ints V b k x->Calls prog 61 #[.slice b k c,.int .i64 i] V (db V (eO x k i))):=λV b k c x hk h=>gB b k c x i V h hk;have Heq:=Z5 (λ(w : World) (a : OA) (l c : Nat)=>Go.run_eql_slice_nil (P:=prog) w 22 3 a l c underlying22);clear hW hm hln;go_enter func102,ntmps102;go_wp2_with fail;go_loopw [5,12] (λbv iv wr=>∃(k : Nat) (I : OA) (Z cb : Nat) (b : LI),k<=n/\iv = .int .i64 k/\bv = .slice I Z cb/\Hid (bstL m i W k=b)/\Hid (b=[]\/b.length=m)/\Hid (rQ wr I Z b)/\OC w wr) (λ_ iv _=>n - (intOf iv).toNat);case atStart=>exact ⟨0,none,0,0,[],JU _,rfl,rfl,rfl,.inl rfl,⟨N5 _ _,rfl⟩,JP _ _⟩
 case round =>
  obtain ⟨k,I,Z,cb,b,hk,rfl,rfl,Hst,j,Hb,G⟩:=hrel
  generalize wr=V at *
  by_cases hlt : k<n
  ·obtain ⟨ar,H,cr,hcell,Y⟩:=(HM.out.af G).cell k hlt
   have hmr : H=m:=by rw [<- Y.len];exact Hrow.out k hlt
   subst hmr
   have hri:=Y.cell i hi
   have hplr:=Y.pl
   have hrn : ar.isNone=false:=by
    cases ar with
    | none=>have:=Y.pl (by omega);cases this
    | some x=>rfl
   obtain ⟨r,hr⟩ : ∃r,ai W k=r:=⟨_,rfl⟩
   have z : r.length=H:=by rw [<- hr];exact Hrow.out k hlt
   rw [hr] at Y hri
   have Hnx : Hid (bstL H i W (k+1)=BV H i b r):=by show _=_;rw [bstL,Hst.out,hr]
   clear hr
   obtain ⟨y,hy⟩ : ∃y,nth r i=y:=⟨_,rfl⟩
   rw [hy] at hri
   have hii : (i : Int)<(H : Int):=by omega
   by_cases K : y=1
   rotate_left
   ·have d1 : (y != 1)=true:=by simpa using K
    have Q : Hid (bstL H i W (k+1)=b):=by show _=_;rw [Hnx.out,BV,JR (by rw [JQ,hy];exact K)]
    clear hy K Y
    go_wp2_with fail
    go_roundw
    case rel=>exact ⟨k+1,I,Z,cb,b,by omega,by go_num,rfl,Q.out,j.out,Hb.out,G⟩
    case measure=>simp [intOf] <;> omega
   have d1 : (y != 1)=false:=by simpa using K
   have Q : Hid (bstL H i W (k+1)=if b=[]\/oU (eO r H i) (eO b H i)=true then r else b):=by show _=_;rw [Hnx.out,BV,JT (by rw [JQ,hy];exact K)]
   have Hr : Hid (rQ V ar H r):=⟨Y,by rw [hrn];exact (Kb λe=>by rw [e] at z;simp at z;omega).symm⟩
   have Hrl:=Z5 z
   have heq:=Heq.out
   clear hy K hrn Hnx z
   rcases j.out with hb0 | hbm
   ·have hin : I.isNone=true:=by rw [Hb.out.2];exact Kc hb0
    have U : Hid (bstL H i W (k+1)=r):=by show _=_;rw [Q.out,JT (.inl hb0)]
    clear hb0 Y
    go_wp2_with fail
    go_roundw
    case rel=>exact ⟨k+1,ar,H,cr,r,by omega,by go_num,rfl,U.out,.inr Hrl.out,Hr.out,G⟩
    case measure=>simp [intOf] <;> omega
   have hbn : b ≠ []:=λe=>by rw [e] at hbm;simp at hbm;omega
   have hin : I.isNone=false:=by rw [Hb.out.2];exact Kb hbn
   have hnb : Z=H:=by rw [<- Hb.out.1.len];exact hbm
   subst hnb
   have HS1:=Z5 (HSup.out V ar Z cr r (by omega) Y)
   obtain ⟨s,hs⟩ : ∃s,eO r Z i=s:=⟨_,rfl⟩
   obtain ⟨t,ht⟩ : ∃t,eO b Z i=t:=⟨_,rfl⟩
   have hsl : s.length<=Z:=by rw [<- hs];exact jh _ _ _
   have htl : t.length<=Z:=by rw [<- ht];exact jh _ _ _
   have HSt : Hid (∀V',OC V V'->Calls prog 61 #[.slice I Z cb,.int .i64 i] V' (db V' t)):=λV' hV'=>by rw [<- ht];exact HSup.out V' I Z cb b (by omega) (Hb.out.1.af hV')
   rw [hs] at HS1
   rw [hs,ht] at Q
   clear hs ht Y hbm
   have Hbn:=Z5 hbn
   clear hbn
   go_wp2_with fail
   refine HS1.out.mono ?_
   rintro e w1 ⟨a1,k1,rfl,F,hb1⟩
   have HS2:=Z5 (HSt.out w1 hb1)
   have Ho1:=Z5 F
   clear F
   go_wp2_with fail
   refine HS2.out.mono ?_
   rintro e w2 ⟨a2,k2,rfl,A,hb2⟩
   have N:=NX G (NX hb1 hb2)
   have Hcmp:=Z5 (wD a1 s.length k1 s a2 t.length k2 t w2 ((NZ Ho1.out).1.af hb2) (NZ A).1)
   have Hb2 : Hid (rQ w2 I Z b):=Hb.out.af (NX hb1 hb2)
   have Hr2 : Hid (rQ w2 ar Z r):=Hr.out.af (NX hb1 hb2)
   clear A hcell hri
   by_cases h1 : s.length<t.length
   ·have U : Hid (bstL Z i W (k+1)=r):=by show _=_;rw [Q.out,JT (.inr (lC.2 (.inl h1)))]
    go_wp2_with fail
    go_roundw
    case rel=>exact ⟨k+1,ar,Z,cr,r,by omega,by go_num,rfl,U.out,.inr Hrl.out,Hr2.out,N⟩
    case measure=>simp [intOf] <;> omega
   ·by_cases h2 : s.length=t.length
    ·have hd2 : ((s.length : Int) == (t.length : Int))=true:=by simp;omega
     have hle : t.length<=s.length:=by omega
     by_cases h3 : cmpL s t<0
     ·have U : Hid (bstL Z i W (k+1)=r):=by show _=_;rw [Q.out,JT (.inr (lC.2 (.inr ⟨h2,h3⟩)))]
      have hd3 : decide (cmpL s t<0)=true:=by simpa using h3
      clear h1 h2 h3
      go_wp2_with (go_at_call 159;refine Hcmp.out.mono ?_;rintro e w' ⟨rfl,rfl⟩)
      go_roundw
      case rel=>exact ⟨k+1,ar,Z,cr,r,by omega,by go_num,rfl,U.out,.inr Hrl.out,Hr2.out,N⟩
      case measure=>simp [intOf] <;> omega
     ·have U : Hid (bstL Z i W (k+1)=b):=by
       show _=_;rw [Q.out,JR λS=>?_];rcases S with S | S
       ·exact Hbn.out S
       ·rcases lC.1 S with S | S
        ·exact h1 S
        ·exact h3 S.2
      have hd3 : decide (cmpL s t<0)=false:=by simpa using h3
      clear h1 h2 h3
      go_wp2_with (go_at_call 159;refine Hcmp.out.mono ?_;rintro e w' ⟨rfl,rfl⟩)
      go_roundw
      case rel=>exact ⟨k+1,I,Z,cb,b,by omega,by go_num,rfl,U.out,j.out,Hb2.out,N⟩
      case measure=>simp [intOf] <;> omega
    ·have U : Hid (bstL Z i W (k+1)=b):=by
      show _=_;rw [Q.out,JR λS=>?_];rcases S with S | S
      ·exact Hbn.out S
      ·rcases lC.1 S with S | S
       ·exact h1 S
       ·exact h2 S.1
     have hd2 : ((s.length : Int) == (t.length : Int))=false:=by simp;omega
     have hle : t.length<=s.length:=by omega
     clear h1 h2
     go_wp2_with fail
     go_roundw
     case rel=>exact ⟨k+1,I,Z,cb,b,by omega,by go_num,rfl,U.out,j.out,Hb2.out,N⟩
     case measure=>simp [intOf] <;> omega
  ·obtain rfl : k=n:=by omega
   have HR : Hid (OC w V/\∃ar nr cr,Ending.returned (.slice I Z cb) = .returned (.slice ar nr cr)/\rQ V ar nr (bstL m i W k)):=⟨G,I,Z,cb,rfl,by rw [Hst.out];exact Hb.out⟩
   go_wp2_with fail
   go_ret
   exact HR.out
theorem rC {G : cX} {l : LI} (h : ez G.q l=true) : G.DU l:=λx Z=>by have h1:=List.all_eq_true.1 h x Z;simpa [gV,cX.El] using h1
theorem zT {w : World} {b : Nat} {G : cX} (q U : Nat) (x : Int) (S : w.cell? ⟨q,0,none⟩=some (.pointer (some ⟨U,0,none⟩))) (Q : w.cell? ⟨U,0,none⟩=some (.pointer (some ⟨b,0,none⟩))) (h : ee w b G) :
  Calls prog 183 #[.int .i64 x,.pointer (some ⟨q,0,none⟩)] w λe w'=>e = .returned (.bool (!(decide (0<=x) && decide (x<G.q))))/\w=w':=by
 go_enter func183,ntmps183;go_wp2_with fail;refine (I1 x h).mono ?_;rintro e w' ⟨rfl,rfl⟩;obtain ⟨z,Z⟩ : ∃z,(decide (0<=x) && decide (x<G.q))=z:=⟨_,rfl⟩
 have Y:=Z5 Z;rw [Z];clear Z;cases z
 ·go_wp2_with fail;go_ret;exact ⟨aU (by rw [Y.out];rfl),rfl⟩
 ·go_wp2_with fail;go_ret;exact ⟨aU (by rw [Y.out];rfl),rfl⟩
theorem ur (p : Int->Bool) (q : Nat) (a : OA) (n c : Nat) (l : LI) (w : World) (hi : Ints w a n l) (H : ∀k,k<n->Calls prog 183 #[.int .i64 (nth l k),.pointer (some ⟨q,0,none⟩)] w λe w'=>e = .returned (.bool (p (nth l k)))/\w=w') :
  Calls prog 111 #[.slice a n c,.func (.func 183) #[] #[.pointer (some ⟨q,0,none⟩)]] w λe w'=>∃z : Int,e = .returned (.int .i64 z)/\(0<=z ↔ l.any p=true)/\w=w':=by
 have hpl:=hi.pl;have S:=hi.max;have r:=Z5 H;have G:=Z5 hi.len;unfold maxLen at S;clear H;go_enter func111,ntmps111;go_wp2_with fail;go_loop [8] (λI=>∃k : Nat,k<=n/\I = .int .i64 k/\Hid (∀j,j<k->p (nth l j)=false)) (λI=>n - (intOf I).toNat);case atStart=>exact ⟨0,JU _,rfl,λj K=>by omega⟩
 case round =>
  obtain ⟨k,hk,rfl,Y⟩:=hrel
  by_cases U : k<n
  ·have ck:=hi.cell k U
   have Z:=r.out k U
   obtain ⟨z,Q⟩ : ∃z,p (nth l k)=z:=⟨_,rfl⟩
   rw [Q] at Z
   have F:=Z5 Z
   cases z
   ·have A : Hid (∀j,j<k+1->p (nth l j)=false):=λj K=>by
     by_cases e : j=k
     ·subst e;exact Q
     ·exact Y.out j (by omega)
    clear Q Z Y
    go_wp2_with fail
    refine F.out.mono ?_
    rintro e w' ⟨rfl,rfl⟩
    go_wp2_with fail
    go_round
    case rel=>exact ⟨k+1,by omega,by go_num,A.out⟩
    case measure=>simp [intOf] <;> omega
   ·have N : Hid (l.any p=true):=by show _=_;rw [L5];exact ⟨nth l k,aI (by rw [G.out];exact U),Q⟩
    clear Q Z Y
    go_wp2_with fail
    refine F.out.mono ?_
    rintro e w' ⟨rfl,rfl⟩
    go_wp2_with fail
    go_ret
    exact ⟨k,rfl,⟨λ_=>by first | exact N.out | exact List.any_eq_true.1 N.out,λ_=>LO _⟩,rfl⟩
  ·obtain rfl : k=n:=by omega
   have N : Hid (l.any p=false):=by show _=_;rw [Mf];intro x hx;obtain ⟨j,K,rfl⟩:=List.mem_iff_getElem.1 hx;have:=Y.out j (by rw [<- G.out];exact K);rw [aj K] at this;rw [this];decide
   go_wp2_with fail
   go_ret
   exact ⟨-1,rfl,⟨λh=>absurd h (by omega),λh=>by have h2 : l.any p=true:=(by first | exact h | exact List.any_eq_true.2 h);rw [N.out] at h2;exact absurd h2 (by decide)⟩,rfl⟩
theorem pK (p : Int->Bool) (q : Nat) (a : OA) (n c : Nat) (l : LI) (w : World) (hi : Ints w a n l) (S : ∀k,k<n->Calls prog 183 #[.int .i64 (nth l k),.pointer (some ⟨q,0,none⟩)] w λe w'=>e = .returned (.bool (p (nth l k)))/\w=w') :
  Calls prog 53 #[.slice a n c,.func (.func 183) #[] #[.pointer (some ⟨q,0,none⟩)]] w λe w'=>e = .returned (.bool (l.any p))/\w=w':=by
 have Q:=Z5 (ur p q a n c l w hi S);clear S;go_enter func53,ntmps53;go_wp2_with fail;refine Q.out.mono ?_;rintro e w' ⟨z,rfl,Z,rfl⟩;by_cases h0 : 0<=z
 ·have Y : Hid (l.any p=true):=Z.1 h0;have U : decide (0<=z)=true:=by simpa using h0
  clear Z h0;go_wp2_with fail;go_ret;exact ⟨aU Y.out.symm,rfl⟩
 ·have Y : Hid (l.any p=false):=by
   show _=_;cases h : l.any p
   ·rfl
   ·exact absurd (Z.2 h) h0
  have U : decide (0<=z)=false:=by simpa using h0
  clear Z h0;go_wp2_with fail;go_ret;exact ⟨aU Y.out.symm,rfl⟩
def et (P M : Int) (mod : LI) (N : Int) (L : Ll) (y : LI) (W : Int) : Int :=
 if aJ P M mod N L=0 then (if (y.length : Int) ≠ N then 4 else if ez (ah P M.toNat mod).q y=false then 2 else if W<0\/N<W then 6 else 0) else aJ P M mod N L
def kV (P M : Int) (am : OA) (Y cm : Nat) (mod : LI) (N : Int) (a : OA) (n c : Nat) (L : Ll) (S : OA) (U cy : Nat) (y : LI) (W : Int) (w : World) (e : Ending) (w' : World) : Prop :=
 OC w w'/\((et P M mod N L y W ≠ 0/\e = .returned (.tuple #[.pointer none,.int .i64 (et P M mod N L y W)])) \/
 (et P M mod N L y W=0/\∃Z,e = .returned (.tuple #[.pointer (some ⟨Z,0,none⟩),.int .i64 0])/\Gy P M am Y cm mod N.toNat a n c L S U cy ⟨0,W.toNat,true,y⟩ w w' Z))
theorem pz (P M : Int) (am : OA) (mn cm : Nat) (mod : LI) (N : Int) (a : OA) (n c : Nat) (L : Ll) (z : OA) (I cy : Nat) (y : LI) (W : Int) (w : World) (hmod : Ints w am mn mod) (hi : bu w a n L) (hy : Ints w z I y) :
  Calls prog 127 #[.agg #[.int .i64 P,.int .i64 M,.slice am mn cm,.int .i64 N,.slice a n c],.slice z I cy,.int .i64 W] w (kV P M am mn cm mod N a n c L z I cy y W w):=by
 have Hil:=Z5 hi.len;have Hyl:=Z5 hy.len;go_enter func127,ntmps127;go_wp2_with fail;obtain ⟨U,hU⟩ : ∃U : World,U=w.alloc (.cells #[.int .i64 P,.int .i64 M,.slice am mn cm,.int .i64 N,.slice a n c] 27):=⟨_,rfl⟩
 rw [<- hU];have K : OC w U:=by rw [hU];exact an _ _
 have x0 : aO U w.heap.size [.int .i64 P,.int .i64 M,.slice am mn cm,.int .i64 N,.slice a n c]:=by rw [hU];exact NY _ _ _ rfl
 have HX:=Z5 x0;clear hU x0;refine (Aq P M am mn cm mod N a n c L W U (hmod.af K) (hi.af K)).mono ?_;rintro e j ⟨hb1,⟨hE,rfl⟩ | ⟨hE,b,S,rfl,F,hG,hb3,hB⟩⟩
 ·have HE : Hid (et P M mod N L y W=aJ P M mod N L):=JR hE;have Hne:=Z5 hE;have hE1 : (aJ P M mod N L == 0)=false:=by simpa using hE
  have hE2 : (aJ P M mod N L != 0)=true:=by simpa using hE
  have H:=NX (NX K hb1) (an j (.cells #[.pointer none] 143));clear hE;go_wp2_with fail;go_ret2;exact ⟨H,.inl ⟨by rw [HE.out];exact Hne.out,by rw [HE.out];rfl⟩⟩
 ·have HE : Hid (et P M mod N L y W=if (I : Int) ≠ N then 4 else if ez (ah P M.toNat mod).q y=false then 2 else if W<0\/N<W then 6 else 0):=by show _=_;rw [et,JT hE,Hyl.out]
  have Hrw:=Z5 (cZ hE);have r:=an j (.cells #[.pointer (some ⟨S.heap.size,0,none⟩)] 143);have H:=NX (NX K hb1) r;have xq : (j.alloc (.cells #[.pointer (some ⟨S.heap.size,0,none⟩)] 143)).cell? ⟨j.heap.size,0,none⟩=some (.pointer (some ⟨S.heap.size,0,none⟩)):=aF _ _ _ rfl 0;have hB4:=hB.af r;have G:=NX hb3 r;have hG4:=hG.af G;have x4:=(HX.out.af hb1).af r;have c3:=x4.cell 3 rfl;have p0:=hB4.cell 0 rfl;have hy4:=(hy.af K).af (NX hb1 r);have A:=Z5 (pK (λx=>!(decide (0<=x) && decide (x<(ah P M.toNat mod).q))) j.heap.size z I cy y _ hy4 λk hk=>zT j.heap.size S.heap.size (nth y k) xq p0 hG4);rw [uQ] at A;have HB:=Z5 hB4;have HB1:=Z5 hB;have hmf : ∀(fn : Fn) (first cap : Array Value) (w : World),(Instr.makeFunc fn first cap).run prog w = .ok (.func fn first cap) w:=λ_ _ _ _=>rfl;have hsw1 : S.heap.size ≠ j.heap.size:=by have:=hB.1;omega
  clear hB p0 hE hy4 hG4;by_cases h1 : (I : Int) ≠ N
  ·have Q : Hid (et P M mod N L y W=4):=by show _=_;rw [HE.out,JT h1]
   have d1 : ((I : Int) != N)=true:=by simpa using h1
   clear h1;go_wp2_with fail;go_ret2;exact ⟨H,.inl ⟨by rw [Q.out];decide,by rw [Q.out];rfl⟩⟩
  have hny : (I : Int)=N:=Classical.not_not.1 h1;have d1 : ((I : Int) != N)=false:=by simp [hny]
  have HE1 : Hid (et P M mod N L y W=if ez (ah P M.toNat mod).q y=false then 2 else if W<0\/N<W then 6 else 0):=by show _=_;rw [HE.out,JR h1]
  have Hny:=Z5 hny;clear h1 hny;obtain ⟨ze,hze⟩ : ∃ze,ez (ah P M.toNat mod).q y=ze:=⟨_,rfl⟩
  rw [hze] at A HE1;have Hze:=Z5 hze;clear hze;cases ze
  ·have Q : Hid (et P M mod N L y W=2):=by show _=_;rw [HE1.out,JT rfl]
   go_wp2_with fail;refine A.out.mono ?_;rintro e w5 ⟨rfl,rfl⟩;go_wp2_with fail;go_ret2;exact ⟨H,.inl ⟨by rw [Q.out];decide,by rw [Q.out];rfl⟩⟩
  have HE3 : Hid (et P M mod N L y W=if W<0\/N<W then 6 else 0):=by show _=_;rw [HE1.out,JR (by decide)]
  by_cases h3 : W<0
  ·have Q : Hid (et P M mod N L y W=6):=by show _=_;rw [HE3.out,JT (.inl h3)]
   have d3 : decide (W<0)=true:=by simpa using h3
   clear h3;go_wp2_with fail;refine A.out.mono ?_;rintro e w5 ⟨rfl,rfl⟩;go_wp2_with fail;go_ret2;exact ⟨H,.inl ⟨by rw [Q.out];decide,by rw [Q.out];rfl⟩⟩
  have d3 : decide (W<0)=false:=by simpa using h3
  by_cases h4 : N<W
  ·have Q : Hid (et P M mod N L y W=6):=by show _=_;rw [HE3.out,JT (.inr h4)]
   have d4 : decide (N<W)=true:=by simpa using h4
   clear h3 h4;go_wp2_with fail;refine A.out.mono ?_;rintro e w5 ⟨rfl,rfl⟩;go_wp2_with fail;go_ret2;exact ⟨H,.inl ⟨by rw [Q.out];decide,by rw [Q.out];rfl⟩⟩
  have d4 : decide (N<W)=false:=by simpa using h4
  have Q : Hid (et P M mod N L y W=0):=by
   show _=_;rw [HE3.out,JR];rintro (h | h)
   ·exact h3 h
   ·exact h4 h
  obtain ⟨m,hm,hm1,hm2,hLl,hRw⟩:=Hrw.out;have hPE0 : Hid (zU S b (ah P M.toNat mod) a n L N.toNat z I ⟨0,W.toNat,true,y⟩):=by
   have hn256 : n<=1000000:=by rw [<- Hil.out];omega
   have hNm : N.toNat=I:=by have:=Hny.out;omega
   have hyw2:=(hy.af K).af F;exact { g:=hG,je:=(hi.af K).af F,rws:=by rw [hm,JQ];exact hRw,n6:=hn256,m6:=by omega,w6:=by show W.toNat<=64;omega,yl:=λ_=>hNm.symm,y:=λ_=>by rw [hNm];exact hyw2,ye:=λ_=>rC Hze.out }
  have Hnn:=Z5 (JZ (show 0<=N by omega) (show 0<=W by omega));go_wp2_with fail;refine A.out.mono ?_;rintro e w5 ⟨rfl,rfl⟩;clear A;go_wp2_with fail;obtain ⟨Y,hY⟩ : ∃Y : World,Y=j.alloc (.cells #[.pointer (some ⟨S.heap.size,0,none⟩)] 143):=⟨_,rfl⟩
  rw [<- hY] at HB xq H G ⊢;have HF : Hid (∀Z : World,Z=((Y.setCell ⟨S.heap.size,6,none⟩ (.slice z I cy)).setCell ⟨S.heap.size,7,none⟩ (.bool true)).drew->kV P M am mn cm mod N a n c L z I cy y W w (.returned (.tuple #[.pointer (some ⟨S.heap.size,0,none⟩),.int .i64 0])) Z):=λZ hZ=>by rw [hZ];have h5:=((HB.out.setCell 6 (.slice z I cy)).setCell 7 (.bool true)).af (JP _ _).drew;refine ⟨((H.setCell (p:=⟨S.heap.size,6,none⟩) (J4 K.size F.size) _).setCell (p:=⟨S.heap.size,7,none⟩) (J4 K.size F.size) _).drew,.inr ⟨Q.out,S.heap.size,rfl,b,S,rfl,NX K F,hPE0.out,((G.setCell (by simp) _).setCell (by simp) _).drew,?_⟩⟩;rw [lL];dsimp only;rw [KY Hnn.out.1,KY Hnn.out.2];exact h5
  have HF2 : Hid (∀Z : World,Z=((Y.setCell ⟨S.heap.size,6,none⟩ (.slice z I cy)).setCell ⟨S.heap.size,7,none⟩ (.bool true))->kV P M am mn cm mod N a n c L z I cy y W w (.returned (.tuple #[.pointer (some ⟨S.heap.size,0,none⟩),.int .i64 0])) Z):=λZ hZ=>by
   rw [hZ];have h5:=((HB.out.setCell 6 (.slice z I cy)).setCell 7 (.bool true))
   refine ⟨((H.setCell (p:=⟨S.heap.size,6,none⟩) (J4 K.size F.size) _).setCell (p:=⟨S.heap.size,7,none⟩) (J4 K.size F.size) _),.inr ⟨Q.out,S.heap.size,rfl,b,S,rfl,NX K F,hPE0.out,((G.setCell (by simp) _).setCell (by simp) _),?_⟩⟩;rw [lL];dsimp only;rw [KY Hnn.out.1,KY Hnn.out.2];exact h5
  have f6:=HB.out.frozen 6;have q6:=HB.out.cell 6 rfl;have f7:=HB.out.frozen 7;have q7:=HB.out.cell 7 rfl;have s7 : (Y.setCell ⟨S.heap.size,6,none⟩ (.slice z I cy)).cell? ⟨S.heap.size,7,none⟩=some (.bool false):=(HB.out.setCell 6 (.slice z I cy)).cell 7 rfl;have s6 : (Y.setCell ⟨S.heap.size,7,none⟩ (.bool true)).cell? ⟨S.heap.size,6,none⟩=some (.slice none 0 0):=(HB.out.setCell 7 (.bool true)).cell 6 rfl;have x6 : (Y.setCell ⟨S.heap.size,6,none⟩ (.slice z I cy)).cell? ⟨j.heap.size,0,none⟩=some (.pointer (some ⟨S.heap.size,0,none⟩)):=by rw [J7 _ _ _ _ (by simp <;> omega)];exact xq
  have x7 : (Y.setCell ⟨S.heap.size,7,none⟩ (.bool true)).cell? ⟨j.heap.size,0,none⟩=some (.pointer (some ⟨S.heap.size,0,none⟩)):=by rw [J7 _ _ _ _ (by simp <;> omega)];exact xq
  have x67 : ((Y.setCell ⟨S.heap.size,6,none⟩ (.slice z I cy)).setCell ⟨S.heap.size,7,none⟩ (.bool true)).cell? ⟨j.heap.size,0,none⟩=some (.pointer (some ⟨S.heap.size,0,none⟩)):=by rw [J7 _ _ _ _ (by simp <;> omega)];exact x6
  clear h3 h4 hm hm1 hm2 hY H G;go_region;all_goals (
   go_wp2_with fail
   go_ret2
   first | exact HF.out _ rfl | exact HF2.out _ rfl)
def iN (P M : Int) (mod : LI) (N : Int) (L : Ll) (y : LI) (W : Int) (Z : Ll) : Int :=
 if et P M mod N L y W=0 then provS (ah P M.toNat mod).ops L N.toNat ⟨0,W.toNat,true,y⟩ Z else et P M mod N L y W
def kI (P M : Int) (mod : LI) (N : Int) (L : Ll) (y : LI) (W : Int) : Int × Ll :=
 if et P M mod N L y W=0 then td (ah P M.toNat mod).ops L N.toNat ⟨0,W.toNat,true,y⟩ else (et P M mod N L y W,[])
theorem oI (P M : Int) (am : OA) (G cm : Nat) (mod : LI) (N : Int) (a : OA) (n c : Nat) (L : Ll) (ay : OA) (ny cy : Nat) (y : LI) (W : Int) (z : OA) (nx r : Nat) (Q : Ll) (w : World)
  (K : Ints w am G mod) (hi : bu w a n L) (hy : Ints w ay ny y) (hts : bu w z nx Q) :
  Calls prog 82 #[.agg #[.int .i64 P,.int .i64 M,.slice am G cm,.int .i64 N,.slice a n c],.slice ay ny cy,.int .i64 W,.agg #[.slice z nx r]] w λe w'=>e = .returned (.int .i64 (iN P M mod N L y W Q))/\OC w w':=by
 go_enter func82,ntmps82;go_wp2_with fail;obtain ⟨U,j⟩ : ∃U : World,U=(w.alloc (.cells #[.int .i64 P,.int .i64 M,.slice am G cm,.int .i64 N,.slice a n c] 27)).alloc (.cells #[.slice z nx r] 103):=⟨_,rfl⟩
 rw [<- j];have Z : OC w U:=by rw [j];exact bT _ _ _
 have x0 : aO U (w.heap.size+1) [.slice z nx r]:=by rw [j];exact NY _ _ _ (by simp)
 have HX:=Z5 x0;clear j x0;refine (pz P M am G cm mod N a n c L ay ny cy y W U (K.af Z) (hi.af Z) (hy.af Z)).mono ?_;rintro e w1 ⟨F,⟨S,rfl⟩ | ⟨S,pb,rfl,hCl⟩⟩
 ·have HE : Hid (iN P M mod N L y W Q=et P M mod N L y W):=JR S;have hE1 : (et P M mod N L y W == 0)=false:=by simpa using S
  have hE2 : (et P M mod N L y W != 0)=true:=by simpa using S
  have Y:=NX Z F;clear S;go_wp2_with fail;go_ret;exact ⟨by rw [HE.out];rfl,Y⟩
 ·have HE : Hid (iN P M mod N L y W Q=provS (ah P M.toNat mod).ops L N.toNat ⟨0,W.toNat,true,y⟩ Q):=JT S;have x1:=HX.out.af F;have c0:=x1.cell 0 rfl;obtain ⟨b,w2,rfl,I,A,hb3,hB⟩:=hCl;have HPr:=Z5 (uC w2.heap.size P M am G cm c cy z nx r Q A ((hts.af Z).af I) (JO _) hb3 hB);have H:=NX Z I;clear x1 hB A S;go_wp2_with fail;refine HPr.out.mono ?_;rintro e w3 ⟨rfl,hb4⟩;have Y:=NX H hb4;go_wp2_with fail;go_ret;exact ⟨by rw [HE.out];rfl,Y⟩
theorem ou (P M : Int) (am : OA) (j cm : Nat) (mod : LI) (N : Int) (a : OA) (n c : Nat) (L : Ll) (ay : OA) (ny cy : Nat) (y : LI) (W : Int) (w : World)
  (F : Ints w am j mod) (hi : bu w a n L) (hy : Ints w ay ny y) :
  Calls prog 75 #[.agg #[.int .i64 P,.int .i64 M,.slice am j cm,.int .i64 N,.slice a n c],.slice ay ny cy,.int .i64 W] w (oP (kI P M mod N L y W) w):=by
 obtain ⟨V,hV⟩ : ∃V,kI P M mod N L y W=V:=⟨_,rfl⟩
 rw [hV];have HV:=Z5 hV;clear hV;go_enter func75,ntmps75;go_wp2_with fail;obtain ⟨U,z⟩ : ∃U : World,U=(w.alloc (.cells #[.int .i64 P,.int .i64 M,.slice am j cm,.int .i64 N,.slice a n c] 27)).alloc (.cells #[.slice none 0 0] 103):=⟨_,rfl⟩
 rw [<- z];have Z : OC w U:=by rw [z];exact bT _ _ _
 have hsU : U.heap.size=w.heap.size+2:=by rw [z];simp
 have x0 : aO U (w.heap.size+1) [.slice none 0 0]:=by rw [z];exact NY _ _ _ (by simp)
 have HX:=Z5 x0;clear z x0;refine (pz P M am j cm mod N a n c L ay ny cy y W U (F.af Z) (hi.af Z) (hy.af Z)).mono ?_;rintro e w1 ⟨H,⟨Q,rfl⟩ | ⟨Q,pb,rfl,hCl⟩⟩
 ·have HE : Hid (V=(et P M mod N L y W,[])):=by show _=_;rw [<- HV.out];exact JR Q
  have hE1 : (et P M mod N L y W == 0)=false:=by simpa using Q
  have hE2 : (et P M mod N L y W != 0)=true:=by simpa using Q
  have S:=Z5 Q;have x1:=HX.out.af H;have z0:=x1.cell 0 rfl;have f0:=x1.frozen 0;have I:=Z5 (λv : Value=>(NX Z H).setCell (p:=⟨w.heap.size+1,0,none⟩) (by simp) v);clear Q x1;generalize et P M mod N L y W=er at *;go_wp2_with fail;have z1 : (w1.setCell ⟨w.heap.size+1,0,none⟩ (.slice none 0 0)).cell? ⟨w.heap.size+1,0,none⟩=some (.slice none 0 0):=Kf _ _ _ z0;exact bodyPost_ret (v:=.tuple #[.agg #[.slice none 0 0],.int .i64 er]) (by simp [results,results75,go_sem,z0,z1]) rfl ⟨I.out _,.inl ⟨by rw [HE.out];exact S.out,by rw [HE.out]⟩⟩
 ·have HE : Hid (td (ah P M.toNat mod).ops L N.toNat ⟨0,W.toNat,true,y⟩=V):=by show _=_;rw [<- HV.out];exact (JT Q).symm
  have x1:=HX.out.af H;obtain ⟨b,w2,rfl,r,A,hb3,hB⟩:=hCl;have K:=zD w2.heap.size P M am j cm c cy A (JO _) hb3 hB;rw [HE.out] at K;have HTr:=Z5 K;have Y:=NX Z r;have x2:=HX.out.af r;have hs2 : w.heap.size+1<w2.heap.size:=x2.1;clear x1 hB A Q K;go_wp2_with fail;refine HTr.out.mono ?_;rintro e w3 ⟨hb4,⟨hv,rfl⟩ | ⟨hv,ar,cr,R,rfl,hO⟩⟩
  ·have G:=x2.af hb4;have z0:=G.cell 0 rfl;have f0:=G.frozen 0;have I:=Z5 (λv : Value=>(NX Y hb4).setCell (p:=⟨w.heap.size+1,0,none⟩) (by simp) v);have S:=Z5 hv;obtain ⟨ve,vt⟩:=V;dsimp only at S ⊢;clear G hv;go_wp2_with fail;have z1 : (w3.setCell ⟨w.heap.size+1,0,none⟩ (.slice none 0 0)).cell? ⟨w.heap.size+1,0,none⟩=some (.slice none 0 0):=Kf _ _ _ z0;exact bodyPost_ret (v:=.tuple #[.agg #[.slice none 0 0],.int .i64 ve]) (by simp [results,results75,go_sem,z0,z1]) rfl ⟨I.out _,.inl ⟨S.out,rfl⟩⟩
  ·have G:=x2.af hb4;have z0:=G.cell 0 rfl;have f0:=G.frozen 0;have hF : ∀v : Value,OC w (w3.setCell ⟨w.heap.size+1,0,none⟩ v)/\aT (w3.setCell ⟨w.heap.size+1,0,none⟩ v) w.heap.size ar V.2.length cr R V.2:=λv=>by refine ⟨(NX Y hb4).setCell (by simp) v,?_⟩;refine (aT.mono hO Y.size).bj λx hx=>J6 _ _ _ _ λe=>?_;have h1:=(hO.lt x hx).1;have e' : x=w.heap.size+1:=e;omega
   have I:=Z5 hF;obtain ⟨ve,vt⟩:=V;dsimp only at hv I ⊢;subst hv;clear G hO hF;go_wp2_with fail;have z1 : (w3.setCell ⟨w.heap.size+1,0,none⟩ (.slice ar vt.length cr)).cell? ⟨w.heap.size+1,0,none⟩=some (.slice ar vt.length cr):=Kf _ _ _ z0;exact bodyPost_ret (v:=.tuple #[.agg #[.slice ar vt.length cr],.int .i64 0]) (by simp [results,results75,go_sem,z0,z1]) rfl ⟨(I.out _).1,.inr ⟨rfl,ar,cr,R,rfl,(I.out _).2⟩⟩
section
variable {O : aM} {El : Int->Prop} {m : Nat} {L : Ll}
theorem nA (F : bI O El) {v r : LI} {i x : Nat} (Z : Vc El m v) (U : Vc El m r) (hi : i<m) (Y : x<m) : nth (jS O v i r) x=O.add (nth v x) (O.neg (O.mul (nth r x) (nth v i))):=by
 by_cases h0 : nth v i=0
 ·have e : jS O v i r=v:=by unfold jS;rw [JT h0]
  rw [e,h0,F.cQ (U.at Y),F.eY,F.add_zero _ (Z.at Y)]
 ·rw [xX O v i r x (by rw [U.1,Z.1]) (by rw [Z.1];exact Y) h0];split
  ·rename_i h1;rw [h1,F.iY (Z.at hi),F.eY,F.add_zero _ (Z.at Y)]
  ·rw [F.mul_comm _ _ (Z.at hi) (U.at Y)]
theorem Ih (F : bI O El) {v r : LI} {i : Nat} (Z : Vc El m v) (Y : Vc El m r) (hi : i<m) : Vc El m (jS O v i r) :=
 ⟨by rw [jf _ _ _ _ (by rw [Y.1,Z.1])];exact Z.1,BC F.cl Z.2 Y.2 (by rw [Y.1,Z.1]) (by rw [Z.1];exact hi)⟩
theorem xN (O : aM) (t i : Nat) (L : Ll) : ∀l,l<=L.length->∀j,ai (ko O t i L l) j=if j<l/\t<j then jS O (ai L j) i (ai L t) else ai L j
 | 0,_,j=>by rw [ko,JR (by omega)]
 | l+1,S,j=>by
  have Y:=xN O t i L l (by omega);rw [ko];by_cases Z : t<l
  ·rw [JT Z,ei _ _ _ _ (by rw [fq];omega)];by_cases e : j=l
   ·subst e;rw [JT rfl,Y j,Y t,JR (by omega),JR (by omega),JT ⟨by omega,Z⟩]
   ·rw [JR e,Y j];by_cases h : j<l/\t<j
    ·rw [JT h,JT ⟨by omega,h.2⟩]
    ·rw [JR h,JR λU=>h ⟨by omega,U.2⟩]
  ·rw [JR Z,Y j];by_cases h : j<l/\t<j
   ·rw [JT h,JT ⟨by omega,h.2⟩]
   ·rw [JR h,JR λU=>h ⟨by omega,U.2⟩]
theorem Fh (O : aM) {L : Ll} {t k : Nat} (i : Nat) (Z : t<L.length) (U : k<L.length) (N : t<=k) {j : Nat} (Q : j<L.length) :
  ai (iS O L t k i) j=if t<j then jS O (ai L (dM t k j)) i ((ai L k).map (O.mul (O.inv (nth (ai L k) i)))) else if j=t then (ai L k).map (O.mul (O.inv (nth (ai L k) i))) else ai L j:=by
 have Y : dM t k t=k:=by
  unfold dM;by_cases e : t=k
  ·rw [JT e];exact e
  ·rw [JR e,JT rfl]
 unfold iS;rw [iH _ _ _ _ Z U,Y,xN _ _ _ _ _ (by rw [KG,bG];exact JO _)];rw [ei _ _ _ _ (by rw [bG];exact Z),ei _ _ _ _ (by rw [bG];exact Z),JT rfl,iH _ _ _ _ Z U];by_cases h : t<j
 ·rw [JT ⟨Q,h⟩,JT h,JR (by omega)]
 ·rw [JR λS=>h S.2,JR h];by_cases e : j=t
  ·rw [JT e,JT e]
  ·rw [JR e,JR e];have K : dM t k j=j:=by unfold dM;rw [JR (by omega),JR e]
   rw [K]
structure IV (O : aM) (El : Int->Prop) (m : Nat) (L : Ll) (y t : LI) (k : Nat) (st : LS) : Prop where
 rws : bs El m st.rows
 len : st.rows.length=L.length
 vc : Vc El m st.sum
 top : st.top=k
 kl : k<=L.length
 sup : eA O El m L st.rows
 sub : eA O El m st.rows L
 cos : ∃f,RS O El m L f/\(∀x,x<m->El (f x))/\∀x,x<m->nth st.sum x=O.add (nth y x) (f x)
 one : ∀i,i<k->nth (ai st.rows i) (nth t i).toNat=1
 zero : ∀j i,j<k->j<i->i<L.length->nth (ai st.rows i) (nth t j).toNat=0
 sz : ∀j,j<k->nth st.sum (nth t j).toNat=0
theorem G3 (F : bI O El) {R : Ll} {t : LI} {k : Nat} (A : bs El m R) (z : k<=R.length) (U : ∀i,i<k->nth (ai R i) (nth t i).toNat=1) (hzero : ∀j i,j<k->j<i->i<R.length->nth (ai R i) (nth t j).toNat=0)
  {x : Nat} (G : ∀i,k<=i->i<R.length->nth (ai R i) x=0) : ku O El R.length (aX R) (mg t k) x:=by
 intro Q Z h0;have N:=cO A F.zero;have hu : ∀j,j<k->Q (fV R.length j)=0:=by
  intro j;induction j using Nat.strongRecOn with
  | ind j H =>
   intro K
   have h1:=h0 (nth t j).toNat ((fu t _ k).2 ⟨j,K,rfl⟩)
   rw [iE F Z (N _)] at h1
   have S:=Z.el _ (gP F R.length j)
   have h2 : ∀p,p<R.length->nth (aX R (nth t j).toNat) p=nth (ai R p) (nth t j).toNat:=λp Y=>da R _ p Y
   rw [kB F (x:=j) (by
    show El (O.mul (Q (fV R.length j)) (nth (aX R (nth t j).toNat) j));rw [h2 j (by omega),U j K,F.gR S];exact S) R.length (λp Y I=>by
    show O.mul (Q (fV R.length p)) (nth (aX R (nth t j).toNat) p)=0;rw [h2 p Y];by_cases e : p<j
    ·rw [H p e (by omega),<- h2 p Y,F.iY ((N _).at Y)]
    ·rw [hzero j p K (by omega) Y,F.cQ (Z.el _ (gP F _ p))]),JT (by omega)] at h1
   have h3 : O.mul (Q (fV R.length j)) (nth (aX R (nth t j).toNat) j)=0:=h1
   rw [h2 j (by omega),U j K,F.gR S] at h3
   exact h3
 rw [iE F Z (N _)];refine lq F _ λp Y=>?_;show O.mul (Q (fV R.length p)) (nth (aX R x) p)=0;by_cases e : p<k
 ·rw [hu p e,F.iY ((N _).at Y)]
 ·rw [da R _ p Y,G p (by omega) Y,F.cQ (Z.el _ (gP F _ p))]
theorem FB {t : LI} {k : Nat} (Y : k<=t.length) {y : Nat} (h : y ∈ mg t k) : y ∈ gA (t.take k):=by obtain ⟨j,Z,rfl⟩:=(fu t _ k).1 h;refine n8.2 ⟨nth t j,?_,rfl⟩;rw [aj (show j<t.length by omega)];rw [List.mem_take_iff_getElem];exact ⟨j,by omega,rfl⟩
theorem EC (F : bI O El) (Z : bs El m L) {t : LI} (U : mh O L t=t.length) {k : Nat} (Y : k<t.length) : ¬ ku O El L.length (aX L) (gA (t.take k)) (nth t k).toNat:=λS=>by
 have h1 : mh O L (t.take (k+1))=(t.take (k+1)).length:=D3 F Z (A:=t.drop (k+1)) (by rw [Mi];exact U);have h2:=Eh O L (t.take k);have h3:=ke F Z (t.take k ++ [nth t k]);rw [vA] at h3;have Q:=h3.uniq (Rk.dep _ S (ke F Z (t.take k)));have e : t.take (k+1)=t.take k ++ [nth t k]:=by rw [JW Y,aj Y]
 rw [e] at h1;rw [J0,Ki,Ka] at h1;rw [Ki] at h2;omega
theorem DA (F : bI O El) (hL : bs El m L) {y t : LI} (hT : Ak m t) (ht : mh O L t=t.length) {k : Nat} (hk : k<t.length) {st : LS} (h : IV O El m L y t k st) (hy : Vc El m y) : IV O El m L y t (k+1) (pU O st (nth t k).toNat):=by
 have hi0:=hT k hk;have hi : (nth t k).toNat<m:=by omega
 obtain ⟨i,hie⟩ : ∃i,(nth t k).toNat=i:=⟨_,rfl⟩
 have htop:=h.top;have hlen:=h.len;have hkl : k<=st.rows.length:=by rw [hlen];exact h.kl
 have K : aZ st.rows i st.top ≠ st.rows.length:=λhf=>by
  refine EC F hL ht hk ?_;have h1 : ku O El st.rows.length (aX st.rows) (mg t k) i:=G3 F h.rws hkl h.one (λj U h1 h2 h3=>h.zero j U h1 h2 (by omega)) λp hp hpl=>by refine kX st.rows i (st.rows.length - st.top) st.top p (by omega) ?_;unfold aZ at hf;omega
  have h2:=eA.cl h.sup (λz hz=>by obtain ⟨j,Y,rfl⟩:=(fu t _ k).1 hz;have:=hT j (by omega);omega) (by omega) h1;rw [hie];exact (gE F hL).sub (λz hz=>FB (by omega) hz) h2
 obtain ⟨a1,a2,a3⟩:=GK (by omega) K;have hq : ∃q,aZ st.rows i st.top=q:=⟨_,rfl⟩
 obtain ⟨q,hqe⟩:=hq;rw [hqe] at a1 a2 a3 K;have hkn : k<st.rows.length:=by omega
 rw [hie] at hi ⊢;have hstep : pU O st i=⟨iS O st.rows st.top q i,jS O st.sum i (ai (iS O st.rows st.top q i) st.top),st.top+1⟩:=by unfold pU;rw [hqe,JR K]
 rw [hstep,htop];rw [htop] at a1;have hrq:=h.rws.row (i:=q) a2;have hp : El (nth (ai st.rows q) i):=N2 hrq hi;have r:=F.cl.inv _ hp a3;obtain ⟨N,hN⟩ : ∃N,(ai st.rows q).map (O.mul (O.inv (nth (ai st.rows q) i)))=N:=⟨_,rfl⟩
 have Q : Vc El m N:=by rw [<- hN];exact Vc.DX F hrq r
 have hNx : ∀x,x<m->nth N x=O.mul (O.inv (nth (ai st.rows q) i)) (nth (ai st.rows q) x):=λx Z=>by rw [<- hN];exact j4 O _ _ (by rw [hrq.1];exact Z)
 have hNi : nth N i=1:=by rw [hNx i hi,F.mul_comm _ _ r hp,F.mul_inv _ hp a3]
 obtain ⟨A,hR'⟩ : ∃A,iS O st.rows k q i=A:=⟨_,rfl⟩
 have S : ∀j,j<st.rows.length->ai A j=if k<j then jS O (ai st.rows (dM k q j)) i N else if j=k then N else ai st.rows j:=λj Y=>by rw [<- hR',Fh O i hkn a2 a1 Y,hN]
 have hR'l : A.length=st.rows.length:=by rw [<- hR',sk]
 have hR'r : bs El m A:=by rw [<- hR'];exact AB F.cl h.rws hkn a2 hi a3
 have H : ai A k=N:=by rw [S k hkn,JR (by omega),JT rfl]
 have G : ∀j,j<st.rows.length->dM k q j<st.rows.length:=λj Y=>jD hkn a2 Y;have I : ∀j x,j<st.rows.length->k<j->x<m->nth (ai A j) x=O.add (nth (ai st.rows (dM k q j)) x) (O.neg (O.mul (nth N x) (nth (ai st.rows (dM k q j)) i))):=λj x Y hkj Z=>by rw [S j Y,JT hkj];exact nA F (h.rws.row (G j Y)) Q hi Z
 have hNrs : RS O El m st.rows (λx=>nth N x):=((N8 F a2).smul F r).congr λx Z=>hNx x Z;have hsub' : eA O El m A st.rows:=λj Y=>by
  rw [hR'l] at Y;by_cases h1 : k<j
  ·exact ((N8 F (G j Y)).comb F hNrs (N2 (h.rws.row (G j Y)) hi)).congr λx Z=>I j x Y h1 Z
  ·by_cases h2 : j=k
   ·subst h2;rw [H];exact hNrs
   ·rw [S j Y,JR h1,JR h2];exact N8 F Y
 have hkR : k<A.length:=by omega
 have hsup' : eA O El m st.rows A:=λj Y=>by
  by_cases h1 : j<k
  ·refine (N8 F (i:=j) (by omega)).congr λx Z=>?_;rw [S j Y,JR (by omega),JR (by omega)]
  ·by_cases h2 : j=q
   ·subst h2;refine ((N8 F hkR).smul F hp).congr λx Z=>?_;have hx1 : El (nth (ai st.rows j) x):=N2 hrq Z;rw [H,hNx x Z,<- F.mul_assoc _ _ _ hp r hx1,F.mul_inv _ hp a3,F.one_mul _ hx1]
   ·obtain ⟨j',hj',hkj,hfj⟩ : ∃j',j'<st.rows.length/\k<j'/\dM k q j'=j:=by
     by_cases h3 : j=k
     ·refine ⟨q,a2,by omega,?_⟩;unfold dM;rw [JT rfl,h3]
     ·refine ⟨j,Y,by omega,?_⟩;unfold dM;rw [JR h2,JR h3]
    have hs : El (nth (ai st.rows j) i):=N2 (h.rws.row Y) hi;refine ((N8 F (i:=j') (by omega)).comb F (N8 F hkR) (F.cl.neg _ hs)).congr λx Z=>?_;have hx2 : El (nth (ai st.rows j) x):=N2 (h.rws.row Y) Z;have hq:=F.cl.mul _ _ (Q.at Z) hs;rw [I j' x hj' hkj Z,hfj,H,F.mul_neg (Q.at Z) hs,F.neg_neg hq,F.add_assoc _ _ _ hx2 (F.cl.neg _ hq) hq,F.j6 hq,F.add_zero _ hx2]
 rw [hR',H];have hlow : ∀j p,j<k->k<=p->p<st.rows.length->nth (ai st.rows p) (nth t j).toNat=0:=λj p h1 h2 h3=>h.zero j p h1 (by omega) (by omega);have hNj : ∀j,j<k->nth N (nth t j).toNat=0:=λj Y=>by have:=hT j (by omega);rw [hNx _ (by omega),hlow j q Y a1 a2,F.cQ r]
 refine ⟨hR'r,(show A.length=L.length by omega),Ih F h.vc Q hi,rfl,by omega,h.sup.trans hsup',hsub'.trans h.sub,?_,?_,?_,?_⟩
 ·obtain ⟨f,hf,hfe,hfx⟩:=h.cos;have hs:=h.vc.at hi;refine ⟨_,hf.comb F (h.sub.rs hNrs) hs,λx Z=>F.cl.add _ _ (hfe x Z) (F.cl.neg _ (F.cl.mul _ _ (Q.at Z) hs)),λx Z=>?_⟩;have hq:=F.cl.neg _ (F.cl.mul _ _ (Q.at Z) hs);show nth (jS O st.sum i N) x=_;rw [nA F h.vc Q hi Z,hfx x Z,F.add_assoc _ _ _ (hy.at Z) (hfe x Z) hq]
 ·intro U hi';show nth (ai A U) _=1;by_cases e : U=k
  ·subst e;rw [H,hie];exact hNi
  ·rw [S U (by omega),JR (by omega),JR e];exact h.one U (by omega)
 ·intro j U Y hji hil;show nth (ai A U) _=0;have htj:=hT j (by omega);by_cases e : j=k
  ·subst e;rw [hie,I U i (by omega) hji hi,hNi];have hv : El (nth (ai st.rows (dM j q U)) i):=N2 (h.rws.row (G U (by omega))) hi;rw [F.one_mul _ hv,F.add_neg _ hv]
  ·by_cases e2 : k<U
   ·rw [I U _ (by omega) e2 (by omega),hNj j (by omega)];have hv : El (nth (ai st.rows (dM k q U)) i):=N2 (h.rws.row (G U (by omega))) hi;have hfk : k<=dM k q U:=by unfold dM;split <;> (try split) <;> omega
    rw [hlow j _ (by omega) hfk (G U (by omega)),F.iY hv,F.eY,F.add_zero _ F.zero]
   ·by_cases e3 : U=k
    ·subst e3;rw [H];exact hNj j (by omega)
    ·rw [S U (by omega),JR e2,JR e3];exact h.zero j U (by omega) hji hil
 ·intro j Y;show nth (jS O st.sum i N) _=0;have htj:=hT j (by omega);have hs:=h.vc.at hi;by_cases e : j=k
  ·subst e;rw [hie,nA F h.vc Q hi hi,hNi,F.one_mul _ hs,F.add_neg _ hs]
  ·rw [nA F h.vc Q hi (by omega),hNj j (by omega),h.sz j (by omega),F.iY hs,F.eY,F.add_zero _ F.zero]
theorem BI (F : bI O El) (Y : bs El m L) {y t : LI} (S : Ak m t) (U : mh O L t=t.length) (Z : Vc El m y) : ∀k,k<=t.length->IV O El m L y t k (tE O L y t k)
 | 0,_=>by refine ⟨Y,rfl,Z,rfl,JU _,eA.refl F L,eA.refl F L,?_,λi hi=>by omega,λj i Q=>by omega,λj Q=>by omega⟩;refine ⟨λ_=>0,?_,λx _=>F.zero,λx N=>by show nth y x=_;rw [F.add_zero _ (Z.at N)]⟩;exact Oz F λ_ _=>rfl
 | k+1,K=>by rw [tE];exact DA F Y S U (by omega) (BI F Y S U Z k (by omega)) Z
def Jd (O : aM) (El : Int->Prop) (m : Nat) (L : Ll) (y X : LI) : Prop:=Vc El m X/\∃f,RS O El m L f/\(∀x,x<m->El (f x))/\∀x,x<m->nth X x=O.add (nth y x) (f x)
theorem DE (F : bI O El) (hL : bs El m L) {y X X' t Q : LI} (hy : Vc El m y) (hX : Jd O El m L y X) (hX' : Jd O El m L y X') (hT : Ak m t) (ht : mh O L Q<=mh O L t) (hQ : ∀x ∈ t,x ∈ Q)
  (h0 : ∀x ∈ t,nth X x.toNat=0) (h0' : ∀x ∈ t,nth X' x.toNat=0) {x : Int} (hx : x ∈ Q) (Z : x.toNat<m) : nth X x.toNat=nth X' x.toNat:=by
 obtain ⟨hXv,f,⟨e,he,A⟩,U,G⟩:=hX;obtain ⟨hXv',f',⟨e',he',N⟩,Y,S⟩:=hX';have I:=F.one;have hc : ku O El L.length (aX L) (gA t) x.toNat:=by
  refine Kg λhn=>?_;have h1:=FO F hL (Q:=t) (x:=x) hn;have h2:=DF F hL (Q:=t ++ [x]) (Q':=Q) λz K=>by
   rcases List.mem_append.1 K with K | K
   ·exact hQ z K
   ·rw [List.mem_singleton.1 K];exact hx
  omega
 have hd:=hc _ (he.comb F he' I) λz K=>by obtain ⟨p,hp,rfl⟩:=n8.1 K;obtain ⟨j,hj,rfl⟩:=List.mem_iff_getElem.1 hp;have hb:=hT j hj;rw [aj hj] at hb;show O.add (e (aX L (t[j]).toNat)) (O.neg (O.mul (e' (aX L (t[j]).toNat)) 1))=0;have k1:=h0 _ hp;have k2:=h0' _ hp;rw [G _ (by omega)] at k1;rw [S _ (by omega)] at k2;have r:=hy.at (i:=(t[j]).toNat) (by omega);have q1:=F.js r (U _ (by omega)) k1;have q2:=F.js r (Y _ (by omega)) k2;rw [<- A _ (by omega),<- N _ (by omega),q1,q2,F.gR (F.cl.neg _ r),F.add_neg _ (F.cl.neg _ r)]
 have H : O.add (e (aX L x.toNat)) (O.neg (O.mul (e' (aX L x.toNat)) 1))=0:=hd;rw [<- A _ Z,<- N _ Z,F.gR (Y _ Z)] at H;have q:=F.js (U _ Z) (F.cl.neg _ (Y _ Z)) H;have q2:=congrArg O.neg q;rw [F.neg_neg (Y _ Z),F.neg_neg (U _ Z)] at q2;rw [G _ Z,S _ Z,q2]
theorem pc {s v Y : LI} : ∀k : Nat,(∀j : Nat,j<k->¬ (j : Int) ∈ s->nth v j=nth Y j)->kZ s v k=kZ s Y k
 | 0,_=>rfl
 | k+1,h=>by
  have U:=pc k λj S=>h j (by omega);rw [kZ,kZ,U];by_cases h2 : (k : Int) ∈ s
  ·rw [JR λZ=>Z.2 h2,JR λZ=>Z.2 h2]
  ·rw [h k (by omega) h2]
theorem Cc (F : bI O El) (K : bs El m L) {y s t X : LI} (I : Vc El m y) (N : Ak m t) (G : mh O L t=t.length) (r : mh O L (frTo false s m)=t.length) (S : ∀x ∈ t,¬ x ∈ s) (A : Jd O El m L y X) (h0 : ∀x ∈ t,nth X x.toNat=0) :
  kg O L y s t=kZ s X m:=by
 have h:=BI F K N G I t.length (JO _);unfold kg;rw [h.vc.1];refine pc m λj H U=>?_;have z : Jd O El m L y (tE O L y t t.length).sum:=⟨h.vc,h.cos⟩
 refine DE F K I z A N (Q:=frTo false s m) (by omega) (λx Y=>?_) (λx Y=>?_) h0 (x:=(j : Int)) ((eo m).2 ⟨j,H,rfl,by simpa using U⟩) (by simpa using H)
 ·obtain ⟨q,Z,rfl⟩:=List.mem_iff_getElem.1 Y;have hb:=N q Z;rw [aj Z] at hb;exact (eo m).2 ⟨(t[q]).toNat,by omega,by omega,by rw [KY hb.1];simpa using S _ Y⟩
 ·obtain ⟨q,Z,rfl⟩:=List.mem_iff_getElem.1 Y;have:=h.sz q Z;rwa [aj Z] at this
end
section
variable {O : aM} {El : Int->Prop}
def eZ (O : aM) (x : Int) : Nat->Int
 | 0=>1
 | k+1=>O.mul (eZ O x k) x
theorem eC (F : bI O El) {x : Int} (Z : El x) : ∀k,El (eZ O x k)
 | 0=>F.one
 | k+1=>F.cl.mul _ _ (eC F Z k) Z
theorem uJ (F : bI O El) {x : Int} (Z : El x) (a : Nat) : ∀b,eZ O x (a+b)=O.mul (eZ O x a) (eZ O x b)
 | 0=>by rw [MW];exact (F.gR (eC F Z a)).symm
 | b+1=>by rw [<- Nat.add_assoc];show O.mul (eZ O x (a+b)) x=O.mul _ (O.mul (eZ O x b) x);rw [uJ F Z a b,F.mul_assoc _ _ _ (eC F Z a) (eC F Z b) Z]
theorem nD (F : bI O El) {x : Int} (Z : El x) (a : Nat) : ∀b,eZ O x (a * b)=eZ O (eZ O x a) b
 | 0=>rfl
 | b+1=>by rw [L4,uJ F Z,nD F Z a b];rfl
def iZ (n : Nat) (c : Int) (e : Nat) : LI:=(List.replicate n 0).set e c
def kt (O : aM) (a b : LI) : LI:=List.zipWith O.add a b
theorem jk (F : bI O El) {n e : Nat} {c : Int} (Y : El c) : ∀y ∈ iZ n c e,El y:=λy Z=>by
 rcases KX Z with h | rfl
 ·rw [KJ h];exact F.zero
 ·exact Y
theorem Ei (F : bI O El) (n : Nat) : ∀y ∈ List.replicate n (0 : Int),El y:=λy Z=>by rw [KJ Z];exact F.zero
theorem uK (F : bI O El) {x : Int} (Y : El x) (n : Nat) : gI O (List.replicate n 0) x=0:=jM F Y λy Z=>KJ Z
theorem nB (F : bI O El) {x c : Int} (Z : El x) (Y : El c) : ∀(n e : Nat),e<n->gI O (iZ n c e) x=O.mul c (eZ O x e)
 | 0,e,h=>by omega
 | n+1,0,_=>by show O.add c (O.mul x (gI O (List.replicate n 0) x))=O.mul c 1;rw [uK F Z,F.cQ Z,F.add_zero _ Y,F.gR Y]
 | n+1,e+1,h=>by show O.add 0 (O.mul x (gI O (iZ n c e) x))=O.mul c (O.mul (eZ O x e) x);rw [nB F Z Y n e (by omega),F.sl (F.cl.mul _ _ Z (F.cl.mul _ _ Y (eC F Z e))),F.mul_comm _ _ Z (F.cl.mul _ _ Y (eC F Z e)),F.mul_assoc _ _ _ Y (eC F Z e) Z]
theorem qd (F : bI O El) : ∀ {a b : LI},(∀y ∈ a,El y)->(∀y ∈ b,El y)->∀y ∈ kt O a b,El y
 | [],b,_,_,y,Z=>by simp [kt] at Z
 | x :: a,[],_,_,y,Z=>by simp [kt] at Z
 | x :: a,z :: b,ha,hb,y,Z=>by
  rcases List.mem_cons.1 (show y ∈ O.add x z :: kt O a b from Z) with rfl | Z
  ·exact F.cl.add _ _ (ha x (by simp)) (hb z (by simp))
  ·exact qd F (λw hw=>ha w (Ku _ hw)) (λw hw=>hb w (Ku _ hw)) y Z
theorem qg (F : bI O El) {x : Int} (Z : El x) : ∀ {a b : LI},a.length=b.length->(∀y ∈ a,El y)->(∀y ∈ b,El y)->gI O (kt O a b) x=O.add (gI O a x) (gI O b x)
 | [],[],_,_,_=>by show (0 : Int)=O.add 0 0;rw [F.add_zero 0 F.zero]
 | [],_ :: _,h,_,_=>by simp at h
 | _ :: _,[],h,_,_=>by simp at h
 | c :: a,d :: b,h,ha,hb=>by have N:=ha c (by simp);have hd:=hb d (by simp);have U : ∀y ∈ a,El y:=λw hw=>ha w (Ku _ hw);have Y : ∀y ∈ b,El y:=λw hw=>hb w (Ku _ hw);have Q:=kS F Z U;have S:=kS F Z Y;show O.add (O.add c d) (O.mul x (gI O (kt O a b) x))=O.add (O.add c (O.mul x (gI O a x))) (O.add d (O.mul x (gI O b x)));rw [qg F Z (by simpa using h) U Y,F.mul_add _ _ _ Z Q S,F.Cy N hd (F.cl.mul _ _ Z Q) (F.cl.mul _ _ Z S)]
theorem qo {a b : LI} {i : Nat} (ha : i<a.length) (hb : i<b.length) : nth (kt O a b) i=O.add (nth a i) (nth b i):=by
 have Z : i<(List.zipWith O.add a b).length:=by rw [KZ];omega
 show nth (List.zipWith O.add a b) i=_;rw [aj Z,aj ha,aj hb,L0]
theorem mw {n e i : Nat} {c : Int} (he : e<n) : nth (iZ n c e) i=if i=e then c else 0:=by
 unfold iZ;rw [eh _ _ _ _ (by simpa using he)];split
 ·rfl
 ·simp [nth,JS,Ke];split <;> rfl
def CW (O : aM) (v : LI) (E : Nat->Nat) (x : Int) : Nat->Int
 | 0=>0
 | k+1=>O.add (CW O v E x k) (O.mul (nth v k) (eZ O x (E k)))
theorem wZ (F : bI O El) {v : LI} {E : Nat->Nat} {n : Nat} : ∀k,(∀j,j<k->El (nth v j)/\E j<n)->(∀i j,i<j->j<k->E i<E j) ->
  ∃a : LI,a.length=n/\(∀y ∈ a,El y)/\(∀x,El x->gI O a x=CW O v E x k)/\(∀j,j<k->nth a (E j)=nth v j)/\∀i,(∀j,j<k->i ≠ E j)->nth a i=0
 | 0,_,_=>⟨List.replicate n 0,by simp,Ei F n,λx Q=>uK F Q n,λj Z=>by omega,λi _=>by simp [nth,JS,Ke];split <;> rfl⟩
 | k+1,h,G=>by
  obtain ⟨a,h1,h2,h3,e,r⟩:=wZ F k (λj Z=>h j (by omega)) λi j hi Z=>G i j hi (by omega);obtain ⟨K,H⟩:=h k (by omega);have U : (iZ n (nth v k) (E k)).length=n:=by simp [iZ]
  have I : nth a (E k)=0:=r _ λj Z=>by have:=G j k Z (by omega);omega
  refine ⟨kt O a (iZ n (nth v k) (E k)),by unfold kt;rw [KZ,h1,U,Nat.min_self],qd F h2 (jk F K),λx Q=>?_,λj Z=>?_,λi hi=>?_⟩
  ·rw [qg F Q (by rw [h1,U]) h2 (jk F K),h3 x Q,nB F Q K n _ H];rfl
  ·have S:=(h j Z).2;rw [qo (by rw [h1];exact S) (by rw [U];exact S),mw H];rcases Kz j k with Y | Y
   ·have:=G j k Y (by omega);rw [JR (by omega),e j Y,F.add_zero _ (h j Z).1]
   ·obtain rfl : j=k:=by omega
    rw [JT rfl,I,F.sl K]
  ·by_cases N : i<n
   ·rw [qo (by rw [h1];exact N) (by rw [U];exact N),mw H,JR (hi k (by omega)),r i λj Z=>hi j (by omega),F.add_zero 0 F.zero]
   ·have A : (kt O a (iZ n (nth v k) (E k))).length<=i:=by unfold kt;rw [KZ,h1,U];omega
    generalize kt O a (iZ n (nth v k) (E k))=z at A ⊢;unfold nth;rw [JS,KS A];rfl
theorem wV (F : bI O El) {v : LI} {E : Nat->Nat} {r : Nat} {c : Int} (S : El c) : ∀k,(∀j,j<k->El (nth v j)/\E j % (r+1)<r) ->
  ∃b : LI,b.length=r/\(∀y ∈ b,El y)/\∀x,El x->eZ O x (r+1)=c->gI O b x=CW O v E x k
 | 0,_=>⟨List.replicate r 0,by simp,Ei F r,λx Z _=>uK F Z r⟩
 | k+1,h=>by
  obtain ⟨b,h1,h2,h3⟩:=wV F S k λj H=>h j (by omega);obtain ⟨N,I⟩:=h k (by omega);have Y:=F.cl.mul _ _ N (eC F S (E k / (r+1)));have Q : (iZ r (O.mul (nth v k) (eZ O c (E k / (r+1)))) (E k % (r+1))).length=r:=by simp [iZ]
  refine ⟨kt O b (iZ r (O.mul (nth v k) (eZ O c (E k / (r+1)))) (E k % (r+1))),by unfold kt;rw [KZ,h1,Q,Nat.min_self],qd F h2 (jk F Y),λx Z U=>?_⟩;rw [qg F Z (by rw [h1,Q]) h2 (jk F Y),h3 x Z U,nB F Z Y r _ I];show _=O.add _ (O.mul (nth v k) (eZ O x (E k)));have e : eZ O x (E k)=O.mul (eZ O c (E k / (r+1))) (eZ O x (E k % (r+1))):=by have K : E k=(r+1) * (E k / (r+1))+E k % (r+1):=(LU _ _).symm;rw [<- U,<- nD F Z,<- uJ F Z,<- K]
  rw [e,F.mul_assoc _ _ _ N (eC F S _) (eC F Z _)]
def gF (O : aM) (X : LI) (E : Nat->Nat) (k : Nat) : Ll:=(List.range k).map λj=>X.map λx=>eZ O x (E j)
theorem wC {X : LI} {E : Nat->Nat} {k j : Nat} (Y : j<k) : ai (gF O X E k) j=X.map λx=>eZ O x (E j):=by
 unfold gF;have Z : j<((List.range k).map λj=>X.map λx=>eZ O x (E j)).length:=by simpa using Y
 rw [aE Z,KF,Lt]
theorem nK (F : bI O El) {X : LI} (Y : ∀x ∈ X,El x) {E : Nat->Nat} {k : Nat} : bs El X.length (gF O X E k):=λr S=>by obtain ⟨j,U,rfl⟩:=ga S;rw [wC (by simpa [gF] using U)];exact ⟨by simp,λy Z=>by obtain ⟨x,Q,rfl⟩:=List.mem_map.1 Z;exact eC F (Y x Q) _⟩
theorem mC {X : LI} {f : Int->Int} {p : Nat} (Z : p<X.length) : nth (X.map f) p=f (nth X p):=by rw [aj (by simpa using Z),KF,aj Z]
theorem vC (F : bI O El) {X : LI} (Q : ∀x ∈ X,El x) {E : Nat->Nat} {n : Nat} {v : LI} (K : ∀j,j<n->El (nth v j)) {p : Nat} (U : p<X.length) : ∀k,k<=n->nth (cmbTo O X.length v (gF O X E n) k) p=CW O v E (nth X p) k
 | 0,_=>by show nth (List.replicate X.length 0) p=0;simp [nth,JS,Ke];split <;> rfl
 | k+1,r=>by
  have I:=K k (by omega);have N:=Q (nth X p) (aI U);have G:=eC F N (E k);have H:=vC F Q (E:=E) K U k (by omega);have z:=nK F Q (E:=E) (k:=n);have S : (gF O X E n).length=n:=by simp [gF]
  obtain ⟨⟨c1,c2⟩,_⟩:=ju F z (x:=v) (λj A=>K j (by rw [S] at A;exact A)) k (by rw [S];omega);have Z : El (CW O v E (nth X p) k):=by rw [<- H];exact N2 ⟨c1,c2⟩ U
  rw [cmbTo];show _=O.add (CW O v E (nth X p) k) (O.mul (nth v k) (eZ O (nth X p) (E k)));split
  ·rename_i h0;rw [H,h0,F.iY G,F.add_zero _ Z]
  ·have Y : ai (gF O X E n) k=X.map λx=>eZ O x (E k):=wC (by omega);rw [fb _ _ _ _ _ (by rw [Y,c1];simp) (by rw [c1];exact U),H,Y,mC U];split
   ·rename_i h0;rw [h0,F.cQ I,F.add_zero _ Z]
   ·rfl
end
section
variable {O : aM} {El : Int->Prop} {m : Nat} {L : Ll}
theorem zR (F : bI O El) (z : bs El m L) (h : ∀v,Vc El L.length v->(∀p,p<m->nth (cmbTo O m v L L.length) p=0)->∀j,j<L.length->nth v j=0) : (aC O L m).2.length=L.length:=by
 obtain ⟨hP,hs1,hs2⟩:=fJ F z m (JO _);have hRr:=gO F z m (JO _);obtain ⟨R,hR⟩ : ∃R,(aC O L m).1=R:=⟨_,rfl⟩
 obtain ⟨P,hPe⟩ : ∃P,(aC O L m).2=P:=⟨_,rfl⟩
 have hRl : R.length=L.length:=by rw [<- hR];exact bL O L m
 rw [hR,hPe] at hP;rw [hR] at hs1 hs2 hRr;rw [hPe];have hle:=hP.le;rw [hRl] at hle;refine Kg λhne=>?_;have hn : P.length<L.length:=by omega
 obtain ⟨A,hA⟩ : ∃A,(P.map λq=>aX L q.toNat)=A:=⟨_,rfl⟩
 have hAl : A.length=P.length:=by rw [<- hA,J5]
 have I : bs El L.length A:=λr hr=>by rw [<- hA] at hr;obtain ⟨q,_,rfl⟩:=List.mem_map.1 hr;exact cO z F.zero q.toNat
 have hAi : ∀i,i<P.length->ai A i=aX L (nth P i).toNat:=λi hi=>by rw [aE (by omega),aj hi];simp [<- hA]
 obtain ⟨Y,N⟩:=bS F I;have Z:=bY F I;have U:=bQ F I;have hPA : (aC O A L.length).2.length<=P.length:=by have:=(dX O A L.length).2;rw [hAl] at this;exact this
 obtain ⟨Q,hQ⟩ : ∃Q,(aC O A L.length).2=Q:=⟨_,rfl⟩
 obtain ⟨B,hB⟩ : ∃B,bH O L.length A=B:=⟨_,rfl⟩
 have H:=(dG F I).2;rw [hB] at Y N Z U H;rw [hQ] at Y N Z hPA;have hcnt:=tu (m:=L.length) Q (λj hj=>Y.lt j hj) N.asc;have h0 : 0<(eG Q L.length).length:=by omega
 obtain ⟨c,hc⟩ : ∃c,(eG Q L.length).getD 0 0=c:=⟨_,rfl⟩
 obtain ⟨S,hcn⟩:=kY h0;rw [hc] at S hcn;obtain ⟨v,hv⟩ : ∃v,kerTo O L.length B Q c Q.length=v:=⟨_,rfl⟩
 have hvv : Vc El L.length v:=by rw [<- hv];exact jw F U Y Z S _ (JO _)
 have hvc : nth v c=1:=by rw [<- hv];exact iO Y S hcn _ (JO _)
 have K : ∀p,p<L.length->El (nth v p):=λp e=>hvv.at e;have G : ∀i,i<B.length->dotN O (λp=>nth v p) (λp=>nth (ai B i) p) L.length=0:=λi hi=>by have h1:=nT F U Y N Z i 0 hi (by rw [fK];exact h0);rw [ji O L.length B Q L.length h0,hc,hv] at h1;rw [fT F L.length K (λp e=>N2 (U.row hi) e)];exact h1
 have hz : ∀p,p<m->nth (cmbTo O m v L L.length) p=0:=by
  obtain ⟨c1,c2⟩:=ju F z K L.length (JO _);refine qi F hRr hP (hs2.rs c2) λj hj=>?_;have hpl:=(hP.lt j hj)
  rw [pY F z K (show (nth P j).toNat<m by omega) _ (JO _)];have h2 : dotN O (λp=>nth v p) (λp=>nth (ai A j) p) L.length=0:=l7 F U K G (H j (by omega));rw [hAi j hj] at h2;rw [<- h2];exact eD L.length λp e=>⟨rfl,(da _ _ p e).symm⟩
 have h3:=h v hvv hz c S;rw [hvc] at h3;exact absurd h3 (by decide)
end
section
variable {O : aM} {El : Int->Prop} {X : LI} {E : Nat->Nat} {k D : Nat}
theorem Iw (X : LI) (a : LI) : gU (X.map (gI O a))+(X.filter λy=>decide (gI O a y=0)).length=X.length:=by
 unfold gU;rw [NR];induction X with
 | nil=>rfl
 | cons y X Z =>
  have e1 : ((λy : Int=>decide (y ≠ 0)) ∘ gI O a) y=decide (gI O a y ≠ 0):=rfl
  rw [List.countP_cons,MQ,Kr,e1]
  by_cases h : gI O a y=0
  ·rw [JR (show ¬ decide (gI O a y ≠ 0)=true by simpa using h),JT (show decide (gI O a y=0)=true by simpa using h),Kr]
   omega
  ·rw [JT (show decide (gI O a y ≠ 0)=true by simpa using h),JR (show ¬ decide (gI O a y=0)=true by simpa using h)]
   omega
theorem AE (F : bI O El) (Z : ∀x ∈ X,El x) (K : ∀i j,i<j->j<k->E i<E j) (N : ∀j,j<k->E j<=D) {v : LI} (S : ∀j,j<k->El (nth v j)) :
  ∃a : LI,a.length=D+1/\(∀y ∈ a,El y)/\(∀p,p<X.length->nth (cmbTo O X.length v (gF O X E k) k) p=gI O a (nth X p))/\∀j,j<k->nth a (E j)=nth v j:=by obtain ⟨a,h1,h2,h3,Q,_⟩:=wZ F (v:=v) (E:=E) (n:=D+1) k (λj U=>⟨S j U,by have:=N j U;omega⟩) K;exact ⟨a,h1,h2,λp Y=>by rw [vC F Z S Y k (JO _),h3 _ (Z _ (aI Y))],Q⟩
theorem A2 (F : bI O El) (Y : X.Nodup) (U : ∀x ∈ X,El x) {a : LI} (S : a.length=D+1) (ha : ∀y ∈ a,El y) (h : gU (X.map (gI O a))+D<X.length) : ∀c ∈ a,c=0:=by have h1:=Iw (O:=O) X a;refine jY F (X:=X.filter λy=>decide (gI O a y=0)) (LZ _ Y) (λx Z=>U x (List.mem_filter.1 Z).1) ha (λx Z=>by simpa using (List.mem_filter.1 Z).2) (by omega)
theorem nc : (gF O X E k).length=k:=by simp [gF]
theorem zP (F : bI O El) (K : X.Nodup) (U : ∀x ∈ X,El x) (H : ∀i j,i<j->j<k->E i<E j) (I : ∀j,j<k->E j<=D) {w : LI} (hw : Vc El X.length w)
  (G : RS O El X.length (bH O X.length (gF O X E k)) (λi=>nth w i)) (h0 : gU w ≠ 0) : X.length<=gU w+D:=by
 have S:=nK F U (E:=E) (k:=k);obtain ⟨v,Q,h1⟩:=RS.Jy F S ((dG F S).1.rs G);rw [nc] at Q h1;obtain ⟨a,a1,a2,a3,_⟩:=AE F U H I (v:=v) λj N=>Q.at N;have Y : w=X.map (gI O a):=fZ (by rw [hw.1,J5]) λp Z=>by rw [hw.1] at Z;rw [mC Z,<- a3 p Z];exact h1 p Z
 refine Lv λA=>h0 ?_;have h2:=A2 F K U a1 a2 (by rw [<- Y];omega);rw [Y];exact xV.2 λp Z=>by rw [J5] at Z;rw [mC Z];exact jM F (U _ (aI Z)) h2
theorem Ev (F : bI O El) (I : X.Nodup) (U : ∀x ∈ X,El x) (H : ∀i j,i<j->j<k->E i<E j) (Q : ∀j,j<k->E j<=D) (K : D<X.length) : (bH O X.length (gF O X E k)).length=k:=by
 have N:=nK F U (E:=E) (k:=k);rw [bY F N,zR F N,nc];intro v S h0 j Z;rw [nc] at S h0 Z;obtain ⟨a,a1,a2,a3,a4⟩:=AE F U H Q (v:=v) λj Z=>S.at Z;have G : gU (X.map (gI O a))=0:=xV.2 λp Y=>by rw [J5] at Y;rw [mC Y,<- a3 p Y];exact h0 p Y
 have h2:=A2 F I U a1 a2 (by omega);rw [<- a4 j Z];exact h2 _ (aI (by rw [a1];have:=Q j Z;omega))
theorem Ca (F : bI O El) (hn : X.Nodup) (S : ∀x ∈ X,El x) {r : Nat} (hr : ∀j,j<k->E j % (r+1)<r) {c : Int} (hc : El c) {l : LN} (Y : ∀p ∈ l,p<X.length/\eZ O (nth X p) (r+1)=c) (A : l.Nodup) (G : r<=l.length)
  {q : Nat} (H : q<X.length) (K : eZ O (nth X q) (r+1)=c) : ku O El (bH O X.length (gF O X E k)).length (aX (bH O X.length (gF O X E k))) l q:=by
 have hR:=nK F S (E:=E) (k:=k);refine (GU (λp Z=>(Y p Z).1) H).2 λf hf h0=>?_;obtain ⟨v,hv,h1⟩:=RS.Jy F hR ((dG F hR).1.rs hf);rw [nc] at hv h1;have Q : ∀j,j<k->El (nth v j):=λj N=>hv.at N;obtain ⟨b,b1,b2,b3⟩:=wV F (v:=v) (E:=E) (r:=r) hc k λj N=>⟨Q j N,hr j N⟩
 have U : ∀p,p<X.length->eZ O (nth X p) (r+1)=c->f p=gI O b (nth X p):=λp Z I=>by rw [h1 p Z,vC F S Q Z k (JO _),b3 _ (S _ (aI Z)) I]
 have hz:=jY F (X:=l.map (nth X)) (a:=b) (by
  unfold List.Nodup;rw [Mh];refine A.imp_of_mem λ{p p'} Z hp' hne e=>hne ?_;rw [aj (Y p Z).1,aj (Y p' hp').1] at e;exact (NL hn).1 e) (λx z=>by
   obtain ⟨p,Z,rfl⟩:=List.mem_map.1 z;exact S _ (aI (Y p Z).1)) b2 (λx z=>by
   obtain ⟨p,Z,rfl⟩:=List.mem_map.1 z;rw [<- U p (Y p Z).1 (Y p Z).2];exact h0 p Z) (by rw [b1,J5];exact G)
 rw [U q H K];exact jM F (S _ (aI H)) hz
end
theorem sV {P M : Int} {am : OA} {K cm : Nat} {mod : LI} {m : Nat} {L : Ll} (A : aJ P M mod m L=0) (F : OA) (z : Nat) (v : LI) (s : Int) (G : OA) (r : Nat) (u : LI) (w : World)
  (Q : Ints w am K mod) (hi : Ints w F m v) (hu : Ints w G m u) (S : Vc (ah P M.toNat mod).El m v) (N : (ah P M.toNat mod).El s) (Z : Vc (ah P M.toNat mod).El m u) :
  Calls prog 227 #[.agg #[.int .i64 P,.int .i64 M,.slice am K cm],.slice F m z,.int .i64 s,.slice G m r] w λe w'=>∃a1 c1,e = .returned (.slice a1 m c1)/\Ints w' a1 m (bN (ah P M.toNat mod).ops v s u)/\OC w w':=by
 obtain ⟨k,hk,H,hq,hF,hA,_⟩:=fE (aN A).1;subst hk;obtain ⟨k',e2,I,U⟩:=dI (P:=P) (M:=(k : Int)) (mod:=mod) (by rw [bW];exact (aN A).1);obtain rfl : k=k':=by omega
 obtain ⟨_,_,j,_⟩:=aN A;rw [JQ] at S N Z ⊢;rw [<- H] at S N Z;have h:=l5 P k am K cm mod F m z v s G r u w ⟨I,U w am K Q⟩ N hi hu S.2 Z.2 (by omega);rw [<- j7 hA hF.cl v u s S.2 Z.2 N] at h;refine h.mono ?_;rintro e w' ⟨a1,c1,rfl,Y,hb⟩;have hl : (bN (ah P k mod).ops v s u).length=m:=by rw [cR _ _ _ _ (by rw [Z.1,S.1])];exact S.1
 rw [hl] at Y ⊢;exact ⟨a1,c1,rfl,(NZ Y).1,hb⟩
section
variable {P M : Int} {mod : LI} {m : Nat} {L : Ll}
theorem Db {y : LI} {W : Int} (h : et P M mod m L y W=0) : aJ P M mod m L=0/\Vc (ah P M.toNat mod).El m y/\ez (ah P M.toNat mod).q y=true/\0<=W/\W<=m:=by
 unfold et at h;by_cases Y : aJ P M mod m L=0
 ·rw [JT Y] at h;by_cases h1 : (y.length : Int) ≠ m
  ·rw [JT h1] at h;cases h
  ·rw [JR h1] at h;by_cases h2 : ez (ah P M.toNat mod).q y=false
   ·rw [JT h2] at h;cases h
   ·rw [JR h2] at h;have Z : ez (ah P M.toNat mod).q y=true:=by simpa using h2
    by_cases h3 : W<0\/(m : Int)<W
    ·rw [JT h3] at h;cases h
    ·exact ⟨Y,⟨by omega,rC Z⟩,Z,by omega,by omega⟩
 ·rw [JR Y] at h;exact absurd h Y
end
def gW (A : Ll) (b : LI) : Ll:=List.zipWith (λr x=>r ++ [x]) A b
def solTo (k : Nat) (E : Ll) (P : LI) : Nat->LI
 | 0=>List.replicate k 0
 | j+1=>(solTo k E P j).set (nth P j).toNat (nth (ai E j) k)
def vl (O : aM) (A : Ll) (b : LI) (k : Nat) : LI:=solTo k (aC O (gW A b) k).1 (aC O (gW A b) k).2 (aC O (gW A b) k).2.length
theorem tC (k : Nat) (E : Ll) (P : LI) : ∀j,(solTo k E P j).length=k
 | 0=>by simp [solTo]
 | j+1=>by rw [solTo,KG];exact tC k E P j
theorem iR {A : Ll} {b : LI} (h : b.length=A.length) : (gW A b).length=A.length:=by simp [gW,h]
theorem nQ {A : Ll} {b : LI} (h : b.length=A.length) {i : Nat} (hi : i<A.length) : ai (gW A b) i=ai A i ++ [nth b i]:=by rw [aE (show i<(gW A b).length by rw [iR h];exact hi),aE hi,aj (show i<b.length by omega)];simp [gW]
section
variable {O : aM} {El : Int->Prop} {m k : Nat}
theorem AS {A : Ll} {b : LI} (U : bs El k A) (h : b.length=A.length) (hb : ∀x ∈ b,El x) : bs El (k+1) (gW A b):=λr Y=>by
 obtain ⟨i,hi,rfl⟩:=List.mem_iff_getElem.1 Y;rw [iR h] at hi;rw [<- aE,nQ h hi];have h1:=U.row hi;refine ⟨by rw [J0,h1.1];rfl,λy Z=>?_⟩;rcases List.mem_append.1 Z with Z | Z
 ·exact h1.2 y Z
 ·rw [List.mem_singleton.1 Z];exact hb _ (aI (by omega))
theorem Eb {A : Ll} {b : LI} (Z : bs El k A) (h : b.length=A.length) : (gW A b).map (List.take k)=A:=by refine KW (by rw [J5,iR h]) λi h1 h2=>?_;rw [KF,<- aE (show i<(gW A b).length by rw [iR h];exact h2),nQ h h2,<- aE h2];have h3:=(Z.row h2).1;rw [List.take_append_of_le_length (by omega),JX (by omega)]
theorem FP {l : LI} {x : Int} {i : Nat} (h : i<l.length) : nth (l ++ [x]) i=nth l i:=by unfold nth;simp only [JS];rw [J8 h]
theorem yE {l : LI} {x : Int} : nth (l ++ [x]) l.length=x:=by unfold nth;simp [JS]
theorem DM (F : bI O El) {L : Ll} (G : bs El m L) {t : LI} (hT : Ak m t) (ht : mh O L t=t.length) : (aC O (t.map λq=>aX L q.toNat) L.length).2.length=t.length:=by
 obtain ⟨A,hA⟩ : ∃A,(t.map λq=>aX L q.toNat)=A:=⟨_,rfl⟩
 have hAl : A.length=t.length:=by rw [<- hA,J5]
 have hAi : ∀i,i<t.length->ai A i=aX L (nth t i).toNat:=λi hi=>by rw [aE (by omega),aj hi];simp [<- hA]
 have hAr : bs El L.length A:=λr hr=>by rw [<- hA] at hr;obtain ⟨q,_,rfl⟩:=List.mem_map.1 hr;exact cO G F.zero _
 rw [hA];obtain ⟨h1,h2,h3⟩:=fJ F hAr L.length (JO _);have Y:=gO F hAr L.length (JO _);have hEl : (aC O A L.length).1.length=A.length:=bL _ _ _;have hle:=h1.le;rw [hEl,hAl] at hle;refine M1 hle ?_;obtain ⟨E,hE⟩ : ∃E,(aC O A L.length).1=E:=⟨_,rfl⟩
 obtain ⟨p,hp⟩ : ∃p,(aC O A L.length).2.length=p:=⟨_,rfl⟩
 have hzero:=h1.zero;rw [hE] at Y hEl h3 hzero;rw [hp] at hzero ⊢;let c : Nat->LI:=λi=>if i<m then aX L i else if i - m<p/\i - m<E.length then ai E (i - m) else aX L 0
 have hc : ∀i,Vc El L.length (c i):=λi=>by
  show Vc El L.length (if i<m then aX L i else if i - m<p/\i - m<E.length then ai E (i - m) else aX L 0);split
  ·exact cO G F.zero _
  ·split
   ·rename_i h;exact Y.row h.2
   ·exact cO G F.zero _
 have Z : ∀i,i<m->c i=aX L i:=λi hi=>JT hi;have hr1:=Rk.map (cl':=ku O El L.length c) (λi=>i<m) id (λl x hl K=>by
  rw [Mq];constructor
  ·intro h φ N h0;show φ (c x)=0;rw [Z x K];exact h φ N λy S=>by rw [<- Z y (hl y S)];exact h0 y S
  ·intro h φ N h0;have h4 : φ (c x)=0:=h φ N λy S=>by rw [Z y (hl y S)];exact h0 y S
   rwa [Z x K] at h4) (ke F G t) λy S=>by
  obtain ⟨z,I,rfl⟩:=n8.1 S;obtain ⟨j,hj,rfl⟩:=List.mem_iff_getElem.1 I;have:=hT j hj;rw [aj hj] at this;omega
 rw [Mq,ht] at hr1;obtain ⟨n2,hr2⟩:=Rk.ex (ku O El L.length c) ((List.range p).map (m + ·));have H:=hr2.len;rw [J5,KU] at H;refine J4 (Rk.le (BG F hc) hr1 hr2 λx K=>?_) H;obtain ⟨z,I,rfl⟩:=n8.1 K;obtain ⟨i,hi,rfl⟩:=List.mem_iff_getElem.1 I;have hti:=hT i hi;rw [aj hi] at hti;intro ψ Q h0;rw [Z _ (by omega)];have U:=hAi i hi;rw [aj hi] at U;obtain ⟨e,he,K⟩:=h3 i (by omega);have hr : ∀q,q<L.length->El (ψ (fV L.length q)):=λq hq=>Q.el _ (gP F _ q);have I:=jx F Y he (r:=λq=>ψ (fV L.length q)) hr λj hj=>by
  by_cases hjp : j<p
  ·have h4:=h0 (m+j) (List.mem_map.2 ⟨j,List.mem_range.2 hjp,rfl⟩);have h5 : c (m+j)=ai E j:=by show (if m+j<m then aX L (m+j) else if m+j - m<p/\m+j - m<E.length then ai E (m+j - m) else aX L 0)=_;rw [JR (by omega),JT (by omega),show m+j - m=j by omega]
   rw [h5,iE F Q (Y.row hj)] at h4;exact h4
  ·refine lq F _ λq hq=>?_;show O.mul (ψ (fV L.length q)) (nth (ai E j) q)=0;rw [hzero j q (by omega) hj hq,F.cQ (hr q hq)]
 rw [iE F Q (cO G F.zero _)];rw [<- I];refine eD _ λq hq=>⟨rfl,?_⟩
 rw [<- U];exact K q hq
theorem wS (F : bI O El) {f : Nat->Int} {x : LI} {v : Int} {p : Nat} (Z : ∀q,q<k->El (f q)) (Q : ∀q,q<k->El (nth x q)) (I : El v) (K : p<k) (G : x.length=k) (h0 : nth x p=0) : ∀t,t<=k ->
  dotN O f (λq=>nth (x.set p v) q) t=if p<t then O.add (dotN O f (λq=>nth x q) t) (O.mul (f p) v) else dotN O f (λq=>nth x q) t
 | 0,_=>by rw [JR (by omega)];rfl
 | t+1,z=>by
  have A:=wS F Z Q I K G h0 t (by omega);have hd:=jT F (O:=O) (a:=f) (b:=λq=>nth x q) t (λq N=>Z q (by omega)) λq N=>Q q (by omega);have H : ∀q,q<k->nth (x.set p v) q=if q=p then v else nth x q:=λq N=>by
   unfold nth;simp only [JS,KT];by_cases e : p=q
   ·subst e;rw [JT rfl,JT (by omega),JT rfl];rfl
   ·rw [JR e,JR λU=>e U.symm]
  have S : dotN O f (λq=>nth (x.set p v) q) (t+1)=O.add (dotN O f (λq=>nth (x.set p v) q) t) (O.mul (f t) (nth (x.set p v) t)):=rfl;have Y : dotN O f (λq=>nth x q) (t+1)=O.add (dotN O f (λq=>nth x q) t) (O.mul (f t) (nth x t)):=rfl;rw [S,Y,A,H t (by omega)];by_cases e : t=p
  ·subst e;rw [JR (by omega),JT rfl,JT (by omega),h0,F.cQ (Z t (by omega)),F.add_zero _ hd]
  ·rw [JR e];by_cases U : p<t
   ·rw [JT U,JT (by omega)];have h1:=F.cl.mul _ _ (Z p K) I;have h2:=F.cl.mul _ _ (Z t (by omega)) (Q t (by omega));rw [F.add_assoc _ _ _ hd h1 h2,F.add_comm _ _ h1 h2,F.add_assoc _ _ _ hd h2 h1]
   ·rw [JR U,JR (by omega)]
theorem qP (k q : Nat) : nth (List.replicate k (0 : Int)) q=0:=by unfold nth;simp only [JS,Ke];split <;> rfl
theorem zr (F : bI O El) {E : Ll} {P : LI} (Z : bs El (k+1) E) (hle : P.length<=E.length) : ∀j,j<=P.length->∀q,q<k->El (nth (solTo k E P j) q)
 | 0,_,q,_=>by rw [solTo,qP];exact F.zero
 | j+1,S,q,U=>by
  have Y:=zr F Z hle j (by omega) q U;rw [solTo];unfold nth;simp only [JS,KT];split
  ·split
   ·exact N2 (Z.row (i:=j) (by omega)) (by omega)
   ·exact F.zero
  ·unfold nth at Y;simpa only [JS] using Y
theorem Bi {E : Ll} {P : LI} {q : Nat} : ∀j,(∀i,i<j->(nth P i).toNat ≠ q)->nth (solTo k E P j) q=0
 | 0,_=>by rw [solTo,qP]
 | j+1,h=>by have Z : nth (solTo k E P j) q=0:=Bi j λi hi=>h i (by omega);rw [solTo];unfold nth at Z ⊢;simp only [JS,KT] at Z ⊢;have h1:=h j (by omega);unfold nth at h1;simp only [JS] at h1;rw [JR h1];exact Z
theorem AT (F : bI O El) {E : Ll} {P : LI} {f : Nat->Int} (Z : ∀q,q<k->El (f q)) (U : bs El (k+1) E) (hle : P.length<=E.length) (Y : ∀j,j<P.length->0<=nth P j/\nth P j<k) (ha : ∀i j,i<j->j<P.length->nth P i<nth P j) :
  ∀j,j<=P.length->dotN O f (λq=>nth (solTo k E P j) q) k=dotN O (λi=>f (nth P i).toNat) (λi=>nth (ai E i) k) j
 | 0,_=>by refine lq F _ λq Q=>?_;show O.mul (f q) (nth (solTo k E P 0) q)=0;rw [solTo,qP,F.cQ (Z q Q)]
 | j+1,K=>by
  have N:=AT F Z U hle Y ha j (by omega);have S:=Y j (by omega);have h0 : nth (solTo k E P j) (nth P j).toNat=0:=Bi j λi hi=>by have:=ha i j hi (by omega);have:=Y i (by omega);omega
  have h:=wS F (f:=f) (x:=solTo k E P j) (v:=nth (ai E j) k) (p:=(nth P j).toNat) Z (zr F U hle j (by omega)) (N2 (U.row (i:=j) (by omega)) (by omega)) (by omega) (tC _ _ _ _) h0 k (JO _);rw [JT (by omega)] at h;show dotN O f (λq=>nth ((solTo k E P j).set (nth P j).toNat (nth (ai E j) k)) q) k=_;rw [h,N];rfl
theorem Aw (F : bI O El) {A : Ll} {b : LI} (r : bs El k A) (hb : b.length=A.length) (hbe : ∀x ∈ b,El x) (z : (aC O A k).2.length=A.length) :
  (∀q,q<k->El (nth (vl O A b k) q))/\(aC O (gW A b) k).2.length=A.length/\∀i,i<A.length->dotN O (λq=>nth (ai A i) q) (λq=>nth (vl O A b k) q) k=nth b i:=by
 have G:=AS r hb hbe;have Q:=(pr (O:=O) (k:=k) (J:=gW A b) k (JO _)).2;rw [Eb r hb] at Q;rw [Q] at z;obtain ⟨h1,_,h3⟩:=fJ F G k (by omega);have K:=ow F G k (by omega);have Z:=gO F G k (by omega);have S : (aC O (gW A b) k).1.length=A.length:=by rw [bL,iR hb]
 unfold vl;refine ⟨zr F Z (by omega) _ (JO _),z,λi hi=>?_⟩;obtain ⟨e,he,N⟩:=h3 i (by rw [iR hb];exact hi);rw [nQ hb hi] at N;have N : ∀x,x<k+1->nth (ai A i ++ [nth b i]) x=e (aX (aC O (gW A b) k).1 x):=λx h=>N x h;have Y:=r.row hi;have I : ∀q,q<k->nth (ai A i) q=e (aX (aC O (gW A b) k).1 q):=λq U=>by rw [<- N q (by omega),FP (by rw [Y.1];exact U)]
 have H : nth b i=e (aX (aC O (gW A b) k).1 k):=by rw [<- N k (by omega)];have h4:=Y.1;rw [<- h4,yE]
 rw [AT F (f:=λq=>nth (ai A i) q) (λq U=>N2 Y U) Z (by omega) (λj hj=>by have:=h1.lt j hj;omega) K.asc _ (JO _),H,iE F he (cO Z F.zero k),S,z];refine eD _ λj hj=>⟨?_,?_⟩
 ·have hpj:=h1.lt j (by omega);show nth (ai A i) (nth (aC O (gW A b) k).2 j).toNat=_;rw [I _ (by omega)];congr 1;refine fZ (by rw [dt,tX];exact S) λq U=>?_;rw [dt] at U;rw [da _ _ q U,tP (by omega)];exact h1.one j q (by omega) U
 ·rw [da _ _ j (by omega)]
def xA (O : aM) (L : Ll) (y t : LI) : LI:=vl O (t.map λq=>aX L q.toNat) (t.map λq=>O.neg (nth y q.toNat)) L.length
def qp (O : aM) (m : Nat) (L : Ll) (y t : LI) : LI:=bN O y 1 (cmbTo O m (xA O L y t) L L.length)
theorem Bx (F : bI O El) {L : Ll} (U : bs El m L) {y t : LI} (Y : Vc El m y) (K : Ak m t) : bs El L.length (t.map λq=>aX L q.toNat)/\∀x ∈ (t.map λq=>O.neg (nth y q.toNat)),El x:=by
 refine ⟨λr S=>?_,λx N=>?_⟩
 ·obtain ⟨q,_,rfl⟩:=List.mem_map.1 S;exact cO U F.zero _
 ·obtain ⟨q,Q,rfl⟩:=List.mem_map.1 N;obtain ⟨j,Z,rfl⟩:=List.mem_iff_getElem.1 Q;have:=K j Z;rw [aj Z] at this;exact F.cl.neg _ (Y.at (by omega))
theorem Ba (F : bI O El) {L : Ll} (S : bs El m L) {y t : LI} (Y : Vc El m y) (z : Ak m t) (j : mh O L t=t.length) :
  Jd O El m L y (qp O m L y t)/\(∀x ∈ t,nth (qp O m L y t) x.toNat=0)/\(∀q,q<L.length->El (nth (xA O L y t) q))/\(aC O (gW (t.map λq=>aX L q.toNat) (t.map λq=>O.neg (nth y q.toNat))) L.length).2.length=t.length:=by
 obtain ⟨hA,hb⟩:=Bx F S Y z;obtain ⟨G,K,H⟩:=Aw F hA (b:=t.map λq=>O.neg (nth y q.toNat)) (by simp) hb (by rw [DM F S z j,J5]);rw [J5] at K;have Z : ∀q,q<L.length->El (nth (xA O L y t) q):=G;obtain ⟨c1,c2⟩:=ju F S Z L.length (JO _);have r : (cmbTo O m (xA O L y t) L L.length).length=y.length:=by rw [c1.1,Y.1]
 have Q : ∀x,x<m->nth (qp O m L y t) x=O.add (nth y x) (nth (cmbTo O m (xA O L y t) L L.length) x):=λx U=>by
  unfold qp;rw [fb _ _ _ _ _ r (by rw [Y.1];exact U)];split
  ·rename_i h0;rw [h0,F.add_zero _ (Y.at U)]
  ·rw [F.one_mul _ (c1.at U)]
 refine ⟨⟨⟨by unfold qp;rw [cR _ _ _ _ r];exact Y.1,by unfold qp;exact lk F.cl Y.2 c1.2 F.one⟩,_,c2,λx U=>c1.at U,Q⟩,λx U=>?_,Z,K⟩;obtain ⟨i,hi,rfl⟩:=List.mem_iff_getElem.1 U;have A:=z i hi;rw [aj hi] at A;have I : i<(t.map λq=>aX L q.toNat).length:=by rw [J5];exact hi
 have h:=H i I;have e1 : nth (t.map λq=>O.neg (nth y q.toNat)) i=O.neg (nth y (t[i]).toNat):=by rw [aj (by rw [J5];exact hi)];simp
 have e : ai (t.map λq=>aX L q.toNat) i=aX L (t[i]).toNat:=by rw [aE I];simp
 rw [e1,e] at h;rw [Q _ (by omega),pY F S Z (by omega) _ (JO _)];have e3 : dotN O (λq=>nth (xA O L y t) q) (λq=>nth (ai L q) (t[i]).toNat) L.length=O.neg (nth y (t[i]).toNat):=by rw [<- h,fT F _ (λq N=>Z q N) λq N=>N2 (S.row N) (by omega)];exact eD _ λq N=>⟨(da L _ q N).symm,rfl⟩
 rw [e3,F.add_neg _ (Y.at (by omega))]
end
theorem Bh (s X : LI) : ∀k,gU (bP (frTo false s k) X)=kZ s X k
 | 0=>by simp [frTo,bP,gU,kZ]
 | k+1=>by
  have Y:=Bh s X k;rw [frTo,kZ];by_cases h : (k : Int) ∈ s
  ·rw [JR (by simpa using h),JR λZ=>Z.2 h,Y]
  ·rw [JT (by simpa using h)];unfold bP gU at Y ⊢;rw [Ko,Nr,Y];by_cases h0 : nth X k=0
   ·rw [JR λZ=>Z.1 h0];simp [h0]
   ·rw [JT ⟨h0,h⟩];simp [h0]
section
variable {O : aM} {El : Int->Prop} {q : Nat} {g : Int}
structure Fx (O : aM) (El : Int->Prop) (q : Nat) (g : Int) : Prop where
 el : El g
 rng : ∀x,El x ↔ 0<=x/\x<(q : Int)
 q2 : 2<=q
 all : ∀x,El x->x ≠ 0->∃k,k<q - 1/\x=eZ O g k
 inj : ∀i j,i<q - 1->j<q - 1->eZ O g i=eZ O g j->i=j
 last : eZ O g (q - 1)=1
 ne : ∀k,eZ O g k ≠ 0
theorem qc (F : bI O El) : ∀k,eZ O 1 k=1
 | 0=>rfl
 | k+1=>by show O.mul (eZ O 1 k) 1=1;rw [qc F k,F.one_mul 1 F.one]
theorem mK (F : bI O El) {x y : Int} (Z : El x) (Y : El y) : ∀k,eZ O (O.mul x y) k=O.mul (eZ O x k) (eZ O y k)
 | 0=>(F.one_mul 1 F.one).symm
 | k+1=>by have a:=eC F Z k;have b:=eC F Y k;show O.mul (eZ O (O.mul x y) k) (O.mul x y)=O.mul (O.mul (eZ O x k) x) (O.mul (eZ O y k) y);rw [mK F Z Y k,F.mul_assoc _ _ _ a b (F.cl.mul _ _ Z Y),F.mul_assoc _ _ _ a Z (F.cl.mul _ _ b Y),<- F.mul_assoc _ _ _ b Z Y,F.mul_comm _ _ b Z,F.mul_assoc _ _ _ Z b Y]
def rtTo (O : aM) (n : Nat) : Nat->LI
 | 0=>[]
 | k+1=>if eZ O ((k : Int)+1) n=1 then rtTo O n k ++ [(k : Int)+1] else rtTo O n k
theorem gJ {n : Nat} {x : Int} : ∀ {k : Nat},x ∈ rtTo O n k ↔ 1<=x/\x<=(k : Int)/\eZ O x n=1
 | 0=>by simp only [rtTo,List.not_mem_nil,false_iff];intro h;have h1:=h.1;have h2:=h.2.1;omega
 | k+1=>by
  rw [rtTo];by_cases h : eZ O ((k : Int)+1) n=1
  ·rw [JT h,KN,gJ,Kx];constructor
   ·rintro (⟨a,b,c⟩ | rfl)
    ·exact ⟨a,by omega,c⟩
    ·exact ⟨by omega,by omega,h⟩
   ·rintro ⟨a,b,c⟩;by_cases e : x=(k : Int)+1
    ·exact .inr e
    ·exact .inl ⟨a,by omega,c⟩
  ·rw [JR h,gJ];constructor
   ·rintro ⟨a,b,c⟩;exact ⟨a,by omega,c⟩
   ·rintro ⟨a,b,c⟩;refine ⟨a,?_,c⟩;have e : x ≠ (k : Int)+1:=λe=>h (by rw [<- e];exact c);omega
theorem kc (n : Nat) : ∀k,(rtTo O n k).Nodup
 | 0=>Nj
 | k+1=>by
  rw [rtTo];split
  ·unfold List.Nodup;rw [Mp];refine ⟨kc n k,List.pairwise_singleton _ _,λa ha b hb e=>?_⟩;rw [Kx] at hb;have:=(gJ.1 ha).2.1;omega
  ·exact kc n k
theorem AV (F : bI O El) (h : Fx O El q g) {n : Nat} (r : 1<=n) (hd : n ∣ q - 1) : (rtTo O n (q - 1)).length=n:=by
 obtain ⟨s,N⟩:=hd;have hq:=h.q2;have A : 1<=s:=Nat.one_le_iff_ne_zero.2 λe=>by rw [e,Nat.mul_zero] at N;omega
 have S : ∀x ∈ rtTo O n (q - 1),El x:=λx U=>by obtain ⟨a,b,_⟩:=gJ.1 U;exact (h.rng x).2 ⟨by omega,by omega⟩
 refine M1 (Lv λz=>?_) ?_
 ·have Z:=F.cl.neg _ F.one;have h1:=jY F (X:=rtTo O n (q - 1)) (a:=kt O (iZ (n+1) 1 n) (iZ (n+1) (O.neg 1) 0)) (kc n _) S (qd F (jk F F.one) (jk F Z)) (λx U=>by have Y:=S x U;rw [qg F Y (by simp [iZ]) (jk F F.one) (jk F Z),nB F Y F.one _ _ (by omega),nB F Y Z _ _ (by omega),(gJ.1 U).2.2];show O.add (O.mul 1 1) (O.mul (O.neg 1) 1)=0;rw [F.one_mul 1 F.one,F.gR Z,F.add_neg 1 F.one]) (by unfold kt;rw [KZ];simp [iZ];omega);have h2:=h1 (nth (kt O (iZ (n+1) 1 n) (iZ (n+1) (O.neg 1) 0)) n) (aI (by unfold kt;rw [KZ];simp [iZ]));rw [qo (by simp [iZ]) (by simp [iZ]),mw (by omega),mw (by omega),JT rfl,JR (by omega),F.add_zero 1 F.one] at h2;exact absurd h2 (by decide)
 ·have Q : ∀j,j<n->j * s<q - 1:=λj H=>by rw [N];exact Nat.mul_lt_mul_of_pos_right H (by omega)
  have K : ((List.range n).map λj=>eZ O g (j * s)).Nodup:=by unfold List.Nodup;rw [Mh];refine List.nodup_range.imp_of_mem λ{a b} ha hb hne e=>hne ?_;have h3:=h.inj _ _ (Q a (List.mem_range.1 ha)) (Q b (List.mem_range.1 hb)) e;exact Nat.eq_of_mul_eq_mul_right (by omega) h3
  have h2:=jm (T:=rtTo O n (q - 1)) K λx U=>by obtain ⟨j,H,rfl⟩:=List.mem_map.1 U;have I:=eC F h.el (j * s);have G:=(h.rng _).1 I;have hne:=h.ne (j * s);refine gJ.2 ⟨by omega,by omega,?_⟩;rw [<- nD F h.el,show j * s * n=(q - 1) * j by rw [N,Nat.mul_assoc,Lj s n,Lj],nD F h.el,h.last,qc F]
  simpa using h2
def fi (O : aM) (U : LI) (N : Nat) : Nat->LI
 | 0=>[]
 | k+1=>if (fi O U N k).length<N/\¬ ((k : Int)+1) ∈ fi O U N k then fi O U N k ++ dn (U.map (O.mul ((k : Int)+1))) else fi O U N k
structure Jo (O : aM) (El : Int->Prop) (U : LI) (s : Nat) (X : LI) : Prop where
 nd : X.Nodup
 el : ∀y ∈ X,El y/\y ≠ 0
 cl : ∀y ∈ X,∀u ∈ U,O.mul y u ∈ X
 blk : ∃c,X.length=s * c/\∀j t,j<c->t<s->eZ O (nth X (s * j+t)) s=eZ O (nth X (s * j)) s
theorem tZ {a b : LI} {i : Nat} (h : i<a.length) : nth (a ++ b) i=nth a i:=by unfold nth;rw [JS,JS,J8 h]
theorem th {a b : LI} {i : Nat} : nth (a ++ b) (a.length+i)=nth b i:=by unfold nth;rw [JS,JS,KO (by omega),Nat.add_sub_cancel_left]
theorem G7 (F : bI O El) {U X : LI} {s : Nat} (hs : 1<=s) (hUn : U.Nodup) (r : U.length=s) (hU : ∀u,u ∈ U ↔ El u/\u ≠ 0/\eZ O u s=1) (h : Jo O El U s X) {x : Int} (S : El x) (h0 : x ≠ 0) (hn : ¬ x ∈ X) :
  Jo O El U s (X ++ dn (U.map (O.mul x))):=by
 have Z : ∀u ∈ U,El u/\u ≠ 0/\eZ O u s=1:=λu hu=>(hU u).1 hu;have hinv : ∀u ∈ U,O.inv u ∈ U/\O.mul u (O.inv u)=1:=λu hu=>by
  obtain ⟨a,b,c⟩:=Z u hu;have hi:=F.cl.inv u a b;have hm:=F.mul_inv u a b;refine ⟨(hU _).2 ⟨hi,λe=>?_,?_⟩,hm⟩
  ·rw [e,F.cQ a] at hm;exact absurd hm (by decide)
  ·have h1:=mK F a hi s;rw [hm,qc F,c,F.one_mul _ (eC F hi s)] at h1;exact h1.symm
 have Y : ∀y,y ∈ dn (U.map (O.mul x)) ↔ ∃u ∈ U,O.mul x u=y:=λy=>by rw [(dw _).mem_iff,Md]
 have hmul : ∀ {u v : Int},El u->El v->u ≠ 0->v ≠ 0->O.mul u v ≠ 0:=λhu H h1 h2 e=>h2 (F.u9 hu H h1 e);refine ⟨?_,λy Q=>?_,λy Q u hu=>?_,?_⟩
 ·unfold List.Nodup;rw [Mp];refine ⟨h.nd,?_,λa ha b hb e=>?_⟩
  ·refine ((dw (U.map (O.mul x))).nodup_iff).2 ?_;unfold List.Nodup;rw [Mh];refine hUn.imp_of_mem λ{u v} hu H hne e=>hne ?_;obtain ⟨a1,a2,_⟩:=Z u hu;obtain ⟨N,_,_⟩:=Z v H;have e1 : O.mul (O.inv x) (O.mul x u)=O.mul (O.inv x) (O.mul x v):=by rw [e]
   have hi:=F.cl.inv x S h0;rw [<- F.mul_assoc _ _ _ hi S a1,<- F.mul_assoc _ _ _ hi S N,F.mul_comm _ _ hi S,F.mul_inv x S h0,F.one_mul _ a1,F.one_mul _ N] at e1;exact e1
  ·subst e;obtain ⟨u,hu,e⟩:=(Y a).1 hb;obtain ⟨I,hi2⟩:=hinv u hu;obtain ⟨u1,_,_⟩:=Z u hu;obtain ⟨i1,_,_⟩:=Z _ I;have h1:=h.cl a ha _ I;rw [<- e,F.mul_assoc _ _ _ S u1 i1,hi2,F.gR S] at h1;exact hn h1
 ·rcases List.mem_append.1 Q with Q | Q
  ·exact h.el y Q
  ·obtain ⟨u,hu,rfl⟩:=(Y y).1 Q;obtain ⟨a1,a2,_⟩:=Z u hu;exact ⟨F.cl.mul _ _ S a1,hmul S a1 h0 a2⟩
 ·rcases List.mem_append.1 Q with Q | Q
  ·exact List.mem_append.2 (.inl (h.cl y Q u hu))
  ·obtain ⟨v,H,rfl⟩:=(Y y).1 Q;obtain ⟨a1,a2,a3⟩:=Z u hu;obtain ⟨N,b2,b3⟩:=Z v H;refine List.mem_append.2 (.inr ((Y _).2 ⟨O.mul v u,(hU _).2 ⟨F.cl.mul _ _ N a1,hmul N a1 b2 a2,?_⟩,?_⟩))
   ·rw [mK F N a1,b3,a3,F.one_mul 1 F.one]
   ·exact (F.mul_assoc _ _ _ S N a1).symm
 ·obtain ⟨c,z,hb⟩:=h.blk;have hl : (dn (U.map (O.mul x))).length=s:=by rw [fy,J5,r]
  refine ⟨c+1,by rw [J0,hl,z,L4],λj t hj A=>?_⟩;have G : ∀t,t<s->eZ O (nth (dn (U.map (O.mul x))) t) s=eZ O x s:=λt A=>by obtain ⟨u,hu,e⟩:=(Y _).1 (aI (l:=dn (U.map (O.mul x))) (i:=t) (by rw [hl];exact A));obtain ⟨a1,_,a3⟩:=Z u hu;rw [<- e,mK F S a1,a3,F.gR (eC F S s)]
  rcases Kz j c with K | K
  ·have hle : s * j+s<=s * c:=by rw [<- L4];exact K4 s K
   rw [tZ (by rw [z];omega),tZ (by rw [z];omega)];exact hb j t K A
  ·obtain rfl : j=c:=by omega
   rw [<- z,th,G t A];have e0 : nth (X ++ dn (U.map (O.mul x))) X.length=nth (dn (U.map (O.mul x))) 0:=th (i:=0);rw [e0,G 0 (by omega)]
theorem DN (F : bI O El) (h : Fx O El q g) {s c : Nat} (hs : 1<=s) (hd : s ∣ q - 1) (hc : s * c<=q - 1) :
  Jo O El (rtTo O s (q - 1)) s (fi O (rtTo O s (q - 1)) (s * c) (q - 1))/\(fi O (rtTo O s (q - 1)) (s * c) (q - 1)).length=s * c:=by
 have hq:=h.q2;obtain ⟨U,Y⟩ : ∃U,rtTo O s (q - 1)=U:=⟨_,rfl⟩
 have Q : U.length=s:=by rw [<- Y];exact AV F h hs hd
 have hUn : U.Nodup:=by rw [<- Y];exact kc s _
 have hU : ∀u,u ∈ U ↔ El u/\u ≠ 0/\eZ O u s=1:=λu=>by
  rw [<- Y,gJ];constructor
  ·rintro ⟨a,b,e⟩;exact ⟨(h.rng u).2 ⟨by omega,by omega⟩,by omega,e⟩
  ·rintro ⟨a,b,e⟩;have:=(h.rng u).1 a;exact ⟨by omega,by omega,e⟩
 rw [Y];have H : (1 : Int) ∈ U:=(hU 1).2 ⟨F.one,by decide,qc F s⟩;have key : ∀k,k<=q - 1->Jo O El U s (fi O U (s * c) k)/\(fi O U (s * c) k).length<=s * c/\((∀j : Nat,j<k->((j : Int)+1) ∈ fi O U (s * c) k)\/(fi O U (s * c) k).length=s * c):=λk=>by
  induction k with
  | zero=>intro _;exact ⟨⟨Nj,by simp [fi],by simp [fi],0,by simp [fi],λj t N=>by omega⟩,by simp [fi],.inl λj N=>by omega⟩
  | succ k ih =>
   intro hk
   obtain ⟨S,i2,I⟩:=ih (by omega)
   rw [fi]
   by_cases hcnd : (fi O U (s * c) k).length<s * c/\¬ ((k : Int)+1) ∈ fi O U (s * c) k
   ·rw [JT hcnd]
    have K : El ((k : Int)+1):=(h.rng _).2 ⟨by omega,by omega⟩
    have r : ((k : Int)+1) ≠ 0:=by omega
    have G:=G7 F hs hUn Q hU S K r hcnd.2
    obtain ⟨c',z,_⟩:=S.blk
    have hl : (dn (U.map (O.mul ((k : Int)+1)))).length=s:=by rw [fy,J5,Q]
    have hcc : c'<c:=by refine Lv λhn=>?_;have h1:=K4 s (show c<=c' by omega);have h2:=hcnd.1;omega
    have hle : s * c'+s<=s * c:=by rw [<- L4];exact K4 s hcc
    refine ⟨G,by rw [J0,hl,z];exact hle,.inl λj N=>?_⟩
    rcases Kz j k with Z | Z
    ·rcases I with h3 | h3
     ·exact List.mem_append.2 (.inl (h3 j Z))
     ·exact absurd h3 (by have:=hcnd.1;omega)
    ·obtain rfl : j=k:=by omega
     refine List.mem_append.2 (.inr ((dw _).mem_iff.2 (List.mem_map.2 ⟨1,H,F.gR K⟩)))
   ·rw [JR hcnd]
    refine ⟨S,i2,?_⟩
    by_cases A : (fi O U (s * c) k).length<s * c
    ·have hin : ((k : Int)+1) ∈ fi O U (s * c) k:=Lv λhn=>hcnd ⟨A,hn⟩
     rcases I with h3 | h3
     ·refine .inl λj N=>?_
      rcases Kz j k with Z | Z
      ·exact h3 j Z
      ·obtain rfl : j=k:=by omega
       exact hin
     ·exact .inr h3
    ·exact .inr (by omega)
 obtain ⟨S,i2,I⟩:=key (q - 1) (JO _);refine ⟨S,?_⟩;rcases I with h3 | h3
 ·have hnd : ((List.range (q - 1)).map λj : Nat=>(j : Int)+1).Nodup:=by unfold List.Nodup;rw [Mh];exact List.Pairwise.imp (λhne e=>hne (by omega)) List.nodup_range
  have h4:=jm (T:=fi O U (s * c) (q - 1)) hnd λx hx=>by obtain ⟨j,N,rfl⟩:=List.mem_map.1 hx;exact h3 j (List.mem_range.1 N)
  rw [J5,KU] at h4;omega
 ·exact h3
def fW (r j : Nat) : Nat:=j+j / r
theorem Gz {r i j : Nat} (h : i<j) : fW r i<fW r j:=by unfold fW;have:=Nk (c:=r) (Nat.le_of_lt h);omega
theorem Is {r : Nat} (Z : 1<=r) (j : Nat) : fW r j=(r+1) * (j / r)+j % r:=by unfold fW;have h:=LU j r;rw [MX];omega
theorem F5 {r : Nat} (Z : 1<=r) (j : Nat) : fW r j % (r+1)<r:=by have h1:=LM j (show r > 0 by omega);rw [Is Z,Nat.mul_add_mod,MR (by omega)];exact h1
end
section
variable {O : aM} {El : Int->Prop} {m : Nat} {L V : Ll}
end
section
variable {P M : Int} {mod : LI} {m : Nat} {L : Ll}
def cJ (P M : Int) (mod : LI) (m : Nat) (L : Ll) (i : Int) : Ll:=aQ (ah P M.toNat mod) (bH (ah P M.toNat mod).ops m (L ++ [bM m i])) m
end
section
variable {O : aM} {El : Int->Prop} {m : Nat} {L : Ll}
theorem FG (F : bI O El) {B : Ll} (Z : bs El m B) {f : Nat->Int} (Y : ∀x,x<m->El (f x)) : RS O El m (gw O m (bH O m B)) f ↔ ∀r ∈ B,dotN O f (λp=>nth r p) m=0:=by
 have U:=bQ F Z;obtain ⟨s1,s2⟩:=dG F Z;rw [pT F U Y];constructor
 ·intro h r Q;obtain ⟨i,hi,rfl⟩:=ga Q;exact l7 F U Y h (s2 i hi)
 ·intro h i hi;exact l7 F Z Y (λj S=>h _ (fp S)) (s1 i hi)
theorem ta (F : bI O El) (Z : bs El m L) (i : Int) : bs El m (L ++ [bM m i]):=λr Y=>by
 rcases List.mem_append.1 Y with h | h
 ·exact Z r h
 ·rw [List.mem_singleton.1 h];exact kD F m i
theorem G9 (F : bI O El) (U : bs El m L) {i : Nat} (hi : i<m) {f : Nat->Int} (Z : ∀x,x<m->El (f x)) : RS O El m (gw O m (bH O m (L ++ [bM m (i : Int)]))) f ↔ RS O El m (gw O m L) f/\f i=0:=by
 rw [FG F (ta F U i) Z,pT F U Z];constructor
 ·intro h;refine ⟨λj Y=>h _ (List.mem_append.2 (.inl (fp Y))),?_⟩;have h1:=h (bM m (i : Int)) (List.mem_append.2 (.inr (List.mem_singleton.2 rfl)));rw [mP F Z (z:=(i : Int)) (by simpa using hi)] at h1;simpa using h1
 ·rintro ⟨h1,h2⟩ r S;rcases List.mem_append.1 S with h | h
  ·obtain ⟨j,Y,rfl⟩:=ga h;exact h1 j Y
  ·rw [List.mem_singleton.1 h,mP F Z (z:=(i : Int)) (by simpa using hi)];simpa using h2
theorem Eg (F : bI O El) {A B : Ll} (S : bs El m A) (Y : bs El m B) (h : ∀f : Nat->Int,(∀x,x<m->El (f x))->(RS O El m (gw O m A) f ↔ RS O El m (gw O m B) f)) : gw O m A=gw O m B:=by
 have a2:=fI F (bQ F S) (bS F S).1 (bY F S);have Z:=fI F (bQ F Y) (bS F Y).1 (bY F Y);have Q : bs El m (gw O m A):=bQ F a2;have N : bs El m (gw O m B):=bQ F Z;refine xD F Q N (bS F a2).1 (bS F Z).1 (bS F a2).2 (bS F Z).2 (bY F a2) (bY F Z) (λi hi=>?_) (λi hi=>?_)
 ·exact (h _ λx U=>N2 (Q.row hi) U).1 (N8 F hi)
 ·exact (h _ λx U=>N2 (N.row hi) U).2 (N8 F hi)
theorem DY (F : bI O El) (Y : bs El m L) {i : Nat} (hi : i<m) : A1 O m (gw O m L) [(i : Int)]=gw O m (bH O m (L ++ [bM m (i : Int)])):=by
 have S:=lz F Y;have Q : JH m [(i : Int)]:=λz Z=>by rw [List.mem_singleton.1 Z];omega
 refine Eg F (λr N=>?_) (bQ F (ta F Y (i : Int))) λf U=>?_
 ·rcases List.mem_append.1 N with h | h
  ·exact lz F S r h
  ·obtain ⟨z,_,rfl⟩:=List.mem_map.1 h;exact kD F m z
 ·refine (En F S Q U).trans (Iff.trans ?_ (G9 F Y hi U).symm);constructor
  ·rintro ⟨h1,h2⟩;exact ⟨h1,by have:=h2 (i : Int) (by simp);simpa using this⟩
  ·rintro ⟨h1,h2⟩;exact ⟨h1,λz Z=>by rw [List.mem_singleton.1 Z];simpa using h2⟩
end
section
variable {P M : Int} {mod : LI} {m : Nat} {L : Ll}
theorem Ge (i : Int) : cJ P M mod m L i=gw (ah P M.toNat mod).ops m (bH (ah P M.toNat mod).ops m (L ++ [bM m i])):=by unfold cJ aQ gw bh;rfl
end
theorem Gj : (prog.info? 103).map (λi=>(i.zero,i.size,i.bytes))=some (some (.agg #[.slice none 0 0]),1,24):=by kernel_rfl
theorem vm {P : Program} {w : World} {ops : Array Oper} {rest : List Oper} {o : Oper} {ac : Act} {Q : Exit->Act->World->Prop}
  (hg : o.guard=none) (s x : Operand) (t e : TypeId) (K : o.op = .call { callee:=.builtin .append,args:=#[s,x],argTypes:=#[t,t] }) (z : Value) (bytes : Nat)
  (h1 : P.underlying t=some (.slice e)) (h2 : (P.info? e).map (λi=>(i.zero,i.size,i.bytes))=some (some z,1,bytes)) (hz : z.cells.size=1)
  (B : Nat) (a : OA) (n c : Nat) (xs : List Value) (hs : ac.eval s = .slice a n c) (U : w.ownsRow B e 1 (.slice a n c) n xs)
  (ad : Addr) (cc : Nat) (u : Value) (hx : ac.eval x = .slice (some ad) 1 cc) (hu : w.cell? ad=some u) (I : u.oneCell'=true)
  (b2 : (n+1) * bytes<=140737488355328) (b3 : n+1<=maxLen) (hB : B<=w.heap.size)
  (hK : ∀a' Y w',w'.ownsRow B e 1 (.slice a' (n+1) Y) (n+1) (xs ++ [u])->w.grownBy w' (Value.slice a n c).ownBlock->(∀b,b<w.heap.size->eX a b->eX a' b)->wpList P ops Q rest (ac.put o.dst (.slice a' (n+1) Y)) w') :
  wpList P ops Q (o :: rest) ac w:=by
 obtain ⟨i,hi,A,H,F⟩:=info_parts h2;refine wpList_append_own_at w hg s x t K B e i z 1 bytes h1 hi A H F hz (by decide) _ n xs hs U ad 1 cc [u] hx rfl ?_ ?_ b3 b2 hB λv' w' Z r _ G=>?_
 ·intro j v N;match j,N with
  | 0,N=>simp at N;subst N;simpa [Addr.add] using hu
 ·intro v hv;simp at hv;subst hv;exact I
 ·obtain ⟨a',Y,rfl,_⟩:=Od Z;refine hK a' Y w' Z r λb hb S=>?_;have h:=S.own n c;rcases G with h3 | h3
  ·exact eX.oL (n:=n+1) (c:=Y) (by rw [h3];exact h)
  ·exact eX.oL (n:=n+1) (c:=Y) (by rw [h3];intro h4;cases h4;omega)
structure TX where
 a : OA
 c : Nat
 T : Ll
def H6 (y : TX) : Value:=.slice y.a y.T.length y.c
theorem FJ {w w' : World} {B : Nat} {e : TypeId} {a : OA} {n c : Nat} {xs : List Value} (h : w.ownsRow B e 1 (.slice a n c) n xs) (hb : a ≠ none->w'.heap[ablk a]? = w.heap[ablk a]?) : w'.ownsRow B e 1 (.slice a n c) n xs:=by
 refine ⟨h.1,?_⟩;rcases h.2 with h2 | ⟨g,cap,cur,Z,U,Y,r⟩
 ·exact .inl h2
 ·cases Z
  exact .inr ⟨g,_,cur,rfl,U,by rw [show w'.heap[g]? = w.heap[g]? from hb (by simp)];exact Y,r⟩
theorem aD.JA {w w' : World} {A Z : Nat->Prop} (h : aD w w' A A) (Y : ∀b,Z b->A b\/w.heap.size<=b) : aD w w' A Z:=⟨h.os,h.tape,h.output,h.size,h.block,Y⟩
theorem gk.zZ {A U : Nat->Prop} {w w' : World} {a : OA} {n : Nat} {L : Ll} (h : gk A w a n L) (Z : aD w w' A U) : gk U w' a n L :=
 ⟨h.len,h.pl,h.max,λY=>Z.not (h.je.lt Y) (h.no Y),λi hi=>by obtain ⟨b,m,c,h1,h2,h3⟩:=h.cell i hi;exact ⟨b,m,c,Z.cell h1 (h.no (by omega)),h2.dQ Z h3,λhm=>Z.not (h2.lt hm) (h3 hm)⟩⟩
theorem aO.Ji {w : World} {g : Nat} {x y : Value} (h : aO w g [x,y]) (u : Value) : aO (w.setCell ⟨g,1,none⟩ u) g [x,u]:=by
 have U:=h.cell 0 rfl;have Y:=h.cell 1 rfl;refine ⟨by have:=h.1;simpa using this,λi v Z=>?_,λi=>by rw [KK];exact h.2.2 i⟩;match i,Z with
 | 0,Z=>simp at Z;subst Z;rw [J7 _ _ _ _ (by simp)];exact U
 | 1,Z=>simp at Z;subst Z;exact Kf w _ _ Y
 | i+2,Z=>simp at Z
def TA (B Bo : Nat) (at' : OA) : Nat->Prop:=λb=>b<B\/b=Bo\/(at' ≠ none/\b=ablk at')
structure kr (B : Nat) (V : World) (Bo : Nat) (v0 : Value) (at' : OA) (ct : Nat) (tt : List TX) : Prop where
 bo : B<=Bo
 box : aO V Bo [v0,.slice at' tt.length ct]
 tow : V.ownsRow B 103 1 (.slice at' tt.length ct) tt.length (tt.map H6)
 at1 : eX at' Bo
 tx : ∀y ∈ tt,gk (TA B Bo at') V y.a y.T.length y.T/\y.T.length<=y.c
section
variable {B : Nat} {V V' w5 : World} {Bo : Nat} {v0 : Value} {at' : OA} {ct : Nat} {tt : List TX} {o : Obj}
theorem kr.af (h : kr B V Bo v0 at' ct tt) (hb : OC V V') : kr B V' Bo v0 at' ct tt :=
 ⟨h.bo,h.box.af hb,bp h.tow hb,h.at1,λy Z=>⟨(h.tx y Z).1.af hb,(h.tx y Z).2⟩⟩
theorem kr.start (Y : B<=Bo) (h : aO V Bo [v0,.slice none 0 0]) : kr B V Bo v0 none 0 [] :=
 ⟨Y,h,cF,.inl rfl,λy Z=>by simp at Z⟩
theorem kr.lt (h : kr B V Bo v0 at' ct tt) : ∀b,TA B Bo at' b->b<V.heap.size:=λb hb=>by
 have h0:=h.bo;have Z:=h.box.1;rcases hb with h1 | rfl | ⟨h1,rfl⟩
 ·omega
 ·exact h.box.1
 ·exact (ba h.tow h1).2
theorem kr.Jg (h : kr B V Bo v0 at' ct tt) {x : TX} (K : gk (TA B Bo at') V x.a x.T.length x.T) (F : x.T.length<=x.c) {a5 : OA} {S : Nat}
  (Y : w5.ownsRow B 103 1 (.slice a5 (tt.length+1) S) (tt.length+1) (tt.map H6 ++ [H6 x])) (G : (V.alloc o).grownBy w5 (Value.slice at' tt.length ct).ownBlock) (H : ∀b,b<(V.alloc o).heap.size->eX at' b->eX a5 b) :
  kr B (w5.setCell ⟨Bo,1,none⟩ (.slice a5 (tt.length+1) S)) Bo v0 a5 S (tt ++ [x])/\∀w0,Below B w0 V->Below B w0 (w5.setCell ⟨Bo,1,none⟩ (.slice a5 (tt.length+1) S)):=by
 have hne : a5 ≠ none:=λe=>by
  obtain ⟨y,z,hv,hp⟩:=Od Y;cases hv
  have:=hp (by omega);rw [e] at this;cases this
 have hsz : (V.alloc o).heap.size=V.heap.size+1:=by simp
 have r : aD V (w5.setCell ⟨Bo,1,none⟩ (.slice a5 (tt.length+1) S)) (TA B Bo at') (TA B Bo at') :=
  ((N3 (an V o) _).trans (Ol G λh1=>.inr (.inr ⟨h1,rfl⟩))).trans (aD.qI (I:=TA B Bo at') (p:=⟨Bo,1,none⟩) _ (.inr (.inl rfl)) _)
 have N : ∀b,TA B Bo a5 b->TA B Bo at' b\/V.heap.size<=b:=λb hb=>by
  rcases hb with hb | hb | ⟨_,hb⟩
  ·exact .inl (.inl hb)
  ·exact .inl (.inr (.inl hb))
  ·rcases Kz b V.heap.size with h1 | h1
   ·by_cases h2 : eX at' b
    ·rcases H b (by omega) h2 with h3 | h3
     ·exact absurd h3 hne
     ·exact absurd hb.symm h3
    ·exact .inl (.inr (.inr ⟨λe=>h2 (.inl e),Kg λe=>h2 (.inr λe2=>e e2.symm)⟩))
   ·exact .inr h1
 have hM:=r.JA N;have A : aO w5 Bo [v0,.slice at' tt.length ct]:=by have K:=h.box.alloc o;have hBo:=h.box.1;have Q : w5.heap[Bo]? = (V.alloc o).heap[Bo]?:=G.block Bo (by omega) λe=>h.at1.own _ _ e.symm;exact ⟨Kl K.1 G.size,λj v hv=>(Kj (w:=V.alloc o) (a:=⟨Bo,j,none⟩) Q).trans (K.2.1 j v hv),λj=>(Ks (w:=V.alloc o) (a:=⟨Bo,j,none⟩) Q).trans (K.2.2 j)⟩
 have Z : eX a5 Bo:=H Bo (by have:=h.box.1;omega) h.at1;refine ⟨⟨h.bo,?_,?_,Z,λy U=>?_⟩,λw0 hw=>(N0 (hw.alloc (by have:=h.bo;have:=h.box.1;omega) o) (h.tow.alloc o) G (JO _) (by have:=h.bo;have:=h.box.1;omega)).setCell (p:=⟨Bo,1,none⟩) h.bo _⟩
 ·rw [J0];exact A.Ji _
 ·rw [J0,Ko];exact dP Y _ (Z.elim (λe=>.inl e) λe=>.inr e)
 ·rcases List.mem_append.1 U with U | U
  ·exact ⟨(h.tx y U).1.zZ hM,(h.tx y U).2⟩
  ·rw [List.mem_singleton.1 U];exact ⟨K.zZ hM,F⟩
theorem kr.set (h : kr B V Bo v0 at' ct tt) {p : Addr} (N : p.block<B) (v : Value) : kr B (V.setCell p v) Bo v0 at' ct tt:=by have S : aD V (V.setCell p v) (TA B Bo at') (TA B Bo at'):=aD.qI (I:=TA B Bo at') (p:=p) _ (.inl N) _;have hb:=h.bo;have Z : ∀b,B<=b->(V.setCell p v).heap[b]? = V.heap[b]?:=λb h1=>J6 _ _ _ _ (by omega);refine ⟨h.bo,?_,FJ h.tow λh1=>Z _ (ba h.tow h1).1,h.at1,λy U=>⟨(h.tx y U).1.zZ S,(h.tx y U).2⟩⟩;have Y:=Z Bo h.bo;exact ⟨by have:=h.box.1;simpa using this,λj v Q=>(Kj (w:=V) (a:=⟨Bo,j,none⟩) Y).trans (h.box.2.1 j v Q),λj=>(Ks (w:=V) (a:=⟨Bo,j,none⟩) Y).trans (h.box.2.2 j)⟩
end
def nV (T : List Ll) (i : Nat) : Ll:=T.getD i []
theorem nq {l : List Ll} {i : Nat} (h : i<l.length) : nV l i=l[i]:=by simp [nV,h]
structure gq (w : World) (a : OA) (n : Nat) (TT : List Ll) : Prop where
 len : TT.length=n
 pl : Pl a n
 max : n<=maxLen
 cell : ∀i,i<n->∃b m c,w.cell? ⟨ablk a,aL a+i,none⟩=some (.slice b m c)/\bu w b m (nV TT i)/\m<=c
theorem gq.af {w w' : World} {a : OA} {n : Nat} {TT : List Ll} (h : gq w a n TT) (hb : OC w w') : gq w' a n TT :=
 ⟨h.len,h.pl,h.max,λi hi=>by obtain ⟨b,m,c,h1,h2,h3⟩:=h.cell i hi;exact ⟨b,m,c,aB hb h1,h2.af hb,h3⟩⟩
theorem kr.trees {B : Nat} {V : World} {Bo : Nat} {v0 : Value} {at' : OA} {ct : Nat} {tt : List TX} (h : kr B V Bo v0 at' ct tt) : gq V at' tt.length (tt.map TX.T):=by
 refine ⟨by simp,?_,?_,λi hi=>?_⟩
 ·obtain ⟨a',U,Z,Y⟩:=Od h.tow;cases Z;exact Y
 ·rcases Lq tt.length with h0 | h0
  ·rw [h0];exact JU _
  ·exact (bK h.tow 0 h0).2.2.2.2
 ·have h1:=(bK h.tow i hi).1;have e1 : (tt.map H6)[i]? = some (H6 tt[i]):=by rw [Ly,Km hi];rfl
  refine ⟨tt[i].a,tt[i].T.length,tt[i].c,by rw [h1,e1];rfl,?_⟩;rw [nq (by rw [J5];exact hi),KF];exact ⟨(h.tx _ (Kp hi)).1.je,(h.tx _ (Kp hi)).2⟩
theorem sx {w w' : World} {Y : OA} {m c : Nat} {ad : Addr} (U : w.grownBy w' (Value.slice Y m c).ownBlock) (Z : ad.block<w.heap.size) (h : w.frozen? ad=false) (hne : eX Y ad.block) : w'.frozen? ad=false :=
 (Ks (w:=w) (a:=ad) (U.block _ Z λe=>hne.own m c e.symm)).trans h
def A0 (T : Ll) (S : Int) (V : World) (e : Ending) (w' : World) : Prop:=∃U Z Y,e = .returned (.tuple #[.agg #[.slice U Z Y],.int .i64 S])/\b8 V.heap.size w' U Z T/\Z<=Y/\OC V w'
theorem oP.Jb {V : Int × Ll} {w w' : World} {e : Ending} (h : oP V w e w') : A0 (if V.1=0 then V.2 else []) V.1 w e w':=by
 obtain ⟨hb,⟨h1,rfl⟩ | ⟨h1,ar,cr,R,rfl,Z⟩⟩:=h
 ·rw [JR h1];exact ⟨none,0,0,rfl,Ot (aT.D9 w' w.heap.size),JO _,hb⟩
 ·rw [JT h1];exact ⟨ar,_,cr,by rw [h1],Ot Z,lh Z.own,hb⟩
theorem pB {P M : Int} {mod : LI} (h : bq P M mod=true) : ∃g,Fx (ah P M.toNat mod).ops (ah P M.toNat mod).El (ah P M.toNat mod).q g:=by
 have F:=dH h;obtain ⟨m,y,rfl,I,S,A,K,G⟩:=jU h;rw [JQ] at F ⊢;have Y : ∀x,(ah P m mod).El x ↔ eH P m x:=λx=>by simp only [cX.El,ah,eH];rw [K]
 have Z : ∀k,eZ (ah P m mod).ops y k=pw P m mod y k:=λk=>by
  induction k with
  | zero=>rfl
  | succ k N =>
   show (ah P m mod).ops.mul (eZ (ah P m mod).ops y k) y=dh P m mod (pw P m mod y k) y
   rw [N]
   exact G.pQ (o0 I y k) G.yel
 refine ⟨y,(Y y).2 G.yel,λx=>Iff.rfl,G.q2,λx H h0=>?_,λi j hi U e=>?_,?_,λk=>?_⟩
 ·obtain ⟨k,Q,e,_⟩:=G.log ((Y x).1 H) h0;exact ⟨k,Q,by rw [Z];exact e⟩
 ·rw [Z,Z,<- G.val i hi,<- G.val j U] at e;exact G.inj hi U e
 ·rw [Z];exact G.last
 ·rw [Z];exact G.Ia k
section
variable {O : aM} {El : Int->Prop} {q : Nat} {g : Int}
def yF (O : aM) (q r c : Nat) : LI:=fi O (rtTo O (r+1) (q - 1)) ((r+1) * c) (q - 1)
def IC (O : aM) (q r c k : Nat) : Ll:=gF O (yF O q r c) (fW r) k
theorem DR {r c k j : Nat} (U : 1<=r) (S : k<=c * r) (Y : j<k) : fW r j<=(k - 1)+(k - 1) / r/\(k - 1)+(k - 1) / r<(r+1) * c:=by
 refine ⟨?_,?_⟩
 ·unfold fW;have:=Nk (c:=r) (show j<=k - 1 by omega);omega
 ·have h1 : (k - 1) / r<c:=Nat.div_lt_of_lt_mul (by rw [Lj];omega);have h2:=LU (k - 1) r;have h3:=LM (k - 1) (show r > 0 by omega);have Z : r * ((k - 1) / r)+r<=r * c:=by rw [<- L4];exact K4 r h1
  rw [MX];omega
theorem II (F : bI O El) (h : Fx O El q g) {r c k : Nat} (hr : 1<=r) (hd : (r+1) ∣ q - 1) (hc : (r+1) * c<=q - 1) (hk1 : 1<=k) (hk : k<=c * r) :
  (yF O q r c).length=(r+1) * c/\(∀x ∈ yF O q r c,El x)/\(bH O ((r+1) * c) (IC O q r c k)).length=k /\
  (∀w,Vc El ((r+1) * c) w->RS O El ((r+1) * c) (bH O ((r+1) * c) (IC O q r c k)) (λi=>nth w i)->gU w ≠ 0->(r+1) * c<=gU w+((k - 1)+(k - 1) / r)) /\
  ∀j,j<c->∀l : LN,(∀p ∈ l,(r+1) * j<=p/\p<(r+1) * j+(r+1))->l.Nodup->r<=l.length->∀p,(r+1) * j<=p->p<(r+1) * j+(r+1) ->
   ku O El (bH O ((r+1) * c) (IC O q r c k)).length (aX (bH O ((r+1) * c) (IC O q r c k))) l p:=by
 obtain ⟨hI,hl⟩:=DN F h (s:=r+1) (c:=c) (by omega) hd hc;have Z : (yF O q r c).length=(r+1) * c:=hl;have S : ∀x ∈ yF O q r c,El x:=λx hx=>(hI.el x hx).1;have hE : ∀i j,i<j->j<k->fW r i<fW r j:=λi j z _=>Gz z;have hD : ∀j,j<k->fW r j<=(k - 1)+(k - 1) / r:=λj K=>(DR hr hk K).1;have hDX : (k - 1)+(k - 1) / r<(yF O q r c).length:=by rw [Z];exact (DR hr hk (show 0<k by omega)).2
 unfold IC;rw [<- Z];refine ⟨rfl,S,Ev F hI.nd S hE hD hDX,λw hw A h0=>zP F hI.nd S hE hD hw A h0,λj K l Y hln G p e hp2=>?_⟩;have hlt : (r+1) * j+(r+1)<=(yF O q r c).length:=by rw [Z,<- L4];exact K4 (r+1) K
 obtain ⟨N,I,Q⟩:=hI.blk;have hcc : N=c:=by
  have h1 : (r+1) * N=(r+1) * c:=by rw [<- I];exact Z
  exact Nat.eq_of_mul_eq_mul_left (by omega) h1
 subst hcc;have U : ∀p,(r+1) * j<=p->p<(r+1) * j+(r+1)->eZ O (nth (yF O q r N) p) (r+1)=eZ O (nth (yF O q r N) ((r+1) * j)) (r+1):=λp h1 h2=>by have h3:=Q j (p - (r+1) * j) K (by omega);rw [show (r+1) * j+(p - (r+1) * j)=p by omega] at h3;exact h3
 exact Ca F hI.nd S (r:=r) (λj _=>F5 hr j) (c:=eZ O (nth (yF O q r N) ((r+1) * j)) (r+1)) (eC F (S _ (aI (by omega))) _)
  (λp H=>⟨by have:=(Y p H).2;omega,U p (Y p H).1 (Y p H).2⟩) hln G (by omega) (U p e hp2)
end
def Ip (G : cX) (x : Int) (n : Nat) : Int:=nth G.ex ((nth G.lg x.toNat * ((n : Int) % ((G.q : Int) - 1))) % ((G.q : Int) - 1)).toNat
theorem GQ {P M : Int} {mod : LI} (h : bq P M mod=true) {x : Int} (U : (ah P M.toNat mod).El x) (h0 : x ≠ 0) (n : Nat) : Ip (ah P M.toNat mod) x n=eZ (ah P M.toNat mod).ops x n:=by
 have F:=dH h;obtain ⟨m,y,rfl,H,S,r,I,G⟩:=jU h;rw [JQ] at F U ⊢;have Y : ∀x,(ah P m mod).El x ↔ eH P m x:=λx=>by simp only [cX.El,ah,eH];rw [I]
 have Z : ∀k,eZ (ah P m mod).ops y k=pw P m mod y k:=λk=>by
  induction k with
  | zero=>rfl
  | succ k K =>
   show (ah P m mod).ops.mul (eZ (ah P m mod).ops y k) y=dh P m mod (pw P m mod y k) y
   rw [K]
   exact G.pQ (o0 H y k) G.yel
 obtain ⟨a,ha,rfl,_⟩:=G.log ((Y x).1 U) h0;have z:=G.q2;have N : nth (ah P m mod).lg (pw P m mod y a).toNat=a:=G.Gt ha;have e1 : ((a : Int) * ((n : Int) % ((aH P m).toNat - 1))) % (((aH P m).toNat : Int) - 1)=(((a * (n % ((aH P m).toNat - 1))) % ((aH P m).toNat - 1) : Nat) : Int):=by
  have A : ((aH P m).toNat : Int) - 1=(((aH P m).toNat - 1 : Nat) : Int):=by omega
  rw [A,Lp,M4,Lp]
 have Q : (ah P m mod).q=(aH P m).toNat:=rfl;unfold Ip;rw [N,Q,e1,JQ];show nth (fG P m mod (aH P m).toNat) _=_;rw [G.val _ (LM _ (by omega)),G.red,<- Z,<- Z,<- nD F ((Y y).2 G.yel),Z,Z,<- G.red (a * (n % _)),<- G.red (a * n)];congr 1;rw [Nat.mul_mod,Nat.mod_mod,<- Nat.mul_mod]
section
variable {O : aM} {El : Int->Prop} {q : Nat} {g : Int}
theorem BE (U : LI) (N : Nat) {k : Nat} (h : N<=(fi O U N k).length) : ∀j,fi O U N (k+j)=fi O U N k
 | 0=>rfl
 | j+1=>by show fi O U N ((k+j)+1)=_;rw [fi,BE U N h j,JR (by omega)]
def iy (r x : Nat) : Nat:=x - x / (r+1)
theorem Df {r x : Nat} (h : x % (r+1)=r) : iy r (x+1)=iy r x:=by
 unfold iy;have h1:=LU x (r+1);have h2 : (x+1) / (r+1)=x / (r+1)+1:=by
  have e : x+1=0+(x / (r+1)+1) * (r+1):=by rw [MX,Lj];omega
  rw [e,Mk _ _ (by omega)];simp
 rw [h2];omega
theorem Cs {r x : Nat} (Y : 1<=r) (h : x % (r+1) ≠ r) : iy r (x+1)=iy r x+1/\x=fW r (iy r x):=by
 have h1:=LU x (r+1);have h3:=LM x (show r+1 > 0 by omega);have hle : x / (r+1)<=x:=NS _ _;have h2 : (x+1) / (r+1)=x / (r+1):=by
  have e : x+1=(x % (r+1)+1)+(x / (r+1)) * (r+1):=by rw [Lj];omega
  rw [e,Mk _ _ (by omega),NM (by omega)];simp
 have Z : iy r x=x % (r+1)+x / (r+1) * r:=by
  unfold iy;have e : (r+1) * (x / (r+1))=x / (r+1) * r+x / (r+1):=by rw [MX,Lj]
  omega
 refine ⟨by unfold iy;rw [h2];omega,?_⟩;have hd : iy r x / r=x / (r+1):=by rw [Z,Mk _ _ (by omega),NM (by omega)];simp
 unfold fW;rw [hd];unfold iy;omega
theorem Gd {r x : Nat} (Z : 1<=r) {k : Nat} (h : iy r x<k) : x<2 * k:=by unfold iy at h;have : x / (r+1)<=x / 2:=Nat.div_le_div_left (by omega) (by omega);omega
theorem Cz (r : Nat) : iy r 0=0:=by simp [iy]
theorem Dg (X : LI) (E : Nat->Nat) (k : Nat) : gF O X E (k+1)=gF O X E k ++ [X.map λx=>eZ O x (E k)]:=by unfold gF;rw [K5,Ko];rfl
end
def AW (P M : Int) (mod : LI) (c r k : Int) : Int :=
 if bq P M mod=false then 1 else if c<1\/64<c\/r<1\/64<r\/k<1\/64<k then 6 else
 if (((ah P M.toNat mod).q : Int) - 1) % (r+1) ≠ 0\/(((ah P M.toNat mod).q : Int) - 1) / (r+1)<c then 10 else
 if 64<c * (r+1) then 4 else if c * r<k then 9 else 0

section
open Go.RowKit
end
end Go.Proofs.YthglbncgemdcbaaGreat
