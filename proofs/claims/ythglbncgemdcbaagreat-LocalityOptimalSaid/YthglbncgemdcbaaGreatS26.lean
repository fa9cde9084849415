import Derived.Test.YthglbncgemdcbaaGreatS23
import Derived.Test.YthglbncgemdcbaaGreatS21
namespace Go.Proofs.YthglbncgemdcbaaGreat
set_option linter.all false
set_option maxRecDepth 100000
set_option maxHeartbeats 4000000
open Go.RowKit Go.Proofs.Tryz
theorem zB {w w0 : World} {b : Nat} {G : dn} {a : OA} {n : Nat} {L : ZZ} {m : Nat} {ay : OA} {ny : Nat} {C : jG} (pb : Nat) (P M : Int) (am : OA) (mn cm c cy : Nat)
  (ax : OA) (nx cx : Nat) (ts : ZZ) (E : Eg w0 b G a n L m ay ny C) (hts : br w0 ax nx ts) (hpb : w0.heap.size<=pb) (hb : SW w0 w) (hB : aN w pb (qG b P M am mn cm m a n c ay ny cy C (.slice none 0 0) 0)) :
  Calls prog 136 #[.pointer (some ⟨pb,0,none⟩),.agg #[.slice ax nx cx]] w λe w'=>e = .returned (.int .i64 (provS G.ops L m C ts))/\SW w0 w':=by
 have Htl:=Z5 hts.len;obtain ⟨PR,hPR⟩ : ∃PR,provS G.ops L m C ts=PR:=⟨_,rfl⟩
 rw [hPR];have HPR:=Z5 hPR;clear hPR;have hb1 : SW w (w.alloc (.cells #[.slice ax nx cx] 103)):=an _ _;have hBa:=hB.ah hb1;have f10:=hBa.frozen 10;have q10:=hBa.cell 10 rfl;have hsb : pb<w.heap.size:=hB.1;go_enter func136,ntmps136;go_wp2_with fail;obtain ⟨Z,hZ⟩ : ∃Z : World,Z=(w.setCell ⟨pb,10,none⟩ (.slice ax nx cx)).alloc (.cells #[.slice ax nx cx] 103):=⟨_,rfl⟩
 rw [<- hZ];have hBZ : aN Z pb (qG b P M am mn cm m a n c ay ny cy C (.slice ax nx cx) 0):=by rw [hZ];exact (hB.setCell 10 (.slice ax nx cx)).alloc _
 have hbZ : SW w0 Z:=by rw [hZ];exact RZ (hb.setCell hpb _) (an _ _)
 clear hZ hBa f10 q10 hB;refine (uc pb P M am mn cm c cy ax nx cx ts E hts hpb C.W Z 0 none 0 0 [] none 0 0 [] (by omega) (by omega) (by omega) hbZ hBZ (Sd _ _) (Sd _ _) (λh=>by omega) (λh=>by omega) (by simp) (λx hx=>by simp at hx)).mono ?_;rintro e w5 ⟨k',g1,g2,g3,he,g5⟩;have hb5 : SW w0 w5:=hbZ.trans (g3.below (λx hx=>by rw [hx];exact hpb) hbZ.size);rw [OS] at g5 he;have c10:=g2.cell 10 rfl;have c11:=g2.cell 11 rfl;have hP2 : PR=match folS G.ops L m C C.W [] [] ts with | some []=>0 | _=>13:=by rw [<- HPR.out];rfl
 cases hf : folS G.ops L m C C.W [] [] ts with
 | none =>
  rw [hf] at hP2 he
  have HP:=Z5 hP2
  have he' : e = .returned (.int .i64 13):=he
  subst he'
  clear hf hP2 g5 he
  have hd : ((13 : Int) == 0)=false:=rfl
  go_wp2_with fail
  go_quiet (fail)
  go_wp2_with fail
  go_ret
  exact ⟨by rw [HP.out];rfl,hb5.trans (RV (Sj ⟨_,rfl⟩) hb5.size)⟩
 | some r =>
  rw [hf] at hP2 g5 he
  have he' : e = .returned (.int .i64 0):=he
  subst he'
  clear he
  have g6 : ts.drop k'=r:=g5 rfl
  have hlen : r.length=nx - k':=by rw [<- g6,QK,Htl.out]
  rw [Htl.out] at g1
  by_cases hk : k'<nx
  ·have HP : Hid (PR=13):=by
    show _=_;rw [hP2];cases r with
    | nil=>simp at hlen;omega
    | cons x r=>rfl
   have hd : decide ((k' : Int)<(nx : Int))=true:=by simp;omega
   clear hf hP2 g5 g6 hlen
   go_wp2_with fail
   go_quiet (fail)
   go_wp2_with fail
   go_ret
   exact ⟨by rw [HP.out];rfl,hb5.trans (RV (Sj ⟨_,rfl⟩) hb5.size)⟩
  ·have HP : Hid (PR=0):=by
    show _=_;rw [hP2];cases r with
    | nil=>rfl
    | cons x r=>simp at hlen;omega
   have hd : decide ((k' : Int)<(nx : Int))=false:=by simp;omega
   clear hf hP2 g5 g6 hlen
   go_wp2_with fail
   go_quiet (fail)
   go_wp2_with fail
   go_ret
   exact ⟨by rw [HP.out];rfl,hb5.trans (RV (Sj ⟨_,rfl⟩) hb5.size)⟩
def DI (w0 : World) (V : Int × ZZ) (e : Ending) (w' : World) : Prop :=
 SW w0 w'/\((V.1 ≠ 0/\e = .returned (.tuple #[.agg #[.slice none 0 0],.int .i64 V.1])) \/
  (V.1=0/\∃ar cr R,e = .returned (.tuple #[.agg #[.slice ar V.2.length cr],.int .i64 0])/\aT w' w0.heap.size ar V.2.length cr R V.2))
theorem EB {w w0 : World} {b : Nat} {G : dn} {a : OA} {n : Nat} {L : ZZ} {m : Nat} {ay : OA} {ny : Nat} {C : jG} (pb : Nat) (P M : Int) (am : OA) (mn cm c cy : Nat)
  (E : Eg w0 b G a n L m ay ny C) (hpb : w0.heap.size<=pb) (hb : SW w0 w) (hB : aN w pb (qG b P M am mn cm m a n c ay ny cy C (.slice none 0 0) 0)) :
  Calls prog 128 #[.pointer (some ⟨pb,0,none⟩)] w (DI w0 (vD G.ops L m C)):=by
 obtain ⟨V,hV⟩ : ∃V,vD G.ops L m C=V:=⟨_,rfl⟩
 rw [hV];have HV:=Z5 hV;clear hV;have hsb : pb<w.heap.size:=hB.1;go_enter func128,ntmps128;go_wp2_with fail;obtain ⟨U,hU⟩ : ∃U : World,U=w.alloc (.cells #[.slice none 0 0] 103):=⟨_,rfl⟩
 rw [<- hU];have hbU : SW w U:=by rw [hU];exact an _ _
 have hsU : U.heap.size=w.heap.size+1:=by rw [hU];simp
 have x0 : aN U w.heap.size [.slice none 0 0]:=by rw [hU];exact R9 _ _ _ rfl
 have hBU:=hB.ah hbU;have hb0U : SW w0 U:=hb.trans (hbU.mono hb.size);clear hU hB;have hM0 : nN U w0.heap.size pb b P M am mn cm m a n c ay ny cy C ⟨none,0,[],[]⟩:=⟨hBU,Sn U _,λh=>by
  rcases h with ⟨h1,_⟩ | ⟨i,hi,_⟩
  ·exact h1 rfl
  ·simp at hi,by simp⟩
 refine (uv pb P M am mn cm c cy E hpb C.W U ⟨none,0,[],[]⟩ none 0 0 [] none 0 0 [] (by omega) (by omega) hb0U hM0 (Sd _ _) (Sd _ _) (λh=>by omega) (λh=>by omega) (by simp) (λx hx=>by simp at hx)).mono ?_;rintro e w5 ⟨σ',g1,g2,g3,g4,rfl,g6⟩;have hVe : jQ G.ops L m C C.W [] [] []=V:=HV.out;rw [hVe] at g6 ⊢;have hgn : ¬ (⟨none,0,[],[]⟩ : qH).J pb w.heap.size:=λh=>by
  rcases h with h | ⟨h1,_⟩ | ⟨i,hi,_⟩
  ·omega
  ·exact h1 rfl
  ·simp at hi
 have hb5 : SW w0 w5:=hb0U.trans (g4.below (λx hx=>by
  rcases hx with h | ⟨h1,_⟩ | ⟨i,hi,_⟩
  ·rw [h];exact hpb
  ·exact absurd rfl h1
  ·simp at hi) hb0U.size)
 have x5:=x0.dD g4 hgn;have z0:=x5.cell 0 rfl;have f0:=x5.frozen 0;have hgn5 : ¬ cU σ'.ar σ'.R w.heap.size:=λh=>g4.not x0.1 hgn (.inr h);have hszw:=hb.size;obtain ⟨ve,vt⟩:=V;dsimp only at g6 ⊢;by_cases hve : ve=0
 ·subst hve;have ht : σ'.T=vt:=g6 rfl;have hF : ∀v : Value,SW w0 (w5.setCell ⟨w.heap.size,0,none⟩ v)/\aT (w5.setCell ⟨w.heap.size,0,none⟩ v) w0.heap.size σ'.ar vt.length σ'.cr σ'.R vt:=λv=>by refine ⟨hb5.setCell hszw _,?_⟩;rw [<- ht];exact g1.om.bq λx hx=>Nz _ _ _ _ λe=>hgn5 (by have e' : x=w.heap.size:=e;rw [<- e'];exact hx)
  have HF:=Z5 hF;have p10:=g1.box.cell 10 rfl;rw [ht] at p10;clear g1 g2 g3 g4 g6 hF ht;go_wp2_with fail;have z1 : (w5.setCell ⟨w.heap.size,0,none⟩ (.slice σ'.ar vt.length σ'.cr)).cell? ⟨w.heap.size,0,none⟩=some (.slice σ'.ar vt.length σ'.cr):=NJ _ _ _ z0;exact bodyPost_ret (v:=.tuple #[.agg #[.slice σ'.ar vt.length σ'.cr],.int .i64 0]) (by simp [results,results128,go_sem,z0,z1]) rfl ⟨(HF.out _).1,.inr ⟨rfl,σ'.ar,σ'.cr,σ'.R,rfl,(HF.out _).2⟩⟩
 ·have hve' : (ve != 0)=true:=by simpa using hve
  have Hne:=Z5 hve;have HF:=Z5 (λv : Value=>hb5.setCell (p:=⟨w.heap.size,0,none⟩) hszw v);clear g1 g2 g3 g4 g6 hve;go_wp2_with fail;have z1 : (w5.setCell ⟨w.heap.size,0,none⟩ (.slice none 0 0)).cell? ⟨w.heap.size,0,none⟩=some (.slice none 0 0):=NJ _ _ _ z0;exact bodyPost_ret (v:=.tuple #[.agg #[.slice none 0 0],.int .i64 ve]) (by simp [results,results128,go_sem,z0,z1]) rfl ⟨HF.out _,.inl ⟨Hne.out,rfl⟩⟩
def nH (V : Int × ZZ) (w : World) (e : Ending) (w' : World) : Prop :=
 SW w w'/\((V.1 ≠ 0/\e = .returned (.tuple #[.agg #[.slice none 0 0],.int .i64 V.1])) \/
  (V.1=0/\∃ar cr R,e = .returned (.tuple #[.agg #[.slice ar V.2.length cr],.int .i64 0])/\aT w' w.heap.size ar V.2.length cr R V.2))
section
open Go.RowKit
end
section
variable {O : aL} {El : Int->Prop} {m : Nat} {L : ZZ} {C : jG}
end
def oZ (x : Lz) (m : Nat) : Lz:=((List.range m).filter λj=>decide (nth x j ≠ 0)).map Int.ofNat
theorem rM {x : Lz} {m : Nat} (h : x.length=m) : (oZ x m).length=fB x:=by
 have e : x=(List.range m).map (nth x):=by refine Ov (by simp [h]) λi h1 h2=>?_;rw [NZ,O0,aj h1]
 unfold oZ fB;rw [Nq,<- List.countP_eq_length_filter];conv=>rhs;rw [e,RO]
 rfl
theorem BW {x : Lz} : fB x=0 ↔ ∀k,k<x.length->nth x k=0:=by
 unfold fB;rw [List.countP_eq_zero];constructor
 ·intro h k hk;have h1:=h _ (aH hk);simpa using h1
 ·intro h y hy;obtain ⟨k,hk,rfl⟩:=List.mem_iff_getElem.1 hy;have h1:=h k hk;rw [aj hk] at h1;simp [h1]
section
variable {P M : Int} {mod : Lz} {m : Nat} {L : ZZ}
end
section
def msgs (q : Nat) : Nat->ZZ
 | 0=>[[]]
 | k+1=>(List.range q).flatMap λ(a : Nat)=>(msgs q k).map λs=>(a : Int) :: s
def addAll (O : aL) : Lz->Lz->ZZ->Lz
 | u,a :: s,r :: R=>addAll O (pO O u a r) s R
 | u,_,_=>u
theorem Cn (O : aL) (q : Nat) : ∀(R : ZZ) (u : Lz),wlkS O q R u=(msgs q R.length).map λs=>addAll O u s R
 | [],u=>by simp [wlkS,msgs,addAll]
 | r :: R,u=>by rw [wlkS,NP,msgs,List.map_flatMap];congr 1;funext a;rw [Cn O q R,Qu];rfl
theorem pc {q : Nat} : ∀ {k : Nat} {s : Lz},s ∈ msgs q k ↔ s.length=k/\∀x ∈ s,0<=x/\x<(q : Int)
 | 0,s=>by
  rw [msgs,N6];constructor
  ·rintro rfl;simp
  ·rintro ⟨h,_⟩;exact NL h
 | k+1,s=>by
  rw [msgs,List.mem_flatMap];constructor
  ·rintro ⟨a,ha,h⟩;obtain ⟨t,ht,rfl⟩:=List.mem_map.1 h;obtain ⟨h1,h2⟩:=pc.1 ht;refine ⟨by simp [h1],λx hx=>?_⟩;rcases List.mem_cons.1 hx with rfl | hx
   ·have:=List.mem_range.1 ha;omega
   ·exact h2 x hx
  ·rintro ⟨h,h2⟩;match s,h,h2 with
   | x :: t,h,h2 =>
    have hx:=h2 x (by simp)
    refine ⟨x.toNat,List.mem_range.2 (by omega),List.mem_map.2 ⟨t,pc.2 ⟨by simpa using h,λy hy=>h2 y (by simp [hy])⟩,?_⟩⟩
    rw [Oc hx.1]
variable {O : aL} {m : Nat}
theorem wj {v : Lz} {L : ZZ} (h : v.length=L.length) : ∀(d j : Nat),j+d=L.length->addAll O (cmbTo O m v L j) (v.drop j) (L.drop j)=cmbTo O m v L L.length
 | 0,j,hj=>by
  obtain rfl : j=L.length:=by omega
  rw [Ob (Na _),Ob (by omega)];rfl
 | d+1,j,hj=>by rw [NV (show j<v.length by omega),NV (show j<L.length by omega),addAll];rw [<- wj h d (j+1) (by omega)];congr 1;rw [cmbTo,aj (show j<v.length by omega),aC (show j<L.length by omega)];rfl
theorem Ah {q : Nat} {L : ZZ} : wlkS O q L (List.replicate m 0)=(msgs q L.length).map λv=>cmbTo O m v L L.length:=by rw [Cn];refine OK λv hv=>?_;have h:=wj (O:=O) (m:=m) (v:=v) (L:=L) (pc.1 hv).1 L.length 0 (by omega);rw [OS,OS] at h;exact h
end
def bI (x : Lz) (m : Nat) (i : Int) : Lz:=((List.range m).filter λj=>decide (nth x j ≠ 0) && decide ((j : Int) ≠ i)).map Int.ofNat
theorem jX (x : Lz) (m : Nat) (i : Int) : bI x (m+1) i=if nth x m ≠ 0/\(m : Int) ≠ i then bI x m i ++ [(m : Int)] else bI x m i:=by
 unfold bI;rw [Ou,Pe,NM];by_cases h : nth x m ≠ 0/\(m : Int) ≠ i
 ·rw [Nd h,PW,Nd (by simp [h.1,h.2])];rfl
 ·rw [Nf h,PW,Nf (by simpa using h)];simp
theorem oY (x : Lz) (m : Nat) (i : Int) (h : i<0\/(m : Int)<=i) : bI x m i=oZ x m:=by unfold bI oZ;refine congrArg _ (QD λj hj=>?_);have:=List.mem_range.1 hj;rw [NB (show (j : Int) ≠ i by omega),Bool.and_true]
theorem BG {x : Lz} {m : Nat} {i y : Int} : y ∈ bI x m i ↔ ∃j : Nat,j<m/\nth x j ≠ 0/\(j : Int) ≠ i/\y=j:=by
 unfold bI;rw [Pp];constructor
 ·rintro ⟨j,hj,rfl⟩;rw [OG,PQ] at hj;have h:=hj.2;simp only [NK,N8] at h;exact ⟨j,hj.1,h.1,h.2,rfl⟩
 ·rintro ⟨j,h1,h2,h3,rfl⟩;exact ⟨j,by rw [OG,PQ];exact ⟨h1,by simp [h2,h3]⟩,rfl⟩
theorem AQ {x : Lz} {m : Nat} {i y : Int} (h : y ∈ bI x m i) : 0<=y/\y<m:=by obtain ⟨j,hj,_,_,rfl⟩:=BG.1 h;omega
theorem gH (x : Lz) (m : Nat) (i : Int) : (bI x m i).length<=m:=by unfold bI;rw [Nq];exact Nr (Pk _ _) (by simp)
def uS (m : Nat) (i : Int) (b w : Lz) : Lz:=if nth w i.toNat=1 then (if b=[]\/dL (bI w m i) (bI b m i)=true then w else b) else b
def bstL (m : Nat) (i : Int) (W : ZZ) : Nat->Lz
 | 0=>[]
 | k+1=>uS m i (bstL m i W k) (ai W k)
theorem xp {m : Nat} {i : Int} {W : ZZ} : ∀k,k<=W.length->bstL m i W k=[]\/(bstL m i W k ∈ W/\nth (bstL m i W k) i.toNat=1)
 | 0,_=>.inl rfl
 | k+1,h=>by
  rw [bstL,uS];split
  ·rename_i h1;split
   ·exact .inr ⟨dN (by omega),h1⟩
   ·exact xp k (by omega)
  ·exact xp k (by omega)
section
variable {P M : Int} {mod : Lz} {m : Nat} {L : ZZ}
def oR (P M : Int) (mod : Lz) (m : Nat) (L : ZZ) : ZZ:=wlkS (af P M.toNat mod).ops (af P M.toNat mod).q (aS (af P M.toNat mod) L m) (List.replicate m 0)
theorem Jk (hE : aF P M mod m L=0) : aS (af P M.toNat mod) L m=dx (af P M.toNat mod).ops m L:=by unfold aS dx bw;rfl
theorem Kl {L : ZZ} (F : bF (af P M.toNat mod).ops (af P M.toNat mod).El) (hL : bp (af P M.toNat mod).El m L) {x : Lz} :
  x ∈ wlkS (af P M.toNat mod).ops (af P M.toNat mod).q L (List.replicate m 0) ↔ Vc (af P M.toNat mod).El m x/\RS (af P M.toNat mod).ops (af P M.toNat mod).El m L (λi=>nth x i):=by
 rw [Ah,Pp];constructor
 ·rintro ⟨v,hv,rfl⟩;obtain ⟨h1,h2⟩:=pc.1 hv;exact fF F hL (λk hk=>h2 _ (aH (by omega))) L.length (Na _)
 ·rintro ⟨h1,h2⟩;obtain ⟨v,hv,h3⟩:=RS.MT F hL h2;have hve : ∀k,k<L.length->(af P M.toNat mod).El (nth v k):=λk hk=>hv.at hk;have c1:=(fF F hL hve L.length (Na _)).1;exact ⟨v,pc.2 ⟨hv.1,λy hy=>hv.2 y hy⟩,(jn (by rw [h1.1,c1.1]) λi hi=>h3 i (by rw [<- h1.1];exact hi)).symm⟩
theorem ou (hE : aF P M mod m L=0) {x : Lz} :
  x ∈ oR P M mod m L ↔ Vc (af P M.toNat mod).El m x/\RS (af P M.toNat mod).ops (af P M.toNat mod).El m (dx (af P M.toNat mod).ops m L) (λi=>nth x i):=by
 obtain ⟨N',e,hm1,hm64,F,hR⟩:=aM hE;obtain rfl : m=N':=by omega
 unfold oR;rw [Jk hE];exact Kl F (fV F hR)
def iw (P M : Int) (mod : Lz) (m : Nat) (L : ZZ) (i : Int) : Lz:=bstL m i (oR P M mod m L) (oR P M mod m L).length
theorem wO {a b : Lz} (h : dL a b=false) : b.length<=a.length:=by unfold dL at h;simp only [Bool.or_eq_false_iff,decide_eq_false_iff_not] at h;omega
theorem IW {a b : Lz} (h : dL a b=true) : a.length<=b.length:=by unfold dL at h;simp only [Qp,NK,N8] at h;omega
theorem E6 {i : Int} {W : ZZ} : ∀k,k<=W.length->∀t,t<k->nth (ai W t) i.toNat=1->bstL m i W k ≠ []/\(bI (bstL m i W k) m i).length<=(bI (ai W t) m i).length
 | 0,_,t,ht,_=>by omega
 | k+1,hk,t,ht,h1=>by
  have hne : ai W t ≠ []\/True:=.inr trivial;rw [bstL,uS];rcases N3 t k with h | h
  ·obtain ⟨ih1,ih2⟩:=E6 k (by omega) t h h1;split
   ·split
    ·rename_i h3;refine ⟨λe=>?_,?_⟩
     ·rename_i h2;rw [e] at h2;simp [nth] at h2
     ·rcases h3 with h3 | h3
      ·exact absurd h3 ih1
      ·exact Nr (IW h3) ih2
    ·exact ⟨ih1,ih2⟩
   ·exact ⟨ih1,ih2⟩
  ·obtain rfl : t=k:=by omega
   rw [Nd h1];split
   ·exact ⟨λe=>by rw [e] at h1;simp [nth] at h1,Na _⟩
   ·rename_i h3;simp only [not_or,Bool.not_eq_true] at h3;exact ⟨h3.1,wO h3.2⟩
theorem qB (hE : aF P M mod m L=0) (i : Int) : (iw P M mod m L i=[]/\∀y ∈ oR P M mod m L,nth y i.toNat ≠ 1) \/
  (iw P M mod m L i ∈ oR P M mod m L/\nth (iw P M mod m L i) i.toNat=1/\∀y ∈ oR P M mod m L,nth y i.toNat=1->(bI (iw P M mod m L i) m i).length<=(bI y m i).length):=by
 have hmin : ∀y ∈ oR P M mod m L,nth y i.toNat=1->iw P M mod m L i ≠ []/\(bI (iw P M mod m L i) m i).length<=(bI y m i).length:=λy hy h1=>by obtain ⟨t,ht,rfl⟩:=ei hy;exact E6 _ (Na _) t ht h1
 rcases xp (m:=m) (i:=i) (W:=oR P M mod m L) _ (Na _) with h | ⟨h1,h2⟩
 ·exact .inl ⟨h,λy hy h1=>(hmin y hy h1).1 h⟩
 ·exact .inr ⟨h1,h2,λy hy h3=>(hmin y hy h3).2⟩
def repTo (O : aL) (d x : Lz) (S : Lz) : Nat->Int
 | 0=>0
 | k+1=>O.add (repTo O d x S k) (O.mul (O.neg (nth d (nth S k).toNat)) (nth x (nth S k).toNat))
end
section
variable {O : aL} {El : Int->Prop} {m : Nat}
end
section
variable {P M : Int} {mod : Lz} {m : Nat} {L : ZZ}
end
section
variable {O : aL} {El : Int->Prop}
def iE (O : aL) (x : Int) : Nat->Int
 | 0=>1
 | k+1=>O.mul (iE O x k) x
theorem gQ (F : bF O El) {x : Int} (hx : El x) : ∀k,El (iE O x k)
 | 0=>F.one
 | k+1=>F.cl.mul _ _ (gQ F hx k) hx
theorem Ad (F : bF O El) {x : Int} (hx : El x) (a : Nat) : ∀b,iE O x (a+b)=O.mul (iE O x a) (iE O x b)
 | 0=>by rw [Qv];exact (F.ie (gQ F hx a)).symm
 | b+1=>by rw [<- Rh];show O.mul (iE O x (a+b)) x=O.mul _ (O.mul (iE O x b) x);rw [Ad F hx a b,F.mul_assoc _ _ _ (gQ F hx a) (gQ F hx b) hx]
theorem rR (F : bF O El) {x : Int} (hx : El x) (a : Nat) : ∀b,iE O x (a * b)=iE O (iE O x a) b
 | 0=>rfl
 | b+1=>by rw [PZ,Ad F hx,rR F hx a b];rfl
def l6 (n : Nat) (c : Int) (e : Nat) : Lz:=(List.replicate n 0).set e c
def oS (O : aL) (a b : Lz) : Lz:=List.zipWith O.add a b
theorem me (F : bF O El) {n e : Nat} {c : Int} (hc : El c) : ∀y ∈ l6 n c e,El y:=λy hy=>by
 rcases Oz hy with h | rfl
 ·rw [On h];exact F.zero
 ·exact hc
theorem ID (F : bF O El) (n : Nat) : ∀y ∈ List.replicate n (0 : Int),El y:=λy hy=>by rw [On hy];exact F.zero
theorem AK (F : bF O El) {x : Int} (hx : El x) (n : Nat) : ko O (List.replicate n 0) x=0:=nG F hx λy hy=>On hy
theorem s8 (F : bF O El) {x c : Int} (hx : El x) (hc : El c) : ∀(n e : Nat),e<n->ko O (l6 n c e) x=O.mul c (iE O x e)
 | 0,e,h=>by omega
 | n+1,0,_=>by show O.add c (O.mul x (ko O (List.replicate n 0) x))=O.mul c 1;rw [AK F hx,F.cQ hx,F.add_zero _ hc,F.ie hc]
 | n+1,e+1,h=>by show O.add 0 (O.mul x (ko O (l6 n c e) x))=O.mul c (O.mul (iE O x e) x);rw [s8 F hx hc n e (by omega),F.tI (F.cl.mul _ _ hx (F.cl.mul _ _ hc (gQ F hx e))),F.mul_comm _ _ hx (F.cl.mul _ _ hc (gQ F hx e)),F.mul_assoc _ _ _ hc (gQ F hx e) hx]
theorem u0 (F : bF O El) : ∀ {a b : Lz},(∀y ∈ a,El y)->(∀y ∈ b,El y)->∀y ∈ oS O a b,El y
 | [],b,_,_,y,hy=>by simp [oS] at hy
 | x :: a,[],_,_,y,hy=>by simp [oS] at hy
 | x :: a,z :: b,ha,hb,y,hy=>by
  rcases List.mem_cons.1 (show y ∈ O.add x z :: oS O a b from hy) with rfl | hy
  ·exact F.cl.add _ _ (ha x (by simp)) (hb z (by simp))
  ·exact u0 F (λw hw=>ha w (NS _ hw)) (λw hw=>hb w (NS _ hw)) y hy
theorem u9 (F : bF O El) {x : Int} (hx : El x) : ∀ {a b : Lz},a.length=b.length->(∀y ∈ a,El y)->(∀y ∈ b,El y)->ko O (oS O a b) x=O.add (ko O a x) (ko O b x)
 | [],[],_,_,_=>by show (0 : Int)=O.add 0 0;rw [F.add_zero 0 F.zero]
 | [],_ :: _,h,_,_=>by simp at h
 | _ :: _,[],h,_,_=>by simp at h
 | c :: a,d :: b,h,ha,hb=>by have hc:=ha c (by simp);have hd:=hb d (by simp);have ha' : ∀y ∈ a,El y:=λw hw=>ha w (NS _ hw);have hb' : ∀y ∈ b,El y:=λw hw=>hb w (NS _ hw);have hA:=pQ F hx ha';have hB:=pQ F hx hb';show O.add (O.add c d) (O.mul x (ko O (oS O a b) x))=O.add (O.add c (O.mul x (ko O a x))) (O.add d (O.mul x (ko O b x)));rw [u9 F hx (by simpa using h) ha' hb',F.mul_add _ _ _ hx hA hB,F.zT hc hd (F.cl.mul _ _ hx hA) (F.cl.mul _ _ hx hB)]
theorem vF {a b : Lz} {i : Nat} (ha : i<a.length) (hb : i<b.length) : nth (oS O a b) i=O.add (nth a i) (nth b i):=by
 have hl : i<(List.zipWith O.add a b).length:=by rw [OL];omega
 show nth (List.zipWith O.add a b) i=_;rw [aj hl,aj ha,aj hb,PV]
theorem rV {n e i : Nat} {c : Int} (he : e<n) : nth (l6 n c e) i=if i=e then c else 0:=by
 unfold l6;rw [eh _ _ _ _ (by simpa using he)];split
 ·rfl
 ·simp [nth,Ng,NI];split <;> rfl
def Ij (O : aL) (v : Lz) (E : Nat->Nat) (x : Int) : Nat->Int
 | 0=>0
 | k+1=>O.add (Ij O v E x k) (O.mul (nth v k) (iE O x (E k)))
theorem Cv (F : bF O El) {v : Lz} {E : Nat->Nat} {n : Nat} : ∀k,(∀j,j<k->El (nth v j)/\E j<n)->(∀i j,i<j->j<k->E i<E j) ->
  ∃a : Lz,a.length=n/\(∀y ∈ a,El y)/\(∀x,El x->ko O a x=Ij O v E x k)/\(∀j,j<k->nth a (E j)=nth v j)/\∀i,(∀j,j<k->i ≠ E j)->nth a i=0
 | 0,_,_=>⟨List.replicate n 0,by simp,ID F n,λx hx=>AK F hx n,λj hj=>by omega,λi _=>by simp [nth,Ng,NI];split <;> rfl⟩
 | k+1,h,hE=>by
  obtain ⟨a,h1,h2,h3,h4,h5⟩:=Cv F k (λj hj=>h j (by omega)) λi j hi hj=>hE i j hi (by omega);obtain ⟨hv,hn⟩:=h k (by omega);have hl : (l6 n (nth v k) (E k)).length=n:=by simp [l6]
  have hak : nth a (E k)=0:=h5 _ λj hj=>by have:=hE j k hj (by omega);omega
  refine ⟨oS O a (l6 n (nth v k) (E k)),by unfold oS;rw [OL,h1,hl,Nat.min_self],u0 F h2 (me F hv),λx hx=>?_,λj hj=>?_,λi hi=>?_⟩
  ·rw [u9 F hx (by rw [h1,hl]) h2 (me F hv),h3 x hx,s8 F hx hv n _ hn];rfl
  ·have hjn:=(h j hj).2;rw [vF (by rw [h1];exact hjn) (by rw [hl];exact hjn),rV hn];rcases N3 j k with hjk | hjk
   ·have:=hE j k hjk (by omega);rw [Nf (by omega),h4 j hjk,F.add_zero _ (h j hj).1]
   ·obtain rfl : j=k:=by omega
    rw [Nd rfl,hak,F.tI hv]
  ·by_cases hin : i<n
   ·rw [vF (by rw [h1];exact hin) (by rw [hl];exact hin),rV hn,Nf (hi k (by omega)),h5 i λj hj=>hi j (by omega),F.add_zero 0 F.zero]
   ·have hz : (oS O a (l6 n (nth v k) (E k))).length<=i:=by unfold oS;rw [OL,h1,hl];omega
    generalize oS O a (l6 n (nth v k) (E k))=z at hz ⊢;unfold nth;rw [Ng,Oo hz];rfl
theorem CE (F : bF O El) {v : Lz} {E : Nat->Nat} {r : Nat} {c : Int} (hc : El c) : ∀k,(∀j,j<k->El (nth v j)/\E j % (r+1)<r) ->
  ∃b : Lz,b.length=r/\(∀y ∈ b,El y)/\∀x,El x->iE O x (r+1)=c->ko O b x=Ij O v E x k
 | 0,_=>⟨List.replicate r 0,by simp,ID F r,λx hx _=>AK F hx r⟩
 | k+1,h=>by
  obtain ⟨b,h1,h2,h3⟩:=CE F hc k λj hj=>h j (by omega);obtain ⟨hv,hn⟩:=h k (by omega);have hcc:=F.cl.mul _ _ hv (gQ F hc (E k / (r+1)));have hl : (l6 r (O.mul (nth v k) (iE O c (E k / (r+1)))) (E k % (r+1))).length=r:=by simp [l6]
  refine ⟨oS O b (l6 r (O.mul (nth v k) (iE O c (E k / (r+1)))) (E k % (r+1))),by unfold oS;rw [OL,h1,hl,Nat.min_self],u0 F h2 (me F hcc),λx hx hxc=>?_⟩;rw [u9 F hx (by rw [h1,hl]) h2 (me F hcc),h3 x hx hxc,s8 F hx hcc r _ hn];show _=O.add _ (O.mul (nth v k) (iE O x (E k)));have e : iE O x (E k)=O.mul (iE O c (E k / (r+1))) (iE O x (E k % (r+1))):=by have h4 : E k=(r+1) * (E k / (r+1))+E k % (r+1):=(O7 _ _).symm;rw [<- hxc,<- rR F hx,<- Ad F hx,<- h4]
  rw [e,F.mul_assoc _ _ _ hv (gQ F hc _) (gQ F hx _)]
def kr (O : aL) (X : Lz) (E : Nat->Nat) (k : Nat) : ZZ:=(List.range k).map λj=>X.map λx=>iE O x (E j)
theorem BE {X : Lz} {E : Nat->Nat} {k j : Nat} (hj : j<k) : ai (kr O X E k) j=X.map λx=>iE O x (E j):=by
 unfold kr;have hl : j<((List.range k).map λj=>X.map λx=>iE O x (E j)).length:=by simpa using hj
 rw [aC hl,NZ,O0]
theorem r8 (F : bF O El) {X : Lz} (hX : ∀x ∈ X,El x) {E : Nat->Nat} {k : Nat} : bp El X.length (kr O X E k):=λr hr=>by obtain ⟨j,hj,rfl⟩:=ei hr;rw [BE (by simpa [kr] using hj)];exact ⟨by simp,λy hy=>by obtain ⟨x,hx,rfl⟩:=List.mem_map.1 hy;exact gQ F (hX x hx) _⟩
theorem sU {X : Lz} {f : Int->Int} {p : Nat} (hp : p<X.length) : nth (X.map f) p=f (nth X p):=by rw [aj (by simpa using hp),NZ,aj hp]
theorem Aq (F : bF O El) {X : Lz} (hX : ∀x ∈ X,El x) {E : Nat->Nat} {n : Nat} {v : Lz} (hv : ∀j,j<n->El (nth v j)) {p : Nat} (hp : p<X.length) : ∀k,k<=n->nth (cmbTo O X.length v (kr O X E n) k) p=Ij O v E (nth X p) k
 | 0,_=>by show nth (List.replicate X.length 0) p=0;simp [nth,Ng,NI];split <;> rfl
 | k+1,hk=>by
  have hvk:=hv k (by omega);have hxp:=hX (nth X p) (aH hp);have hpw:=gQ F hxp (E k);have ih:=Aq F hX (E:=E) hv hp k (by omega);have hR:=r8 F hX (E:=E) (k:=n);have hln : (kr O X E n).length=n:=by simp [kr]
  obtain ⟨⟨c1,c2⟩,_⟩:=fF F hR (x:=v) (λj hj=>hv j (by rw [hln] at hj;exact hj)) k (by rw [hln];omega);have hpse : El (Ij O v E (nth X p) k):=by rw [<- ih];exact Sc ⟨c1,c2⟩ hp
  rw [cmbTo];show _=O.add (Ij O v E (nth X p) k) (O.mul (nth v k) (iE O (nth X p) (E k)));split
  ·rename_i h0;rw [ih,h0,F.iS hpw,F.add_zero _ hpse]
  ·have hrow : ai (kr O X E n) k=X.map λx=>iE O x (E k):=BE (by omega);rw [gP _ _ _ _ _ (by rw [hrow,c1];simp) (by rw [c1];exact hp),ih,hrow,sU hp];split
   ·rename_i h0;rw [h0,F.cQ hvk,F.add_zero _ hpse]
   ·rfl
end
section
variable {O : aL} {El : Int->Prop} {m : Nat} {L : ZZ}
theorem Ek (F : bF O El) (hL : bp El m L) (h : ∀v,Vc El L.length v->(∀p,p<m->nth (cmbTo O m v L L.length) p=0)->∀j,j<L.length->nth v j=0) : (aD O L m).2.length=L.length:=by
 obtain ⟨hP,hs1,hs2⟩:=gy F hL m (Na _);have hRr:=iF F hL m (Na _);obtain ⟨R,hR⟩ : ∃R,(aD O L m).1=R:=⟨_,rfl⟩
 obtain ⟨P,hPe⟩ : ∃P,(aD O L m).2=P:=⟨_,rfl⟩
 have hRl : R.length=L.length:=by rw [<- hR];exact bX O L m
 rw [hR,hPe] at hP;rw [hR] at hs1 hs2 hRr;rw [hPe];have hle:=hP.le;rw [hRl] at hle;refine NH λhne=>?_;have hn : P.length<L.length:=by omega
 obtain ⟨A,hA⟩ : ∃A,(P.map λq=>aR L q.toNat)=A:=⟨_,rfl⟩
 have hAl : A.length=P.length:=by rw [<- hA,Nq]
 have hAr : bp El L.length A:=λr hr=>by rw [<- hA] at hr;obtain ⟨q,_,rfl⟩:=List.mem_map.1 hr;exact cH hL F.zero q.toNat
 have hAi : ∀i,i<P.length->ai A i=aR L (nth P i).toNat:=λi hi=>by rw [aC (by omega),aj hi];simp [<- hA]
 obtain ⟨hP',hl'⟩:=bG F hAr;have hlen':=bQ F hAr;have hRA:=bL F hAr;have hPA : (aD O A L.length).2.length<=P.length:=by have:=(fh O A L.length).2;rw [hAl] at this;exact this
 obtain ⟨Q,hQ⟩ : ∃Q,(aD O A L.length).2=Q:=⟨_,rfl⟩
 obtain ⟨B,hB⟩ : ∃B,bZ O L.length A=B:=⟨_,rfl⟩
 have hsub:=(cB F hAr).2;rw [hB] at hP' hl' hlen' hRA hsub;rw [hQ] at hP' hl' hlen' hPA;have hcnt:=yY (m:=L.length) Q (λj hj=>hP'.lt j hj) hl'.asc;have h0 : 0<(dK Q L.length).length:=by omega
 obtain ⟨c,hc⟩ : ∃c,(dK Q L.length).getD 0 0=c:=⟨_,rfl⟩
 obtain ⟨hcl,hcn⟩:=gC h0;rw [hc] at hcl hcn;obtain ⟨v,hv⟩ : ∃v,kerTo O L.length B Q c Q.length=v:=⟨_,rfl⟩
 have hvv : Vc El L.length v:=by rw [<- hv];exact mX F hRA hP' hlen' hcl _ (Na _)
 have hvc : nth v c=1:=by rw [<- hv];exact iU hP' hcl hcn _ (Na _)
 have hve : ∀p,p<L.length->El (nth v p):=λp hp=>hvv.at hp;have horth : ∀i,i<B.length->dotN O (λp=>nth v p) (λp=>nth (ai B i) p) L.length=0:=λi hi=>by have h1:=jf F hRA hP' hl' hlen' i 0 hi (by rw [fS];exact h0);rw [jP O L.length B Q L.length h0,hc,hv] at h1;rw [eY F L.length hve (λp hp=>Sc (hRA.row hi) hp)];exact h1
 have hz : ∀p,p<m->nth (cmbTo O m v L L.length) p=0:=by
  obtain ⟨c1,c2⟩:=fF F hL hve L.length (Na _);refine wb F hRr hP (hs2.rs c2) λj hj=>?_;have hpl:=(hP.lt j hj)
  rw [qx F hL hve (show (nth P j).toNat<m by omega) _ (Na _)];have h2 : dotN O (λp=>nth v p) (λp=>nth (ai A j) p) L.length=0:=fC F hRA hve horth (hsub j (by omega));rw [hAi j hj] at h2;rw [<- h2];exact dW L.length λp hp=>⟨rfl,(cI _ _ p hp).symm⟩
 have h3:=h v hvv hz c hcl;rw [hvc] at h3;exact absurd h3 (by decide)
end
section
variable {O : aL} {El : Int->Prop} {X : Lz} {E : Nat->Nat} {k D : Nat}
theorem Mk (X : Lz) (a : Lz) : fB (X.map (ko O a))+(X.filter λy=>decide (ko O a y=0)).length=X.length:=by
 unfold fB;rw [RO];induction X with
 | nil=>rfl
 | cons y X ih =>
  have e1 : ((λy : Int=>decide (y ≠ 0)) ∘ ko O a) y=decide (ko O a y ≠ 0):=rfl
  rw [List.countP_cons,PW,NP,e1]
  by_cases h : ko O a y=0
  ·rw [Nf (show ¬ decide (ko O a y ≠ 0)=true by simpa using h),Nd (show decide (ko O a y=0)=true by simpa using h),NP]
   omega
  ·rw [Nd (show decide (ko O a y ≠ 0)=true by simpa using h),Nf (show ¬ decide (ko O a y=0)=true by simpa using h)]
   omega
theorem Fk (F : bF O El) (hX : ∀x ∈ X,El x) (hE : ∀i j,i<j->j<k->E i<E j) (hD : ∀j,j<k->E j<=D) {v : Lz} (hv : ∀j,j<k->El (nth v j)) :
  ∃a : Lz,a.length=D+1/\(∀y ∈ a,El y)/\(∀p,p<X.length->nth (cmbTo O X.length v (kr O X E k) k) p=ko O a (nth X p))/\∀j,j<k->nth a (E j)=nth v j:=by obtain ⟨a,h1,h2,h3,h4,_⟩:=Cv F (v:=v) (E:=E) (n:=D+1) k (λj hj=>⟨hv j hj,by have:=hD j hj;omega⟩) hE;exact ⟨a,h1,h2,λp hp=>by rw [Aq F hX hv hp k (Na _),h3 _ (hX _ (aH hp))],h4⟩
theorem E9 (F : bF O El) (hn : X.Nodup) (hX : ∀x ∈ X,El x) {a : Lz} (hl : a.length=D+1) (ha : ∀y ∈ a,El y) (h : fB (X.map (ko O a))+D<X.length) : ∀c ∈ a,c=0:=by have h1:=Mk (O:=O) X a;refine oa F (X:=X.filter λy=>decide (ko O a y=0)) (Oy _ hn) (λx hx=>hX x (List.mem_filter.1 hx).1) ha (λx hx=>by simpa using (List.mem_filter.1 hx).2) (by omega)
theorem sZ : (kr O X E k).length=k:=by simp [kr]
theorem DQ (F : bF O El) (hn : X.Nodup) (hX : ∀x ∈ X,El x) (hE : ∀i j,i<j->j<k->E i<E j) (hD : ∀j,j<k->E j<=D) {w : Lz} (hw : Vc El X.length w)
  (hr : RS O El X.length (bZ O X.length (kr O X E k)) (λi=>nth w i)) (h0 : fB w ≠ 0) : X.length<=fB w+D:=by
 have hR:=r8 F hX (E:=E) (k:=k);obtain ⟨v,hv,h1⟩:=RS.MT F hR ((cB F hR).1.rs hr);rw [sZ] at hv h1;obtain ⟨a,a1,a2,a3,_⟩:=Fk F hX hE hD (v:=v) λj hj=>hv.at hj;have hwe : w=X.map (ko O a):=jn (by rw [hw.1,Nq]) λp hp=>by rw [hw.1] at hp;rw [sU hp,<- a3 p hp];exact h1 p hp
 refine OJ λhc=>h0 ?_;have h2:=E9 F hn hX a1 a2 (by rw [<- hwe];omega);rw [hwe];exact BW.2 λp hp=>by rw [Nq] at hp;rw [sU hp];exact nG F (hX _ (aH hp)) h2
theorem JK (F : bF O El) (hn : X.Nodup) (hX : ∀x ∈ X,El x) (hE : ∀i j,i<j->j<k->E i<E j) (hD : ∀j,j<k->E j<=D) (hDX : D<X.length) : (bZ O X.length (kr O X E k)).length=k:=by
 have hR:=r8 F hX (E:=E) (k:=k);rw [bQ F hR,Ek F hR,sZ];intro v hv h0 j hj;rw [sZ] at hv h0 hj;obtain ⟨a,a1,a2,a3,a4⟩:=Fk F hX hE hD (v:=v) λj hj=>hv.at hj;have hz : fB (X.map (ko O a))=0:=BW.2 λp hp=>by rw [Nq] at hp;rw [sU hp,<- a3 p hp];exact h0 p hp
 have h2:=E9 F hn hX a1 a2 (by omega);rw [<- a4 j hj];exact h2 _ (aH (by rw [a1];have:=hD j hj;omega))
theorem GG (F : bF O El) (hn : X.Nodup) (hX : ∀x ∈ X,El x) {r : Nat} (hr : ∀j,j<k->E j % (r+1)<r) {c : Int} (hc : El c) {l : Z6} (hl : ∀p ∈ l,p<X.length/\iE O (nth X p) (r+1)=c) (hln : l.Nodup) (hlr : r<=l.length)
  {q : Nat} (hq : q<X.length) (hqc : iE O (nth X q) (r+1)=c) : jE O El (bZ O X.length (kr O X E k)).length (aR (bZ O X.length (kr O X E k))) l q:=by
 have hR:=r8 F hX (E:=E) (k:=k);refine (FK (λp hp=>(hl p hp).1) hq).2 λf hf h0=>?_;obtain ⟨v,hv,h1⟩:=RS.MT F hR ((cB F hR).1.rs hf);rw [sZ] at hv h1;have hve : ∀j,j<k->El (nth v j):=λj hj=>hv.at hj;obtain ⟨b,b1,b2,b3⟩:=CE F (v:=v) (E:=E) (r:=r) hc k λj hj=>⟨hve j hj,hr j hj⟩
 have hfp : ∀p,p<X.length->iE O (nth X p) (r+1)=c->f p=ko O b (nth X p):=λp hp hpc=>by rw [h1 p hp,Aq F hX hve hp k (Na _),b3 _ (hX _ (aH hp)) hpc]
 have hz:=oa F (X:=l.map (nth X)) (a:=b) (by
  unfold List.Nodup;rw [O6];refine hln.imp_of_mem λ{p p'} hp hp' hne e=>hne ?_;rw [aj (hl p hp).1,aj (hl p' hp').1] at e;exact (RD hn).1 e) (λx hx=>by
   obtain ⟨p,hp,rfl⟩:=List.mem_map.1 hx;exact hX _ (aH (hl p hp).1)) b2 (λx hx=>by
   obtain ⟨p,hp,rfl⟩:=List.mem_map.1 hx;rw [<- hfp p (hl p hp).1 (hl p hp).2];exact h0 p hp) (by rw [b1,Nq];exact hlr)
 rw [hfp q hq hqc];exact nG F (hX _ (aH hq)) hz
end
section
variable {O : aL} {El : Int->Prop} {q : Nat} {g : Int}
structure K1 (O : aL) (El : Int->Prop) (q : Nat) (g : Int) : Prop where
 el : El g
 rng : ∀x,El x ↔ 0<=x/\x<(q : Int)
 q2 : 2<=q
 all : ∀x,El x->x ≠ 0->∃k,k<q - 1/\x=iE O g k
 inj : ∀i j,i<q - 1->j<q - 1->iE O g i=iE O g j->i=j
 last : iE O g (q - 1)=1
 ne : ∀k,iE O g k ≠ 0
theorem u2 (F : bF O El) : ∀k,iE O 1 k=1
 | 0=>rfl
 | k+1=>by show O.mul (iE O 1 k) 1=1;rw [u2 F k,F.one_mul 1 F.one]
theorem rZ (F : bF O El) {x y : Int} (hx : El x) (hy : El y) : ∀k,iE O (O.mul x y) k=O.mul (iE O x k) (iE O y k)
 | 0=>(F.one_mul 1 F.one).symm
 | k+1=>by have a:=gQ F hx k;have b:=gQ F hy k;show O.mul (iE O (O.mul x y) k) (O.mul x y)=O.mul (O.mul (iE O x k) x) (O.mul (iE O y k) y);rw [rZ F hx hy k,F.mul_assoc _ _ _ a b (F.cl.mul _ _ hx hy),F.mul_assoc _ _ _ a hx (F.cl.mul _ _ b hy),<- F.mul_assoc _ _ _ b hx hy,F.mul_comm _ _ b hx,F.mul_assoc _ _ _ hx b hy]
def rtTo (O : aL) (n : Nat) : Nat->Lz
 | 0=>[]
 | k+1=>if iE O ((k : Int)+1) n=1 then rtTo O n k ++ [(k : Int)+1] else rtTo O n k
theorem kj {n : Nat} {x : Int} : ∀ {k : Nat},x ∈ rtTo O n k ↔ 1<=x/\x<=(k : Int)/\iE O x n=1
 | 0=>by simp only [rtTo,List.not_mem_nil,false_iff];intro h;have h1:=h.1;have h2:=h.2.1;omega
 | k+1=>by
  rw [rtTo];by_cases h : iE O ((k : Int)+1) n=1
  ·rw [Nd h,Ol,kj,N6];constructor
   ·rintro (⟨a,b,c⟩ | rfl)
    ·exact ⟨a,by omega,c⟩
    ·exact ⟨by omega,by omega,h⟩
   ·rintro ⟨a,b,c⟩;by_cases e : x=(k : Int)+1
    ·exact .inr e
    ·exact .inl ⟨a,by omega,c⟩
  ·rw [Nf h,kj];constructor
   ·rintro ⟨a,b,c⟩;exact ⟨a,by omega,c⟩
   ·rintro ⟨a,b,c⟩;refine ⟨a,?_,c⟩;have e : x ≠ (k : Int)+1:=λe=>h (by rw [<- e];exact c);omega
theorem nS (n : Nat) : ∀k,(rtTo O n k).Nodup
 | 0=>Rc
 | k+1=>by
  rw [rtTo];split
  ·unfold List.Nodup;rw [Ql];refine ⟨nS n k,List.pairwise_singleton _ _,λa ha b hb e=>?_⟩;rw [N6] at hb;have:=(kj.1 ha).2.1;omega
  ·exact nS n k
theorem Fz (F : bF O El) (h : K1 O El q g) {n : Nat} (hn : 1<=n) (hd : n ∣ q - 1) : (rtTo O n (q - 1)).length=n:=by
 obtain ⟨s,hs⟩:=hd;have hq:=h.q2;have hs1 : 1<=s:=Nat.one_le_iff_ne_zero.2 λe=>by rw [e,Nat.mul_zero] at hs;omega
 have hel : ∀x ∈ rtTo O n (q - 1),El x:=λx hx=>by obtain ⟨a,b,_⟩:=kj.1 hx;exact (h.rng x).2 ⟨by omega,by omega⟩
 refine Qo (OJ λhc=>?_) ?_
 ·have hm1:=F.cl.neg _ F.one;have h1:=oa F (X:=rtTo O n (q - 1)) (a:=oS O (l6 (n+1) 1 n) (l6 (n+1) (O.neg 1) 0)) (nS n _) hel (u0 F (me F F.one) (me F hm1)) (λx hx=>by have hx':=hel x hx;rw [u9 F hx' (by simp [l6]) (me F F.one) (me F hm1),s8 F hx' F.one _ _ (by omega),s8 F hx' hm1 _ _ (by omega),(kj.1 hx).2.2];show O.add (O.mul 1 1) (O.mul (O.neg 1) 1)=0;rw [F.one_mul 1 F.one,F.ie hm1,F.add_neg 1 F.one]) (by unfold oS;rw [OL];simp [l6];omega);have h2:=h1 (nth (oS O (l6 (n+1) 1 n) (l6 (n+1) (O.neg 1) 0)) n) (aH (by unfold oS;rw [OL];simp [l6]));rw [vF (by simp [l6]) (by simp [l6]),rV (by omega),rV (by omega),Nd rfl,Nf (by omega),F.add_zero 1 F.one] at h2;exact absurd h2 (by decide)
 ·have hlt : ∀j,j<n->j * s<q - 1:=λj hj=>by rw [hs];exact Nat.mul_lt_mul_of_pos_right hj (by omega)
  have hnd : ((List.range n).map λj=>iE O g (j * s)).Nodup:=by unfold List.Nodup;rw [O6];refine List.nodup_range.imp_of_mem λ{a b} ha hb hne e=>hne ?_;have h3:=h.inj _ _ (hlt a (List.mem_range.1 ha)) (hlt b (List.mem_range.1 hb)) e;exact Nat.eq_of_mul_eq_mul_right (by omega) h3
  have h2:=j9 (T:=rtTo O n (q - 1)) hnd λx hx=>by obtain ⟨j,hj,rfl⟩:=List.mem_map.1 hx;have hpe:=gQ F h.el (j * s);have hrg:=(h.rng _).1 hpe;have hne:=h.ne (j * s);refine kj.2 ⟨by omega,by omega,?_⟩;rw [<- rR F h.el,show j * s * n=(q - 1) * j by rw [hs,PI,Oe s n,Oe],rR F h.el,h.last,u2 F]
  simpa using h2
def iK (O : aL) (U : Lz) (N : Nat) : Nat->Lz
 | 0=>[]
 | k+1=>if (iK O U N k).length<N/\¬ ((k : Int)+1) ∈ iK O U N k then iK O U N k ++ dt (U.map (O.mul ((k : Int)+1))) else iK O U N k
structure MN (O : aL) (El : Int->Prop) (U : Lz) (s : Nat) (X : Lz) : Prop where
 nd : X.Nodup
 el : ∀y ∈ X,El y/\y ≠ 0
 cl : ∀y ∈ X,∀u ∈ U,O.mul y u ∈ X
 blk : ∃c,X.length=s * c/\∀j t,j<c->t<s->iE O (nth X (s * j+t)) s=iE O (nth X (s * j)) s
theorem yp {a b : Lz} {i : Nat} (h : i<a.length) : nth (a ++ b) i=nth a i:=by unfold nth;rw [Ng,Ng,Ny h]
theorem yo {a b : Lz} {i : Nat} : nth (a ++ b) (a.length+i)=nth b i:=by unfold nth;rw [Ng,Ng,NY (by omega),Nat.add_sub_cancel_left]
theorem K7 (F : bF O El) {U X : Lz} {s : Nat} (hs : 1<=s) (hUn : U.Nodup) (hUl : U.length=s) (hU : ∀u,u ∈ U ↔ El u/\u ≠ 0/\iE O u s=1) (h : MN O El U s X) {x : Int} (hx : El x) (h0 : x ≠ 0) (hn : ¬ x ∈ X) :
  MN O El U s (X ++ dt (U.map (O.mul x))):=by
 have hUe : ∀u ∈ U,El u/\u ≠ 0/\iE O u s=1:=λu hu=>(hU u).1 hu;have hinv : ∀u ∈ U,O.inv u ∈ U/\O.mul u (O.inv u)=1:=λu hu=>by
  obtain ⟨a,b,c⟩:=hUe u hu;have hi:=F.cl.inv u a b;have hm:=F.mul_inv u a b;refine ⟨(hU _).2 ⟨hi,λe=>?_,?_⟩,hm⟩
  ·rw [e,F.cQ a] at hm;exact absurd hm (by decide)
  ·have h1:=rZ F a hi s;rw [hm,u2 F,c,F.one_mul _ (gQ F hi s)] at h1;exact h1.symm
 have hmem : ∀y,y ∈ dt (U.map (O.mul x)) ↔ ∃u ∈ U,O.mul x u=y:=λy=>by rw [(eC _).mem_iff,Pp]
 have hmul : ∀ {u v : Int},El u->El v->u ≠ 0->v ≠ 0->O.mul u v ≠ 0:=λhu hv h1 h2 e=>h2 (F.Al hu hv h1 e);refine ⟨?_,λy hy=>?_,λy hy u hu=>?_,?_⟩
 ·unfold List.Nodup;rw [Ql];refine ⟨h.nd,?_,λa ha b hb e=>?_⟩
  ·refine ((eC (U.map (O.mul x))).nodup_iff).2 ?_;unfold List.Nodup;rw [O6];refine hUn.imp_of_mem λ{u v} hu hv hne e=>hne ?_;obtain ⟨a1,a2,_⟩:=hUe u hu;obtain ⟨b1,_,_⟩:=hUe v hv;have e1 : O.mul (O.inv x) (O.mul x u)=O.mul (O.inv x) (O.mul x v):=by rw [e]
   have hi:=F.cl.inv x hx h0;rw [<- F.mul_assoc _ _ _ hi hx a1,<- F.mul_assoc _ _ _ hi hx b1,F.mul_comm _ _ hi hx,F.mul_inv x hx h0,F.one_mul _ a1,F.one_mul _ b1] at e1;exact e1
  ·subst e;obtain ⟨u,hu,e⟩:=(hmem a).1 hb;obtain ⟨hi1,hi2⟩:=hinv u hu;obtain ⟨u1,_,_⟩:=hUe u hu;obtain ⟨i1,_,_⟩:=hUe _ hi1;have h1:=h.cl a ha _ hi1;rw [<- e,F.mul_assoc _ _ _ hx u1 i1,hi2,F.ie hx] at h1;exact hn h1
 ·rcases List.mem_append.1 hy with hy | hy
  ·exact h.el y hy
  ·obtain ⟨u,hu,rfl⟩:=(hmem y).1 hy;obtain ⟨a1,a2,_⟩:=hUe u hu;exact ⟨F.cl.mul _ _ hx a1,hmul hx a1 h0 a2⟩
 ·rcases List.mem_append.1 hy with hy | hy
  ·exact List.mem_append.2 (.inl (h.cl y hy u hu))
  ·obtain ⟨v,hv,rfl⟩:=(hmem y).1 hy;obtain ⟨a1,a2,a3⟩:=hUe u hu;obtain ⟨b1,b2,b3⟩:=hUe v hv;refine List.mem_append.2 (.inr ((hmem _).2 ⟨O.mul v u,(hU _).2 ⟨F.cl.mul _ _ b1 a1,hmul b1 a1 b2 a2,?_⟩,?_⟩))
   ·rw [rZ F b1 a1,b3,a3,F.one_mul 1 F.one]
   ·exact (F.mul_assoc _ _ _ hx b1 a1).symm
 ·obtain ⟨c,hc,hb⟩:=h.blk;have hl : (dt (U.map (O.mul x))).length=s:=by rw [gv,Nq,hUl]
  refine ⟨c+1,by rw [Nl,hl,hc,PZ],λj t hj ht=>?_⟩;have hin : ∀t,t<s->iE O (nth (dt (U.map (O.mul x))) t) s=iE O x s:=λt ht=>by obtain ⟨u,hu,e⟩:=(hmem _).1 (aH (l:=dt (U.map (O.mul x))) (i:=t) (by rw [hl];exact ht));obtain ⟨a1,_,a3⟩:=hUe u hu;rw [<- e,rZ F hx a1,a3,F.ie (gQ F hx s)]
  rcases N3 j c with hjc | hjc
  ·have hle : s * j+s<=s * c:=by rw [<- PZ];exact OW s hjc
   rw [yp (by rw [hc];omega),yp (by rw [hc];omega)];exact hb j t hjc ht
  ·obtain rfl : j=c:=by omega
   rw [<- hc,yo,hin t ht];have e0 : nth (X ++ dt (U.map (O.mul x))) X.length=nth (dt (U.map (O.mul x))) 0:=yo (i:=0);rw [e0,hin 0 (by omega)]
theorem IM (F : bF O El) (h : K1 O El q g) {s c : Nat} (hs : 1<=s) (hd : s ∣ q - 1) (hc : s * c<=q - 1) :
  MN O El (rtTo O s (q - 1)) s (iK O (rtTo O s (q - 1)) (s * c) (q - 1))/\(iK O (rtTo O s (q - 1)) (s * c) (q - 1)).length=s * c:=by
 have hq:=h.q2;obtain ⟨U,hUe⟩ : ∃U,rtTo O s (q - 1)=U:=⟨_,rfl⟩
 have hUl : U.length=s:=by rw [<- hUe];exact Fz F h hs hd
 have hUn : U.Nodup:=by rw [<- hUe];exact nS s _
 have hU : ∀u,u ∈ U ↔ El u/\u ≠ 0/\iE O u s=1:=λu=>by
  rw [<- hUe,kj];constructor
  ·rintro ⟨a,b,e⟩;exact ⟨(h.rng u).2 ⟨by omega,by omega⟩,by omega,e⟩
  ·rintro ⟨a,b,e⟩;have:=(h.rng u).1 a;exact ⟨by omega,by omega,e⟩
 rw [hUe];have h1U : (1 : Int) ∈ U:=(hU 1).2 ⟨F.one,by decide,u2 F s⟩;have key : ∀k,k<=q - 1->MN O El U s (iK O U (s * c) k)/\(iK O U (s * c) k).length<=s * c/\((∀j : Nat,j<k->((j : Int)+1) ∈ iK O U (s * c) k)\/(iK O U (s * c) k).length=s * c):=λk=>by
  induction k with
  | zero=>intro _;exact ⟨⟨Rc,by simp [iK],by simp [iK],0,by simp [iK],λj t hj=>by omega⟩,by simp [iK],.inl λj hj=>by omega⟩
  | succ k ih =>
   intro hk
   obtain ⟨i1,i2,i3⟩:=ih (by omega)
   rw [iK]
   by_cases hcnd : (iK O U (s * c) k).length<s * c/\¬ ((k : Int)+1) ∈ iK O U (s * c) k
   ·rw [Nd hcnd]
    have hxe : El ((k : Int)+1):=(h.rng _).2 ⟨by omega,by omega⟩
    have hx0 : ((k : Int)+1) ≠ 0:=by omega
    have hst:=K7 F hs hUn hUl hU i1 hxe hx0 hcnd.2
    obtain ⟨c',hc',_⟩:=i1.blk
    have hl : (dt (U.map (O.mul ((k : Int)+1)))).length=s:=by rw [gv,Nq,hUl]
    have hcc : c'<c:=by refine OJ λhn=>?_;have h1:=OW s (show c<=c' by omega);have h2:=hcnd.1;omega
    have hle : s * c'+s<=s * c:=by rw [<- PZ];exact OW s hcc
    refine ⟨hst,by rw [Nl,hl,hc'];exact hle,.inl λj hj=>?_⟩
    rcases N3 j k with hjk | hjk
    ·rcases i3 with h3 | h3
     ·exact List.mem_append.2 (.inl (h3 j hjk))
     ·exact absurd h3 (by have:=hcnd.1;omega)
    ·obtain rfl : j=k:=by omega
     refine List.mem_append.2 (.inr ((eC _).mem_iff.2 (List.mem_map.2 ⟨1,h1U,F.ie hxe⟩)))
   ·rw [Nf hcnd]
    refine ⟨i1,i2,?_⟩
    by_cases hlt : (iK O U (s * c) k).length<s * c
    ·have hin : ((k : Int)+1) ∈ iK O U (s * c) k:=OJ λhn=>hcnd ⟨hlt,hn⟩
     rcases i3 with h3 | h3
     ·refine .inl λj hj=>?_
      rcases N3 j k with hjk | hjk
      ·exact h3 j hjk
      ·obtain rfl : j=k:=by omega
       exact hin
     ·exact .inr h3
    ·exact .inr (by omega)
 obtain ⟨i1,i2,i3⟩:=key (q - 1) (Na _);refine ⟨i1,?_⟩;rcases i3 with h3 | h3
 ·have hnd : ((List.range (q - 1)).map λj : Nat=>(j : Int)+1).Nodup:=by unfold List.Nodup;rw [O6];exact Qb (λhne e=>hne (by omega)) QJ
  have h4:=j9 (T:=iK O U (s * c) (q - 1)) hnd λx hx=>by obtain ⟨j,hj,rfl⟩:=List.mem_map.1 hx;exact h3 j (List.mem_range.1 hj)
  rw [Nq,N7] at h4;omega
 ·exact h3
def ju (r j : Nat) : Nat:=j+j / r
theorem Ll {r i j : Nat} (h : i<j) : ju r i<ju r j:=by unfold ju;have:=Re (c:=r) (Rq h);omega
theorem Mb {r : Nat} (hr : 1<=r) (j : Nat) : ju r j=(r+1) * (j / r)+j % r:=by unfold ju;have h:=O7 j r;rw [PC];omega
theorem La {r : Nat} (hr : 1<=r) (j : Nat) : ju r j % (r+1)<r:=by have h1:=O1 j (show r > 0 by omega);rw [Mb hr,Nat.mul_add_mod,PX (by omega)];exact h1
end
theorem pK {G : dn} {l : Lz} (h : dY G.q l=true) : G.Ec l:=λx hx=>by have h1:=List.all_eq_true.1 h x hx;simpa [jR,dn.El] using h1
theorem Es {w : World} {b : Nat} {G : dn} (q pb : Nat) (x : Int) (hc : w.cell? ⟨q,0,none⟩=some (.pointer (some ⟨pb,0,none⟩))) (hp : w.cell? ⟨pb,0,none⟩=some (.pointer (some ⟨b,0,none⟩))) (h : ew w b G) :
  Calls prog 183 #[.int .i64 x,.pointer (some ⟨q,0,none⟩)] w λe w'=>e = .returned (.bool (!(decide (0<=x) && decide (x<G.q))))/\w=w':=by
 go_enter func183,ntmps183;go_wp2_with fail;refine (Mn x h).mono ?_;rintro e w' ⟨rfl,rfl⟩;obtain ⟨z,hz⟩ : ∃z,(decide (0<=x) && decide (x<G.q))=z:=⟨_,rfl⟩
 have Hz:=Z5 hz;rw [hz];clear hz;cases z
 ·go_wp2_with fail;go_ret;exact ⟨aZ (by rw [Hz.out];rfl),rfl⟩
 ·go_wp2_with fail;go_ret;exact ⟨aZ (by rw [Hz.out];rfl),rfl⟩
theorem Ap (p : Int->Bool) (q : Nat) (a : OA) (n c : Nat) (l : Lz) (w : World) (hi : Ints w a n l) (hf : ∀k,k<n->Calls prog 183 #[.int .i64 (nth l k),.pointer (some ⟨q,0,none⟩)] w λe w'=>e = .returned (.bool (p (nth l k)))/\w=w') :
  Calls prog 111 #[.slice a n c,.func (.func 183) #[] #[.pointer (some ⟨q,0,none⟩)]] w λe w'=>∃z : Int,e = .returned (.int .i64 z)/\(0<=z ↔ l.any p=true)/\w=w':=by
 have hpl:=hi.pl;have hmax:=hi.max;have HF:=Z5 hf;have Hl:=Z5 hi.len;unfold maxLen at hmax;clear hf;go_enter func111,ntmps111;go_wp2_with fail;go_loop [8] (λiv=>∃k : Nat,k<=n/\iv = .int .i64 k/\Hid (∀j,j<k->p (nth l j)=false)) (λiv=>n - (intOf iv).toNat);case atStart=>exact ⟨0,Ni _,rfl,λj hj=>by omega⟩
 case round =>
  obtain ⟨k,hk,rfl,hno⟩:=hrel
  by_cases hlt : k<n
  ·have ck:=hi.cell k hlt
   have hfk:=HF.out k hlt
   obtain ⟨z,hz⟩ : ∃z,p (nth l k)=z:=⟨_,rfl⟩
   rw [hz] at hfk
   have Hk:=Z5 hfk
   cases z
   ·have Hn : Hid (∀j,j<k+1->p (nth l j)=false):=λj hj=>by
     by_cases e : j=k
     ·subst e;exact hz
     ·exact hno.out j (by omega)
    clear hz hfk hno
    go_wp2_with fail
    refine Hk.out.mono ?_
    rintro e w' ⟨rfl,rfl⟩
    go_wp2_with fail
    go_round
    case rel=>exact ⟨k+1,by omega,by go_num,Hn.out⟩
    case measure=>simp [intOf] <;> omega
   ·have Hy : Hid (l.any p=true):=by show _=_;rw [P0];exact ⟨nth l k,aH (by rw [Hl.out];exact hlt),hz⟩
    clear hz hfk hno
    go_wp2_with fail
    refine Hk.out.mono ?_
    rintro e w' ⟨rfl,rfl⟩
    go_wp2_with fail
    go_ret
    exact ⟨k,rfl,⟨λ_=>by first | exact Hy.out | exact List.any_eq_true.1 Hy.out,λ_=>PD _⟩,rfl⟩
  ·obtain rfl : k=n:=by omega
   have Hy : Hid (l.any p=false):=by show _=_;rw [Qe];intro x hx;obtain ⟨j,hj,rfl⟩:=List.mem_iff_getElem.1 hx;have:=hno.out j (by rw [<- Hl.out];exact hj);rw [aj hj] at this;rw [this];decide
   go_wp2_with fail
   go_ret
   exact ⟨-1,rfl,⟨λh=>absurd h (by omega),λh=>by have h2 : l.any p=true:=(by first | exact h | exact List.any_eq_true.2 h);rw [Hy.out] at h2;exact absurd h2 (by decide)⟩,rfl⟩
theorem uI (p : Int->Bool) (q : Nat) (a : OA) (n c : Nat) (l : Lz) (w : World) (hi : Ints w a n l) (hf : ∀k,k<n->Calls prog 183 #[.int .i64 (nth l k),.pointer (some ⟨q,0,none⟩)] w λe w'=>e = .returned (.bool (p (nth l k)))/\w=w') :
  Calls prog 53 #[.slice a n c,.func (.func 183) #[] #[.pointer (some ⟨q,0,none⟩)]] w λe w'=>e = .returned (.bool (l.any p))/\w=w':=by
 have Hc:=Z5 (Ap p q a n c l w hi hf);clear hf;go_enter func53,ntmps53;go_wp2_with fail;refine Hc.out.mono ?_;rintro e w' ⟨z,rfl,hz,rfl⟩;by_cases h0 : 0<=z
 ·have Hz : Hid (l.any p=true):=hz.1 h0;have h0' : decide (0<=z)=true:=by simpa using h0
  clear hz h0;go_wp2_with fail;go_ret;exact ⟨aZ Hz.out.symm,rfl⟩
 ·have Hz : Hid (l.any p=false):=by
   show _=_;cases h : l.any p
   ·rfl
   ·exact absurd (hz.2 h) h0
  have h0' : decide (0<=z)=false:=by simpa using h0
  clear hz h0;go_wp2_with fail;go_ret;exact ⟨aZ Hz.out.symm,rfl⟩
def dU (P M : Int) (mod : Lz) (N : Int) (L : ZZ) (y : Lz) (W : Int) : Int :=
 if aF P M mod N L=0 then (if (y.length : Int) ≠ N then 4 else if dY (af P M.toNat mod).q y=false then 2 else if W<0\/N<W then 6 else 0) else aF P M mod N L
def oW (P M : Int) (am : OA) (mn cm : Nat) (mod : Lz) (N : Int) (a : OA) (n c : Nat) (L : ZZ) (ay : OA) (ny cy : Nat) (y : Lz) (W : Int) (w : World) (e : Ending) (w' : World) : Prop :=
 SW w w'/\((dU P M mod N L y W ≠ 0/\e = .returned (.tuple #[.pointer none,.int .i64 (dU P M mod N L y W)])) \/
 (dU P M mod N L y W=0/\∃pb,e = .returned (.tuple #[.pointer (some ⟨pb,0,none⟩),.int .i64 0])/\KA P M am mn cm mod N.toNat a n c L ay ny cy ⟨0,W.toNat,true,y⟩ w w' pb))
theorem ue (P M : Int) (am : OA) (mn cm : Nat) (mod : Lz) (N : Int) (a : OA) (n c : Nat) (L : ZZ) (ay : OA) (ny cy : Nat) (y : Lz) (W : Int) (w : World) (hmod : Ints w am mn mod) (hi : br w a n L) (hy : Ints w ay ny y) :
  Calls prog 127 #[.agg #[.int .i64 P,.int .i64 M,.slice am mn cm,.int .i64 N,.slice a n c],.slice ay ny cy,.int .i64 W] w (oW P M am mn cm mod N a n c L ay ny cy y W w):=by
 have Hil:=Z5 hi.len;have Hyl:=Z5 hy.len;go_enter func127,ntmps127;go_wp2_with fail;obtain ⟨U,hU⟩ : ∃U : World,U=w.alloc (.cells #[.int .i64 P,.int .i64 M,.slice am mn cm,.int .i64 N,.slice a n c] 27):=⟨_,rfl⟩
 rw [<- hU];have hbU : SW w U:=by rw [hU];exact an _ _
 have x0 : aN U w.heap.size [.int .i64 P,.int .i64 M,.slice am mn cm,.int .i64 N,.slice a n c]:=by rw [hU];exact R9 _ _ _ rfl
 have HX:=Z5 x0;clear hU x0;refine (DY P M am mn cm mod N a n c L W U (hmod.ah hbU) (hi.ah hbU)).mono ?_;rintro e w1 ⟨hb1,⟨hE,rfl⟩ | ⟨hE,b,w2,rfl,hb2,hG,hb3,hB⟩⟩
 ·have HE : Hid (dU P M mod N L y W=aF P M mod N L):=Nf hE;have Hne:=Z5 hE;have hE1 : (aF P M mod N L == 0)=false:=by simpa using hE
  have hE2 : (aF P M mod N L != 0)=true:=by simpa using hE
  have hbF:=RZ (RZ hbU hb1) (an w1 (.cells #[.pointer none] 143));clear hE;go_wp2_with fail;go_ret2;exact ⟨hbF,.inl ⟨by rw [HE.out];exact Hne.out,by rw [HE.out];rfl⟩⟩
 ·have HE : Hid (dU P M mod N L y W=if (ny : Int) ≠ N then 4 else if dY (af P M.toNat mod).q y=false then 2 else if W<0\/N<W then 6 else 0):=by show _=_;rw [dU,Nd hE,Hyl.out]
  have Hrw:=Z5 (bJ hE);have hbn:=an w1 (.cells #[.pointer (some ⟨w2.heap.size,0,none⟩)] 143);have hbF:=RZ (RZ hbU hb1) hbn;have xq : (w1.alloc (.cells #[.pointer (some ⟨w2.heap.size,0,none⟩)] 143)).cell? ⟨w1.heap.size,0,none⟩=some (.pointer (some ⟨w2.heap.size,0,none⟩)):=aI _ _ _ rfl 0;have hB4:=hB.ah hbn;have hb34:=RZ hb3 hbn;have hG4:=hG.ah hb34;have x4:=(HX.out.ah hb1).ah hbn;have c3:=x4.cell 3 rfl;have p0:=hB4.cell 0 rfl;have hy4:=(hy.ah hbU).ah (RZ hb1 hbn);have HCo:=Z5 (uI (λx=>!(decide (0<=x) && decide (x<(af P M.toNat mod).q))) w1.heap.size ay ny cy y _ hy4 λk hk=>Es w1.heap.size w2.heap.size (nth y k) xq p0 hG4);rw [zl] at HCo;have HB:=Z5 hB4;have HB1:=Z5 hB;have hmf : ∀(fn : Fn) (first cap : Array Value) (w : World),(Instr.makeFunc fn first cap).run prog w = .ok (.func fn first cap) w:=λ_ _ _ _=>rfl;have hsw1 : w2.heap.size ≠ w1.heap.size:=by have:=hB.1;omega
  clear hB p0 hE hy4 hG4;by_cases h1 : (ny : Int) ≠ N
  ·have HE2 : Hid (dU P M mod N L y W=4):=by show _=_;rw [HE.out,Nd h1]
   have d1 : ((ny : Int) != N)=true:=by simpa using h1
   clear h1;go_wp2_with fail;go_ret2;exact ⟨hbF,.inl ⟨by rw [HE2.out];decide,by rw [HE2.out];rfl⟩⟩
  have hny : (ny : Int)=N:=Classical.not_not.1 h1;have d1 : ((ny : Int) != N)=false:=by simp [hny]
  have HE1 : Hid (dU P M mod N L y W=if dY (af P M.toNat mod).q y=false then 2 else if W<0\/N<W then 6 else 0):=by show _=_;rw [HE.out,Nf h1]
  have Hny:=Z5 hny;clear h1 hny;obtain ⟨ze,hze⟩ : ∃ze,dY (af P M.toNat mod).q y=ze:=⟨_,rfl⟩
  rw [hze] at HCo HE1;have Hze:=Z5 hze;clear hze;cases ze
  ·have HE2 : Hid (dU P M mod N L y W=2):=by show _=_;rw [HE1.out,Nd rfl]
   go_wp2_with fail;refine HCo.out.mono ?_;rintro e w5 ⟨rfl,rfl⟩;go_wp2_with fail;go_ret2;exact ⟨hbF,.inl ⟨by rw [HE2.out];decide,by rw [HE2.out];rfl⟩⟩
  have HE3 : Hid (dU P M mod N L y W=if W<0\/N<W then 6 else 0):=by show _=_;rw [HE1.out,Nf (by decide)]
  by_cases h3 : W<0
  ·have HE2 : Hid (dU P M mod N L y W=6):=by show _=_;rw [HE3.out,Nd (.inl h3)]
   have d3 : decide (W<0)=true:=by simpa using h3
   clear h3;go_wp2_with fail;refine HCo.out.mono ?_;rintro e w5 ⟨rfl,rfl⟩;go_wp2_with fail;go_ret2;exact ⟨hbF,.inl ⟨by rw [HE2.out];decide,by rw [HE2.out];rfl⟩⟩
  have d3 : decide (W<0)=false:=by simpa using h3
  by_cases h4 : N<W
  ·have HE2 : Hid (dU P M mod N L y W=6):=by show _=_;rw [HE3.out,Nd (.inr h4)]
   have d4 : decide (N<W)=true:=by simpa using h4
   clear h3 h4;go_wp2_with fail;refine HCo.out.mono ?_;rintro e w5 ⟨rfl,rfl⟩;go_wp2_with fail;go_ret2;exact ⟨hbF,.inl ⟨by rw [HE2.out];decide,by rw [HE2.out];rfl⟩⟩
  have d4 : decide (N<W)=false:=by simpa using h4
  have HE2 : Hid (dU P M mod N L y W=0):=by
   show _=_;rw [HE3.out,Nf];rintro (h | h)
   ·exact h3 h
   ·exact h4 h
  obtain ⟨m,hm,hm1,hm2,hLl,hRw⟩:=Hrw.out;have hPE0 : Hid (Eg w2 b (af P M.toNat mod) a n L N.toNat ay ny ⟨0,W.toNat,true,y⟩):=by
   have hn256 : n<=1000000:=by rw [<- Hil.out];omega
   have hNm : N.toNat=ny:=by have:=Hny.out;omega
   have hyw2:=(hy.ah hbU).ah hb2;exact { g:=hG,jt:=(hi.ah hbU).ah hb2,rws:=by rw [hm,Nb];exact hRw,n6:=hn256,m6:=by omega,w6:=by show W.toNat<=64;omega,yl:=λ_=>hNm.symm,y:=λ_=>by rw [hNm];exact hyw2,ye:=λ_=>pK Hze.out }
  have Hnn:=Z5 (Np (show 0<=N by omega) (show 0<=W by omega));go_wp2_with fail;refine HCo.out.mono ?_;rintro e w5 ⟨rfl,rfl⟩;clear HCo;go_wp2_with fail;obtain ⟨Y,hY⟩ : ∃Y : World,Y=w1.alloc (.cells #[.pointer (some ⟨w2.heap.size,0,none⟩)] 143):=⟨_,rfl⟩
  rw [<- hY] at HB xq hbF hb34 ⊢;have HF : Hid (∀Z : World,Z=((Y.setCell ⟨w2.heap.size,6,none⟩ (.slice ay ny cy)).setCell ⟨w2.heap.size,7,none⟩ (.bool true)).drew->oW P M am mn cm mod N a n c L ay ny cy y W w (.returned (.tuple #[.pointer (some ⟨w2.heap.size,0,none⟩),.int .i64 0])) Z):=λZ hZ=>by rw [hZ];have h5:=((HB.out.setCell 6 (.slice ay ny cy)).setCell 7 (.bool true)).ah (Nc _ _).drew;refine ⟨((hbF.setCell (p:=⟨w2.heap.size,6,none⟩) (Nr hbU.size hb2.size) _).setCell (p:=⟨w2.heap.size,7,none⟩) (Nr hbU.size hb2.size) _).drew,.inr ⟨HE2.out,w2.heap.size,rfl,b,w2,rfl,RZ hbU hb2,hPE0.out,((hb34.setCell (by simp) _).setCell (by simp) _).drew,?_⟩⟩;rw [qG];dsimp only;rw [Oc Hnn.out.1,Oc Hnn.out.2];exact h5
  have HF2 : Hid (∀Z : World,Z=((Y.setCell ⟨w2.heap.size,6,none⟩ (.slice ay ny cy)).setCell ⟨w2.heap.size,7,none⟩ (.bool true))->oW P M am mn cm mod N a n c L ay ny cy y W w (.returned (.tuple #[.pointer (some ⟨w2.heap.size,0,none⟩),.int .i64 0])) Z):=λZ hZ=>by
   rw [hZ];have h5:=((HB.out.setCell 6 (.slice ay ny cy)).setCell 7 (.bool true))
   refine ⟨((hbF.setCell (p:=⟨w2.heap.size,6,none⟩) (Nr hbU.size hb2.size) _).setCell (p:=⟨w2.heap.size,7,none⟩) (Nr hbU.size hb2.size) _),.inr ⟨HE2.out,w2.heap.size,rfl,b,w2,rfl,RZ hbU hb2,hPE0.out,((hb34.setCell (by simp) _).setCell (by simp) _),?_⟩⟩;rw [qG];dsimp only;rw [Oc Hnn.out.1,Oc Hnn.out.2];exact h5
  have f6:=HB.out.frozen 6;have q6:=HB.out.cell 6 rfl;have f7:=HB.out.frozen 7;have q7:=HB.out.cell 7 rfl;have s7 : (Y.setCell ⟨w2.heap.size,6,none⟩ (.slice ay ny cy)).cell? ⟨w2.heap.size,7,none⟩=some (.bool false):=(HB.out.setCell 6 (.slice ay ny cy)).cell 7 rfl;have s6 : (Y.setCell ⟨w2.heap.size,7,none⟩ (.bool true)).cell? ⟨w2.heap.size,6,none⟩=some (.slice none 0 0):=(HB.out.setCell 7 (.bool true)).cell 6 rfl;have x6 : (Y.setCell ⟨w2.heap.size,6,none⟩ (.slice ay ny cy)).cell? ⟨w1.heap.size,0,none⟩=some (.pointer (some ⟨w2.heap.size,0,none⟩)):=by rw [NC _ _ _ _ (by simp <;> omega)];exact xq
  have x7 : (Y.setCell ⟨w2.heap.size,7,none⟩ (.bool true)).cell? ⟨w1.heap.size,0,none⟩=some (.pointer (some ⟨w2.heap.size,0,none⟩)):=by rw [NC _ _ _ _ (by simp <;> omega)];exact xq
  have x67 : ((Y.setCell ⟨w2.heap.size,6,none⟩ (.slice ay ny cy)).setCell ⟨w2.heap.size,7,none⟩ (.bool true)).cell? ⟨w1.heap.size,0,none⟩=some (.pointer (some ⟨w2.heap.size,0,none⟩)):=by rw [NC _ _ _ _ (by simp <;> omega)];exact x6
  clear h3 h4 hm hm1 hm2 hY hbF hb34;go_region;all_goals (
   go_wp2_with fail
   go_ret2
   first | exact HF.out _ rfl | exact HF2.out _ rfl)
def jU (P M : Int) (mod : Lz) (N : Int) (L : ZZ) (y : Lz) (W : Int) (ts : ZZ) : Int :=
 if dU P M mod N L y W=0 then provS (af P M.toNat mod).ops L N.toNat ⟨0,W.toNat,true,y⟩ ts else dU P M mod N L y W
def jV (P M : Int) (mod : Lz) (N : Int) (L : ZZ) (y : Lz) (W : Int) : Int × ZZ :=
 if dU P M mod N L y W=0 then vD (af P M.toNat mod).ops L N.toNat ⟨0,W.toNat,true,y⟩ else (dU P M mod N L y W,[])
theorem ub (P M : Int) (am : OA) (mn cm : Nat) (mod : Lz) (N : Int) (a : OA) (n c : Nat) (L : ZZ) (ay : OA) (ny cy : Nat) (y : Lz) (W : Int) (ax : OA) (nx cx : Nat) (ts : ZZ) (w : World)
  (hmod : Ints w am mn mod) (hi : br w a n L) (hy : Ints w ay ny y) (hts : br w ax nx ts) :
  Calls prog 82 #[.agg #[.int .i64 P,.int .i64 M,.slice am mn cm,.int .i64 N,.slice a n c],.slice ay ny cy,.int .i64 W,.agg #[.slice ax nx cx]] w λe w'=>e = .returned (.int .i64 (jU P M mod N L y W ts))/\SW w w':=by
 go_enter func82,ntmps82;go_wp2_with fail;obtain ⟨U,hU⟩ : ∃U : World,U=(w.alloc (.cells #[.int .i64 P,.int .i64 M,.slice am mn cm,.int .i64 N,.slice a n c] 27)).alloc (.cells #[.slice ax nx cx] 103):=⟨_,rfl⟩
 rw [<- hU];have hbU : SW w U:=by rw [hU];exact bN _ _ _
 have x0 : aN U (w.heap.size+1) [.slice ax nx cx]:=by rw [hU];exact R9 _ _ _ (by simp)
 have HX:=Z5 x0;clear hU x0;refine (ue P M am mn cm mod N a n c L ay ny cy y W U (hmod.ah hbU) (hi.ah hbU) (hy.ah hbU)).mono ?_;rintro e w1 ⟨hb1,⟨hE,rfl⟩ | ⟨hE,pb,rfl,hCl⟩⟩
 ·have HE : Hid (jU P M mod N L y W ts=dU P M mod N L y W):=Nf hE;have hE1 : (dU P M mod N L y W == 0)=false:=by simpa using hE
  have hE2 : (dU P M mod N L y W != 0)=true:=by simpa using hE
  have hbF:=RZ hbU hb1;clear hE;go_wp2_with fail;go_ret;exact ⟨by rw [HE.out];rfl,hbF⟩
 ·have HE : Hid (jU P M mod N L y W ts=provS (af P M.toNat mod).ops L N.toNat ⟨0,W.toNat,true,y⟩ ts):=Nd hE;have x1:=HX.out.ah hb1;have c0:=x1.cell 0 rfl;obtain ⟨b,w2,rfl,hb2,hPE,hb3,hB⟩:=hCl;have HPr:=Z5 (zB w2.heap.size P M am mn cm c cy ax nx cx ts hPE ((hts.ah hbU).ah hb2) (Na _) hb3 hB);have hbw2:=RZ hbU hb2;clear x1 hB hPE hE;go_wp2_with fail;refine HPr.out.mono ?_;rintro e w3 ⟨rfl,hb4⟩;have hbF:=RZ hbw2 hb4;go_wp2_with fail;go_ret;exact ⟨by rw [HE.out];rfl,hbF⟩
theorem th (P M : Int) (am : OA) (mn cm : Nat) (mod : Lz) (N : Int) (a : OA) (n c : Nat) (L : ZZ) (ay : OA) (ny cy : Nat) (y : Lz) (W : Int) (w : World)
  (hmod : Ints w am mn mod) (hi : br w a n L) (hy : Ints w ay ny y) :
  Calls prog 75 #[.agg #[.int .i64 P,.int .i64 M,.slice am mn cm,.int .i64 N,.slice a n c],.slice ay ny cy,.int .i64 W] w (nH (jV P M mod N L y W) w):=by
 obtain ⟨V,hV⟩ : ∃V,jV P M mod N L y W=V:=⟨_,rfl⟩
 rw [hV];have HV:=Z5 hV;clear hV;go_enter func75,ntmps75;go_wp2_with fail;obtain ⟨U,hU⟩ : ∃U : World,U=(w.alloc (.cells #[.int .i64 P,.int .i64 M,.slice am mn cm,.int .i64 N,.slice a n c] 27)).alloc (.cells #[.slice none 0 0] 103):=⟨_,rfl⟩
 rw [<- hU];have hbU : SW w U:=by rw [hU];exact bN _ _ _
 have hsU : U.heap.size=w.heap.size+2:=by rw [hU];simp
 have x0 : aN U (w.heap.size+1) [.slice none 0 0]:=by rw [hU];exact R9 _ _ _ (by simp)
 have HX:=Z5 x0;clear hU x0;refine (ue P M am mn cm mod N a n c L ay ny cy y W U (hmod.ah hbU) (hi.ah hbU) (hy.ah hbU)).mono ?_;rintro e w1 ⟨hb1,⟨hE,rfl⟩ | ⟨hE,pb,rfl,hCl⟩⟩
 ·have HE : Hid (V=(dU P M mod N L y W,[])):=by show _=_;rw [<- HV.out];exact Nf hE
  have hE1 : (dU P M mod N L y W == 0)=false:=by simpa using hE
  have hE2 : (dU P M mod N L y W != 0)=true:=by simpa using hE
  have Hne:=Z5 hE;have x1:=HX.out.ah hb1;have z0:=x1.cell 0 rfl;have f0:=x1.frozen 0;have HF:=Z5 (λv : Value=>(RZ hbU hb1).setCell (p:=⟨w.heap.size+1,0,none⟩) (by simp) v);clear hE x1;generalize dU P M mod N L y W=er at *;go_wp2_with fail;have z1 : (w1.setCell ⟨w.heap.size+1,0,none⟩ (.slice none 0 0)).cell? ⟨w.heap.size+1,0,none⟩=some (.slice none 0 0):=NJ _ _ _ z0;exact bodyPost_ret (v:=.tuple #[.agg #[.slice none 0 0],.int .i64 er]) (by simp [results,results75,go_sem,z0,z1]) rfl ⟨HF.out _,.inl ⟨by rw [HE.out];exact Hne.out,by rw [HE.out]⟩⟩
 ·have HE : Hid (vD (af P M.toNat mod).ops L N.toNat ⟨0,W.toNat,true,y⟩=V):=by show _=_;rw [<- HV.out];exact (Nd hE).symm
  have x1:=HX.out.ah hb1;obtain ⟨b,w2,rfl,hb2,hPE,hb3,hB⟩:=hCl;have HPr:=EB w2.heap.size P M am mn cm c cy hPE (Na _) hb3 hB;rw [HE.out] at HPr;have HTr:=Z5 HPr;have hbw2:=RZ hbU hb2;have x2:=HX.out.ah hb2;have hs2 : w.heap.size+1<w2.heap.size:=x2.1;clear x1 hB hPE hE HPr;go_wp2_with fail;refine HTr.out.mono ?_;rintro e w3 ⟨hb4,⟨hv,rfl⟩ | ⟨hv,ar,cr,R,rfl,hO⟩⟩
  ·have x3:=x2.ah hb4;have z0:=x3.cell 0 rfl;have f0:=x3.frozen 0;have HF:=Z5 (λv : Value=>(RZ hbw2 hb4).setCell (p:=⟨w.heap.size+1,0,none⟩) (by simp) v);have Hne:=Z5 hv;obtain ⟨ve,vt⟩:=V;dsimp only at Hne ⊢;clear x3 hv;go_wp2_with fail;have z1 : (w3.setCell ⟨w.heap.size+1,0,none⟩ (.slice none 0 0)).cell? ⟨w.heap.size+1,0,none⟩=some (.slice none 0 0):=NJ _ _ _ z0;exact bodyPost_ret (v:=.tuple #[.agg #[.slice none 0 0],.int .i64 ve]) (by simp [results,results75,go_sem,z0,z1]) rfl ⟨HF.out _,.inl ⟨Hne.out,rfl⟩⟩
  ·have x3:=x2.ah hb4;have z0:=x3.cell 0 rfl;have f0:=x3.frozen 0;have hF : ∀v : Value,SW w (w3.setCell ⟨w.heap.size+1,0,none⟩ v)/\aT (w3.setCell ⟨w.heap.size+1,0,none⟩ v) w.heap.size ar V.2.length cr R V.2:=λv=>by refine ⟨(RZ hbw2 hb4).setCell (by simp) v,?_⟩;refine (aT.mono hO hbw2.size).bq λx hx=>Nz _ _ _ _ λe=>?_;have h1:=(hO.lt x hx).1;have e' : x=w.heap.size+1:=e;omega
   have HF:=Z5 hF;obtain ⟨ve,vt⟩:=V;dsimp only at hv HF ⊢;subst hv;clear x3 hO hF;go_wp2_with fail;have z1 : (w3.setCell ⟨w.heap.size+1,0,none⟩ (.slice ar vt.length cr)).cell? ⟨w.heap.size+1,0,none⟩=some (.slice ar vt.length cr):=NJ _ _ _ z0;exact bodyPost_ret (v:=.tuple #[.agg #[.slice ar vt.length cr],.int .i64 0]) (by simp [results,results75,go_sem,z0,z1]) rfl ⟨(HF.out _).1,.inr ⟨rfl,ar,cr,R,rfl,(HF.out _).2⟩⟩
section
variable {O : aL} {El : Int->Prop} {m : Nat} {L : ZZ}
structure F7 (O : aL) (El : Int->Prop) (m : Nat) (L : ZZ) (y t : Lz) (k : Nat) (st : LS) : Prop where
 rws : bp El m st.rows
 len : st.rows.length=L.length
 vc : Vc El m st.sum
 top : st.top=k
 kl : k<=L.length
 sup : fE O El m L st.rows
 sub : fE O El m st.rows L
 cos : ∃f,RS O El m L f/\(∀x,x<m->El (f x))/\∀x,x<m->nth st.sum x=O.add (nth y x) (f x)
 one : ∀i,i<k->nth (ai st.rows i) (nth t i).toNat=1
 zero : ∀j i,j<k->j<i->i<L.length->nth (ai st.rows i) (nth t j).toNat=0
 sz : ∀j,j<k->nth st.sum (nth t j).toNat=0
end
section
variable {O : aL} {El : Int->Prop} {m : Nat} {L V : ZZ}
end
section
variable {P M : Int} {mod : Lz} {m : Nat} {L : ZZ}
def bW (P M : Int) (mod : Lz) (m : Nat) (L : ZZ) (i : Int) : ZZ:=aS (af P M.toNat mod) (bZ (af P M.toNat mod).ops m (L ++ [bs m i])) m
end
section
variable {O : aL} {El : Int->Prop} {m : Nat} {L : ZZ}
end
section
variable {P M : Int} {mod : Lz} {m : Nat} {L : ZZ}
end
theorem uD {P M : Int} {mod : Lz} (h : bA P M mod=true) : ∃g,K1 (af P M.toNat mod).ops (af P M.toNat mod).El (af P M.toNat mod).q g:=by
 have F:=dM h;obtain ⟨m,y,rfl,hr,h256,hs,hq,G⟩:=ob h;rw [Nb] at F ⊢;have hel : ∀x,(af P m mod).El x ↔ gq P m x:=λx=>by simp only [dn.El,af,gq];rw [hq]
 have hpw : ∀k,iE (af P m mod).ops y k=pw P m mod y k:=λk=>by
  induction k with
  | zero=>rfl
  | succ k ih =>
   show (af P m mod).ops.mul (iE (af P m mod).ops y k) y=dQ P m mod (pw P m mod y k) y
   rw [ih]
   exact G.va (uo hr y k) G.yel
 refine ⟨y,(hel y).2 G.yel,λx=>Iff.rfl,G.q2,λx hx h0=>?_,λi j hi hj e=>?_,?_,λk=>?_⟩
 ·obtain ⟨k,hk,e,_⟩:=G.log ((hel x).1 hx) h0;exact ⟨k,hk,by rw [hpw];exact e⟩
 ·rw [hpw,hpw,<- G.val i hi,<- G.val j hj] at e;exact G.inj hi hj e
 ·rw [hpw];exact G.last
 ·rw [hpw];exact G.Lr k
section
variable {O : aL} {El : Int->Prop} {q : Nat} {g : Int}
def CZ (O : aL) (q r c : Nat) : Lz:=iK O (rtTo O (r+1) (q - 1)) ((r+1) * c) (q - 1)
def L6 (O : aL) (q r c k : Nat) : ZZ:=kr O (CZ O q r c) (ju r) k
theorem IC {r c k j : Nat} (hr : 1<=r) (hk : k<=c * r) (hj : j<k) : ju r j<=(k - 1)+(k - 1) / r/\(k - 1)+(k - 1) / r<(r+1) * c:=by
 refine ⟨?_,?_⟩
 ·unfold ju;have:=Re (c:=r) (show j<=k - 1 by omega);omega
 ·have h1 : (k - 1) / r<c:=Nat.div_lt_of_lt_mul (by rw [Oe];omega);have h2:=O7 (k - 1) r;have h3:=O1 (k - 1) (show r > 0 by omega);have h4 : r * ((k - 1) / r)+r<=r * c:=by rw [<- PZ];exact OW r h1
  rw [PC];omega
theorem L8 (F : bF O El) (h : K1 O El q g) {r c k : Nat} (hr : 1<=r) (hd : (r+1) ∣ q - 1) (hc : (r+1) * c<=q - 1) (hk1 : 1<=k) (hk : k<=c * r) :
  (CZ O q r c).length=(r+1) * c/\(∀x ∈ CZ O q r c,El x)/\(bZ O ((r+1) * c) (L6 O q r c k)).length=k /\
  (∀w,Vc El ((r+1) * c) w->RS O El ((r+1) * c) (bZ O ((r+1) * c) (L6 O q r c k)) (λi=>nth w i)->fB w ≠ 0->(r+1) * c<=fB w+((k - 1)+(k - 1) / r)) /\
  ∀j,j<c->∀l : Z6,(∀p ∈ l,(r+1) * j<=p/\p<(r+1) * j+(r+1))->l.Nodup->r<=l.length->∀p,(r+1) * j<=p->p<(r+1) * j+(r+1) ->
   jE O El (bZ O ((r+1) * c) (L6 O q r c k)).length (aR (bZ O ((r+1) * c) (L6 O q r c k))) l p:=by
 obtain ⟨hI,hl⟩:=IM F h (s:=r+1) (c:=c) (by omega) hd hc;have hl' : (CZ O q r c).length=(r+1) * c:=hl;have hX : ∀x ∈ CZ O q r c,El x:=λx hx=>(hI.el x hx).1;have hE : ∀i j,i<j->j<k->ju r i<ju r j:=λi j hij _=>Ll hij;have hD : ∀j,j<k->ju r j<=(k - 1)+(k - 1) / r:=λj hj=>(IC hr hk hj).1;have hDX : (k - 1)+(k - 1) / r<(CZ O q r c).length:=by rw [hl'];exact (IC hr hk (show 0<k by omega)).2
 unfold L6;rw [<- hl'];refine ⟨rfl,hX,JK F hI.nd hX hE hD hDX,λw hw hrs h0=>DQ F hI.nd hX hE hD hw hrs h0,λj hj l hl2 hln hlr p hp1 hp2=>?_⟩;have hlt : (r+1) * j+(r+1)<=(CZ O q r c).length:=by rw [hl',<- PZ];exact OW (r+1) hj
 obtain ⟨c',hc',hblk⟩:=hI.blk;have hcc : c'=c:=by
  have h1 : (r+1) * c'=(r+1) * c:=by rw [<- hc'];exact hl'
  exact Nat.eq_of_mul_eq_mul_left (by omega) h1
 subst hcc;have hpt : ∀p,(r+1) * j<=p->p<(r+1) * j+(r+1)->iE O (nth (CZ O q r c') p) (r+1)=iE O (nth (CZ O q r c') ((r+1) * j)) (r+1):=λp h1 h2=>by have h3:=hblk j (p - (r+1) * j) hj (by omega);rw [show (r+1) * j+(p - (r+1) * j)=p by omega] at h3;exact h3
 exact GG F hI.nd hX (r:=r) (λj _=>La hr j) (c:=iE O (nth (CZ O q r c') ((r+1) * j)) (r+1)) (gQ F (hX _ (aH (by omega))) _)
  (λp hp=>⟨by have:=(hl2 p hp).2;omega,hpt p (hl2 p hp).1 (hl2 p hp).2⟩) hln hlr (by omega) (hpt p hp1 hp2)
end
def LW (G : dn) (x : Int) (n : Nat) : Int:=nth G.ex ((nth G.lg x.toNat * ((n : Int) % ((G.q : Int) - 1))) % ((G.q : Int) - 1)).toNat
theorem J7 {P M : Int} {mod : Lz} (h : bA P M mod=true) {x : Int} (hx : (af P M.toNat mod).El x) (h0 : x ≠ 0) (n : Nat) : LW (af P M.toNat mod) x n=iE (af P M.toNat mod).ops x n:=by
 have F:=dM h;obtain ⟨m,y,rfl,hr,h256,hs,hq,G⟩:=ob h;rw [Nb] at F hx ⊢;have hel : ∀x,(af P m mod).El x ↔ gq P m x:=λx=>by simp only [dn.El,af,gq];rw [hq]
 have hpw : ∀k,iE (af P m mod).ops y k=pw P m mod y k:=λk=>by
  induction k with
  | zero=>rfl
  | succ k ih =>
   show (af P m mod).ops.mul (iE (af P m mod).ops y k) y=dQ P m mod (pw P m mod y k) y
   rw [ih]
   exact G.va (uo hr y k) G.yel
 obtain ⟨a,ha,rfl,_⟩:=G.log ((hel x).1 hx) h0;have h5:=G.q2;have e0 : nth (af P m mod).lg (pw P m mod y a).toNat=a:=G.Kj ha;have e1 : ((a : Int) * ((n : Int) % ((aJ P m).toNat - 1))) % (((aJ P m).toNat : Int) - 1)=(((a * (n % ((aJ P m).toNat - 1))) % ((aJ P m).toNat - 1) : Nat) : Int):=by
  have e2 : ((aJ P m).toNat : Int) - 1=(((aJ P m).toNat - 1 : Nat) : Int):=by omega
  rw [e2,Pc,QW,Pc]
 have e3 : (af P m mod).q=(aJ P m).toNat:=rfl;unfold LW;rw [e0,e3,e1,Nb];show nth (ji P m mod (aJ P m).toNat) _=_;rw [G.val _ (O1 _ (by omega)),G.red,<- hpw,<- hpw,<- rR F ((hel y).2 G.yel),hpw,hpw,<- G.red (a * (n % _)),<- G.red (a * n)];congr 1;rw [Nat.mul_mod,Nat.mod_mod,<- Nat.mul_mod]
section
variable {O : aL} {El : Int->Prop} {q : Nat} {g : Int}
theorem Fi (U : Lz) (N : Nat) {k : Nat} (h : N<=(iK O U N k).length) : ∀j,iK O U N (k+j)=iK O U N k
 | 0=>rfl
 | j+1=>by show iK O U N ((k+j)+1)=_;rw [iK,Fi U N h j,Nf (by omega)]
def kW (r x : Nat) : Nat:=x - x / (r+1)
theorem Gi {r x : Nat} (h : x % (r+1)=r) : kW r (x+1)=kW r x:=by
 unfold kW;have h1:=O7 x (r+1);have h2 : (x+1) / (r+1)=x / (r+1)+1:=by
  have e : x+1=0+(x / (r+1)+1) * (r+1):=by rw [PC,Oe];omega
  rw [e,Pm _ _ (by omega)];simp
 rw [h2];omega
theorem GK {r x : Nat} (hr : 1<=r) (h : x % (r+1) ≠ r) : kW r (x+1)=kW r x+1/\x=ju r (kW r x):=by
 have h1:=O7 x (r+1);have h3:=O1 x (show r+1 > 0 by omega);have hle : x / (r+1)<=x:=PG _ _;have h2 : (x+1) / (r+1)=x / (r+1):=by
  have e : x+1=(x % (r+1)+1)+(x / (r+1)) * (r+1):=by rw [Oe];omega
  rw [e,Pm _ _ (by omega),RG (by omega)];simp
 have hc : kW r x=x % (r+1)+x / (r+1) * r:=by
  unfold kW;have e : (r+1) * (x / (r+1))=x / (r+1) * r+x / (r+1):=by rw [PC,Oe]
  omega
 refine ⟨by unfold kW;rw [h2];omega,?_⟩;have hd : kW r x / r=x / (r+1):=by rw [hc,Pm _ _ (by omega),RG (by omega)];simp
 unfold ju;rw [hd];unfold kW;omega
theorem KG {r x : Nat} (hr : 1<=r) {k : Nat} (h : kW r x<k) : x<2 * k:=by unfold kW at h;have : x / (r+1)<=x / 2:=Nat.div_le_div_left (by omega) (by omega);omega
theorem FO (r : Nat) : kW r 0=0:=by simp [kW]
theorem GB (X : Lz) (E : Nat->Nat) (k : Nat) : kr O X E (k+1)=kr O X E k ++ [X.map λx=>iE O x (E k)]:=by unfold kr;rw [Ou,NM];rfl
end
def Fh (P M : Int) (mod : Lz) (c r k : Int) : Int :=
 if bA P M mod=false then 1 else if c<1\/64<c\/r<1\/64<r\/k<1\/64<k then 6 else
 if (((af P M.toNat mod).q : Int) - 1) % (r+1) ≠ 0\/(((af P M.toNat mod).q : Int) - 1) / (r+1)<c then 10 else
 if 64<c * (r+1) then 4 else if c * r<k then 9 else 0
section
variable {P M : Int} {mod : Lz} {m : Nat} {L : ZZ}
end
def gn (P M : Int) (mod : Lz) (N : Int) (L : ZZ) (y : Lz) : Int:=if aF P M mod N L=0 then fD (aJ P M) y N.toNat else aF P M mod N L

end Go.Proofs.YthglbncgemdcbaaGreat
