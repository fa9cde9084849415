import Derived.Test.YthglbncgemdcbaaGreatHE24
import Derived.Test.YthglbncgemdcbaaGreatHE23
import Derived.Test.YthglbncgemdcbaaGreatHE21
namespace Go.Proofs.YthglbncgemdcbaaGreat
set_option linter.all false
set_option maxRecDepth 100000
set_option maxHeartbeats 8000000
open Go.RowKit Go.Proofs.Tryz
theorem sZ {w w0 : World} {b : Nat} {G : bX} {a : OA} {n : Nat} {L : Ll} {m : Nat} {ay : OA} {ny : Nat} {C : jK} (pb : Nat) (P M : Int) (am : OA) (mn cm c cy : Nat)
  (ax : OA) (nx cx : Nat) (ts : Ll) (E : xz w0 b G a n L m ay ny C) (hts : bC w0 ax nx ts) (hpb : w0.heap.size<=pb) (hb : Mv w0 w) (hB : aO w pb (la b P M am mn cm m a n c ay ny cy C (.slice none 0 0) 0)) :
  Calls prog 136 #[.pointer (some ⟨pb,0,none⟩),.agg #[.slice ax nx cx]] w λe w'=>e = .returned (.int .i64 (provS G.ops L m C ts))/\Mv w0 w':=by
 have Htl:=Z5 hts.len;obtain ⟨PR,hPR⟩ : ∃PR,provS G.ops L m C ts=PR:=⟨_,rfl⟩
 rw [hPR];have HPR:=Z5 hPR;clear hPR;have hb1 : Mv w (w.alloc (.cells #[.slice ax nx cx] 103)):=an _ _;have hBa:=hB.af hb1;have f10:=hBa.frozen 10;have q10:=hBa.cell 10 rfl;have hsb : pb<w.heap.size:=hB.1;go_enter func136,ntmps136;go_wp2_with fail;obtain ⟨Z,hZ⟩ : ∃Z : World,Z=(w.setCell ⟨pb,10,none⟩ (.slice ax nx cx)).alloc (.cells #[.slice ax nx cx] 103):=⟨_,rfl⟩
 rw [<- hZ];have hBZ : aO Z pb (la b P M am mn cm m a n c ay ny cy C (.slice ax nx cx) 0):=by rw [hZ];exact (hB.setCell 10 (.slice ax nx cx)).alloc _
 have hbZ : Mv w0 Z:=by rw [hZ];exact LY (hb.setCell hpb _) (an _ _)
 clear hZ hBa f10 q10 hB;refine (oq pb P M am mn cm c cy ax nx cx ts E hts hpb C.W Z 0 none 0 0 [] none 0 0 [] (by omega) (by omega) (by omega) hbZ hBZ (L6 _ _) (L6 _ _) (λh=>by omega) (λh=>by omega) (by simp) (λx hx=>by simp at hx)).mono ?_;rintro e w5 ⟨k',g1,g2,g3,he,g5⟩;have hb5 : Mv w0 w5:=hbZ.trans (g3.below (λx hx=>by rw [hx];exact hpb) hbZ.size);rw [JS] at g5 he;have c10:=g2.cell 10 rfl;have c11:=g2.cell 11 rfl;have hP2 : PR=match folS G.ops L m C C.W [] [] ts with | some []=>0 | _=>13:=by rw [<- HPR.out];rfl
 cases hf : folS G.ops L m C C.W [] [] ts with
 | none =>
  rw [hf] at hP2 he
  have HP:=Z5 hP2
  have he' : e = .returned (.int .i64 13):=he
  subst he'
  clear hf hP2 g5 he
  have hd : ((13 : Int) == 0)=false:=rfl
  go_wp2_with fail
  go_quiet (fail)
  go_wp2_with fail
  go_ret
  exact ⟨by rw [HP.out];rfl,hb5.trans (LU (Mc ⟨_,rfl⟩) hb5.size)⟩
 | some r =>
  rw [hf] at hP2 g5 he
  have he' : e = .returned (.int .i64 0):=he
  subst he'
  clear he
  have g6 : ts.drop k'=r:=g5 rfl
  have hlen : r.length=nx - k':=by rw [<- g6,KH,Htl.out]
  rw [Htl.out] at g1
  by_cases hk : k'<nx
  ·have HP : Hid (PR=13):=by
    show _=_;rw [hP2];cases r with
    | nil=>simp at hlen;omega
    | cons x r=>rfl
   have hd : decide ((k' : Int)<(nx : Int))=true:=by simp;omega
   clear hf hP2 g5 g6 hlen
   go_wp2_with fail
   go_quiet (fail)
   go_wp2_with fail
   go_ret
   exact ⟨by rw [HP.out];rfl,hb5.trans (LU (Mc ⟨_,rfl⟩) hb5.size)⟩
  ·have HP : Hid (PR=0):=by
    show _=_;rw [hP2];cases r with
    | nil=>rfl
    | cons x r=>simp at hlen;omega
   have hd : decide ((k' : Int)<(nx : Int))=false:=by simp;omega
   clear hf hP2 g5 g6 hlen
   go_wp2_with fail
   go_quiet (fail)
   go_wp2_with fail
   go_ret
   exact ⟨by rw [HP.out];rfl,hb5.trans (LU (Mc ⟨_,rfl⟩) hb5.size)⟩
def yp (w0 : World) (V : Int × Ll) (e : Ending) (w' : World) : Prop :=
 Mv w0 w'/\((V.1 ≠ 0/\e = .returned (.tuple #[.agg #[.slice none 0 0],.int .i64 V.1])) \/
  (V.1=0/\∃ar cr R,e = .returned (.tuple #[.agg #[.slice ar V.2.length cr],.int .i64 0])/\aP w' w0.heap.size ar V.2.length cr R V.2))
theorem xZ {w w0 : World} {b : Nat} {G : bX} {a : OA} {n : Nat} {L : Ll} {m : Nat} {ay : OA} {ny : Nat} {C : jK} (pb : Nat) (P M : Int) (am : OA) (mn cm c cy : Nat)
  (E : xz w0 b G a n L m ay ny C) (hpb : w0.heap.size<=pb) (hb : Mv w0 w) (hB : aO w pb (la b P M am mn cm m a n c ay ny cy C (.slice none 0 0) 0)) :
  Calls prog 128 #[.pointer (some ⟨pb,0,none⟩)] w (yp w0 (sJ G.ops L m C)):=by
 obtain ⟨V,hV⟩ : ∃V,sJ G.ops L m C=V:=⟨_,rfl⟩
 rw [hV];have HV:=Z5 hV;clear hV;have hsb : pb<w.heap.size:=hB.1;go_enter func128,ntmps128;go_wp2_with fail;obtain ⟨U,hU⟩ : ∃U : World,U=w.alloc (.cells #[.slice none 0 0] 103):=⟨_,rfl⟩
 rw [<- hU];have hbU : Mv w U:=by rw [hU];exact an _ _
 have hsU : U.heap.size=w.heap.size+1:=by rw [hU];simp
 have x0 : aO U w.heap.size [.slice none 0 0]:=by rw [hU];exact LZ _ _ _ rfl
 have hBU:=hB.af hbU;have hb0U : Mv w0 U:=hb.trans (hbU.mono hb.size);clear hU hB;have hM0 : jJ U w0.heap.size pb b P M am mn cm m a n c ay ny cy C ⟨none,0,[],[]⟩:=⟨hBU,Mr U _,λh=>by
  rcases h with ⟨h1,_⟩ | ⟨i,hi,_⟩
  ·exact h1 rfl
  ·simp at hi,by simp⟩
 refine (n8 pb P M am mn cm c cy E hpb C.W U ⟨none,0,[],[]⟩ none 0 0 [] none 0 0 [] (by omega) (by omega) hb0U hM0 (L6 _ _) (L6 _ _) (λh=>by omega) (λh=>by omega) (by simp) (λx hx=>by simp at hx)).mono ?_;rintro e w5 ⟨σ',g1,g2,g3,g4,rfl,g6⟩;have hVe : iZ G.ops L m C C.W [] [] []=V:=HV.out;rw [hVe] at g6 ⊢;have hgn : ¬ (⟨none,0,[],[]⟩ : vJ).J pb w.heap.size:=λh=>by
  rcases h with h | ⟨h1,_⟩ | ⟨i,hi,_⟩
  ·omega
  ·exact h1 rfl
  ·simp at hi
 have hb5 : Mv w0 w5:=hb0U.trans (g4.below (λx hx=>by
  rcases hx with h | ⟨h1,_⟩ | ⟨i,hi,_⟩
  ·rw [h];exact hpb
  ·exact absurd rfl h1
  ·simp at hi) hb0U.size)
 have x5:=x0.dG g4 hgn;have z0:=x5.cell 0 rfl;have f0:=x5.frozen 0;have hgn5 : ¬ bI σ'.ar σ'.R w.heap.size:=λh=>g4.not x0.1 hgn (.inr h);have hszw:=hb.size;obtain ⟨ve,vt⟩:=V;dsimp only at g6 ⊢;by_cases hve : ve=0
 ·subst hve;have ht : σ'.T=vt:=g6 rfl;have hF : ∀v : Value,Mv w0 (w5.setCell ⟨w.heap.size,0,none⟩ v)/\aP (w5.setCell ⟨w.heap.size,0,none⟩ v) w0.heap.size σ'.ar vt.length σ'.cr σ'.R vt:=λv=>by refine ⟨hb5.setCell hszw _,?_⟩;rw [<- ht];exact g1.om.bq λx hx=>Ia _ _ _ _ λe=>hgn5 (by have e' : x=w.heap.size:=e;rw [<- e'];exact hx)
  have HF:=Z5 hF;have p10:=g1.box.cell 10 rfl;rw [ht] at p10;clear g1 g2 g3 g4 g6 hF ht;go_wp2_with fail;have z1 : (w5.setCell ⟨w.heap.size,0,none⟩ (.slice σ'.ar vt.length σ'.cr)).cell? ⟨w.heap.size,0,none⟩=some (.slice σ'.ar vt.length σ'.cr):=Ih _ _ _ z0;exact bodyPost_ret (v:=.tuple #[.agg #[.slice σ'.ar vt.length σ'.cr],.int .i64 0]) (by simp [results,results128,go_sem,z0,z1]) rfl ⟨(HF.out _).1,.inr ⟨rfl,σ'.ar,σ'.cr,σ'.R,rfl,(HF.out _).2⟩⟩
 ·have hve' : (ve != 0)=true:=by simpa using hve
  have Hne:=Z5 hve;have HF:=Z5 (λv : Value=>hb5.setCell (p:=⟨w.heap.size,0,none⟩) hszw v);clear g1 g2 g3 g4 g6 hve;go_wp2_with fail;have z1 : (w5.setCell ⟨w.heap.size,0,none⟩ (.slice none 0 0)).cell? ⟨w.heap.size,0,none⟩=some (.slice none 0 0):=Ih _ _ _ z0;exact bodyPost_ret (v:=.tuple #[.agg #[.slice none 0 0],.int .i64 ve]) (by simp [results,results128,go_sem,z0,z1]) rfl ⟨HF.out _,.inl ⟨Hne.out,rfl⟩⟩
def mW (V : Int × Ll) (w : World) (e : Ending) (w' : World) : Prop :=
 Mv w w'/\((V.1 ≠ 0/\e = .returned (.tuple #[.agg #[.slice none 0 0],.int .i64 V.1])) \/
  (V.1=0/\∃ar cr R,e = .returned (.tuple #[.agg #[.slice ar V.2.length cr],.int .i64 0])/\aP w' w.heap.size ar V.2.length cr R V.2))
section
open Go.RowKit
end
section
variable {O : aM} {El : Int->Prop} {m : Nat} {L : Ll} {C : jK}
end
def pL (x : LI) (m : Nat) : LI:=((List.range m).filter λj=>decide (nth x j ≠ 0)).map Int.ofNat
theorem vB {x : LI} {m : Nat} (h : x.length=m) : (pL x m).length=oB x:=by
 have e : x=(List.range m).map (nth x):=by refine Ja (by simp [h]) λi h1 h2=>?_;rw [IF,JJ,aj h1]
 unfold pL oB;rw [H8,<- List.countP_eq_length_filter];conv=>rhs;rw [e,LO]
 rfl
theorem vF {x : LI} : oB x=0 ↔ ∀k,k<x.length->nth x k=0:=by
 unfold oB;rw [List.countP_eq_zero];constructor
 ·intro h k hk;have h1:=h _ (aH hk);simpa using h1
 ·intro h y hy;obtain ⟨k,hk,rfl⟩:=List.mem_iff_getElem.1 hy;have h1:=h k hk;rw [aj hk] at h1;simp [h1]
section
variable {P M : Int} {mod : LI} {m : Nat} {L : Ll}
end
def oC (p : Nat->Bool) (s n : Nat) : LI:=((List.range' s n).filter p).map Int.ofNat
theorem mD (p : Nat->Bool) (s n : Nat) : oC p s (n+1)=if p s=true then (s : Int) :: oC p (s+1) n else oC p (s+1) n:=by unfold oC;rw [List.range'_succ,Kd];split <;> rfl
theorem rM {p q : Nat->Bool} {s n : Nat} (h : ∀j,s<=j->j<s+n->p j=q j) : oC p s n=oC q s n:=by unfold oC;rw [Lx λj hj=>h j (List.mem_range'_1.1 hj).1 (List.mem_range'_1.1 hj).2]
theorem DU {p : Nat->Bool} {s n : Nat} {x : Int} (h : x ∈ oC p s n) : (s : Int)<=x:=by unfold oC at h;obtain ⟨j,hj,rfl⟩:=List.mem_map.1 h;have:=(List.mem_range'_1.1 (List.mem_filter.1 hj).1).1;show (s : Int)<=(j : Int);omega
theorem sK (x : Int) (a b : LI) : cmpL (x :: a) (x :: b)=cmpL a b:=by rw [cmpL,GU (by omega),GU (by omega)]
theorem zu {x : Int} {a l : LI} (hl : l ≠ []) (h : ∀y ∈ l,x<y) : cmpL (x :: a) l = -1:=by
 cases l with
 | nil=>exact absurd rfl hl
 | cons y b=>rw [cmpL,GV (h y (by simp))]
theorem zC {x : Int} {a l : LI} (hl : l ≠ []) (h : ∀y ∈ l,x<y) : cmpL l (x :: a)=1:=by
 cases l with
 | nil=>exact absurd rfl hl
 | cons y b =>
  have:=h y (by simp)
  rw [cmpL,GU (by omega),GV this]
theorem wu {p q p' q' : Nat->Bool} {i : Nat} (hp : ∀j,j ≠ i->p' j=p j) (hq : ∀j,j ≠ i->q' j=q j) (hpi : p i=true) (hqi : q i=true) (hpi' : p' i=false) (hqi' : q' i=false) : ∀n s,s<=i->i<s+n ->
  (oC p s n).length=(oC p' s n).length+1/\(oC q s n).length=(oC q' s n).length+1/\((oC p' s n).length=(oC q' s n).length->cmpL (oC p s n) (oC q s n)=cmpL (oC p' s n) (oC q' s n))
 | 0,s,h1,h2=>by omega
 | n+1,s,h1,h2=>by
  rw [mD p,mD q,mD p',mD q'];by_cases hs : s=i
  ·subst hs;have e1 : oC p' (s+1) n=oC p (s+1) n:=rM λj a _=>hp j (by omega);have e2 : oC q' (s+1) n=oC q (s+1) n:=rM λj a _=>hq j (by omega);rw [GV hpi,GV hqi,GU (by rw [hpi'];decide),GU (by rw [hqi'];decide),e1,e2];exact ⟨rfl,rfl,λ_=>sK _ _ _⟩
  ·obtain ⟨l1,l2,ih⟩:=wu hp hq hpi hqi hpi' hqi' n (s+1) (by omega) (by omega);have lo : ∀ {r : Nat->Bool},∀y ∈ oC r (s+1) n,(s : Int)<y:=λy hy=>by have:=DU hy;omega
   have ne : ∀ {l : LI},0<l.length->l ≠ []:=λh e=>by rw [e] at h;simp at h
   rw [hp s hs,hq s hs];by_cases hps : p s=true
   ·rw [GV hps,GV hps];by_cases hqs : q s=true
    ·rw [GV hqs,GV hqs];simp only [Io,sK];exact ⟨by omega,by omega,λh=>ih (by omega)⟩
    ·rw [GU hqs,GU hqs];simp only [Io];refine ⟨by omega,l2,λh=>?_⟩;rw [zu (ne (by omega)) lo,zu (ne (by omega)) lo]
   ·rw [GU hps,GU hps];by_cases hqs : q s=true
    ·rw [GV hqs,GV hqs];simp only [Io];refine ⟨l1,by omega,λh=>?_⟩;rw [zC (ne (by omega)) lo,zC (ne (by omega)) lo]
    ·rw [GU hqs,GU hqs];exact ⟨l1,l2,ih⟩
def bH (x : LI) (m : Nat) (i : Int) : LI:=((List.range m).filter λj=>decide (nth x j ≠ 0) && decide ((j : Int) ≠ i)).map Int.ofNat
theorem gR (x : LI) (m : Nat) (i : Int) : bH x (m+1) i=if nth x m ≠ 0/\(m : Int) ≠ i then bH x m i ++ [(m : Int)] else bH x m i:=by
 unfold bH;rw [I7,JH,II];by_cases h : nth x m ≠ 0/\(m : Int) ≠ i
 ·rw [GV h,Kd,GV (by simp [h.1,h.2])];rfl
 ·rw [GU h,Kd,GU (by simpa using h)];simp
theorem pz (x : LI) (m : Nat) (i : Int) (h : i<0\/(m : Int)<=i) : bH x m i=pL x m:=by unfold bH pL;refine congrArg _ (Lx λj hj=>?_);have:=List.mem_range.1 hj;rw [Ig (show (j : Int) ≠ i by omega),Bool.and_true]
theorem CI {x : LI} {m : Nat} {i y : Int} : y ∈ bH x m i ↔ ∃j : Nat,j<m/\nth x j ≠ 0/\(j : Int) ≠ i/\y=j:=by
 unfold bH;rw [Kq];constructor
 ·rintro ⟨j,hj,rfl⟩;rw [JL,Kr] at hj;have h:=hj.2;simp only [Ib,Iy] at h;exact ⟨j,hj.1,h.1,h.2,rfl⟩
 ·rintro ⟨j,h1,h2,h3,rfl⟩;exact ⟨j,by rw [JL,Kr];exact ⟨h1,by simp [h2,h3]⟩,rfl⟩
theorem oR {x : LI} {m : Nat} {i y : Int} (h : y ∈ bH x m i) : 0<=y/\y<m:=by obtain ⟨j,hj,_,_,rfl⟩:=CI.1 h;omega
theorem eT (x : LI) (m : Nat) (i : Int) : (bH x m i).length<=m:=by unfold bH;rw [H8];exact H7 (KY _ _) (by simp)
theorem AA {x y : LI} {m i : Nat} (hi : i<m) (hx : nth x i ≠ 0) (hy : nth y i ≠ 0) : eF (pL x m) (pL y m)=eF (bH x m i) (bH y m i):=by
 have h1:=wu (p:=λj=>decide (nth x j ≠ 0)) (q:=λj=>decide (nth y j ≠ 0)) (p':=λj=>decide (nth x j ≠ 0) && decide ((j : Int) ≠ i)) (q':=λj=>decide (nth y j ≠ 0) && decide ((j : Int) ≠ i)) (i:=i)
  (λj hj=>by simp;omega) (λj hj=>by simp;omega) (by simpa using hx) (by simpa using hy) (by simp) (by simp) m 0 (by omega) (by omega)
 unfold oC at h1;rw [<- List.range_eq_range'] at h1;obtain ⟨a,b,c⟩:=h1;unfold eF;change (pL x m).length=(bH x m i).length+1 at a;change (pL y m).length=(bH y m i).length+1 at b;change (bH x m i).length=(bH y m i).length->cmpL (pL x m) (pL y m)=cmpL (bH x m i) (bH y m i) at c;by_cases h : (bH x m i).length=(bH y m i).length
 ·rw [c h,a,b];simp [h]
 ·rw [a,b];have e1 : decide ((bH x m i).length=(bH y m i).length)=false:=by simpa using h
  have e2 : decide ((bH x m i).length+1=(bH y m i).length+1)=false:=by simp;exact h
  rw [e1,e2];simp
def tK (m : Nat) (i : Int) (b w : LI) : LI:=if nth w i.toNat=1 then (if b=[]\/eF (bH w m i) (bH b m i)=true then w else b) else b
def bstL (m : Nat) (i : Int) (W : Ll) : Nat->LI
 | 0=>[]
 | k+1=>tK m i (bstL m i W k) (ai W k)
theorem pP {m : Nat} {i : Int} {W : Ll} : ∀k,k<=W.length->bstL m i W k=[]\/(bstL m i W k ∈ W/\nth (bstL m i W k) i.toNat=1)
 | 0,_=>.inl rfl
 | k+1,h=>by
  rw [bstL,tK];split
  ·rename_i h1;split
   ·exact .inr ⟨gv (by omega),h1⟩
   ·exact pP k (by omega)
  ·exact pP k (by omega)
section
def msgs (q : Nat) : Nat->Ll
 | 0=>[[]]
 | k+1=>(List.range q).flatMap λ(a : Nat)=>(msgs q k).map λs=>(a : Int) :: s
def addAll (O : aM) : LI->LI->Ll->LI
 | u,a :: s,r :: R=>addAll O (kD O u a r) s R
 | u,_,_=>u
theorem wi (O : aM) (q : Nat) : ∀(R : Ll) (u : LI),wlkS O q R u=(msgs q R.length).map λs=>addAll O u s R
 | [],u=>by simp [wlkS,msgs,addAll]
 | r :: R,u=>by rw [wlkS,Io,msgs,List.map_flatMap];congr 1;funext a;rw [wi O q R,List.map_map];rfl
theorem j7 {q : Nat} : ∀ {k : Nat} {s : LI},s ∈ msgs q k ↔ s.length=k/\∀x ∈ s,0<=x/\x<(q : Int)
 | 0,s=>by
  rw [msgs,IB];constructor
  ·rintro rfl;simp
  ·rintro ⟨h,_⟩;exact Iq h
 | k+1,s=>by
  rw [msgs,List.mem_flatMap];constructor
  ·rintro ⟨a,ha,h⟩;obtain ⟨t,ht,rfl⟩:=List.mem_map.1 h;obtain ⟨h1,h2⟩:=j7.1 ht;refine ⟨by simp [h1],λx hx=>?_⟩;rcases List.mem_cons.1 hx with rfl | hx
   ·have:=List.mem_range.1 ha;omega
   ·exact h2 x hx
  ·rintro ⟨h,h2⟩;match s,h,h2 with
   | x :: t,h,h2 =>
    have hx:=h2 x (by simp)
    refine ⟨x.toNat,List.mem_range.2 (by omega),List.mem_map.2 ⟨t,j7.2 ⟨by simpa using h,λy hy=>h2 y (by simp [hy])⟩,?_⟩⟩
    rw [JA hx.1]
variable {O : aM} {m : Nat}
theorem qA {v : LI} {L : Ll} (h : v.length=L.length) : ∀(d j : Nat),j+d=L.length->addAll O (cmbTo O m v L j) (v.drop j) (L.drop j)=cmbTo O m v L L.length
 | 0,j,hj=>by
  obtain rfl : j=L.length:=by omega
  rw [IQ (GQ _),IQ (by omega)];rfl
 | d+1,j,hj=>by rw [IJ (show j<v.length by omega),IJ (show j<L.length by omega),addAll];rw [<- qA h d (j+1) (by omega)];congr 1;rw [cmbTo,aj (show j<v.length by omega),aD (show j<L.length by omega)];rfl
theorem An {q : Nat} {L : Ll} : wlkS O q L (List.replicate m 0)=(msgs q L.length).map λv=>cmbTo O m v L L.length:=by rw [wi];refine JX λv hv=>?_;have h:=qA (O:=O) (m:=m) (v:=v) (L:=L) (j7.1 hv).1 L.length 0 (by omega);rw [JS,JS] at h;exact h
end
section
variable {P M : Int} {mod : LI} {m : Nat} {L : Ll}
def mS (P M : Int) (mod : LI) (m : Nat) (L : Ll) : Ll:=wlkS (ah P M.toNat mod).ops (ah P M.toNat mod).q (aZ (ah P M.toNat mod) L m) (List.replicate m 0)
theorem CQ (hE : aG P M mod m L=0) : aZ (ah P M.toNat mod) L m=DV (ah P M.toNat mod).ops m L:=by unfold aZ DV bh;rfl
theorem DT {L : Ll} (F : bZ (ah P M.toNat mod).ops (ah P M.toNat mod).El) (hL : bG (ah P M.toNat mod).El m L) {x : LI} :
  x ∈ wlkS (ah P M.toNat mod).ops (ah P M.toNat mod).q L (List.replicate m 0) ↔ Vc (ah P M.toNat mod).El m x/\RS (ah P M.toNat mod).ops (ah P M.toNat mod).El m L (λi=>nth x i):=by
 rw [An,Kq];constructor
 ·rintro ⟨v,hv,rfl⟩;obtain ⟨h1,h2⟩:=j7.1 hv;exact jN F hL (λk hk=>h2 _ (aH (by omega))) L.length (GQ _)
 ·rintro ⟨h1,h2⟩;obtain ⟨v,hv,h3⟩:=RS.GC F hL h2;have hve : ∀k,k<L.length->(ah P M.toNat mod).El (nth v k):=λk hk=>hv.at hk;have c1:=(jN F hL hve L.length (GQ _)).1;exact ⟨v,j7.2 ⟨hv.1,λy hy=>hv.2 y hy⟩,(gd (by rw [h1.1,c1.1]) λi hi=>h3 i (by rw [<- h1.1];exact hi)).symm⟩
theorem lL (hE : aG P M mod m L=0) {x : LI} :
  x ∈ mS P M mod m L ↔ Vc (ah P M.toNat mod).El m x/\RS (ah P M.toNat mod).ops (ah P M.toNat mod).El m (DV (ah P M.toNat mod).ops m L) (λi=>nth x i):=by
 obtain ⟨N',e,hm1,hm64,F,hR⟩:=bf hE;obtain rfl : m=N':=by omega
 unfold mS;rw [CQ hE];exact DT F (ET F hR)
def dX (P M : Int) (mod : LI) (m : Nat) (L : Ll) (i : Int) : LI:=bstL m i (mS P M mod m L) (mS P M mod m L).length
theorem qN {a b : LI} (h : eF a b=false) : b.length<=a.length:=by unfold eF at h;simp only [Bool.or_eq_false_iff,decide_eq_false_iff_not] at h;omega
theorem Cn {a b : LI} (h : eF a b=true) : a.length<=b.length:=by unfold eF at h;simp only [Kj,Ib,Iy] at h;omega
theorem zE {i : Int} {W : Ll} : ∀k,k<=W.length->∀t,t<k->nth (ai W t) i.toNat=1->bstL m i W k ≠ []/\(bH (bstL m i W k) m i).length<=(bH (ai W t) m i).length
 | 0,_,t,ht,_=>by omega
 | k+1,hk,t,ht,h1=>by
  have hne : ai W t ≠ []\/True:=.inr trivial;rw [bstL,tK];rcases ID t k with h | h
  ·obtain ⟨ih1,ih2⟩:=zE k (by omega) t h h1;split
   ·split
    ·rename_i h3;refine ⟨λe=>?_,?_⟩
     ·rename_i h2;rw [e] at h2;simp [nth] at h2
     ·rcases h3 with h3 | h3
      ·exact absurd h3 ih1
      ·exact H7 (Cn h3) ih2
    ·exact ⟨ih1,ih2⟩
   ·exact ⟨ih1,ih2⟩
  ·obtain rfl : t=k:=by omega
   rw [GV h1];split
   ·exact ⟨λe=>by rw [e] at h1;simp [nth] at h1,GQ _⟩
   ·rename_i h3;simp only [not_or,Bool.not_eq_true] at h3;exact ⟨h3.1,qN h3.2⟩
theorem mA (hE : aG P M mod m L=0) (i : Int) : (dX P M mod m L i=[]/\∀y ∈ mS P M mod m L,nth y i.toNat ≠ 1) \/
  (dX P M mod m L i ∈ mS P M mod m L/\nth (dX P M mod m L i) i.toNat=1/\∀y ∈ mS P M mod m L,nth y i.toNat=1->(bH (dX P M mod m L i) m i).length<=(bH y m i).length):=by
 have hmin : ∀y ∈ mS P M mod m L,nth y i.toNat=1->dX P M mod m L i ≠ []/\(bH (dX P M mod m L i) m i).length<=(bH y m i).length:=λy hy h1=>by obtain ⟨t,ht,rfl⟩:=kr hy;exact zE _ (GQ _) t ht h1
 rcases pP (m:=m) (i:=i) (W:=mS P M mod m L) _ (GQ _) with h | ⟨h1,h2⟩
 ·exact .inl ⟨h,λy hy h1=>(hmin y hy h1).1 h⟩
 ·exact .inr ⟨h1,h2,λy hy h3=>(hmin y hy h3).2⟩
def repTo (O : aM) (d x : LI) (S : LI) : Nat->Int
 | 0=>0
 | k+1=>O.add (repTo O d x S k) (O.mul (O.neg (nth d (nth S k).toNat)) (nth x (nth S k).toNat))
end
section
variable {O : aM} {El : Int->Prop} {m : Nat}
end
section
variable {P M : Int} {mod : LI} {m : Nat} {L : Ll}
end
theorem gj (a : OA) (n c : Nat) (x : LI) (i : Int) (w : World) (h : Ints w a n x) (hn : n<=1000000) :
  Calls prog 61 #[.slice a n c,.int .i64 i] w (bS w (bH x n i)):=by
 have HG1 : Hid (∀k : Nat,nth x k ≠ 0->(k : Int) ≠ i->bH x (k+1) i=bH x k i ++ [(k : Int)]):=λk h1 h2=>by rw [gR,GV ⟨h1,h2⟩]
 have HG2 : Hid (∀k : Nat,nth x k=0\/(k : Int)=i->bH x (k+1) i=bH x k i):=λk h1=>by rw [gR,GU];rintro ⟨h2,h3⟩;rcases h1 with h1 | h1;exact h2 h1;exact h3 h1
 have HGl : Hid (∀k,(bH x k i).length<=k):=λk=>eT _ _ _;have HI:=Z5 h;have hpl:=h.pl;have hmx:=h.max;unfold maxLen at hmx;obtain ⟨Z,hZ⟩ : ∃Z : Nat->LI,(λk=>bH x k i)=Z:=⟨_,rfl⟩
 have hZk : ∀k,bH x k i=Z k:=λk=>by rw [<- hZ]
 simp only [hZk] at HG1 HG2 HGl ⊢;have HZ0 : Hid (Z 0=[]):=by rw [<- hZ];rfl
 clear hZk hZ h;go_enter func61,ntmps61;go_wp2_with fail;go_loopw [5,10] (λov iv wr=>∃(k g : Nat) (a1 : OA) (c1 : Nat),k<=n/\iv = .int .i64 k/\Hid ((Z k).length=g)/\ov = .slice a1 g c1/\wr.ownsRow w.heap.size 3 1 (.slice a1 g c1) g ((Z k).map (Value.int .i64))/\Mv w wr) (λ_ iv _=>n - (intOf iv).toNat);case atStart=>exact ⟨0,0,none,0,G0 _,rfl,by show _=_;rw [HZ0.out];rfl,rfl,by rw [HZ0.out];exact cF,GS _ _⟩
 case round =>
  obtain ⟨j,g,a2,c2,hj,rfl,Hg2,rfl,hown,hbz⟩:=hrel
  by_cases hltj : j<n
  ·have hgk : g<=j:=by have h:=HGl.out j;rw [Hg2.out] at h;omega
   have cj:=(HI.out.af hbz).cell j hltj
   have hG1:=HG1.out j
   have hG2:=HG2.out j
   obtain ⟨y,hy⟩ : ∃y,nth x j=y:=⟨_,rfl⟩
   rw [hy] at cj hG1 hG2
   clear hy
   by_cases hy0 : y=0
   ·have Hn:=Z5 (hG2 (.inl hy0))
    have d1 : (y != 0)=false:=by simpa using hy0
    clear hG1 hG2 hy0
    go_wp2_with fail
    go_roundw
    case rel=>exact ⟨j+1,g,a2,c2,by omega,by go_num,by show _=_;rw [Hn.out];exact Hg2.out,rfl,by rw [Hn.out];exact hown,hbz⟩
    case measure=>simp [intOf] <;> omega
   have d1 : (y != 0)=true:=by simpa using hy0
   by_cases hji : (j : Int)=i
   ·have Hn:=Z5 (hG2 (.inr hji))
    have d2 : ((j : Int) != i)=false:=by simpa using hji
    clear hG1 hG2 hy0 hji
    go_wp2_with fail
    go_roundw
    case rel=>exact ⟨j+1,g,a2,c2,by omega,by go_num,by show _=_;rw [Hn.out];exact Hg2.out,rfl,by rw [Hn.out];exact hown,hbz⟩
    case measure=>simp [intOf] <;> omega
   ·have Hn:=Z5 (hG1 hy0 hji)
    have d2 : ((j : Int) != i)=true:=by simpa using hji
    clear hG1 hG2 hy0 hji
    have hsz:=hbz.size
    have hcn:=bm wr (.int .i64 j) 3
    go_wp2_with (at_builtin;refine aU rfl _ _ 22 3 rfl (.int .i64 0) 8 underlying22 bg rfl w.heap.size a2 g c2 _ rfl (hown.alloc _) ⟨wr.heap.size,0,none⟩ 1 (.int .i64 j) rfl hcn rfl (by omega) (by unfold maxLen;omega) (by simp;omega) ?_;intro a5 c5 w5 hown5 hgr5 hap5)
    go_roundw
    case rel =>
     refine ⟨j+1,g+1,a5,c5,by omega,by go_num,by show _=_;rw [Hn.out,H5,Hg2.out];rfl,rfl,by rw [Hn.out];simpa using hown5,L3 (L5 hbz _) (hown.alloc _) hgr5 (GQ _) (L5 hbz _).size⟩
    case measure=>simp [intOf] <;> omega
  ·obtain rfl : j=n:=by omega
   have HR : Hid (∀e,e=Ending.returned (.slice a2 g c2)->bS w (Z j) e wr):=λe he=>⟨a2,c2,by rw [Hg2.out];exact he,by rw [Hg2.out];exact hown,hbz⟩
   clear hown
   go_wp2_with fail
   go_ret
   exact HR.out _ rfl
theorem lY (a : OA) (n c : Nat) (x : LI) (w : World) (h : Ints w a n x) (hn : n<=1000000) :
  Calls prog 76 #[.slice a n c] w λe w'=>e = .returned (.int .i64 (oB x : Nat))/\Mv w w':=by
 have hl:=h.len;have HS:=Z5 (gj a n c x (-1) w h hn);have hw : (bH x n (-1)).length=oB x:=by rw [pz x n (-1) (.inl (by omega))];exact vB hl
 have Hw:=Z5 hw;clear h hl hw;go_enter func76,ntmps76;go_wp2_with fail;refine HS.out.mono ?_;rintro e w1 ⟨a1,c1,rfl,_,hb⟩;rw [Hw.out];go_wp2_with fail;go_ret;exact ⟨rfl,hb⟩
def jU (w : World) (a : OA) (n : Nat) (x : LI) : Prop:=Ints w a n x/\a.isNone=decide (x=[])
theorem jU.af {w w' : World} {a : OA} {n : Nat} {x : LI} (h : jU w a n x) (hb : Mv w w') : jU w' a n x:=⟨h.1.af hb,h.2⟩
theorem mF (a : OA) (n c : Nat) (W : Ll) (m i : Nat) (w : World) (hW : bC w a n W) (hm : ∀r ∈ W,r.length=m) (hi : i<m) (hm64 : m<=64) :
  Calls prog 102 #[.slice a n c,.int .i64 i] w λe w'=>Mv w w'/\∃ar nr cr,e = .returned (.slice ar nr cr)/\jU w' ar nr (bstL m i W n):=by
 have hln:=hW.len;have HM:=Z5 hW;have hpl:=hW.pl;have hmx:=hW.max;unfold maxLen at hmx;have Hrow : Hid (∀k,k<n->(ai W k).length=m):=λk hk=>hm _ (gv (by omega));have HSup : Hid (∀V b k c x,k<=1000000->Ints V b k x->Calls prog 61 #[.slice b k c,.int .i64 i] V (bS V (bH x k i))):=λV b k c x hk h=>gj b k c x i V h hk;have Heq:=Z5 (λ(w : World) (a : OA) (l c : Nat)=>Go.run_eql_slice_nil (P:=prog) w 22 3 a l c underlying22);clear hW hm hln;go_enter func102,ntmps102;go_wp2_with fail;go_loopw [5,12] (λbv iv wr=>∃(k : Nat) (ab : OA) (nb cb : Nat) (b : LI),k<=n/\iv = .int .i64 k/\bv = .slice ab nb cb/\Hid (bstL m i W k=b)/\Hid (b=[]\/b.length=m)/\Hid (jU wr ab nb b)/\Mv w wr) (λ_ iv _=>n - (intOf iv).toNat);case atStart=>exact ⟨0,none,0,0,[],G0 _,rfl,rfl,rfl,.inl rfl,⟨L6 _ _,rfl⟩,GS _ _⟩
 case round =>
  obtain ⟨k,ab,nb,cb,b,hk,rfl,rfl,Hst,Hbl,Hb,hbr⟩:=hrel
  generalize wr=V at *
  by_cases hlt : k<n
  ·obtain ⟨ar,mr,cr,hcell,hrw⟩:=(HM.out.af hbr).cell k hlt
   have hmr : mr=m:=by rw [<- hrw.len];exact Hrow.out k hlt
   subst hmr
   have hri:=hrw.cell i hi
   have hplr:=hrw.pl
   have hrn : ar.isNone=false:=by
    cases ar with
    | none=>have:=hrw.pl (by omega);cases this
    | some x=>rfl
   obtain ⟨r,hr⟩ : ∃r,ai W k=r:=⟨_,rfl⟩
   have hrl : r.length=mr:=by rw [<- hr];exact Hrow.out k hlt
   rw [hr] at hrw hri
   have Hnx : Hid (bstL mr i W (k+1)=tK mr i b r):=by show _=_;rw [bstL,Hst.out,hr]
   clear hr
   obtain ⟨y,hy⟩ : ∃y,nth r i=y:=⟨_,rfl⟩
   rw [hy] at hri
   have hii : (i : Int)<(mr : Int):=by omega
   by_cases hy1 : y=1
   rotate_left
   ·have d1 : (y != 1)=true:=by simpa using hy1
    have Hn2 : Hid (bstL mr i W (k+1)=b):=by show _=_;rw [Hnx.out,tK,GU (by rw [GW,hy];exact hy1)]
    clear hy hy1 hrw
    go_wp2_with fail
    go_roundw
    case rel=>exact ⟨k+1,ab,nb,cb,b,by omega,by go_num,rfl,Hn2.out,Hbl.out,Hb.out,hbr⟩
    case measure=>simp [intOf] <;> omega
   have d1 : (y != 1)=false:=by simpa using hy1
   have Hn2 : Hid (bstL mr i W (k+1)=if b=[]\/eF (bH r mr i) (bH b mr i)=true then r else b):=by show _=_;rw [Hnx.out,tK,GV (by rw [GW,hy];exact hy1)]
   have Hr : Hid (jU V ar mr r):=⟨hrw,by rw [hrn];exact (Ic λe=>by rw [e] at hrl;simp at hrl;omega).symm⟩
   have Hrl:=Z5 hrl
   have heq:=Heq.out
   clear hy hy1 hrn Hnx hrl
   rcases Hbl.out with hb0 | hbm
   ·have hin : ab.isNone=true:=by rw [Hb.out.2];exact Ig hb0
    have Hn3 : Hid (bstL mr i W (k+1)=r):=by show _=_;rw [Hn2.out,GV (.inl hb0)]
    clear hb0 hrw
    go_wp2_with fail
    go_roundw
    case rel=>exact ⟨k+1,ar,mr,cr,r,by omega,by go_num,rfl,Hn3.out,.inr Hrl.out,Hr.out,hbr⟩
    case measure=>simp [intOf] <;> omega
   have hbn : b ≠ []:=λe=>by rw [e] at hbm;simp at hbm;omega
   have hin : ab.isNone=false:=by rw [Hb.out.2];exact Ic hbn
   have hnb : nb=mr:=by rw [<- Hb.out.1.len];exact hbm
   subst hnb
   have HS1:=Z5 (HSup.out V ar nb cr r (by omega) hrw)
   obtain ⟨s,hs⟩ : ∃s,bH r nb i=s:=⟨_,rfl⟩
   obtain ⟨t,ht⟩ : ∃t,bH b nb i=t:=⟨_,rfl⟩
   have hsl : s.length<=nb:=by rw [<- hs];exact eT _ _ _
   have htl : t.length<=nb:=by rw [<- ht];exact eT _ _ _
   have HSt : Hid (∀V',Mv V V'->Calls prog 61 #[.slice ab nb cb,.int .i64 i] V' (bS V' t)):=λV' hV'=>by rw [<- ht];exact HSup.out V' ab nb cb b (by omega) (Hb.out.1.af hV')
   rw [hs] at HS1
   rw [hs,ht] at Hn2
   clear hs ht hrw hbm
   have Hbn:=Z5 hbn
   clear hbn
   go_wp2_with fail
   refine HS1.out.mono ?_
   rintro e w1 ⟨a1,k1,rfl,hown1,hb1⟩
   have HS2:=Z5 (HSt.out w1 hb1)
   have Ho1:=Z5 hown1
   clear hown1
   go_wp2_with fail
   refine HS2.out.mono ?_
   rintro e w2 ⟨a2,k2,rfl,hown2,hb2⟩
   have hbr2:=LY hbr (LY hb1 hb2)
   have Hcmp:=Z5 (wg a1 s.length k1 s a2 t.length k2 t w2 ((L0 Ho1.out).1.af hb2) (L0 hown2).1)
   have Hb2 : Hid (jU w2 ab nb b):=Hb.out.af (LY hb1 hb2)
   have Hr2 : Hid (jU w2 ar nb r):=Hr.out.af (LY hb1 hb2)
   clear hown2 hcell hri
   by_cases h1 : s.length<t.length
   ·have Hn3 : Hid (bstL nb i W (k+1)=r):=by show _=_;rw [Hn2.out,GV (.inr (ga.2 (.inl h1)))]
    go_wp2_with fail
    go_roundw
    case rel=>exact ⟨k+1,ar,nb,cr,r,by omega,by go_num,rfl,Hn3.out,.inr Hrl.out,Hr2.out,hbr2⟩
    case measure=>simp [intOf] <;> omega
   ·by_cases h2 : s.length=t.length
    ·have hd2 : ((s.length : Int) == (t.length : Int))=true:=by simp;omega
     have hle : t.length<=s.length:=by omega
     by_cases h3 : cmpL s t<0
     ·have Hn3 : Hid (bstL nb i W (k+1)=r):=by show _=_;rw [Hn2.out,GV (.inr (ga.2 (.inr ⟨h2,h3⟩)))]
      have hd3 : decide (cmpL s t<0)=true:=by simpa using h3
      clear h1 h2 h3
      go_wp2_with (go_at_call 159;refine Hcmp.out.mono ?_;rintro e w' ⟨rfl,rfl⟩)
      go_roundw
      case rel=>exact ⟨k+1,ar,nb,cr,r,by omega,by go_num,rfl,Hn3.out,.inr Hrl.out,Hr2.out,hbr2⟩
      case measure=>simp [intOf] <;> omega
     ·have Hn3 : Hid (bstL nb i W (k+1)=b):=by
       show _=_;rw [Hn2.out,GU λhh=>?_];rcases hh with hh | hh
       ·exact Hbn.out hh
       ·rcases ga.1 hh with hh | hh
        ·exact h1 hh
        ·exact h3 hh.2
      have hd3 : decide (cmpL s t<0)=false:=by simpa using h3
      clear h1 h2 h3
      go_wp2_with (go_at_call 159;refine Hcmp.out.mono ?_;rintro e w' ⟨rfl,rfl⟩)
      go_roundw
      case rel=>exact ⟨k+1,ab,nb,cb,b,by omega,by go_num,rfl,Hn3.out,Hbl.out,Hb2.out,hbr2⟩
      case measure=>simp [intOf] <;> omega
    ·have Hn3 : Hid (bstL nb i W (k+1)=b):=by
      show _=_;rw [Hn2.out,GU λhh=>?_];rcases hh with hh | hh
      ·exact Hbn.out hh
      ·rcases ga.1 hh with hh | hh
       ·exact h1 hh
       ·exact h2 hh.1
     have hd2 : ((s.length : Int) == (t.length : Int))=false:=by simp;omega
     have hle : t.length<=s.length:=by omega
     clear h1 h2
     go_wp2_with fail
     go_roundw
     case rel=>exact ⟨k+1,ab,nb,cb,b,by omega,by go_num,rfl,Hn3.out,Hbl.out,Hb2.out,hbr2⟩
     case measure=>simp [intOf] <;> omega
  ·obtain rfl : k=n:=by omega
   have HR : Hid (Mv w V/\∃ar nr cr,Ending.returned (.slice ab nb cb) = .returned (.slice ar nr cr)/\jU V ar nr (bstL m i W k)):=⟨hbr,ab,nb,cb,rfl,by rw [Hst.out];exact Hb.out⟩
   go_wp2_with fail
   go_ret
   exact HR.out
theorem Bk {w : World} {b : Nat} {G : bX} (m : Nat) (a : OA) (n c : Nat) (R : Ll) (ap : OA) (cp : Nat) (Pv : LI) (a2 : OA) (n2 c2 : Nat) (D : Ll)
  (h : dz w b G) (hi : bC w a n R) (hp : Ints w ap n Pv) (hD : bC w a2 n2 D) (hOk : BS.Ok G.El m ⟨R,Pv⟩) (hDe : bG G.El m D) (hn : n<=1000000) (hm : m<=1000000) (hn2 : n2<=1000000) :
  Calls prog 230 #[.agg #[.pointer (some ⟨b,0,none⟩),.int .i64 m,.slice a n c,.slice ap n cp],.agg #[.int .i64 m,.slice a2 n2 c2]] w
   λe w'=>∃a3 c3,e = .returned (.agg #[.int .i64 m,.slice a3 n2 c3])/\bQ w.heap.size w' a3 n2 (pJ G.ops R Pv D)/\Mv w w':=by
 have hrl : R.length=n:=hi.len;have hdl : D.length=n2:=hD.len;obtain ⟨RL,hRL⟩ : ∃RL,pJ G.ops R Pv D=RL:=⟨_,rfl⟩
 rw [hRL];have HRl : Hid (RL.length=n2):=by show _=_;rw [<- hRL,pJ,H8];exact hdl
 have HRd : Hid (∀V k ra rc,k<n2->Mv w V->Ints V ra m (ai D k)->Calls prog 242 #[.agg #[.pointer (some ⟨b,0,none⟩),.int .i64 m,.slice a n c,.slice ap n cp],.slice ra m rc] V
   λe w'=>∃a1 c1 v2,e = .returned (.tuple #[.slice a1 m c1,v2])/\w'.ownsRow V.heap.size 3 1 (.slice a1 m c1) m ((ai RL k).map (Value.int .i64))/\Mv V w'):=λV k ra rc hk hV hr=>by have h1:=oc m a n c R ap cp Pv ra rc (ai D k) (h.af hV) (hi.af hV) (hp.af hV) hr hOk (hDe.row (by omega)) hn hm;rw [<- hRL,pJ,wI _ D (by omega),hrl];exact h1
 have HDr : Hid (∀k,k<n2->(ai D k).length=m):=λk hk=>(hDe.row (i:=k) (by omega)).1;have HRn : Hid (∀k,k<n2->(ai RL k).length=m):=λk hk=>by have h1:=(ku (Mj h) hOk.rws (Q:=Pv) hOk.plc (hDe.row (i:=k) (by omega)) R.length (GQ _)).1;rw [<- hRL,pJ,wI _ D (by omega)];exact h1
 have HTk : Hid (∀k,k<n2->RL.take (k+1)=RL.take k ++ [ai RL k]):=λk hk=>by
  have hk' : k<RL.length:=by rw [HRl.out];exact hk
  rw [Hj hk',<- aD hk']
 have hpl:=hD.pl;clear h hi hp hOk hDe hRL hrl hdl;go_enter func230,ntmps230;go_upto_region 1 with fail;obtain ⟨W,hW⟩ : ∃W : World,W=((w.alloc (.cells #[.pointer (some ⟨b,0,none⟩),.int .i64 m,.slice a n c,.slice ap n cp] 210)).alloc (.cells #[.int .i64 m,.slice a2 n2 c2] 94)).alloc (.cells #[.int .i64 0,.slice none 0 0] 94):=⟨_,rfl⟩
 rw [<- hW];have hbW : Mv w W:=by rw [hW];exact jI _ _ _ _
 have hsW : W.heap.size=w.heap.size+3:=by rw [hW];simp
 have x0 : aO W w.heap.size [.pointer (some ⟨b,0,none⟩),.int .i64 m,.slice a n c,.slice ap n cp]:=by rw [hW];exact ((LZ _ _ _ rfl).alloc _).alloc _
 have x1 : aO W (w.heap.size+1) [.int .i64 m,.slice a2 n2 c2]:=by rw [hW];exact (LZ _ _ _ (by simp)).alloc _
 have x2 : aO W (w.heap.size+1+1) [.int .i64 0,.slice none 0 0]:=by rw [hW];exact LZ _ _ _ (by simp)
 clear hW;have HX:=Z5 (Hi x0 (Hi x1 x2));have HbW:=Z5 hbW;have HsW:=Z5 hsW;obtain ⟨g,hg⟩ : ∃g,W.heap.size=g:=⟨_,rfl⟩
 have HG:=Z5 hg;clear hg;have m0:=x1.cell 0 rfl;have m1:=x1.cell 1 rfl;go_cut [5] (λv wx=>v = .pointer (some ⟨W.heap.size,0,none⟩)/\kZ wx W.heap.size (.int .i64 m) none 0 0 [] []/\Mv W wx);case first =>
  clear x0 x1 x2 hbW hsW
  go_wp2_with fail
  go_meet
  exact ⟨rfl,kZ.start (LZ W [.int .i64 m,.slice none 0 0] _ rfl),an _ _⟩
 obtain ⟨rfl,hO0,hbc⟩:=hcut;generalize wc=U at *;have hs3:=HG.out;rw [hs3] at hO0 ⊢;have HbU:=Z5 hbc;have r1:=x1.af hbc;clear m0 m1 x0 x1 x2 hbW;have m0:=r1.cell 0 rfl;have m1:=r1.cell 1 rfl;have hgW : W.heap.size<=g:=by omega
 have HD:=Z5 hD;clear r1 hbc hs3 hD hsW;go_wp2_with fail;clear m0 m1;go_loopw [16] (λiv wr=>∃(j : Nat) (a1 : OA) (c1 : Nat) (Rr : LA),j<=n2/\iv = .int .i64 j/\kZ wr g (.int .i64 m) a1 j c1 Rr (RL.take j)/\Below g U wr) (λiv _=>n2 - (intOf iv).toNat);case atStart=>exact ⟨0,none,0,[],G0 _,rfl,by simpa using hO0,GS _ _⟩
 case round =>
  clear hO0
  obtain ⟨j,a1,c1,Rr,hj,rfl,hO,hbr⟩:=hrel
  have hbWr:=IT HbU.out (hbr.mono hgW)
  have hbwr:=LY HbW.out hbWr
  by_cases hltj : j<n2
  ·obtain ⟨ra,rn,rc,hcell,hrow⟩:=(HD.out.af hbwr).cell j hltj
   have hrn : rn=m:=by rw [<- hrow.len];exact HDr.out j hltj
   rw [hrn] at hcell hrow
   have Htk:=Z5 (HTk.out j hltj)
   have HR1:=Z5 (HRd.out wr j ra rc hltj hbwr hrow)
   obtain ⟨pk,hpk⟩ : ∃pk,ai RL j=pk:=⟨_,rfl⟩
   have Hpl : Hid (pk.length=m):=by show _=_;rw [<- hpk];exact HRn.out j hltj
   rw [hpk] at HR1 Htk
   have xr:=HX.out.1.af hbWr
   have v0:=xr.cell 0 rfl
   have v1:=xr.cell 1 rfl
   have v2:=xr.cell 2 rfl
   have v3:=xr.cell 3 rfl
   have hgr:=hO.lt
   have HO:=Z5 hO
   clear hrn hpk hrow xr hO
   go_wp2_with fail
   refine HR1.out.mono ?_
   rintro e w3 ⟨a5,c5,vv,rfl,hown,hb3⟩
   clear v0 v1 v2 v3
   have hs:=HO.out.af hb3
   have hOk:=hs.om.af (an w3 (.cells #[.slice a5 m c5] 22))
   have hcp:=hs.c1
   have hgs:=hs.lt
   go_wp2_with (at_builtin;refine aU rfl _ _ 25 22 rfl (.slice none 0 0) 24 underlying25 ew rfl (g+1) a1 j c1 _ rfl hOk.own ⟨w3.heap.size,0,none⟩ 1 (.slice a5 m c5) rfl (bm w3 _ _) rfl (by omega) (by unfold maxLen;omega) (by simp;omega) ?_;intro a6 c6 w6 hown6 hgr6 hap6;have hk6:=(hs.tT hgr6).2.1;have hf6:=(hs.tT hgr6).2.2)
   go_roundw
   case rel =>
    have hra : a5 ≠ none->¬ bI a1 Rr (ablk a5):=λh0 hI=>by have h1:=(aS hown h0).1;have h2:=(HO.out.om.lt _ hI).2;omega
    obtain ⟨hP,hbP⟩:=hs.push Hpl.out (bd hown (by omega)) hra hown6 hgr6 hap6
    exact ⟨j+1,a6,c6,_,by omega,by go_num,by rw [Htk.out];exact hP,IT hbr ((hb3.mono (by omega)).trans hbP)⟩
   case measure=>simp [intOf] <;> omega
  ·obtain rfl : j=n2:=by omega
   rw [H6 (by rw [HRl.out];exact GQ _)] at hO
   have g0:=hO.c0
   have g1:=hO.c1
   have z6:=HX.out.2.2.af hbWr
   have z0:=z6.cell 0 rfl
   have z1:=z6.cell 1 rfl
   have f0:=z6.frozen 0
   have f1:=z6.frozen 1
   have hs:=HsW.out
   have hg2:=HG.out
   have hMN : bQ (g+1) wr a1 j RL:=Mp hO.om
   have HF:=Z5 (Hi (((hMN.setCell (p:=⟨w.heap.size+1+1,0,none⟩) (by simp;omega) (.int .i64 m)).setCell (p:=⟨w.heap.size+1+1,1,none⟩) (by simp;omega) (.slice a1 j c1)).mono (show w.heap.size<=g+1 by omega))
    ((hbwr.setCell (p:=⟨w.heap.size+1+1,0,none⟩) (by simp;omega) (.int .i64 m)).setCell (p:=⟨w.heap.size+1+1,1,none⟩) (by simp;omega) (.slice a1 j c1)))
   clear hMN z6 hO hs hg2
   go_wp2_with fail
   exact bodyPost_ret (v:=.agg #[.int .i64 m,.slice a1 j c1]) (by simp [results,results230,go_sem,z0,z1]) rfl ⟨a1,c1,rfl,HF.out.1,HF.out.2⟩
theorem qY (n : Int) (w : World) : Calls prog 64 #[.int .i64 n] w λe w'=>e = .returned (.bool (decide (1<=n) && decide (n<=64)))/\w'=w:=by
 go_enter func64,ntmps64;by_cases h1 : 1<=n
 ·have d1 : decide (1<=n)=true:=Ig h1;have H1:=Z5 h1;clear h1;go_wp2_with fail;go_ret;exact ⟨by first | (simp;done) | (simp;intro _;exact H1.out),rfl⟩
 ·have d1 : decide (1<=n)=false:=Ic h1;have H1:=Z5 h1;clear h1;go_wp2_with fail;go_ret;exact ⟨by first | (simp;done) | (simp;intro h;exact absurd h H1.out),rfl⟩
def uE (n k r : Int) : Int:=if n<1\/64<n\/k<1\/n<k\/r<1\/n<r then 6 else 0
def tP (n k r : Int) : Int:=if n<1\/64<n\/k<1\/n<k\/r<1\/n<r then 0 else n - k - (k+r - 1).tdiv r+2
theorem DP {n k r : Int} (h : n<1\/64<n\/k<1\/n<k\/r<1\/n<r) : uE n k r=6/\tP n k r=0:=by unfold uE tP;rw [GV h,GV h];exact ⟨rfl,rfl⟩
theorem Fs {n k r : Int} (h : ¬ (n<1\/64<n\/k<1\/n<k\/r<1\/n<r)) : uE n k r=0/\tP n k r=n - k - (k+r - 1).tdiv r+2:=by unfold uE tP;rw [GU h,GU h];exact ⟨rfl,rfl⟩
theorem vb (n k r : Int) (w : World) : Calls prog 22 #[.int .i64 n,.int .i64 k,.int .i64 r] w λe w'=>e = .returned (.tuple #[.int .i64 (tP n k r),.int .i64 (uE n k r)])/\w'=w:=by
 have HB : Hid ((n<1\/64<n\/k<1\/n<k\/r<1\/n<r)->uE n k r=6/\tP n k r=0):=DP;have HO : Hid (¬ (n<1\/64<n\/k<1\/n<k\/r<1\/n<r)->uE n k r=0/\tP n k r=n - k - (k+r - 1).tdiv r+2):=Fs;obtain ⟨E,hE⟩ : ∃E,uE n k r=E:=⟨_,rfl⟩
 obtain ⟨V,hV⟩ : ∃V,tP n k r=V:=⟨_,rfl⟩
 rw [hE,hV] at HB HO ⊢;clear hE hV;go_enter func22,ntmps22;by_cases h1 : n<1
 ·have d1 : decide (n<1)=true:=Ig h1;have HP:=Z5 (HB.out (.inl h1));clear h1;go_wp2_with fail;go_ret2;exact ⟨by rw [HP.out.1,HP.out.2] <;> rfl,rfl⟩
 have d1 : decide (n<1)=false:=Ic h1;by_cases h2 : 64<n
 ·have d2 : decide (64<n)=true:=Ig h2;have HP:=Z5 (HB.out (.inr (.inl h2)));clear h1 h2;go_wp2_with fail;go_ret2;exact ⟨by rw [HP.out.1,HP.out.2] <;> rfl,rfl⟩
 have d2 : decide (64<n)=false:=Ic h2;by_cases h3 : k<1
 ·have d3 : decide (k<1)=true:=Ig h3;have HP:=Z5 (HB.out (.inr (.inr (.inl h3))));clear h1 h2 h3;go_wp2_with fail;go_ret2;exact ⟨by rw [HP.out.1,HP.out.2] <;> rfl,rfl⟩
 have d3 : decide (k<1)=false:=Ic h3;by_cases h4 : n<k
 ·have d4 : decide (n<k)=true:=Ig h4;have HP:=Z5 (HB.out (.inr (.inr (.inr (.inl h4)))));clear h1 h2 h3 h4;go_wp2_with fail;go_ret2;exact ⟨by rw [HP.out.1,HP.out.2] <;> rfl,rfl⟩
 have d4 : decide (n<k)=false:=Ic h4;by_cases h5 : r<1
 ·have d5 : decide (r<1)=true:=Ig h5;have HP:=Z5 (HB.out (.inr (.inr (.inr (.inr (.inl h5))))));clear h1 h2 h3 h4 h5;go_wp2_with fail;go_ret2;exact ⟨by rw [HP.out.1,HP.out.2] <;> rfl,rfl⟩
 have d5 : decide (r<1)=false:=Ic h5;by_cases h6 : n<r
 ·have d6 : decide (n<r)=true:=Ig h6;have HP:=Z5 (HB.out (.inr (.inr (.inr (.inr (.inr h6))))));clear h1 h2 h3 h4 h5 h6;go_wp2_with fail;go_ret2;exact ⟨by rw [HP.out.1,HP.out.2] <;> rfl,rfl⟩
 have d6 : decide (n<r)=false:=Ic h6;have HP:=Z5 (HO.out (by omega));have hq0 : 0<=(k+r - 1).tdiv r:=Int.tdiv_nonneg (by omega) (by omega);have hq1 : (k+r - 1).tdiv r<=k+r - 1:=Int.tdiv_le_self _ (by omega);obtain ⟨q,hq⟩ : ∃q,(k+r - 1).tdiv r=q:=⟨_,rfl⟩
 rw [hq] at hq0 hq1 HP;have k1 : IntKind.i64.wrap (n - k)=n - k:=Ha _ (by omega);have k2 : IntKind.i64.wrap (k+r)=k+r:=Ha _ (by omega);have k3 : IntKind.i64.wrap (k+r - 1)=k+r - 1:=Ha _ (by omega);have k4 : IntKind.i64.wrap q=q:=Ha _ (by omega);have k5 : IntKind.i64.wrap (n - k - q)=n - k - q:=Ha _ (by omega);have k6 : IntKind.i64.wrap (n - k - q+2)=n - k - q+2:=Ha _ (by omega);have hr0 : r ≠ 0:=by omega
 have hr1 : (r == 0)=false:=by simpa using hr0
 go_wp2_with fail;go_ret2;exact ⟨by rw [HP.out.1,HP.out.2] <;> rfl,rfl⟩
def ie (P M : Int) (mod : LI) (N : Int) (L : Ll) (i : Int) : Int:=if aG P M mod N L=0 then (if i<0\/N<=i then 6 else 0) else aG P M mod N L
theorem kE (P M : Int) (am : OA) (mn cm : Nat) (mod : LI) (N : Int) (a : OA) (n c : Nat) (L : Ll) (i : Int) (w : World) (hmod : Ints w am mn mod) (hi : bC w a n L) :
  Calls prog 47 #[.agg #[.int .i64 P,.int .i64 M,.slice am mn cm,.int .i64 N,.slice a n c],.int .i64 i] w λe w'=>e = .returned (.int .i64 (ie P M mod N L i))/\Mv w w':=by
 have HCk : Hid (∀V,Mv w V->Calls prog 88 #[.agg #[.int .i64 P,.int .i64 M,.slice am mn cm,.int .i64 N,.slice a n c]] V λe w'=>e = .returned (.int .i64 (aG P M mod N L))/\Mv V w'):=λV hV=>b8 P M am mn cm mod N a n c L V (hmod.af hV) (hi.af hV);have HE : Hid (ie P M mod N L i=if aG P M mod N L=0 then (if i<0\/N<=i then 6 else 0) else aG P M mod N L):=rfl;obtain ⟨E,hE⟩ : ∃E,ie P M mod N L i=E:=⟨_,rfl⟩
 obtain ⟨ce,hce⟩ : ∃ce,aG P M mod N L=ce:=⟨_,rfl⟩
 rw [hE,hce] at HE;rw [hce] at HCk;rw [hE];clear hE hce hmod hi;go_enter func47,ntmps47;go_upto_region 1 with fail;obtain ⟨W,hW⟩ : ∃W : World,W=w.alloc (.cells #[.int .i64 P,.int .i64 M,.slice am mn cm,.int .i64 N,.slice a n c] 27):=⟨_,rfl⟩
 rw [<- hW];have hbW : Mv w W:=by rw [hW];exact an _ _
 have x0 : aO W w.heap.size [.int .i64 P,.int .i64 M,.slice am mn cm,.int .i64 N,.slice a n c]:=by rw [hW];exact LZ _ _ _ rfl
 have HX:=Z5 x0;have c0:=x0.cell 0 rfl;have c1:=x0.cell 1 rfl;have c2:=x0.cell 2 rfl;have c3:=x0.cell 3 rfl;have c4:=x0.cell 4 rfl;clear hW x0;go_wp2_with fail;refine (HCk.out W hbW).mono ?_;rintro e w1 ⟨rfl,hb1⟩;have hF:=LY hbW hb1;clear c0 c1 c2 c3 c4;have c3:=(HX.out.af hb1).cell 3 rfl;by_cases h0 : ce=0;rotate_left
 ·have d0 : (ce != 0)=true:=by simpa using h0
  have HR : Hid (E=ce):=by show _=_;rw [HE.out,GU h0]
  clear h0;go_wp2_with fail;go_ret;exact ⟨aK HR.out.symm,hF⟩
 have d0 : (ce != 0)=false:=by simpa using h0
 by_cases h1 : i<0
 ·have d1 : decide (i<0)=true:=Ig h1;have HR : Hid (E=6):=by show _=_;rw [HE.out,GV h0,GV (.inl h1)]
  clear h0 h1;go_wp2_with fail;go_ret;exact ⟨aK HR.out.symm,hF⟩
 have d1 : decide (i<0)=false:=Ic h1;by_cases h2 : N<=i
 ·have d2 : decide (N<=i)=true:=Ig h2;have HR : Hid (E=6):=by show _=_;rw [HE.out,GV h0,GV (.inr h2)]
  clear h0 h1 h2;go_wp2_with fail;go_ret;exact ⟨aK HR.out.symm,hF⟩
 ·have d2 : decide (N<=i)=false:=Ic h2;have HR : Hid (E=0):=by show _=_;rw [HE.out,GV h0,GU (by omega)]
  clear h0 h1 h2;go_wp2_with fail;go_ret;exact ⟨aK HR.out.symm,hF⟩
theorem tH (P M : Int) (am : OA) (mn cm : Nat) (mod : LI) (m : Nat) (a : OA) (k c : Nat) (L : Ll) (w : World) (hE : aG P M mod m L=0) (hmod : Ints w am mn mod) (hi : bC w a k L)
  (hbig : iW (ah P M.toNat mod).q k ≠ 0) :
  Calls prog 158 #[.agg #[.int .i64 P,.int .i64 M,.slice am mn cm,.int .i64 m,.slice a k c]] w λe w'=>e = .returned (.tuple #[.slice none 0 0,.int .i64 (iW (ah P M.toNat mod).q k)])/\Mv w w':=by
 have HSz : Hid (∀V,Mv w V->Calls prog 210 #[.agg #[.int .i64 P,.int .i64 M,.slice am mn cm,.int .i64 m,.slice a k c]] V λe w'=>e = .returned (.tuple #[.int .i64 (lW (ah P M.toNat mod).q k),.int .i64 (iW (ah P M.toNat mod).q k)])/\Mv V w') :=
  λV hV=>wB P M am mn cm mod m a k c L V hE (hmod.af hV) (hi.af hV)
 generalize lW (ah P M.toNat mod).q k=v at *;generalize iW (ah P M.toNat mod).q k=f at *;have d0 : (f != 0)=true:=by simpa using hbig
 clear hbig hmod hi hE;go_enter func158,ntmps158;go_upto_region 1 with fail;obtain ⟨W,hW⟩ : ∃W : World,W=w.alloc (.cells #[.int .i64 P,.int .i64 M,.slice am mn cm,.int .i64 m,.slice a k c] 27):=⟨_,rfl⟩
 rw [<- hW];have hbW : Mv w W:=by rw [hW];exact an _ _
 have x0 : aO W w.heap.size [.int .i64 P,.int .i64 M,.slice am mn cm,.int .i64 m,.slice a k c]:=by rw [hW];exact LZ _ _ _ rfl
 have c0:=x0.cell 0 rfl;have c1:=x0.cell 1 rfl;have c2:=x0.cell 2 rfl;have c3:=x0.cell 3 rfl;have c4:=x0.cell 4 rfl;clear hW x0;go_wp2_with fail;refine (HSz.out W hbW).mono ?_;rintro e w1 ⟨rfl,hb1⟩;have hF:=LY hbW hb1;clear c0 c1 c2 c3 c4;go_wp2_with fail;go_ret2;exact ⟨rfl,hF⟩
def qE (P M : Int) (mod : LI) (m : Nat) (L : Ll) : Int:=iW (ah P M.toNat mod).q (aZ (ah P M.toNat mod) L m).length
def kC (P M : Int) (mod : LI) (m : Nat) (L : Ll) (w : World) (e : Ending) (w' : World) : Prop :=
 Mv w w'/\((qE P M mod m L ≠ 0/\e = .returned (.tuple #[.slice none 0 0,.int .i64 (qE P M mod m L)])) \/
  (qE P M mod m L=0/\∃a k c,e = .returned (.tuple #[.slice a k c,.int .i64 0])/\bC w' a k (mS P M mod m L)))
theorem xA (P M : Int) (am : OA) (mn cm : Nat) (mod : LI) (m : Nat) (a : OA) (n c : Nat) (L : Ll) (w : World) (hE : aG P M mod m L=0) (hmod : Ints w am mn mod) (hi : bC w a n (aZ (ah P M.toNat mod) L m)) :
  Calls prog 158 #[.agg #[.int .i64 P,.int .i64 M,.slice am mn cm,.int .i64 m,.slice a n c]] w (kC P M mod m L w):=by
 have hD:=(kU hE).1;have hl:=hi.len;by_cases h : qE P M mod m L=0
 ·have hq : ((ah P M.toNat mod).q : Int) ^ (aZ (ah P M.toNat mod) L m).length<=65536:=by
   unfold qE iW at h;split at h
   ·assumption
   ·cases h
  have h2 : (ah P M.toNat mod).q ^ n<=65536:=by
   rw [<- hl];have e : ((ah P M.toNat mod).q : Int) ^ (aZ (ah P M.toNat mod) L m).length=(((ah P M.toNat mod).q ^ (aZ (ah P M.toNat mod) L m).length : Nat) : Int):=by simp
   rw [e] at hq;omega
  refine (Ay P M am mn cm mod m a n c _ w _ hD hmod hi rfl h2).mono ?_;rintro e w' ⟨ao,co,rfl,hM,hb⟩;exact ⟨hb,.inr ⟨h,ao,_,co,rfl,hM⟩⟩
 ·have h2 : iW (ah P M.toNat mod).q n ≠ 0:=by rw [<- hl];exact h
  refine (tH P M am mn cm mod m a n c _ w hD hmod hi h2).mono ?_;rintro e w' ⟨rfl,hb⟩;refine ⟨hb,.inl ⟨h,?_⟩⟩;unfold qE;rw [hl]
theorem pO (P M : Int) (am : OA) (mn cm : Nat) (mod : LI) (m : Nat) (a : OA) (n c : Nat) (L : Ll) (w : World) (hmod : Ints w am mn mod) (hi : bC w a n L) (hE : aG P M mod m L=0) :
  Calls prog 101 #[.agg #[.int .i64 P,.int .i64 M,.slice am mn cm,.int .i64 m,.slice a n c]] w (kC P M mod m L w):=by
 have hmn : mn<=8:=by have:=kQ (aQ hE).1;rw [<- hmod.len];exact this
 have HD : Hid (∀V,Mv w V->Calls prog 80 #[.agg #[.int .i64 P,.int .i64 M,.slice am mn cm,.int .i64 m,.slice a n c]] V (i5 P M mod m L V)):=λV hV=>qe P M am mn cm mod m a n c L V (hmod.af hV) (hi.af hV) hE (by omega);have HWd : Hid (∀V a1 n1 c1 a2 n2 c2,Ints V a1 n1 mod->bC V a2 n2 (aZ (ah P M.toNat mod) L m)->Calls prog 158 #[.agg #[.int .i64 P,.int .i64 M,.slice a1 n1 c1,.int .i64 m,.slice a2 n2 c2]] V (kC P M mod m L V)) :=
  λV a1 n1 c1 a2 n2 c2 h1 h2=>xA P M a1 n1 c1 mod m a2 n2 c2 L V hE h1 h2
 unfold i5 at HD;unfold kC at HWd ⊢;generalize aZ (ah P M.toNat mod) L m=D at *;generalize qE P M mod m L=f at *;generalize mS P M mod m L=S at *;obtain ⟨nm,hnm⟩ : ∃nm,mod.length=nm:=⟨_,rfl⟩
 obtain ⟨nd,hnd⟩ : ∃nd,D.length=nd:=⟨_,rfl⟩
 rw [hnm,hnd] at HD;clear hmod hi hE hmn hnm hnd;go_enter func101,ntmps101;go_upto_region 1 with fail;obtain ⟨W,hW⟩ : ∃W : World,W=w.alloc (.cells #[.int .i64 P,.int .i64 M,.slice am mn cm,.int .i64 m,.slice a n c] 27):=⟨_,rfl⟩
 rw [<- hW];have hbW : Mv w W:=by rw [hW];exact an _ _
 have x0 : aO W w.heap.size [.int .i64 P,.int .i64 M,.slice am mn cm,.int .i64 m,.slice a n c]:=by rw [hW];exact LZ _ _ _ rfl
 have c0:=x0.cell 0 rfl;have c1:=x0.cell 1 rfl;have c2:=x0.cell 2 rfl;have c3:=x0.cell 3 rfl;have c4:=x0.cell 4 rfl;have HbW:=Z5 hbW;clear hW x0 hbW;go_wp2_with fail;refine (HD.out W HbW.out).mono ?_;rintro e w1 ⟨a1,k1,a2,k2,rfl,hI1,hM1,hb1⟩;obtain ⟨U,hU⟩ : ∃U : World,U=w1.alloc (.cells #[.int .i64 P,.int .i64 M,.slice a1 nm k1,.int .i64 m,.slice a2 nd k2] 27):=⟨_,rfl⟩
 have hbU : Mv w1 U:=by rw [hU];exact an _ _
 have y0 : aO U w1.heap.size [.int .i64 P,.int .i64 M,.slice a1 nm k1,.int .i64 m,.slice a2 nd k2]:=by rw [hU];exact LZ _ _ _ rfl
 have hF:=LY HbW.out (LY hb1 hbU);have HC:=Z5 (HWd.out U a1 nm k1 a2 nd k2 (hI1.ints.af hbU) (hM1.jX.af hbU));clear c0 c1 c2 c3 c4 hI1 hM1;have c0:=y0.cell 0 rfl;have c1:=y0.cell 1 rfl;have c2:=y0.cell 2 rfl;have c3:=y0.cell 3 rfl;have c4:=y0.cell 4 rfl;rw [hU] at c0 c1 c2 c3 c4;have HU:=Z5 hU;clear hU y0;go_wp2_with fail;rw [<- HU.out];refine HC.out.mono ?_;rintro e w2 ⟨hb2,⟨h1,rfl⟩ | ⟨h1,a3,k3,c3',rfl,hM⟩⟩
 ·have hF2:=LY hF hb2;clear c0 c1 c2 c3 c4;go_wp2_with fail;go_ret2;exact ⟨hF2,.inl ⟨h1,rfl⟩⟩
 ·have hF2:=LY hF hb2;have HM:=Z5 hM;clear c0 c1 c2 c3 c4 hM;go_wp2_with fail;go_ret2;exact ⟨hF2,.inr ⟨h1,a3,k3,c3',rfl,HM.out⟩⟩
theorem iy {X w7 : World} {t : TypeId} (hb : Below (X.alloc (.cells #[.int .i64 0,.slice none 0 0] t)).heap.size (X.alloc (.cells #[.int .i64 0,.slice none 0 0] t)) w7) : aO w7 X.heap.size [.int .i64 0,.slice none 0 0] :=
 (LZ X [.int .i64 0,.slice none 0 0] t rfl).af hb
theorem jb {X w7 : World} {t : TypeId} (hb : Below (X.alloc (.cells #[.int .i64 0,.slice none 0 0] t)).drew.heap.size (X.alloc (.cells #[.int .i64 0,.slice none 0 0] t)).drew w7) : aO w7 X.heap.size [.int .i64 0,.slice none 0 0] :=
 (LZ X [.int .i64 0,.slice none 0 0] t rfl).af (LY (GS _ _).drew hb)
def mE (S : Ll) (m : Nat) (w : World) (e : Ending) (w' : World) : Prop :=
 ∃a3 c3,e = .returned (.tuple #[.agg #[.int .i64 m,.slice a3 S.length c3],.int .i64 0])/\bQ w.heap.size w' a3 S.length S/\Mv w w'
theorem tU (P M : Int) (am : OA) (mn cm : Nat) (mod : LI) (m : Nat) (a : OA) (n c : Nat) (L : Ll) (a' : OA) (n' c' : Nat) (L' : Ll) (w : World)
  (hmod : Ints w am mn mod) (hi : bC w a n L) (hi' : bC w a' n' L') (hE : aG P M mod m L=0) (hE' : aG P M mod m L'=0) :
  Calls prog 181 #[.agg #[.int .i64 P,.int .i64 M,.slice am mn cm],.agg #[.int .i64 m,.slice a n c],.agg #[.int .i64 m,.slice a' n' c']] w (mE (bz (ah P M.toNat mod).ops m (L ++ L')) m w):=by
 obtain ⟨N',e,hm1,hm64,F,hR⟩:=bf hE;obtain rfl : m=N':=by omega
 obtain ⟨N',e',_,_,_,hR'⟩:=bf hE';obtain rfl : m=N':=by omega
 have hfB:=(aQ hE).1;have hsp:=(aQ hE).2.2.2;have hsp':=(aQ hE').2.2.2;have hcan:=(fA hsp).2;rw [GW] at hcan;have hln : L.length=n:=hi.len;have hln' : L'.length=n':=hi'.len;have hn64 : n<=64:=by have:=ko hE;omega
 have hn64' : n'<=64:=by have:=ko hE';omega
 have hpl : (bh (ah P M.toNat mod) L m).length=n:=by rw [<- dB,hcan];exact hln
 have hPv : kN L (bh (ah P M.toNat mod) L m) m:=by have h:=(dI F hR).1;rw [show bz (ah P M.toNat mod).ops m L=L from hcan] at h;exact h
 have hI:=ue hR hPv (by rw [hpl];exact hln);have hDr:=wh F hI hR';have hS : bz (ah P M.toNat mod).ops m (L ++ L')=bz (ah P M.toNat mod).ops m (bz (ah P M.toNat mod).ops m (pJ (ah P M.toNat mod).ops L (bh (ah P M.toNat mod) L m) L') ++ L) :=
  (FM F hR hPv (by rw [hpl];exact hln) hR').symm
 rw [hS];have HPair : Hid (∀V,Mv w V->Calls prog 229 #[.agg #[.int .i64 P,.int .i64 M,.slice am mn cm],.agg #[.int .i64 m,.slice a n c],.agg #[.int .i64 m,.slice a' n' c']] V λe w'=>∃b ap cp b2 m2 a2 n2 c2 ap2 k2 cp2,
   e = .returned (.tuple #[.agg #[.pointer (some ⟨b,0,none⟩),.int .i64 m,.slice a n c,.slice ap n cp],.agg #[.pointer (some ⟨b2,0,none⟩),.int .i64 m2,.slice a2 n2 c2,.slice ap2 k2 cp2],.int .i64 0])/\dz w' b (ah P M.toNat mod)/\Ints w' ap n (bh (ah P M.toNat mod) L m)/\Mv V w'):=λV hV=>by refine (Dx P M am mn cm mod m a n c L a' n' c' L' V (hmod.af hV) (hi.af hV) (hi'.af hV) hsp hsp').mono ?_;rintro e w' ⟨b,ap,cp,v2,rfl,⟨b2,m2,a2,n2,c2,ap2,k2,cp2,rfl⟩,h1,h2,h3⟩;rw [hpl] at h2 ⊢;exact ⟨b,ap,cp,b2,m2,a2,n2,c2,ap2,k2,cp2,rfl,h1,h2,h3⟩
 have HRe : Hid (∀V b ap cp,Mv w V->dz V b (ah P M.toNat mod)->Ints V ap n (bh (ah P M.toNat mod) L m)->Calls prog 230 #[.agg #[.pointer (some ⟨b,0,none⟩),.int .i64 m,.slice a n c,.slice ap n cp],.agg #[.int .i64 m,.slice a' n' c']] V
   λe w'=>∃a3 c3,e = .returned (.agg #[.int .i64 m,.slice a3 n' c3])/\bQ V.heap.size w' a3 n' (pJ (ah P M.toNat mod).ops L (bh (ah P M.toNat mod) L m) L')/\Mv V w'):=λV b ap cp hV hG hp =>
  Bk m a n c L ap cp _ a' n' c' L' hG (hi.af hV) hp (hi'.af hV) hI.ok hR' (by omega) (by omega) (by omega)
 obtain ⟨D,hD⟩ : ∃D,pJ (ah P M.toNat mod).ops L (bh (ah P M.toNat mod) L m) L'=D:=⟨_,rfl⟩
 rw [hD] at HRe hDr ⊢;have hDl : D.length=n':=by rw [<- hD,pJ,H8];exact hln'
 have hfD : dk P M mod m D=0:=j8 hfB (by omega) (by omega) hDr;have HC1 : Hid (∀V a3 c3,Mv w V->bC V a3 n' D->Calls prog 118 #[.agg #[.int .i64 P,.int .i64 M,.slice am mn cm],.agg #[.int .i64 m,.slice a3 n' c3]] V λe w'=>∃a5 ap cp,
   e = .returned (.tuple #[.agg #[.int .i64 m,.slice a5 (bh (ah P M.toNat mod) D m).length (bh (ah P M.toNat mod) D m).length],.slice ap (bh (ah P M.toNat mod) D m).length cp,.int .i64 0])/\bQ V.heap.size w' a5 (bh (ah P M.toNat mod) D m).length (bz (ah P M.toNat mod).ops m D)/\Mv V w'):=λV a3 c3 hV hM=>by
  refine (gY P M am mn cm mod m a3 n' c3 D V (hmod.af hV) hM).mono ?_;rintro e w' ⟨hb,⟨h1,_⟩ | ⟨_,m',hm',a5,ap,cp,rfl,hN,_⟩⟩
  ·exact absurd hfD h1
  ·obtain rfl : m=m':=by omega
   exact ⟨a5,ap,cp,rfl,hN,hb⟩
 have hk64 : (bh (ah P M.toNat mod) D m).length<=64:=by have:=(ef (ah P M.toNat mod).ops D m).1;show (aC (ah P M.toNat mod).ops D m).2.length<=64;omega
 have hCl : (bz (ah P M.toNat mod).ops m D).length=(bh (ah P M.toNat mod) D m).length:=dB _ _ _;have hCr:=di F hDr;obtain ⟨k,hk⟩ : ∃k,(bh (ah P M.toNat mod) D m).length=k:=⟨_,rfl⟩
 obtain ⟨C,hC⟩ : ∃C,bz (ah P M.toNat mod).ops m D=C:=⟨_,rfl⟩
 rw [hk,hC] at HC1 hCl;rw [hk] at hk64;rw [hC] at hCr ⊢;have hfX : dk P M mod m (C ++ L)=0:=j8 hfB (by omega) (by rw [H5];omega) (kH hCr hR);have HC2 : Hid (∀V a6 c6,Mv w V->bC V a6 (k+n) (C ++ L)->Calls prog 118 #[.agg #[.int .i64 P,.int .i64 M,.slice am mn cm],.agg #[.int .i64 m,.slice a6 (k+n : Nat) c6]] V λe w'=>∃a7 c7 ap q cp,
   e = .returned (.tuple #[.agg #[.int .i64 m,.slice a7 (bz (ah P M.toNat mod).ops m (C ++ L)).length c7],.slice ap q cp,.int .i64 0])/\bQ V.heap.size w' a7 (bz (ah P M.toNat mod).ops m (C ++ L)).length (bz (ah P M.toNat mod).ops m (C ++ L))/\Mv V w'):=λV a6 c6 hV hM=>by
  refine (gY P M am mn cm mod m a6 (k+n) c6 (C ++ L) V (hmod.af hV) hM).mono ?_;rintro e w' ⟨hb,⟨h1,_⟩ | ⟨_,m',hm',a5,ap,cp,rfl,hN,_⟩⟩
  ·exact absurd hfX h1
  ·obtain rfl : m=m':=by omega
   rw [<- dB] at hN ⊢;exact ⟨a5,_,ap,_,cp,rfl,hN,hb⟩
 have HI:=Z5 (Hi hi hi');obtain ⟨S,hS2⟩ : ∃S,bz (ah P M.toNat mod).ops m (C ++ L)=S:=⟨_,rfl⟩
 rw [hS2] at HC2 ⊢;have HPost : Hid (∀a3 c3 V,bQ w.heap.size V a3 S.length S->Mv w V->mE S m w (.returned (.tuple #[.agg #[.int .i64 m,.slice a3 S.length c3],.int .i64 0])) V):=λa3 c3 V h1 h2=>⟨a3,c3,rfl,h1,h2⟩
 generalize mE S m w=Post at *;obtain ⟨q,hq⟩ : ∃q,S.length=q:=⟨_,rfl⟩
 rw [hq] at HC2 HPost;generalize ah P M.toNat mod=G at *;generalize bh G L m=Pv at *;clear hmod hi hi' hE hE' hfB hsp hsp' hcan hpl hPv hI hDr hS hD hDl hfD hk hC hCl hCr hfX hS2 hq hR hR' F e e' hln hln';go_enter func181,ntmps181;go_upto_region 1 with fail;obtain ⟨W,hW⟩ : ∃W : World,W=(((w.alloc (.cells #[.int .i64 P,.int .i64 M,.slice am mn cm] 24)).alloc (.cells #[.int .i64 m,.slice a n c] 94)).alloc (.cells #[.int .i64 m,.slice a' n' c'] 94)).alloc (.cells #[.int .i64 0,.slice none 0 0] 94):=⟨_,rfl⟩
 rw [<- hW];have hbW : Mv w W:=by rw [hW];exact LY (jI _ _ _ _) (an _ _)
 have hsW : W.heap.size=w.heap.size+4:=by rw [hW];simp
 have x0 : aO W w.heap.size [.int .i64 P,.int .i64 M,.slice am mn cm]:=by rw [hW];exact (((LZ _ _ _ rfl).alloc _).alloc _).alloc _
 have x1 : aO W (w.heap.size+1) [.int .i64 m,.slice a n c]:=by rw [hW];exact ((LZ _ _ _ (by simp)).alloc _).alloc _
 have x2 : aO W (w.heap.size+1+1) [.int .i64 m,.slice a' n' c']:=by rw [hW];exact (LZ _ _ _ (by simp)).alloc _
 have x3 : aO W (w.heap.size+1+1+1) [.int .i64 0,.slice none 0 0]:=by rw [hW];exact LZ _ _ _ (by simp)
 clear hW;have HX : Hid (∀V,Mv W V->V.cell? ⟨w.heap.size,0,none⟩=some (.int .i64 P)/\V.cell? ⟨w.heap.size,1,none⟩=some (.int .i64 M)/\V.cell? ⟨w.heap.size,2,none⟩=some (.slice am mn cm)/\V.cell? ⟨w.heap.size+1,0,none⟩=some (.int .i64 m)/\V.cell? ⟨w.heap.size+1,1,none⟩=some (.slice a n c)/\V.cell? ⟨w.heap.size+1+1,0,none⟩=some (.int .i64 m)/\V.cell? ⟨w.heap.size+1+1,1,none⟩=some (.slice a' n' c')):=λV hV=>by have a0:=x0.af hV;have a1:=x1.af hV;have a2:=x2.af hV;exact ⟨a0.cell 0 rfl,a0.cell 1 rfl,a0.cell 2 rfl,a1.cell 0 rfl,a1.cell 1 rfl,a2.cell 0 rfl,a2.cell 1 rfl⟩
 have HX3:=Z5 x3;have HbW:=Z5 hbW;have HsW:=Z5 hsW;clear x0 x1 x2 x3 hbW hsW;go_cut [8,10] (λv8 v10 wx=>v10 = .int .i64 0/\∃g b ap cp,v8 = .pointer (some ⟨g,0,none⟩)/\Hid (aO wx g [.pointer (some ⟨b,0,none⟩),.int .i64 m,.slice a n c,.slice ap n cp])/\Hid (dz wx b G)/\Hid (Ints wx ap n Pv)/\Mv W wx);case first =>
  obtain ⟨c0,c1,c2,d0,d1,e0,e1⟩:=HX.out W (GS _ _)
  go_wp2_with fail
  refine (HPair.out W HbW.out).mono ?_
  rintro e w1 ⟨b,ap,cp,b9,m9,a9,n9,d9,ap9,k9,cp9,rfl,hG,hP,hb1⟩
  have HG:=Z5 (Hi hG hP)
  clear c0 c1 c2 d0 d1 e0 e1 hG hP
  go_wp2_with fail
  go_meet
  have hbn:=du w1 (.cells #[.pointer (some ⟨b,0,none⟩),.int .i64 m,.slice a n c,.slice ap n cp] 210) (.cells #[.pointer (some ⟨b9,0,none⟩),.int .i64 m9,.slice a9 n9 d9,.slice ap9 k9 cp9] 210)
  exact ⟨rfl,w1.heap.size,b,ap,cp,rfl,(LZ w1 [.pointer (some ⟨b,0,none⟩),.int .i64 m,.slice a n c,.slice ap n cp] _ rfl).alloc _,HG.out.1.af hbn,HG.out.2.af hbn,LY hb1 hbn⟩
 obtain ⟨rfl,g,b,ap,cp,rfl,HV,HG,HP,hb1⟩:=hcut;generalize wc=U at *;have hF1:=LY HbW.out hb1;have HS5 : Hid (∀V,Mv U V->V.cell? ⟨w.heap.size,0,none⟩=some (.int .i64 P)/\V.cell? ⟨w.heap.size,1,none⟩=some (.int .i64 M)/\V.cell? ⟨w.heap.size,2,none⟩=some (.slice am mn cm)/\V.cell? ⟨w.heap.size+1+1,0,none⟩=some (.int .i64 m)/\V.cell? ⟨w.heap.size+1+1,1,none⟩=some (.slice a' n' c') /\
   V.cell? ⟨g,0,none⟩=some (.pointer (some ⟨b,0,none⟩))/\V.cell? ⟨g,1,none⟩=some (.int .i64 m)/\V.cell? ⟨g,2,none⟩=some (.slice a n c)/\V.cell? ⟨g,3,none⟩=some (.slice ap n cp)/\Mv U V):=λV hV=>by obtain ⟨q0,q1,q2,_,_,q5,q6⟩:=HX.out V (LY hb1 hV);have y:=HV.out.af hV;exact ⟨q0,q1,q2,q5,q6,y.cell 0 rfl,y.cell 1 rfl,y.cell 2 rfl,y.cell 3 rfl,hV⟩
 have HR1:=Z5 (λV (hV : Mv U V)=>HRe.out V b ap cp (LY hF1 hV) (HG.out.af hV) (HP.out.af hV));have HK1:=Z5 (λV a3 c3 (hV : Mv U V) h=>HC1.out V a3 c3 (LY hF1 hV) h);obtain ⟨c0,c1,c2,e0,e1,g0,g1,g2,g3,_⟩:=HS5.out U (GS _ _);go_upto_region 4 with fail;go_cut [11,10] (λv11 v10 wx=>v10 = .int .i64 0/\∃h a5,v11 = .pointer (some ⟨h,0,none⟩)/\Hid (aO wx h [.int .i64 m,.slice a5 k k])/\Hid (U.heap.size<=h)/\Hid (fQ (λb=>b=h) wx a5 k C)/\Mv U wx);case first =>
  go_region_held3 (λV=>V.cell? ⟨w.heap.size,0,none⟩=some (.int .i64 P)/\V.cell? ⟨w.heap.size,1,none⟩=some (.int .i64 M)/\V.cell? ⟨w.heap.size,2,none⟩=some (.slice am mn cm)/\V.cell? ⟨w.heap.size+1+1,0,none⟩=some (.int .i64 m)/\V.cell? ⟨w.heap.size+1+1,1,none⟩=some (.slice a' n' c') /\
   V.cell? ⟨g,0,none⟩=some (.pointer (some ⟨b,0,none⟩))/\V.cell? ⟨g,1,none⟩=some (.int .i64 m)/\V.cell? ⟨g,2,none⟩=some (.slice a n c)/\V.cell? ⟨g,3,none⟩=some (.slice ap n cp)/\Mv U V)
   ((refine HS5.out _ ?_;first | exact (GS _ _).drew | assumption | (go_split_ands;first | assumption | exact LY (by assumption) (an _ _) | exact (LY (by assumption) (an _ _)).drew | exact LY (by assumption) (by assumption) | exact Kf (Kf (by assumption) (by first | exact hB2.size | exact hB3.size | simp) _) (by first | exact hB2.size | exact hB3.size | simp) _)))
   (first
    | (go_at_call 230;((with_reducible refine (HR1.out _ (by go_split_ands;assumption)).mono ?_);rintro e w2 ⟨a3,k3,rfl,hM3,hb2⟩;have hB2 : Mv U w2:=(by go_split_ands;exact LY (by assumption) hb2);have HM3:=Z5 hM3.jX;clear hM3;(first | (have HB2:=Z5 (jb hb2)) | (have HB2:=Z5 (iy hb2)) | skip)))
    | (go_at_call 118;((with_reducible refine (HK1.out _ a3 k3 (by go_split_ands;assumption) (by first | exact HM3.out | exact HM3.out.af (an _ _) | exact HM3.out.af (an _ _).drew | exact HM3.out.af (GS _ _).drew)).mono ?_);rintro e w3 ⟨a5,ap5,cp5,rfl,hM5,hb3⟩;have hB3 : Mv U w3:=(by go_split_ands;exact LY (by assumption) hb3);have HM5:=Z5 hM5;clear hM5;(first | (have HB3:=Z5 (jb hb3)) | (have HB3:=Z5 (iy hb3)) | (have HB3:=Z5 (HB2.out.af hb3)) | skip);(first | (have z0:=HB3.out.cell 0 rfl;have z1:=HB3.out.cell 1 rfl;have f0:=HB3.out.frozen 0;have f1:=HB3.out.frozen 1) | skip))))
  all_goals (
   go_wp2_with fail
   go_meet
   first
    | exact ⟨rfl,_,a5,rfl,LZ w3 [.int .i64 m,.slice a5 k k] _ rfl,hB3.size,(fQ.Dh HM5.out.jX (λb hb=>by rw [show b=w3.heap.size from hb];exact GQ _)).af (an _ _),by go_split_ands;assumption⟩
    | exact ⟨rfl,_,a5,rfl,(HB3.out.setCell 0 (.int .i64 m)).setCell 1 (.slice a5 k k),(by first | exact hB2.size | exact GQ _),HM5.out.GA (by first | exact HB2.out.1 | simp) _ _,by go_split_ands;assumption⟩)
 obtain ⟨rfl,h,a5,rfl,HBx,HUh,HMA,hbV⟩:=hcut;generalize wc=V at *;have hF2:=LY hF1 hbV;clear c0 c1 c2 e0 e1 g0 g1 g2 g3;have HXV : Hid (∀X,Mv U X->X.cell? ⟨w.heap.size,0,none⟩=some (.int .i64 P)/\X.cell? ⟨w.heap.size,1,none⟩=some (.int .i64 M)/\X.cell? ⟨w.heap.size,2,none⟩=some (.slice am mn cm)/\X.cell? ⟨w.heap.size+1,1,none⟩=some (.slice a n c)):=λX hX=>by obtain ⟨q0,q1,q2,_,q4,_⟩:=HX.out X (LY hb1 hX);exact ⟨q0,q1,q2,q4⟩
 obtain ⟨c0,c1,c2,e1⟩:=HXV.out V hbV;have h0:=HBx.out.cell 0 rfl;have h1:=HBx.out.cell 1 rfl;have hwU:=hF1.size;have hLA : fQ (λb=>b=h) V a n L:=(fQ.Dh HI.out.1 (λb hb=>by rw [show b=h from hb];exact H7 hwU HUh.out)).af hF2;have HLA:=Z5 hLA;have hhV:=HBx.out.1;have HhV:=Z5 hhV;clear hLA hhV hwU;go_wp2_with (at_builtin;refine rh rfl _ _ 25 22 rfl 24 underlying25 ew (λb=>b=h) (λb hb=>by rw [show b=h from hb];exact HhV.out) a5 k C rfl HMA.out a n c L rfl HLA.out (by omega) (by unfold maxLen;omega) ?_;intro a6 c6 w6 hM6 hb6;have k1:=(HBx.out.af hb6).cell 1 rfl;have k0:=(HBx.out.af hb6).cell 0 rfl;have f1:=(HBx.out.af hb6).frozen 1;have hbU6:=LY hbV hb6;have hM7:=(hM6.dG (aB.qc (I:=λb=>b=h) (p:=⟨h,1,none⟩) w6 rfl (.slice a6 (k+n) c6))).jX;have hb7 : Mv U (w6.setCell ⟨h,1,none⟩ (.slice a6 (k+n) c6)):=hbU6.setCell (p:=⟨h,1,none⟩) HUh.out _;have hC7:=HC2.out _ a6 c6 (LY hF1 hb7) hM7;obtain ⟨r0,r1,r2,_⟩:=HXV.out _ hb7;have y7:=(HBx.out.af hb6).setCell 1 (.slice a6 (k+n) c6);have s0:=y7.cell 0 rfl;have s1:=y7.cell 1 rfl);refine hC7.mono ?_;rintro e w8 ⟨a7,c7,ap7,q7,cp7,rfl,hN7,hb8⟩;have hbU8:=LY hb7 hb8;have hF8:=LY hF1 hbU8;have x3:=HX3.out.af (LY hb1 hbU8);have z0:=x3.cell 0 rfl;have z1:=x3.cell 1 rfl;have g0:=x3.frozen 0;have g1:=x3.frozen 1;have hs:=HsW.out;have hs1:=hb1.size;have hs2:=hb7.size;rw [Lh] at hs2;have hz : w.heap.size+1+1+1<w8.heap.size:=x3.1;have HFin : Hid (bQ w.heap.size (((w8.setCell ⟨w.heap.size+1+1+1,0,none⟩ (.int .i64 m)).setCell ⟨w.heap.size+1+1+1,1,none⟩ (.slice a7 q c7)).alloc (.cells #[.int .i64 m,.slice a7 q c7] 94)) a7 q S /\
   Mv w (((w8.setCell ⟨w.heap.size+1+1+1,0,none⟩ (.int .i64 m)).setCell ⟨w.heap.size+1+1+1,1,none⟩ (.slice a7 q c7)).alloc (.cells #[.int .i64 m,.slice a7 q c7] 94))) :=
  ⟨(((hN7.setCell (p:=⟨w.heap.size+1+1+1,0,none⟩) (by simp;omega) _).setCell (p:=⟨w.heap.size+1+1+1,1,none⟩) (by simp;omega) _).af (an _ _)).mono (by simp;omega),
   LY ((hF8.setCell (p:=⟨w.heap.size+1+1+1,0,none⟩) (by simp;omega) _).setCell (p:=⟨w.heap.size+1+1+1,1,none⟩) (by simp;omega) _) (an _ _)⟩
 clear r0 r1 r2 s0 s1 k0 k1 f1 hN7 hM6 hM7 y7 x3 c0 c1 c2 e1 h0 h1;go_wp2_with fail;exact bodyPost_ret (v:=.tuple #[.agg #[.int .i64 m,.slice a7 q c7],.int .i64 0]) (by simp [results,results181,go_sem,z0,z1,hz]) rfl (HPost.out a7 c7 _ HFin.out.1 HFin.out.2)
section
variable {O : aM} {El : Int->Prop} {m : Nat} {L : Ll}
structure GK (O : aM) (El : Int->Prop) (m : Nat) (L : Ll) (y t : LI) (k : Nat) (st : LS) : Prop where
 rws : bG El m st.rows
 len : st.rows.length=L.length
 vc : Vc El m st.sum
 top : st.top=k
 kl : k<=L.length
 sup : eQ O El m L st.rows
 sub : eQ O El m st.rows L
 cos : ∃f,RS O El m L f/\(∀x,x<m->El (f x))/\∀x,x<m->nth st.sum x=O.add (nth y x) (f x)
 one : ∀i,i<k->nth (ai st.rows i) (nth t i).toNat=1
 zero : ∀j i,j<k->j<i->i<L.length->nth (ai st.rows i) (nth t j).toNat=0
 sz : ∀j,j<k->nth st.sum (nth t j).toNat=0
end
section
variable {O : aM} {El : Int->Prop} {m : Nat} {L V : Ll}
end
section
variable {P M : Int} {mod : LI} {m : Nat} {L : Ll}
def fb (P M : Int) (mod : LI) (m : Nat) (L : Ll) (i : Int) : Ll:=aZ (ah P M.toNat mod) (bz (ah P M.toNat mod).ops m (L ++ [ez m i])) m
end
section
variable {O : aM} {El : Int->Prop} {m : Nat} {L : Ll}
end
section
variable {P M : Int} {mod : LI} {m : Nat} {L : Ll}
end
def digN (q : Nat) : Nat->Nat->LI
 | 0,_=>[]
 | k+1,n=>((n / q ^ k % q : Nat) : Int) :: digN q k n
theorem qj (q n : Nat) : ∀k,(digN q k n).length=k
 | 0=>rfl
 | k+1=>by rw [digN,Io,qj]
theorem tV {q n : Nat} (hq : 0<q) : ∀k,∀x ∈ digN q k n,0<=x/\x<(q : Int)
 | 0,x,hx=>by simp [digN] at hx
 | k+1,x,hx=>by
  rw [digN] at hx;rcases List.mem_cons.1 hx with rfl | hx
  ·have:=Jm (n / q ^ k) hq;omega
  ·exact tV hq k x hx
theorem wa {q : Nat} (hq : 0<q) (a r k : Nat) : ∀t,t<=k->digN q t (a * q ^ k+r)=digN q t r
 | 0,_=>rfl
 | t+1,ht=>by
  rw [digN,digN,wa hq a r k t (by omega)];congr 2;obtain ⟨d,rfl⟩ : ∃d,k=t+1+d:=⟨k - (t+1),by omega⟩
  have e : a * q ^ (t+1+d)+r=r+(a * q ^ d * q) * q ^ t:=by
   rw [Nat.pow_add,Jt];have : a * (q ^ t * q * q ^ d)=a * q ^ d * q * q ^ t:=by rw [KG a,KG a];congr 1;rw [IU (q ^ t * q),IU (q ^ t) q,KG]
   omega
  rw [e,JO _ _ (Nat.pow_pos hq),Nat.add_mul_mod_self_right]
theorem pU {f : Nat->Ll} {B : Nat} (hB : ∀a,(f a).length=B) : ∀c,((List.range c).flatMap f).length=c * B/\∀a,a<c->∀r,r<B->ai ((List.range c).flatMap f) (a * B+r)=ai (f a) r
 | 0=>⟨by simp,λa ha=>by omega⟩
 | c+1=>by
  obtain ⟨h1,h2⟩:=pU hB c;rw [I7,Ld,KO];refine ⟨by rw [H5,h1,hB,J6],λa ha r hr=>?_⟩;simp only [ai,GY] at h2 ⊢;by_cases hc : a<c
  ·have h3 : a * B+r<c * B:=by have:=K8 B (show a+1<=c by omega);rw [J6] at this;omega
   rw [Ie (by rw [h1];exact h3)];exact h2 a hc r hr
  ·obtain rfl : a=c:=by omega
   rw [IN (by rw [h1];omega),h1,show a * B+r - a * B=r by omega]
theorem jd (q : Nat) : ∀k,(msgs q k).length=q ^ k
 | 0=>rfl
 | k+1=>by rw [msgs,(pU (B:=q ^ k) (λa=>by rw [H8,jd q k]) q).1,Jt,IU]
theorem wT {q : Nat} (hq : 0<q) : ∀k n,n<q ^ k->ai (msgs q k) n=digN q k n
 | 0,n,h=>by
  obtain rfl : n=0:=by simp at h;exact h
  rfl
 | k+1,n,h=>by
  have hp:=Nat.pow_pos (n:=k) hq;have e : n=n / q ^ k * q ^ k+n % q ^ k:=by have:=Jq n (q ^ k);rw [IU] at this;omega
  have h1 : n / q ^ k<q:=(Nat.div_lt_iff_lt_mul hp).2 (by rw [IU,<- Jt];exact h);have h2:=Jm n hp;have h3:=(pU (f:=λ(a : Nat)=>(msgs q k).map λs=>(a : Int) :: s) (B:=q ^ k) (λa=>by rw [H8,jd q k]) q).2 (n / q ^ k) h1 (n % q ^ k) h2;rw [<- e] at h3;rw [msgs,h3,aD (by rw [H8,jd];exact h2),IF,<- aD (by rw [jd];exact h2),wT hq k _ h2,digN,Ke h1];congr 1;have h4:=wa hq (n / q ^ k) (n % q ^ k) k k (GQ _);rw [<- e] at h4;exact h4.symm
theorem zX {O : aM} {m q : Nat} (hq : 0<q) {L : Ll} {n : Nat} (h : n<q ^ L.length) : ai (wlkS O q L (List.replicate m 0)) n=cmbTo O m (digN q L.length n) L L.length:=by rw [An,aD (by rw [H8,jd];exact h),IF,<- aD (by rw [jd];exact h),wT hq _ _ h]
section
open Go.RowKit
end
end Go.Proofs.YthglbncgemdcbaaGreat
