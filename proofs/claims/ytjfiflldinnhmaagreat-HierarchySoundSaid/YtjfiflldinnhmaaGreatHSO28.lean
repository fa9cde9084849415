import Derived.Test.YtjfiflldinnhmaaGreatHSO25
import Derived.Test.YtjfiflldinnhmaaGreatHSO24
import Derived.Test.YtjfiflldinnhmaaGreatHSO27
namespace Go.Proofs.YtjfiflldinnhmaaGreat
set_option linter.all false
set_option maxRecDepth 100000
set_option maxHeartbeats 4000000
open Go.RowKit Go.Proofs.Tryz
theorem ba.agree {w : World} {b : Nat} {cs ds : List Value} (h : ba w b cs) (e : cs=ds) : ba w b ds:=e ▸ h
theorem rM {w w0 : World} {b : Nat} {G : cC} {a : OA} {n : Nat} {L : LL} {m : Nat} {ay : OA} {ny : Nat} {C : iV} (pb : Nat) (P M : Int) (am : OA) (mn cm c cy : Nat)
  (ax : OA) (nx cx : Nat) (ts : LL) (E : vj w0 b G a n L m ay ny C) (hts : bY w0 ax nx ts) (hpb : w0.heap.size<=pb) (hb : JA w0 w) (hB : ba w pb (kG b P M am mn cm m a n c ay ny cy C (.slice none 0 0) 0)) :
  Calls prog 125 #[.pointer (some ⟨pb,0,none⟩),.agg #[.slice ax nx cx]] w λe w'=>e = .returned (.int .i64 (mI G.ops L m C ts))/\JA w0 w':=by
 have Htl:=Z5 hts.len;obtain ⟨PR,hPR⟩ : ∃PR,mI G.ops L m C ts=PR:=⟨_,rfl⟩
 rw [hPR];have HPR:=Z5 hPR;clear hPR;have hb1 : JA w (w.alloc (.cells #[.slice ax nx cx] 84)):=aA _ _;have hBa:=hB.aa hb1;have f10:=hBa.frozen 10;have q10:=hBa.cell 10 rfl;have hsb : pb<w.heap.size:=hB.1;go_enter func125,ntmps125;go_wp2_with fail;obtain ⟨Z,hZ⟩ : ∃Z : World,Z=(w.setCell ⟨pb,10,none⟩ (.slice ax nx cx)).alloc (.cells #[.slice ax nx cx] 84):=⟨_,rfl⟩
 rw [<- hZ];have hBZ : ba Z pb (kG b P M am mn cm m a n c ay ny cy C (.slice ax nx cx) 0):=by rw [hZ];exact (hB.setCell 10 (.slice ax nx cx)).alloc _
 have hbZ : JA w0 Z:=by rw [hZ];exact I8 (hb.setCell hpb _) (aA _ _)
 clear hZ hBa f10 q10 hB;refine (mH pb P M am mn cm c cy ax nx cx ts E hts hpb C.W Z 0 none 0 0 [] none 0 0 [] (by omega) (by omega) (by omega) hbZ hBZ (Jf _ _) (Jf _ _) (λh=>by omega) (λh=>by omega) (by simp) (λx hx=>by simp at hx)).mono ?_;rintro e w5 ⟨k',g1,g2,g3,he,g5⟩;have hb5 : JA w0 w5:=hbZ.trans (g3.below (λx hx=>by rw [hx];exact hpb) hbZ.size);rw [Ip] at g5 he;have c10:=g2.cell 10 rfl;have c11:=g2.cell 11 rfl;have hP2 : PR=match gF G.ops L m C C.W [] [] ts with | some []=>0 | _=>13:=by rw [<- HPR.out];rfl
 cases hf : gF G.ops L m C C.W [] [] ts with
 | none =>
  rw [hf] at hP2 he
  have HP:=Z5 hP2
  have he' : e = .returned (.int .i64 13):=he
  subst he'
  clear hf hP2 g5 he
  have hd : ((13 : Int) == 0)=false:=rfl
  go_wp2_with fail
  go_quiet (fail)
  go_wp2_with fail
  go_ret
  exact ⟨by rw [HP.out];rfl,hb5.trans (I4 (Jk ⟨_,rfl⟩) hb5.size)⟩
 | some r =>
  rw [hf] at hP2 g5 he
  have he' : e = .returned (.int .i64 0):=he
  subst he'
  clear he
  have g6 : ts.drop k'=r:=g5 rfl
  have hlen : r.length=nx - k':=by rw [<- g6,H0,Htl.out]
  rw [Htl.out] at g1
  by_cases hk : k'<nx
  ·have HP : Hid (PR=13):=by
    show _=_;rw [hP2];cases r with
    | nil=>simp at hlen;omega
    | cons x r=>rfl
   have hd : decide ((k' : Int)<(nx : Int))=true:=by simp;omega
   clear hf hP2 g5 g6 hlen
   go_wp2_with fail
   go_quiet (fail)
   go_wp2_with fail
   go_ret
   exact ⟨by rw [HP.out];rfl,hb5.trans (I4 (Jk ⟨_,rfl⟩) hb5.size)⟩
  ·have HP : Hid (PR=0):=by
    show _=_;rw [hP2];cases r with
    | nil=>rfl
    | cons x r=>simp at hlen;omega
   have hd : decide ((k' : Int)<(nx : Int))=false:=by simp;omega
   clear hf hP2 g5 g6 hlen
   go_wp2_with fail
   go_quiet (fail)
   go_wp2_with fail
   go_ret
   exact ⟨by rw [HP.out];rfl,hb5.trans (I4 (Jk ⟨_,rfl⟩) hb5.size)⟩
def vB (w0 : World) (V : Int × LL) (e : Ending) (w' : World) : Prop :=
 JA w0 w'/\((V.1 ≠ 0/\e = .returned (.tuple #[.agg #[.slice none 0 0],.int .i64 V.1])) \/
  (V.1=0/\∃ar cr R,e = .returned (.tuple #[.agg #[.slice ar V.2.length cr],.int .i64 0])/\aN w' w0.heap.size ar V.2.length cr R V.2))
theorem vP {w w0 : World} {b : Nat} {G : cC} {a : OA} {n : Nat} {L : LL} {m : Nat} {ay : OA} {ny : Nat} {C : iV} (pb : Nat) (P M : Int) (am : OA) (mn cm c cy : Nat)
  (E : vj w0 b G a n L m ay ny C) (hpb : w0.heap.size<=pb) (hb : JA w0 w) (hB : ba w pb (kG b P M am mn cm m a n c ay ny cy C (.slice none 0 0) 0)) :
  Calls prog 159 #[.pointer (some ⟨pb,0,none⟩)] w (vB w0 (qH G.ops L m C)):=by
 obtain ⟨V,hV⟩ : ∃V,qH G.ops L m C=V:=⟨_,rfl⟩
 rw [hV];have HV:=Z5 hV;clear hV;have hsb : pb<w.heap.size:=hB.1;go_enter func159,ntmps159;go_wp2_with fail;obtain ⟨U,hU⟩ : ∃U : World,U=w.alloc (.cells #[.slice none 0 0] 84):=⟨_,rfl⟩
 rw [<- hU];have hbU : JA w U:=by rw [hU];exact aA _ _
 have hsU : U.heap.size=w.heap.size+1:=by rw [hU];simp
 have x0 : ba U w.heap.size [.slice none 0 0]:=by rw [hU];exact Ja _ _ _ rfl
 have hBU:=hB.aa hbU;have hb0U : JA w0 U:=hb.trans (hbU.mono hb.size);clear hU hB;have hM0 : jk U w0.heap.size pb b P M am mn cm m a n c ay ny cy C ⟨none,0,[],[]⟩:=⟨hBU,aN.empty U _,λh=>by
  rcases h with ⟨h1,_⟩ | ⟨i,hi,_⟩
  ·exact h1 rfl
  ·simp at hi,by simp⟩
 refine (mO pb P M am mn cm c cy E hpb C.W U ⟨none,0,[],[]⟩ none 0 0 [] none 0 0 [] (by omega) (by omega) hb0U hM0 (Jf _ _) (Jf _ _) (λh=>by omega) (λh=>by omega) (by simp) (λx hx=>by simp at hx)).mono ?_;rintro e w5 ⟨σ',g1,g2,g3,g4,rfl,g6⟩;have hVe : iL G.ops L m C C.W [] [] []=V:=HV.out;rw [hVe] at g6 ⊢;have hgn : ¬ (⟨none,0,[],[]⟩ : ma).J pb w.heap.size:=λh=>by
  rcases h with h | ⟨h1,_⟩ | ⟨i,hi,_⟩
  ·omega
  ·exact h1 rfl
  ·simp at hi
 have hb5 : JA w0 w5:=hb0U.trans (g4.below (λx hx=>by
  rcases hx with h | ⟨h1,_⟩ | ⟨i,hi,_⟩
  ·rw [h];exact hpb
  ·exact absurd rfl h1
  ·simp at hi) hb0U.size)
 have x5:=x0.dm g4 hgn;have z0:=x5.cell 0 rfl;have f0:=x5.frozen 0;have hgn5 : ¬ bH σ'.ar σ'.R w.heap.size:=λh=>g4.not x0.1 hgn (.inr h);have hszw:=hb.size;obtain ⟨ve,vt⟩:=V;dsimp only at g6 ⊢;by_cases hve : ve=0
 ·subst hve;have ht : σ'.T=vt:=g6 rfl;have hF : ∀v : Value,JA w0 (w5.setCell ⟨w.heap.size,0,none⟩ v)/\aN (w5.setCell ⟨w.heap.size,0,none⟩ v) w0.heap.size σ'.ar vt.length σ'.cr σ'.R vt:=λv=>by refine ⟨hb5.setCell hszw _,?_⟩;rw [<- ht];exact g1.om.bt λx hx=>EZ _ _ _ _ λe=>hgn5 (by have e' : x=w.heap.size:=e;rw [<- e'];exact hx)
  have HF:=Z5 hF;have p10:=g1.box.cell 10 rfl;rw [ht] at p10;clear g1 g2 g3 g4 g6 hF ht;go_wp2_with fail;have z1 : (w5.setCell ⟨w.heap.size,0,none⟩ (.slice σ'.ar vt.length σ'.cr)).cell? ⟨w.heap.size,0,none⟩=some (.slice σ'.ar vt.length σ'.cr):=EX _ _ _ z0;exact bodyPost_ret (v:=.tuple #[.agg #[.slice σ'.ar vt.length σ'.cr],.int .i64 0]) (by simp [results,results159,go_sem,z0,z1]) rfl ⟨(HF.out _).1,.inr ⟨rfl,σ'.ar,σ'.cr,σ'.R,rfl,(HF.out _).2⟩⟩
 ·have hve' : (ve != 0)=true:=by simpa using hve
  have Hne:=Z5 hve;have HF:=Z5 (λv : Value=>hb5.setCell (p:=⟨w.heap.size,0,none⟩) hszw v);clear g1 g2 g3 g4 g6 hve;go_wp2_with fail;have z1 : (w5.setCell ⟨w.heap.size,0,none⟩ (.slice none 0 0)).cell? ⟨w.heap.size,0,none⟩=some (.slice none 0 0):=EX _ _ _ z0;exact bodyPost_ret (v:=.tuple #[.agg #[.slice none 0 0],.int .i64 ve]) (by simp [results,results159,go_sem,z0,z1]) rfl ⟨HF.out _,.inl ⟨Hne.out,rfl⟩⟩
def vi (r : Int) : LI->Nat->Int
 | [],_=>-1
 | x :: l,k=>if r<=x then k else vi r l (k+1)
def sF (l : LI) (r : Int) : Int:=vi r l 0
theorem xR (r : Int) : ∀(l : LI) (k s : Nat),k<l.length->(∀j,j<k->nth l j<r)->r<=nth l k->vi r l s=(s+k : Nat)
 | [],k,s,h,_,_=>by simp at h
 | x :: l,0,s,_,_,h=>by
  have : r<=x:=by simpa [nth] using h
  rw [vi,EH this];simp
 | x :: l,k+1,s,hk,h0,h1=>by
  have hx : x<r:=by simpa [nth] using h0 0 (by omega)
  rw [vi,EG (by omega),xR r l k (s+1) (by simpa using hk) (λj hj=>by simpa [nth] using h0 (j+1) (by omega)) (by simpa [nth] using h1)];congr 1;omega
theorem qi (r : Int) : ∀(l : LI) (s : Nat),(∀j,j<l.length->nth l j<r)->vi r l s = -1
 | [],s,_=>rfl
 | x :: l,s,h=>by
  have hx : x<r:=by simpa [nth] using h 0 (by simp)
  rw [vi,EG (by omega),qi r l (s+1) (λj hj=>by simpa [nth] using h (j+1) (by simpa using hj))]
theorem B4 (q : Nat) (r x : Int) (w : World) (hc : w.cell? ⟨q,0,none⟩=some (.int .i64 r)) :
  Calls prog 115 #[.int .i64 x,.pointer (some ⟨q,0,none⟩)] w λe w'=>e = .returned (.bool (decide (r<=x)))/\w=w':=by go_enter func115,ntmps115;go_wp2;go_ret;exact ⟨rfl,rfl⟩
theorem ub (q : Nat) (r : Int) (a : OA) (n c : Nat) (l : LI) (w : World) (hc : w.cell? ⟨q,0,none⟩=some (.int .i64 r)) (hi : Ints w a n l) :
  Calls prog 114 #[.slice a n c,.func (.func 115) #[] #[.pointer (some ⟨q,0,none⟩)]] w λe w'=>e = .returned (.int .i64 (sF l r))/\w=w':=by
 have Hlen:=Z5 hi.len;have hpl:=hi.pl;have hmax:=hi.max;unfold maxLen at hmax;go_enter func114,ntmps114;go_wp2_with fail;go_loop [8] (λiv=>∃k : Nat,k<=n/\iv = .int .i64 k/\Hid (∀j,j<k->nth l j<r)) (λiv=>n - (intOf iv).toNat);case atStart=>exact ⟨0,EL _,rfl,λj hj=>by omega⟩
 case round =>
  obtain ⟨k,hk,rfl,hall⟩:=hrel
  by_cases hlt : k<n
  ·have ck:=hi.cell k hlt
   have hct:=B4 q r (nth l k) w hc
   by_cases hz : r<=nth l k
   ·have Hf : Hid (sF l r=k):=by show _=_;rw [sF,xR r l k 0 (by rw [Hlen.out];exact hlt) hall.out hz];simp
    rw [show decide (r<=nth l k)=true by simpa using hz] at hct
    have Hc:=Z5 hct
    clear hz hct
    go_wp2_with fail
    refine Hc.out.mono ?_
    rintro e w' ⟨rfl,rfl⟩
    go_wp2_with fail
    go_ret
    exact ⟨aF Hf.out.symm,rfl⟩
   ·have Hz : Hid (nth l k<r):=by show _<_;omega
    rw [show decide (r<=nth l k)=false by simpa using hz] at hct
    have Hc:=Z5 hct
    clear hz hct
    go_wp2_with fail
    refine Hc.out.mono ?_
    rintro e w' ⟨rfl,rfl⟩
    go_wp2_with fail
    go_round
    case rel=>exact ⟨k+1,by omega,by go_num,λj hj=>by
     rcases Fm j k with h | h
     ·exact hall.out j h
     ·rw [show j=k by omega];exact Hz.out⟩
    case measure=>simp [intOf] <;> omega
  ·obtain rfl : k=n:=by omega
   have Hf : Hid (sF l r = -1):=by show _=_;rw [sF,qi r l 0 (by rw [Hlen.out];exact hall.out)]
   go_wp2_with fail
   go_ret
   exact ⟨aF Hf.out.symm,rfl⟩
def jS (p : LI) (k : Nat) : LI:=(List.range k).map λ(i : Nat)=>sF p ((i : Int)+1)
theorem vZ (p : LI) (k : Nat) : jS p (k+1)=jS p k ++ [sF p ((k : Int)+1)]:=by unfold jS;rw [FW];simp
theorem yE (p : LI) (k : Nat) : (jS p k).length=k:=by simp [jS]
def z8 (O : aL) (m : Nat) (L : LL) : LI:=jS (p6 (gj O m L) m) L.length
def Cd (P M : Int) (mod : LI) (N : Int) (L : LL) (n : Nat) (w : World) (e : Ending) (w' : World) : Prop :=
 JA w w'/\((fF P M mod N L ≠ 0/\e = .returned (.tuple #[.slice none 0 0,.int .i64 (fF P M mod N L)])) \/
  (fF P M mod N L=0/\∃a c,e = .returned (.tuple #[.slice a n c,.int .i64 0])/\w'.ownsRow w.heap.size 3 1 (.slice a n c) n ((z8 (an P M.toNat mod).ops N.toNat L).map (Value.int .i64))))
theorem uy (P M : Int) (am : OA) (mn cm : Nat) (mod : LI) (N : Int) (a : OA) (n c : Nat) (L : LL) (w : World) (hmod : Ints w am mn mod) (hi : bY w a n L) :
  Calls prog 50 #[.agg #[.int .i64 P,.int .i64 M,.slice am mn cm,.int .i64 N,.slice a n c]] w (Cd P M mod N L n w):=by
 have hmf : ∀(fn : Fn) (first cap : Array Value) (w : World),(Instr.makeFunc fn first cap).run prog w = .ok (.func fn first cap) w:=λ_ _ _ _=>rfl;have Hil:=Z5 hi.len;go_enter func50,ntmps50;go_wp2_with fail;obtain ⟨U,hU⟩ : ∃U : World,U=w.alloc (.cells #[.int .i64 P,.int .i64 M,.slice am mn cm,.int .i64 N,.slice a n c] 27):=⟨_,rfl⟩
 rw [<- hU];have hbU : JA w U:=by rw [hU];exact aA _ _
 have x0 : ba U w.heap.size [.int .i64 P,.int .i64 M,.slice am mn cm,.int .i64 N,.slice a n c]:=by rw [hU];exact Ja _ _ _ rfl
 have HX:=Z5 x0;clear hU x0;refine (mQ P M am mn cm mod N a n c L U (hmod.aa hbU) (hi.aa hbU)).mono ?_;rintro e w1 ⟨hb1,⟨hE,rfl⟩ | ⟨hE,a1,c1,rfl,hown⟩⟩
 ·obtain ⟨er,her⟩ : ∃er,fF P M mod N L=er:=⟨_,rfl⟩
  have Her:=Z5 her;rw [her] at hE ⊢;have Hne:=Z5 hE;have hE' : (er != 0)=true:=by simpa using hE
  have hF:=I8 hbU hb1;clear hE her;go_wp2_with fail;go_ret2;exact ⟨hF,.inl ⟨by rw [Her.out];exact Hne.out,by rw [Her.out];rfl⟩⟩
 have hn256 : n<=256:=by rw [<- hi.len];exact (eE (j7 hE).1).choose_spec.2.2.2.1
 have HE:=Z5 hE;obtain ⟨p,hp⟩ : ∃p,p6 (gj (an P M.toNat mod).ops N.toNat L) N.toNat=p:=⟨_,rfl⟩
 rw [hp] at hown;have Hp : Hid (z8 (an P M.toNat mod).ops N.toNat L=jS p n):=by show _=_;rw [z8,hp,Hil.out]
 have hi1:=(I9 hown).1;have hbw1:=I8 hbU hb1;clear hE hp hown;go_upto_region 6 with fail;obtain ⟨W2,hW2⟩ : ∃W2 : World,W2=w1.alloc (.cells #[.int .i64 1] 3):=⟨_,rfl⟩
 rw [<- hW2];have hb2 : JA w1 W2:=by rw [hW2];exact aA _ _
 have y2 : ba W2 w1.heap.size [.int .i64 1]:=by rw [hW2];exact Ja _ _ _ rfl
 clear hW2;go_loopw [6,7] (λov pv wr=>∃(r : Nat) (ao : OA) (co q : Nat),r<=n/\pv = .pointer (some ⟨q,0,none⟩)/\ba wr q [.int .i64 ((r : Int)+1)]/\ov = .slice ao r co/\wr.ownsRow w1.heap.size 3 1 (.slice ao r co) r ((jS p r).map (Value.int .i64))/\db ao q/\JA w1 wr)
  (λov _ _=>n - rE ov)
 case atStart=>exact ⟨0,none,0,w1.heap.size,EL _,rfl,y2,rfl,bG,.inl rfl,hb2⟩
 case round =>
  obtain ⟨r,ao,co,q,hr,rfl,hBq,rfl,hop,hap,hbr⟩:=hrel
  have cq:=hBq.cell 0 rfl
  have c4:=((HX.out.aa hb1).aa hbr).cell 4 rfl
  by_cases hlt : r<n
  ·have hd : decide ((r : Int)+1<=(n : Int))=true:=by simp;omega
   have Hc:=Z5 (ub q ((r : Int)+1) a1 (N.toNat+1) c1 p wr cq (hi1.aa hbr))
   have Hst : Hid (jS p (r+1)=jS p r ++ [sF p ((r : Int)+1)]):=vZ p r
   have hwl:=yE p r
   generalize sF p ((r : Int)+1)=v at *
   generalize jS p r=out at *
   subst hwl
   have hcn:=bk wr (.int .i64 v) 3
   have hbn:=aA wr (.cells #[.int .i64 v] 3)
   have hsz:=hbr.size
   have HBq:=Z5 hBq
   clear hBq
   go_wp2_with fail
   refine Hc.out.mono ?_
   rintro e w' ⟨rfl,rfl⟩
   have cq8:=aJ cq (.cells #[.int .i64 v] 3)
   have hop8:=hop.alloc (.cells #[.int .i64 v] 3)
   have hsz8 : w1.heap.size<=(wr.alloc (.cells #[.int .i64 v] 3)).heap.size:=by simp;omega
   clear Hc
   go_wp2_with (at_builtin;refine aX rfl _ _ 22 3 rfl (.int .i64 0) 8 underlying22 bh rfl w1.heap.size ao out.length co _ rfl hop8 ⟨wr.heap.size,0,none⟩ 1 (.int .i64 v) rfl hcn rfl (by omega) (by unfold maxLen;omega) hsz8 ?_;intro a5 c5 w5 hown5 hgr5 hap5;have cq5:=bF hgr5 cq8 hap)
   go_roundw
   case rel =>
    have hb5:=Jb (Ft hbr (hbn.mono hsz)) (hop.alloc _) hgr5 (EF _) (ET hsz hbn.size)
    have hbw5 : JA w5 (w5.alloc (.cells #[.int .i64 ((out.length : Int)+1+1)] 3)):=aA _ _
    have yb : ba (w5.alloc (.cells #[.int .i64 ((out.length : Int)+1+1)] 3)) w5.heap.size [.int .i64 ((out.length : Int)+1+1)]:=Ja _ _ _ rfl
    have hlt5 : a5=none\/ah a5<w5.heap.size:=by
     rcases iM hown5 with ⟨h,_⟩ | ⟨_,h⟩
     ·exact .inl h
     ·exact .inr h
    refine ⟨out.length+1,a5,c5,w5.heap.size,by omega,rfl,by simpa using yb,rfl,?_,?_,I8 hb5 hbw5⟩
    ·rw [Hst.out]
     have h1:=aY hown5 hbw5
     simpa using h1
    ·rcases hlt5 with h | h
     ·exact .inl h
     ·exact .inr (by omega)
   case measure=>simp [rE] <;> omega
  ·obtain rfl : r=n:=by omega
   have hd : decide ((r : Int)+1<=(r : Int))=false:=by simp;omega
   have hF:=I8 hbw1 hbr
   have Hop:=Z5 hop
   clear hop
   go_wp2_with fail
   go_ret2
   exact ⟨hF,.inr ⟨HE.out,ao,co,rfl,by rw [Hp.out];exact aW Hop.out hbw1.size⟩⟩
def jx (P M : Int) (mod : LI) (N : Int) (L : LL) (r : Int) : Int :=
 if aZ P M mod N L=0 then (if r<1\/(L.length : Int)<r then 6 else fF P M mod N L) else aZ P M mod N L
def tB (O : aL) (m : Nat) (L : LL) (r : Int) : LI:=(bS (gj O m L) m r (2 ^ m)).2
def Bz (P M : Int) (mod : LI) (N : Int) (L : LL) (r : Int) (w : World) (e : Ending) (w' : World) : Prop :=
 JA w w'/\((jx P M mod N L r ≠ 0/\e = .returned (.tuple #[.slice none 0 0,.int .i64 (jx P M mod N L r)])) \/
  (jx P M mod N L r=0/\∃a c,e = .returned (.tuple #[.slice a (tB (an P M.toNat mod).ops N.toNat L r).length c,.int .i64 0]) /\
   w'.ownsRow w.heap.size 3 1 (.slice a (tB (an P M.toNat mod).ops N.toNat L r).length c) (tB (an P M.toNat mod).ops N.toNat L r).length ((tB (an P M.toNat mod).ops N.toNat L r).map (Value.int .i64))))
theorem rz (P M : Int) (am : OA) (mn cm : Nat) (mod : LI) (N : Int) (a : OA) (n c : Nat) (L : LL) (r : Int) (w : World) (hmod : Ints w am mn mod) (hi : bY w a n L) :
  Calls prog 49 #[.agg #[.int .i64 P,.int .i64 M,.slice am mn cm,.int .i64 N,.slice a n c],.int .i64 r] w (Bz P M mod N L r w):=by
 have Hil:=Z5 hi.len;go_enter func49,ntmps49;go_wp2_with fail;obtain ⟨U,hU⟩ : ∃U : World,U=w.alloc (.cells #[.int .i64 P,.int .i64 M,.slice am mn cm,.int .i64 N,.slice a n c] 27):=⟨_,rfl⟩
 rw [<- hU];have hbU : JA w U:=by rw [hU];exact aA _ _
 have x0 : ba U w.heap.size [.int .i64 P,.int .i64 M,.slice am mn cm,.int .i64 N,.slice a n c]:=by rw [hU];exact Ja _ _ _ rfl
 have HX:=Z5 x0;clear hU x0;refine (dU P M am mn cm mod N a n c L U (hmod.aa hbU) (hi.aa hbU)).mono ?_;rintro e w1 ⟨rfl,hb1⟩;have hbw1:=I8 hbU hb1;by_cases hE : aZ P M mod N L=0;rotate_left
 ·have HE : Hid (jx P M mod N L r=aZ P M mod N L):=EG hE;have Hne:=Z5 hE;have hE' : (aZ P M mod N L != 0)=true:=by simpa using hE
  clear hE;generalize aZ P M mod N L=er at *;go_wp2_with fail;go_ret2;exact ⟨hbw1,.inl ⟨by rw [HE.out];exact Hne.out,by rw [HE.out];rfl⟩⟩
 have x1:=HX.out.aa hb1;have c4:=x1.cell 4 rfl;by_cases h1 : r<1
 ·have HE : Hid (jx P M mod N L r=6):=by show _=_;rw [jx,EH hE,EH (.inl h1)]
  have d1 : decide (r<1)=true:=by simpa using h1
  rw [hE];clear hE h1 x1;go_wp2_with fail;go_ret2;exact ⟨hbw1,.inl ⟨by rw [HE.out];decide,by rw [HE.out];rfl⟩⟩
 have d1 : decide (r<1)=false:=by simpa using h1
 by_cases h2 : (n : Int)<r
 ·have HE : Hid (jx P M mod N L r=6):=by show _=_;rw [jx,EH hE,EH (.inr (by rw [Hil.out];exact h2))]
  have d2 : decide ((n : Int)<r)=true:=by simpa using h2
  rw [hE];clear hE h1 h2 x1;go_wp2_with fail;go_ret2;exact ⟨hbw1,.inl ⟨by rw [HE.out];decide,by rw [HE.out];rfl⟩⟩
 have d2 : decide ((n : Int)<r)=false:=by simpa using h2
 have HE : Hid (jx P M mod N L r=fF P M mod N L):=by show _=_;rw [jx,EH hE,EG (by rw [Hil.out];omega)]
 have c0:=x1.cell 0 rfl;have c1:=x1.cell 1 rfl;have c2:=x1.cell 2 rfl;have c3:=x1.cell 3 rfl;have Hdm:=Z5 (oM P M am mn cm mod N a n c L w1 ((hmod.aa hbU).aa hb1) ((hi.aa hbU).aa hb1));rw [hE];clear hE h1 h2 x1;go_wp2_with fail;refine Hdm.out.mono ?_;rintro e w2 ⟨hb2,⟨hE,rfl⟩ | ⟨hE,a2,c2',rfl,hown⟩⟩
 ·have Hne:=Z5 hE;have hE' : (fF P M mod N L != 0)=true:=by simpa using hE
  have hF:=I8 hbw1 hb2;clear hE c0 c1 c2 c3 c4;generalize fF P M mod N L=er at *;go_wp2_with fail;go_ret2;exact ⟨hF,.inl ⟨by rw [HE.out];exact Hne.out,by rw [HE.out];rfl⟩⟩
 obtain ⟨_,hN1,hN16⟩:=j7 hE;have HE0 : Hid (jx P M mod N L r=0):=by show _=_;rw [HE.out,hE]
 obtain ⟨m,rfl⟩ : ∃m : Nat,N=m:=⟨N.toNat,by omega⟩
 have hm16 : m<=16:=by omega
 rw [EM] at hown;have Hw:=Z5 (mK a2 c2' m (gj (an P M.toNat mod).ops m L) r w2 hm16 (I9 hown).1);have hbw2:=I8 hbw1 hb2;obtain ⟨S,hS⟩ : ∃S,(bS (gj (an P M.toNat mod).ops m L) m r (2 ^ m)).2=S:=⟨_,rfl⟩
 have HS : Hid (tB (an P M.toNat mod).ops m L r=S):=hS;rw [hS] at Hw;obtain ⟨q,hq⟩ : ∃q,2 ^ m=q:=⟨_,rfl⟩
 rw [hq] at Hw;rw [EM,hq];clear hE c0 c1 c2 c3 c4 hown hS hq;go_wp2_with fail;refine Hw.out.mono ?_;rintro e w3 ⟨a3,c3,rfl,hown3,hb3⟩;have hF:=I8 hbw2 hb3;go_wp2_with fail;go_ret2;refine ⟨hF,.inr ⟨HE0.out,?_⟩⟩;rw [EM,HS.out];exact ⟨a3,c3,rfl,aW hown3 hbw2.size⟩
def jr (P M : Int) (mod : LI) (N : Int) (L : LL) (mm W : Int) (ts : LL) : Int :=
 if fW P M mod N L mm W=0 then mI (an P M.toNat mod).ops L N.toNat ⟨mm.toNat,W.toNat,false,[]⟩ ts else fW P M mod N L mm W
def i9 (P M : Int) (mod : LI) (N : Int) (L : LL) (mm W : Int) : Int × LL :=
 if fW P M mod N L mm W=0 then qH (an P M.toNat mod).ops L N.toNat ⟨mm.toNat,W.toNat,false,[]⟩ else (fW P M mod N L mm W,[])
def lR (V : Int × LL) (w : World) (e : Ending) (w' : World) : Prop :=
 JA w w'/\((V.1 ≠ 0/\e = .returned (.tuple #[.agg #[.slice none 0 0],.int .i64 V.1])) \/
  (V.1=0/\∃ar cr R,e = .returned (.tuple #[.agg #[.slice ar V.2.length cr],.int .i64 0])/\aN w' w.heap.size ar V.2.length cr R V.2))
theorem nb (P M : Int) (am : OA) (mn cm : Nat) (mod : LI) (N : Int) (a : OA) (n c : Nat) (L : LL) (mm W : Int) (ax : OA) (nx cx : Nat) (ts : LL) (w : World)
  (hmod : Ints w am mn mod) (hi : bY w a n L) (hts : bY w ax nx ts) :
  Calls prog 59 #[.agg #[.int .i64 P,.int .i64 M,.slice am mn cm,.int .i64 N,.slice a n c],.int .i64 mm,.int .i64 W,.agg #[.slice ax nx cx]] w λe w'=>e = .returned (.int .i64 (jr P M mod N L mm W ts))/\JA w w':=by
 go_enter func59,ntmps59;go_wp2_with fail;obtain ⟨U,hU⟩ : ∃U : World,U=(w.alloc (.cells #[.int .i64 P,.int .i64 M,.slice am mn cm,.int .i64 N,.slice a n c] 27)).alloc (.cells #[.slice ax nx cx] 84):=⟨_,rfl⟩
 rw [<- hU];have hbU : JA w U:=by rw [hU];exact fI _ _ _
 have x0 : ba U (w.heap.size+1) [.slice ax nx cx]:=by rw [hU];exact Ja _ _ _ (by simp)
 have HX:=Z5 x0;clear hU x0;refine (oe P M am mn cm mod N a n c L mm W U (hmod.aa hbU) (hi.aa hbU)).mono ?_;rintro e w1 ⟨hb1,⟨hE,rfl⟩ | ⟨hE,pb,rfl,hCl⟩⟩
 ·have HE : Hid (jr P M mod N L mm W ts=fW P M mod N L mm W):=EG hE;have hE1 : (fW P M mod N L mm W == 0)=false:=by simpa using hE
  have hE2 : (fW P M mod N L mm W != 0)=true:=by simpa using hE
  have hbF:=I8 hbU hb1;clear hE;go_wp2_with fail;go_ret;exact ⟨by rw [HE.out];rfl,hbF⟩
 ·have HE : Hid (jr P M mod N L mm W ts=mI (an P M.toNat mod).ops L N.toNat ⟨mm.toNat,W.toNat,false,[]⟩ ts):=EH hE;have x1:=HX.out.aa hb1;have c0:=x1.cell 0 rfl;obtain ⟨b,w2,rfl,hb2,hPE,hb3,hB⟩:=hCl;have HPr:=Z5 (rM w2.heap.size P M am mn cm c 0 ax nx cx ts hPE ((hts.aa hbU).aa hb2) (EF _) hb3 hB);have hbw2:=I8 hbU hb2;clear x1 hB hPE hE;go_wp2_with fail;refine HPr.out.mono ?_;rintro e w3 ⟨rfl,hb4⟩;have hbF:=I8 hbw2 hb4;go_wp2_with fail;go_ret;exact ⟨by rw [HE.out];rfl,hbF⟩
theorem nm (P M : Int) (am : OA) (mn cm : Nat) (mod : LI) (N : Int) (a : OA) (n c : Nat) (L : LL) (mm W : Int) (w : World)
  (hmod : Ints w am mn mod) (hi : bY w a n L) :
  Calls prog 117 #[.agg #[.int .i64 P,.int .i64 M,.slice am mn cm,.int .i64 N,.slice a n c],.int .i64 mm,.int .i64 W] w (lR (i9 P M mod N L mm W) w):=by
 obtain ⟨V,hV⟩ : ∃V,i9 P M mod N L mm W=V:=⟨_,rfl⟩
 rw [hV];have HV:=Z5 hV;clear hV;go_enter func117,ntmps117;go_wp2_with fail;obtain ⟨U,hU⟩ : ∃U : World,U=(w.alloc (.cells #[.int .i64 P,.int .i64 M,.slice am mn cm,.int .i64 N,.slice a n c] 27)).alloc (.cells #[.slice none 0 0] 84):=⟨_,rfl⟩
 rw [<- hU];have hbU : JA w U:=by rw [hU];exact fI _ _ _
 have hsU : U.heap.size=w.heap.size+2:=by rw [hU];simp
 have x0 : ba U (w.heap.size+1) [.slice none 0 0]:=by rw [hU];exact Ja _ _ _ (by simp)
 have HX:=Z5 x0;clear hU x0;refine (oe P M am mn cm mod N a n c L mm W U (hmod.aa hbU) (hi.aa hbU)).mono ?_;rintro e w1 ⟨hb1,⟨hE,rfl⟩ | ⟨hE,pb,rfl,hCl⟩⟩
 ·have HE : Hid (V=(fW P M mod N L mm W,[])):=by show _=_;rw [<- HV.out];exact EG hE
  have hE1 : (fW P M mod N L mm W == 0)=false:=by simpa using hE
  have hE2 : (fW P M mod N L mm W != 0)=true:=by simpa using hE
  have Hne:=Z5 hE;have x1:=HX.out.aa hb1;have z0:=x1.cell 0 rfl;have f0:=x1.frozen 0;have HF:=Z5 (λv : Value=>(I8 hbU hb1).setCell (p:=⟨w.heap.size+1,0,none⟩) (by simp) v);clear hE x1;generalize fW P M mod N L mm W=er at *;go_wp2_with fail;have z1 : (w1.setCell ⟨w.heap.size+1,0,none⟩ (.slice none 0 0)).cell? ⟨w.heap.size+1,0,none⟩=some (.slice none 0 0):=EX _ _ _ z0;exact bodyPost_ret (v:=.tuple #[.agg #[.slice none 0 0],.int .i64 er]) (by simp [results,results117,go_sem,z0,z1]) rfl ⟨HF.out _,.inl ⟨by rw [HE.out];exact Hne.out,by rw [HE.out]⟩⟩
 ·have HE : Hid (qH (an P M.toNat mod).ops L N.toNat ⟨mm.toNat,W.toNat,false,[]⟩=V):=by show _=_;rw [<- HV.out];exact (EH hE).symm
  have x1:=HX.out.aa hb1;obtain ⟨b,w2,rfl,hb2,hPE,hb3,hB⟩:=hCl;have HPr:=vP w2.heap.size P M am mn cm c 0 hPE (EF _) hb3 hB;rw [HE.out] at HPr;have HTr:=Z5 HPr;have hbw2:=I8 hbU hb2;have x2:=HX.out.aa hb2;have hs2 : w.heap.size+1<w2.heap.size:=x2.1;clear x1 hB hPE hE HPr;go_wp2_with fail;refine HTr.out.mono ?_;rintro e w3 ⟨hb4,⟨hv,rfl⟩ | ⟨hv,ar,cr,R,rfl,hO⟩⟩
  ·have x3:=x2.aa hb4;have z0:=x3.cell 0 rfl;have f0:=x3.frozen 0;have HF:=Z5 (λv : Value=>(I8 hbw2 hb4).setCell (p:=⟨w.heap.size+1,0,none⟩) (by simp) v);have Hne:=Z5 hv;obtain ⟨ve,vt⟩:=V;dsimp only at Hne ⊢;clear x3 hv;go_wp2_with fail;have z1 : (w3.setCell ⟨w.heap.size+1,0,none⟩ (.slice none 0 0)).cell? ⟨w.heap.size+1,0,none⟩=some (.slice none 0 0):=EX _ _ _ z0;exact bodyPost_ret (v:=.tuple #[.agg #[.slice none 0 0],.int .i64 ve]) (by simp [results,results117,go_sem,z0,z1]) rfl ⟨HF.out _,.inl ⟨Hne.out,rfl⟩⟩
  ·have x3:=x2.aa hb4;have z0:=x3.cell 0 rfl;have f0:=x3.frozen 0;have hF : ∀v : Value,JA w (w3.setCell ⟨w.heap.size+1,0,none⟩ v)/\aN (w3.setCell ⟨w.heap.size+1,0,none⟩ v) w.heap.size ar V.2.length cr R V.2:=λv=>by refine ⟨(I8 hbw2 hb4).setCell (by simp) v,?_⟩;refine (aN.mono hO hbw2.size).bt λx hx=>EZ _ _ _ _ λe=>?_;have h1:=(hO.lt x hx).1;have e' : x=w.heap.size+1:=e;omega
   have HF:=Z5 hF;obtain ⟨ve,vt⟩:=V;dsimp only at hv HF ⊢;subst hv;clear x3 hO hF;go_wp2_with fail;have z1 : (w3.setCell ⟨w.heap.size+1,0,none⟩ (.slice ar vt.length cr)).cell? ⟨w.heap.size+1,0,none⟩=some (.slice ar vt.length cr):=EX _ _ _ z0;exact bodyPost_ret (v:=.tuple #[.agg #[.slice ar vt.length cr],.int .i64 0]) (by simp [results,results117,go_sem,z0,z1]) rfl ⟨(HF.out _).1,.inr ⟨rfl,ar,cr,R,rfl,(HF.out _).2⟩⟩
section
open Go.RowKit
end
section
open Go.RowKit
end
def vS (x : Int) : LI->LI
 | []=>[x]
 | y :: l=>if x<=y then x :: y :: l else y :: vS x l
def mE : LI->LI
 | []=>[]
 | x :: l=>vS x (mE l)
theorem mx (x : Int) : ∀l,(vS x l).Perm (x :: l)
 | []=>It _
 | y :: l=>by
  rw [vS];split
  ·exact It _
  ·exact ((mx x l).cons y).trans (List.Perm.swap x y l)
theorem qg (x : Int) : ∀ {l : LI},l.Pairwise (λa b=>a<=b)->(vS x l).Pairwise (λa b=>a<=b)
 | [],_=>by simp [vS]
 | y :: l,h=>by
  rw [vS];rw [Gi] at h;split
  ·rename_i hxy;rw [Gi,Gi];refine ⟨λa ha=>?_,h.1,h.2⟩;rcases List.mem_cons.1 ha with rfl | ha
   ·exact hxy
   ·have:=h.1 a ha;omega
  ·rename_i hxy;rw [Gi];refine ⟨λa ha=>?_,qg x h.2⟩;rcases List.mem_cons.1 ((mx x l).mem_iff.1 ha) with rfl | ha
   ·omega
   ·exact h.1 a ha
theorem oY : ∀l,(mE l).Perm l
 | []=>It _
 | x :: l=>(mx x (mE l)).trans ((oY l).cons x)
theorem py : ∀l,(mE l).Pairwise (λa b=>a<=b)
 | []=>by simp [mE]
 | x :: l=>qg x (py l)
theorem mG (l : LI) : eH l=mE l:=(je (py l) (oY l)).symm
def nV (O : aL) (L : LL) (m : Nat) (C : iV) (s z : LI) : LI:=mE (tm O L (mE z ++ aP false (s ++ z) m) (if C.cos=true then m else C.M))
theorem ua (O : aL) (L : LL) (m : Nat) (C : iV) (s z : LI) : dL O L m C s z=nV O L m C s z:=by unfold dL nV gW;rw [mG,mG]
def Af (O : aL) (L : LL) (m : Nat) (C : iV) : Nat->LI->LI->LL->Int × LL
 | 0,s,z,T=>if cG O L m C s (nV O L m C s z)=true then if T.length=65536 then (8,[]) else (0,T ++ [nV O L m C s z]) else (11,[])
 | d+1,s,z,T=>if cG O L m C s (nV O L m C s z)=true then if T.length=65536 then (8,[]) else fG (Af O L m C d) s z (lr C s z (nV O L m C s z)) (T ++ [nV O L m C s z]) else (11,[])
theorem xJ (O : aL) (L : LL) (m : Nat) (C : iV) : ∀d,iL O L m C d=Af O L m C d
 | 0=>by funext s z T;rw [iL,Af,ua]
 | d+1=>by funext s z T;rw [iL,Af,ua,xJ O L m C d]
theorem CI (O : aL) (L : LL) (m : Nat) (C : iV) : qH O L m C=Af O L m C C.W [] [] []:=by rw [qH,xJ]
def bQ : LL:=[[1,0,1,0],[0,1,1,1]]
theorem Am : fW 2 1 [] 4 bQ 2 1=0:=by decide +kernel
theorem BP : i9 2 1 [] 4 bQ 2 1=(0,[[0,1],[1,2],[0,2]]):=by rw [i9,EH Am,CI];decide +kernel
section
open Go.RowKit
end
def ma.I (σ : ma) (x : Nat) : Prop:=bH σ.ar σ.R x
def AX (B : Nat) (σ : ma) (V : Int × LL) (w : World) (e : Ending) (w' : World) : Prop :=
 (V.1=0/\∃σ' : ma,aN w' B σ'.ar σ'.T.length σ'.cr σ'.R σ'.T/\σ'.T=V.2/\σ'.T.length<=65536/\aw w w' σ.I σ'.I/\e = .returned (.tuple #[.slice σ'.ar σ'.T.length σ'.cr,.int .i64 0])) \/
 (V.1 ≠ 0/\∃I',aw w w' σ.I I'/\e = .returned (.tuple #[.slice none 0 0,.int .i64 V.1]))
theorem aN.more {V w5 : World} {B : Nat} {σ : ma} (h : aN V B σ.ar σ.T.length σ.cr σ.R σ.T)
  {a3 : OA} {c3 : Nat} {t : LI} (hr : V.ownsRow B 3 1 (.slice a3 t.length c3) t.length (t.map (Value.int .i64))) (hra : a3 ≠ none->¬ σ.I (ah a3)) {o : Obj}
  {a5 : OA} {c5 : Nat} (hown : w5.ownsRow B 22 1 (.slice a5 (σ.T.length+1) c5) (σ.T.length+1) (List.zipWith gU σ.R σ.T ++ [.slice a3 t.length c3])) (hg : (V.alloc o).grownBy w5 (Value.slice σ.ar σ.T.length σ.cr).ownBlock)
  (hap : ∀b,b<(V.alloc o).heap.size->db σ.ar b->db a5 b) :
  aN w5 B a5 (σ.T.length+1) c5 (σ.R ++ [(a3,c3)]) (σ.T ++ [t])/\aw V w5 (λx=>σ.I x\/(a3 ≠ none/\x=ah a3)) (λx=>bH a5 (σ.R ++ [(a3,c3)]) x):=by
 have hal:=aA V o;have hO1 : aN (V.alloc o) B σ.ar σ.T.length σ.cr σ.R σ.T:=h.aa hal;refine ⟨Jt hO1 (aY hr hal) hra hown hg hap,?_⟩;have hM0 : aw V (V.alloc o) (λx=>σ.I x\/(a3 ≠ none/\x=ah a3)) (λx=>σ.I x\/(a3 ≠ none/\x=ah a3)):=Jc hal _;have hM1 : aw (V.alloc o) w5 (λx=>σ.I x\/(a3 ≠ none/\x=ah a3)) (λx=>σ.I x\/(a3 ≠ none/\x=ah a3)):=Jj hg λh0=>.inl (.inl ⟨h0,rfl⟩);have hM2:=hM0.trans hM1;refine ⟨hM2.os,hM2.tape,hM2.output,hM2.size,hM2.block,λx hx=>?_⟩;rcases bH.push hO1 hap hx with h1 | h1 | h1
 ·exact .inl (.inl h1)
 ·exact .inl (.inr h1)
 ·exact .inr (ET hal.size h1)
def zB (U V : World) (I : Nat->Prop) : Prop:=∃I',aw U V I I'
theorem zB.below {U V : World} {I : Nat->Prop} (h : JA U V) : zB U V I:=⟨_,Jc h _⟩
theorem zB.next {U V W : World} {I : Nat->Prop} (h : zB U V I) (k : JA V W) : zB U W I:=by obtain ⟨I',h⟩:=h;exact ⟨_,h.trans (Jc k _)⟩
theorem zB.iN {U V : World} {I : Nat->Prop} (h : zB U V I) (o : Obj) : zB U (V.alloc o) I:=h.next (aA _ _)
theorem zB.drewN {U V : World} {I : Nat->Prop} (h : zB U V I) : zB U V.drew I:=h.next (EI _ _).drew
def DD (B : Nat) (σ : ma) (V : Int × LL) (er : Int) (w : World) (rv : Value) (w' : World) : Prop :=
 (er=0/\∃σ' : ma,aN w' B σ'.ar σ'.T.length σ'.cr σ'.R σ'.T/\σ'.T=V.2/\σ'.T.length<=65536/\aw w w' σ.I σ'.I/\rv = .slice σ'.ar σ'.T.length σ'.cr) \/
 (er ≠ 0/\∃I',aw w w' σ.I I'/\rv = .slice none 0 0)
theorem AX.split {B : Nat} {σ : ma} {V : Int × LL} {w w' : World} {e : Ending} (h : AX B σ V w e w') : ∃rv,e = .returned (.tuple #[rv,.int .i64 V.1])/\DD B σ V V.1 w rv w':=by
 rcases h with ⟨h1,σ',g1,g2,g3,g4,rfl⟩ | ⟨h1,I',g4,rfl⟩
 ·exact ⟨_,by rw [h1],.inl ⟨h1,σ',g1,g2,g3,g4,rfl⟩⟩
 ·exact ⟨_,rfl,.inr ⟨h1,I',g4,rfl⟩⟩
theorem DD.from {B : Nat} {σ : ma} {V : Int × LL} {er : Int} {U w w' : World} {rv : Value} (h : DD B σ V er w rv w') (hb : JA U w) : DD B σ V er U rv w':=by
 rcases h with ⟨h1,σ',g1,g2,g3,g4,rfl⟩ | ⟨h1,I',g4,rfl⟩
 ·exact .inl ⟨h1,σ',g1,g2,g3,(Jc hb _).trans g4,rfl⟩
 ·exact .inr ⟨h1,I',(Jc hb _).trans g4,rfl⟩
theorem DD.EE {B : Nat} {σ : ma} {V : Int × LL} {er : Int} {w w' : World} {rv : Value} (h : DD B σ V er w rv w') : zB w w' σ.I:=by
 rcases h with ⟨h1,σ',g1,g2,g3,g4,rfl⟩ | ⟨h1,I',g4,rfl⟩
 ·exact ⟨_,g4⟩
 ·exact ⟨_,g4⟩
theorem lits (V : World) (l : LI) (cs : Array Value) (h : cs=(l.map (Value.int .i64)).toArray) (hl : l.length<=1000) {g : Nat} (hg : g=V.heap.size) : Ints (V.alloc (.cells cs 3)) (some ⟨g,0,none⟩) l.length l:=by subst h;refine ⟨rfl,λ_=>rfl,by unfold maxLen;omega,λi hi=>?_⟩;have h1:=aC V ((l.map (Value.int .i64)).toArray) 3 hg i;rw [ai hi];simpa [ah,aG,hi] using h1
theorem DG (V : World) {p : Addr} {n1 c1 : Nat} {l1 : LI} (h1 : Ints V (some p) n1 l1) {g : Nat} (hg : g=V.heap.size) : bY (V.alloc (.cells #[.slice (some p) n1 c1] 22)) (some ⟨g,0,none⟩) 1 [l1] :=
 ⟨rfl,λ_=>rfl,by unfold maxLen;omega,λk hk=>by
  have h:=aC V #[.slice (some p) n1 c1] 22 hg k;match k,hk with
  | 0,_=>exact ⟨some p,n1,c1,h,h1.aa (aA _ _)⟩⟩
theorem DM (V : World) {p q : Addr} {n1 n2 c1 c2 : Nat} {l1 l2 : LI} (h1 : Ints V (some p) n1 l1) (h2 : Ints V (some q) n2 l2) {g : Nat} (hg : g=V.heap.size) : bY (V.alloc (.cells #[.slice (some p) n1 c1,.slice (some q) n2 c2] 22)) (some ⟨g,0,none⟩) 2 [l1,l2] :=
 ⟨rfl,λ_=>rfl,by unfold maxLen;omega,λk hk=>by
  have h:=aC V #[.slice (some p) n1 c1,.slice (some q) n2 c2] 22 hg k;match k,hk with
  | 0,_=>exact ⟨some p,n1,c1,h,h1.aa (aA _ _)⟩
  | 1,_=>exact ⟨some q,n2,c2,h,h2.aa (aA _ _)⟩⟩
theorem DO (V : World) {p q r : Addr} {n1 n2 n3 c1 c2 c3 : Nat} {l1 l2 l3 : LI} (h1 : Ints V (some p) n1 l1) (h2 : Ints V (some q) n2 l2) (h3 : Ints V (some r) n3 l3) {g : Nat} (hg : g=V.heap.size) :
  bY (V.alloc (.cells #[.slice (some p) n1 c1,.slice (some q) n2 c2,.slice (some r) n3 c3] 22)) (some ⟨g,0,none⟩) 3 [l1,l2,l3] :=
 ⟨rfl,λ_=>rfl,by unfold maxLen;omega,λk hk=>by
  have h:=aC V #[.slice (some p) n1 c1,.slice (some q) n2 c2,.slice (some r) n3 c3] 22 hg k;match k,hk with
  | 0,_=>exact ⟨some p,n1,c1,h,h1.aa (aA _ _)⟩
  | 1,_=>exact ⟨some q,n2,c2,h,h2.aa (aA _ _)⟩
  | 2,_=>exact ⟨some r,n3,c3,h,h3.aa (aA _ _)⟩⟩
theorem Er (V : World) (x1 y1 x2 y2 x3 y3 : Int) : bY ((((V.alloc (.cells #[.int .i64 x1,.int .i64 y1] 3)).alloc (.cells #[.int .i64 x2,.int .i64 y2] 3)).alloc (.cells #[.int .i64 x3,.int .i64 y3] 3)).alloc
  (.cells #[.slice (some ⟨V.heap.size,0,none⟩) 2 2,.slice (some ⟨V.heap.size+1,0,none⟩) 2 2,.slice (some ⟨V.heap.size+1+1,0,none⟩) 2 2] 22)) (some ⟨V.heap.size+1+1+1,0,none⟩) 3 [[x1,y1],[x2,y2],[x3,y3]]:=by have i1:=lits V [x1,y1] #[.int .i64 x1,.int .i64 y1] rfl (by simp) rfl;have i2:=lits (V.alloc (.cells #[.int .i64 x1,.int .i64 y1] 3)) [x2,y2] #[.int .i64 x2,.int .i64 y2] rfl (by simp) (g:=V.heap.size+1) (by simp);have i3:=lits ((V.alloc (.cells #[.int .i64 x1,.int .i64 y1] 3)).alloc (.cells #[.int .i64 x2,.int .i64 y2] 3)) [x3,y3] #[.int .i64 x3,.int .i64 y3] rfl (by simp) (g:=V.heap.size+1+1) (by simp);exact DO _ ((i1.aa (aA _ _)).aa (aA _ _)) (i2.aa (aA _ _)) i3 (by simp)
theorem wP (w : World) (o1 o2 o3 o4 : Obj) : JA w ((((w.alloc o1).alloc o2).alloc o3).alloc o4):=I8 (ph w o1 o2 o3) (aA _ _)
theorem Dg (w : World) (o1 o2 o3 o4 o5 : Obj) : JA w (((((w.alloc o1).alloc o2).alloc o3).alloc o4).alloc o5):=I8 (wP w o1 o2 o3 o4) (aA _ _)
section
open Go.RowKit
end
section
open Go.RowKit
end
section
variable {O : aL} {El : Int->Prop} {m : Nat} {L : LL}
theorem qS (x m : Nat) : ∀k,k<=m->aP false (aR x m) k=jw x k
 | 0,_=>rfl
 | k+1,hk=>by
  have e : decide ((k : Int) ∈ aR x m)=x.testBit k:=by
   rw [I0,E3,kA];constructor
   ·rintro ⟨j,_,h2,h3⟩;have : j=k:=by omega
    rw [<- this];exact h3
   ·intro h;exact ⟨k,by omega,rfl,h⟩
  rw [aP,jw,e,qS x m k (by omega)];cases x.testBit k <;> rfl
theorem yG (F : bU O El) (hL : bx El m L) {x : Nat} (hx : x<2 ^ m) : nq O L m (aR x m)=nth (gj O m L) x:=by have h:=uS F hL x;rw [AQ F hL hx,nq,qS x m m (EF m)];omega
theorem B7 (F : bU O El) (hL : bx El m L) (hm : m<=64) (r : Int) : tB O m L r=jy O L m r:=by refine (yr (l:=gj O m L) (n:=m) hm (r:=r) (p:=pD O L m r) λx hx=>?_).1;unfold pD;rw [E3,yG F hL hx];omega
end
section
open Go.RowKit
end
section
open Go.RowKit
end
theorem ba.other {w : World} {b : Nat} {cs : List Value} (h : ba w b cs) {g i : Nat} (v : Value) (hb : b ≠ g) : ba (w.setCell ⟨g,i,none⟩ v) b cs:=by
 refine ⟨by rw [World.size_setCell];exact h.1,λj x hx=>?_,λj=>?_⟩
 ·rw [EY _ _ _ _ (by simp <;> omega)];exact h.2.1 j x hx
 ·rw [Fp];exact h.2.2 j
def CR (T : LL) (er : Int) (V : World) (e : Ending) (w' : World) : Prop:=∃av nv cv R,e = .returned (.tuple #[.agg #[.slice av nv cv],.int .i64 er])/\aN w' V.heap.size av nv cv R T/\JA V w'
theorem lR.Ep {V : Int × LL} {w w' : World} {e : Ending} (h : lR V w e w') : CR (if V.1=0 then V.2 else []) V.1 w e w':=by
 obtain ⟨hb,⟨h1,rfl⟩ | ⟨h1,ar,cr,R,rfl,hO⟩⟩:=h
 ·rw [EG h1];exact ⟨none,0,0,[],rfl,aN.Cv _ _,hb⟩
 ·rw [EH h1];exact ⟨ar,_,cr,R,by rw [h1],hO,hb⟩
section
open Go.RowKit
end
theorem BJ : (prog.info? 84).map (λi=>(i.zero,i.size,i.bytes))=some (some (.agg #[.slice none 0 0]),1,24):=by kernel_rfl
theorem sO {P : Program} {w : World} {ops : Array Oper} {rest : List Oper} {o : Oper} {ac : Act} {Q : Exit->Act->World->Prop}
  (hg : o.guard=none) (s x : Operand) (t e : TypeId) (hop : o.op = .call { callee:=.builtin .append,args:=#[s,x],argTypes:=#[t,t] }) (z : Value) (bytes : Nat)
  (h1 : P.underlying t=some (.slice e)) (h2 : (P.info? e).map (λi=>(i.zero,i.size,i.bytes))=some (some z,1,bytes)) (hz : z.cells.size=1)
  (B : Nat) (a : OA) (n c : Nat) (xs : List Value) (hs : ac.eval s = .slice a n c) (hown : w.ownsRow B e 1 (.slice a n c) n xs)
  (ad : Addr) (cc : Nat) (u : Value) (hx : ac.eval x = .slice (some ad) 1 cc) (hu : w.cell? ad=some u) (h1c : u.oneCell'=true)
  (b2 : (n+1) * bytes<=140737488355328) (b3 : n+1<=maxLen) (hB : B<=w.heap.size)
  (hK : ∀a' c' w',w'.ownsRow B e 1 (.slice a' (n+1) c') (n+1) (xs ++ [u])->w.grownBy w' (Value.slice a n c).ownBlock->(∀b,b<w.heap.size->db a b->db a' b)->wpList P ops Q rest (ac.put o.dst (.slice a' (n+1) c')) w') :
  wpList P ops Q (o :: rest) ac w:=by
 obtain ⟨i,hi,hz0,hz1,hz2⟩:=info_parts h2;refine wpList_append_own_at w hg s x t hop B e i z 1 bytes h1 hi hz0 hz1 hz2 hz (by decide) _ n xs hs hown ad 1 cc [u] hx rfl ?_ ?_ b3 b2 hB λv' w' hown' hgr _ hat=>?_
 ·intro j v hj;match j,hj with
  | 0,hj=>simp at hj;subst hj;simpa [Addr.add] using hu
 ·intro v hv;simp at hv;subst hv;exact h1c
 ·obtain ⟨a',c',rfl,_⟩:=Jl hown';refine hK a' c' w' hown' hgr λb hb hapt=>?_;have h:=hapt.own n c;rcases hat with h3 | h3
  ·exact db.ml (n:=n+1) (c:=c') (by rw [h3];exact h)
  ·exact db.ml (n:=n+1) (c:=c') (by rw [h3];intro h4;cases h4;omega)
structure TX where
 a : OA
 c : Nat
 T : LL
def CG (x : RX) : Value:=.slice x.a x.l.length x.c
def De (y : TX) : Value:=.slice y.a y.T.length y.c
def CA (B Bo : Nat) (as' at' : OA) : Nat->Prop:=λb=>b<B\/b=Bo\/(as' ≠ none/\b=ah as')\/(at' ≠ none/\b=ah at')
structure gO (B : Nat) (V : World) (Bo : Nat) (as' : OA) (cs : Nat) (at' : OA) (ct : Nat) (ss : List RX) (tt : List TX) : Prop where
 bo : B<=Bo
 box : ba V Bo [.slice as' ss.length cs,.slice at' tt.length ct]
 so : V.ownsRow B 22 1 (.slice as' ss.length cs) ss.length (ss.map CG)
 tow : V.ownsRow B 84 1 (.slice at' tt.length ct) tt.length (tt.map De)
 as1 : db as' Bo
 at1 : db at' Bo
 st : as'=none\/at'=none\/ah as' ≠ ah at'
 sx : ∀x ∈ ss,Ints V x.a x.l.length x.l/\(0<x.l.length->¬ CA B Bo as' at' (ah x.a))
 tx : ∀y ∈ tt,fZ (CA B Bo as' at') V y.a y.T.length y.T/\y.T.length<=y.c
theorem gO.aa {B : Nat} {V V' : World} {Bo : Nat} {as' : OA} {cs : Nat} {at' : OA} {ct : Nat} {ss : List RX} {tt : List TX} (h : gO B V Bo as' cs at' ct ss tt) (hb : JA V V') : gO B V' Bo as' cs at' ct ss tt :=
 ⟨h.bo,h.box.aa hb,aY h.so hb,aY h.tow hb,h.as1,h.at1,h.st,λx hx=>⟨(h.sx x hx).1.aa hb,(h.sx x hx).2⟩,λy hy=>⟨(h.tx y hy).1.aa hb,(h.tx y hy).2⟩⟩
theorem gO.start {V : World} {Bo B : Nat} (hB : B<=Bo) (h : ba V Bo [.slice none 0 0,.slice none 0 0]) : gO B V Bo none 0 none 0 [] [] :=
 ⟨hB,h,bG,bG,.inl rfl,.inl rfl,.inl rfl,λx hx=>by simp at hx,λy hy=>by simp at hy⟩
theorem gO.lt {B : Nat} {V : World} {Bo : Nat} {as' : OA} {cs : Nat} {at' : OA} {ct : Nat} {ss : List RX} {tt : List TX} (h : gO B V Bo as' cs at' ct ss tt) : ∀b,CA B Bo as' at' b->b<V.heap.size:=λb hb=>by
 have h0:=h.bo;have h9:=h.box.1;rcases hb with h1 | rfl | ⟨h1,rfl⟩ | ⟨h1,rfl⟩
 ·omega
 ·exact h.box.1
 ·exact (aU h.so h1).2
 ·exact (aU h.tow h1).2
theorem nB {w w' : World} {B : Nat} {e : TypeId} {a : OA} {n c : Nat} {xs : List Value} (h : w.ownsRow B e 1 (.slice a n c) n xs) (hb : a ≠ none->w'.heap[ah a]? = w.heap[ah a]?) : w'.ownsRow B e 1 (.slice a n c) n xs:=by
 refine ⟨h.1,?_⟩;rcases h.2 with h2 | ⟨g,cap,cur,hv,hg,hh,r⟩
 ·exact .inl h2
 ·cases hv
  exact .inr ⟨g,_,cur,rfl,hg,by rw [show w'.heap[g]? = w.heap[g]? from hb (by simp)];exact hh,r⟩
theorem aw.D0 {w w' : World} {A A' : Nat->Prop} (h : aw w w' A A) (hs : ∀b,A' b->A b\/w.heap.size<=b) : aw w w' A A':=⟨h.os,h.tape,h.output,h.size,h.block,hs⟩
theorem fZ.ob {A A' : Nat->Prop} {w w' : World} {a : OA} {n : Nat} {L : LL} (h : fZ A w a n L) (hM : aw w w' A A') : fZ A' w' a n L :=
 ⟨h.len,h.pl,h.max,λhn=>hM.not (h.pA.lt hn) (h.no hn),λi hi=>by obtain ⟨b,m,c,h1,h2,h3⟩:=h.cell i hi;exact ⟨b,m,c,hM.cell h1 (h.no (by omega)),h2.dm hM h3,λhm=>hM.not (h2.lt hm) (h3 hm)⟩⟩
section
variable {B : Nat} {V w5 : World} {Bo : Nat} {as' : OA} {cs : Nat} {at' : OA} {ct : Nat} {ss : List RX} {tt : List TX} {o : Obj}
theorem gO.DY (h : gO B V Bo as' cs at' ct ss tt) {x : RX} (hx : Ints V x.a x.l.length x.l) (hxA : 0<x.l.length->¬ CA B Bo as' at' (ah x.a)) {a5 : OA} {c5 : Nat}
  (hown : w5.ownsRow B 22 1 (.slice a5 (ss.length+1) c5) (ss.length+1) (ss.map CG ++ [CG x])) (hg : (V.alloc o).grownBy w5 (Value.slice as' ss.length cs).ownBlock) (hap : ∀b,b<(V.alloc o).heap.size->db as' b->db a5 b) :
  gO B (w5.setCell ⟨Bo,0,none⟩ (.slice a5 (ss.length+1) c5)) Bo a5 c5 at' ct (ss ++ [x]) tt/\aw V (w5.setCell ⟨Bo,0,none⟩ (.slice a5 (ss.length+1) c5)) (CA B Bo as' at') (CA B Bo a5 at')/\∀w0,Below B w0 V->Below B w0 (w5.setCell ⟨Bo,0,none⟩ (.slice a5 (ss.length+1) c5)):=by
 have hne : a5 ≠ none:=λe=>by
  obtain ⟨y,z,hv,hp⟩:=Jl hown;cases hv
  have:=hp (by omega);rw [e] at this;cases this
 have hsz : (V.alloc o).heap.size=V.heap.size+1:=by simp
 have hM0 : aw V (w5.setCell ⟨Bo,0,none⟩ (.slice a5 (ss.length+1) c5)) (CA B Bo as' at') (CA B Bo as' at') :=
  ((Jc (aA V o) _).trans (Jj hg λh1=>.inr (.inr (.inl ⟨h1,rfl⟩)))).trans (aw.sP (I:=CA B Bo as' at') (p:=⟨Bo,0,none⟩) _ (.inr (.inl rfl)) _)
 have hsub : ∀b,CA B Bo a5 at' b->CA B Bo as' at' b\/V.heap.size<=b:=λb hb=>by
  rcases hb with hb | hb | ⟨_,hb⟩ | hb
  ·exact .inl (.inl hb)
  ·exact .inl (.inr (.inl hb))
  ·rcases Fm b V.heap.size with h1 | h1
   ·by_cases h2 : db as' b
    ·rcases hap b (by omega) h2 with h3 | h3
     ·exact absurd h3 hne
     ·exact absurd hb.symm h3
    ·exact .inl (.inr (.inr (.inl ⟨λe=>h2 (.inl e),Fe λe=>h2 (.inr λe2=>e e2.symm)⟩)))
   ·exact .inr h1
  ·exact .inl (.inr (.inr (.inr hb)))
 have hM:=hM0.D0 hsub;have hblk : ∀b,b<V.heap.size->b ≠ Bo->db as' b->(w5.setCell ⟨Bo,0,none⟩ (.slice a5 (ss.length+1) c5)).heap[b]? = V.heap[b]?:=λb h1 h2 h3 =>
  (EZ _ _ _ _ h2).trans ((hg.block b (by omega) λe=>h3.own _ _ e.symm).trans (IT _ _ _ h1))
 have hBo:=h.box.1;have hb5 : ba w5 Bo [.slice as' ss.length cs,.slice at' tt.length ct]:=by have hx:=h.box.alloc o;have hb9 : w5.heap[Bo]? = (V.alloc o).heap[Bo]?:=hg.block Bo (by omega) λe=>h.as1.own _ _ e.symm;exact ⟨Fc hx.1 hg.size,λj v hv=>(E4 (w:=V.alloc o) (a:=⟨Bo,j,none⟩) hb9).trans (hx.2.1 j v hv),λj=>(E5 (w:=V.alloc o) (a:=⟨Bo,j,none⟩) hb9).trans (hx.2.2 j)⟩
 have hapB : db a5 Bo:=hap Bo (by omega) h.as1;refine ⟨⟨h.bo,?_,?_,?_,hapB,h.at1,?_,λy hy=>?_,λy hy=>?_⟩,hM,λw0 hw=>(Jb (hw.alloc (by have:=h.bo;omega) o) (h.so.alloc o) hg (EF _) (by have:=h.bo;omega)).setCell (p:=⟨Bo,0,none⟩) h.bo _⟩
 ·rw [ER];exact hb5.CS _
 ·rw [ER,FD];exact cY hown _ (hapB.elim (λe=>.inl e) λe=>.inr e)
 ·refine nB h.tow λh1=>hblk _ (aU h.tow h1).2 (h.at1.elim (λe=>absurd e h1) λe=>e) ?_;rcases h.st with h2 | h2 | h2
  ·exact .inl h2
  ·exact absurd h2 h1
  ·exact .inr h2
 ·by_cases h1 : at'=none
  ·exact .inr (.inl h1)
  ·refine .inr (.inr λe=>?_);have h2 : db as' (ah at'):=by
    rcases h.st with h2 | h2 | h2
    ·exact .inl h2
    ·exact absurd h2 h1
    ·exact .inr h2
   rcases hap _ (by have:=(aU h.tow h1).2;omega) h2 with h3 | h3
   ·exact hne h3
   ·exact h3 e
 ·have key : Ints V y.a y.l.length y.l/\(0<y.l.length->¬ CA B Bo as' at' (ah y.a)):=by
   rcases List.mem_append.1 hy with hy | hy
   ·exact h.sx y hy
   ·rw [List.mem_singleton.1 hy];exact ⟨hx,hxA⟩
  exact ⟨key.1.dm hM key.2,λh0=>hM.not (key.1.lt h0) (key.2 h0)⟩
 ·exact ⟨(h.tx y hy).1.ob hM,(h.tx y hy).2⟩
theorem gO.DE (h : gO B V Bo as' cs at' ct ss tt) {x : TX} (hx : fZ (CA B Bo as' at') V x.a x.T.length x.T) (hxc : x.T.length<=x.c) {a5 : OA} {c5 : Nat}
  (hown : w5.ownsRow B 84 1 (.slice a5 (tt.length+1) c5) (tt.length+1) (tt.map De ++ [De x])) (hg : (V.alloc o).grownBy w5 (Value.slice at' tt.length ct).ownBlock) (hap : ∀b,b<(V.alloc o).heap.size->db at' b->db a5 b) :
  gO B (w5.setCell ⟨Bo,1,none⟩ (.slice a5 (tt.length+1) c5)) Bo as' cs a5 c5 ss (tt ++ [x])/\aw V (w5.setCell ⟨Bo,1,none⟩ (.slice a5 (tt.length+1) c5)) (CA B Bo as' at') (CA B Bo as' a5)/\∀w0,Below B w0 V->Below B w0 (w5.setCell ⟨Bo,1,none⟩ (.slice a5 (tt.length+1) c5)):=by
 have hne : a5 ≠ none:=λe=>by
  obtain ⟨y,z,hv,hp⟩:=Jl hown;cases hv
  have:=hp (by omega);rw [e] at this;cases this
 have hsz : (V.alloc o).heap.size=V.heap.size+1:=by simp
 have hM0 : aw V (w5.setCell ⟨Bo,1,none⟩ (.slice a5 (tt.length+1) c5)) (CA B Bo as' at') (CA B Bo as' at') :=
  ((Jc (aA V o) _).trans (Jj hg λh1=>.inr (.inr (.inr ⟨h1,rfl⟩)))).trans (aw.sP (I:=CA B Bo as' at') (p:=⟨Bo,1,none⟩) _ (.inr (.inl rfl)) _)
 have hsub : ∀b,CA B Bo as' a5 b->CA B Bo as' at' b\/V.heap.size<=b:=λb hb=>by
  rcases hb with hb | hb | hb | ⟨_,hb⟩
  ·exact .inl (.inl hb)
  ·exact .inl (.inr (.inl hb))
  ·exact .inl (.inr (.inr (.inl hb)))
  ·rcases Fm b V.heap.size with h1 | h1
   ·by_cases h2 : db at' b
    ·rcases hap b (by omega) h2 with h3 | h3
     ·exact absurd h3 hne
     ·exact absurd hb.symm h3
    ·exact .inl (.inr (.inr (.inr ⟨λe=>h2 (.inl e),Fe λe=>h2 (.inr λe2=>e e2.symm)⟩)))
   ·exact .inr h1
 have hM:=hM0.D0 hsub;have hblk : ∀b,b<V.heap.size->b ≠ Bo->db at' b->(w5.setCell ⟨Bo,1,none⟩ (.slice a5 (tt.length+1) c5)).heap[b]? = V.heap[b]?:=λb h1 h2 h3 =>
  (EZ _ _ _ _ h2).trans ((hg.block b (by omega) λe=>h3.own _ _ e.symm).trans (IT _ _ _ h1))
 have hBo:=h.box.1;have hb5 : ba w5 Bo [.slice as' ss.length cs,.slice at' tt.length ct]:=by have hx:=h.box.alloc o;have hb9 : w5.heap[Bo]? = (V.alloc o).heap[Bo]?:=hg.block Bo (by omega) λe=>h.at1.own _ _ e.symm;exact ⟨Fc hx.1 hg.size,λj v hv=>(E4 (w:=V.alloc o) (a:=⟨Bo,j,none⟩) hb9).trans (hx.2.1 j v hv),λj=>(E5 (w:=V.alloc o) (a:=⟨Bo,j,none⟩) hb9).trans (hx.2.2 j)⟩
 have hapB : db a5 Bo:=hap Bo (by omega) h.at1;refine ⟨⟨h.bo,?_,?_,?_,h.as1,hapB,?_,λy hy=>?_,λy hy=>?_⟩,hM,λw0 hw=>(Jb (hw.alloc (by have:=h.bo;omega) o) (h.tow.alloc o) hg (EF _) (by have:=h.bo;omega)).setCell (p:=⟨Bo,1,none⟩) h.bo _⟩
 ·rw [ER];exact hb5.DQ _
 ·refine nB h.so λh1=>hblk _ (aU h.so h1).2 (h.as1.elim (λe=>absurd e h1) λe=>e) ?_;rcases h.st with h2 | h2 | h2
  ·exact absurd h2 h1
  ·exact .inl h2
  ·exact .inr λe=>h2 e.symm
 ·rw [ER,FD];exact cY hown _ (hapB.elim (λe=>.inl e) λe=>.inr e)
 ·by_cases h1 : as'=none
  ·exact .inl h1
  ·refine .inr (.inr λe=>?_);have h2 : db at' (ah as'):=by
    rcases h.st with h2 | h2 | h2
    ·exact absurd h2 h1
    ·exact .inl h2
    ·exact .inr λe=>h2 e.symm
   rcases hap _ (by have:=(aU h.so h1).2;omega) h2 with h3 | h3
   ·exact hne h3
   ·exact h3 e.symm
 ·exact ⟨(h.sx y hy).1.dm hM (h.sx y hy).2,λh0=>hM.not ((h.sx y hy).1.lt h0) ((h.sx y hy).2 h0)⟩
 ·rcases List.mem_append.1 hy with hy | hy
  ·exact ⟨(h.tx y hy).1.ob hM,(h.tx y hy).2⟩
  ·rw [List.mem_singleton.1 hy];exact ⟨hx.ob hM,hxc⟩
end
theorem gO.set {B : Nat} {V : World} {Bo : Nat} {as' : OA} {cs : Nat} {at' : OA} {ct : Nat} {ss : List RX} {tt : List TX} (h : gO B V Bo as' cs at' ct ss tt) {p : Addr} (hp : p.block<B) (v : Value) : gO B (V.setCell p v) Bo as' cs at' ct ss tt:=by have hM : aw V (V.setCell p v) (CA B Bo as' at') (CA B Bo as' at'):=aw.sP (I:=CA B Bo as' at') (p:=p) _ (.inl hp) _;have hb:=h.bo;have hblk : ∀b,B<=b->(V.setCell p v).heap[b]? = V.heap[b]?:=λb h1=>EZ _ _ _ _ (by omega);refine ⟨h.bo,?_,nB h.so λh1=>hblk _ (aU h.so h1).1,nB h.tow λh1=>hblk _ (aU h.tow h1).1,h.as1,h.at1,h.st,λx hx=>⟨(h.sx x hx).1.dm hM (h.sx x hx).2,(h.sx x hx).2⟩,λy hy=>⟨(h.tx y hy).1.ob hM,(h.tx y hy).2⟩⟩;have hb9:=hblk Bo h.bo;exact ⟨by have:=h.box.1;simpa using this,λj v hv=>(E4 (w:=V) (a:=⟨Bo,j,none⟩) hb9).trans (h.box.2.1 j v hv),λj=>(E5 (w:=V) (a:=⟨Bo,j,none⟩) hb9).trans (h.box.2.2 j)⟩
def pJ (T : List LL) (i : Nat) : LL:=T.getD i []
theorem lJ {l : List LL} {i : Nat} (h : i<l.length) : pJ l i=l[i]:=by simp [pJ,h]
structure eJ (w : World) (a : OA) (n : Nat) (TT : List LL) : Prop where
 len : TT.length=n
 pl : Pl a n
 max : n<=maxLen
 cell : ∀i,i<n->∃b m c,w.cell? ⟨ah a,aG a+i,none⟩=some (.slice b m c)/\bY w b m (pJ TT i)/\m<=c
theorem eJ.lt {w : World} {a : OA} {n : Nat} {TT : List LL} (h : eJ w a n TT) (hn : 0<n) : ah a<w.heap.size:=by obtain ⟨b,m,c,h1,_⟩:=h.cell 0 hn;exact EP _ _ h1
theorem eJ.aa {w w' : World} {a : OA} {n : Nat} {TT : List LL} (h : eJ w a n TT) (hb : JA w w') : eJ w' a n TT :=
 ⟨h.len,h.pl,h.max,λi hi=>by obtain ⟨b,m,c,h1,h2,h3⟩:=h.cell i hi;exact ⟨b,m,c,aj hb h1,h2.aa hb,h3⟩⟩
theorem gO.pA {B : Nat} {V : World} {Bo : Nat} {as' : OA} {cs : Nat} {at' : OA} {ct : Nat} {ss : List RX} {tt : List TX} (h : gO B V Bo as' cs at' ct ss tt) : bY V as' ss.length (ss.map RX.l)/\eJ V at' tt.length (tt.map TX.T):=by
 constructor
 ·refine ⟨by simp,?_,?_,λi hi=>?_⟩
  ·obtain ⟨a',c',hv,hp⟩:=Jl h.so;cases hv;exact hp
  ·rcases F1 ss.length with h0 | h0
   ·rw [h0];exact EL _
   ·exact (bs h.so 0 h0).2.2.2.2
  ·have h1:=(bs h.so i hi).1;have e1 : (ss.map CG)[i]? = some (CG ss[i]):=by rw [F5,Fa hi];rfl
   refine ⟨ss[i].a,ss[i].l.length,ss[i].c,by rw [h1,e1];rfl,?_⟩;rw [aE (by rw [Fo];exact hi),FZ];exact (h.sx _ (Fj hi)).1
 ·refine ⟨by simp,?_,?_,λi hi=>?_⟩
  ·obtain ⟨a',c',hv,hp⟩:=Jl h.tow;cases hv;exact hp
  ·rcases F1 tt.length with h0 | h0
   ·rw [h0];exact EL _
   ·exact (bs h.tow 0 h0).2.2.2.2
  ·have h1:=(bs h.tow i hi).1;have e1 : (tt.map De)[i]? = some (De tt[i]):=by rw [F5,Fa hi];rfl
   refine ⟨tt[i].a,tt[i].T.length,tt[i].c,by rw [h1,e1];rfl,?_⟩;rw [lJ (by rw [Fo];exact hi),FZ];exact ⟨(h.tx _ (Fj hi)).1.pA,(h.tx _ (Fj hi)).2⟩
section
variable {O : aL} {El : Int->Prop} {m : Nat} {L : LL} {C : iV}
theorem y5 (F : bU O El) (hL : bx El m L) (hc : C.cos=false) {ts : LL} (h : mI O L m C ts=0) {T Q : LI} (hT : T.length<=C.W) (hQ : ∀x : Int,0<=x->x<m->¬ x ∈ T->x ∈ Q) : C.M<=lC O L Q:=by
 obtain ⟨s',t,hr,hn,hs,ht⟩:=zd h T hT;have h1:=yR hr;have h2:=kU hr;have h3 : t.length=C.M:=by have h4:=h1.1;unfold C9 at h4;rw [EG (by rw [hc];decide)] at h4;exact h4
 have h4:=AG F hL (Q:=t) (Q':=Q) λx hx=>by obtain ⟨q,hq,rfl⟩:=List.mem_iff_getElem.1 hx;have h5:=lZ h2.1 q hq;rw [ai hq] at h5;exact hQ _ h5.1 h5.2 (ht _ hx)
 omega
end
section
variable {P M : Int} {mod : LI} {m : Nat} {L : LL}
theorem zY {mm W : Int} {ts : LL} (h : jr P M mod m L mm W ts=0) : aZ P M mod m L=0/\0<=mm/\mm<=L.length/\0<=W/\W<=m/\mI (an P M.toNat mod).ops L m ⟨mm.toNat,W.toNat,false,[]⟩ ts=0:=by
 unfold jr at h;by_cases h0 : fW P M mod m L mm W=0
 ·rw [EH h0,EM] at h;unfold fW at h0;by_cases hE : aZ P M mod m L=0
  ·rw [EH hE] at h0;by_cases hx : mm<0\/(L.length : Int)<mm\/W<0\/(m : Int)<W
   ·rw [EH hx] at h0;cases h0
   ·exact ⟨hE,by omega,by omega,by omega,by omega,h⟩
  ·rw [EG hE] at h0;exact absurd h0 hE
 ·rw [EG h0] at h;exact absurd h h0
theorem Bd {mm W : Int} {ts : LL} (h : jr P M mod m L mm W ts=0) {T Q : LI} (hT : (T.length : Int)<=W) (hQ : ∀x : Int,0<=x->x<m->¬ x ∈ T->x ∈ Q) : mm<=(mz (an P M.toNat mod).ops L Q).length:=by
 obtain ⟨hE,h1,h2,h3,h4,h5⟩:=zY h;obtain ⟨N',e,hm1,hm64,F,hR⟩:=dk hE;obtain rfl : m=N':=by omega
 have h6:=y5 F hR rfl h5 (T:=T) (Q:=Q) (by show T.length<=W.toNat;omega) hQ;have h7 : mm.toNat<=(mz (an P M.toNat mod).ops L Q).length:=h6;omega
end
theorem ue {N : Int} {l : LI} : ∀k,(∀i,i<k->fo N l i=true)->lM N l k=true
 | 0,_=>rfl
 | k+1,h=>fK (ue k λi hi=>h i (by omega)) (h k (by omega))
theorem oh (b : Bool) (U : LI) (m : Nat) : bI m (aP b U m)=true:=by
 unfold bI;refine ue _ λi hi=>?_;have h1:=(eo m).1 (aO hi);obtain ⟨j,hj,e,_⟩:=h1;have hp:=jU b U m;rw [F3] at hp;unfold fo;have h2 : 0<i->nth (aP b U m) (i - 1)<nth (aP b U m) i:=λh0=>by rw [ai hi,ai (show i - 1<_ by omega)];exact hp (i - 1) i (by omega) hi (by omega)
 rw [e] at h2 ⊢;simp;omega
theorem qO {U : LI} {i : Nat} (h : ∀x ∈ U,x<(i : Int)) : ∀k,k<=i->aP false (U ++ [(i : Int)]) k=aP false U k
 | 0,_=>rfl
 | k+1,hk=>by
  have e : decide ((k : Int) ∈ U ++ [(i : Int)])=decide ((k : Int) ∈ U):=by
   have : ¬ (k : Int)=(i : Int):=by omega
   simp [this]
  rw [aP,aP,e,qO h k (by omega)]
def xo (P M : Int) (mod : LI) (N : Int) (L : LL) (S : LI) : Int:=if aZ P M mod N L=0 then (if bI N S=true then 0 else 6) else aZ P M mod N L
def vL (P M : Int) (mod : LI) (N : Int) (L : LL) (S : LI) (w : World) (e : Ending) (w' : World) : Prop :=
 JA w w'/\((xo P M mod N L S ≠ 0/\e = .returned (.tuple #[.agg #[.int .i64 0,.int .i64 0,.slice none 0 0,.int .i64 0,.slice none 0 0],.int .i64 (xo P M mod N L S)])) \/
  (xo P M mod N L S=0/\∃a1 c1 a2 c2,e = .returned (.tuple #[.agg #[.int .i64 P,.int .i64 M,.slice a1 mod.length c1,.int .i64 N,.slice a2 (eK (an P M.toNat mod) N.toNat L S).length c2],.int .i64 0])/\cQ w.heap.size w' a1 mod.length mod /\
   bX w.heap.size w' a2 (eK (an P M.toNat mod) N.toNat L S).length (eK (an P M.toNat mod) N.toNat L S)))
theorem qD {P M : Int} {mod : LI} {m : Nat} {L : LL} (hE : aZ P M mod m L=0) (S : LI) :
  bx (an P M.toNat mod).El m (eK (an P M.toNat mod) m L S)/\(eK (an P M.toNat mod) m L S).length<=m/\dM (an P M.toNat mod) (eK (an P M.toNat mod) m L S) m=eK (an P M.toNat mod) m L S /\
   DJ (an P M.toNat mod) m L S=eK (an P M.toNat mod) m L S:=by
 obtain ⟨N',em,hm1,hm64,F,hR⟩:=dk hE;obtain rfl : m=N':=by omega
 have hT:=j6 (Z:=aP false S m) F hR;have hMr:=j9 (O:=(an P M.toNat mod).ops) F hR (gw F hT);refine ⟨zZ F hR,?_,y4 F hMr,?_⟩
 ·have h1:=de F hMr;have h2:=(e9 (an P M.toNat mod).ops (pM (an P M.toNat mod).ops m (fT (an P M.toNat mod).ops L.length ((List.range (aP false S m).length).map (aQ (L.map (bK (aP false S m)))))) L) m).1;show (fq (an P M.toNat mod).ops m _).length<=m;omega
 ·rw [Cz];exact (zA F hR λz hz=>by obtain ⟨i,h1,h2,_⟩:=(eo m).1 hz;omega).symm
theorem zo {P M : Int} {mod : LI} {N : Int} {L : LL} (h : aZ P M mod N L=0) : ∃m : Nat,N=m:=by obtain ⟨m,e,_⟩:=dk h;exact ⟨m,e⟩
theorem jC (P M : Int) (am : OA) (mn cm : Nat) (mod : LI) (N : Int) (a : OA) (n c : Nat) (L : LL) (as' : OA) (ns cs : Nat) (S : LI) (w : World) (hmod : Ints w am mn mod) (hi : bY w a n L) (hs : Ints w as' ns S) :
  Calls prog 20 #[.agg #[.int .i64 P,.int .i64 M,.slice am mn cm,.int .i64 N,.slice a n c],.slice as' ns cs] w (vL P M mod N L S w):=by
 go_enter func20,ntmps20;go_wp2_with fail;obtain ⟨W,hW⟩ : ∃W : World,W=(w.alloc (.cells #[.int .i64 P,.int .i64 M,.slice am mn cm,.int .i64 N,.slice a n c] 27)).alloc (.cells #[.int .i64 0,.int .i64 0,.slice none 0 0,.int .i64 0,.slice none 0 0] 27):=⟨_,rfl⟩
 rw [<- hW];have hbW : JA w W:=by rw [hW];exact fI _ _ _
 have hsW : W.heap.size=w.heap.size+2:=by rw [hW];simp
 have x0 : ba W w.heap.size [.int .i64 P,.int .i64 M,.slice am mn cm,.int .i64 N,.slice a n c]:=by rw [hW];exact (Ja _ _ _ rfl).alloc _
 have z0 : ba W (w.heap.size+1) [.int .i64 0,.int .i64 0,.slice none 0 0,.int .i64 0,.slice none 0 0]:=by rw [hW];exact Ja _ _ _ (by simp)
 clear hW;refine (dU P M am mn cm mod N a n c L W (hmod.aa hbW) (hi.aa hbW)).mono ?_;rintro e w1 ⟨rfl,hb1⟩;have HbW:=Z5 hbW;have HErr : Hid (∀V er,xo P M mod N L S=er->er ≠ 0->JA W V->vL P M mod N L S w (.returned (.tuple #[.agg #[.int .i64 0,.int .i64 0,.slice none 0 0,.int .i64 0,.slice none 0 0],.int .i64 er])) (((((V.setCell ⟨w.heap.size+1,0,none⟩ (.int .i64 0)).setCell ⟨w.heap.size+1,1,none⟩ (.int .i64 0)).setCell ⟨w.heap.size+1,2,none⟩ (.slice none 0 0)).setCell ⟨w.heap.size+1,3,none⟩ (.int .i64 0)).setCell ⟨w.heap.size+1,4,none⟩ (.slice none 0 0))):=λV er h1 h2 hV =>
  ⟨(((((I8 hbW hV).setCell (p:=⟨w.heap.size+1,0,none⟩) (by simp) _).setCell (p:=⟨w.heap.size+1,1,none⟩) (by simp) _).setCell (p:=⟨w.heap.size+1,2,none⟩) (by simp) _).setCell (p:=⟨w.heap.size+1,3,none⟩) (by simp) _).setCell (p:=⟨w.heap.size+1,4,none⟩) (by simp) _,.inl ⟨by rw [h1];exact h2,by rw [h1]⟩⟩
 have HS : Hid (∀V,JA W V->V.cell? ⟨w.heap.size,0,none⟩=some (.int .i64 P)/\V.cell? ⟨w.heap.size,1,none⟩=some (.int .i64 M)/\V.cell? ⟨w.heap.size,2,none⟩=some (.slice am mn cm)/\V.cell? ⟨w.heap.size,3,none⟩=some (.int .i64 N)/\V.cell? ⟨w.heap.size,4,none⟩=some (.slice a n c) /\
   ba V (w.heap.size+1) [.int .i64 0,.int .i64 0,.slice none 0 0,.int .i64 0,.slice none 0 0]):=λV hV=>by have x1:=x0.aa hV;exact ⟨x1.cell 0 rfl,x1.cell 1 rfl,x1.cell 2 rfl,x1.cell 3 rfl,x1.cell 4 rfl,z0.aa hV⟩
 have HsW:=Z5 hsW;clear x0 z0 hsW;by_cases hE : aZ P M mod N L=0;rotate_left
 ·obtain ⟨c0,c1,c2,c3,c4,zz⟩:=HS.out w1 hb1;have z0:=zz.cell 0 rfl;have z1:=zz.cell 1 rfl;have z2:=zz.cell 2 rfl;have z3:=zz.cell 3 rfl;have z4:=zz.cell 4 rfl;have f0:=zz.frozen 0;have f1:=zz.frozen 1;have f2:=zz.frozen 2;have f3:=zz.frozen 3;have f4:=zz.frozen 4;have HR:=Z5 (HErr.out w1 _ (EG hE) hE hb1);have hE' : (aZ P M mod N L != 0)=true:=by simpa using hE
  clear hE zz;generalize aZ P M mod N L=er at *;go_wp2_with fail;exact bodyPost_ret (v:=.tuple #[.agg #[.int .i64 0,.int .i64 0,.slice none 0 0,.int .i64 0,.slice none 0 0],.int .i64 er]) (by simp [results,results20,go_sem,z0,z1,z2,z3,z4]) rfl HR.out
 obtain ⟨m,rfl⟩:=zo hE;obtain ⟨hB,hm1,hm64,_⟩:=dq hE;have hmn : mn<=1000000:=by have h:=BY hB;rw [hmod.len] at h;omega
 obtain ⟨u1,u2,u3,_⟩:=qD hE S;have hbw1:=I8 hbW hb1;have HSp : Hid (Calls prog 63 #[.agg #[.int .i64 P,.int .i64 M,.slice am mn cm],.agg #[.int .i64 m,.slice a n c],.slice as' ns cs] w1 (kI P M mod m L S w1)):=pX P M am mn cm mod m a n c L as' ns cs S w1 (hmod.aa hbw1) (hi.aa hbw1) (hs.aa hbw1) hE;have HNw : Hid (∀V a1 c1,JA w V->bY V a1 (eK (an P M.toNat mod) m L S).length (eK (an P M.toNat mod) m L S)->Calls prog 64 #[.agg #[.int .i64 P,.int .i64 M,.slice am mn cm],.agg #[.int .i64 m,.slice a1 (eK (an P M.toNat mod) m L S).length c1]] V λe w' =>
   ∃a1 c1 a2 c2,e = .returned (.tuple #[.agg #[.int .i64 P,.int .i64 M,.slice a1 mod.length c1,.int .i64 m,.slice a2 (eK (an P M.toNat mod) m L S).length c2],.int .i64 0])/\cQ V.heap.size w' a1 mod.length mod /\
    bX V.heap.size w' a2 (eK (an P M.toNat mod) m L S).length (eK (an P M.toNat mod) m L S)/\JA V w'):=λV a1 c1 hV h1=>by have h:=uV P M am mn cm mod m a1 _ c1 _ V (hmod.aa hV) h1 (nI hB u1 (by omega) (by omega)) (by omega) (by omega) hmn;unfold n7 at h;rw [u3] at h;exact h
 have HE0 : Hid (bI m S=true->xo P M mod m L S=0):=λh=>by show xo _ _ _ _ _ _=0;unfold xo;rw [EH hE,EH h]
 have HE6 : Hid (bI m S=false->xo P M mod m L S=6):=λh=>by show xo _ _ _ _ _ _=6;unfold xo;rw [EH hE,EG (by rw [h];decide)]
 have HPost : Hid (∀a1 c1 a2 c2 w',xo P M mod m L S=0->cQ w.heap.size w' a1 mod.length mod->bX w.heap.size w' a2 (eK (an P M.toNat mod) m L S).length (eK (an P M.toNat mod) m L S)->JA w w' ->
   vL P M mod m L S w (.returned (.tuple #[.agg #[.int .i64 P,.int .i64 M,.slice a1 mod.length c1,.int .i64 m,.slice a2 (eK (an P M.toNat mod) m L S).length c2],.int .i64 0])) w'):=λa1 c1 a2 c2 w' h0 h1 h2 h3=>⟨h3,.inr ⟨h0,a1,c1,a2,c2,by rw [EM],h1,by rw [EM];exact h2⟩⟩
 unfold kI at HSp;rw [hE];obtain ⟨D,hD⟩ : ∃D,eK (an P M.toNat mod) m L S=D:=⟨_,rfl⟩
 rw [hD] at HSp HNw HPost;obtain ⟨d,hd⟩ : ∃d,D.length=d:=⟨_,rfl⟩
 rw [hd] at HSp HNw HPost;clear hE hD hd hB u1 u2 u3;obtain ⟨c0,c1,c2,c3,c4,_⟩:=HS.out w1 hb1;go_wp2_with fail;refine HSp.out.mono ?_;rintro e w2 ⟨hb2,⟨hok,rfl⟩ | ⟨hok,a2,c2',rfl,hN2⟩⟩
 ·have hb3 : JA W (w2.alloc (.cells #[.int .i64 0,.slice none 0 0] 87)):=I8 (I8 hb1 hb2) (aA _ _);have HR:=Z5 (HErr.out _ _ (HE6.out hok) (by decide) hb3);obtain ⟨_,_,_,_,_,zz⟩:=HS.out _ hb3;clear c0 c1 c2 c3 c4;go_upto_region 5 with fail;obtain ⟨V,hV⟩ : ∃V,w2.alloc (.cells #[.int .i64 0,.slice none 0 0] 87)=V:=⟨_,rfl⟩
  rw [hV] at HR zz ⊢;clear hV;have z0:=zz.cell 0 rfl;have z1:=zz.cell 1 rfl;have z2:=zz.cell 2 rfl;have z3:=zz.cell 3 rfl;have z4:=zz.cell 4 rfl;have f0:=zz.frozen 0;have f1:=zz.frozen 1;have f2:=zz.frozen 2;have f3:=zz.frozen 3;have f4:=zz.frozen 4;clear zz;go_wp2_with fail;exact bodyPost_ret (v:=.tuple #[.agg #[.int .i64 0,.int .i64 0,.slice none 0 0,.int .i64 0,.slice none 0 0],.int .i64 6]) (by simp [results,results20,go_sem,z0,z1,z2,z3,z4]) rfl HR.out
 ·have hb3 : JA W (w2.alloc (.cells #[.int .i64 m,.slice a2 d c2'] 87)):=I8 (I8 hb1 hb2) (aA _ _);have hBx : ba (w2.alloc (.cells #[.int .i64 m,.slice a2 d c2'] 87)) w2.heap.size [.int .i64 m,.slice a2 d c2']:=Ja _ _ _ rfl;have hN3:=hN2.aa (aA w2 (.cells #[.int .i64 m,.slice a2 d c2'] 87));have HNV:=Z5 (HNw.out _ a2 c2' (I8 hbW hb3) hN3.pA);obtain ⟨g,hg⟩ : ∃g,w2.heap.size=g:=⟨_,rfl⟩
  clear c0 c1 c2 c3 c4 hN2 hN3;go_upto_region 5 with fail;obtain ⟨V,hV⟩ : ∃V,w2.alloc (.cells #[.int .i64 m,.slice a2 d c2'] 87)=V:=⟨_,rfl⟩
  rw [hV] at HNV hBx hb3 ⊢;rw [hg] at hBx;clear hV hg hb2;obtain ⟨c0,c1,c2,c3,c4,_⟩:=HS.out V hb3;have g0:=hBx.cell 0 rfl;have g1:=hBx.cell 1 rfl;go_wp2_with fail;refine HNV.out.mono ?_;rintro e w6 ⟨a6,c6,a5,c5,rfl,hN6,hM6,hb6⟩;clear c0 c1 c2 c3 c4 g0 g1;obtain ⟨_,_,_,_,_,zz6⟩:=HS.out w6 (I8 hb3 hb6);have z0:=zz6.cell 0 rfl;have z1:=zz6.cell 1 rfl;have z2:=zz6.cell 2 rfl;have z3:=zz6.cell 3 rfl;have z4:=zz6.cell 4 rfl;have f0:=zz6.frozen 0;have f1:=zz6.frozen 1;have f2:=zz6.frozen 2;have f3:=zz6.frozen 3;have f4:=zz6.frozen 4;have hbF:=I8 HbW.out (I8 hb3 hb6);have hs':=HsW.out;have hs2:=hb3.size;have hFin:=HPost.out a6 c6 a5 c5 (((((w6.setCell ⟨w.heap.size+1,0,none⟩ (.int .i64 P)).setCell ⟨w.heap.size+1,1,none⟩ (.int .i64 M)).setCell ⟨w.heap.size+1,2,none⟩ (.slice a6 mod.length c6)).setCell ⟨w.heap.size+1,3,none⟩ (.int .i64 m)).setCell ⟨w.heap.size+1,4,none⟩ (.slice a5 d c5)) (HE0.out hok)
   ((((((hN6.setCell (p:=⟨w.heap.size+1,0,none⟩) (by simp;omega) _).setCell (p:=⟨w.heap.size+1,1,none⟩) (by simp;omega) _).setCell (p:=⟨w.heap.size+1,2,none⟩) (by simp;omega) _).setCell (p:=⟨w.heap.size+1,3,none⟩) (by simp;omega) _).setCell (p:=⟨w.heap.size+1,4,none⟩) (by simp;omega) _).mono (by omega))
   ((((((hM6.setCell (p:=⟨w.heap.size+1,0,none⟩) (by simp;omega) _).setCell (p:=⟨w.heap.size+1,1,none⟩) (by simp;omega) _).setCell (p:=⟨w.heap.size+1,2,none⟩) (by simp;omega) _).setCell (p:=⟨w.heap.size+1,3,none⟩) (by simp;omega) _).setCell (p:=⟨w.heap.size+1,4,none⟩) (by simp;omega) _).mono (by omega))
   (((((hbF.setCell (p:=⟨w.heap.size+1,0,none⟩) (by simp) _).setCell (p:=⟨w.heap.size+1,1,none⟩) (by simp) _).setCell (p:=⟨w.heap.size+1,2,none⟩) (by simp) _).setCell (p:=⟨w.heap.size+1,3,none⟩) (by simp) _).setCell (p:=⟨w.heap.size+1,4,none⟩) (by simp) _)
  have HFin:=Z5 hFin;clear hFin hM6 hN6 zz6;go_wp2_with fail;exact bodyPost_ret (v:=.tuple #[.agg #[.int .i64 P,.int .i64 M,.slice a6 mod.length c6,.int .i64 m,.slice a5 d c5],.int .i64 0]) (by simp [results,results20,go_sem,z0,z1,z2,z3,z4]) rfl HFin.out
section
open Go.RowKit
end
def Be (er : Int) (X : LI) (w : World) (e : Ending) (w' : World) : Prop :=
 JA w w'/\∃a n c,e = .returned (.tuple #[.slice a n c,.int .i64 er])/\Ints w' a n X
theorem Ca {w w' : World} {er : Int} {X : LI} (hb : JA w w') (h : er ≠ 0) : Be er (if er=0 then X else []) w (.returned (.tuple #[.slice none 0 0,.int .i64 er])) w':=by rw [EG h];exact ⟨hb,none,0,0,rfl,Jf _ _⟩
theorem Cu {w w' : World} {er : Int} {X : LI} {a : OA} {n c : Nat} (hb : JA w w') (h : er=0) (hX : Ints w' a n X) : Be er (if er=0 then X else []) w (.returned (.tuple #[.slice a n c,.int .i64 0])) w':=by rw [EH h];exact ⟨hb,a,n,c,by rw [h],hX⟩
section
variable (P M : Int) (am : OA) (mn cm : Nat) (mod : LI) (N : Int) (a : OA) (n c : Nat) (L : LL) (w : World)
end
section
variable {O : aL} {El : Int->Prop} {m : Nat} {L : LL}
end
section
variable {P M : Int} {mod : LI} {m : Nat} {L : LL}
end
section
open Go.ChangeShapes Go.WideShapes Go.ChangeAt Go.RowKit
section
variable {H : Type} {enc : TypeId × Value->H} {W : World} {held : Bool} {fuel : Nat} {cs : List Value} {x : DataW H × List MemPlace}
theorem tH {v0 : Value} (hf : DataW.trod enc prog W 0 (λ_=>true) held fuel 84 [v0]=some x) : ∃(b : OA) (m c : Nat) (ts : LL),v0 = .slice b m c/\bY W b m ts/\m<=c:=by
 obtain ⟨xs,n0,_,_,_,hlen,hfs⟩:=Gz underlying84 hf;obtain ⟨y0,rfl⟩ : ∃y0,xs=[y0]:=by
  match xs,hlen with
  | [y0],_=>exact ⟨y0,rfl⟩
 have k25 : prog.cellsOf 25 = 1:=by kernel_rfl
 have g0 : DataW.trod enc prog W 0 (λ_=>true) held n0 25 [v0]=some y0:=by simpa [Value.cells,k25] using hfs 0 _ rfl
 obtain ⟨ax,nx,cx,ts,e,hM,hc⟩:=tw g0;simp at e;exact ⟨ax,nx,cx,ts,e,hM,hc⟩
theorem rL (h : DataW.trod enc prog W 0 (λ_=>true) held fuel 28 cs=some x) : ∃a n c TT,cs=[.slice a n c]/\eJ W a n TT:=by
 rcases Go.Deep.open_slice1 underlying28 (by kernel_rfl) h with ⟨hcs,_⟩ | ⟨a,len,cap,m,n,V,D,Pl',hcs,hb,hl,hm,hmm,_,hx⟩
 ·exact ⟨none,0,0,[],hcs,⟨rfl,λh0=>by omega,by unfold maxLen;omega,λi hi=>by omega⟩⟩
 ·simp only [if_true] at hmm;subst hmm;have each : ∀r,r<len->∃T : LL,∃b k c,W.cell? (a.add r)=some (.slice b k c)/\bY W b k T/\k<=c:=λr hr=>by obtain ⟨h1,h2⟩:=hx r (by omega);obtain ⟨b,k,c,ts,e,hM,hc⟩:=tH h2;exact ⟨ts,b,k,c,by rw [h1,e],hM,hc⟩
  obtain ⟨T,hT⟩:=Go.Deep.choose_lt each;refine ⟨some a,len,m,(List.range len).map T,hcs,⟨by simp,λh0=>?_,by omega,λi hi=>?_⟩⟩
  ·obtain ⟨b,k,c,h1,_⟩:=hT 0 h0;exact congrArg some (lI h1)
  ·obtain ⟨b,k,c,h1,h2,h3⟩:=hT i hi;have e : pJ ((List.range len).map T) i=T i:=by rw [lJ (by simpa using hi)];simp
   exact ⟨b,k,c,lN h1,by rw [e];exact h2,h3⟩
end
section
variable {H : Type} {enc : TypeId × Value->H} {W : World} {held : Bool} {b0 : Nat} {v : Value} {d : DataW H} {p : List MemPlace}
theorem yS (hv : Value.okWide prog W .any b0 30 v) (h : DataW.Trod enc prog W 0 (λ_=>true) held 30 v d p) :
  ∃(as' : OA) (ns cs : Nat) (SS : LL) (at' : OA) (nt ct : Nat) (TT : List LL),v = .agg #[.slice as' ns cs,.slice at' nt ct]/\bY W as' ns SS/\eJ W at' nt TT:=by
 obtain ⟨cs,rfl,hsz⟩:=okWide_struct underlying30 hv;rw [show prog.cellsOf 30 = 2 by kernel_rfl] at hsz;obtain ⟨l⟩:=cs;match l,hsz with
 | [v0,v1],_ =>
 obtain ⟨fuel,hf⟩:=h;obtain ⟨xs,n0,_,_,_,hlen,hfs⟩:=Gz underlying30 hf;obtain ⟨y0,y1,rfl⟩ : ∃y0 y1,xs=[y0,y1]:=by
  match xs,hlen with
  | [y0,y1],_=>exact ⟨y0,y1,rfl⟩
 have k25 : prog.cellsOf 25 = 1:=by kernel_rfl
 have k57 : prog.cellsOf 28 = 1:=by kernel_rfl
 have g0 : DataW.trod enc prog W 0 (λ_=>true) held n0 25 [v0]=some y0:=by simpa [Value.cells,k25] using hfs 0 _ rfl
 have g1 : DataW.trod enc prog W 0 (λ_=>true) held n0 28 [v1]=some y1:=by simpa [Value.cells,k25,k57] using hfs 1 _ rfl
 obtain ⟨ax,nx,cx,ts,e,hM⟩:=kH g0;obtain ⟨ay,ny,cy,TT,e2,hT⟩:=rL g1;simp at e e2;subst e e2;exact ⟨ax,nx,cx,ts,ay,ny,cy,TT,rfl,hM,hT⟩
end
end
end Go.Proofs.YtjfiflldinnhmaaGreat
