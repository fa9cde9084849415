import Derived.Test.YthglbncgemdcbaaGreatS32
namespace Go.Proofs.YthglbncgemdcbaaGreat
set_option linter.all false
set_option maxRecDepth 100000
set_option maxHeartbeats 8000000
open Go.RowKit Go.Proofs.Tryz
section
variable {O : aL} {El : Int->Prop} {q : Nat} {g : Int}
theorem K1.Gk (F : bF O El) (h : K1 O El q g) {x : Int} (hx : El x) (h0 : x ≠ 0) : iE O x (q - 1)=1:=by obtain ⟨k,_,rfl⟩:=h.all x hx h0;rw [<- rR F h.el,Oe,rR F h.el,h.last,u2 F]
end
theorem ak {P M : Int} {am : OA} {mn cm : Nat} {mod : Lz} (hE : bA P M mod=true) (x y : Int) (w : World) (hmod : Ints w am mn mod) (hx : (af P M.toNat mod).El x) (hy : (af P M.toNat mod).El y) :
  Calls prog 114 #[.agg #[.int .i64 P,.int .i64 M,.slice am mn cm],.int .i64 x,.int .i64 y] w λe w'=>e = .returned (.int .i64 ((af P M.toNat mod).ops.mul x y))/\SW w w':=by
 obtain ⟨k,hk,hel,hq,hF,hA,_⟩:=dB hE;subst hk;obtain ⟨k',e2,hrf,hmods⟩:=dm (P:=P) (M:=(k : Int)) (mod:=mod) (by rw [bP];exact hE);obtain rfl : k=k':=by omega
 rw [Nb] at hx hy ⊢;rw [<- hel] at hx hy;rw [hA.mul x y hx hy];exact vJ P k am mn cm mod x y w hrf (hmods w am mn hmod) (hrf.jR hx) (hrf.jR hy)
theorem vj {P M : Int} {mod : Lz} (hB : bA P M mod=true) (am : OA) (mn cm : Nat) (w : World) :
  Calls prog 24 #[.agg #[.int .i64 P,.int .i64 M,.slice am mn cm]] w λe w'=>e = .returned (.int .i64 ((af P M.toNat mod).q : Nat))/\SW w w':=by obtain ⟨k,hk,hel,hq,hF,hA,_⟩:=dB hB;subst hk;have h:=gK P k am mn cm w;rw [Nb];rw [hq];exact h
theorem IK {X : Lz} {j : Nat} (h0 : 0<j) (hj : j<X.length) : (swp X j).Perm X:=by
 obtain ⟨A,u,v,C,rfl,hA⟩ : ∃A u v C,X=A ++ u :: v :: C/\A.length+1=j:=by
  refine ⟨X.take (j - 1),X[j - 1],X[j],X.drop (j+1),?_,by rw [NG];omega⟩;have h1 : X.drop (j - 1)=X[j - 1] :: X.drop j:=by rw [NV (by omega)];congr 2;omega
  rw [<- NV hj,<- h1,Pg]
 subst hA;have h1 : nth (A ++ u :: v :: C) A.length=u:=by unfold nth;simp
 have h2 : nth (A ++ u :: v :: C) (A.length+1)=v:=by unfold nth;simp [List.getElem?_append]
 have h3 : swp (A ++ u :: v :: C) (A.length+1)=A ++ v :: u :: C:=by unfold swp;rw [PB,h1,h2];simp [List.set_append]
 rw [h3];exact List.Perm.append_left A (RR u v C)
section
variable {O : aL} {El : Int->Prop} {q : Nat} {g : Int}
theorem Di (F : bF O El) (h : K1 O El q g) {x : Int} (hx : El x) (h0 : x ≠ 0) (n : Nat) : iE O x (n % (q - 1))=iE O x n:=by
 have e:=O7 n (q - 1);have h1 : iE O x n=O.mul (iE O x ((q - 1) * (n / (q - 1)))) (iE O x (n % (q - 1))):=by rw [<- Ad F hx,e]
 rw [h1,rR F hx,h.Gk F hx h0,u2 F,F.one_mul _ (gQ F hx _)]
end
theorem rU (a : OA) (n c : Nat) (Q : Lz) (w : World) (hi : Ints w a n Q) (hn : n<=1000000) :
  Calls prog 122 #[.slice a n c] w λe w'=>∃a1 c1,e = .returned (.slice a1 n c1)/\w'.ownsRow w.heap.size 3 1 (.slice a1 n c1) n ((dt Q).map (Value.int .i64))/\SW w w':=by
 have Hlen:=Z5 hi.len;have hO:=fA w 3;have hal:=Z5 ((Nc w.heap.size w).alloc (Na _) (.cells #[] 3));go_enter func122,ntmps122;go_upto_region 1 with fail;iterate 7 go_step
 have hbal:=hal.out;generalize w.alloc (.cells #[] 3)=W0 at *;have hiW:=hi.ah hbal;refine dH (by rfl) (.tmp 6) (.tmp 7) 22 3 (by rfl) (.int .i64 0) 8 underlying22 aU (by rfl) w.heap.size _ 0 0 [] (by rfl) hO a n c (Q.map (Value.int .i64)) (by rfl) hiW.pl (by simp [Hlen.out]) (Si hiW) (ints_oneCell _ _) (by omega) (by unfold maxLen;omega) (Om hbal) ?_;intro a3 c3 w3 hown3 hgr3 hap3;have hb3 : SW w w3:=Sa (B:=w.heap.size) (e:=3) (xs:=[]) hbal hO hgr3 (Na _) (Om hbal);rw [OI] at hown3 ⊢;rw [N5] at hown3;clear hgr3 hap3 hiW hbal hO hal hi;have H3:=Z5 hown3;clear hown3;go_wp2_with fail;go_loopw [4] (λiv wr=>∃(i : Nat) (X : Lz),1<=i/\i<=n+1/\iv = .int .i64 i/\Hid (X.Perm Q/\A9 X i)/\wr.ownsRow w.heap.size 3 1 (.slice a3 n c3) n (X.map (Value.int .i64))/\SW w wr) (λiv _=>n+1 - (intOf iv).toNat);case atStart=>exact ⟨1,Q,Na _,by omega,rfl,⟨Qw _,λp q h1 h2=>by omega⟩,H3.out,hb3⟩
 case round =>
  clear H3 hb3
  obtain ⟨i,X,hi1,hin,rfl,hX,hown,hbr⟩:=hrel
  have hi1' : (1 : Int)<=i:=by omega
  by_cases hlt : i<n
  ·have hlt' : (i : Int)<n:=by omega
   go_wp2_with fail
   go_loopw [5] (λjv wr2=>∃(j : Nat) (Y : Lz),j<=i/\jv = .int .i64 j/\Hid (Y.Perm Q/\Cw Y i j)/\wr2.ownsRow w.heap.size 3 1 (.slice a3 n c3) n (Y.map (Value.int .i64))/\SW w wr2) (λjv _=>(intOf jv).toNat)
   case atStart=>exact ⟨i,X,Na _,rfl,⟨hX.out.1,hX.out.2.start⟩,hown,hbr⟩
   case round =>
    clear hown hbr hX
    obtain ⟨j,Y,hji,rfl,hY,hown,hbr⟩:=hrel
    obtain ⟨hints,hmine⟩:=R6 hown
    have hpl:=hints.pl
    have HYl:=Z5 hints.len
    by_cases hj0 : j=0
    ·have d3 : decide (0<j)=false:=by simp;omega
     have Hd : Hid (Y.Perm Q/\A9 Y (i+1)):=⟨hY.out.1,hY.out.2.done hji (.inl hj0)⟩
     clear hj0 hints hmine
     have hown2:=λm=>bd hown (Sj (SG (Sf wr) m))
     have hbr2:=λm=>RZ hbr (Sj (SG (Sf wr) m))
     have Hn:=Z5 (Np hown2 hbr2)
     clear hown2 hbr2
     go_wp2_with fail
     go_quiet (fail)
     go_wp2
     go_roundw
     case rel=>exact ⟨i+1,Y,by omega,by omega,by go_num,Hd,Hn.out.1 _,Hn.out.2 _⟩
     case measure=>simp [intOf] <;> omega
    ·have d3 : decide (0<j)=true:=by simp;omega
     have d4 : (0 : Int)<=(j : Int) - 1:=by omega
     have d5 : (1 : Int)<=(j : Int):=by omega
     have d6 : (j : Int) - 1<n:=by omega
     have d7 : (j : Int)<n:=by omega
     have e1 : ((j : Int) - 1).toNat=j - 1:=by omega
     have kw : IntKind.i64.wrap ((j : Int) - 1)=(j : Int) - 1:=Ns _ (by omega)
     have cj:=hints.cell j (by omega)
     have cp:=hints.cell (j - 1) (by omega)
     have hown2:=λm=>bd hown (Sj (SG (Sf wr) m))
     have hbr2:=λm=>RZ hbr (Sj (SG (Sf wr) m))
     have Hn:=Z5 (Np hown2 hbr2)
     clear hown2 hbr2
     by_cases h2 : nth Y j<nth Y (j - 1)
     ·have h2' : decide (nth Y j<nth Y (j - 1))=true:=by simpa using h2
      have hjY : j<Y.length:=by rw [HYl.out];omega
      have Hd : Hid ((swp Y j).Perm Q/\Cw (swp Y j) i (j - 1)):=⟨(IK (by omega) hjY).trans hY.out.1,hY.out.2.step (by omega) hji hjY h2⟩
      clear hj0 hints hmine h2 hjY
      go_wp2_with fail
      go_quiet (fail)
      have hown2:=Hn.out.1 nq
      have hbr2:=Hn.out.2 nq
      clear Hn hown hbr cj cp h2'
      generalize wr.drewN nq=W2 at *
      obtain ⟨hints,hmine⟩:=R6 hown2
      have cj:=hints.cell j (by omega)
      have cp:=hints.cell (j - 1) (by omega)
      have fj:=(hmine (by omega)).2 j (by omega)
      have fp:=(hmine (by omega)).2 (j - 1) (by omega)
      have hB:=(hmine (by omega)).1
      have k3 : (W2.setCell ⟨ablk a3,aK a3+j,none⟩ (.int .i64 (nth Y (j - 1)))).cell? ⟨ablk a3,aK a3+(j - 1),none⟩=some (.int .i64 (nth Y (j - 1))):=by rw [NC _ _ _ _ (by simp <;> omega)];exact cp
      have hown3:=bK (bK hown2 j (by omega) (.int .i64 (nth Y (j - 1)))) (j - 1) (by omega) (.int .i64 (nth Y j))
      rw [<- NF,<- NF] at hown3
      have hbr3:=(hbr2.setCell (p:=⟨ablk a3,aK a3+j,none⟩) hB (.int .i64 (nth Y (j - 1)))).setCell (p:=⟨ablk a3,aK a3+(j - 1),none⟩) hB (.int .i64 (nth Y j))
      have Hn:=Z5 (Np hown3 hbr3)
      clear hown3 hbr3 hints hmine hown2 hbr2
      go_wp2_with fail
      go_region
      go_wp2_with fail
      go_roundw
      case rel=>exact ⟨j - 1,swp Y j,by omega,by go_num,Hd,bd Hn.out.1 (Nc _ _).drew,RZ Hn.out.2 (Nc _ _).drew⟩
      case measure=>simp [intOf] <;> omega
     ·have h2' : decide (nth Y j<nth Y (j - 1))=false:=by simpa using h2
      have Hd : Hid (Y.Perm Q/\A9 Y (i+1)):=⟨hY.out.1,hY.out.2.done hji (.inr (by omega))⟩
      clear hj0 hints hmine h2
      go_wp2_with fail
      go_quiet (fail)
      go_wp2
      go_roundw
      case rel=>exact ⟨i+1,Y,by omega,by omega,by go_num,Hd,Hn.out.1 _,Hn.out.2 _⟩
      case measure=>simp [intOf] <;> omega
  ·have hXl:=(R6 hown).1.len
   have He : Hid (X=dt Q):=hX.out.2.sort (by omega) hX.out.1
   have hF:=Z5 (Np hown hbr)
   clear hXl hown hbr
   go_wp2_with fail
   go_ret
   exact ⟨a3,c3,rfl,by rw [<- He.out];exact hF.out.1,hF.out.2⟩
theorem et {P M : Int} {mod : Lz} (hB : bA P M mod=true) (am : OA) (mn cm : Nat) (x : Int) (n : Nat) (w : World) (hmod : Ints w am mn mod) (hx : (af P M.toNat mod).El x) (h0 : x ≠ 0) (hn : n<=1000000) :
  Calls prog 71 #[.agg #[.int .i64 P,.int .i64 M,.slice am mn cm],.int .i64 x,.int .i64 n] w λe w'=>e = .returned (.tuple #[.int .i64 (iE (af P M.toNat mod).ops x n),.int .i64 0])/\SW w w':=by
 have F:=dM hB;obtain ⟨g,hg⟩:=uD hB;have hred:=Di F hg hx h0 n;have hq2:=hg.q2;have hrg:=(hg.rng x).1 hx;obtain ⟨k0,hk0,hel,hq,hF,hA,_⟩:=dB hB;have HIn : Hid (∀V,Calls prog 123 #[.agg #[.int .i64 P,.int .i64 M,.slice am mn cm],.int .i64 x] V λe w'=>e = .returned (.int .i64 x)/\SW V w'):=λV=>by
  refine Ka P M am mn cm x V ?_;obtain ⟨k',e2,hrf,_⟩:=dm (P:=P) (M:=M) (mod:=mod) (by rw [bP];exact hB);subst e2;obtain rfl : k'=k0:=by omega
  rw [Nb] at hx;rw [<- hel] at hx;exact hrf.jR hx
 have HOr : Hid (∀V,Calls prog 24 #[.agg #[.int .i64 P,.int .i64 M,.slice am mn cm]] V λe w'=>e = .returned (.int .i64 ((af P M.toNat mod).q : Nat))/\SW V w'):=λV=>vj hB am mn cm V;have HMu : Hid (∀V i,SW w V->Calls prog 114 #[.agg #[.int .i64 P,.int .i64 M,.slice am mn cm],.int .i64 (iE (af P M.toNat mod).ops x i),.int .i64 x] V λe w'=>e = .returned (.int .i64 (iE (af P M.toNat mod).ops x (i+1)))/\SW V w'):=λV i hV =>
  ak hB _ _ V (hmod.ah hV) (gQ F hx i) hx
 have hq256 : (af P M.toNat mod).q<=256:=by obtain ⟨m,y,rfl,_,h256,_,hqe,G⟩:=ob hB;rw [Nb];show (aJ P m).toNat<=256;omega
 have HP0 : Hid (iE (af P M.toNat mod).ops x 0=1):=rfl;have Hred:=Z5 hred;generalize hZ : iE (af P M.toNat mod).ops x=Z at *;generalize (af P M.toNat mod).q=q at *;clear hZ hred hg F hel hq hF hA hx hmod hB hk0;obtain ⟨k,rfl⟩ : ∃k,q=k+1:=⟨q - 1,by omega⟩
 rw [PB] at Hred;go_enter func71,ntmps71;go_upto_region 1 with fail;obtain ⟨W,hW⟩ : ∃W : World,W=w.alloc (.cells #[.int .i64 P,.int .i64 M,.slice am mn cm] 24):=⟨_,rfl⟩
 rw [<- hW];have hbW : SW w W:=by rw [hW];exact an _ _
 have x0 : aN W w.heap.size [.int .i64 P,.int .i64 M,.slice am mn cm]:=by rw [hW];exact R9 _ _ _ rfl
 have HX : Hid (∀V,SW W V->V.cell? ⟨w.heap.size,0,none⟩=some (.int .i64 P)/\V.cell? ⟨w.heap.size,1,none⟩=some (.int .i64 M)/\V.cell? ⟨w.heap.size,2,none⟩=some (.slice am mn cm)):=λV hV=>by have y:=x0.ah hV;exact ⟨y.cell 0 rfl,y.cell 1 rfl,y.cell 2 rfl⟩
 have HbW:=Z5 hbW;clear hW x0 hbW;obtain ⟨c0,c1,c2⟩:=HX.out W (Nc _ _);go_wp2_with fail;refine (HIn.out W).mono ?_;rintro e w1 ⟨rfl,hb1⟩;clear c0 c1 c2;have hF1:=RZ HbW.out hb1;by_cases hn0 : n=0
 ·subst hn0;go_wp2_with fail;go_ret2;exact ⟨by rw [HP0.out] <;> rfl,hF1⟩
 have d0 : ((n : Int) == 0)=false:=by simpa using hn0
 have d1 : (x == 0)=false:=by simpa using h0
 obtain ⟨c0,c1,c2⟩:=HX.out w1 hb1;clear hn0;go_wp2_with fail;refine (HOr.out w1).mono ?_;rintro e w2 ⟨rfl,hb2⟩;clear c0 c1 c2;have hF2:=RZ hF1 hb2;have hb12:=RZ hb1 hb2;obtain ⟨y,hy⟩ : ∃y,n % k=y:=⟨_,rfl⟩
 have hk1 : 1<=k:=by omega
 have hyk : y<k:=by rw [<- hy];exact O1 _ (by omega)
 rw [hy] at Hred;have e1 : ((k+1 : Nat) : Int) - 1=(k : Int):=by omega
 have e1' : (k : Int)+1 - 1=(k : Int):=by omega
 have w1' : IntKind.i64.wrap (((k+1 : Nat) : Int) - 1)=(k : Int):=by rw [e1];exact Ns _ (by omega)
 have w1'' : IntKind.i64.wrap ((k : Int) + 1 - 1) = (k : Int) := by rw [e1']; exact Ns _ (by omega)
 have r1 : ((n : Nat) : Int).tmod (k : Nat)=((y : Nat) : Int):=by rw [Ow (by omega),<- hy];simp
 have w2' : IntKind.i64.wrap ((y : Int)+(k : Int))=(y : Int)+(k : Int):=Ns _ (by omega);have r2 : ((y : Int)+(k : Int)).tmod (k : Nat)=((y : Nat) : Int):=by rw [Ow (by omega),Int.add_emod_right];exact QF (by omega) (by omega)
 have hkk : (k : Int) ≠ 0:=by omega
 have hkb : ((k : Int) == 0)=false:=by simpa using hkk
 clear hy hF1;go_wp2_with fail;clear e1 e1' w1' w1'' r1 w2' r2 hkk hkb;go_loopw [9,10] (λov iv wr=>∃i : Nat,i<=y/\iv = .int .i64 i/\ov = .int .i64 (Z i)/\SW w2 wr) (λ_ iv _=>y - (intOf iv).toNat);case atStart=>exact ⟨0,Ni _,rfl,by rw [HP0.out],Nc _ _⟩
 case round =>
  obtain ⟨i,hi,rfl,rfl,hbr⟩:=hrel
  by_cases hlt : i<y
  ·have hF3:=RZ hF2 hbr
   have HM:=Z5 (HMu.out wr i hF3)
   obtain ⟨z,hz⟩ : ∃z,Z i=z:=⟨_,rfl⟩
   rw [hz] at HM ⊢
   obtain ⟨c0,c1,c2⟩:=HX.out wr (RZ hb12 hbr)
   clear hz
   go_wp2_with fail
   refine HM.out.mono ?_
   rintro e w4 ⟨rfl,hb4⟩
   have hbr4:=RZ hbr hb4
   clear c0 c1 c2
   go_wp2_with fail
   go_roundw
   case rel=>exact ⟨i+1,by omega,by go_num,rfl,hbr4⟩
   case measure=>simp [intOf] <;> omega
  ·obtain rfl : i=y:=by omega
   have hF3:=RZ hF2 hbr
   go_wp2_with fail
   go_ret2
   exact ⟨by rw [Hred.out] <;> rfl,hF3⟩
section
variable {B : Nat} {V V' w5 : World} {a1 a2 a5 : OA} {c1 c2 c5 : Nat} {l1 l2 : Lz} {o : Obj} {x : Int}
end
theorem k8 (a : OA) (n c : Nat) (l : Lz) (x : Int) (w : World) (hi : Ints w a n l) :
  Calls prog 121 #[.slice a n c,.int .i64 x] w λe w'=>e = .returned (.bool (decide (x ∈ l)))/\w'=w:=by
 have hpl:=hi.pl;have hmax:=hi.max;have Hl:=Z5 hi.len;go_enter func121,ntmps121;go_wp2_with fail;go_loop [5] (λiv=>∃k : Nat,k<=n/\iv = .int .i64 k/\Hid (¬ x ∈ l.take k)) (λiv=>n - (intOf iv).toNat);case atStart=>exact ⟨0,Ni _,rfl,by show ¬ _;simp⟩
 case round =>
  obtain ⟨k,hk,rfl,hno⟩:=hrel
  unfold maxLen at hmax
  by_cases hlt : k<n
  ·have ck:=hi.cell k hlt
   have htk : l.take (k+1)=l.take k ++ [nth l k]:=by rw [Nj (by rw [Hl.out];exact hlt),<- aj]
   by_cases he : nth l k=x
   ·have d1 : (nth l k == x)=true:=by simpa using he
    have hin : Hid (decide (x ∈ l)=true):=by show _=_;exact NB (by rw [<- he];exact aH (by rw [Hl.out];exact hlt))
    clear he htk
    go_wp2_with fail
    go_ret
    exact ⟨aZ hin.out.symm,rfl⟩
   ·have d1 : (nth l k == x)=false:=by simpa using he
    have hno2 : Hid (¬ x ∈ l.take (k+1)):=by
     show ¬ _;rw [htk,Ol,N6];rintro (h | h)
     ·exact hno.out h
     ·exact he h.symm
    clear he htk
    go_wp2_with fail
    go_round
    case rel=>exact ⟨k+1,by omega,by go_num,hno2⟩
    case measure=>simp [intOf] <;> omega
  ·obtain rfl : k=n:=by omega
   have hin : Hid (decide (x ∈ l)=false):=by show _=_;have h:=hno.out;rw [No (by rw [Hl.out];exact Na _)] at h;exact NA h
   go_wp2_with fail
   go_ret
   exact ⟨aZ hin.out.symm,rfl⟩
def zo (r k : Nat) : Lz:=(List.range k).map λj=>(ju r j : Int)
theorem Cm (r k : Nat) : zo r (k+1)=zo r k ++ [(ju r k : Int)]:=by unfold zo;rw [Ou,NM];rfl
theorem ik (r k : Int) (rn kn : Nat) (w : World) (hr : r=rn) (hk : k=kn) (h1 : 1<=rn) (h2 : rn<=64) (h3 : kn<=64) :
  Calls prog 70 #[.int .i64 r,.int .i64 k] w λe w'=>∃a c,e = .returned (.slice a kn c)/\w'.ownsRow w.heap.size 3 1 (.slice a kn c) kn ((zo rn kn).map (Value.int .i64))/\SW w w':=by
 obtain ⟨R,hR⟩ : ∃R,rn+1=R:=⟨_,rfl⟩
 have wR : IntKind.i64.wrap (r+1)=(R : Int):=by rw [show r+1=(R : Int) by omega];exact Ns _ (by omega)
 have HCt : Hid (∀x,x % R=rn->kW rn (x+1)=kW rn x):=λx hx=>Gi (by rw [hR];exact hx);have HCk : Hid (∀x,x % R ≠ rn->kW rn (x+1)=kW rn x+1/\zo rn (kW rn x+1)=zo rn (kW rn x) ++ [(x : Int)]):=λx hx=>by obtain ⟨h5,h6⟩:=GK (r:=rn) (x:=x) h1 (by rw [hR];exact hx);exact ⟨h5,by rw [Cm,<- h6]⟩
 have HCl : Hid (∀x,kW rn x<kn->x<2 * kn):=λx hx=>KG h1 hx;have hct0 : kW rn 0=0:=FO rn;have hLL0 : zo rn 0=[]:=rfl;obtain ⟨LL,hLL⟩ : ∃f,zo rn=f:=⟨_,rfl⟩
 rw [hLL] at HCk hLL0 ⊢;obtain ⟨ct,hct⟩ : ∃f,kW rn=f:=⟨_,rfl⟩
 rw [hct] at HCt HCk HCl hct0;have hR0p : (R : Int) ≠ 0:=by omega
 have hR0n : R ≠ 0:=by omega
 have hR0b : ((R : Int) == 0)=false:=by rw [beq_eq_false_iff_ne];exact hR0p
 have HkE:=Z5 (Np hk hr);have hR65 : R<=65:=by omega
 clear hLL hct hk hr hR;go_enter func70,ntmps70;go_wp2_with fail;go_loopw [5,6] (λsv iv wr=>∃(x : Nat) (a5 : OA) (c5 : Nat),x<=2 * kn/\ct x<=kn/\iv = .int .i64 x/\sv = .slice a5 (ct x) c5/\wr.ownsRow w.heap.size 3 1 (.slice a5 (ct x) c5) (ct x) ((LL (ct x)).map (Value.int .i64))/\SW w wr) (λ_ iv _=>2 * kn - (intOf iv).toNat);case atStart=>exact ⟨0,none,0,Ni _,by rw [hct0];exact Ni _,rfl,by rw [hct0],by rw [hct0,hLL0];exact ⟨rfl,.inl ⟨rfl,rfl⟩⟩,Nc _ _⟩
 case round =>
  clear hct0 hLL0
  obtain ⟨x,a5,c5,hx2,hxk,rfl,rfl,hown,hbr⟩:=hrel
  obtain ⟨hk1,hr1⟩:=HkE.out
  by_cases hltk : ct x<kn
  ·have hxlt:=HCl.out x hltk
   have d1 : decide (((ct x : Nat) : Int)<k)=true:=by rw [hk1];simp;omega
   obtain ⟨xm,hxm⟩ : ∃xm : Int,xm=((x % R : Nat) : Int):=⟨_,rfl⟩
   have tm : (x : Int).tmod (R : Int)=xm:=by rw [hxm,Ow (by omega)];simp
   by_cases hm : x % R=rn
   ·have hs:=Z5 (HCt.out x hm)
    have d2 : (xm != r)=false:=by rw [hxm,hm,hr1];simp
    generalize ct x=cx at *
    clear hm hxm hk1 hr1
    go_wp2_with fail
    go_roundw
    case rel=>exact ⟨x+1,a5,c5,by omega,by rw [hs.out];omega,by go_num,by rw [hs.out],by rw [hs.out];exact hown,hbr⟩
    case measure=>simp [intOf] <;> omega
   ·have hs:=Z5 (HCk.out x hm)
    have d2 : (xm != r)=true:=by rw [bne_iff_ne,hxm,hr1];omega
    generalize hcx : ct x=cx at *
    clear hm hxm hk1 hr1 hcx
    have hcn:=ba wr (.int .i64 x) 3
    have hbn:=an wr (.cells #[.int .i64 x] 3)
    have hsz:=hbr.size
    go_wp2_with (at_builtin;refine aO rfl _ _ 22 3 rfl (.int .i64 0) 8 underlying22 aU rfl w.heap.size a5 cx c5 _ rfl (hown.alloc _) ⟨wr.heap.size,0,none⟩ 1 (.int .i64 x) rfl hcn rfl (by omega) (by unfold maxLen;omega) (by simp;omega) ?_;intro a7 c7 w7 hown7 hgr7 hap7)
    go_roundw
    case rel =>
     refine ⟨x+1,a7,c7,by omega,by rw [hs.out.1];omega,by go_num,by rw [hs.out.1],?_,Sa (N2 hbr (hbn.mono hsz)) (hown.alloc _) hgr7 (Na _) (Nr hsz hbn.size)⟩
     rw [hs.out.1,hs.out.2];simpa using hown7
    case measure=>simp [intOf] <;> omega
  ·have hk3 : ct x=kn:=by omega
   have d1 : decide (((ct x : Nat) : Int)<k)=false:=by rw [hk1];simp;omega
   rw [hk3] at hown d1 ⊢
   have HF:=Z5 (Np hown hbr)
   clear hown hbr hk3 hk1 hr1
   go_wp2_with fail
   go_ret
   exact ⟨_,_,rfl,HF.out.1,HF.out.2⟩
theorem bz {P M : Int} {mod : Lz} (hB : bA P M mod=true) (am : OA) (mn cm : Nat) (c r : Int) (cn rn Q : Nat) (w : World) (hmod : Ints w am mn mod) (hc : c=cn) (hr : r=rn) (hQ : (af P M.toNat mod).q=Q+1)
  (h1 : 1<=rn) (h2 : rn<=64) (h3 : cn<=64) (hQ6 : Q<=65536) (hd : Q % (rn+1)=0) (hcq : cn<=Q / (rn+1)) :
  Calls prog 69 #[.agg #[.int .i64 P,.int .i64 M,.slice am mn cm],.int .i64 c,.int .i64 r] w λe w'=>∃a1 c1,e = .returned (.slice a1 ((rn+1) * cn) c1)/\Ints w' a1 ((rn+1) * cn) (CZ (af P M.toNat mod).ops (af P M.toNat mod).q rn cn)/\SW w w':=by
 obtain ⟨g1,g2,g3,g4,g5,g6⟩:=KZ (k:=0) hB hQ h1 hd hcq;obtain ⟨R,hR⟩ : ∃R,rn+1=R:=⟨_,rfl⟩
 rw [hR] at g1 g2 g3 g4 g6 ⊢;obtain ⟨N,hN⟩ : ∃N,R * cn=N:=⟨_,rfl⟩
 rw [hN] at g3 g4 g6 ⊢;have wR : IntKind.i64.wrap (r+1)=(R : Int):=by rw [show r+1=(R : Int) by omega];exact Ns _ (by omega)
 have hcR : c * (R : Int)=(N : Int):=by rw [hc,<- hN,QW,OV]
 have wN : IntKind.i64.wrap (c * (R : Int))=(N : Int):=by rw [hcR];exact Ns _ (by omega)
 have HRt : Hid (∀x : Nat,1<=x->iE (af P M.toNat mod).ops (x : Int) R=1->FG (af P M.toNat mod).ops R (x+1)=FG (af P M.toNat mod).ops R x ++ [(x : Int)]):=λx=>Cj;have HRs : Hid (∀x : Nat,1<=x->iE (af P M.toNat mod).ops (x : Int) R ≠ 1->FG (af P M.toNat mod).ops R (x+1)=FG (af P M.toNat mod).ops R x):=λx=>BC;have HRl : Hid (∀x : Nat,(FG (af P M.toNat mod).ops R x).length<=x):=λx=>An R x;have hR1 : FG (af P M.toNat mod).ops R 1=[]:=K8 R;have HPt : Hid (∀x : Nat,1<=x->(Fg (af P M.toNat mod).ops (FG (af P M.toNat mod).ops R (Q+1)) N x).length<N->¬ (x : Int) ∈ Fg (af P M.toNat mod).ops (FG (af P M.toNat mod).ops R (Q+1)) N x ->
   Fg (af P M.toNat mod).ops (FG (af P M.toNat mod).ops R (Q+1)) N (x+1)=Fg (af P M.toNat mod).ops (FG (af P M.toNat mod).ops R (Q+1)) N x ++ dt ((FG (af P M.toNat mod).ops R (Q+1)).map ((af P M.toNat mod).ops.mul (x : Int)))):=λx=>IA
 have HPs : Hid (∀x : Nat,1<=x->(x : Int) ∈ Fg (af P M.toNat mod).ops (FG (af P M.toNat mod).ops R (Q+1)) N x->Fg (af P M.toNat mod).ops (FG (af P M.toNat mod).ops R (Q+1)) N (x+1)=Fg (af P M.toNat mod).ops (FG (af P M.toNat mod).ops R (Q+1)) N x):=λx=>I8;have HPe : Hid (∀x : Nat,x<=Q+1->N<=(Fg (af P M.toNat mod).ops (FG (af P M.toNat mod).ops R (Q+1)) N x).length->Fg (af P M.toNat mod).ops (FG (af P M.toNat mod).ops R (Q+1)) N x=CZ (af P M.toNat mod).ops (af P M.toNat mod).q rn cn):=λx hx h=>by rw [<- g3];exact Ir hx h
 have hP1 : Fg (af P M.toNat mod).ops (FG (af P M.toNat mod).ops R (Q+1)) N 1=[]:=K0 _ _;have HPw : Hid (∀V (x : Nat),1<=x->x<=Q->SW w V->Calls prog 71 #[.agg #[.int .i64 P,.int .i64 M,.slice am mn cm],.int .i64 x,.int .i64 R] V λe w'=>e = .returned (.tuple #[.int .i64 (iE (af P M.toNat mod).ops (x : Int) R),.int .i64 0])/\SW V w'):=λV x hx1 hxq hV =>
  et hB am mn cm x R V (hmod.ah hV) ⟨by omega,by rw [hQ];omega⟩ (by omega) (by omega)
 have HMu : Hid (∀V (x : Nat) u,x<=Q->(af P M.toNat mod).El u->SW w V->Calls prog 114 #[.agg #[.int .i64 P,.int .i64 M,.slice am mn cm],.int .i64 x,.int .i64 u] V λe w'=>e = .returned (.int .i64 ((af P M.toNat mod).ops.mul (x : Int) u))/\SW V w'):=λV x u hxq hu hV =>
  ak hB x u V (hmod.ah hV) ⟨by omega,by rw [hQ];omega⟩ hu
 obtain ⟨qi,hqi⟩ : ∃qi : Int,qi=((af P M.toNat mod).q : Nat):=⟨_,rfl⟩
 have HOr : Hid (∀V,Calls prog 24 #[.agg #[.int .i64 P,.int .i64 M,.slice am mn cm]] V λe w'=>e = .returned (.int .i64 qi)/\SW V w'):=λV=>by rw [hqi];exact vj hB am mn cm V
 have Hqi : Hid (qi=(Q : Int)+1):=by show _=_;rw [hqi,hQ];simp
 generalize hrt : FG (af P M.toNat mod).ops R=RT at *;generalize hpt : Fg (af P M.toNat mod).ops (RT (Q+1)) N=PT at *;generalize CZ (af P M.toNat mod).ops (af P M.toNat mod).q rn cn=X at *;obtain ⟨pw,hpw⟩ : ∃pw : Int->Int,pw=λx=>iE (af P M.toNat mod).ops x R:=⟨_,rfl⟩
 have hpw' : ∀x,iE (af P M.toNat mod).ops x R=pw x:=λx=>by rw [hpw]
 simp only [hpw'] at HRt HRs HPw;obtain ⟨UU,hUU⟩ : ∃UU,RT (Q+1)=UU:=⟨_,rfl⟩
 rw [hUU] at g1 g2 HPt;have HUU:=Z5 hUU;have HUE : Hid (∀k,k<R->(af P M.toNat mod).El (nth UU k)):=λk hk=>g2 _ (aH (by rw [g1];exact hk));have HUl : Hid (UU.length=R):=g1;have HXl : Hid (X.length=N):=g4;have HPQ : Hid (PT (Q+1)=X):=g3;generalize (af P M.toNat mod).ops.mul=mu at *;generalize (af P M.toNat mod).El=El at *;have hNQ : N<=Q:=g6;have hR65 : R<=65:=by omega
 have HR0 : Hid (1<=R):=by show 1<=R;omega
 clear hpt hrt hpw hpw' hUU g1 g2 g3 g4 g5 g6 hqi hB hmod hQ hd hcq hc hr hcR hN hR h1 h2 h3;go_enter func69,ntmps69;go_upto_region 1 with fail;obtain ⟨W,hW⟩ : ∃W : World,W=w.alloc (.cells #[.int .i64 P,.int .i64 M,.slice am mn cm] 24):=⟨_,rfl⟩
 rw [<- hW];have hbW : SW w W:=by rw [hW];exact an _ _
 have x0 : aN W w.heap.size [.int .i64 P,.int .i64 M,.slice am mn cm]:=by rw [hW];exact R9 _ _ _ rfl
 have HS : Hid (∀V,SW W V->V.cell? ⟨w.heap.size,0,none⟩=some (.int .i64 P)/\V.cell? ⟨w.heap.size,1,none⟩=some (.int .i64 M)/\V.cell? ⟨w.heap.size,2,none⟩=some (.slice am mn cm)):=λV hV=>by have x1:=x0.ah hV;exact ⟨x1.cell 0 rfl,x1.cell 1 rfl,x1.cell 2 rfl⟩
 have HbW:=Z5 hbW;clear hW x0 hbW;go_wp2_with fail;go_loopw [7,9] (λsv iv wr=>∃(x : Nat) (a7 : OA) (c7 : Nat),1<=x/\x<=Q+1/\iv = .int .i64 x/\sv = .slice a7 (RT x).length c7/\wr.ownsRow W.heap.size 3 1 (.slice a7 (RT x).length c7) (RT x).length ((RT x).map (Value.int .i64))/\SW W wr) (λ_ iv _=>Q+2 - (intOf iv).toNat);case atStart=>exact ⟨1,none,0,Na _,by omega,rfl,by rw [hR1];rfl,by rw [hR1];exact bV,Nc _ _⟩
 case round =>
  obtain ⟨x,a7,c7,hx1,hxq,rfl,rfl,hown,hbr⟩:=hrel
  obtain ⟨b0,b1,b2⟩:=HS.out wr hbr
  go_wp2_with fail
  refine (HOr.out wr).mono ?_
  rintro e w1 ⟨rfl,hb1⟩
  have hbr1:=RZ hbr hb1
  have hown1:=bd hown hb1
  clear b0 b1 b2
  by_cases hxl : x<=Q
  ·have d1 : decide ((x : Int)<qi)=true:=by rw [Hqi.out];simp;omega
   obtain ⟨b0,b1,b2⟩:=HS.out w1 hbr1
   go_wp2_with fail
   refine (HPw.out w1 x hx1 hxl (RZ HbW.out hbr1)).mono ?_
   rintro e w2 ⟨rfl,hb2⟩
   have hbr2:=RZ hbr1 hb2
   have hown2:=bd hown1 hb2
   have hl:=HRl.out x
   clear b0 b1 b2 hown hown1 hbr hbr1
   by_cases hp : pw (x : Int)=1
   ·have hs:=Z5 (HRt.out x hx1 hp)
    have d2 : (pw (x : Int) == 1)=true:=by simpa using hp
    generalize hG : RT x=G at *
    have hcn:=ba w2 (.int .i64 x) 3
    have hbn:=an w2 (.cells #[.int .i64 x] 3)
    have hsz:=hbr2.size
    clear hp hG
    go_wp2_with (at_builtin;refine aO rfl _ _ 22 3 rfl (.int .i64 0) 8 underlying22 aU rfl W.heap.size a7 G.length c7 _ rfl (hown2.alloc _) ⟨w2.heap.size,0,none⟩ 1 (.int .i64 x) rfl hcn rfl (by omega) (by unfold maxLen;omega) (by simp;omega) ?_;intro a8 c8 w8 hown8 hgr8 hap8)
    go_roundw
    case rel=>exact ⟨x+1,a8,c8,by omega,by omega,by go_num,by rw [hs.out,Nl];rfl,by rw [hs.out,Nl];simpa using hown8,Sa (N2 hbr2 (hbn.mono hsz)) (hown2.alloc _) hgr8 (Na _) (Nr hsz hbn.size)⟩
    case measure=>simp [intOf] <;> omega
   ·have hs:=Z5 (HRs.out x hx1 hp)
    have d2 : (pw (x : Int) == 1)=false:=by simpa using hp
    clear hp
    go_wp2_with fail
    go_roundw
    case rel=>exact ⟨x+1,a7,c7,by omega,by omega,by go_num,by rw [hs.out],by rw [hs.out];exact hown2,hbr2⟩
    case measure=>simp [intOf] <;> omega
  ·obtain rfl : x=Q+1:=by omega
   have d1 : decide (((Q+1 : Nat) : Int)<qi)=false:=by rw [Hqi.out];simp
   rw [HUU.out,HUl.out] at hown1
   rw [HUU.out,HUl.out]
   have HU1:=Z5 (R6 hown1).1
   have hplU:=(R6 hown1).1.pl
   obtain ⟨x1,hx1'⟩ : ∃x1 : Int,x1=((Q+1 : Nat) : Int):=⟨_,rfl⟩
   rw [<- hx1'] at d1 ⊢
   clear hown hown1 hbr hxl hx1 hxq hx1'
   generalize w1=V at *
   clear hb1
   go_wp2_with fail
   go_loopw [8,12] (λsv iv wr=>∃(x : Nat) (a8 : OA) (c8 : Nat),1<=x/\x<=Q+1/\iv = .int .i64 x/\sv = .slice a8 (PT x).length c8/\wr.ownsRow V.heap.size 3 1 (.slice a8 (PT x).length c8) (PT x).length ((PT x).map (Value.int .i64))/\SW V wr) (λ_ iv _=>Q+2 - (intOf iv).toNat)
   case atStart=>exact ⟨1,none,0,Na _,by omega,rfl,by rw [hP1];rfl,by rw [hP1];exact bV,Nc _ _⟩
   case round =>
    obtain ⟨x,a8,c8,hx1,hxq,rfl,rfl,hown,hbr⟩:=hrel
    have hbrW:=RZ hbr1 hbr
    obtain ⟨b0,b1,b2⟩:=HS.out wr hbrW
    go_wp2_with fail
    refine (HOr.out wr).mono ?_
    rintro e w1 ⟨rfl,hb1⟩
    have hbr2:=RZ hbr hb1
    have hbW2:=RZ hbr1 hbr2
    have hown1:=bd hown hb1
    clear b0 b1 b2 hown hbr hbrW
    by_cases hgo : x<=Q/\(PT x).length<N
    rotate_left
    ·have hX : PT x=X:=by
      by_cases h5 : x<=Q
      ·exact HPe.out x hxq (by omega)
      ·obtain rfl : x=Q+1:=by omega
       exact HPQ.out
     have HF : Hid (Ints w1 a8 N X/\SW w w1):=by rw [hX,HXl.out] at hown1;exact ⟨(R6 hown1).1,RZ HbW.out hbW2⟩
     have hXN : (PT x).length=N:=by rw [hX];exact HXl.out
     rw [hXN]
     have d3 : decide ((x : Int)<qi)=false\/(decide ((x : Int)<qi)=true/\decide ((N : Int)<(N : Int))=false):=by
      by_cases h5 : x<=Q
      ·exact .inr ⟨by rw [Hqi.out];simp;omega,by simp⟩
      ·exact .inl (by rw [Hqi.out];simp;omega)
     clear hgo hX hXN hown1
     rcases d3 with d3 | ⟨d3,d4⟩
     ·go_wp2_with fail
      go_ret
      exact ⟨a8,c8,rfl,HF.out.1,HF.out.2⟩
     ·go_wp2_with fail
      go_ret
      exact ⟨a8,c8,rfl,HF.out.1,HF.out.2⟩
    obtain ⟨hxl,hln⟩:=hgo
    have d3 : decide ((x : Int)<qi)=true:=by rw [Hqi.out];simp;omega
    have d4 : decide (((PT x).length : Int)<(N : Int))=true:=by simp;omega
    have HIn:=Z5 (k8 a8 (PT x).length c8 (PT x) x w1 (R6 hown1).1)
    by_cases hm : (x : Int) ∈ PT x
    ·have hs:=Z5 (HPs.out x hx1 hm)
     have hdm : decide ((x : Int) ∈ PT x)=true:=NB hm
     rw [hdm] at HIn
     clear hm hdm
     go_wp2_with fail
     refine HIn.out.mono ?_
     rintro e w2 ⟨rfl,rfl⟩
     go_wp2_with fail
     go_roundw
     case rel=>exact ⟨x+1,a8,c8,by omega,by omega,by go_num,by rw [hs.out],by rw [hs.out];exact hown1,hbr2⟩
     case measure=>simp [intOf] <;> omega
    ·have hs:=Z5 (HPt.out x hx1 hln hm)
     have hdm : decide ((x : Int) ∈ PT x)=false:=NA hm
     rw [hdm] at HIn
     clear hm hdm
     go_wp2_with fail
     refine HIn.out.mono ?_
     rintro e Y ⟨rfl,rfl⟩
     have HMx:=Z5 (λV' u (hu : El u) hV=>HMu.out V' x u hxl hu hV)
     have hlU:=HUl.out
     obtain ⟨CC,hCC⟩ : ∃CC,UU.map (mu (x : Int))=CC:=⟨_,rfl⟩
     rw [hCC] at hs
     have HCl : Hid (CC.length=R):=by show _=_;rw [<- hCC,Nq];exact hlU
     have HCt : Hid (∀k,k<R->CC.take (k+1)=CC.take k ++ [mu (x : Int) (nth UU k)]):=λk hk=>by rw [Nj (by rw [HCl.out];exact hk)];congr 2;subst hCC;rw [NZ,<- aj (by rw [hlU];exact hk)]
     have HUY:=Z5 (λV' (hV : SW Y V')=>HU1.out.ah (RZ hbr2 hV))
     have HOwn:=Z5 (Np hown1 hbr2)
     have hxq2 : (x : Int)<=65536:=by omega
     clear hCC hown1 d3 d4 HIn
     go_wp2_with fail
     go_loopw [13,14] (λsv iv ws=>∃(k : Nat) (a9 : OA) (c9 : Nat),k<=R/\iv = .int .i64 k/\sv = .slice a9 k c9/\ws.ownsRow Y.heap.size 3 1 (.slice a9 k c9) k ((CC.take k).map (Value.int .i64))/\SW Y ws) (λ_ iv _=>R - (intOf iv).toNat)
     case atStart=>exact ⟨0,none,0,Ni _,rfl,rfl,by simpa using bV,Nc _ _⟩
     case round =>
      obtain ⟨k,a9,c9,hk,rfl,rfl,hown9,hbs⟩:=hrel
      generalize wr=Z at *
      by_cases hlt : k<R
      ·have ck:=(HUY.out Z hbs).cell k hlt
       have hue:=HUE.out k hlt
       have Hst:=Z5 (HCt.out k hlt)
       have hk1 : (k : Int)<(R : Int):=by omega
       obtain ⟨u,hu⟩ : ∃u,nth UU k=u:=⟨_,rfl⟩
       rw [hu] at ck hue Hst
       have HS3 : Hid (∀V',SW Y V'->V'.cell? ⟨w.heap.size,0,none⟩=some (.int .i64 P)/\V'.cell? ⟨w.heap.size,1,none⟩=some (.int .i64 M)/\V'.cell? ⟨w.heap.size,2,none⟩=some (.slice am mn cm)/\V'.cell? ⟨ablk a7,aK a7+k,none⟩=some (.int .i64 u)):=λV' hV=>by obtain ⟨y0,y1,y2⟩:=HS.out V' (RZ hbW2 hV);have ck:=(HUY.out V' hV).cell k hlt;rw [hu] at ck;exact ⟨y0,y1,y2,ck⟩
       have HM3:=Z5 (λV' (hV : SW Y V')=>HMx.out V' u hue (RZ HbW.out (RZ hbW2 hV)))
       obtain ⟨z,hz⟩ : ∃z,mu (x : Int) u=z:=⟨_,rfl⟩
       rw [hz] at HM3 Hst
       have HO9:=Z5 (Np hown9 hbs)
       have hsz:=hbs.size
       clear hu hz ck hue hown9 hlt hbs
       obtain ⟨b0,b1,b2,b3⟩:=HS3.out Z HO9.out.2
       go_wp2_with fail
       go_region_held3 (λV=>V.cell? ⟨w.heap.size,0,none⟩=some (.int .i64 P)/\V.cell? ⟨w.heap.size,1,none⟩=some (.int .i64 M)/\V.cell? ⟨w.heap.size,2,none⟩=some (.slice am mn cm)/\V.cell? ⟨ablk a7,aK a7+k,none⟩=some (.int .i64 u))
        ((refine HS3.out _ ?_;first | exact hb7 | exact RZ HO9.out.2 hb4w | exact RZ HO9.out.2 (Nc _ _).drew | exact RZ HO9.out.2 hB4 | exact (RZ HO9.out.2 hB4).drew))
        (first
         | (go_at_call 114;((with_reducible refine (HM3.out _ (by exact RZ HO9.out.2 (Nc _ _).drew)).mono ?_);rintro e w4 ⟨rfl,hb4⟩;have hb4w : SW Z w4:=RZ (Nc _ _).drew hb4;have hB4:=Sb hb4w (.cells #[.int .i64 z] 3);have hO4:=bd HO9.out.1 hB4))
         | (refine dE (by rfl) (.tmp 59) (.tmp 67) 22 3 (by rfl) (.int .i64 0) 8 underlying22 aU (by rfl) Y.heap.size a9 k c9 ((CC.take k).map (Value.int .i64)) (by rfl) (by exact hO4) _ 1 1 [.int .i64 z] (by rfl) (λ_=>rfl) rfl (by intro j hj;obtain rfl : j=0:=(by omega);exact dj _ _ _ rfl) (by intro y hy;simp at hy;subst hy;rfl) (by omega) (by unfold maxLen;omega) (by exact Nr hsz hB4.size) ?_;intro a10 c10 w7 hown7 hgr7 hap7;have hb7 : SW Y w7:=(by first | exact Sa (RZ HO9.out.2 hB4) hO4 hgr7 (Na _) (Nr hsz hB4.size) | exact Sa (RZ HO9.out.2 hB4).drew (by exact hO4) hgr7 (Na _) (Nr hsz hB4.drew.size))))
       all_goals (
        go_wp2_with fail
        go_roundw
        case rel=>exact ⟨k+1,a10,c10,by omega,by go_num,rfl,by rw [Hst.out,NM];exact hown7,hb7⟩
        case measure=>simp [intOf] <;> omega)
      ·obtain rfl : k=R:=by omega
       rw [No (by rw [HCl.out];exact Na _)] at hown9
       have HSo:=Z5 (rU a9 k c9 CC Z (R6 hown9).1 (by omega))
       have hown8:=bd HOwn.out.1 hbs
       have hbV:=RZ HOwn.out.2 hbs
       clear hown9 hbs hlt
       go_wp2_with fail
       refine HSo.out.mono ?_
       rintro e w5 ⟨a6,c6,rfl,hown6,hb5⟩
       have hbV5:=RZ hbV hb5
       have hown5:=bd hown8 hb5
       have hI6:=(R6 hown6).1
       have hsz5:=hbV5.size
       obtain ⟨cs,hcs⟩ : ∃cs,dt CC=cs:=⟨_,rfl⟩
       rw [hcs] at hs hI6
       have hl6:=hI6.len
       have hpl6:=hI6.pl
       clear hown6 hown8 hbV hb5 hcs HSo
       go_wp2_with (at_builtin;refine dH rfl _ _ 22 3 rfl (.int .i64 0) 8 underlying22 aU rfl V.heap.size a8 (PT x).length c8 _ rfl hown5 a6 k c6 (cs.map (Value.int .i64)) rfl hpl6 (by simp [hl6]) (Si hI6) (ints_oneCell _ _) (by omega) (by unfold maxLen;omega) hsz5 ?_;intro a10 c10 w7 hown7 hgr7 hap7)
       go_roundw
       case rel=>exact ⟨x+1,a10,c10,by omega,by omega,by go_num,by rw [hs.out,Nl,hl6],by rw [hs.out,Nl,hl6,NM];exact hown7,Sa hbV5 hown5 hgr7 (Na _) hsz5⟩
       case measure=>simp [intOf] <;> omega
theorem xl (P M : Int) (am : OA) (mn cm : Nat) (mod : Lz) (c r k : Int) (w : World) (hmod : Ints w am mn mod) :
  Calls prog 26 #[.agg #[.int .i64 P,.int .i64 M,.slice am mn cm],.int .i64 c,.int .i64 r,.int .i64 k] w (zG P M mod c r k w):=by
 have hmn : bA P M mod=true->mn<=1000000:=λh=>by rw [<- hmod.len];have:=ke h;omega
 have HE1 : Hid (bA P M mod=false->Fh P M mod c r k=1):=MH;have HPe : Hid (∀E w',E ≠ 0->Fh P M mod c r k=E->SW w w'->zG P M mod c r k w (.returned (.tuple #[.agg #[.int .i64 0,.int .i64 0,.slice none 0 0,.int .i64 0,.slice none 0 0],.int .i64 E])) w'):=λE w' h0 h1 h2=>⟨h2,.inl ⟨by rw [h1];exact h0,by rw [h1]⟩⟩
 have HP0 : Hid (∀a1 c1 a2 c2 w',Fh P M mod c r k=0->cR w.heap.size w' a1 mod.length mod->dq w.heap.size w' a2 (J6 P M mod c.toNat r.toNat k.toNat).length (J6 P M mod c.toNat r.toNat k.toNat)->SW w w' ->
   zG P M mod c r k w (.returned (.tuple #[.agg #[.int .i64 P,.int .i64 M,.slice a1 mod.length c1,.int .i64 ((r.toNat+1) * c.toNat : Nat),.slice a2 (J6 P M mod c.toNat r.toNat k.toNat).length c2],.int .i64 0])) w'):=λa1 c1 a2 c2 w' h0 h1 h2 h3=>⟨h3,.inr ⟨h0,a1,c1,a2,c2,rfl,h1,h2⟩⟩
 generalize hPost : zG P M mod c r k w=Post at *;clear hPost;have HCk : Hid (∀V,SW w V->Calls prog 40 #[.agg #[.int .i64 P,.int .i64 M,.slice am mn cm]] V λe w'=>e = .returned (.int .i64 (dF (bA P M mod)))/\SW V w'):=λV hV=>by have h:=oM P M am mn cm mod V (hmod.ah hV);rw [bP] at h;exact h
 have Hmod:=Z5 (Np hmod hmn);clear hmod hmn;go_enter func26,ntmps26;go_upto_region 1 with fail;obtain ⟨W,hW⟩ : ∃W : World,W=((w.alloc (.cells #[.int .i64 P,.int .i64 M,.slice am mn cm] 24)).alloc (.cells #[.int .i64 0,.int .i64 0,.slice none 0 0,.int .i64 0,.slice none 0 0] 27)):=⟨_,rfl⟩
 rw [<- hW];have hbW : SW w W:=by rw [hW];exact ((Nc _ _).alloc (Na _) _).alloc (by simp) _
 have hsW : W.heap.size=w.heap.size+2:=by rw [hW];simp
 have x0 : aN W w.heap.size [.int .i64 P,.int .i64 M,.slice am mn cm]:=by rw [hW];exact (R9 _ _ _ rfl).alloc _
 have z0 : aN W (w.heap.size+1) [.int .i64 0,.int .i64 0,.slice none 0 0,.int .i64 0,.slice none 0 0]:=by rw [hW];exact R9 _ _ _ (by simp)
 clear hW;have HX:=Z5 (Np x0 z0);have HbW:=Z5 hbW;have HsW:=Z5 hsW;have HZ : Hid (∀V,SW W V->V.cell? ⟨w.heap.size+1,0,none⟩=some (.int .i64 0)/\V.cell? ⟨w.heap.size+1,1,none⟩=some (.int .i64 0)/\V.cell? ⟨w.heap.size+1,2,none⟩=some (.slice none 0 0)/\V.cell? ⟨w.heap.size+1,3,none⟩=some (.int .i64 0)/\V.cell? ⟨w.heap.size+1,4,none⟩=some (.slice none 0 0) /\
   V.frozen? ⟨w.heap.size+1,0,none⟩=false/\V.frozen? ⟨w.heap.size+1,1,none⟩=false/\V.frozen? ⟨w.heap.size+1,2,none⟩=false/\V.frozen? ⟨w.heap.size+1,3,none⟩=false/\V.frozen? ⟨w.heap.size+1,4,none⟩=false):=λV hV=>by have z1:=z0.ah hV;exact ⟨z1.cell 0 rfl,z1.cell 1 rfl,z1.cell 2 rfl,z1.cell 3 rfl,z1.cell 4 rfl,z1.frozen 0,z1.frozen 1,z1.frozen 2,z1.frozen 3,z1.frozen 4⟩
 have HEr : Hid (∀E V,SW W V->E ≠ 0->Fh P M mod c r k=E->Post (.returned (.tuple #[.agg #[.int .i64 0,.int .i64 0,.slice none 0 0,.int .i64 0,.slice none 0 0],.int .i64 E])) (((((V.setCell ⟨w.heap.size+1,0,none⟩ (.int .i64 0)).setCell ⟨w.heap.size+1,1,none⟩ (.int .i64 0)).setCell ⟨w.heap.size+1,2,none⟩ (.slice none 0 0)).setCell ⟨w.heap.size+1,3,none⟩ (.int .i64 0)).setCell ⟨w.heap.size+1,4,none⟩ (.slice none 0 0))):=λE V hV h0 h1 =>
  HPe.out E _ h0 h1 (((((RZ hbW hV).setCell (by simp) _).setCell (by simp) _).setCell (by simp) _).setCell (by simp) _ |>.setCell (by simp) _)
 have HZ5 : Hid (∀V,SW W V->(((((V.setCell ⟨w.heap.size+1,0,none⟩ (.int .i64 0)).setCell ⟨w.heap.size+1,1,none⟩ (.int .i64 0)).setCell ⟨w.heap.size+1,2,none⟩ (.slice none 0 0)).setCell ⟨w.heap.size+1,3,none⟩ (.int .i64 0)).setCell ⟨w.heap.size+1,4,none⟩ (.slice none 0 0)).cell? ⟨w.heap.size+1,0,none⟩=some (.int .i64 0)/\(((((V.setCell ⟨w.heap.size+1,0,none⟩ (.int .i64 0)).setCell ⟨w.heap.size+1,1,none⟩ (.int .i64 0)).setCell ⟨w.heap.size+1,2,none⟩ (.slice none 0 0)).setCell ⟨w.heap.size+1,3,none⟩ (.int .i64 0)).setCell ⟨w.heap.size+1,4,none⟩ (.slice none 0 0)).cell? ⟨w.heap.size+1,1,none⟩=some (.int .i64 0)/\(((((V.setCell ⟨w.heap.size+1,0,none⟩ (.int .i64 0)).setCell ⟨w.heap.size+1,1,none⟩ (.int .i64 0)).setCell ⟨w.heap.size+1,2,none⟩ (.slice none 0 0)).setCell ⟨w.heap.size+1,3,none⟩ (.int .i64 0)).setCell ⟨w.heap.size+1,4,none⟩ (.slice none 0 0)).cell? ⟨w.heap.size+1,2,none⟩=some (.slice none 0 0)/\(((((V.setCell ⟨w.heap.size+1,0,none⟩ (.int .i64 0)).setCell ⟨w.heap.size+1,1,none⟩ (.int .i64 0)).setCell ⟨w.heap.size+1,2,none⟩ (.slice none 0 0)).setCell ⟨w.heap.size+1,3,none⟩ (.int .i64 0)).setCell ⟨w.heap.size+1,4,none⟩ (.slice none 0 0)).cell? ⟨w.heap.size+1,3,none⟩=some (.int .i64 0)/\(((((V.setCell ⟨w.heap.size+1,0,none⟩ (.int .i64 0)).setCell ⟨w.heap.size+1,1,none⟩ (.int .i64 0)).setCell ⟨w.heap.size+1,2,none⟩ (.slice none 0 0)).setCell ⟨w.heap.size+1,3,none⟩ (.int .i64 0)).setCell ⟨w.heap.size+1,4,none⟩ (.slice none 0 0)).cell? ⟨w.heap.size+1,4,none⟩=some (.slice none 0 0)):=λV hV=>by have z1:=(((((z0.ah hV).setCell 0 (.int .i64 0)).setCell 1 (.int .i64 0)).setCell 2 (.slice none 0 0)).setCell 3 (.int .i64 0)).setCell 4 (.slice none 0 0);exact ⟨z1.cell 0 rfl,z1.cell 1 rfl,z1.cell 2 rfl,z1.cell 3 rfl,z1.cell 4 rfl⟩
 have HS : Hid (∀V,SW W V->V.cell? ⟨w.heap.size,0,none⟩=some (.int .i64 P)/\V.cell? ⟨w.heap.size,1,none⟩=some (.int .i64 M)/\V.cell? ⟨w.heap.size,2,none⟩=some (.slice am mn cm)):=λV hV=>by have x1:=x0.ah hV;exact ⟨x1.cell 0 rfl,x1.cell 1 rfl,x1.cell 2 rfl⟩
 clear x0 z0 hbW hsW;obtain ⟨c0,c1,c2⟩:=HS.out W (Nc _ _);go_wp2_with fail;refine (HCk.out W HbW.out).mono ?_;rintro e U0 ⟨rfl,hb0⟩;clear c0 c1 c2 HCk;cases hB : bA P M mod
 ·have e1 : ((dF false : Int) != 0)=true:=rfl;have e2 : dF false=1:=rfl;rw [e2] at e1 ⊢;have HF:=Z5 (HEr.out 1 U0 hb0 (by decide) (HE1.out hB));obtain ⟨z0,z1,z2,z3,z4,f0,f1,f2,f3,f4⟩:=HZ.out U0 hb0;obtain ⟨y0,y1,y2,y3,y4⟩:=HZ5.out U0 hb0;clear hB e2;go_wp2_with fail;exact bodyPost_ret (v:=.tuple #[.agg #[.int .i64 0,.int .i64 0,.slice none 0 0,.int .i64 0,.slice none 0 0],.int .i64 1]) (by simp [results,results26,go_sem,y0,y1,y2,y3,y4]) rfl HF.out
 have HB : Hid (bA P M mod=true):=hB;have e2 : dF true=0:=rfl;rw [e2];have HbU0:=Z5 hb0;clear hB hb0 e2 HE1;by_cases h1 : c<1;case pos =>
  have d1 : decide (c<1)=true:=NB h1
  have HF:=Z5 (HEr.out 6 U0 HbU0.out (by decide) (Mp HB.out (.inl h1)))
  obtain ⟨z0,z1,z2,z3,z4,f0,f1,f2,f3,f4⟩:=HZ.out U0 HbU0.out
  obtain ⟨y0,y1,y2,y3,y4⟩:=HZ5.out U0 HbU0.out
  clear h1
  go_wp2_with fail
  exact bodyPost_ret (v:=.tuple #[.agg #[.int .i64 0,.int .i64 0,.slice none 0 0,.int .i64 0,.slice none 0 0],.int .i64 6]) (by simp [results,results26,go_sem,y0,y1,y2,y3,y4]) rfl HF.out
 have d1 : decide (c<1)=false:=NA h1;by_cases h2 : 64<c;case pos =>
  have d2 : decide (64<c)=true:=NB h2
  have HF:=Z5 (HEr.out 6 U0 HbU0.out (by decide) (Mp HB.out (.inr (.inl h2))))
  obtain ⟨z0,z1,z2,z3,z4,f0,f1,f2,f3,f4⟩:=HZ.out U0 HbU0.out
  obtain ⟨y0,y1,y2,y3,y4⟩:=HZ5.out U0 HbU0.out
  clear h1 h2
  go_wp2_with fail
  exact bodyPost_ret (v:=.tuple #[.agg #[.int .i64 0,.int .i64 0,.slice none 0 0,.int .i64 0,.slice none 0 0],.int .i64 6]) (by simp [results,results26,go_sem,y0,y1,y2,y3,y4]) rfl HF.out
 have d2 : decide (64<c)=false:=NA h2;by_cases h3 : r<1;case pos =>
  have d3 : decide (r<1)=true:=NB h3
  have HF:=Z5 (HEr.out 6 U0 HbU0.out (by decide) (Mp HB.out (.inr (.inr (.inl h3)))))
  obtain ⟨z0,z1,z2,z3,z4,f0,f1,f2,f3,f4⟩:=HZ.out U0 HbU0.out
  obtain ⟨y0,y1,y2,y3,y4⟩:=HZ5.out U0 HbU0.out
  clear h1 h2 h3
  go_wp2_with fail
  exact bodyPost_ret (v:=.tuple #[.agg #[.int .i64 0,.int .i64 0,.slice none 0 0,.int .i64 0,.slice none 0 0],.int .i64 6]) (by simp [results,results26,go_sem,y0,y1,y2,y3,y4]) rfl HF.out
 have d3 : decide (r<1)=false:=NA h3;by_cases h4 : 64<r;case pos =>
  have d4 : decide (64<r)=true:=NB h4
  have HF:=Z5 (HEr.out 6 U0 HbU0.out (by decide) (Mp HB.out (.inr (.inr (.inr (.inl h4))))))
  obtain ⟨z0,z1,z2,z3,z4,f0,f1,f2,f3,f4⟩:=HZ.out U0 HbU0.out
  obtain ⟨y0,y1,y2,y3,y4⟩:=HZ5.out U0 HbU0.out
  clear h1 h2 h3 h4
  go_wp2_with fail
  exact bodyPost_ret (v:=.tuple #[.agg #[.int .i64 0,.int .i64 0,.slice none 0 0,.int .i64 0,.slice none 0 0],.int .i64 6]) (by simp [results,results26,go_sem,y0,y1,y2,y3,y4]) rfl HF.out
 have d4 : decide (64<r)=false:=NA h4;by_cases h5 : k<1;case pos =>
  have d5 : decide (k<1)=true:=NB h5
  have HF:=Z5 (HEr.out 6 U0 HbU0.out (by decide) (Mp HB.out (.inr (.inr (.inr (.inr (.inl h5)))))))
  obtain ⟨z0,z1,z2,z3,z4,f0,f1,f2,f3,f4⟩:=HZ.out U0 HbU0.out
  obtain ⟨y0,y1,y2,y3,y4⟩:=HZ5.out U0 HbU0.out
  clear h1 h2 h3 h4 h5
  go_wp2_with fail
  exact bodyPost_ret (v:=.tuple #[.agg #[.int .i64 0,.int .i64 0,.slice none 0 0,.int .i64 0,.slice none 0 0],.int .i64 6]) (by simp [results,results26,go_sem,y0,y1,y2,y3,y4]) rfl HF.out
 have d5 : decide (k<1)=false:=NA h5;by_cases h6 : 64<k;case pos =>
  have d6 : decide (64<k)=true:=NB h6
  have HF:=Z5 (HEr.out 6 U0 HbU0.out (by decide) (Mp HB.out (.inr (.inr (.inr (.inr (.inr h6)))))))
  obtain ⟨z0,z1,z2,z3,z4,f0,f1,f2,f3,f4⟩:=HZ.out U0 HbU0.out
  obtain ⟨y0,y1,y2,y3,y4⟩:=HZ5.out U0 HbU0.out
  clear h1 h2 h3 h4 h5 h6
  go_wp2_with fail
  exact bodyPost_ret (v:=.tuple #[.agg #[.int .i64 0,.int .i64 0,.slice none 0 0,.int .i64 0,.slice none 0 0],.int .i64 6]) (by simp [results,results26,go_sem,y0,y1,y2,y3,y4]) rfl HF.out
 have d6 : decide (64<k)=false:=NA h6;have hc : 1<=c/\c<=64:=by omega
 have hr : 1<=r/\r<=64:=by omega
 have hk : 1<=k/\k<=64:=by omega
 obtain ⟨q,hq⟩ : ∃q,(af P M.toNat mod).q=q:=⟨_,rfl⟩
 have HOr : Hid (∀V,Calls prog 24 #[.agg #[.int .i64 P,.int .i64 M,.slice am mn cm]] V λe w'=>e = .returned (.int .i64 q)/\SW V w'):=λV=>by rw [<- hq];exact vj HB.out am mn cm V
 have hq2 : 2<=q/\q<=256:=by
  have h1 : (1 : Int)<(af P M.toNat mod).q:=(dM HB.out).one.2;have h2 : ((af P M.toNat mod).q : Int)<=256:=by obtain ⟨m1,_,e0,_,h256,_,hqq,_⟩:=ob HB.out;rw [e0,Nb];show (((aJ P m1).toNat : Nat) : Int)<=256;rw [hqq];exact h256
  rw [hq] at h1 h2;omega
 clear h1 h2 h3 h4 h5 h6;obtain ⟨c0,c1,c2⟩:=HS.out U0 HbU0.out;go_wp2_with fail;refine (HOr.out U0).mono ?_;rintro e U ⟨rfl,hbu⟩;have HbU:=Z5 (RZ HbU0.out hbu);clear c0 c1 c2 d1 d2 d3 d4 d5 d6 hbu;obtain ⟨cn,hcn⟩ : ∃n : Nat,c=n:=⟨c.toNat,by omega⟩
 obtain ⟨rn,hrn⟩ : ∃n : Nat,r=n:=⟨r.toNat,by omega⟩
 obtain ⟨kn,hkn⟩ : ∃n : Nat,k=n:=⟨k.toNat,by omega⟩
 obtain ⟨Q,hqQ⟩ : ∃Q,q=Q+1:=⟨q - 1,by omega⟩
 have hin:=LU (c:=cn) (r:=rn) (k:=kn) HB.out (hq.trans hqQ) (by omega) (by omega) (by omega);rw [<- hcn,<- hrn,<- hkn] at hin;obtain ⟨R,hR⟩ : ∃R,rn+1=R:=⟨_,rfl⟩
 rw [hR] at hin;obtain ⟨x1,hx1⟩ : ∃x,Q % R=x:=⟨_,rfl⟩
 obtain ⟨yq,hy1⟩ : ∃x,Q / R=x:=⟨_,rfl⟩
 obtain ⟨Z1,hZ1⟩ : ∃x,cn * R=x:=⟨_,rfl⟩
 obtain ⟨Z2,hZ2⟩ : ∃x,cn * rn=x:=⟨_,rfl⟩
 rw [hx1,hy1,hZ1,hZ2] at hin;have hyQ : yq<=Q:=by rw [<- hy1];exact PG _ _
 have hZ1b : Z1<=64 * 65:=by rw [<- hZ1];exact PU (by omega) (by omega)
 have hZ2b : Z2<=64 * 64:=by rw [<- hZ2];exact PU (by omega) (by omega)
 obtain ⟨Ri,hRi⟩ : ∃Ri : Int,Ri=(R : Int):=⟨_,rfl⟩
 obtain ⟨Qi,hQi⟩ : ∃Qi : Int,Qi=(Q : Int):=⟨_,rfl⟩
 obtain ⟨xi,hxi⟩ : ∃xi : Int,xi=(x1 : Int):=⟨_,rfl⟩
 obtain ⟨yi,hyi⟩ : ∃yi : Int,yi=(yq : Int):=⟨_,rfl⟩
 obtain ⟨zi,hzi⟩ : ∃zi : Int,zi=(Z1 : Int):=⟨_,rfl⟩
 obtain ⟨ti,hti⟩ : ∃ti : Int,ti=(Z2 : Int):=⟨_,rfl⟩
 have wR : IntKind.i64.wrap (r+1)=Ri:=by rw [show r+1=Ri by omega];exact Ns _ (by omega)
 have wQ : IntKind.i64.wrap ((q : Int) - 1)=Qi:=by rw [show (q : Int) - 1=Qi by omega];exact Ns _ (by omega)
 have hR0 : (Ri == 0)=false:=by rw [beq_eq_false_iff_ne];omega
 have hR0p : Ri ≠ 0:=by omega
 have tx : Qi.tmod Ri=xi:=by rw [hRi,hQi,hxi,Ow (by omega),<- hx1];simp
 have ty : Qi.tdiv Ri=yi:=by rw [hRi,hQi,hyi,PO (by omega),<- hy1];simp
 have wy : IntKind.i64.wrap yi=yi:=Ns _ (by omega);have wZ1 : IntKind.i64.wrap (c * Ri)=zi:=by rw [show c * Ri=zi by rw [hcn,hRi,hzi,<- hZ1];simp];exact Ns _ (by omega)
 have wZ2 : IntKind.i64.wrap (c * r)=ti:=by rw [show c * r=ti by rw [hcn,hrn,hti,<- hZ2];simp];exact Ns _ (by omega)
 have hin:=Z5 hin;have HDef:=Z5 (Np hR (Np hx1 (Np hy1 (Np hZ1 hZ2))));have HRi:=Z5 (Np hRi (Np hQi (Np hqQ (Np hxi (Np hyi (Np hzi hti))))));have HNum:=Z5 (Np hc (Np hr (Np hk (Np hyQ (Np hZ1b (Np hZ2b (Np hq (Np hq2 (Np hcn (Np hrn hkn))))))))));have HD1 : Hid (xi ≠ 0->x1 ≠ 0):=λh h2=>h (by omega);have HD2 : Hid (yi<c ↔ yq<cn):=by show _ ↔ _;omega
 have HD3 : Hid (64<zi ↔ 64<Z1):=by show _ ↔ _;omega
 have HD4 : Hid (ti<k ↔ Z2<kn):=by show _ ↔ _;omega
 clear hR hx1 hy1 hZ1 hZ2 hRi hQi hqQ hc hr hk hyQ hZ1b hZ2b hq hq2 hxi hyi hzi hti hcn hrn hkn;by_cases h1 : xi=0;case neg =>
  have d1 : (xi != 0)=true:=by simp;omega
  have HF:=Z5 (HEr.out 10 U HbU.out (by decide) (by rw [hin.out,Nd (.inl (HD1.out h1))]))
  obtain ⟨z0,z1,z2,z3,z4,f0,f1,f2,f3,f4⟩:=HZ.out U HbU.out
  obtain ⟨y0,y1,y2,y3,y4⟩:=HZ5.out U HbU.out
  clear h1
  go_wp2_with fail
  exact bodyPost_ret (v:=.tuple #[.agg #[.int .i64 0,.int .i64 0,.slice none 0 0,.int .i64 0,.slice none 0 0],.int .i64 10]) (by simp [results,results26,go_sem,y0,y1,y2,y3,y4]) rfl HF.out
 have d1 : (xi != 0)=false:=by simp;omega
 by_cases h2 : yi<c;case pos =>
  have d2 : decide (yi<c)=true:=NB h2
  have HF:=Z5 (HEr.out 10 U HbU.out (by decide) (by rw [hin.out,Nd (.inr (HD2.out.1 h2))]))
  obtain ⟨z0,z1,z2,z3,z4,f0,f1,f2,f3,f4⟩:=HZ.out U HbU.out
  obtain ⟨y0,y1,y2,y3,y4⟩:=HZ5.out U HbU.out
  clear h1 h2
  go_wp2_with fail
  exact bodyPost_ret (v:=.tuple #[.agg #[.int .i64 0,.int .i64 0,.slice none 0 0,.int .i64 0,.slice none 0 0],.int .i64 10]) (by simp [results,results26,go_sem,y0,y1,y2,y3,y4]) rfl HF.out
 have d2 : decide (yi<c)=false:=NA h2;have hx10 : x1=0:=by have:=HRi.out.2.2.2.1;omega
 have hin2:=hin.out;rw [Nf (by rintro (h | h);exact h hx10;exact h2 (HD2.out.2 h))] at hin2;by_cases h3 : 64<zi;case pos =>
  have d3 : decide (64<zi)=true:=NB h3
  have HF:=Z5 (HEr.out 4 U HbU.out (by decide) (by rw [hin2,Nd (HD3.out.1 h3)]))
  obtain ⟨z0,z1,z2,z3,z4,f0,f1,f2,f3,f4⟩:=HZ.out U HbU.out
  obtain ⟨y0,y1,y2,y3,y4⟩:=HZ5.out U HbU.out
  clear h1 h2 h3 hin2 hx10
  go_wp2_with fail
  exact bodyPost_ret (v:=.tuple #[.agg #[.int .i64 0,.int .i64 0,.slice none 0 0,.int .i64 0,.slice none 0 0],.int .i64 4]) (by simp [results,results26,go_sem,y0,y1,y2,y3,y4]) rfl HF.out
 have d3 : decide (64<zi)=false:=NA h3;rw [Nf λh=>h3 (HD3.out.2 h)] at hin2;by_cases h4 : ti<k;case pos =>
  have d4 : decide (ti<k)=true:=NB h4
  have HF:=Z5 (HEr.out 9 U HbU.out (by decide) (by rw [hin2,Nd (HD4.out.1 h4)]))
  obtain ⟨z0,z1,z2,z3,z4,f0,f1,f2,f3,f4⟩:=HZ.out U HbU.out
  obtain ⟨y0,y1,y2,y3,y4⟩:=HZ5.out U HbU.out
  clear h1 h2 h3 h4 hin2 hx10
  go_wp2_with fail
  exact bodyPost_ret (v:=.tuple #[.agg #[.int .i64 0,.int .i64 0,.slice none 0 0,.int .i64 0,.slice none 0 0],.int .i64 9]) (by simp [results,results26,go_sem,y0,y1,y2,y3,y4]) rfl HF.out
 have d4 : decide (ti<k)=false:=NA h4;rw [Nf λh=>h4 (HD4.out.2 h)] at hin2;have HE0:=Z5 hin2;clear hin2;have HS13:=Z5 (Np h1 (Np h2 (Np h3 (Np h4 hx10))));clear h1 h2 h3 h4 hx10;go_upto_region 13 with fail;clear tx ty wy wZ2 d1 d2 d3 d4 hR0 hR0p wQ;obtain ⟨hc,hr,hk,hyQ,hZ1b,hZ2b,hq,hq2,hcn,hrn,hkn⟩:=HNum.out;obtain ⟨hRi,hQi,hqQ,hxi,hyi,hzi,hti⟩:=HRi.out;obtain ⟨h1,h2,h3,h4,hx10⟩:=HS13.out;obtain ⟨e1,e2,e3,e4,e5⟩:=HDef.out;clear HNum HRi HS13 HDef HD1 HD2 HD3 HD4 hin;have hplan:=KZ (k:=0) (c:=cn) HB.out (hq.trans hqQ) (r:=rn) (by omega) (by rw [e1,e2];exact hx10) (by rw [e1,e3];omega);rw [e1] at hplan;have hN : R * cn=Z1:=by rw [Oe];exact e4
 rw [hN] at hplan;have HtbS : Hid (J6 P M mod c.toNat r.toNat k.toNat=bZ (af P M.toNat mod).ops Z1 (kr (af P M.toNat mod).ops (CZ (af P M.toNat mod).ops (af P M.toNat mod).q rn cn) (ju rn) kn)):=by show _=_;rw [hcn,hrn,hkn,Nb,Nb,Nb,J6,L6,e1,hN]
 have HNN : Hid ((r.toNat+1) * c.toNat=Z1):=by show _=_;rw [hcn,hrn,Nb,Nb,e1,hN]
 obtain ⟨g1,g2,g3,g4,g5,g6⟩:=hplan;have HFl:=Z5 (dM HB.out);have HZN : Hid (1<=Z1/\Z1<=64):=by refine ⟨?_,by omega⟩;have:=PU (show 1<=R by omega) (show 1<=cn by omega);omega
 have HPo : Hid (∀V,SW w V->Calls prog 69 #[.agg #[.int .i64 P,.int .i64 M,.slice am mn cm],.int .i64 c,.int .i64 r] V λe w'=>∃a1 c1,e = .returned (.slice a1 Z1 c1)/\Ints w' a1 Z1 (CZ (af P M.toNat mod).ops (af P M.toNat mod).q rn cn)/\SW V w'):=λV hV=>by have h:=bz HB.out am mn cm c r cn rn Q V (Hmod.out.1.ah hV) hcn hrn (hq.trans hqQ) (by omega) (by omega) (by omega) (by omega) (by rw [e1,e2];exact hx10) (by rw [e1,e3];omega);rw [e1,hN] at h;exact h
 have HEx : Hid (∀V,Calls prog 70 #[.int .i64 r,.int .i64 k] V λe w'=>∃a c,e = .returned (.slice a kn c)/\w'.ownsRow V.heap.size 3 1 (.slice a kn c) kn ((zo rn kn).map (Value.int .i64))/\SW V w'):=λV=>ik r k rn kn V hrn hkn (by omega) (by omega) (by omega);have HPw : Hid (∀V x (n : Nat),SW w V->(af P M.toNat mod).El x->x ≠ 0->n<=1000000->Calls prog 71 #[.agg #[.int .i64 P,.int .i64 M,.slice am mn cm],.int .i64 x,.int .i64 n] V λe w'=>e = .returned (.tuple #[.int .i64 (iE (af P M.toNat mod).ops x n),.int .i64 0])/\SW V w'):=λV x n hV h5 h6 h7=>et HB.out am mn cm x n V (Hmod.out.1.ah hV) h5 h6 h7;have HEv : Hid (∀i,i<kn->nth (zo rn kn) i=(ju rn i : Int)/\ju rn i<=1000000):=λi hi=>by refine ⟨by unfold zo;exact eO _ _ _ hi,?_⟩;unfold ju;have:=PG i rn;omega
 obtain ⟨X,hX⟩ : ∃X,CZ (af P M.toNat mod).ops (af P M.toNat mod).q rn cn=X:=⟨_,rfl⟩
 rw [hX] at g4 g5 HtbS HPo;have HXe : Hid (∀t,t<Z1->(af P M.toNat mod).El (nth X t)/\nth X t ≠ 0):=λt ht=>g5 _ (aH (by rw [g4];exact ht));have HXl : Hid (X.length=Z1):=g4;have HLt : Hid (∀i,kr (af P M.toNat mod).ops X (ju rn) (i+1)=kr (af P M.toNat mod).ops X (ju rn) i ++ [X.map λx=>iE (af P M.toNat mod).ops x (ju rn i)]):=λi=>GB X _ i;have HRws : Hid (bp (af P M.toNat mod).El Z1 (kr (af P M.toNat mod).ops X (ju rn) kn)):=by have h:=r8 (O:=(af P M.toNat mod).ops) HFl.out (X:=X) (λx hx=>(g5 x hx).1) (E:=ju rn) (k:=kn);rw [g4] at h;exact h
 obtain ⟨LL,hLL⟩ : ∃f,kr (af P M.toNat mod).ops X (ju rn)=f:=⟨_,rfl⟩
 have hL0 : LL 0=[]:=by rw [<- hLL];rfl
 rw [hLL] at HtbS HLt HRws;obtain ⟨S,hS⟩ : ∃S,bZ (af P M.toNat mod).ops Z1 (LL kn)=S:=⟨_,rfl⟩
 rw [hS] at HtbS;have HMk : Hid (∀V a c,SW w V->br V a kn (LL kn)->Calls prog 72 #[.agg #[.int .i64 P,.int .i64 M,.slice am mn cm],.slice a kn c,.int .i64 Z1] V λe w'=>∃a1 c1 a2 c2,e = .returned (.agg #[.int .i64 P,.int .i64 M,.slice a1 mod.length c1,.int .i64 Z1,.slice a2 S.length c2])/\cR V.heap.size w' a1 mod.length mod/\dq V.heap.size w' a2 S.length S/\SW V w'):=λV a c hV hM=>by have h:=pj P M am mn cm mod Z1 a kn c (LL kn) V (Hmod.out.1.ah hV) hM HB.out HRws.out (by omega) (by omega) (Hmod.out.2 HB.out);unfold pW at h;have e : dc (af P M.toNat mod) (LL kn) Z1=S:=hS;rw [e] at h;exact h
 have HPF:=HP0.out;rw [HNN.out,HtbS.out] at HPF;have HPF:=Z5 HPF;obtain ⟨El,hEl⟩ : ∃E,(af P M.toNat mod).El=E:=⟨_,rfl⟩
 rw [hEl] at HXe HPw;obtain ⟨pw,hpw⟩ : ∃f : Int->Nat->Int,iE (af P M.toNat mod).ops=f:=⟨_,rfl⟩
 rw [hpw] at HPw HLt;obtain ⟨ex,hex⟩ : ∃f : Nat->Nat,ju rn=f:=⟨_,rfl⟩
 rw [hex] at HLt HEv;obtain ⟨XS,hXS⟩ : ∃l,zo rn kn=l:=⟨_,rfl⟩
 rw [hXS] at HEx HEv;have hkn64 : kn<=64:=by omega
 have hZ64:=HZN.out.2;clear g1 g2 g3 g4 g5 g6 hX hLL hS hEl hpw hex hXS e1 e2 e3 e4 e5 hN hc hr hk hyQ hZ1b hZ2b hq hq2 hRi hQi hqQ hxi hyi hzi hti h1 h2 h3 h4 hx10 HP0 HRws HtbS HNN HFl HOr HEr HZ5 hcn hrn hkn wR wZ1;obtain ⟨c0,c1,c2⟩:=HS.out U HbU.out;go_wp2_with fail;refine (HPo.out U (RZ HbW.out HbU.out)).mono ?_;rintro e U1 ⟨ap,cp,rfl,hIp,hb1⟩;go_wp2_with fail;refine (HEx.out U1).mono ?_;rintro e V0 ⟨ae,ce,rfl,hIe,hb2⟩;have HbV:=Z5 (RZ HbU.out (RZ hb1 hb2));have HIp:=Z5 (hIp.ah hb2);have HIe:=Z5 (R6 hIe).1;have hplp:=hIp.pl;have hple:=(R6 hIe).1.pl;clear c0 c1 c2 hIp hIe hb1 hb2 HPo HEx;go_wp2_with fail;go_loopw [14,15] (λsv iv wr=>∃(i : Nat) (a4 : OA) (c4 : Nat),i<=kn/\iv = .int .i64 i/\sv = .slice a4 i c4/\(∃Rr,aT wr V0.heap.size a4 i c4 Rr (LL i))/\SW V0 wr) (λ_ iv _=>kn - (intOf iv).toNat);case atStart=>exact ⟨0,none,0,Ni _,rfl,rfl,⟨[],by rw [hL0];exact aT.B4 _ _⟩,Nc _ _⟩
 case round =>
  obtain ⟨i,a4,c4,hik,rfl,rfl,⟨Rr,hO⟩,hbr⟩:=hrel
  generalize wr=V1 at *
  by_cases hlt : i<kn
  ·have hLs:=Z5 (HLt.out i)
   obtain ⟨hev,hei⟩:=HEv.out i hlt
   obtain ⟨n,hn⟩ : ∃n,ex i=n:=⟨_,rfl⟩
   rw [hn] at hev hei hLs
   obtain ⟨rr,hrr⟩ : ∃l,(X.map λx=>pw x n)=l:=⟨_,rfl⟩
   rw [hrr] at hLs
   have Hrl : Hid (rr.length=Z1):=by show _=_;rw [<- hrr,Nq];exact HXl.out
   have Hrt : Hid (∀t,t<Z1->rr.take (t+1)=rr.take t ++ [pw (nth X t) n]):=λt ht=>by rw [Nj (by rw [Hrl.out];exact ht)];congr 2;subst hrr;rw [NZ,<- aj (by rw [HXl.out];exact ht)]
   have HO:=Z5 (Np hO hbr)
   have Hev:=Z5 (Np hev hei)
   clear hn hrr hO hev hei
   go_wp2_with fail
   go_loopw [16,17] (λrv jv ws=>∃(t : Nat) (a6 : OA) (c6 : Nat),t<=Z1/\jv = .int .i64 t/\rv = .slice a6 t c6/\ws.ownsRow V1.heap.size 3 1 (.slice a6 t c6) t ((rr.take t).map (Value.int .i64))/\SW V1 ws) (λ_ jv _=>Z1 - (intOf jv).toNat)
   case atStart=>exact ⟨0,none,0,Ni _,rfl,rfl,⟨rfl,.inl ⟨rfl,rfl⟩⟩,Nc _ _⟩
   case round =>
    obtain ⟨t,a6,c6,ht,rfl,rfl,hown,hbt⟩:=hrel
    generalize wr=Y at *
    by_cases hltt : t<Z1
    ·have HS3 : Hid (∀V,SW V1 V->V.cell? ⟨w.heap.size,0,none⟩=some (.int .i64 P)/\V.cell? ⟨w.heap.size,1,none⟩=some (.int .i64 M)/\V.cell? ⟨w.heap.size,2,none⟩=some (.slice am mn cm)/\V.cell? ⟨ablk ap,aK ap+t,none⟩=some (.int .i64 (nth X t))/\V.cell? ⟨ablk ae,aK ae+i,none⟩=some (.int .i64 (n : Int))/\SW V1 V):=λV hV=>by have hV0:=RZ HO.out.2 hV;obtain ⟨y0,y1,y2⟩:=HS.out V (RZ HbV.out hV0);have ce:=(HIe.out.ah hV0).cell i hlt;rw [Hev.out.1] at ce;exact ⟨y0,y1,y2,(HIp.out.ah hV0).cell t hltt,ce,hV⟩
     obtain ⟨hxe,hx0⟩:=HXe.out t hltt
     have hst:=Z5 (Hrt.out t hltt)
     obtain ⟨x,hx⟩ : ∃x,nth X t=x:=⟨_,rfl⟩
     rw [hx] at HS3 hxe hx0 hst
     have HP3:=Z5 (λV (hV : SW V1 V)=>HPw.out V x n (RZ HbW.out (RZ HbV.out (RZ HO.out.2 hV))) hxe hx0 Hev.out.2)
     obtain ⟨yv,hyv⟩ : ∃z,pw x n=z:=⟨_,rfl⟩
     rw [hyv] at HP3 hst
     have hk1 : (i : Int)<kn:=by omega
     have ht1 : (t : Int)<Z1:=by omega
     have HOw:=Z5 (Np hown hbt)
     clear hx hyv hxe hx0 hown
     obtain ⟨b0,b1,b2,b3,b4,_⟩:=HS3.out Y hbt
     go_upto_region 23 with fail
     go_cut [18,19] (λv u wx=>v = .int .i64 yv/\u = .int .i64 0/\SW Y wx)
     case first =>
      go_region_held3 (λV=>V.cell? ⟨w.heap.size,0,none⟩=some (.int .i64 P)/\V.cell? ⟨w.heap.size,1,none⟩=some (.int .i64 M)/\V.cell? ⟨w.heap.size,2,none⟩=some (.slice am mn cm)/\V.cell? ⟨ablk ap,aK ap+t,none⟩=some (.int .i64 x)/\V.cell? ⟨ablk ae,aK ae+i,none⟩=some (.int .i64 (n : Int))/\SW V1 V)
       ((with_reducible refine HS3.out _ ?_;first | (with_reducible assumption) | (with_reducible exact hbt.drew) | (with_reducible exact RZ (by assumption) (by assumption)) | (go_split_ands;first | (with_reducible assumption) | (with_reducible exact Rl (by assumption)))))
       (first
        | (go_at_call 71;((with_reducible refine (HP3.out _ (by first | (with_reducible exact hbt.drew) | (go_split_ands;assumption))).mono ?_);rintro e w4 ⟨rfl,hb4⟩;have hb4w : SW Y w4:=RZ (Nc _ _).drew hb4;have hB4 : SW V1 w4:=RZ hbt hb4w)))
      all_goals (
       go_wp2_with fail
       go_meet
       exact ⟨rfl,rfl,by assumption⟩)
     obtain ⟨rfl,rfl,hbY⟩:=hcut
     generalize wc=Z at *
     have hbt2:=RZ HOw.out.2 hbY
     have hown2:=bd HOw.out.1 hbY
     have hcn:=ba Z (.int .i64 yv) 3
     have hbn:=an Z (.cells #[.int .i64 yv] 3)
     have hsz:=hbt2.size
     clear b0 b1 b2 b3 b4 hbt
     go_wp2_with (at_builtin;refine aO rfl _ _ 22 3 rfl (.int .i64 0) 8 underlying22 aU rfl V1.heap.size a6 t c6 _ rfl (hown2.alloc _) ⟨Z.heap.size,0,none⟩ 1 (.int .i64 yv) rfl hcn rfl (by omega) (by unfold maxLen;omega) (by simp;omega) ?_;intro a7 c7 w7 hown7 hgr7 hap7)
     go_roundw
     case rel =>
      refine ⟨t+1,a7,c7,by omega,by go_num,rfl,?_,Sa (N2 hbt2 (hbn.mono hsz)) (hown2.alloc _) hgr7 (Na _) (Nr hsz hbn.size)⟩
      rw [hst.out,NM];exact hown7
     case measure=>simp [intOf] <;> omega
    ·obtain rfl : t=Z1:=by omega
     rw [No (by rw [Hrl.out];exact Na _)] at hown
     have hO3:=HO.out.1.ah (RZ hbt (an Y (.cells #[.slice a6 t c6] 22)))
     have hsz:=HO.out.2.size
     have hs3 : V0.heap.size<=(Y.alloc (.cells #[.slice a6 t c6] 22)).heap.size:=by have h1:=hbt.size;simp;omega
     go_wp2_with (at_builtin;refine aO rfl _ _ 25 22 rfl (.slice none 0 0) 24 underlying25 df rfl V0.heap.size a4 i c4 _ rfl hO3.own ⟨Y.heap.size,0,none⟩ 1 (.slice a6 t c6) rfl (ba Y _ _) rfl (by omega) (by unfold maxLen;omega) hs3 ?_;intro a5 c5 w5 hown5 hgr5 hap5)
     go_roundw
     case rel =>
      have hb4 : SW V1 (Y.alloc (.cells #[.slice a6 t c6] 22)):=RZ hbt (an _ _)
      have hown4 : (Y.alloc (.cells #[.slice a6 t c6] 22)).ownsRow V0.heap.size 3 1 (.slice a6 rr.length c6) rr.length (rr.map (Value.int .i64)):=by rw [Hrl.out];exact aX (bd hown (an _ _)) hsz
      have hra : a6 ≠ none->¬ cU a4 Rr (ablk a6):=λh0 hI=>by have h1:=(aY hown h0).1;have h2:=(HO.out.1.lt _ hI).2;omega
      have hP:=Sk hO3 hown4 hra (by rw [Hrl.out];exact hown5) hgr5 hap5
      have hb5 : SW V0 w5:=Sa (RZ HO.out.2 hb4) hO3.own hgr5 (Na _) (Nr hsz hb4.size)
      exact ⟨i+1,a5,c5,by omega,by go_num,rfl,⟨_,by rw [hLs.out];exact hP⟩,hb5⟩
     case measure=>simp [intOf] <;> omega
  ·obtain rfl : i=kn:=by omega
   have hbE:=RZ HbV.out hbr
   have HMx:=Z5 (HMk.out V1 a4 c4 (RZ HbW.out hbE) hO.jt)
   have HbE:=Z5 hbE
   obtain ⟨c0,c1,c2⟩:=HS.out V1 hbE
   clear hO hbr hbE
   go_wp2_with fail
   refine HMx.out.mono ?_
   rintro e w6 ⟨b1,d1',b2,d2',rfl,hI6,hM6,hb6⟩
   have hbF:=RZ HbE.out hb6
   have hsz:=HbE.out.size
   have hsW:=HsW.out
   obtain ⟨z0,z1,z2,z3,z4,f0,f1,f2,f3,f4⟩:=HZ.out w6 hbF
   have zz:=(((((HX.out.2.ah hbF).setCell 0 (.int .i64 P)).setCell 1 (.int .i64 M)).setCell 2 (.slice b1 mod.length d1')).setCell 3 (.int .i64 Z1)).setCell 4 (.slice b2 S.length d2')
   have y0:=zz.cell 0 rfl
   have y1:=zz.cell 1 rfl
   have y2:=zz.cell 2 rfl
   have y3:=zz.cell 3 rfl
   have y4:=zz.cell 4 rfl
   have HF:=Z5 (HPF.out b1 d1' b2 d2' (((((w6.setCell ⟨w.heap.size+1,0,none⟩ (.int .i64 P)).setCell ⟨w.heap.size+1,1,none⟩ (.int .i64 M)).setCell ⟨w.heap.size+1,2,none⟩ (.slice b1 mod.length d1')).setCell ⟨w.heap.size+1,3,none⟩ (.int .i64 Z1)).setCell ⟨w.heap.size+1,4,none⟩ (.slice b2 S.length d2')) HE0.out
    ((((((hI6.setCell (p:=⟨w.heap.size+1,0,none⟩) (by simp;omega) _).setCell (p:=⟨w.heap.size+1,1,none⟩) (by simp;omega) _).setCell (p:=⟨w.heap.size+1,2,none⟩) (by simp;omega) _).setCell (p:=⟨w.heap.size+1,3,none⟩) (by simp;omega) _).setCell (p:=⟨w.heap.size+1,4,none⟩) (by simp;omega) _).mono (by omega))
    ((((((hM6.setCell (p:=⟨w.heap.size+1,0,none⟩) (by simp;omega) _).setCell (p:=⟨w.heap.size+1,1,none⟩) (by simp;omega) _).setCell (p:=⟨w.heap.size+1,2,none⟩) (by simp;omega) _).setCell (p:=⟨w.heap.size+1,3,none⟩) (by simp;omega) _).setCell (p:=⟨w.heap.size+1,4,none⟩) (by simp;omega) _).mono (by omega))
    ((((((RZ HbW.out hbF).setCell (p:=⟨w.heap.size+1,0,none⟩) (by simp) _).setCell (p:=⟨w.heap.size+1,1,none⟩) (by simp) _).setCell (p:=⟨w.heap.size+1,2,none⟩) (by simp) _).setCell (p:=⟨w.heap.size+1,3,none⟩) (by simp) _).setCell (p:=⟨w.heap.size+1,4,none⟩) (by simp) _))
   clear hI6 hM6 hb6 hbF zz c0 c1 c2
   go_wp2_with fail
   exact bodyPost_ret (v:=.tuple #[.agg #[.int .i64 P,.int .i64 M,.slice b1 mod.length d1',.int .i64 Z1,.slice b2 S.length d2'],.int .i64 0]) (by simp [results,results26,go_sem,y0,y1,y2,y3,y4]) rfl HF.out
theorem rk (P M : Int) (am : OA) (mn cm : Nat) (mod : Lz) (c r k : Int) (w : World) (hmod : Ints w am mn mod) :
  Calls prog 25 #[.agg #[.int .i64 P,.int .i64 M,.slice am mn cm],.int .i64 c,.int .i64 r,.int .i64 k] w (zG P M mod c r k w):=by
 by_cases hB0 : bA P M mod=true
 ·exact Jg P M am mn cm mod c r k w hmod (by rw [<- hmod.len];have:=ke hB0;omega)
 ·have HNB:=Z5 hB0;clear hB0;have HNew : Hid (∀V,SW w V->Calls prog 52 #[.agg #[.int .i64 P,.int .i64 M,.slice am mn cm]] V (E2 P M mod V)):=λV hV=>ef P M am mn cm mod V (hmod.ah hV);have HE1 : Hid (bA P M mod=false->Fh P M mod c r k=1):=MH;have HPe : Hid (∀E w',E ≠ 0->Fh P M mod c r k=E->SW w w'->zG P M mod c r k w (.returned (.tuple #[.agg #[.int .i64 0,.int .i64 0,.slice none 0 0,.int .i64 0,.slice none 0 0],.int .i64 E])) w'):=λE w' h0 h1 h2=>⟨h2,.inl ⟨by rw [h1];exact h0,by rw [h1]⟩⟩
  generalize hPost : zG P M mod c r k w=Post at *;clear hPost;have HBt : Hid (∀n V,Calls prog 64 #[.int .i64 n] V λe w'=>e = .returned (.bool (decide (1<=n) && decide (n<=64)))/\w'=V):=xZ;clear hmod;go_enter func25,ntmps25;go_upto_region 1 with fail;obtain ⟨W,hW⟩ : ∃W : World,W=((w.alloc (.cells #[.int .i64 P,.int .i64 M,.slice am mn cm] 24)).alloc (.cells #[.int .i64 0,.int .i64 0,.slice none 0 0,.int .i64 0,.slice none 0 0] 27)):=⟨_,rfl⟩
  rw [<- hW];have hbW : SW w W:=by rw [hW];exact ((Nc _ _).alloc (Na _) _).alloc (by simp) _
  have hsW : W.heap.size=w.heap.size+2:=by rw [hW];simp
  have x0 : aN W w.heap.size [.int .i64 P,.int .i64 M,.slice am mn cm]:=by rw [hW];exact (R9 _ _ _ rfl).alloc _
  have z0 : aN W (w.heap.size+1) [.int .i64 0,.int .i64 0,.slice none 0 0,.int .i64 0,.slice none 0 0]:=by rw [hW];exact R9 _ _ _ (by simp)
  clear hW;have HX:=Z5 (Np x0 z0);have HbW:=Z5 hbW;have HsW:=Z5 hsW;have HZ : Hid (∀V,SW W V->V.cell? ⟨w.heap.size+1,0,none⟩=some (.int .i64 0)/\V.cell? ⟨w.heap.size+1,1,none⟩=some (.int .i64 0)/\V.cell? ⟨w.heap.size+1,2,none⟩=some (.slice none 0 0)/\V.cell? ⟨w.heap.size+1,3,none⟩=some (.int .i64 0)/\V.cell? ⟨w.heap.size+1,4,none⟩=some (.slice none 0 0) /\
    V.frozen? ⟨w.heap.size+1,0,none⟩=false/\V.frozen? ⟨w.heap.size+1,1,none⟩=false/\V.frozen? ⟨w.heap.size+1,2,none⟩=false/\V.frozen? ⟨w.heap.size+1,3,none⟩=false/\V.frozen? ⟨w.heap.size+1,4,none⟩=false):=λV hV=>by have z1:=z0.ah hV;exact ⟨z1.cell 0 rfl,z1.cell 1 rfl,z1.cell 2 rfl,z1.cell 3 rfl,z1.cell 4 rfl,z1.frozen 0,z1.frozen 1,z1.frozen 2,z1.frozen 3,z1.frozen 4⟩
  have HEr : Hid (∀E V,SW W V->E ≠ 0->Fh P M mod c r k=E->Post (.returned (.tuple #[.agg #[.int .i64 0,.int .i64 0,.slice none 0 0,.int .i64 0,.slice none 0 0],.int .i64 E])) (((((V.setCell ⟨w.heap.size+1,0,none⟩ (.int .i64 0)).setCell ⟨w.heap.size+1,1,none⟩ (.int .i64 0)).setCell ⟨w.heap.size+1,2,none⟩ (.slice none 0 0)).setCell ⟨w.heap.size+1,3,none⟩ (.int .i64 0)).setCell ⟨w.heap.size+1,4,none⟩ (.slice none 0 0))):=λE V hV h0 h1 =>
   HPe.out E _ h0 h1 (((((RZ hbW hV).setCell (by simp) _).setCell (by simp) _).setCell (by simp) _).setCell (by simp) _ |>.setCell (by simp) _)
  have HZ5 : Hid (∀V,SW W V->(((((V.setCell ⟨w.heap.size+1,0,none⟩ (.int .i64 0)).setCell ⟨w.heap.size+1,1,none⟩ (.int .i64 0)).setCell ⟨w.heap.size+1,2,none⟩ (.slice none 0 0)).setCell ⟨w.heap.size+1,3,none⟩ (.int .i64 0)).setCell ⟨w.heap.size+1,4,none⟩ (.slice none 0 0)).cell? ⟨w.heap.size+1,0,none⟩=some (.int .i64 0)/\(((((V.setCell ⟨w.heap.size+1,0,none⟩ (.int .i64 0)).setCell ⟨w.heap.size+1,1,none⟩ (.int .i64 0)).setCell ⟨w.heap.size+1,2,none⟩ (.slice none 0 0)).setCell ⟨w.heap.size+1,3,none⟩ (.int .i64 0)).setCell ⟨w.heap.size+1,4,none⟩ (.slice none 0 0)).cell? ⟨w.heap.size+1,1,none⟩=some (.int .i64 0)/\(((((V.setCell ⟨w.heap.size+1,0,none⟩ (.int .i64 0)).setCell ⟨w.heap.size+1,1,none⟩ (.int .i64 0)).setCell ⟨w.heap.size+1,2,none⟩ (.slice none 0 0)).setCell ⟨w.heap.size+1,3,none⟩ (.int .i64 0)).setCell ⟨w.heap.size+1,4,none⟩ (.slice none 0 0)).cell? ⟨w.heap.size+1,2,none⟩=some (.slice none 0 0)/\(((((V.setCell ⟨w.heap.size+1,0,none⟩ (.int .i64 0)).setCell ⟨w.heap.size+1,1,none⟩ (.int .i64 0)).setCell ⟨w.heap.size+1,2,none⟩ (.slice none 0 0)).setCell ⟨w.heap.size+1,3,none⟩ (.int .i64 0)).setCell ⟨w.heap.size+1,4,none⟩ (.slice none 0 0)).cell? ⟨w.heap.size+1,3,none⟩=some (.int .i64 0)/\(((((V.setCell ⟨w.heap.size+1,0,none⟩ (.int .i64 0)).setCell ⟨w.heap.size+1,1,none⟩ (.int .i64 0)).setCell ⟨w.heap.size+1,2,none⟩ (.slice none 0 0)).setCell ⟨w.heap.size+1,3,none⟩ (.int .i64 0)).setCell ⟨w.heap.size+1,4,none⟩ (.slice none 0 0)).cell? ⟨w.heap.size+1,4,none⟩=some (.slice none 0 0)):=λV hV=>by have z1:=(((((z0.ah hV).setCell 0 (.int .i64 0)).setCell 1 (.int .i64 0)).setCell 2 (.slice none 0 0)).setCell 3 (.int .i64 0)).setCell 4 (.slice none 0 0);exact ⟨z1.cell 0 rfl,z1.cell 1 rfl,z1.cell 2 rfl,z1.cell 3 rfl,z1.cell 4 rfl⟩
  have c0:=x0.cell 0 rfl;have c1:=x0.cell 1 rfl;have c2:=x0.cell 2 rfl;clear x0 z0 hbW hsW;go_wp2_with fail;refine (HNew.out W HbW.out).mono ?_;rintro e U hpost;rcases hpost with ⟨hB,rfl,hb1⟩ | ⟨hB,b,rfl,hG,hbge,hb1⟩
  ·have HF:=Z5 (HEr.out 1 U hb1 (by decide) (HE1.out hB));obtain ⟨z0,z1,z2,z3,z4,f0,f1,f2,f3,f4⟩:=HZ.out U hb1;obtain ⟨y0,y1,y2,y3,y4⟩:=HZ5.out U hb1;clear hB c0 c1 c2;go_wp2_with fail;exact bodyPost_ret (v:=.tuple #[.agg #[.int .i64 0,.int .i64 0,.slice none 0 0,.int .i64 0,.slice none 0 0],.int .i64 1]) (by simp [results,results25,go_sem,y0,y1,y2,y3,y4]) rfl HF.out
  exact absurd hB HNB.out
section
open Go.ChangeShapes Go.WideShapes Go.ChangeAt Go.RowKit
section
variable {H : Type} {enc : TypeId × Value->H} {W : World} {held : Bool} {fuel : Nat} {cs : List Value} {x : DataW H × List MemPlace}
end
section
variable {H : Type} {enc : TypeId × Value->H} {W : World} {held : Bool} {b0 : Nat} {v : Value} {d : DataW H} {p : List MemPlace}
theorem zJ {P : Program} {w : World} {r : Reach} {base : Nat} {t : TypeId} {v : Value} {n : Nat} {e : TypeId} (ht : P.underlying t=some (.array n e)) (h : Value.okWide P w r base t v) : ∃cs,v = .agg cs/\cs.size=P.cellsOf t:=by simp only [Value.okWide,ht] at h;obtain ⟨cs,h1,h2,_⟩:=h;exact ⟨cs,h1,h2⟩
end
end
end Go.Proofs.YthglbncgemdcbaaGreat
