import Derived.Test.YtjfiflldinnhmaaGreatHSO30
namespace Go.Proofs.YtjfiflldinnhmaaGreat
set_option linter.all false
set_option maxRecDepth 100000
set_option maxHeartbeats 8000000
open Go.RowKit Go.Proofs.Tryz
section
open Go.RowKit
end
section
open Go.RowKit
end
theorem bY.DK (w : World) (c : Nat) : bY w none 0 []:=⟨rfl,λh=>absurd h (by omega),by unfold maxLen;omega,λk hk=>absurd hk (by omega)⟩
theorem eJ.DK (w : World) : eJ w none 0 []:=⟨rfl,λh=>absurd h (by omega),by unfold maxLen;omega,λk hk=>absurd hk (by omega)⟩
def z7 (P M : Int) (mod : LI) (N : Int) (L SS : LL) (TT : List LL) : LI:=if vf P M mod N L SS TT=0 then mf SS L.length else []
theorem DP {P M : Int} {mod : LI} {N : Int} {L SS : LL} {TT : List LL} {w w' : World} {e : Ending} (h : fA P M mod N L.length L SS TT w e w') :
  Be (vf P M mod N L SS TT) (z7 P M mod N L SS TT) w e w':=by
 obtain ⟨hb,⟨h0,rfl⟩ | ⟨h0,a,c,rfl,h1⟩⟩:=h
 ·exact Ca hb h0
 ·exact Cu hb h0 (I9 h1).1
theorem wN (as' : OA) (ns cs : Nat) (SS : LL) (at' : OA) (nt ct : Nat) (TT : List LL) (w : World) (h1 : bY w as' ns SS) (h2 : eJ w at' nt TT) :
  Calls prog 17 #[.agg #[.slice as' ns cs,.slice at' nt ct]] w (gT w):=by
 have hpl:=h2.pl;have hmax:=h2.max;unfold maxLen at hmax;have HR : Hid (∀V,JA w V->Calls prog 55 #[.agg #[.int .i64 0,.slice as' ns cs],.int .i64 2000] V (gT V)):=λV hV=>l6 as' ns cs 2000 SS V (h1.aa hV) (by omega);have HT : Hid (∀k,k<nt->∃b1 m1 c1,∀V,JA w V->V.cell? ⟨ah at',aG at'+k,none⟩=some (.slice b1 m1 c1) /\
   Calls prog 55 #[.agg #[.int .i64 0,.slice b1 m1 c1],.int .i64 4000] V (gT V)):=λk hk=>by obtain ⟨b1,m1,c1,x1,x2,_⟩:=h2.cell k hk;exact ⟨b1,m1,c1,λV hV=>⟨aj hV x1,l6 b1 m1 c1 4000 _ V (x2.aa hV) (by omega)⟩⟩
 clear h1 h2;go_enter func17,ntmps17;go_upto_region 1 with fail;obtain ⟨W,hW⟩ : ∃W : World,W=w.alloc (.cells #[.slice as' ns cs,.slice at' nt ct] 30):=⟨_,rfl⟩
 rw [<- hW];have hbW : JA w W:=by rw [hW];exact aA _ _
 have x0 : ba W w.heap.size [.slice as' ns cs,.slice at' nt ct]:=by rw [hW];exact Ja _ _ _ rfl
 have HS : Hid (∀V,JA W V->V.cell? ⟨w.heap.size,0,none⟩=some (.slice as' ns cs)/\V.cell? ⟨w.heap.size,1,none⟩=some (.slice at' nt ct)):=λV hV=>by have x1:=x0.aa hV;exact ⟨x1.cell 0 rfl,x1.cell 1 rfl⟩
 have HbW:=Z5 hbW;clear hW x0;have Hc:=Z5 (HR.out W hbW);obtain ⟨c0,c1⟩:=HS.out W (EI _ _);clear hbW HR;go_wp2_with fail;refine Hc.out.mono ?_;rintro e w1 ⟨z,rfl,hb1⟩;clear c0 c1 Hc;obtain ⟨c0,c1⟩:=HS.out w1 hb1;have hF1:=I8 HbW.out hb1;cases z
 ·go_wp2_with fail;go_ret;exact ⟨_,rfl,hF1⟩
 by_cases h100 : 100<nt
 ·have h100' : (100 : Int)<(nt : Int):=by omega
  have d1 : decide ((100 : Int)<(nt : Int))=true:=by simpa using h100'
  clear h100 h100';go_wp2_with fail;go_ret;exact ⟨_,rfl,hF1⟩
 have h100' : ¬ (100 : Int)<(nt : Int):=by omega
 have d1 : decide ((100 : Int)<(nt : Int))=false:=by simpa using h100'
 clear h100 h100';go_wp2_with fail;go_loopw [3] (λiv wr=>∃k : Nat,k<=nt/\iv = .int .i64 k/\JA W wr) (λi _=>nt - (intOf i).toNat);case atStart=>exact ⟨0,EL _,rfl,hb1⟩
 case round =>
  obtain ⟨k,hk,rfl,hbr⟩:=hrel
  clear c0 c1
  obtain ⟨c0,c1⟩:=HS.out wr hbr
  by_cases hlt : k<nt
  ·obtain ⟨b1,m1,d2,hk2⟩:=HT.out k hlt
   obtain ⟨q0,hca⟩:=hk2 wr (I8 HbW.out hbr)
   have Hca:=Z5 hca
   clear hk2 hca
   go_wp2_with fail
   refine Hca.out.mono ?_
   rintro e w6 ⟨z,rfl,hb6⟩
   have hbV:=I8 hbr hb6
   have hF:=I8 HbW.out hbV
   clear q0 c0 c1
   cases z
   ·go_wp2_with fail
    go_ret
    exact ⟨_,rfl,hF⟩
   go_wp2_with fail
   go_roundw
   case rel=>exact ⟨k+1,by omega,by go_num,hbV⟩
   case measure=>simp [intOf] <;> omega
  ·obtain rfl : k=nt:=by omega
   have hF:=I8 HbW.out hbr
   go_wp2_with fail
   go_ret
   exact ⟨_,rfl,hF⟩
def Bw (a b : OA) : Prop:=a=none\/b=none\/ah a ≠ ah b
theorem Bw.mM {w : World} {B : Nat} {e : TypeId} {a b : OA} {c n : Nat} {xs : List Value} (h : Bw a b) (ho : w.ownsRow B e 1 (.slice a n c) n xs) (hB : 0<B) : db a (ah b):=by
 rcases h with rfl | rfl | h
 ·exact .inl rfl
 ·exact la ho (show ah none<B from hB)
 ·exact .inr h
theorem Bw.symm {a b : OA} (h : Bw a b) : Bw b a:=by
 rcases h with h | h | h
 ·exact .inr (.inl h)
 ·exact .inl h
 ·exact .inr (.inr λe=>h e.symm)
theorem Bw.new {b a5 : OA} (h : b ≠ none->db a5 (ah b)) : Bw a5 b:=by
 by_cases hb : b=none
 ·exact .inr (.inl hb)
 ·rcases h hb with h | h
  ·exact .inl h
  ·exact .inr (.inr h)
theorem BB {X w7 : World} {t : TypeId} (hb : Below (X.alloc (.cells #[.int .i64 0,.int .i64 0,.slice none 0 0,.int .i64 0,.slice none 0 0] t)).drew.heap.size (X.alloc (.cells #[.int .i64 0,.int .i64 0,.slice none 0 0,.int .i64 0,.slice none 0 0] t)).drew w7) :
  w7.cell? ⟨X.heap.size,0,none⟩=some (.int .i64 0)/\w7.cell? ⟨X.heap.size,1,none⟩=some (.int .i64 0)/\w7.cell? ⟨X.heap.size,2,none⟩=some (.slice none 0 0)/\w7.cell? ⟨X.heap.size,3,none⟩=some (.int .i64 0)/\w7.cell? ⟨X.heap.size,4,none⟩=some (.slice none 0 0) /\
   w7.frozen? ⟨X.heap.size,0,none⟩=false/\w7.frozen? ⟨X.heap.size,1,none⟩=false/\w7.frozen? ⟨X.heap.size,2,none⟩=false/\w7.frozen? ⟨X.heap.size,3,none⟩=false/\w7.frozen? ⟨X.heap.size,4,none⟩=false:=by have x7:=(Ja X [.int .i64 0,.int .i64 0,.slice none 0 0,.int .i64 0,.slice none 0 0] t rfl).aa (I8 (EI _ _).drew hb);exact ⟨x7.cell 0 rfl,x7.cell 1 rfl,x7.cell 2 rfl,x7.cell 3 rfl,x7.cell 4 rfl,x7.frozen 0,x7.frozen 1,x7.frozen 2,x7.frozen 3,x7.frozen 4⟩
theorem pP (P M : Int) (am : OA) (mn cm : Nat) (mod : LI) (N : Int) (a : OA) (n c : Nat) (L : LL) (as' : OA) (ns cs : Nat) (SS : LL) (at' : OA) (nt ct : Nat) (TT : List LL) (z : Int) (w : World)
  (hmod : Ints w am mn mod) (hi : bY w a n L) (hSS : bY w as' ns SS) (hTT : eJ w at' nt TT) (hz : 0<=z/\z<=4294967295) :
  Calls prog 3 #[.agg #[.int .i64 P,.int .i64 M,.slice am mn cm,.int .i64 N,.slice a n c],.agg #[.slice as' ns cs,.slice at' nt ct],.int .u32 z] w λe w'=>e = .returned (.bool true)/\JA w w':=by
 have Hln:=Z5 hi.len;have HF1 : Hid (∀V,JA w V->Calls prog 15 #[.agg #[.int .i64 P,.int .i64 M,.slice am mn cm,.int .i64 N,.slice a n c],.int .i64 120] V (gT V)):=λV hV=>vY P M am mn cm N a n c 120 L V (hi.aa hV) (by omega);have HF2 : Hid (∀V,JA w V->Calls prog 17 #[.agg #[.slice as' ns cs,.slice at' nt ct]] V (gT V)):=λV hV=>wN as' ns cs SS at' nt ct TT V (hSS.aa hV) (hTT.xM hV);have HCk:=Z5 (λV (hV : JA w V)=>vO P M am mn cm mod N a n c L V (hmod.aa hV) (hi.aa hV));have HCh:=Z5 (λV (hV : JA w V)=>(oO P M am mn cm mod N a n c L as' ns cs SS at' nt ct TT V (hmod.aa hV) (hi.aa hV) (hSS.aa hV) (hTT.xM hV)).mono λe w' (h : fA P M mod N n L SS TT V e w')=>DP (by rw [Hln.out];exact h));have HBad : Hid (∀V,Calls prog 14 #[] V λe w'=>e = .returned (.bool true)/\JA V w'):=λV=>ur V;have Hmi:=Z5 (E6 hmod (E6 hi (E6 hSS hz)));clear hmod hi hSS hTT hz;go_enter func3,ntmps3;go_wp2_with fail;obtain ⟨W,hW⟩ : ∃W : World,W=(w.alloc (.cells #[.int .i64 P,.int .i64 M,.slice am mn cm,.int .i64 N,.slice a n c] 27)).alloc (.cells #[.slice as' ns cs,.slice at' nt ct] 30):=⟨_,rfl⟩
 rw [<- hW];have hbW : JA w W:=by rw [hW];exact fI _ _ _
 have x0 : ba W w.heap.size [.int .i64 P,.int .i64 M,.slice am mn cm,.int .i64 N,.slice a n c]:=by rw [hW];exact (Ja _ _ _ rfl).alloc _
 have y0 : ba W (w.heap.size+1) [.slice as' ns cs,.slice at' nt ct]:=by rw [hW];exact Ja _ _ _ (by simp)
 have hpos : 0<W.heap.size:=by rw [hW];simp
 have HS : Hid (∀V,JA W V->V.cell? ⟨w.heap.size,0,none⟩=some (.int .i64 P)/\V.cell? ⟨w.heap.size,1,none⟩=some (.int .i64 M)/\V.cell? ⟨w.heap.size,2,none⟩=some (.slice am mn cm)/\V.cell? ⟨w.heap.size,3,none⟩=some (.int .i64 N)/\V.cell? ⟨w.heap.size,4,none⟩=some (.slice a n c) /\
   V.cell? ⟨w.heap.size+1,0,none⟩=some (.slice as' ns cs)/\V.cell? ⟨w.heap.size+1,1,none⟩=some (.slice at' nt ct)):=λV hV=>by have x1:=x0.aa hV;have y1:=y0.aa hV;exact ⟨x1.cell 0 rfl,x1.cell 1 rfl,x1.cell 2 rfl,x1.cell 3 rfl,x1.cell 4 rfl,y1.cell 0 rfl,y1.cell 1 rfl⟩
 have HbW:=Z5 hbW;have Hpos:=Z5 hpos;clear hW x0 hbW y0 hpos;refine (HBad.out W).mono ?_;rintro e w1 ⟨rfl,hb1⟩;obtain ⟨c0,c1,c2,c3,c4,c5,c6⟩:=HS.out w1 hb1;go_wp2_with fail;refine (HF1.out w1 (I8 HbW.out hb1)).mono ?_;rintro e w2 ⟨z',rfl,hb2⟩;have hB2:=I8 hb1 hb2;clear c0 c1 c2 c3 c4 c5 c6;cases z'
 ·go_wp2_with fail;refine (HBad.out w2).mono ?_;rintro e w9 ⟨rfl,hb9⟩;have hF:=I8 HbW.out (I8 hB2 hb9);go_wp2_with fail;go_ret;exact ⟨rfl,hF⟩
 obtain ⟨c0,c1,c2,c3,c4,c5,c6⟩:=HS.out w2 hB2;by_cases h12 : 12<N
 ·have d1 : decide (12<N)=true:=by simpa using h12
  clear h12;go_wp2_with fail;refine (HBad.out w2).mono ?_;rintro e w9 ⟨rfl,hb9⟩;have hF:=I8 HbW.out (I8 hB2 hb9);go_wp2_with fail;go_ret;exact ⟨rfl,hF⟩
 have d1 : decide (12<N)=false:=by simpa using h12
 have Hck:=Z5 (HCk.out w2 (I8 HbW.out hB2));go_wp2_with fail;refine Hck.out.mono ?_;rintro e w3 ⟨rfl,hb3⟩;have hB3:=I8 hB2 hb3;clear c0 c1 c2 c3 c4 c5 c6 Hck HCk;by_cases hE : aZ P M mod N L=0;rotate_left
 ·have hE2 : (aZ P M mod N L != 0)=true:=by simpa using hE
  clear hE;generalize aZ P M mod N L=er at *;go_wp2_with fail;refine (HBad.out w3).mono ?_;rintro e w9 ⟨rfl,hb9⟩;have hF:=I8 HbW.out (I8 hB3 hb9);go_wp2_with fail;go_ret;exact ⟨rfl,hF⟩
 rw [hE];obtain ⟨m,rfl,hm1,hm64,F,hR⟩:=dk hE;have hm12 : m<=12:=by omega
 have HE:=Z5 hE;have HFl:=Z5 F;have HRw:=Z5 hR;clear hE F hR h12;obtain ⟨c0,c1,c2,c3,c4,c5,c6⟩:=HS.out w3 hB3;go_wp2_with fail;refine (HF2.out w3 (I8 HbW.out hB3)).mono ?_;rintro e w4 ⟨z',rfl,hb4⟩;have hB4:=I8 hB3 hb4;clear c0 c1 c2 c3 c4 c5 c6;cases z'
 ·go_wp2_with fail;refine (HBad.out w4).mono ?_;rintro e w9 ⟨rfl,hb9⟩;have hF:=I8 HbW.out (I8 hB4 hb9);go_wp2_with fail;go_ret;exact ⟨rfl,hF⟩
 obtain ⟨c0,c1,c2,c3,c4,c5,c6⟩:=HS.out w4 hB4;have Hch:=Z5 (HCh.out w4 (I8 HbW.out hB4));clear HCh HBad HF1 HF2;go_wp2_with fail;refine Hch.out.mono ?_;rintro e w5 ⟨hb5,ad,nd,cd,rfl,hd⟩;have hB5:=I8 hB4 hb5;clear c0 c1 c2 c3 c4 c5 c6 Hch;by_cases hc : vf P M mod m L SS TT=0;rotate_left
 ·have hc2 : (vf P M mod m L SS TT != 0)=true:=by simpa using hc
  have hX : z7 P M mod m L SS TT=[]:=by unfold z7;rw [EG hc]
  rw [hX] at hd;obtain rfl : nd=0:=hd.len.symm;have hF:=I8 HbW.out hB5;clear hc hX hd;generalize vf P M mod m L SS TT=er at *;go_wp2_with fail;go_ret;exact ⟨rfl,hF⟩
 have hX : z7 P M mod m L SS TT=mf SS L.length:=by unfold z7;rw [EH hc]
 rw [hX] at hd;obtain ⟨l1,l2,l3⟩:=CY hc;have hnd : nd=n:=by rw [<- hd.len,<- Hln.out];simp [mf]
 have hns : ns=n:=by rw [<- Hmi.out.2.2.1.len,l1,Hln.out]
 subst hnd hns;rw [hc];have HLaw:=Z5 l3;have Hl1:=Z5 l1;have Hd:=Z5 hd;clear hc hX l1 l2 l3 hd;have hdn : ((ns : Int) != ns)=false:=by simp
 obtain ⟨c0,c1,c2,c3,c4,c5,c6⟩:=HS.out w5 hB5;go_wp2_with fail;go_loopw [9,10,66] (λsv rv iv wr=>∃(i : Nat) (T : LI) (ax ar : OA) (cx cr : Nat),i<=m/\iv = .int .i64 i/\sv = .slice ax T.length cx/\rv = .slice ar (aP false T i).length cr/\wr.ownsRow w5.heap.size 3 1 (.slice ax T.length cx) T.length (T.map (Value.int .i64)) /\
   wr.ownsRow w5.heap.size 3 1 (.slice ar (aP false T i).length cr) (aP false T i).length ((aP false T i).map (Value.int .i64))/\Hid (Bw ax ar)/\Hid (T.length<=i/\∀x ∈ T,x<(i : Int))/\JA w5 wr) (λ_ _ iv _=>m - (intOf iv).toNat)
 case atStart=>exact ⟨0,[],none,none,0,0,EL _,rfl,rfl,rfl,by simpa using bG,by simpa [aP] using bG,.inl rfl,⟨EF _,λx hx=>by simp at hx⟩,EI _ _⟩
 case round =>
  clear c0 c1 c2 c3 c4 c5 c6
  obtain ⟨i,T,ax,ar,cx,cr,him,rfl,rfl,rfl,hox,hown,htw,hT,hbr⟩:=hrel
  generalize wr=U at *
  have hBU:=I8 hB5 hbr
  obtain ⟨c0,c1,c2,c3,c4,c5,c6⟩:=HS.out U hBU
  by_cases hlt : i<m
  ·have hfl:=fB false T i
   have hTl:=hT.out.1
   obtain ⟨Rs,hRs⟩ : ∃Rs,aP false T i=Rs:=⟨_,rfl⟩
   have Hdrop : Hid (aP false (T ++ [(i : Int)]) (i+1)=Rs):=by show _=_;rw [kd,EG (by simp),qO hT.out.2 i (EF _),hRs]
   have Hkeep : Hid (aP false T (i+1)=Rs ++ [(i : Int)]):=by show _=_;rw [kd,EH (FJ λh=>by have:=hT.out.2 _ h;omega),hRs]
   rw [hRs] at hown hfl ⊢
   clear hRs
   have hcn:=bk U (.int .i64 i) 3
   have hbn:=aA U (.cells #[.int .i64 i] 3)
   have hszU:=hbr.size
   have hp5 : 0<w5.heap.size:=Fc Hpos.out hB5.size
   have hlt2 : ar ≠ none->ah ar<(U.alloc (.cells #[.int .i64 i] 3)).heap.size:=λh=>by
    have h1:=uH hown (EF U.heap.size);have h2:=iM hown;rcases h2 with h2 | h2
    ·exact absurd h2.1 h
    ·simp;omega
   have hlt3 : ax ≠ none->ah ax<(U.alloc (.cells #[.int .i64 i] 3)).heap.size:=λh=>by
    have h2:=iM hox;rcases h2 with h2 | h2
    ·exact absurd h2.1 h
    ·simp;omega
   by_cases hbit : bits .and .u32 (z / 2 ^ i) 1=1
   ·have e1 : (bits .and .u32 (z / 2 ^ i) 1 == 1)=true:=by simpa using hbit
    clear hbit
    go_wp2_with (at_builtin;refine aX rfl _ _ 22 3 rfl (.int .i64 0) 8 underlying22 bh rfl w5.heap.size ax T.length cx _ rfl (hox.alloc _) ⟨U.heap.size,0,none⟩ 1 (.int .i64 i) rfl hcn rfl (by omega) (by unfold maxLen;omega) (by simp;omega) ?_;intro a5 c5' w5' hown5 hgr5 hap5)
    go_roundw
    case rel =>
     have hb5' : JA w5 w5':=Jb (Ft hbr (hbn.mono hszU)) (hox.alloc _) hgr5 (EF _) (ET hszU hbn.size)
     refine ⟨i+1,T ++ [(i : Int)],a5,ar,c5',cr,by omega,by go_num,by rw [ER];rfl,by rw [Hdrop.out],by rw [ER];simpa using hown5,by rw [Hdrop.out];exact fw (hown.alloc _) hgr5 (htw.out.mM hox hp5),Bw.new λh=>hap5 _ (hlt2 h) (htw.out.mM hox hp5),⟨by rw [ER,E0];omega,λx hx=>?_⟩,hb5'⟩
     rcases List.mem_append.1 hx with hx | hx
     ·have:=hT.out.2 x hx;omega
     ·rw [List.mem_singleton.1 hx];omega
    case measure=>simp [intOf] <;> omega
   ·have e1 : (bits .and .u32 (z / 2 ^ i) 1 == 1)=false:=by simpa using hbit
    clear hbit
    go_wp2_with (at_builtin;refine aX rfl _ _ 22 3 rfl (.int .i64 0) 8 underlying22 bh rfl w5.heap.size ar Rs.length cr _ rfl (hown.alloc _) ⟨U.heap.size,0,none⟩ 1 (.int .i64 i) rfl hcn rfl (by omega) (by unfold maxLen;omega) (by simp;omega) ?_;intro a5 c5' w5' hown5 hgr5 hap5)
    go_roundw
    case rel =>
     have hb5' : JA w5 w5':=Jb (Ft hbr (hbn.mono hszU)) (hown.alloc _) hgr5 (EF _) (ET hszU hbn.size)
     exact ⟨i+1,T,ax,a5,cx,c5',by omega,by go_num,rfl,by rw [Hkeep.out,ER];rfl,fw (hox.alloc _) hgr5 (htw.out.symm.mM hown hp5),by rw [Hkeep.out,ER];simpa using hown5,(Bw.new λh=>hap5 _ (hlt3 h) (htw.out.symm.mM hown hp5)).symm,⟨by omega,λx hx=>by have:=hT.out.2 x hx;omega⟩,hb5'⟩
    case measure=>simp [intOf] <;> omega
  ·obtain rfl : i=m:=by omega
   have hrk : Calls prog 19 #[.agg #[.int .i64 P,.int .i64 M,.slice am mn cm,.int .i64 i,.slice a ns c],.slice ar (aP false T i).length cr] U λe w'=>e = .returned (.tuple #[.int .i64 (lC (an P M.toNat mod).ops L (aP false T i) : Nat),.int .i64 0])/\JA U w':=by
    refine (th P M am mn cm mod i a ns c L ar _ cr _ U (Hmi.out.1.aa (I8 HbW.out hBU)) (Hmi.out.2.1.aa (I8 HbW.out hBU)) (I9 hown).1).mono ?_;have h0 : iW P M mod i L (aP false T i)=0:=by rw [iW,EH HE.out,lT,EH (oh false T i)]
    rintro e w' ⟨hb,⟨h1,_⟩ | ⟨_,rfl⟩⟩
    ·exact absurd h0 h1
    ·exact ⟨rfl,hb⟩
   have HLT : Hid (∀k,k<ns->T.length<(af SS k).length->(ns : Int) - (lC (an P M.toNat mod).ops L (aP false T i) : Nat)<(k : Int)+1):=λk hk h=>by have:=(HLaw.out k (by rw [Hln.out];exact hk)).2.2 T h;rw [Hln.out] at this;exact this
   have hgle : lC (an P M.toNat mod).ops L (aP false T i)<=12:=by have h1:=vW (an P M.toNat mod).ops L (aP false T i);have h2:=fB false T i;omega
   obtain ⟨g,hg⟩ : ∃g,lC (an P M.toNat mod).ops L (aP false T i)=g:=⟨_,rfl⟩
   rw [hg] at hrk HLT hgle
   have Hrk:=Z5 hrk
   have hTl:=hT.out.1
   have hnsm : ns<=256:=by rw [<- Hln.out];exact (eE HE.out).choose_spec.2.2.2.1
   obtain ⟨t,ht⟩ : ∃t,T.length=t:=⟨_,rfl⟩
   rw [ht] at HLT hTl ⊢
   clear hrk hg hown hox hT htw ht
   go_wp2_with fail
   refine Hrk.out.mono ?_
   rintro e w6 ⟨rfl,hb6⟩
   have hB6:=I8 hBU hb6
   have HDd:=Z5 (λV (hV : JA U V)=>Hd.out.aa (I8 hbr hV))
   clear c0 c1 c2 c3 c4 c5 c6 Hrk
   go_wp2_with fail
   have hplD:=Hd.out.pl
   go_loopw [13] (λiv wr=>∃k : Nat,k<=ns/\iv = .int .i64 ((k : Int)+1)/\JA w6 wr) (λiv _=>ns+1 - (intOf iv).toNat)
   case atStart=>exact ⟨0,EL _,rfl,EI _ _⟩
   case round =>
    obtain ⟨k,hk,rfl,hbx⟩:=hrel
    generalize wr=X at *
    have hBX:=I8 hB6 hbx
    obtain ⟨c0,c1,c2,c3,c4,c5,c6⟩:=HS.out X hBX
    by_cases hkn : k<ns
    ·have d7 : decide ((k : Int)+1<=(ns : Int))=true:=by simp;omega
     have hDX:=HDd.out X (I8 hb6 hbx)
     have hcD:=hDX.cell k hkn
     have hval : nth (mf SS L.length) k=((af SS k).length : Int):=by unfold mf;rw [dp _ _ _ (by rw [Hln.out];exact hkn)]
     rw [hval] at hcD
     have hlaw:=HLT.out k hkn
     obtain ⟨sk,hsk⟩ : ∃sk,(af SS k).length=sk:=⟨_,rfl⟩
     rw [hsk] at hcD hlaw
     have Hsk:=Z5 hsk
     clear hsk hval hDX
     have hdq : decide (t<sk)=false\/(decide (t<sk)=true/\decide ((k : Int)+1<=(ns : Int) - (g : Int))=false):=by
      by_cases h : t<sk
      ·exact .inr ⟨by simpa using h,by have:=hlaw h;simp;omega⟩
      ·exact .inl (by simpa using h)
     clear hlaw
     obtain ⟨ra,rn,rc,hcS,hrow⟩:=(Hmi.out.2.2.1.aa (I8 HbW.out hBX)).cell k hkn
     have hplS:=Hmi.out.2.2.1.pl
     obtain rfl : rn=sk:=by rw [<- Hsk.out,hrow.len]
     have hSk:=HLaw.out k (by rw [Hln.out];exact hkn)
     have HSup : Hid (∀V,JA X V->Calls prog 20 #[.agg #[.int .i64 P,.int .i64 M,.slice am mn cm,.int .i64 i,.slice a ns c],.slice ra rn rc] V λe w' =>
       JA V w'/\∃a1 n1 c1 a2 q c2,e = .returned (.tuple #[.agg #[.int .i64 P,.int .i64 M,.slice a1 n1 c1,.int .i64 i,.slice a2 q c2],.int .i64 0])/\(k : Int)+1<=(q : Int)):=λV hV=>by
      have hb:=I8 HbW.out (I8 hBX hV);refine (jC P M am mn cm mod i a ns c L ra rn rc (af SS k) V (Hmi.out.1.aa hb) (Hmi.out.2.1.aa hb) (hrow.aa hV)).mono ?_;have h0 : xo P M mod i L (af SS k)=0:=by unfold xo;rw [EH HE.out,EH hSk.1]
      rintro e w' ⟨b,⟨h1,_⟩ | ⟨_,a1,c1,a2,c2,rfl,_,_⟩⟩
      ·exact absurd h0 h1
      ·refine ⟨b,a1,_,c1,a2,_,c2,rfl,?_⟩;have h2:=BZ HE.out (af SS k);have h3:=hSk.2.1;rw [EM];omega
     clear hrow hSk
     have HX:=Z5 (E6 hBX hbx)
     obtain ⟨b0,b1,b2,b3,b4,b5,b6⟩:=HS.out _ (I8 hBX (aA X (.cells #[.int .i64 0,.int .i64 0,.slice none 0 0,.int .i64 0,.slice none 0 0] 27)))
     have hcS2:=aJ hcS (.cells #[.int .i64 0,.int .i64 0,.slice none 0 0,.int .i64 0,.slice none 0 0] 27)
     have kw : IntKind.i64.wrap (k : Int)=k:=EU _ (by omega)
     go_upto_region 22 with fail
     go_cut [113] (λbv wx=>bv = .bool false/\wx=X)
     case first =>
      rcases hdq with d8 | ⟨d8,d9⟩
      ·go_wp2_with fail
       go_meet
       exact ⟨rfl,rfl⟩
      ·go_wp2_with fail
       go_meet
       exact ⟨rfl,rfl⟩
     obtain ⟨rfl,rfl⟩:=hcut
     generalize wc=X at *
     clear hdq
     go_upto_region 24 with fail
     go_cut [14,15] (λv ev wx=>∃g a2 c2 q,v = .pointer (some ⟨g,0,none⟩)/\ev = .int .i64 0/\wx.cell? ⟨g,2+2,none⟩=some (.slice a2 q c2)/\(k : Int)+1<=(q : Int)/\JA X wx)
     case first =>
      go_region_law ((first
       | (go_simp;go_at_call 20;((with_reducible refine (HSup.out _ (by first | exact EI _ _ | exact (EI _ _).drew | exact (aA _ _).drew | exact aA _ _ | assumption)).mono ?_);rintro e w7 ⟨hb7,a1,n1,c1',a2,q,c2',rfl,hq⟩;first | (have zz:=BB hb7;obtain ⟨z0,z1,z2,z3,z4,f0,f1,f2,f3,f4⟩:=zz) | skip))))
      all_goals (
       go_wp2_with fail
       go_meet
       first
       | (have z9:=z4;exact ⟨_,a2,c2',q,rfl,rfl,(((((((Ja X [.int .i64 0,.int .i64 0,.slice none 0 0,.int .i64 0,.slice none 0 0] _ rfl).aa (I8 (EI _ _).drew hb7)).zD 0 (.int .i64 P)).zD 1 (.int .i64 M)).zD 2 (.slice a1 n1 c1')).zD 3 (.int .i64 i)).zD 4 (.slice a2 q c2')).cell 4 rfl,hq,(((((I8 (aA X (.cells #[.int .i64 0,.int .i64 0,.slice none 0 0,.int .i64 0,.slice none 0 0] 27)) (I8 (EI _ _).drew hb7)).setCell (EF _) _).setCell (EF _) _).setCell (EF _) _).setCell (EF _) _).setCell (EF _) _⟩)
       | exact ⟨_,a2,c2',q,rfl,rfl,(Ja w7 [.int .i64 P,.int .i64 M,.slice a1 n1 c1',.int .i64 i,.slice a2 q c2'] _ rfl).cell 4 rfl,hq,I8 (I8 (EI _ _).drew hb7) (aA _ _)⟩)
     obtain ⟨g2,aS,cS,q,rfl,rfl,hg4,hq,hbY⟩:=hcut
     generalize wc=Y at *
     have hBY:=I8 HX.out.1 hbY
     have hcSY:=aj hbY hcS
     have hcDY:=aj hbY hcD
     clear c0 c1 c2 c3 c4 c5 c6 b0 b1 b2 b3 b4 b5 b6 hcS2 hcS hcD
     obtain ⟨c0,c1,c2,c3,c4,c5,c6⟩:=HS.out Y hBY
     have e1 : decide ((q : Int)<(k : Int)+1)=false:=FJ (by omega)
     have e2 : decide (q<k+1)=false:=FJ (by omega)
     have e3 : decide (q<=k)=false:=FJ (by omega)
     have e4 : ((rn : Int) != (rn : Int))=false:=by simp
     have hw0:=EI Y.heap.size Y
     go_upto_region 25 with fail
     go_quiet (fail)
     all_goals (
      go_wp2_with fail
      go_roundw
      case rel=>exact ⟨k+1,by omega,by go_num,I8 HX.out.2 (I8 hbY (Jk ⟨_,rfl⟩))⟩
      case measure=>simp [intOf] <;> omega)
    ·obtain rfl : k=ns:=by omega
     have d7 : decide ((k : Int)+1<=(k : Int))=false:=by simp;omega
     have hF:=I8 HbW.out hBX
     go_wp2_with fail
     go_ret
     exact ⟨rfl,hF⟩
end Go.Proofs.YtjfiflldinnhmaaGreat
