import Derived.Test.YtcfmiocdlcapoaaGreatK8
import Derived.Test.YtcfmiocdlcapoaaGreatK7
import Derived.Test.YtcfmiocdlcapoaaGreatK9
namespace Go.Proofs.YtcfmiocdlcapoaaGreat
set_option linter.unusedVariables false
set_option linter.unusedSimpArgs false
set_option linter.unusedSectionVars false
set_option maxRecDepth 100000
set_option maxHeartbeats 3200000
open Go.RowKit
section
variable {w : World} {b : Nat} {G : de}
@[go_sem high] theorem run_slice_h0 {P : Program} (w : World) (t : TypeId) (a : OA) (len cap : Nat) (ht : P.underlying t=some (.slice (P.elem t))) (kh : IntKind) (h : Int) (h0 : 0<=h) (h2 : h<=cap) :
  (Instr.slice t (.slice a len cap) none (some (.int kh h)) none).run P w=((sizeOf (P.elem t)).run P w).andThen λ_ w=>.ok (.slice a h.toNat cap) w:=by
 rw [run_slice_h w t a len cap ht kh h h0 h2]
 congr 1;funext s w;congr 1
 simp only [sliced,Nat.zero_mul,Addr.add,if_true,Nat.sub_zero,Option.map_id',ite_self]
@[go_sem high] theorem run_slice_hm0 {P : Program} (w : World) (t : TypeId) (a : OA) (len cap : Nat) (ht : P.underlying t=some (.slice (P.elem t))) (kh km : IntKind) (h m : Int) (h0 : 0<=h) (h2 : h<=m) (h3 : m<=cap) :
  (Instr.slice t (.slice a len cap) none (some (.int kh h)) (some (.int km m))).run P w=((sizeOf (P.elem t)).run P w).andThen λ_ w=>.ok (.slice a h.toNat m.toNat) w:=by
 rw [run_slice_hm w t a len cap ht kh km h m h0 h2 h3]
 congr 1;funext s w;congr 1
 simp only [sliced,Nat.zero_mul,Addr.add,if_true,Nat.sub_zero,Option.map_id',ite_self]
theorem Dn {L : Ll} {k i : Nat} (h : i<k) : aj (L.take k) i=aj L i:=by
 simp only [aj,List.getD_eq_getElem?_getD,List.getElem?_take,if_pos h]
structure dj (B : Nat) (w : World) (a : OA) (n : Nat) (l : Lz) : Prop where
 ints : Ints w a n l
 lo : 0<n->B<=ablk a
structure bN (B : Nat) (w : World) (a : OA) (n : Nat) (l : Ll) : Prop where
 len : l.length=n
 pl : Pl a n
 max : n<=maxLen
 lo : 0<n->B<=ablk a
 cell : ∀i,i<n->∃b m c,w.cell? ⟨ablk a,aJ a+i,none⟩=some (.slice b m c)/\dj B w b m (aj l i)
theorem dj.mono {B B' : Nat} {w : World} {a : OA} {n : Nat} {l : Lz} (h : dj B w a n l) (hB : B'<=B) : dj B' w a n l:=⟨h.ints,λhn=>Nat.le_trans hB (h.lo hn)⟩
theorem bN.mono {B B' : Nat} {w : World} {a : OA} {n : Nat} {l : Ll} (h : bN B w a n l) (hB : B'<=B) : bN B' w a n l :=
 ⟨h.len,h.pl,h.max,λhn=>Nat.le_trans hB (h.lo hn),λi hi=>by obtain ⟨b,m,c,h1,h2⟩:=h.cell i hi;exact ⟨b,m,c,h1,h2.mono hB⟩⟩
theorem bN.kK {B : Nat} {w : World} {a : OA} {n : Nat} {l : Ll} (h : bN B w a n l) : bZ w a n l :=
 ⟨h.len,h.pl,h.max,λi hi=>by obtain ⟨b,m,c,h1,h2⟩:=h.cell i hi;exact ⟨b,m,c,h1,h2.ints⟩⟩
theorem dj.bz {B : Nat} {w V : World} {a : OA} {n : Nat} {l : Lz} (h : dj B w a n l) (hb : ∀b,B<=b->b<w.heap.size->V.heap[b]? = w.heap[b]?) : dj B V a n l :=
 ⟨h.ints.of_block λhn=>hb _ (h.lo hn) (h.ints.lt hn),h.lo⟩
theorem bN.bz {B : Nat} {w V : World} {a : OA} {n : Nat} {l : Ll} (h : bN B w a n l) (hb : ∀b,B<=b->b<w.heap.size->V.heap[b]? = w.heap[b]?) : bN B V a n l:=by
 refine ⟨h.len,h.pl,h.max,h.lo,λi hi=>?_⟩
 obtain ⟨b,m,c,h1,h2⟩:=h.cell i hi
 exact ⟨b,m,c,(World.cell?_of_block (w:=w) (a:=⟨ablk a,aJ a+i,none⟩) (hb _ (h.lo (by omega)) (World.block_lt_of_cell? w _ h1))).trans h1,h2.bz hb⟩
theorem dj.ah {B : Nat} {w V : World} {a : OA} {n : Nat} {l : Lz} (h : dj B w a n l) (hb : Below w.heap.size w V) : dj B V a n l:=h.bz λb _ h2=>hb.block b h2
theorem bN.ah {B : Nat} {w V : World} {a : OA} {n : Nat} {l : Ll} (h : bN B w a n l) (hb : Below w.heap.size w V) : bN B V a n l:=h.bz λb _ h2=>hb.block b h2
theorem dj.setCell {B : Nat} {w : World} {a : OA} {n : Nat} {l : Lz} (h : dj B w a n l) {p : Addr} (hp : p.block<B) (v : Value) : dj B (w.setCell p v) a n l :=
 h.bz λb h1 _=>Below.heap_setCell _ _ _ _ (by omega)
theorem bN.setCell {B : Nat} {w : World} {a : OA} {n : Nat} {l : Ll} (h : bN B w a n l) {p : Addr} (hp : p.block<B) (v : Value) : bN B (w.setCell p v) a n l :=
 h.bz λb h1 _=>Below.heap_setCell _ _ _ _ (by omega)
theorem dj.own {w : World} {B : Nat} {e : TypeId} {a : OA} {c n : Nat} {l : Lz} (h : w.ownsRow B e 1 (.slice a n c) n (l.map (Value.int .i64))) : dj B w a n l :=
 ⟨(Ints.own h).1,λhn=>(b9 h 0 hn).2.2.1⟩
theorem bN.own {w : World} {B : Nat} {a : OA} {n c : Nat} {R : La} {L : Ll} (h : aU w B a n c R L) : bN B w a n L :=
 ⟨h.ll,h.pl,h.max,λhn=>(fJ h.own hn).1,λ_ hi=>⟨_,_,_,h.cell hi,dj.own (h.row _ hi)⟩⟩
theorem bN.take {B : Nat} {w : World} {a : OA} {n : Nat} {L : Ll} (h : bN B w a n L) {k : Nat} (hk : k<=n) : bN B w a k (L.take k):=by
 refine ⟨by rw [List.length_take,h.len];omega,λh0=>h.pl (by omega),Nat.le_trans hk h.max,λh0=>h.lo (by omega),λi hi=>?_⟩
 rw [Dn hi]
 exact h.cell i (by omega)
def dr (G : de) (L : Ll) (m : Nat) : Ll:=(aA G.ops L m).1.take (aA G.ops L m).2.length
def ek (G : de) (L : Ll) (m : Nat) : Lz:=(aA G.ops L m).2
theorem iS (G : de) (L : Ll) (m : Nat) : (dr G L m).length=(ek G L m).length:=by
 have h1:=fZ G.ops L m
 have h2:=bM G.ops L m
 unfold dr ek
 rw [List.length_take];omega
def vH (G : de) (L : Ll) (m : Nat) (w : World) (e : Ending) (w' : World) : Prop :=
 ∃a c ap cp,e = .returned (.tuple #[.slice a (ek G L m).length c,.slice ap (ek G L m).length cp])/\bN w.heap.size w' a (ek G L m).length (dr G L m)/\dj w.heap.size w' ap (ek G L m).length (ek G L m)/\Below w.heap.size w w'
theorem qK (a : OA) (n c m : Nat) (L : Ll) (h : eD w b G) (hi : bZ w a n L) (hR : bH G.El m L) (hm : m<=1000000) (hn : n<=1000000) :
  Calls Tryz.prog 146 #[.pointer (some ⟨b,0,none⟩),.slice a n c,.int .i64 m] w (vH G L m w):=by
 have Hlen:=Z5 hi.len
 have HR:=Z5 hR
 have hLm : ∀l ∈ L,l.length<=1000000:=λl hl=>by rw [(hR l hl).1];exact hm
 have HLm:=Z5 hLm
 clear hLm hR
 go_enter Tryz.func146,Tryz.ntmps146
 go_wp2_with fail
 refine (vy a n c L hi hn HLm.out).mono ?_
 rintro e w1 ⟨a1,c1,R1,rfl,hO1,hb1⟩
 go_wp2_with fail
 refine (uQ w a1 L.length c1 m m R1 L h hb1 hO1 HR.out (Nat.le_refl _) hm (by rw [Hlen.out];exact hn)).mono ?_
 rintro e w2 ⟨R2,ap,cp,d,rfl,hO2,hp2,hM2,hb2⟩
 have hpl:=fZ G.ops L m
 have hcap:=pR hO2.own
 have hpv:=(dj.own hp2).mono hb1.size
 have hmt:=(bN.own hO2).take (k:=(aA G.ops L m).2.length) hpl.2
 have hF : vH G L m w (.returned (.tuple #[.slice a1 (aA G.ops L m).2.length (aA G.ops L m).2.length,.slice ap (aA G.ops L m).2.length cp])) w2:=⟨a1,_,ap,cp,rfl,hmt,hpv,hb2⟩
 have HF:=Z5 hF
 have hle : (aA G.ops L m).2.length<=c1:=Nat.le_trans hpl.2 hcap
 clear hF hpv hmt hp2 hcap hpl
 generalize (aA G.ops L m).2.length=k at *
 go_wp2_with fail
 go_ret2
 simpa using HF.out
end
def dM (P M : Int) (mod : Lz) (cols : Int) (L : Ll) : Int :=
 if bA P M mod=true then ew (aa P M.toNat mod).q cols L else 1
def yJ (P M : Int) (mod : Lz) (cols : Int) (L : Ll) (w : World) (e : Ending) (w' : World) : Prop :=
 Below w.heap.size w w'/\(
 (dM P M mod cols L ≠ 0/\e = .returned (.tuple #[.agg #[.int .i64 0,.slice none 0 0],.slice none 0 0,.int .i64 (dM P M mod cols L)])) \/
 (dM P M mod cols L=0/\∃m : Nat,cols=m/\∃a c ap cp,e = .returned (.tuple #[.agg #[.int .i64 m,.slice a (ek (aa P M.toNat mod) L m).length c],.slice ap (ek (aa P M.toNat mod) L m).length cp,.int .i64 0]) /\
  bN w.heap.size w' a (ek (aa P M.toNat mod) L m).length (dr (aa P M.toNat mod) L m)/\dj w.heap.size w' ap (ek (aa P M.toNat mod) L m).length (ek (aa P M.toNat mod) L m)))
theorem gP {q cols : Int} {L : Ll} (h : ew q cols L=0) : ∃m : Nat,cols=m/\m<=256/\L.length<=256/\bH (λx=>0<=x/\x<q) m L:=by
 unfold ew at h
 split at h
 ·omega
 ·rename_i h1
  split at h
  ·omega
  ·rename_i h2
   split at h
   ·rename_i h3
    refine ⟨cols.toNat,by omega,by omega,by omega,λr hr=>?_⟩
    have h4 : iA cols L=true:=by simpa using h2
    unfold iA at h4
    rw [List.all_eq_true] at h4 h3
    have h5:=h4 r hr
    have h6:=h3 r hr
    unfold gD fG at h6
    rw [List.all_eq_true] at h6
    refine ⟨by simp at h5;omega,λx hx=>?_⟩
    have h7:=h6 x hx
    simpa using h7
   ·omega
theorem jH {q cols : Int} {L : Ll} : matsE q [(cols,L)]=ew q cols L:=by
 simp only [matsE];split
 ·rename_i h;exact h.symm
 ·rfl
theorem kR (P M : Int) (am : OA) (mn cm : Nat) (mod : Lz) (cols : Int) (a : OA) (n c : Nat) (L : Ll) (w : World) (hmod : Ints w am mn mod) (hi : bZ w a n L) :
  Calls Tryz.prog 158 #[.agg #[.int .i64 P,.int .i64 M,.slice am mn cm],.agg #[.int .i64 cols,.slice a n c]] w (yJ P M mod cols L w):=by
 have Hlen:=Z5 hi.len
 go_enter Tryz.func158,Tryz.ntmps158
 go_wp2_with fail
 obtain ⟨W,hW⟩ : ∃W : World,W=((((w.alloc (.cells #[.int .i64 P,.int .i64 M,.slice am mn cm] 24)).alloc (.cells #[.int .i64 cols,.slice a n c] 82)).alloc (.cells #[.int .i64 0,.slice none 0 0] 82)).alloc (.cells #[.int .i64 cols,.slice a n c] 82)):=⟨_,rfl⟩
 rw [<- hW]
 have hbW : Below w.heap.size w W:=by rw [hW];exact ((((Below.refl _ _).alloc (Nat.le_refl _) _).alloc (by simp) _).alloc (by simp;omega) _).alloc (by simp;omega) _
 have hsW : W.heap.size=w.heap.size+4:=by rw [hW];simp
 have q1 : W.cell? ⟨w.heap.size+1,0,none⟩=some (.int .i64 cols)/\W.cell? ⟨w.heap.size+1,1,none⟩=some (.slice a n c):=by rw [hW];exact ⟨aS (aS (aH _ _ _ (by simp) 0) _) _,aS (aS (aH _ _ _ (by simp) 1) _) _⟩
 have q2 : W.cell? ⟨w.heap.size+1+1,0,none⟩=some (.int .i64 0)/\W.cell? ⟨w.heap.size+1+1,1,none⟩=some (.slice none 0 0)/\W.frozen? ⟨w.heap.size+1+1,0,none⟩=false/\W.frozen? ⟨w.heap.size+1+1,1,none⟩=false:=by
  rw [hW];exact ⟨aS (aH _ _ _ (by simp) 0) _,aS (aH _ _ _ (by simp) 1) _,dG (by simp) (lM _ _ _ (by simp) 0) _,dG (by simp) (lM _ _ _ (by simp) 1) _⟩
 have q3 : W.cell? ⟨w.heap.size+1+1+1,0,none⟩=some (.int .i64 cols)/\W.cell? ⟨w.heap.size+1+1+1,1,none⟩=some (.slice a n c):=by rw [hW];exact ⟨aH _ _ _ (by simp) 0,aH _ _ _ (by simp) 1⟩
 have hiW:=hi.ah hbW
 have hMs : vd W (some ⟨w.heap.size+1+1+1,0,none⟩) 1 [(cols,L)]:=⟨rfl,λ_=>rfl,by unfold maxLen;omega,λi hi=>by
  have : i=0:=by simp at hi;omega
  subst this
  exact ⟨a,n,c,by simpa using q3.1,by simpa using q3.2,hiW⟩⟩
 have HsW:=Z5 hsW
 clear hW hsW
 refine (lf P M am mn cm mod _ 1 1 _ W (hmod.ah hbW) hMs).mono ?_
 rintro e w1 ⟨hb1,hcase⟩
 have hbw1:=Below.next hbW hb1
 have hq : ∀V,Below W.heap.size W V->V.cell? ⟨w.heap.size+1,0,none⟩=some (.int .i64 cols)/\V.cell? ⟨w.heap.size+1,1,none⟩=some (.slice a n c)/\V.cell? ⟨w.heap.size+1+1,0,none⟩=some (.int .i64 0)/\V.cell? ⟨w.heap.size+1+1,1,none⟩=some (.slice none 0 0)/\V.frozen? ⟨w.heap.size+1+1,0,none⟩=false/\V.frozen? ⟨w.heap.size+1+1,1,none⟩=false:=by
  intro V hV
  have hs:=HsW.out
  exact ⟨aw hV q1.1,aw hV q1.2,aw hV q2.1,aw hV q2.2.1,(hV.frozen (p:=⟨w.heap.size+1+1,0,none⟩) (by simp [hs])).trans q2.2.2.1,(hV.frozen (p:=⟨w.heap.size+1+1,1,none⟩) (by simp [hs])).trans q2.2.2.2⟩
 have Hq:=Z5 hq
 clear hq q1 q2 q3
 rcases hcase with ⟨hB,rfl⟩ | ⟨hB,er,h0,h1,rfl⟩ | ⟨hB,h1,b,rfl,hG,hbl⟩
 ·obtain ⟨r1,r2,r3,r4,r5,r6⟩:=Hq.out w1 hb1
  have HB : Hid (dM P M mod cols L=1):=by show _=_;rw [dM,hB];rfl
  clear hB
  go_wp2_with fail
  refine bodyPost_ret (v:=.tuple #[.agg #[.int .i64 0,.slice none 0 0],.slice none 0 0,.int .i64 1]) (by simp [results,Tryz.results158,go_sem,r3,r4]) rfl ⟨(hbw1.setCell (by simp;omega) _).setCell (by simp;omega) _,.inl ⟨by rw [HB.out];omega,by rw [HB.out]⟩⟩
 ·obtain ⟨r1,r2,r3,r4,r5,r6⟩:=Hq.out w1 hb1
  have HB : Hid (dM P M mod cols L=er):=by show _=_;rw [dM,hB,if_pos rfl,<- h1,jH]
  have He : Hid (er ≠ 0):=h0
  have he' : (er != 0)=true:=by simpa using h0
  clear hB h0 h1
  go_wp2_with fail
  refine bodyPost_ret (v:=.tuple #[.agg #[.int .i64 0,.slice none 0 0],.slice none 0 0,.int .i64 er]) (by simp [results,Tryz.results158,go_sem,r3,r4]) rfl ⟨(hbw1.setCell (by simp;omega) _).setCell (by simp;omega) _,.inl ⟨by rw [HB.out];exact He.out,by rw [HB.out]⟩⟩
 ·obtain ⟨r1,r2,r3,r4,r5,r6⟩:=Hq.out w1 hb1
  rw [jH] at h1
  obtain ⟨m,rfl,hm,hn,hR⟩:=gP h1
  have HB : Hid (dM P M mod m L=0):=by show _=_;rw [dM,hB,if_pos rfl,h1]
  clear hB h1
  go_wp2_with fail
  refine (qK a n c m L hG (hiW.ah hb1) hR (by omega) (by rw [<- Hlen.out];omega)).mono ?_
  rintro e w2 ⟨a2,c2,ap,cp,rfl,hM2,hp2,hb2⟩
  have hbw2:=Below.next hbw1 hb2
  obtain ⟨r1,r2,r3,r4,r5,r6⟩:=Hq.out w2 (Below.next hb1 hb2)
  have hF : yJ P M mod m L w (.returned (.tuple #[.agg #[.int .i64 m,.slice a2 (ek (aa P M.toNat mod) L m).length c2],.slice ap (ek (aa P M.toNat mod) L m).length cp,.int .i64 0])) ((w2.setCell ⟨w.heap.size+1+1,0,none⟩ (.int .i64 m)).setCell ⟨w.heap.size+1+1,1,none⟩ (.slice a2 (ek (aa P M.toNat mod) L m).length c2)):=by
   have hs:=HsW.out
   have hs1:=hb1.size
   refine ⟨(hbw2.setCell (by simp;omega) _).setCell (by simp;omega) _,.inr ⟨HB.out,m,rfl,a2,c2,ap,cp,rfl,?_,?_⟩⟩
   ·exact ((hM2.setCell (p:=⟨w.heap.size+1+1,0,none⟩) (by simp;omega) _).setCell (p:=⟨w.heap.size+1+1,1,none⟩) (by simp;omega) _).mono (by omega)
   ·exact ((hp2.setCell (p:=⟨w.heap.size+1+1,0,none⟩) (by simp;omega) _).setCell (p:=⟨w.heap.size+1+1,1,none⟩) (by simp;omega) _).mono (by omega)
  have HF:=Z5 hF
  clear hF hM2 hp2
  generalize (ek (aa P M.toNat mod) L m).length=k at *
  go_wp2_with fail
  exact bodyPost_ret (v:=.tuple #[.agg #[.int .i64 m,.slice a2 k c2],.slice ap k cp,.int .i64 0]) (by simp [results,Tryz.results158,go_sem,r3,r4]) rfl HF.out
section
theorem rR {l l' : Lz} {k : Nat} (h : l.take k=l'.take k) (h1 : k<l.length) (h2 : k<l'.length) (he : nth l k=nth l' k) : l.take (k+1)=l'.take (k+1):=by
 rw [List.take_succ_eq_append_getElem h1,List.take_succ_eq_append_getElem h2,h,<- ai h1,<- ai h2,he]
theorem pK {l l' : Ll} {k : Nat} (h : l.take k=l'.take k) (h1 : k<l.length) (h2 : k<l'.length) (he : aj l k=aj l' k) : l.take (k+1)=l'.take (k+1):=by
 rw [List.take_succ_eq_append_getElem h1,List.take_succ_eq_append_getElem h2,h,<- aE h1,<- aE h2,he]
variable {w : World}
theorem DT (a : OA) (n c : Nat) (l : Lz) (a' : OA) (n' c' : Nat) (l' : Lz) (h : Ints w a n l) (h' : Ints w a' n' l') :
  Calls Tryz.prog 209 #[.slice a n c,.slice a' n' c'] w (lp w (decide (l=l'))):=by
 have Hl:=Z5 h.len
 have Hl':=Z5 h'.len
 have hpl:=h.pl
 have hpl':=h'.pl
 have hmax:=h.max
 unfold maxLen at hmax
 by_cases hn : n=n'
 ·subst hn
  have hnn : ((n : Int) != n)=false:=by simp
  go_enter Tryz.func209,Tryz.ntmps209
  go_wp2_with fail
  go_loopw [13] (λiv wr=>∃k : Nat,k<=n/\iv = .int .i64 k/\Hid (l.take k=l'.take k)/\bd w wr) (λi _=>n - (intOf i).toNat)
  case atStart=>exact ⟨0,Nat.zero_le _,rfl,rfl,bd.refl _⟩
  case round =>
   obtain ⟨k,hk,rfl,htk,hd⟩:=hrel
   by_cases hlt : k<n
   ·have c1:=(h.drawn hd).cell k hlt
    have c2:=(h'.drawn hd).cell k hlt
    by_cases he : nth l k=nth l' k
    ·have he' : (nth l k != nth l' k)=false:=by simpa using he
     have Hs : Hid (l.take (k+1)=l'.take (k+1)):=rR htk.out (by rw [Hl.out];exact hlt) (by rw [Hl'.out];exact hlt) he
     clear he
     go_wp2_with fail
     go_quiet (fail)
     go_wp2
     go_roundw
     case rel=>exact ⟨k+1,by omega,by go_num,Hs.out,hd.drewN _⟩
     case measure=>simp [intOf] <;> omega
    ·have he' : (nth l k != nth l' k)=true:=by simpa using he
     have Hs : Hid (decide (l=l')=false):=by
      show _=_;simp;intro e;exact he (by rw [e])
     clear he
     go_wp2_with fail
     go_quiet (fail)
     go_wp2
     go_ret
     exact ⟨aY Hs.out.symm,hd.drewN _⟩
   ·obtain rfl : k=n:=by omega
    have Hs : Hid (decide (l=l')=true):=by
     show _=_
     have:=htk.out
     rw [List.take_of_length_le (by rw [Hl.out];exact Nat.le_refl _),List.take_of_length_le (by rw [Hl'.out];exact Nat.le_refl _)] at this
     simpa using this
    go_wp2_with fail
    go_ret
    exact ⟨aY Hs.out.symm,hd⟩
 ·have hnn : ((n : Int) != n')=true:=by simp;omega
  have Hs : Hid (decide (l=l')=false):=by
   show _=_;simp;intro e;have e1:=Hl.out;have e2:=Hl'.out;rw [e] at e1;omega
  clear hn
  go_enter Tryz.func209,Tryz.ntmps209
  go_wp2_with fail
  go_ret
  exact ⟨aY Hs.out.symm,bd.refl _⟩
theorem uH (a : OA) (n c : Nat) (l : Ll) (a' : OA) (n' c' : Nat) (l' : Ll) (h : bZ w a n l) (h' : bZ w a' n' l') :
  Calls Tryz.prog 208 #[.slice a n c,.slice a' n' c',.func (.func 209) #[] #[]] w (lp w (decide (l=l'))):=by
 have Hl:=Z5 h.len
 have Hl':=Z5 h'.len
 have hpl:=h.pl
 have hpl':=h'.pl
 have hmax:=h.max
 unfold maxLen at hmax
 by_cases hn : n=n'
 ·subst hn
  have hnn : ((n : Int) != n)=false:=by simp
  go_enter Tryz.func208,Tryz.ntmps208
  go_wp2_with fail
  go_loopw [17] (λiv wr=>∃k : Nat,k<=n/\iv = .int .i64 k/\Hid (l.take k=l'.take k)/\bd w wr) (λi _=>n - (intOf i).toNat)
  case atStart=>exact ⟨0,Nat.zero_le _,rfl,rfl,bd.refl _⟩
  case round =>
   obtain ⟨k,hk,rfl,htk,hd⟩:=hrel
   by_cases hlt : k<n
   ·obtain ⟨b1,n1,d1,c1,i1⟩:=(h.drawn hd).cell k hlt
    obtain ⟨b2,n2,d2,c2,i2⟩:=(h'.drawn hd).cell k hlt
    go_wp2_with fail
    refine (DT _ _ _ _ _ _ _ _ i1 i2).mono ?_
    rintro e w2 ⟨rfl,hd2⟩
    by_cases he : aj l k=aj l' k
    ·have he' : decide (aj l k=aj l' k)=true:=by simpa using he
     have Hs : Hid (l.take (k+1)=l'.take (k+1)):=pK htk.out (by rw [Hl.out];exact hlt) (by rw [Hl'.out];exact hlt) he
     rw [he']
     clear he he'
     go_wp2_with fail
     go_roundw
     case rel=>exact ⟨k+1,by omega,by go_num,Hs.out,hd.trans hd2⟩
     case measure=>simp [intOf] <;> omega
    ·have he' : decide (aj l k=aj l' k)=false:=by simpa using he
     have Hs : Hid (decide (l=l')=false):=by
      show _=_;simp;intro e;exact he (by rw [e])
     rw [he']
     clear he he'
     go_wp2_with fail
     go_ret
     exact ⟨aY Hs.out.symm,hd.trans hd2⟩
   ·obtain rfl : k=n:=by omega
    have Hs : Hid (decide (l=l')=true):=by
     show _=_
     have:=htk.out
     rw [List.take_of_length_le (by rw [Hl.out];exact Nat.le_refl _),List.take_of_length_le (by rw [Hl'.out];exact Nat.le_refl _)] at this
     simpa using this
    go_wp2_with fail
    go_ret
    exact ⟨aY Hs.out.symm,hd⟩
 ·have hnn : ((n : Int) != n')=true:=by simp;omega
  have Hs : Hid (decide (l=l')=false):=by
   show _=_;simp;intro e;have e1:=Hl.out;have e2:=Hl'.out;rw [e] at e1;omega
  clear hn
  go_enter Tryz.func208,Tryz.ntmps208
  go_wp2_with fail
  go_ret
  exact ⟨aY Hs.out.symm,bd.refl _⟩
end
def eC (P M : Int) (mod : Lz) (cols : Int) (L : Ll) : Int :=
 if dM P M mod cols L=0 then (if dr (aa P M.toNat mod) L cols.toNat=L then 0 else 5) else dM P M mod cols L
def vo (P M : Int) (mod : Lz) (cols : Int) (a : OA) (n c : Nat) (L : Ll) (w : World) (e : Ending) (w' : World) : Prop :=
 Below w.heap.size w w'/\(
 (eC P M mod cols L ≠ 0/\e = .returned (.tuple #[.agg #[.pointer none,.int .i64 0,.slice none 0 0,.slice none 0 0],.int .i64 (eC P M mod cols L)])) \/
 (eC P M mod cols L=0/\∃(m b : Nat),cols=m/\∃ap cp,e = .returned (.tuple #[.agg #[.pointer (some ⟨b,0,none⟩),.int .i64 m,.slice a n c,.slice ap (ek (aa P M.toNat mod) L m).length cp],.int .i64 0]) /\
  GH w.heap.size w' b (aa P M.toNat mod)/\w.heap.size<=b/\dj w.heap.size w' ap (ek (aa P M.toNat mod) L m).length (ek (aa P M.toNat mod) L m)))
theorem kM (P M : Int) (am : OA) (mn cm : Nat) (mod : Lz) (cols : Int) (a : OA) (n c : Nat) (L : Ll) (w : World) (hmod : Ints w am mn mod) (hi : bZ w a n L) :
  Calls Tryz.prog 142 #[.agg #[.int .i64 P,.int .i64 M,.slice am mn cm],.agg #[.int .i64 cols,.slice a n c]] w (vo P M mod cols a n c L w):=by
 have Hlen:=Z5 hi.len
 go_enter Tryz.func142,Tryz.ntmps142
 go_wp2_with fail
 obtain ⟨W,hW⟩ : ∃W : World,W=(((w.alloc (.cells #[.int .i64 P,.int .i64 M,.slice am mn cm] 24)).alloc (.cells #[.int .i64 cols,.slice a n c] 82)).alloc (.cells #[.pointer none,.int .i64 0,.slice none 0 0,.slice none 0 0] 162)):=⟨_,rfl⟩
 rw [<- hW]
 have hbW : Below w.heap.size w W:=by rw [hW];exact kO _ _ _ _
 have hsW : W.heap.size=w.heap.size+3:=by rw [hW];simp
 have x0 : aV W w.heap.size [.int .i64 P,.int .i64 M,.slice am mn cm]:=by rw [hW];exact ((aV.new _ _ _ rfl).alloc _).alloc _
 have x1 : aV W (w.heap.size+1) [.int .i64 cols,.slice a n c]:=by rw [hW];exact (aV.new _ _ _ (by simp)).alloc _
 have x2 : aV W (w.heap.size+1+1) [.pointer none,.int .i64 0,.slice none 0 0,.slice none 0 0]:=by rw [hW];exact aV.new _ _ _ (by simp)
 have HX:=Z5 (And.intro x0 (And.intro x1 x2))
 have HsW:=Z5 hsW
 have hiW:=hi.ah hbW
 have hmW:=hmod.ah hbW
 clear hW hsW x0 x1 x2
 refine (kR P M am mn cm mod cols a n c L W hmW hiW).mono ?_
 rintro e w1 ⟨hb1,⟨he,rfl⟩ | ⟨he,m,rfl,a2,c2,ap,cp,rfl,hM2,hp2⟩⟩
 ·have hbw1:=Below.next hbW hb1
  have HB : Hid (eC P M mod cols L=dM P M mod cols L):=by show _=_;rw [eC,if_neg he]
  have HE:=Z5 he
  have he' : (dM P M mod cols L != 0)=true:=by simpa using he
  clear he
  generalize dM P M mod cols L=er at *
  have x2:=HX.out.2.2.ah hb1
  have f0:=x2.frozen 0
  have f1:=x2.frozen 1
  have f2:=x2.frozen 2
  have f3:=x2.frozen 3
  have k0:=x2.cell 0 rfl
  have k1:=x2.cell 1 rfl
  have k2:=x2.cell 2 rfl
  have k3:=x2.cell 3 rfl
  clear x2
  have hz : w.heap.size+1+1<w1.heap.size:=by have:=hb1.size;have:=HsW.out;omega
  go_wp2_with fail
  exact bodyPost_ret (v:=.tuple #[.agg #[.pointer none,.int .i64 0,.slice none 0 0,.slice none 0 0],.int .i64 er]) (by simp [results,Tryz.results142,go_sem,k0,k1,k2,k3,hz]) rfl
   ⟨(((((hbw1.setCell (by simp;omega) _).setCell (by simp;omega) _).setCell (by simp;omega) _).setCell (by simp;omega) _).alloc (by simp;omega) _),.inl ⟨by rw [HB.out];exact HE.out,by rw [HB.out]⟩⟩
 ·have hbw1:=Below.next hbW hb1
  have hb2 : Below w1.heap.size w1 (w1.alloc (.cells #[.int .i64 m,.slice a2 (ek (aa P M.toNat mod) L m).length c2] 82)):=an _ _
  have hz : w.heap.size+1+1<w1.heap.size:=by have:=hb1.size;have:=HsW.out;omega
  have x1:=HX.out.2.1.ah hb1
  have j0:=x1.cell 0 rfl
  have j1:=x1.cell 1 rfl
  have He:=Z5 he
  have hz1 : w.heap.size+1<w1.heap.size:=by omega
  clear x1 he
  go_wp2_with fail
  refine (uH _ _ _ _ _ _ _ _ (hM2.kK.ah hb2) ((hiW.ah hb1).ah hb2)).mono ?_
  rintro e w3 ⟨rfl,hd3⟩
  have hb3 : Below w1.heap.size w1 w3:=Below.next hb2 hd3.below
  have hbw3:=Below.next hbw1 hb3
  have hz3 : w.heap.size+1+1<w3.heap.size:=Nat.lt_of_lt_of_le hz hb3.size
  have x0:=(HX.out.1.ah hb1).ah hb3
  have x1:=(HX.out.2.1.ah hb1).ah hb3
  have x2:=(HX.out.2.2.ah hb1).ah hb3
  by_cases hc : dr (aa P M.toNat mod) L m=L
  ·have hc' : decide (dr (aa P M.toNat mod) L m=L)=true:=by simpa using hc
   have HB : Hid (eC P M mod m L=0):=by show _=_;rw [eC,if_pos He.out,Int.toNat_natCast,if_pos hc]
   rw [hc']
   have hmW3:=(hmW.ah hb1).ah hb3
   have i0:=x0.cell 0 rfl
   have i1:=x0.cell 1 rfl
   have i2:=x0.cell 2 rfl
   have hfb : bA P M mod=true:=by
    have:=He.out
    unfold dM at this
    split at this
    ·assumption
    ·omega
   have Hfb:=Z5 hfb
   clear hc hc' x0 x1 hfb
   go_wp2_with fail
   refine (fH P M am mn cm mod w3 hmW3).mono ?_
   rintro e w4 (⟨hB,rfl,hb4⟩ | ⟨hB,b,rfl,hG,hbl,hb4⟩)
   ·rw [Hfb.out] at hB;cases hB
   ·clear hB
    have hbw4:=Below.next hbw3 hb4
    have x1:=((HX.out.2.1.ah hb1).ah hb3).ah hb4
    have x2:=((HX.out.2.2.ah hb1).ah hb3).ah hb4
    have j0:=x1.cell 0 rfl
    have j1:=x1.cell 1 rfl
    have f0:=x2.frozen 0
    have f1:=x2.frozen 1
    have f2:=x2.frozen 2
    have f3:=x2.frozen 3
    have k0:=x2.cell 0 rfl
    have k1:=x2.cell 1 rfl
    have k2:=x2.cell 2 rfl
    have k3:=x2.cell 3 rfl
    have hp4:=(hp2.ah hb3).ah hb4
    have hF : vo P M mod m a n c L w (.returned (.tuple #[.agg #[.pointer (some ⟨b,0,none⟩),.int .i64 m,.slice a n c,.slice ap (ek (aa P M.toNat mod) L m).length cp],.int .i64 0]))
      ((((w4.setCell ⟨w.heap.size+1+1,0,none⟩ (.pointer (some ⟨b,0,none⟩))).setCell ⟨w.heap.size+1+1,1,none⟩ (.int .i64 m)).setCell ⟨w.heap.size+1+1,2,none⟩ (.slice a n c)).setCell ⟨w.heap.size+1+1,3,none⟩ (.slice ap (ek (aa P M.toNat mod) L m).length cp)):=by
     have hs:=HsW.out
     have hs3:=hb3.size
     refine ⟨(((hbw4.setCell (by simp;omega) _).setCell (by simp;omega) _).setCell (by simp;omega) _).setCell (by simp;omega) _,.inr ⟨HB.out,m,b,rfl,ap,cp,rfl,?_,?_,?_⟩⟩
     ·exact ((((hG.setCell (by simp;omega) _).setCell (by simp;omega) _).setCell (by simp;omega) _).setCell (by simp;omega) _).mono (by omega)
     ·omega
     ·exact ((((hp4.setCell (by simp;omega) _).setCell (by simp;omega) _).setCell (by simp;omega) _).setCell (by simp;omega) _).mono (by omega)
    have HF:=Z5 hF
    clear hF hp4 hp2 x1 x2
    generalize (ek (aa P M.toNat mod) L m).length=k at *
    go_wp2_with fail
    exact bodyPost_ret (v:=.tuple #[.agg #[.pointer (some ⟨b,0,none⟩),.int .i64 m,.slice a n c,.slice ap k cp],.int .i64 0]) (by simp [results,Tryz.results142,go_sem,k0,k1,k2,k3]) rfl HF.out
  ·have hc' : decide (dr (aa P M.toNat mod) L m=L)=false:=by simpa using hc
   have HB : Hid (eC P M mod m L=5):=by show _=_;rw [eC,if_pos He.out,Int.toNat_natCast,if_neg hc]
   rw [hc']
   have f0:=x2.frozen 0
   have f1:=x2.frozen 1
   have f2:=x2.frozen 2
   have f3:=x2.frozen 3
   have k0:=x2.cell 0 rfl
   have k1:=x2.cell 1 rfl
   have k2:=x2.cell 2 rfl
   have k3:=x2.cell 3 rfl
   clear hc hc' x0 x1 x2
   go_wp2_with fail
   exact bodyPost_ret (v:=.tuple #[.agg #[.pointer none,.int .i64 0,.slice none 0 0,.slice none 0 0],.int .i64 5]) (by simp [results,Tryz.results142,go_sem,k0,k1,k2,k3]) rfl
    ⟨(((hbw3.setCell (by simp;omega) _).setCell (by simp;omega) _).setCell (by simp;omega) _).setCell (by simp;omega) _,.inl ⟨by rw [HB.out];omega,by rw [HB.out]⟩⟩
theorem tm (P M : Int) (am : OA) (mn cm : Nat) (mod : Lz) (cols : Int) (a : OA) (n c : Nat) (L : Ll) (w : World) (hmod : Ints w am mn mod) (hi : bZ w a n L) :
  Calls Tryz.prog 126 #[.agg #[.int .i64 P,.int .i64 M,.slice am mn cm],.agg #[.int .i64 cols,.slice a n c]] w λe w'=>e = .returned (.int .i64 (eC P M mod cols L))/\Below w.heap.size w w':=by
 have Hal:=Z5 (dH w (.cells #[.int .i64 P,.int .i64 M,.slice am mn cm] 24) (.cells #[.int .i64 cols,.slice a n c] 82))
 go_enter Tryz.func126,Tryz.ntmps126
 go_wp2_with fail
 have hb:=Hal.out
 generalize (w.alloc (.cells #[.int .i64 P,.int .i64 M,.slice am mn cm] 24)).alloc (.cells #[.int .i64 cols,.slice a n c] 82)=W at *
 refine (kM P M am mn cm mod cols a n c L W (hmod.ah hb) (hi.ah hb)).mono ?_
 rintro e w1 ⟨hb1,⟨he,rfl⟩ | ⟨he,m,b,rfl,ap,cp,rfl,hG,hbl,hp⟩⟩
 ·have hbw:=Below.next hb hb1
  clear he
  go_wp2_with fail
  go_ret
  exact ⟨rfl,hbw.alloc hbw.size _⟩
 ·have hbw:=Below.next hb hb1
  have He:=Z5 he
  clear he hp
  generalize (ek (aa P M.toNat mod) L m).length=k at *
  go_wp2_with fail
  go_ret
  exact ⟨aF He.out.symm,hbw.alloc hbw.size _⟩
theorem CG (P M : Int) (am : OA) (mn cm : Nat) (N : Int) (a : OA) (n c : Nat) (w : World) :
  Calls Tryz.prog 73 #[.agg #[.int .i64 P,.int .i64 M,.slice am mn cm,.int .i64 N,.slice a n c]] w λe w'=>e = .returned (.agg #[.int .i64 N,.slice a n c])/\Below w.heap.size w w':=by
 go_enter Tryz.func73,Tryz.ntmps73
 go_wp2_with fail
 exact bodyPost_ret (v:=.agg #[.int .i64 N,.slice a n c]) (by simp [results,Tryz.results73,go_sem]) rfl ⟨rfl,dH _ _ _⟩
def gJ (n : Int) : Int:=if n<1\/64<n then 4 else 0
theorem ui (n : Int) (w : World) : Calls Tryz.prog 125 #[.int .i64 n] w λe w'=>e = .returned (.int .i64 (gJ n))/\w=w':=by
 by_cases h1 : n<1
 ·have Hf : Hid (gJ n=4):=by show _=_;rw [gJ,if_pos (.inl h1)]
  go_enter Tryz.func125,Tryz.ntmps125
  go_wp2
  go_ret
  exact ⟨aF Hf.out.symm,rfl⟩
 ·have h1' : decide (n<1)=false:=by simpa using h1
  by_cases h2 : 64<n
  ·have Hf : Hid (gJ n=4):=by show _=_;rw [gJ,if_pos (.inr h2)]
   go_enter Tryz.func125,Tryz.ntmps125
   go_wp2
   go_ret
   exact ⟨aF Hf.out.symm,rfl⟩
  ·have Hf : Hid (gJ n=0):=by show _=_;rw [gJ,if_neg (by omega)]
   have h2' : decide (64<n)=false:=by simpa using h2
   go_enter Tryz.func125,Tryz.ntmps125
   go_wp2
   go_ret
   exact ⟨aF Hf.out.symm,rfl⟩
def aL (P M : Int) (mod : Lz) (N : Int) (L : Ll) : Int :=
 if bA P M mod=true then (if gJ N=0 then eC P M mod N L else 4) else 1
theorem fb (P M : Int) (am : OA) (mn cm : Nat) (mod : Lz) (N : Int) (a : OA) (n c : Nat) (L : Ll) (w : World) (hmod : Ints w am mn mod) (hi : bZ w a n L) :
  Calls Tryz.prog 61 #[.agg #[.int .i64 P,.int .i64 M,.slice am mn cm,.int .i64 N,.slice a n c]] w λe w'=>e = .returned (.int .i64 (aL P M mod N L))/\Below w.heap.size w w':=by
 go_enter Tryz.func61,Tryz.ntmps61
 go_wp2_with fail
 obtain ⟨W,hW⟩ : ∃W : World,W=w.alloc (.cells #[.int .i64 P,.int .i64 M,.slice am mn cm,.int .i64 N,.slice a n c] 27):=⟨_,rfl⟩
 rw [<- hW]
 have hbW : Below w.heap.size w W:=by rw [hW];exact an _ _
 have x0 : aV W w.heap.size [.int .i64 P,.int .i64 M,.slice am mn cm,.int .i64 N,.slice a n c]:=by rw [hW];exact aV.new _ _ _ rfl
 have HX:=Z5 x0
 clear hW x0
 refine (sW P M am mn cm mod W (hmod.ah hbW)).mono ?_
 rintro e w1 ⟨rfl,hb1⟩
 have hbw1:=Below.next hbW hb1
 by_cases hB : bA P M mod=true
 ·have hE : bG (bA P M mod)=0:=by rw [hB];rfl
  rw [hE]
  have HB : Hid (aL P M mod N L=if gJ N=0 then eC P M mod N L else 4):=by show _=_;rw [aL,if_pos hB]
  have x1:=HX.out.ah hb1
  have c3:=x1.cell 3 rfl
  clear hE hB x1
  go_wp2_with fail
  refine (ui N w1).mono ?_
  rintro e w2 ⟨rfl,rfl⟩
  by_cases hl : gJ N=0
  ·have HB2 : Hid (aL P M mod N L=eC P M mod N L):=by show _=_;rw [HB.out,if_pos hl]
   rw [hl]
   clear hl
   go_wp2_with fail
   have hS : ∀V,Below w1.heap.size w1 V->V.cell? ⟨w.heap.size,0,none⟩=some (.int .i64 P)/\V.cell? ⟨w.heap.size,1,none⟩=some (.int .i64 M)/\V.cell? ⟨w.heap.size,2,none⟩=some (.slice am mn cm)/\V.cell? ⟨w.heap.size,3,none⟩=some (.int .i64 N)/\V.cell? ⟨w.heap.size,4,none⟩=some (.slice a n c)/\Ints V am mn mod/\bZ V a n L/\Below w1.heap.size w1 V:=by
    intro V hV
    have x1:=(HX.out.ah hb1).ah hV
    exact ⟨x1.cell 0 rfl,x1.cell 1 rfl,x1.cell 2 rfl,x1.cell 3 rfl,x1.cell 4 rfl,((hmod.ah hbW).ah hb1).ah hV,((hi.ah hbW).ah hb1).ah hV,hV⟩
   have HS:=Z5 hS
   clear hS c3
   go_region_held3 (λV=>V.cell? ⟨w.heap.size,0,none⟩=some (.int .i64 P)/\V.cell? ⟨w.heap.size,1,none⟩=some (.int .i64 M)/\V.cell? ⟨w.heap.size,2,none⟩=some (.slice am mn cm)/\V.cell? ⟨w.heap.size,3,none⟩=some (.int .i64 N)/\V.cell? ⟨w.heap.size,4,none⟩=some (.slice a n c)/\Ints V am mn mod/\bZ V a n L/\Below w1.heap.size w1 V)
    ((refine HS.out _ ?_;first | exact (Below.refl _ _).drew | (go_split_ands;exact Below.next (by assumption) (by assumption))))
    (first
     | (go_at_call 73;((with_reducible refine (CG P M am mn cm N a n c _).mono ?_);rintro e w4 ⟨rfl,hb4⟩))
     | (go_at_call 126;((with_reducible refine (tm P M am mn cm mod N a n c L _ (by go_split_ands;assumption) (by go_split_ands;assumption)).mono ?_);rintro e w5 ⟨rfl,hb5⟩)))
   go_wp2_with fail
   go_ret
   exact ⟨aF HB2.out.symm,Below.next hbw1 (by go_split_ands;assumption)⟩
  ·have HB2 : Hid (aL P M mod N L=4):=by show _=_;rw [HB.out,if_neg hl]
   have hl4 : gJ N=4:=by unfold gJ at hl ⊢;split <;> simp_all
   rw [hl4]
   clear hl hl4
   go_wp2_with fail
   go_ret
   exact ⟨aF HB2.out.symm,hbw1⟩
 ·have hE : bG (bA P M mod) = 1 := by
     have : bA P M mod = false := by simpa using hB
     rw [this];rfl
  rw [hE]
  have HB : Hid (aL P M mod N L=1):=by show _=_;rw [aL,if_neg hB]
  clear hE hB
  go_wp2_with fail
  go_ret
  exact ⟨aF HB.out.symm,hbw1⟩
def yT (P M : Int) (mod : Lz) (N : Int) (L : Ll) (w : World) (e : Ending) (w' : World) : Prop :=
 Below w.heap.size w w'/\((aL P M mod N L ≠ 0/\e = .returned (.tuple #[.pointer none,.int .i64 (aL P M mod N L)])) \/
 (aL P M mod N L=0/\∃b,e = .returned (.tuple #[.pointer (some ⟨b,0,none⟩),.int .i64 0])/\eD w' b (aa P M.toNat mod)))
theorem bh {P M : Int} {mod : Lz} {N : Int} {L : Ll} (h : aL P M mod N L=0) : bA P M mod=true/\1<=N/\N<=64/\eC P M mod N L=0:=by
 unfold aL at h
 split at h
 ·rename_i h1
  split at h
  ·rename_i h2
   unfold gJ at h2
   split at h2
   ·omega
   ·exact ⟨h1,by omega,by omega,h⟩
  ·omega
 ·omega
theorem dY {P M : Int} {mod : Lz} {N : Int} {L : Ll} (h : eC P M mod N L=0) : dM P M mod N L=0/\dr (aa P M.toNat mod) L N.toNat=L:=by
 unfold eC at h
 split at h
 ·rename_i h1
  split at h
  ·rename_i h2;exact ⟨h1,h2⟩
  ·omega
 ·rename_i h1;exact absurd h h1
theorem eg {P M : Int} {mod : Lz} {N : Int} {L : Ll} (h : dM P M mod N L=0) : bA P M mod=true/\ew (aa P M.toNat mod).q N L=0:=by
 unfold dM at h
 split at h
 ·rename_i h1;exact ⟨h1,h⟩
 ·omega
theorem rQ (P M : Int) (am : OA) (mn cm : Nat) (mod : Lz) (N : Int) (a : OA) (n c : Nat) (L : Ll) (w : World) (hmod : Ints w am mn mod) (hi : bZ w a n L) :
  Calls Tryz.prog 67 #[.agg #[.int .i64 P,.int .i64 M,.slice am mn cm,.int .i64 N,.slice a n c]] w (yT P M mod N L w):=by
 go_enter Tryz.func67,Tryz.ntmps67
 go_wp2_with fail
 obtain ⟨W,hW⟩ : ∃W : World,W=w.alloc (.cells #[.int .i64 P,.int .i64 M,.slice am mn cm,.int .i64 N,.slice a n c] 27):=⟨_,rfl⟩
 rw [<- hW]
 have hbW : Below w.heap.size w W:=by rw [hW];exact an _ _
 have x0 : aV W w.heap.size [.int .i64 P,.int .i64 M,.slice am mn cm,.int .i64 N,.slice a n c]:=by rw [hW];exact aV.new _ _ _ rfl
 have HX:=Z5 x0
 clear hW x0
 refine (fb P M am mn cm mod N a n c L W (hmod.ah hbW) (hi.ah hbW)).mono ?_
 rintro e w1 ⟨rfl,hb1⟩
 have hbw1:=Below.next hbW hb1
 by_cases hE : aL P M mod N L=0
 ·obtain ⟨hf,_⟩:=bh hE
  have HE:=Z5 hE
  have Hf:=Z5 hf
  rw [hE]
  have x1:=HX.out.ah hb1
  have c0:=x1.cell 0 rfl
  have c1:=x1.cell 1 rfl
  have c2:=x1.cell 2 rfl
  have hm1:=(hmod.ah hbW).ah hb1
  clear hE x1 hf
  go_wp2_with fail
  refine (fH P M am mn cm mod w1 hm1).mono ?_
  rintro e w2 (⟨hB,rfl,hb2⟩ | ⟨hB,b,rfl,hG,hbl,hb2⟩)
  ·rw [Hf.out] at hB;cases hB
  ·clear hB
   have hg:=hG.gf
   go_wp2_with fail
   go_ret2
   exact ⟨Below.next hbw1 hb2,.inr ⟨HE.out,b,rfl,hg⟩⟩
 ·have HE:=Z5 hE
  have hE' : (aL P M mod N L != 0)=true:=by simpa using hE
  clear hE
  go_wp2_with fail
  go_ret2
  exact ⟨hbw1,.inl ⟨HE.out,rfl⟩⟩
def dS (N : Int) (l : Lz) (k : Nat) : Bool:=decide (0<=nth l k) && decide (nth l k<N) && (k == 0 || decide (nth l (k - 1)<nth l k))
def mg (N : Int) (l : Lz) (k : Nat) : Bool:=(List.range k).all (dS N l)
def bF (N : Int) (l : Lz) : Bool:=mg N l l.length
theorem eE {N : Int} {l : Lz} {k : Nat} (h : mg N l k=true) (hk : dS N l k=true) : mg N l (k+1)=true:=by
 unfold mg at *
 rw [List.range_succ,List.all_append,h];simp [hk]
theorem o7 {N : Int} {l : Lz} {k n : Nat} (hk : k<n) (h : dS N l k=false) : mg N l n=false:=by
 unfold mg
 rw [List.all_eq_false]
 exact ⟨k,List.mem_range.2 hk,by simp [h]⟩
theorem gh {N : Int} {l : Lz} (h : bF N l=true) {k : Nat} (hk : k<l.length) : 0<=nth l k/\nth l k<N/\(0<k->nth l (k - 1)<nth l k):=by
 unfold bF mg at h
 rw [List.all_eq_true] at h
 have:=h k (List.mem_range.2 hk)
 unfold dS at this
 simp only [Bool.and_eq_true,Bool.or_eq_true,decide_eq_true_eq,beq_iff_eq] at this
 exact ⟨this.1.1,this.1.2,λh0=>by rcases this.2 with h1 | h1;omega;exact h1⟩
def jl (N : Int) (S : Ll) : Int:=if S.all (bF N) then 0 else 6
theorem Gu (P M : Int) (am : OA) (mn cm : Nat) (N : Int) (a : OA) (n c : Nat) (sa : OA) (ns cs : Nat) (S : Ll) (w : World) (hi : bZ w sa ns S) :
  Calls Tryz.prog 221 #[.agg #[.int .i64 P,.int .i64 M,.slice am mn cm,.int .i64 N,.slice a n c],.slice sa ns cs] w λe w'=>e = .returned (.int .i64 (jl N S))/\Below w.heap.size w w':=by
 have Hlen:=Z5 hi.len
 have hpl:=hi.pl
 have hmax:=hi.max
 unfold maxLen at hmax
 go_enter Tryz.func221,Tryz.ntmps221
 go_wp2_with fail
 obtain ⟨W,hW⟩ : ∃W : World,W=w.alloc (.cells #[.int .i64 P,.int .i64 M,.slice am mn cm,.int .i64 N,.slice a n c] 27):=⟨_,rfl⟩
 rw [<- hW]
 have hbW : Below w.heap.size w W:=by rw [hW];exact an _ _
 have c3 : W.cell? ⟨w.heap.size,3,none⟩=some (.int .i64 N):=by rw [hW];exact aH _ _ _ rfl 3
 have hiW:=hi.ah hbW
 clear hW
 go_loop [11] (λiv=>∃k : Nat,k<=ns/\iv = .int .i64 k/\Hid ((S.take k).all (bF N)=true)) (λiv=>ns - (intOf iv).toNat)
 case atStart=>exact ⟨0,Nat.zero_le _,rfl,by show _=_;simp⟩
 case round =>
  obtain ⟨k,hk,rfl,hall⟩:=hrel
  by_cases hlt : k<ns
  ·obtain ⟨ra,rn,rc,hcell,hrow⟩:=hiW.cell k hlt
   have hkS : k<S.length:=by rw [Hlen.out];exact hlt
   have Hrl:=Z5 hrow.len
   have hpr:=hrow.pl
   have hmr:=hrow.max
   unfold maxLen at hmr
   have Hng : Hid (aj S k=S[k]):=aE hkS
   generalize aj S k=l at *
   go_wp2_with fail
   go_loop [17] (λiv=>∃j : Nat,j<=rn/\iv = .int .i64 j/\Hid (mg N l j=true)) (λiv=>rn - (intOf iv).toNat)
   case atStart=>exact ⟨0,Nat.zero_le _,rfl,by show _=_;simp [mg]⟩
   case round =>
    obtain ⟨j,hj,rfl,hok⟩:=hrel
    by_cases hlt2 : j<rn
    ·have cj:=hrow.cell j hlt2
     have hbad : dS N l j=false->jl N S=6:=λhb=>by
      rw [jl,if_neg]
      have h1 : bF N S[k]=false:=by rw [<- Hng.out];exact o7 (by rw [Hrl.out];exact hlt2) hb
      rw [bS hkS h1];simp
     have Hbad:=Z5 hbad
     clear hbad
     by_cases h0 : 0<=nth l j
     ·by_cases h1 : nth l j<N
      ·have d1 : decide (nth l j<0)=false:=by simp;omega
       have d2 : decide (N<=nth l j)=false:=by simp;omega
       by_cases hj0 : j=0
       ·subst hj0
        have Hgood : Hid (dS N l 0=true):=by show _=_;unfold dS;simp [h0,h1]
        rw [Nat.add_zero] at cj
        go_wp2_with fail
        go_round
        case rel=>exact ⟨1,by omega,by go_num,eE hok.out Hgood.out⟩
        case measure=>simp [intOf] <;> omega
       ·have cp:=hrow.cell (j - 1) (by omega)
        have e1 : ((j : Int) - 1).toNat=j - 1:=by omega
        have d3 : decide (0<(j : Int))=true:=by simp;omega
        have d4 : (0 : Int)<=(j : Int) - 1:=by omega
        have d5 : (1 : Int)<=(j : Int):=by omega
        have d6 : (j : Int) - 1<rn:=by omega
        by_cases h2 : nth l (j - 1)<nth l j
        ·have Hgood : Hid (dS N l j=true):=by show _=_;unfold dS;simp [h0,h1,h2]
         have h2' : decide (nth l j<=nth l (j - 1))=false:=by simp;omega
         clear hj0 e1
         go_wp2_with fail
         go_round
         case rel=>exact ⟨j+1,by omega,by go_num,eE hok.out Hgood.out⟩
         case measure=>simp [intOf] <;> omega
        ·have Hb : Hid (jl N S=6):=Hbad.out (by unfold dS;simp [h2,hj0])
         have h2' : decide (nth l j<=nth l (j - 1))=true:=by simp;omega
         clear hj0 e1
         go_wp2_with fail
         go_ret
         exact ⟨aF Hb.out.symm,hbW⟩
      ·have Hb : Hid (jl N S=6):=Hbad.out (by unfold dS;simp [h1])
       have d1 : decide (nth l j<0)=false:=by simp;omega
       have d2 : decide (N<=nth l j)=true:=by simp;omega
       go_wp2_with fail
       go_ret
       exact ⟨aF Hb.out.symm,hbW⟩
     ·have Hb : Hid (jl N S=6):=Hbad.out (by unfold dS;simp [h0])
      have d1 : decide (nth l j<0)=true:=by simp;omega
      go_wp2_with fail
      go_ret
      exact ⟨aF Hb.out.symm,hbW⟩
    ·obtain rfl : j=rn:=by omega
     have Hg : Hid (bF N S[k]=true):=by show _=_;rw [<- Hng.out,bF,Hrl.out];exact hok.out
     go_wp2_with fail
     go_round
     case rel=>exact ⟨k+1,by omega,by go_num,bU hkS hall.out Hg.out⟩
     case measure=>simp [intOf] <;> omega
  ·obtain rfl : k=ns:=by omega
   have Hg : Hid (jl N S=0):=by
    have:=hall.out
    rw [List.take_of_length_le (by rw [Hlen.out];exact Nat.le_refl _)] at this
    show _=_;rw [jl,if_pos this]
   go_wp2_with fail
   go_ret
   exact ⟨aF Hg.out.symm,hbW⟩
def bf (L : Ll) (i : Nat) : Lz:=L.map λr=>nth r i
theorem dc (L : Ll) (i : Nat) : (bf L i).length=L.length:=by simp [bf]
theorem cZ (L : Ll) (i k : Nat) (hk : k<L.length) : nth (bf L i) k=nth (aj L k) i:=by
 rw [ai (by rw [dc];exact hk),aE hk];simp [bf]
theorem AR (P M : Int) (am : OA) (mn cm : Nat) (N : Int) (a : OA) (n c : Nat) (L : Ll) (i : Nat) (w : World) (hi : bZ w a n L) (hL : ∀r ∈ L,i<r.length) (hn : n<=1000000) :
  Calls Tryz.prog 133 #[.agg #[.int .i64 P,.int .i64 M,.slice am mn cm,.int .i64 N,.slice a n c],.int .i64 i] w (cC w (bf L i)):=by
 have Hlen:=Z5 hi.len
 have hpl:=hi.pl
 have HL:=Z5 hL
 clear hL
 go_enter Tryz.func133,Tryz.ntmps133
 go_wp2_with (at_make;refine bV rfl _ _ 22 3 rfl (.int .i64 0) 8 Tryz.underlying22 aX rfl n rfl rfl (by omega) (by unfold maxLen;omega) ?_;intro a1 w1 hown hbel hge hlt;have c4 : w1.cell? ⟨w.heap.size,4,none⟩=some (.slice a n c):=aw hbel (aH _ _ _ rfl 4))
 have hbw : Below w.heap.size w w1:=Below.next (an w _) hbel
 have hs1 : w.heap.size+1<=ablk a1:=by simpa using hge
 have hown1 : w1.ownsRow w.heap.size 3 1 (.slice a1 n n) n (List.replicate n (.int .i64 0)):=aP hown (by simp)
 clear hown hbel hge
 go_loopw [15] (λiv wr=>∃k : Nat,k<=n/\iv = .int .i64 k /\
   wr.ownsRow w.heap.size 3 1 (.slice a1 n n) n ((bT ((bf L i).take k) k n).map (Value.int .i64))/\Below w.heap.size w wr)
  (λi _=>n - (intOf i).toNat)
 case atStart=>exact ⟨0,Nat.zero_le _,rfl,by simpa [bT] using hown1,hbw⟩
 case round =>
  obtain ⟨k,hk,rfl,hown,hbel⟩:=hrel
  obtain ⟨hints,hmine⟩:=Ints.own hown
  have hpl1:=hints.pl
  by_cases hlt : k<n
  ·obtain ⟨ra,rn,rc,hcell,hrow⟩:=(hi.ah hbel).cell k hlt
   have hkL : k<L.length:=by rw [Hlen.out];exact hlt
   have hri : i<rn:=by rw [<- hrow.len,aE hkL];exact HL.out _ (List.getElem_mem hkL)
   have ci:=hrow.cell i hri
   have hpr:=hrow.pl
   have hf:=(hmine (by omega)).2 k hlt
   have hc2:=hints.cell k hlt
   have hB:=(hmine (by omega)).1
   have Hv:=Z5 (cZ L i k hkL)
   go_wp2_with fail
   go_roundw
   case rel =>
    refine ⟨k+1,by omega,by go_num,?_,hbel.setCell hB _⟩
    have h:=bC hown k hlt (.int .i64 (nth (aj L k) i))
    rw [<- List.map_set,dC _ _ _ _ (by rw [List.length_take,dc];omega) hlt] at h
    rw [List.take_succ_eq_append_getElem (by rw [dc];omega),<- ai,Hv.out]
    exact h
   case measure=>simp [intOf] <;> omega
  ·obtain rfl : k=n:=by omega
   have hl : (bf L i).length=k:=by rw [dc];exact Hlen.out
   rw [eh,List.take_of_length_le (by omega)] at hown
   have Hl:=Z5 hl
   clear hl
   go_wp2_with fail
   go_ret
   exact ⟨a1,k,by rw [Hl.out];rfl,by rw [Hl.out];exact hown,hbel⟩
def fnz : Lz->Nat
 | []=>0
 | x :: l=>if x=0 then fnz l+1 else 0
theorem FD : ∀l,fnz l<=l.length
 | []=>Nat.le_refl _
 | x :: l=>by have:=FD l;unfold fnz;split <;> simp <;> omega
theorem xz : ∀(l : Lz) (k : Nat),k<l.length->(∀j,j<k->nth l j=0)->nth l k ≠ 0->fnz l=k
 | [],k,h,_,_=>by simp at h
 | x :: l,0,_,_,h=>by unfold fnz;rw [if_neg (by simpa [nth] using h)]
 | x :: l,k+1,h,h0,h1=>by
  have hx : x=0:=by simpa [nth] using h0 0 (by omega)
  unfold fnz
  rw [if_pos hx,xz l k (by simpa using h) (λj hj=>by simpa [nth] using h0 (j+1) (by omega)) (by simpa [nth] using h1)]
theorem oY : ∀(l : Lz),(∀j,j<l.length->nth l j=0)->fnz l=l.length
 | [],_=>rfl
 | x :: l,h=>by
  have hx : x=0:=by simpa [nth] using h 0 (by simp)
  unfold fnz
  rw [if_pos hx,oY l (λj hj=>by simpa [nth] using h (j+1) (by simpa using hj))];rfl
theorem jf : ∀(l : Lz),fnz l<l.length->nth l (fnz l) ≠ 0
 | [],h=>by simp at h
 | x :: l,h=>by
  unfold fnz at h ⊢
  split
  ·rename_i hx
   rw [if_pos hx] at h
   have:=jf l (by simpa using h)
   simpa [nth] using this
  ·rename_i hx;simpa [nth] using hx
theorem iO : ∀(l : Lz) (j : Nat),j<fnz l->nth l j=0
 | [],j,h=>by simp [fnz] at h
 | x :: l,j,h=>by
  unfold fnz at h
  split at h
  ·rename_i hx
   match j with
   | 0=>simpa [nth] using hx
   | j+1=>have:=iO l j (by omega);simpa [nth] using this
  ·omega
theorem vC (x : Int) (w : World) : Calls Tryz.prog 192 #[.int .i64 x] w λe w'=>e = .returned (.bool (x != 0))/\w=w':=by
 go_enter Tryz.func192,Tryz.ntmps192
 go_wp2
 go_ret
 exact ⟨rfl,rfl⟩
def jg (l : Lz) : Int:=if fnz l<l.length then fnz l else -1
theorem zO (a : OA) (n c : Nat) (l : Lz) (w : World) (hi : Ints w a n l) :
  Calls Tryz.prog 97 #[.slice a n c,.func (.func 192) #[] #[]] w λe w'=>e = .returned (.int .i64 (jg l))/\w=w':=by
 have Hlen:=Z5 hi.len
 have hpl:=hi.pl
 have hmax:=hi.max
 unfold maxLen at hmax
 go_enter Tryz.func97,Tryz.ntmps97
 go_wp2_with fail
 go_loop [8] (λiv=>∃k : Nat,k<=n/\iv = .int .i64 k/\Hid (∀j,j<k->nth l j=0)) (λiv=>n - (intOf iv).toNat)
 case atStart=>exact ⟨0,Nat.zero_le _,rfl,λj hj=>by omega⟩
 case round =>
  obtain ⟨k,hk,rfl,hall⟩:=hrel
  by_cases hlt : k<n
  ·have ck:=hi.cell k hlt
   by_cases hz : nth l k=0
   ·have hz' : (nth l k != 0)=false:=by simpa using hz
    have Hz:=Z5 hz
    clear hz
    go_wp2_with fail
    refine (vC _ _).mono ?_
    rintro e w' ⟨rfl,rfl⟩
    go_wp2_with fail
    go_round
    case rel=>exact ⟨k+1,by omega,by go_num,λj hj=>by
     rcases Nat.lt_or_ge j k with h | h
     ·exact hall.out j h
     ·rw [show j=k by omega];exact Hz.out⟩
    case measure=>simp [intOf] <;> omega
   ·have hz' : (nth l k != 0)=true:=by simpa using hz
    have Hf : Hid (jg l=k):=by
     show _=_
     have:=xz l k (by rw [Hlen.out];exact hlt) hall.out hz
     rw [jg,this,if_pos (by rw [Hlen.out];exact hlt)]
    clear hz
    go_wp2_with fail
    refine (vC _ _).mono ?_
    rintro e w' ⟨rfl,rfl⟩
    go_wp2_with fail
    go_ret
    exact ⟨aF Hf.out.symm,rfl⟩
  ·obtain rfl : k=n:=by omega
   have Hf : Hid (jg l = -1):=by
    show _=_
    have:=oY l (by rw [Hlen.out];exact hall.out)
    rw [jg,this,if_neg (by omega)]
   go_wp2_with fail
   go_ret
   exact ⟨aF Hf.out.symm,rfl⟩
def dvJ (P : Int) (low : Lz) (v : Nat) (c : Int) (r : Lz) : Nat->Lz
 | 0=>r
 | j+1=>(dvJ P low v c r j).set (v+j) ((nth (dvJ P low v c r j) (v+j)+(P - c) * nth low j) % P)
def oh (P : Int) (low : Lz) (n : Nat) (r : Lz) : Nat->Lz
 | 0=>r
 | k+1=>(dvJ P low (n - 1 - k - low.length) (nth (oh P low n r k) (n - 1 - k)) (oh P low n r k) low.length).set (n - 1 - k) 0
def tH (P : Int) (low mod : Lz) : Bool:=(oh P low (mod.length+1) (mod ++ [1]) (mod.length+1 - low.length)).all λx=>x == 0
def I6 (P : Int) (mod : Lz) (d q : Nat) : Bool:=(List.range q).all λv=>!tH P (digs v P d) mod
def oC (P : Int) (mod : Lz) (k : Nat) : Bool:=(List.range k).all λd=>I6 P mod (d+1) (P ^ (d+1)).toNat
def jM (P : Int) (mod : Lz) : Bool:=oC P mod (mod.length / 2)
def aZ (P M : Int) (mod : Lz) : Bool:=b8 P M mod && (M == 1 || jM P mod)
def bP (l : Lz) : Lz:=l.mergeSort λx y=>decide (x<=y)
theorem dw (l : Lz) : (bP l).Perm l:=List.mergeSort_perm l _
theorem eG (l : Lz) : (bP l).length=l.length:=(dw l).length_eq
theorem sS (l : Lz) : (bP l).Pairwise λx y=>x<=y:=by
 have h:=List.pairwise_mergeSort (le:=λx y : Int=>decide (x<=y)) (λa b c h1 h2=>by simp at *;omega) (λa b=>by simp;omega) l
 exact h.imp λh=>by simpa using h
theorem mT : ∀ {l l' : Lz},l.Pairwise (λx y=>x<=y)->l'.Pairwise (λx y=>x<=y)->l.Perm l'->l=l'
 | [],l',_,_,h=>by rw [List.nil_perm] at h;exact h.symm
 | x :: l,[],_,_,h=>by rw [List.perm_nil] at h;exact h
 | x :: l,y :: l',h1,h2,h=>by
  rw [List.pairwise_cons] at h1 h2
  have hx : x ∈ y :: l':=h.subset (List.mem_cons_self ..)
  have hy : y ∈ x :: l:=h.symm.subset (List.mem_cons_self ..)
  have e : x=y:=by
   rcases List.mem_cons.1 hx with e | hx
   ·exact e
   ·rcases List.mem_cons.1 hy with e | hy
    ·exact e.symm
    ·have:=h1.1 y hy
     have:=h2.1 x hx
     omega
  subst e
  rw [mT h1.2 h2.2 (List.Perm.cons_inv h)]
theorem lR {l l' : Lz} (h : l'.Pairwise λx y=>x<=y) (hp : l'.Perm l) : l'=bP l:=mT h (sS l) (hp.trans (dw l).symm)
theorem uX {l : Lz} (h : ∀i j,i<j->j<l.length->nth l i ≠ nth l j) : l.Nodup:=by
 unfold List.Nodup
 rw [List.pairwise_iff_getElem]
 intro i j hi hj hij
 have:=h i j hij hj
 rwa [ai hi,ai hj] at this
theorem AQ {m : Int} {l : Lz} (hn : l.Nodup) (hb : ∀x ∈ l,0<=x/\x<m) : bF m (bP l)=true:=by
 have h1:=sS l
 have h2 : (bP l).Nodup:=(dw l).nodup_iff.2 hn
 have h3 : ∀x ∈ bP l,0<=x/\x<m:=λx hx=>hb x ((dw l).subset hx)
 rw [List.pairwise_iff_getElem] at h1
 unfold List.Nodup at h2
 rw [List.pairwise_iff_getElem] at h2
 have key : ∀k,(∀i,i<k->dS m (bP l) i=true)->mg m (bP l) k=true:=λk=>by
  induction k with
  | zero=>intro _;rfl
  | succ k ih=>intro h;exact eE (ih λi hi=>h i (by omega)) (h k (by omega))
 unfold bF
 refine key _ λi hi=>?_
 have h4:=h3 _ (List.getElem_mem hi)
 unfold dS
 rw [ai hi]
 by_cases h0 : i=0
 ·simp [h0] at h4 ⊢;omega
 ·have h5:=h1 (i - 1) i (by omega) hi (by omega)
  have h6:=h2 (i - 1) i (by omega) hi (by omega)
  rw [ai (show i - 1<(bP l).length by omega)]
  simp;omega

end Go.Proofs.YtcfmiocdlcapoaaGreat
