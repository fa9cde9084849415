/-  -/
import Derived.Test.YtcflcogbpnmjeaaGreatK28
import Derived.Test.YtcflcogbpnmjeaaGreatK9
namespace Go.Proofs.YtcflcogbpnmjeaaGreat
set_option linter.unusedVariables false
set_option linter.unusedSimpArgs false
set_option linter.unusedSectionVars false

section
open Go.RowKit
theorem lits (V : World) (l : List Int) (cs : Array Value) (h : cs=(l.map (Value.int .i64)).toArray) (hl : l.length≤1000) {g : Nat} (hg : g=V.heap.size) : Ints (V.alloc (.cells cs 3)) (some ⟨g,0,none⟩) l.length l:=by
 subst h
 refine ⟨rfl,fun _=>rfl,by unfold maxLen;omega,fun i hi=>?_⟩
 have h1:=cell_alloc_at V ((l.map (Value.int .i64)).toArray) 3 hg i
 rw [nth_getElem hi]
 simpa [ablk,aoff,hi] using h1
theorem mlit1 (V : World) {p : Addr} {n1 c1 : Nat} {l1 : List Int} (h1 : Ints V (some p) n1 l1) {g : Nat} (hg : g=V.heap.size) : Mat (V.alloc (.cells #[.slice (some p) n1 c1] 22)) (some ⟨g,0,none⟩) 1 [l1] :=
 ⟨rfl,fun _=>rfl,by unfold maxLen;omega,fun k hk=>by
  have h:=cell_alloc_at V #[.slice (some p) n1 c1] 22 hg k
  match k,hk with
  | 0,_=>exact ⟨some p,n1,c1,h,h1.keep (below1 _ _)⟩⟩
theorem mlit2 (V : World) {p q : Addr} {n1 n2 c1 c2 : Nat} {l1 l2 : List Int} (h1 : Ints V (some p) n1 l1) (h2 : Ints V (some q) n2 l2) {g : Nat} (hg : g=V.heap.size) : Mat (V.alloc (.cells #[.slice (some p) n1 c1,.slice (some q) n2 c2] 22)) (some ⟨g,0,none⟩) 2 [l1,l2] :=
 ⟨rfl,fun _=>rfl,by unfold maxLen;omega,fun k hk=>by
  have h:=cell_alloc_at V #[.slice (some p) n1 c1,.slice (some q) n2 c2] 22 hg k
  match k,hk with
  | 0,_=>exact ⟨some p,n1,c1,h,h1.keep (below1 _ _)⟩
  | 1,_=>exact ⟨some q,n2,c2,h,h2.keep (below1 _ _)⟩⟩
theorem mlit3 (V : World) {p q r : Addr} {n1 n2 n3 c1 c2 c3 : Nat} {l1 l2 l3 : List Int} (h1 : Ints V (some p) n1 l1) (h2 : Ints V (some q) n2 l2) (h3 : Ints V (some r) n3 l3) {g : Nat} (hg : g=V.heap.size) :
  Mat (V.alloc (.cells #[.slice (some p) n1 c1,.slice (some q) n2 c2,.slice (some r) n3 c3] 22)) (some ⟨g,0,none⟩) 3 [l1,l2,l3] :=
 ⟨rfl,fun _=>rfl,by unfold maxLen;omega,fun k hk=>by
  have h:=cell_alloc_at V #[.slice (some p) n1 c1,.slice (some q) n2 c2,.slice (some r) n3 c3] 22 hg k
  match k,hk with
  | 0,_=>exact ⟨some p,n1,c1,h,h1.keep (below1 _ _)⟩
  | 1,_=>exact ⟨some q,n2,c2,h,h2.keep (below1 _ _)⟩
  | 2,_=>exact ⟨some r,n3,c3,h,h3.keep (below1 _ _)⟩⟩
theorem two3 (V : World) (x1 y1 x2 y2 x3 y3 : Int) : Mat ((((V.alloc (.cells #[.int .i64 x1,.int .i64 y1] 3)).alloc (.cells #[.int .i64 x2,.int .i64 y2] 3)).alloc (.cells #[.int .i64 x3,.int .i64 y3] 3)).alloc
  (.cells #[.slice (some ⟨V.heap.size,0,none⟩) 2 2,.slice (some ⟨V.heap.size+1,0,none⟩) 2 2,.slice (some ⟨V.heap.size+1+1,0,none⟩) 2 2] 22)) (some ⟨V.heap.size+1+1+1,0,none⟩) 3 [[x1,y1],[x2,y2],[x3,y3]]:=by
 have i1:=lits V [x1,y1] #[.int .i64 x1,.int .i64 y1] rfl (by simp) rfl
 have i2:=lits (V.alloc (.cells #[.int .i64 x1,.int .i64 y1] 3)) [x2,y2] #[.int .i64 x2,.int .i64 y2] rfl (by simp) (g:=V.heap.size+1) (by simp)
 have i3:=lits ((V.alloc (.cells #[.int .i64 x1,.int .i64 y1] 3)).alloc (.cells #[.int .i64 x2,.int .i64 y2] 3)) [x3,y3] #[.int .i64 x3,.int .i64 y3] rfl (by simp) (g:=V.heap.size+1+1) (by simp)
 exact mlit3 _ ((i1.keep (below1 _ _)).keep (below1 _ _)) (i2.keep (below1 _ _)) i3 (by simp)
theorem below4 (w : World) (o1 o2 o3 o4 : Obj) : Below w.heap.size w ((((w.alloc o1).alloc o2).alloc o3).alloc o4):=Below.next (below3 w o1 o2 o3) (below1 _ _)
theorem below5 (w : World) (o1 o2 o3 o4 o5 : Obj) : Below w.heap.size w (((((w.alloc o1).alloc o2).alloc o3).alloc o4).alloc o5):=Below.next (below4 w o1 o2 o3 o4) (below1 _ _)
end

end Go.Proofs.YtcflcogbpnmjeaaGreat
