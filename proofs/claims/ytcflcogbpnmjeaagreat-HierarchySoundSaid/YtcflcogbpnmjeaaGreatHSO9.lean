/-  -/
import Derived.Test.YtcflcogbpnmjeaaGreatHSO5
import Derived.Test.YtcflcogbpnmjeaaGreatK32
import Derived.Test.YtcflcogbpnmjeaaGreatHSO1
import Derived.Test.YtcflcogbpnmjeaaGreatHSO8
import Derived.Test.YtcflcogbpnmjeaaGreatHSO2
import Derived.Test.YtcflcogbpnmjeaaGreatHSO4
namespace Go.Proofs.YtcflcogbpnmjeaaGreat
set_option linter.unusedVariables false
set_option linter.unusedSimpArgs false
set_option linter.unusedSectionVars false

section
open Go.ChangeShapes Go.WideShapes Go.ChangeAt Go.RowKit
section
variable {H : Type} {enc : TypeId × Value→H} {W : World} {held : Bool} {fuel : Nat} {cs : List Value} {x : DataW H × List MemPlace}
theorem opened_excl {v0 : Value} (hf : DataW.trod enc Tryz.prog W 0 (fun _=>true) held fuel 37 [v0]=some x) : ∃ (b : Option Addr) (m c : Nat) (ts : List (List Int)),v0 = .slice b m c∧Mat W b m ts∧m≤c:=by
 obtain ⟨xs,n0,_,_,_,hlen,hfs⟩:=DataW.trod_struct Tryz.underlying37 hf
 obtain ⟨y0,rfl⟩ : ∃ y0,xs=[y0]:=by
  match xs,hlen with
  | [y0],_=>exact ⟨y0,rfl⟩
 have k25 : Tryz.prog.cellsOf 25 = 1:=by kernel_rfl
 have g0 : DataW.trod enc Tryz.prog W 0 (fun _=>true) held n0 25 [v0]=some y0:=by simpa [Value.cells,k25] using hfs 0 _ rfl
 obtain ⟨ax,nx,cx,ts,e,hM,hc⟩:=opened_matC g0
 simp at e
 exact ⟨ax,nx,cx,ts,e,hM,hc⟩
theorem opened_trees (h : DataW.trod enc Tryz.prog W 0 (fun _=>true) held fuel 57 cs=some x) : ∃ a n c TT,cs=[.slice a n c]∧Trees W a n TT:=by
 rcases Go.Deep.open_slice1 Tryz.underlying57 (by kernel_rfl) h with ⟨hcs,_⟩ | ⟨a,len,cap,m,n,V,D,Pl',hcs,hb,hl,hm,hmm,_,hx⟩
 ·exact ⟨none,0,0,[],hcs,⟨rfl,fun h0=>by omega,by unfold maxLen;omega,fun i hi=>by omega⟩⟩
 ·simp only [if_true] at hmm
  subst hmm
  have each : ∀ r,r<len→∃ T : List (List Int),∃ b k c,W.cell? (a.add r)=some (.slice b k c)∧Mat W b k T∧k≤c:=fun r hr=>by
   obtain ⟨h1,h2⟩:=hx r (by omega)
   obtain ⟨b,k,c,ts,e,hM,hc⟩:=opened_excl h2
   exact ⟨ts,b,k,c,by rw [h1,e],hM,hc⟩
  obtain ⟨T,hT⟩:=Go.Deep.choose_lt each
  refine ⟨some a,len,m,(List.range len).map T,hcs,⟨by simp,fun h0=>?_,by omega,fun i hi=>?_⟩⟩
  ·obtain ⟨b,k,c,h1,_⟩:=hT 0 h0
   exact congrArg some (plain_of h1)
  ·obtain ⟨b,k,c,h1,h2,h3⟩:=hT i hi
   have e : nthT ((List.range len).map T) i=T i:=by
    rw [nthT_getElem (by simpa using hi)]
    simp
   exact ⟨b,k,c,add_cell h1,by rw [e];exact h2,h3⟩
end
section
variable {H : Type} {enc : TypeId × Value→H} {W : World} {held : Bool} {b0 : Nat} {v : Value} {d : DataW H} {p : List MemPlace}
set_option maxRecDepth 100000 in
theorem arg_hcert (hv : Value.okWide Tryz.prog W .any b0 59 v) (h : DataW.Trod enc Tryz.prog W 0 (fun _=>true) held 59 v d p) :
  ∃ (as' : Option Addr) (ns cs : Nat) (SS : List (List Int)) (at' : Option Addr) (nt ct : Nat) (TT : List (List (List Int))),v = .agg #[.slice as' ns cs,.slice at' nt ct]∧Mat W as' ns SS∧Trees W at' nt TT:=by
 obtain ⟨cs,rfl,hsz⟩:=okWide_struct Tryz.underlying59 hv
 rw [show Tryz.prog.cellsOf 59 = 2 by kernel_rfl] at hsz
 obtain ⟨l⟩:=cs
 match l,hsz with
 | [v0,v1],_ =>
 obtain ⟨fuel,hf⟩:=h
 obtain ⟨xs,n0,_,_,_,hlen,hfs⟩:=DataW.trod_struct Tryz.underlying59 hf
 obtain ⟨y0,y1,rfl⟩ : ∃ y0 y1,xs=[y0,y1]:=by
  match xs,hlen with
  | [y0,y1],_=>exact ⟨y0,y1,rfl⟩
 have k25 : Tryz.prog.cellsOf 25 = 1:=by kernel_rfl
 have k57 : Tryz.prog.cellsOf 57 = 1:=by kernel_rfl
 have g0 : DataW.trod enc Tryz.prog W 0 (fun _=>true) held n0 25 [v0]=some y0:=by simpa [Value.cells,k25] using hfs 0 _ rfl
 have g1 : DataW.trod enc Tryz.prog W 0 (fun _=>true) held n0 57 [v1]=some y1:=by simpa [Value.cells,k25,k57] using hfs 1 _ rfl
 obtain ⟨ax,nx,cx,ts,e,hM⟩:=opened_mat g0
 obtain ⟨ay,ny,cy,TT,e2,hT⟩:=opened_trees g1
 simp at e e2
 subst e e2
 exact ⟨ax,nx,cx,ts,ay,ny,cy,TT,rfl,hM,hT⟩
end
end

end Go.Proofs.YtcflcogbpnmjeaaGreat
