/-  -/
import Derived.Test.YtcflcogbpnmjeaaGreatK32
import Derived.Test.YtcflcogbpnmjeaaGreatK34
import Derived.Test.YtcflcogbpnmjeaaGreatK9
import Derived.Test.YtcflcogbpnmjeaaGreatK33
import Derived.Test.YtcflcogbpnmjeaaGreatK31
namespace Go.Proofs.YtcflcogbpnmjeaaGreat
set_option linter.unusedVariables false
set_option linter.unusedSimpArgs false
set_option linter.unusedSectionVars false

section
open Go.RowKit
theorem sameInts_t (a : Option Addr) (n c : Nat) (l : List Int) (a' : Option Addr) (n' c' : Nat) {w : World} (h : Ints w a n l) (h' : Ints w a' n' l) :
  Calls Tryz.prog 32 #[.slice a n c,.slice a' n' c'] w (QuietBool w true):=by
 have h1:=rSameInts_any a n c l a' n' c' l h h'
 rw [decide_eq_true rfl] at h1
 exact h1
end

section
open Go.RowKit
theorem Mat.none0 (w : World) (c : Nat) : Mat w none 0 []:=⟨rfl,fun h=>absurd h (by omega),by unfold maxLen;omega,fun k hk=>absurd hk (by omega)⟩
end

section
open Go.RowKit
end

section
open Go.RowKit
theorem Trees.none0 (w : World) : Trees w none 0 []:=⟨rfl,fun h=>absurd h (by omega),by unfold maxLen;omega,fun k hk=>absurd hk (by omega)⟩
end

section
open Go.RowKit
end

section
open Go.RowKit
def Two (a b : Option Addr) : Prop:=a=none∨b=none∨ablk a ≠ ablk b
theorem Two.apt {w : World} {B : Nat} {e : TypeId} {a b : Option Addr} {c n : Nat} {xs : List Value} (h : Two a b) (ho : w.ownsRow B e 1 (.slice a n c) n xs) (hB : 0<B) : Apt a (ablk b):=by
 rcases h with rfl | rfl | h
 ·exact .inl rfl
 ·exact own_apt ho (show ablk none<B from hB)
 ·exact .inr h
theorem Two.symm {a b : Option Addr} (h : Two a b) : Two b a:=by
 rcases h with h | h | h
 ·exact .inr (.inl h)
 ·exact .inl h
 ·exact .inr (.inr fun e=>h e.symm)
theorem Two.new {b a5 : Option Addr} (h : b ≠ none→Apt a5 (ablk b)) : Two a5 b:=by
 by_cases hb : b=none
 ·exact .inr (.inl hb)
 ·rcases h hb with h | h
  ·exact .inl h
  ·exact .inr (.inr h)
end

end Go.Proofs.YtcflcogbpnmjeaaGreat
