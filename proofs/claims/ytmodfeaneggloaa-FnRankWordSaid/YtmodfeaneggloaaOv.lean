/- Automata, texts and places that are drawn. -/
import Derived.Test.YtmodfeaneggloaaOu
set_option linter.unusedSimpArgs false
set_option linter.unusedVariables false
namespace Go.Fw
open Go Go.Proofs
set_option linter.unusedSectionVars false
set_option linter.unnecessarySimpa false

theorem pick8 {v : Int} (h : pickOk 8 v) : v = 0 ∨ v = 1 ∨ v = 2 ∨ v = 3 ∨ v = 4 ∨ v = 5 ∨ v = 6 ∨ v = 7 := by
  obtain ⟨h1, h2, _⟩ := h
  have := h2 (by omega)
  omega
theorem pickB {v : Int} {n : Nat} (h : pickOk (min 256 ((n : Int) + 1)) v) : 0 ≤ v ∧ v ≤ n := by
  obtain ⟨h1, h2, _⟩ := h
  have := h2 (by omega)
  omega

def DfTxR (r : List D) : Prop := ∃ (a : Df) (s : List UInt8), r = [a.d, sD s] ∧ a.tiny ∧ s.length ≤ 200

end Go.Fw
