/- An automaton is the same as itself. -/
import Derived.Test.YteenfgdemklhcaaLv
set_option linter.unusedSimpArgs false
set_option linter.unusedVariables false
namespace Go.Fw
open Go Go.Proofs
set_option linter.unusedSectionVars false
set_option linter.unnecessarySimpa false

/-- Rows that are short enough. -/
structure Df.slim (a : Df) : Prop where
  len : a.next.length ≤ 1000000
  row : ∀ x ∈ a.next, x.length ≤ 1000000
  elen : a.ends.length ≤ 1000000
theorem slim_of {a : Df} (h : okDf a = true) : a.slim := by
  obtain ⟨n1, n2, n3⟩ := okDf_len h
  refine ⟨by omega, fun x hx => ?_, by omega⟩
  obtain ⟨i, hi, rfl⟩ := List.mem_iff_getElem.1 hx
  have := (okDf_row h hi).1
  rw [(getD_row (xs := a.next) (i := i) [] hi).2 hi]; omega
theorem slim_nil : (Df.mk [] []).slim := ⟨by simp, by simp, by simp⟩
end Go.Fw
