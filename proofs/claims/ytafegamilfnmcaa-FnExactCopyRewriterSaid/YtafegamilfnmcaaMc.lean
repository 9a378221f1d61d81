/- Copies, equality and sizes of automata; the laws that say what is exact of them. -/
import Derived.Test.YtafegamilfnmcaaMb
set_option linter.unusedSimpArgs false
set_option linter.unusedVariables false
namespace Go.Fw
open Go Go.Proofs

structure Df.small (a : Df) : Prop where
  next : a.next.length ≤ 1048576
  row : ∀ x ∈ a.next, x.length ≤ 1048576
  ends : a.ends.length ≤ 1048576
theorem Df.small.fine {a : Df} (h : a.small) : a.fine where
  len := by have := h.next; omega
  row := fun x hx => by have := h.row x hx; omega
  elen := by have := h.ends; omega

/-! ### The laws -/

end Go.Fw
