/- Copies, equality and sizes of rewriters; the laws that say what is exact. -/
import Derived.Test.YtmodfeaneggloaaLi
set_option linter.unusedSimpArgs false
set_option linter.unusedVariables false
namespace Go.Fw
open Go Go.Proofs

/-! ### Sizes -/

/-- What is left after a size, or -1. -/
def leftOk (left v : Int) (P : Prop) : Prop := -1 ≤ v ∧ v ≤ left ∧ (0 ≤ v → P)

/-- Small enough to be copied. -/
structure Rw.small (r : Rw) : Prop where
  next : r.next.length ≤ 1048576
  row : ∀ x ∈ r.next, x.length ≤ 1048576
  out : r.out.length ≤ 1048576
  orow : ∀ (xs : List (List UInt8)), xs ∈ r.out → xs.length ≤ 1048576 ∧ ∀ x ∈ xs, x.length ≤ 1048576
  fin : r.fin.length ≤ 1048576
  ftext : ∀ x ∈ r.fin, x.length ≤ 1048576
theorem Rw.small.fine {r : Rw} (h : r.small) : r.fine where
  out := fun xs hx => by have := h.orow xs hx; exact ⟨by omega, fun x hm => by have := this.2 x hm; omega⟩
  fin := fun x hx => by have := h.ftext x hx; omega
  next := fun x hx => by have := h.row x hx; omega
  len := by have := h.next; omega

/-! ### Copies -/

/-! ### Equality -/

/-! ### The laws -/

end Go.Fw
