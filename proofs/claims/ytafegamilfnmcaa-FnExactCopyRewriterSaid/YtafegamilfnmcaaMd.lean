/- Automata with choices: what the specification computes of their sets of states; the law about words. -/
import Derived.Test.YtafegamilfnmcaaLx
import Derived.Test.YtafegamilfnmcaaMc
import Derived.Test.YtafegamilfnmcaaFwb
set_option linter.unusedSimpArgs false
set_option linter.unusedVariables false
namespace Go.Fw
open Go Go.Proofs

/-! ### The specification's -/

theorem setD_bool (xs : List Bool) (k : Nat) (b : Bool) : (xs.map bD).set k (.bool b) = (xs.set k b).map bD := by rw [List.map_set]

theorem any_take_succ {α : Type} {p : α → Bool} {xs : List α} {i : Nat} (h : i < xs.length) (hp : ∀ j (h : j < xs.length), j < i → p xs[j] = false) (hi : p xs[i] = false) : ∀ j (h : j < xs.length), j < i + 1 → p xs[j] = false := upto_succ hp h hi

end Go.Fw
