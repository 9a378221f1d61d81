/- Automata with choices: what the program computes of their sets of states. -/
import Derived.Test.YteenfgdemklhcaaLw
set_option linter.unusedSimpArgs false
set_option linter.unusedVariables false
namespace Go.Fw
open Go Go.Proofs

/-- Where a round of closing stands. -/
structure GC where
  i : Nat
  ag : Bool
  p : Nat × Nat
  xs : List Bool

/-- Is the word in the language of a valid automaton? -/
def accNa (a : Na) (s : List UInt8) : Bool := okNa a && wordOk s && a.es.any fun x => (runE a s).getD x.toNat false
end Go.Fw
