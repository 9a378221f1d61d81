/- Words of automata with choices, as the specification has them; copies, equality and sizes; the law about words. -/
import Derived.Test.YteenfgdemklhcaaMd
set_option linter.unusedSimpArgs false
set_option linter.unusedVariables false
namespace Go.Fw
open Go Go.Proofs

/-! ### Copies, equality, sizes -/

structure Na.fine (a : Na) : Prop where
  ms : a.ms.length ≤ 9223372036854775807
  fs : a.fs.length ≤ 9223372036854775807
  es : a.es.length ≤ 9223372036854775807
structure Na.small (a : Na) : Prop where
  ms : a.ms.length ≤ 1048576
  fs : a.fs.length ≤ 1048576
  es : a.es.length ≤ 1048576

end Go.Fw
