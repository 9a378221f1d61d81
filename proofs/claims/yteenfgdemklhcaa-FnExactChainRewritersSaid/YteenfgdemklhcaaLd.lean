/- The laws about roads: what is drawn; validity. -/
import Derived.Test.YteenfgdemklhcaaLc
import Derived.Test.YteenfgdemklhcaaLr
set_option linter.unusedSimpArgs false
set_option linter.unusedVariables false
namespace Go.Fw
open Go Go.Proofs

theorem codeD_len (code : List UInt8) : (codeD code).length = code.length := by simp [codeD]

/-! ### FnRoadsValid -/

theorem okRoads_cost (n : Int) (rs : List Rd) (f l t c : Int) (hc : c < 0) : okRoads n (rs ++ [⟨f, l, t, c⟩]) = false := by
  have : (Rd.bad n ⟨f, l, t, c⟩) = true := by simp [Rd.bad, inR]; omega
  simp [okRoads, this]
theorem okRoads_to (n : Int) (rs : List Rd) (f l c : Int) : okRoads n (rs ++ [⟨f, l, n, c⟩]) = false := by
  cases hn : inR n 1 40 with
  | false => simp [okRoads, hn]
  | true =>
    simp [inR] at hn
    have : (Rd.bad n ⟨f, l, n, c⟩) = true := by
      rw [Rd.bad_eq, wrap64 (by omega) (by omega)]
      simp [inR]; omega
    simp [okRoads, this]

end Go.Fw
