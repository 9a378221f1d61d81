/- Expressions compiled, as the reference does it: what comes out is an automaton. -/
import Derived.Test.YteenfgdemklhcaaOi
import Derived.Test.YteenfgdemklhcaaOb
set_option linter.unusedSimpArgs false
set_option linter.unusedVariables false
namespace Go.Fw
open Go Go.Proofs
set_option linter.unusedSectionVars false
set_option linter.unnecessarySimpa false

theorem needs_kind {p : Pt} : (needs p = 0 → (p.k = 1 ∨ p.k = 2 ∨ p.k = 3 ∧ 0 ≤ p.l ∧ p.l < 3)) ∧ (needs p = 1 → p.k = 7 ∨ p.k = 8) ∧ (needs p = 2 → p.k = 4 ∨ p.k = 5 ∨ p.k = 6) := by
  unfold needs
  split
  · rename_i h
    simp only [okPt, inR, Bool.and_eq_true, Bool.or_eq_true, decide_eq_true_eq, Bool.not_eq_true', decide_eq_false_iff_not] at h
    refine ⟨fun h' => ?_, fun h' => ?_, fun h' => ?_⟩ <;> (split at h' <;> (try split at h')) <;> omega
  · refine ⟨fun h' => ?_, fun h' => ?_, fun h' => ?_⟩ <;> omega

theorem tmono {P : Program} {f : FuncId} {args : List AV} {R R' : List D → Prop} (h : TCalls P f args R) (hk : ∀ r, R r → R' r) : TCalls P f args R' :=
  ACalls.mono h fun _ _ _ ⟨⟨r, h1, h2⟩, h3⟩ => ⟨⟨r, h1, hk r h2⟩, h3⟩
theorem MadeR.no {r : List D} (h : r = [(Df.mk [] []).d, .bool false]) : MadeR r := ⟨⟨[], []⟩, false, h, by simp⟩

/-- The other words. -/
def notDf (a : Df) : Df := ⟨a.next, a.ends.map fun b => !b⟩
theorem notDf_ok {a : Df} (h : okDf a = true) : okDf (notDf a) = true := by
  simp only [okDf, notDf] at *
  simpa using h

end Go.Fw
