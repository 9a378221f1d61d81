/- The laws about the words of trimmed and of smallest automata. -/
import Derived.Test.YteenfgdemklhcaaOm
import Derived.Test.YteenfgdemklhcaaOp
set_option linter.unusedSimpArgs false
set_option linter.unusedVariables false
namespace Go.Fw
open Go Go.Proofs
set_option linter.unusedSectionVars false
set_option linter.unnecessarySimpa false

theorem l3_ltr {s : List UInt8} (h : s.all isL = true) : l3 (s.map ltr) := by
  intro c hc
  obtain ⟨b, hb, rfl⟩ := List.mem_map.1 hc
  rw [List.all_eq_true] at h
  have := ltr_of (h b hb)
  omega
theorem acc_lang (a : Df) (s : List UInt8) : a.acc s = a.lang 0 (s.map ltr) := by
  unfold Df.acc Df.run Df.lang langS
  rw [List.foldl_map]
theorem Same.acc {a b : Df} (h : Same (a.lang 0) (b.lang 0)) {s : List UInt8} (hs : s.all isL = true) : a.acc s = b.acc s := by
  rw [acc_lang, acc_lang]; exact h _ (l3_ltr hs)
theorem accDf_of {a : Df} {s : List UInt8} (h : okDf a = true) (hs : wordOk s = true) : accDf a s = a.acc s := by simp [accDf, h, hs]
theorem accDf_no {a : Df} {s : List UInt8} (h : ¬ (okDf a = true ∧ wordOk s = true)) : accDf a s = false := by
  unfold accDf
  cases h1 : okDf a <;> cases h2 : wordOk s <;> simp
  exact absurd ⟨h1, h2⟩ h
theorem accDf_same {a b : Df} (ha : okDf a = true) (hb : okDf b = true) (h : Same (a.lang 0) (b.lang 0)) (s : List UInt8) : accDf a s = accDf b s := by
  cases hs : wordOk s with
  | false => rw [accDf_no (by simp [hs]), accDf_no (by simp [hs])]
  | true => rw [accDf_of ha hs, accDf_of hb hs, h.acc (letters_all hs)]

end Go.Fw
