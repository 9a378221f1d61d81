/- The law about what follows a word. -/
import Derived.Test.YtpecepipllbghaaSe
import Derived.Test.YtpecepipllbghaaRd
set_option linter.unusedSimpArgs false
set_option linter.unusedVariables false
namespace Go.Fw
open Go Go.Proofs
set_option linter.unusedSectionVars false
set_option linter.unnecessarySimpa false

set_option maxRecDepth 100000 in
theorem c_DrawDfaAfter (code : List UInt8) : TCalls Try.prog 31 [.d (.list (codeD code))] fun y => ∃ (a : Df) (s : List UInt8), y = [a.d, sD s] ∧ a.tiny ∧ s.length ≤ 9 := by
  refine tcalls_intro Ty.mixed Try.func31 rfl rfl rfl [] (by kernel_rfl) (by simp) ?_
  simp
  refine .tdat (c_DrawDfaAccepts code) rfl (by simp) ?_
  rintro _ ⟨a, s, rfl, ha, hs⟩
  simp [Df.d]
  exact ⟨a, s, ⟨⟨rfl, rfl⟩, rfl⟩, ha, hs⟩
theorem wordOk_app {s v : List UInt8} (hs : wordOk s = true) (hv : wordOk v = true) (h : v.length + s.length ≤ 8) : wordOk (s ++ v) = true := by
  have h1 := letters_all hs
  have h2 := letters_all hv
  simp only [wordOk, lettersOk, Bool.and_eq_true, decide_eq_true_eq]
  refine ⟨by rw [List.all_append, h1, h2]; rfl, by simp; omega⟩
theorem AfterIs.acc {a x : Df} {s v : List UInt8} (h : AfterIs a s x) (h1 : okDf a = true) (h2 : wordOk s = true) (h3 : wordOk v = true) (h4 : v.length + s.length ≤ 8) : accDf x v = accDf a (s ++ v) := by
  obtain ⟨g1, g2⟩ := h.ok h1 h2
  rw [accDf_of g1.ok h3, accDf_of h1 (wordOk_app h2 h3 h4), acc_lang, g2 _ (l3_ltr (letters_all h3))]
  unfold Df.acc
  rw [run_app]
  unfold Df.lang langS
  rw [List.foldl_map]; rfl

end Go.Fw
