/- The law about runs. -/
import Derived.Test.YteenfgdemklhcaaOl
set_option linter.unusedSimpArgs false
set_option linter.unusedVariables false
namespace Go.Fw
open Go Go.Proofs
set_option linter.unusedSectionVars false
set_option linter.unnecessarySimpa false

theorem codeD_lenD (code : List UInt8) : (codeD code).length = code.length := by simp [codeD]

theorem runDf_cases (a : Df) (q : Int) (s : List UInt8) : (okDf a = true ∧ wordOk s = true ∧ a.st q ∧ runDf a q s = a.run q s ∧ a.st (a.run q s)) ∨ (runDf a q s = -1 ∧ ¬ (okDf a = true ∧ wordOk s = true ∧ a.st q)) := by
  by_cases h : okDf a = true ∧ wordOk s = true ∧ a.st q
  · obtain ⟨h1, h2, h3⟩ := h
    exact .inl ⟨h1, h2, h3, by simp [runDf, h1, h2, inSt_st.2 h3], run_st h1 h3 (letters_all h2)⟩
  · refine .inr ⟨?_, h⟩
    unfold runDf
    rw [if_neg]
    simp only [Bool.and_eq_true]
    rintro ⟨⟨h1, h2⟩, h3⟩
    exact h ⟨h1, h2, inSt_st.1 h3⟩

theorem wordOk_take {s : List UInt8} (h : wordOk s = true) (n : Nat) : wordOk (s.take n) = true := by
  have h1 := letters_all h
  have h2 := letters_len h
  simp only [wordOk, lettersOk, Bool.and_eq_true, decide_eq_true_eq]
  refine ⟨take_all h1 n, ?_⟩
  simp; omega
theorem wordOk_drop {s : List UInt8} (h : wordOk s = true) (n : Nat) : wordOk (s.drop n) = true := by
  have h1 := letters_all h
  have h2 := letters_len h
  simp only [wordOk, lettersOk, Bool.and_eq_true, decide_eq_true_eq]
  refine ⟨?_, by simp; omega⟩
  rw [List.all_eq_true] at h1 ⊢
  exact fun x hx => h1 x (List.mem_of_mem_drop hx)
end Go.Fw
