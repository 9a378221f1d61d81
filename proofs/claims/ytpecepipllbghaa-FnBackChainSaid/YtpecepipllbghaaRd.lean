/- Automata and words that are drawn. -/
import Derived.Test.YtpecepipllbghaaOl
set_option linter.unusedSimpArgs false
set_option linter.unusedVariables false
namespace Go.Fw
open Go Go.Proofs
set_option linter.unusedSectionVars false
set_option linter.unnecessarySimpa false

set_option maxRecDepth 100000 in
theorem c_DrawDfaStarts (code : List UInt8) : DCalls Try.prog 23 [.d (.list (codeD code))] fun y => ∃ a : Df, y = a.d ∧ a.tiny := by
  refine dcalls_intro Ty.mixed Try.func23 rfl rfl rfl [] (by kernel_rfl) (by simp) ?_
  simp
  refine .fresh 700 (c_l20Open code) (by omega) (by simp) rfl (by simp) ?_
  rintro _ ⟨code', rfl, hc⟩
  simp [rdB]
  refine .lend (b := rdB (codeD code') 0) (d_l20Dfa code' (by omega) 0 12 (by omega) (by omega) (by omega)) (by simp [rdB]) (by simp) rfl (by simp) ?_
  rintro _ _ ⟨q, rfl, h1, h2, a, rfl, ha⟩
  simp [rdB, Df.d]
  exact ⟨a, ⟨rfl, rfl⟩, ha⟩

set_option maxRecDepth 100000 in
theorem c_DrawMinimize (code : List UInt8) : DCalls Try.prog 39 [.d (.list (codeD code))] fun y => ∃ a : Df, y = a.d ∧ a.tiny := by
  refine dcalls_intro Ty.mixed Try.func39 rfl rfl rfl [] (by kernel_rfl) (by simp) ?_
  simp
  refine .fresh 700 (c_l20Open code) (by omega) (by simp) rfl (by simp) ?_
  rintro _ ⟨code', rfl, hc⟩
  simp [rdB]
  refine .lend (b := rdB (codeD code') 0) (d_l20Dfa code' (by omega) 0 12 (by omega) (by omega) (by omega)) (by simp [rdB]) (by simp) rfl (by simp) ?_
  rintro _ _ ⟨q, rfl, h1, h2, a, rfl, ha⟩
  simp [rdB, Df.d]
  exact ⟨a, ⟨rfl, rfl⟩, ha⟩

set_option maxRecDepth 100000 in
theorem c_DrawWordRk (code : List UInt8) : DCalls Try.prog 28 [.d (.list (codeD code))] fun y => ∃ s, y = sD s ∧ s.length ≤ 9 := by
  refine dcalls_intro Ty.mixed Try.func28 rfl rfl rfl [] (by kernel_rfl) (by simp) ?_
  simp
  refine .fresh 700 (c_l20Open code) (by omega) (by simp) rfl (by simp) ?_
  rintro _ ⟨code', rfl, hc⟩
  simp [rdB]
  refine .lend (b := rdB (codeD code') 0) (d_l20Word code' (by omega) 0 9 (by omega) (by omega) (by omega)) (by simp [rdB]) (by simp) rfl (by simp) ?_
  rintro _ _ ⟨q, rfl, h1, h2, s, rfl, hs⟩
  simp [rdB]
  exact hs
end Go.Fw
