/- Automata, texts and places that are drawn. -/
import Derived.Test.YtpecepipllbghaaOu
set_option linter.unusedSimpArgs false
set_option linter.unusedVariables false
namespace Go.Fw
open Go Go.Proofs
set_option linter.unusedSectionVars false
set_option linter.unnecessarySimpa false

theorem pick8 {v : Int} (h : pickOk 8 v) : v = 0 ∨ v = 1 ∨ v = 2 ∨ v = 3 ∨ v = 4 ∨ v = 5 ∨ v = 6 ∨ v = 7 := by
  obtain ⟨h1, h2, _⟩ := h
  have := h2 (by omega)
  omega
theorem pickB {v : Int} {n : Nat} (h : pickOk (min 256 ((n : Int) + 1)) v) : 0 ≤ v ∧ v ≤ n := by
  obtain ⟨h1, h2, _⟩ := h
  have := h2 (by omega)
  omega

def DfTxR (r : List D) : Prop := ∃ (a : Df) (s : List UInt8), r = [a.d, sD s] ∧ a.tiny ∧ s.length ≤ 200

set_option maxRecDepth 100000 in
theorem c_DrawFindAll (code : List UInt8) : TCalls Try.prog 68 [.d (.list (codeD code))] DfTxR := by
  refine tcalls_intro Ty.mixed Try.func68 rfl rfl rfl [] (by kernel_rfl) (by simp) ?_
  simp
  refine .fresh 700 (c_l20Open code) (by omega) (by simp) rfl (by simp) ?_
  rintro _ ⟨code', rfl, hc⟩
  simp [rdB]
  refine .lend (b := rdB (codeD code') 0) (d_l20Finite code' (by omega) 0 14 (by omega) (by omega) (by omega)) (by simp [rdB]) (by simp) rfl (by simp) ?_
  rintro _ _ ⟨q, rfl, h1, h2, a, rfl, ha⟩
  simp [rdB, Df.d]
  refine .one (sch [.pur 0, .pur 1, .eff 2 [0], .eff 3 [], .pur 4]) (by kernel_rfl) ?_
  simp
  refine .lend (b := rdB (codeD code') q) (d_l20Long code' (by omega) q 14 (by omega) (by omega) (by omega)) (by simp [rdB]) (by simp) rfl (by simp) ?_
  rintro _ _ ⟨q2, rfl, h3, h4, s, rfl, hs⟩
  simp [rdB]
  exact ⟨a, s, rfl, ha, hs⟩

set_option maxRecDepth 100000 in
theorem c_DrawFewestParts (code : List UInt8) : TCalls Try.prog 21 [.d (.list (codeD code))] DfTxR := by
  refine tcalls_intro Ty.mixed Try.func21 rfl rfl rfl [] (by kernel_rfl) (by simp) ?_
  simp
  refine .tdat (c_DrawFindAll code) rfl (by simp) ?_
  rintro _ ⟨a, s, rfl, ha, hs⟩
  simp [Df.d]
  exact ⟨a, s, rfl, ha, hs⟩

end Go.Fw
