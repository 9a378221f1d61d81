/- Two automata that are drawn. -/
import Derived.Test.YtmodfeaneggloaaQh
set_option linter.unusedSimpArgs false
set_option linter.unusedVariables false
namespace Go.Fw
open Go Go.Proofs
set_option linter.unusedSectionVars false
set_option linter.unnecessarySimpa false

set_option maxRecDepth 100000 in
theorem c_DrawDfaBoth (code : List UInt8) : TCalls Try.prog 37 [.d (.list (codeD code))] fun y => ∃ a b : Df, y = [a.d, b.d] ∧ a.tiny ∧ b.tiny := by
  refine tcalls_intro Ty.mixed Try.func37 rfl rfl rfl [] (by kernel_rfl) (by simp) ?_
  simp
  refine .fresh 700 (c_l20Open code) (by omega) (by simp) rfl (by simp) ?_
  rintro _ ⟨code', rfl, hc⟩
  simp [rdB]
  refine .lend (b := rdB (codeD code') 0) (d_l20Two code' (by omega) 0 (by omega) (by omega)) (by simp [rdB]) (by simp) rfl (by simp) ?_
  rintro _ _ ⟨q, rfl, h1, h2, a, b, rfl, ha, hb⟩
  simp [rdB, Df.d]
  exact ⟨a, b, ⟨⟨rfl, rfl⟩, rfl, rfl⟩, ha, hb⟩

set_option maxRecDepth 100000 in
theorem c_DrawDfaEither (code : List UInt8) : TCalls Try.prog 49 [.d (.list (codeD code))] fun y => ∃ a b : Df, y = [a.d, b.d] ∧ a.tiny ∧ b.tiny := by
  refine tcalls_intro Ty.mixed Try.func49 rfl rfl rfl [] (by kernel_rfl) (by simp) ?_
  simp
  refine .fresh 700 (c_l20Open code) (by omega) (by simp) rfl (by simp) ?_
  rintro _ ⟨code', rfl, hc⟩
  simp [rdB]
  refine .lend (b := rdB (codeD code') 0) (d_l20Two code' (by omega) 0 (by omega) (by omega)) (by simp [rdB]) (by simp) rfl (by simp) ?_
  rintro _ _ ⟨q, rfl, h1, h2, a, b, rfl, ha, hb⟩
  simp [rdB, Df.d]
  exact ⟨a, b, ⟨⟨rfl, rfl⟩, rfl, rfl⟩, ha, hb⟩

set_option maxRecDepth 100000 in
theorem c_DrawDfaLess (code : List UInt8) : TCalls Try.prog 46 [.d (.list (codeD code))] fun y => ∃ a b : Df, y = [a.d, b.d] ∧ a.tiny ∧ b.tiny := by
  refine tcalls_intro Ty.mixed Try.func46 rfl rfl rfl [] (by kernel_rfl) (by simp) ?_
  simp
  refine .fresh 700 (c_l20Open code) (by omega) (by simp) rfl (by simp) ?_
  rintro _ ⟨code', rfl, hc⟩
  simp [rdB]
  refine .lend (b := rdB (codeD code') 0) (d_l20Two code' (by omega) 0 (by omega) (by omega)) (by simp [rdB]) (by simp) rfl (by simp) ?_
  rintro _ _ ⟨q, rfl, h1, h2, a, b, rfl, ha, hb⟩
  simp [rdB, Df.d]
  exact ⟨a, b, ⟨⟨rfl, rfl⟩, rfl, rfl⟩, ha, hb⟩

set_option maxRecDepth 100000 in
theorem c_DrawDfaApart (code : List UInt8) : TCalls Try.prog 52 [.d (.list (codeD code))] fun y => ∃ a b : Df, y = [a.d, b.d] ∧ a.tiny ∧ b.tiny := by
  refine tcalls_intro Ty.mixed Try.func52 rfl rfl rfl [] (by kernel_rfl) (by simp) ?_
  simp
  refine .fresh 700 (c_l20Open code) (by omega) (by simp) rfl (by simp) ?_
  rintro _ ⟨code', rfl, hc⟩
  simp [rdB]
  refine .lend (b := rdB (codeD code') 0) (d_l20Two code' (by omega) 0 (by omega) (by omega)) (by simp [rdB]) (by simp) rfl (by simp) ?_
  rintro _ _ ⟨q, rfl, h1, h2, a, b, rfl, ha, hb⟩
  simp [rdB, Df.d]
  exact ⟨a, b, ⟨⟨rfl, rfl⟩, rfl, rfl⟩, ha, hb⟩

set_option maxRecDepth 100000 in
theorem c_DrawFirstDiffer (code : List UInt8) : TCalls Try.prog 34 [.d (.list (codeD code))] fun y => ∃ a b : Df, y = [a.d, b.d] ∧ a.tiny ∧ b.tiny := by
  refine tcalls_intro Ty.mixed Try.func34 rfl rfl rfl [] (by kernel_rfl) (by simp) ?_
  simp
  refine .fresh 700 (c_l20Open code) (by omega) (by simp) rfl (by simp) ?_
  rintro _ ⟨code', rfl, hc⟩
  simp [rdB]
  refine .lend (b := rdB (codeD code') 0) (d_l20Two code' (by omega) 0 (by omega) (by omega)) (by simp [rdB]) (by simp) rfl (by simp) ?_
  rintro _ _ ⟨q, rfl, h1, h2, a, b, rfl, ha, hb⟩
  simp [rdB, Df.d]
  exact ⟨a, b, ⟨⟨rfl, rfl⟩, rfl, rfl⟩, ha, hb⟩
end Go.Fw
