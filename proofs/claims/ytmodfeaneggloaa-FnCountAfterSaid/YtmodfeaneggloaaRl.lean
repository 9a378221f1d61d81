/- The laws about numbers of words. -/
import Derived.Test.YtmodfeaneggloaaRg
import Derived.Test.YtmodfeaneggloaaRq
import Derived.Test.YtmodfeaneggloaaOm
set_option linter.unusedSimpArgs false
set_option linter.unusedVariables false
namespace Go.Fw
open Go Go.Proofs
set_option linter.unusedSectionVars false
set_option linter.unnecessarySimpa false

set_option maxRecDepth 100000 in
theorem c_DrawCountWords (code : List UInt8) : TCalls Try.prog 28 [.d (.list (codeD code))] fun y => ∃ (a : Df) (n : Int), y = [a.d, iD n] ∧ a.tiny ∧ -1 ≤ n ∧ n ≤ 31 := by
  refine tcalls_intro Ty.mixed Try.func28 rfl rfl rfl [] (by kernel_rfl) (by simp) ?_
  simp
  refine .fresh 700 (c_l20Open code) (by omega) (by simp) rfl (by simp) ?_
  rintro _ ⟨code', rfl, hc⟩
  simp [rdB]
  refine .lend (b := rdB (codeD code') 0) (d_l20Dfa code' (by omega) 0 14 (by omega) (by omega) (by omega)) (by simp [rdB]) (by simp) rfl (by simp) ?_
  rintro _ _ ⟨q, rfl, h1, h2, a, rfl, ha⟩
  simp [rdB, Df.d]
  refine .one (sch [.pur 0, .pur 1, .eff 2 [0], .eff 3 [], .pur 4]) (by kernel_rfl) ?_
  simp
  refine .lend (b := rdB (codeD code') q) (d_l20Length code' (by omega) q 30 (by omega) (by omega) (by omega) (by omega)) (by simp [rdB]) (by simp) rfl (by simp) ?_
  rintro _ _ ⟨q2, rfl, h3, h4, v, rfl, hv1, hv2⟩
  simp [rdB]
  exact ⟨a, v, ⟨⟨rfl, rfl⟩, rfl⟩, ha, hv1, by omega⟩
theorem cwDf_neg {a : Df} {n : Int} (h : cwDf a n < 0) : cwDf a n = -1 := by
  unfold cwDf at h ⊢
  split at h
  · rename_i hh
    have : 0 ≤ cq a n.toNat 0 := by unfold cq; omega
    omega
  · rename_i hh; rw [if_neg hh]
theorem cwDf_pos {a : Df} {n : Int} (h : 0 ≤ cwDf a n) : okDf a = true ∧ 0 ≤ n ∧ n ≤ 30 ∧ cwDf a n = cq a n.toNat 0 := by
  unfold cwDf at h ⊢
  split at h
  · rename_i hh
    rw [if_pos hh]
    simp only [Bool.and_eq_true, inR, decide_eq_true_eq] at hh
    exact ⟨hh.1, by omega, by omega, rfl⟩
  · omega
end Go.Fw
