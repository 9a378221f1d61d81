/- The rewriter that copies. The law about it. -/
import Derived.Test.YtafegamilfnmcaaLk
set_option linter.unusedSimpArgs false
set_option linter.unusedVariables false
namespace Go.Fw
open Go Go.Proofs
theorem c_CopyRewriter : DCalls Try.prog 6 [] fun y => y = copyRw.d := by
  refine dcalls_intro Ty.mixed Try.func6 rfl rfl rfl [] (by kernel_rfl) (by simp) ?_
  simp
  refine .ddat (c_row 0) rfl (by simp) ?_
  rintro _ rfl
  simp [copyRw, Rw.d]
  rfl
theorem c_sCopyRewriter : DCalls Try.prog 5 [] fun y => y = copyRw.d := by
  refine dcalls_intro Ty.mixed Try.func5 rfl rfl rfl [] (by kernel_rfl) (by simp) ?_
  simp [copyRw, Rw.d]
  rfl

end Go.Fw
