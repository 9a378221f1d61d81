/- The rewriter that copies. The law about it. -/
import Derived.Test.YtfiipgebdcbknaaLk
set_option linter.unusedSimpArgs false
set_option linter.unusedVariables false
namespace Go.Fw
open Go Go.Proofs
theorem c_CopyRewriter : DCalls Try.prog 13 [] fun y => y = copyRw.d := by
  refine dcalls_intro Ty.mixed Try.func13 rfl rfl rfl [] (by kernel_rfl) (by simp) ?_
  simp
  refine .ddat (c_row 0) rfl (by simp) ?_
  rintro _ rfl
  simp [copyRw, Rw.d]
  rfl
theorem c_sCopyRewriter : DCalls Try.prog 14 [] fun y => y = copyRw.d := by
  refine dcalls_intro Ty.mixed Try.func14 rfl rfl rfl [] (by kernel_rfl) (by simp) ?_
  simp [copyRw, Rw.d]
  rfl

set_option maxRecDepth 100000 in
theorem c_FnCopyRewriter (code : List UInt8) (hl : code.length ≤ 9223372036854775807) : DCalls Try.prog 3 [.d (.list (codeD code))] fun y => y = .bool true := by
  refine dcalls_intro Ty.mixed Try.func3 rfl rfl rfl [] (by kernel_rfl) (by simp) ?_
  simp [codeD_len2]
  intro h20
  refine .ddat c_CopyRewriter rfl (by simp) ?_
  rintro _ rfl
  simp [Rw.d]
  refine .ddat c_sCopyRewriter rfl (by simp) ?_
  rintro _ rfl
  simp [Rw.d]
  refine .ddat (c_DrawTextValid code) rfl (by simp) ?_
  rintro _ ⟨s, rfl, hs⟩
  simp
  refine .one (sch [.pur 0, .eff 1 [], .pur 2, .pur 3, .pur 4, .pur 5, .pur 6, .pur 7, .pur 8, .pur 9, .pur 10, .pur 11, .pur 12, .pur 13, .pur 15, .pur 16, .eff 14 [15, 16], .eff 17 [], .pur 18, .pur 19, .pur 20, .pur 21, .eff 22 [], .pur 23, .pur 24, .pur 25, .pur 26, .pur 28, .eff 27 [28], .pur 29, .pur 30, .pur 31, .pur 32, .eff 33 [], .pur 34, .pur 35]) (by kernel_rfl) ?_
  simp
  refine .dval (c_RewriterValid copyRw copyRw_fine.out copyRw_fine.fin copyRw_fine.next copyRw_fine.len) rfl (by simp [Rw.d]) rfl ?_
  rw [copyRw_ok]
  simp
  refine .flat (fun _ => c_RewriteText copyRw s copyRw_fine (by omega)) rfl (by simp [Rw.d]) rfl (by simp) ?_
  simp
  refine .flat (fun _ => c_RewriteText copyRw s copyRw_fine (by omega)) rfl (by simp [Rw.d]) rfl (by simp) ?_
  simp
  refine .flat (fun _ => c_sTextValid s (by omega)) rfl (by simp) rfl (by simp) ?_
  simp
  refine .flat (fun _ => c_RewriteText copyRw s copyRw_fine (by omega)) rfl (by simp [Rw.d]) rfl (by simp) ?_
  simp
  refine .flat (fun _ => c_alive) rfl (by simp) rfl (by simp) ?_
  simp
  cases ht : textOk s with
  | false => simp
  | true => simp [copyRw_text ht]
end Go.Fw
