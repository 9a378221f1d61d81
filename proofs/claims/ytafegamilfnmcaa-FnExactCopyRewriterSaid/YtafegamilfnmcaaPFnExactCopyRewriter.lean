/- FnExactCopyRewriter: the law answers true. Conditions: none. -/
import Derived.Test.YtafegamilfnmcaaRows
import Derived.Test.YtafegamilfnmcaaFr
import Derived.Test.YtafegamilfnmcaaUb
set_option linter.unusedSimpArgs false
set_option linter.unusedVariables false
namespace Go.Fw
open Go Go.Proofs Go.ChangeShapes Go.WideShapes Go.ChangeAt Go.RowKit

set_option maxRecDepth 100000 in
theorem fnExactCopyRewriter_lifted (os : Os) (started : os.Started) (H : Type) (enc : TypeId × Value → H) :
    ReturnsInHanded {} Try.checked os 3 .any (Ytafegamilfnmcaa.Rows.fnExactCopyRewriterSpec.pre6 enc Try.prog Try.f3 Ytafegamilfnmcaa.Rows.fnExactCopyRewriterRow.domain false) (Ytafegamilfnmcaa.Rows.fnExactCopyRewriterSpec.post enc Try.prog Try.f3 false true false false) := by
  refine returnsInHanded_of_change (C := Try.checked) own started (by kernel_rfl) Try.func3
    (ChangeSpec.witness6 (enc := enc) (C := Try.checked) false ⟨#[], #[], []⟩ 8 (by kernel_rfl) (by kernel_rfl) (by kernel_rfl) (by kernel_rfl)) ?_
  intro W base args ds gs before hval0 hW hcnd _
  have hW' := hW
  obtain ⟨p, q, hA0, hV, rfl, hfz, hnd⟩ := hW
  have hA : DataW.TrodAll enc Try.prog W 0 (fun _ => true) true Try.f3.params.toList args.toList ds p := hA0
  rw [Try.params3] at hA
  obtain ⟨rfl, rfl, rfl⟩ := trodAll_none hA
  obtain ⟨rfl, rfl⟩ := trodVars_none hV
  clear hA0 hval0
  refine (law_walk (xs := []) (vs := []) c_FnExactCopyRewriter rfl (fun i v y hv hy => by simp at hv)).mono fun e W' ⟨he, hb⟩ => ?_
  subst he
  refine ⟨_, rfl, law_post rfl hW' hb (trodAll_mk1 (shut_bool Try.underlying4 true)) ?_ rfl⟩
  exact trodAll_mk0

theorem fnExactCopyRewriter_h : Ytafegamilfnmcaa.Rows.FnExactCopyRewriterSaid :=
  OpenClaim.holds_of_wide 3 Try.f3 rfl rfl rfl rfl rfl rfl rfl ⟨rfl, rfl, rfl, rfl, rfl⟩ rfl rfl rfl rfl rfl (by kernel_rfl) Try.func3 (by kernel_rfl)
    (of_decide_eq_true (by kernel_rfl)) (by unfold Func.isWrapper; first | (rw [if_pos (by decide +kernel)]; kernel_rfl) | (rw [if_neg (by decide +kernel)]; exact ⟨rfl, rfl⟩))
    (fun os started H enc _ => fnExactCopyRewriter_lifted os started H enc)
end Go.Fw
namespace Go.Proofs.Ytafegamilfnmcaa
theorem fnExactCopyRewriter_holds : Rows.FnExactCopyRewriterSaid := Go.Fw.fnExactCopyRewriter_h
end Go.Proofs.Ytafegamilfnmcaa
#print axioms Go.Proofs.Ytafegamilfnmcaa.fnExactCopyRewriter_holds
