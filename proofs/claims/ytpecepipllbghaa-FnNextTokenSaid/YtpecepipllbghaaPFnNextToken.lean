/- FnNextToken: whatever the input, the law answers true, and leaves its input as it was. Conditions: none. -/
import Derived.Test.YtpecepipllbghaaRows
import Derived.Test.YtpecepipllbghaaFr
import Derived.Test.YtpecepipllbghaaTl
set_option linter.unusedSimpArgs false
set_option linter.unusedVariables false
namespace Go.Fw
open Go Go.Proofs Go.ChangeShapes Go.WideShapes Go.ChangeAt Go.RowKit

set_option maxRecDepth 100000 in
theorem fnNextToken_lifted (os : Os) (started : os.Started) (H : Type) (enc : TypeId × Value → H) :
    ReturnsInHanded {} Try.checked os 3 .any (Ytpecepipllbghaa.Rows.fnNextTokenSpec.pre6 enc Try.prog Try.f3 Ytpecepipllbghaa.Rows.fnNextTokenRow.domain false) (Ytpecepipllbghaa.Rows.fnNextTokenSpec.post enc Try.prog Try.f3 false true false false) := by
  refine returnsInHanded_of_change (C := Try.checked) own started (by kernel_rfl) Try.func3
    (ChangeSpec.witness6 (enc := enc) (C := Try.checked) false ⟨#[], #[.slice none 0 0], []⟩ 8 (by kernel_rfl) (by kernel_rfl) (by kernel_rfl) (by kernel_rfl)) ?_
  intro W base args ds gs before hval0 hW hcnd _
  have hval : ∀ (j : Nat) t v, Try.f3.params[j]? = some t → args[j]? = some v → Value.okWide Try.prog W .any base t v := hval0
  have hW' := hW
  obtain ⟨p, q, hA0, hV, rfl, hfz, hnd⟩ := hW
  have hA : DataW.TrodAll enc Try.prog W 0 (fun _ => true) true Try.f3.params.toList args.toList ds p := hA0
  rw [Try.params3] at hA hval
  obtain ⟨v0, d0, rfl, rfl, h0⟩ := trodAll_one hA
  obtain ⟨rfl, rfl⟩ := trodVars_none hV
  have hw0 := hval 0 22 v0 rfl rfl
  clear hA0 hval0
  simp only [List.append_nil] at hW'
  obtain ⟨x0, hx0, hrx0⟩ := arg_data sh_bytes hw0 h0
  obtain ⟨code0, rfl, hb0a⟩ := typ_bytes hx0
  refine (law_walk (xs := [.list (codeD code0)]) (vs := [v0]) (c_FnNextToken code0 hb0a) rfl (fun i v y hv hy => ?_)).mono fun e W' ⟨he, hb⟩ => ?_
  · cases i with
    | zero => simp at hv hy; subst hv; subst hy; exact hrx0
    | succ i =>
    simp at hv
  subst he
  refine ⟨_, rfl, law_post rfl hW' hb (trodAll_mk1 (shut_bool Try.underlying4 true)) ?_ rfl⟩
  exact trodAll_mk1 (Below.trod laidOut (by kernel_rfl) (of_decide_eq_true (by kernel_rfl)) h0 hb fun y hy => hW'.lt y hy)

theorem fnNextToken_h : Ytpecepipllbghaa.Rows.FnNextTokenSaid :=
  OpenClaim.holds_of_wide 3 Try.f3 rfl rfl rfl rfl rfl rfl rfl ⟨rfl, rfl, rfl, rfl, rfl⟩ rfl rfl rfl rfl rfl (by kernel_rfl) Try.func3 (by kernel_rfl)
    (of_decide_eq_true (by kernel_rfl)) (by unfold Func.isWrapper; first | (rw [if_pos (by decide +kernel)]; kernel_rfl) | (rw [if_neg (by decide +kernel)]; exact ⟨rfl, rfl⟩))
    (fun os started H enc _ => fnNextToken_lifted os started H enc)
end Go.Fw
namespace Go.Proofs.Ytpecepipllbghaa
theorem fnNextToken_holds : Rows.FnNextTokenSaid := Go.Fw.fnNextToken_h
end Go.Proofs.Ytpecepipllbghaa
#print axioms Go.Proofs.Ytpecepipllbghaa.fnNextToken_holds
