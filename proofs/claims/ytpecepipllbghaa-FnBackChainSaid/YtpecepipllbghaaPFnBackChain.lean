/- FnBackChain: whatever the input, the law answers true, and leaves its input as it was. Conditions: none. -/
import Derived.Test.YtpecepipllbghaaRows
import Derived.Test.YtpecepipllbghaaFr
import Derived.Test.YtpecepipllbghaaTj
set_option linter.unusedSimpArgs false
set_option linter.unusedVariables false
namespace Go.Fw
open Go Go.Proofs Go.ChangeShapes Go.WideShapes Go.ChangeAt Go.RowKit

set_option maxRecDepth 100000 in
theorem fnBackChain_lifted (os : Os) (started : os.Started) (H : Type) (enc : TypeId × Value → H) :
    ReturnsInHanded {} Try.checked os 10 .any (Ytpecepipllbghaa.Rows.fnBackChainSpec.pre6 enc Try.prog Try.f10 Ytpecepipllbghaa.Rows.fnBackChainRow.domain false) (Ytpecepipllbghaa.Rows.fnBackChainSpec.post enc Try.prog Try.f10 false true false false) := by
  refine returnsInHanded_of_change (C := Try.checked) own started (by kernel_rfl) Try.func10
    (ChangeSpec.witness6 (enc := enc) (C := Try.checked) false ⟨#[], #[.slice none 0 0, .slice none 0 0], []⟩ 8 (by kernel_rfl) (by kernel_rfl) (by kernel_rfl) (by kernel_rfl)) ?_
  intro W base args ds gs before hval0 hW hcnd _
  have hval : ∀ (j : Nat) t v, Try.f10.params[j]? = some t → args[j]? = some v → Value.okWide Try.prog W .any base t v := hval0
  have hW' := hW
  obtain ⟨p, q, hA0, hV, rfl, hfz, hnd⟩ := hW
  have hA : DataW.TrodAll enc Try.prog W 0 (fun _ => true) true Try.f10.params.toList args.toList ds p := hA0
  rw [Try.params10] at hA hval
  obtain ⟨v0, v1, d0, d1, p0, p1, rfl, rfl, rfl, h0, h1⟩ := trodAll_two hA
  obtain ⟨rfl, rfl⟩ := trodVars_none hV
  have hw0 := hval 0 22 v0 rfl rfl
  have hw1 := hval 1 22 v1 rfl rfl
  clear hA0 hval0
  simp only [List.append_nil] at hW'
  obtain ⟨x0, hx0, hrx0⟩ := arg_data sh_bytes hw0 h0
  obtain ⟨code0, rfl, hb0a⟩ := typ_bytes hx0
  obtain ⟨x1, hx1, hrx1⟩ := arg_data sh_bytes hw1 h1
  obtain ⟨code1, rfl, hb1a⟩ := typ_bytes hx1
  refine (law_walk (xs := [.list (codeD code0), .list (codeD code1)]) (vs := [v0, v1]) (c_FnBackChain code0 code1 hb0a hb1a) rfl (fun i v y hv hy => ?_)).mono fun e W' ⟨he, hb⟩ => ?_
  · cases i with
    | zero => simp at hv hy; subst hv; subst hy; exact hrx0
    | succ i =>
      cases i with
      | zero => simp at hv hy; subst hv; subst hy; exact hrx1
      | succ i =>
        simp at hv
  subst he
  refine ⟨_, rfl, law_post rfl hW' hb (trodAll_mk1 (shut_bool Try.underlying4 true)) ?_ rfl⟩
  exact trodAll_mk2 (Below.trod laidOut (by kernel_rfl) (of_decide_eq_true (by kernel_rfl)) h0 hb fun y hy => hW'.lt y (by simp [hy])) (Below.trod laidOut (by kernel_rfl) (of_decide_eq_true (by kernel_rfl)) h1 hb fun y hy => hW'.lt y (by simp [hy]))

theorem fnBackChain_h : Ytpecepipllbghaa.Rows.FnBackChainSaid :=
  OpenClaim.holds_of_wide 10 Try.f10 rfl rfl rfl rfl rfl rfl rfl ⟨rfl, rfl, rfl, rfl, rfl⟩ rfl rfl rfl rfl rfl (by kernel_rfl) Try.func10 (by kernel_rfl)
    (of_decide_eq_true (by kernel_rfl)) (by unfold Func.isWrapper; first | (rw [if_pos (by decide +kernel)]; kernel_rfl) | (rw [if_neg (by decide +kernel)]; exact ⟨rfl, rfl⟩))
    (fun os started H enc _ => fnBackChain_lifted os started H enc)
end Go.Fw
namespace Go.Proofs.Ytpecepipllbghaa
theorem fnBackChain_holds : Rows.FnBackChainSaid := Go.Fw.fnBackChain_h
end Go.Proofs.Ytpecepipllbghaa
#print axioms Go.Proofs.Ytpecepipllbghaa.fnBackChain_holds
