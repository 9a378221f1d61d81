/- FnExactChainRewriters: whatever the input, the law answers true, and leaves its input as it was. Conditions: none. -/
import Derived.Test.YteenfgdemklhcaaRows
import Derived.Test.YteenfgdemklhcaaFs
import Derived.Test.YteenfgdemklhcaaVo
set_option linter.unusedSimpArgs false
set_option linter.unusedVariables false
namespace Go.Fw
open Go Go.Proofs Go.ChangeShapes Go.WideShapes Go.ChangeAt Go.RowKit

set_option maxRecDepth 100000 in
theorem fnExactChainRewriters_lifted (os : Os) (started : os.Started) (H : Type) (enc : TypeId × Value → H) :
    ReturnsInHanded {} Try.checked os 4 .any (Yteenfgdemklhcaa.Rows.fnExactChainRewritersSpec.pre6 enc Try.prog Try.f4 Yteenfgdemklhcaa.Rows.fnExactChainRewritersRow.domain false) (Yteenfgdemklhcaa.Rows.fnExactChainRewritersSpec.post enc Try.prog Try.f4 false true false false) := by
  refine returnsInHanded_of_change (C := Try.checked) own started (by kernel_rfl) Try.func4
    (ChangeSpec.witness6 (enc := enc) (C := Try.checked) false ⟨#[], #[.agg #[.slice none 0 0, .slice none 0 0, .slice none 0 0], .agg #[.slice none 0 0, .slice none 0 0, .slice none 0 0]], []⟩ 8 (by kernel_rfl) (by kernel_rfl) (by kernel_rfl) (by kernel_rfl)) ?_
  intro W base args ds gs before hval0 hW hcnd _
  have hval : ∀ (j : Nat) t v, Try.f4.params[j]? = some t → args[j]? = some v → Value.okWide Try.prog W .any base t v := hval0
  have hW' := hW
  obtain ⟨p, q, hA0, hV, rfl, hfz, hnd⟩ := hW
  have hA : DataW.TrodAll enc Try.prog W 0 (fun _ => true) true Try.f4.params.toList args.toList ds p := hA0
  rw [Try.params4] at hA hval
  obtain ⟨v0, v1, d0, d1, p0, p1, rfl, rfl, rfl, h0, h1⟩ := trodAll_two hA
  obtain ⟨rfl, rfl⟩ := trodVars_none hV
  have hw0 := hval 0 36 v0 rfl rfl
  have hw1 := hval 1 36 v1 rfl rfl
  clear hA0 hval0
  simp only [List.append_nil] at hW'
  obtain ⟨x0, hx0, hrx0⟩ := arg_data sh_rew hw0 h0
  obtain ⟨r0, rfl, hb0a, hb0b, hb0c⟩ := typ_rew hx0
  obtain ⟨x1, hx1, hrx1⟩ := arg_data sh_rew hw1 h1
  obtain ⟨r1, rfl, hb1a, hb1b, hb1c⟩ := typ_rew hx1
  refine (law_walk (xs := [r0.d, r1.d]) (vs := [v0, v1]) (c_FnExactChainRewriters r0 r1 hb0a hb0b hb0c hb1a hb1b hb1c) rfl (fun i v y hv hy => ?_)).mono fun e W' ⟨he, hb⟩ => ?_
  · cases i with
    | zero => simp at hv hy; subst hv; subst hy; exact hrx0
    | succ i =>
      cases i with
      | zero => simp at hv hy; subst hv; subst hy; exact hrx1
      | succ i =>
        simp at hv
  subst he
  refine ⟨_, rfl, law_post rfl hW' hb (trodAll_mk1 (shut_bool Try.underlying4 true)) ?_ rfl⟩
  exact trodAll_mk2 (Below.trod laidOut (by kernel_rfl) (of_decide_eq_true (by kernel_rfl)) h0 hb fun y hy => hW'.lt y (by simp [hy])) (Below.trod laidOut (by kernel_rfl) (of_decide_eq_true (by kernel_rfl)) h1 hb fun y hy => hW'.lt y (by simp [hy]))

theorem fnExactChainRewriters_h : Yteenfgdemklhcaa.Rows.FnExactChainRewritersSaid :=
  OpenClaim.holds_of_wide 4 Try.f4 rfl rfl rfl rfl rfl rfl rfl ⟨rfl, rfl, rfl, rfl, rfl⟩ rfl rfl rfl rfl rfl (by kernel_rfl) Try.func4 (by kernel_rfl)
    (of_decide_eq_true (by kernel_rfl)) (by unfold Func.isWrapper; first | (rw [if_pos (by decide +kernel)]; kernel_rfl) | (rw [if_neg (by decide +kernel)]; exact ⟨rfl, rfl⟩))
    (fun os started H enc _ => fnExactChainRewriters_lifted os started H enc)
end Go.Fw
namespace Go.Proofs.Yteenfgdemklhcaa
theorem fnExactChainRewriters_holds : Rows.FnExactChainRewritersSaid := Go.Fw.fnExactChainRewriters_h
end Go.Proofs.Yteenfgdemklhcaa
#print axioms Go.Proofs.Yteenfgdemklhcaa.fnExactChainRewriters_holds
