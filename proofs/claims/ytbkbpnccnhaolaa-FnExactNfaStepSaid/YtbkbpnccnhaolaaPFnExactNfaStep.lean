/- FnExactNfaStep: whatever the input, the law answers true, and leaves its input as it was. Conditions: none. -/
import Derived.Test.YtbkbpnccnhaolaaRows
import Derived.Test.YtbkbpnccnhaolaaFu
import Derived.Test.YtbkbpnccnhaolaaMi
set_option linter.unusedSimpArgs false
set_option linter.unusedVariables false
namespace Go.Fw
open Go Go.Proofs Go.ChangeShapes Go.WideShapes Go.ChangeAt Go.RowKit

set_option maxRecDepth 100000 in
theorem fnExactNfaStep_lifted (os : Os) (started : os.Started) (H : Type) (enc : TypeId × Value → H) :
    ReturnsInHanded {} Try.checked os 7 .any (Ytbkbpnccnhaolaa.Rows.fnExactNfaStepSpec.pre6 enc Try.prog Try.f7 Ytbkbpnccnhaolaa.Rows.fnExactNfaStepRow.domain false) (Ytbkbpnccnhaolaa.Rows.fnExactNfaStepSpec.post enc Try.prog Try.f7 false true false false) := by
  refine returnsInHanded_of_change (C := Try.checked) own started (by kernel_rfl) Try.func7
    (ChangeSpec.witness6 (enc := enc) (C := Try.checked) false ⟨#[], #[.agg #[.int .i64 0, .slice none 0 0, .slice none 0 0, .slice none 0 0], .slice none 0 0, .int .i64 0], []⟩ 8 (by kernel_rfl) (by kernel_rfl) (by kernel_rfl) (by kernel_rfl)) ?_
  intro W base args ds gs before hval0 hW hcnd _
  have hval : ∀ (j : Nat) t v, Try.f7.params[j]? = some t → args[j]? = some v → Value.okWide Try.prog W .any base t v := hval0
  have hW' := hW
  obtain ⟨p, q, hA0, hV, rfl, hfz, hnd⟩ := hW
  have hA : DataW.TrodAll enc Try.prog W 0 (fun _ => true) true Try.f7.params.toList args.toList ds p := hA0
  rw [Try.params7] at hA hval
  obtain ⟨v0, v1, v2, d0, d1, d2, p0, p1, p2, rfl, rfl, rfl, h0, h1, h2⟩ := trodAll_three hA
  obtain ⟨rfl, rfl⟩ := trodVars_none hV
  have hw0 := hval 0 38 v0 rfl rfl
  have hw1 := hval 1 36 v1 rfl rfl
  have hw2 := hval 2 3 v2 rfl rfl
  clear hA0 hval0
  simp only [List.append_nil] at hW'
  obtain ⟨x0, hx0, hrx0⟩ := arg_data sh_nfa hw0 h0
  obtain ⟨a0, rfl, hb0a⟩ := typ_nfa hx0
  obtain ⟨x1, hx1, hrx1⟩ := arg_data sh_ints hw1 h1
  obtain ⟨xs1, rfl, hb1a⟩ := typ_ints hx1
  obtain ⟨x2, hx2, hrx2⟩ := arg_data sh_int hw2 h2
  obtain ⟨n2, rfl, hb2a, hb2b⟩ := typ_int hx2
  refine (law_walk (xs := [a0.d, intsD xs1, iD n2]) (vs := [v0, v1, v2]) (c_FnExactNfaStep a0 xs1 n2 hb0a hb1a hb2a hb2b) rfl (fun i v y hv hy => ?_)).mono fun e W' ⟨he, hb⟩ => ?_
  · cases i with
    | zero => simp at hv hy; subst hv; subst hy; exact hrx0
    | succ i =>
      cases i with
      | zero => simp at hv hy; subst hv; subst hy; exact hrx1
      | succ i =>
        cases i with
        | zero => simp at hv hy; subst hv; subst hy; exact hrx2
        | succ i =>
          simp at hv
  subst he
  refine ⟨_, rfl, law_post rfl hW' hb (trodAll_mk1 (shut_bool Try.underlying4 true)) ?_ rfl⟩
  rw [List.append_assoc]
  exact trodAll_mk3 (Below.trod laidOut (by kernel_rfl) (of_decide_eq_true (by kernel_rfl)) h0 hb fun y hy => hW'.lt y (by simp [hy])) (Below.trod laidOut (by kernel_rfl) (of_decide_eq_true (by kernel_rfl)) h1 hb fun y hy => hW'.lt y (by simp [hy])) (Below.trod laidOut (by kernel_rfl) (of_decide_eq_true (by kernel_rfl)) h2 hb fun y hy => hW'.lt y (by simp [hy]))

theorem fnExactNfaStep_h : Ytbkbpnccnhaolaa.Rows.FnExactNfaStepSaid :=
  OpenClaim.holds_of_wide 7 Try.f7 rfl rfl rfl rfl rfl rfl rfl ⟨rfl, rfl, rfl, rfl, rfl⟩ rfl rfl rfl rfl rfl (by kernel_rfl) Try.func7 (by kernel_rfl)
    (of_decide_eq_true (by kernel_rfl)) (by unfold Func.isWrapper; first | (rw [if_pos (by decide +kernel)]; kernel_rfl) | (rw [if_neg (by decide +kernel)]; exact ⟨rfl, rfl⟩))
    (fun os started H enc _ => fnExactNfaStep_lifted os started H enc)
end Go.Fw
namespace Go.Proofs.Ytbkbpnccnhaolaa
theorem fnExactNfaStep_holds : Rows.FnExactNfaStepSaid := Go.Fw.fnExactNfaStep_h
end Go.Proofs.Ytbkbpnccnhaolaa
#print axioms Go.Proofs.Ytbkbpnccnhaolaa.fnExactNfaStep_holds
