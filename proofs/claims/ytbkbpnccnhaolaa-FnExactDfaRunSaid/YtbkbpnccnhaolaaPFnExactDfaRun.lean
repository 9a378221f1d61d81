/- FnExactDfaRun: whatever the input, the law answers true, and leaves its input as it was. Conditions: none. -/
import Derived.Test.YtbkbpnccnhaolaaRows
import Derived.Test.YtbkbpnccnhaolaaFt
import Derived.Test.YtbkbpnccnhaolaaMc
set_option linter.unusedSimpArgs false
set_option linter.unusedVariables false
namespace Go.Fw
open Go Go.Proofs Go.ChangeShapes Go.WideShapes Go.ChangeAt Go.RowKit

set_option maxRecDepth 100000 in
theorem fnExactDfaRun_lifted (os : Os) (started : os.Started) (H : Type) (enc : TypeId × Value → H) :
    ReturnsInHanded {} Try.checked os 3 .any (Ytbkbpnccnhaolaa.Rows.fnExactDfaRunSpec.pre6 enc Try.prog Try.f3 Ytbkbpnccnhaolaa.Rows.fnExactDfaRunRow.domain false) (Ytbkbpnccnhaolaa.Rows.fnExactDfaRunSpec.post enc Try.prog Try.f3 false true false false) := by
  refine returnsInHanded_of_change (C := Try.checked) own started (by kernel_rfl) Try.func3
    (ChangeSpec.witness6 (enc := enc) (C := Try.checked) false ⟨#[], #[.agg #[.slice none 0 0, .slice none 0 0], .int .i64 0, .string ⟨#[]⟩], []⟩ 8 (by kernel_rfl) (by kernel_rfl) (by kernel_rfl) (by kernel_rfl)) ?_
  intro W base args ds gs before hval0 hW hcnd _
  have hval : ∀ (j : Nat) t v, Try.f3.params[j]? = some t → args[j]? = some v → Value.okWide Try.prog W .any base t v := hval0
  have hW' := hW
  obtain ⟨p, q, hA0, hV, rfl, hfz, hnd⟩ := hW
  have hA : DataW.TrodAll enc Try.prog W 0 (fun _ => true) true Try.f3.params.toList args.toList ds p := hA0
  rw [Try.params3] at hA hval
  obtain ⟨v0, v1, v2, d0, d1, d2, p0, p1, p2, rfl, rfl, rfl, h0, h1, h2⟩ := trodAll_three hA
  obtain ⟨rfl, rfl⟩ := trodVars_none hV
  have hw0 := hval 0 25 v0 rfl rfl
  have hw1 := hval 1 3 v1 rfl rfl
  have hw2 := hval 2 9 v2 rfl rfl
  clear hA0 hval0
  simp only [List.append_nil] at hW'
  obtain ⟨x0, hx0, hrx0⟩ := arg_data sh_dfa hw0 h0
  obtain ⟨a0, rfl, hb0a⟩ := typ_dfa hx0
  obtain ⟨x1, hx1, hrx1⟩ := arg_data sh_int hw1 h1
  obtain ⟨n1, rfl, hb1a, hb1b⟩ := typ_int hx1
  obtain ⟨x2, hx2, hrx2⟩ := arg_data sh_str hw2 h2
  obtain ⟨s2, rfl, hb2a⟩ := typ_str hx2
  refine (law_walk (xs := [a0.d, iD n1, sD s2]) (vs := [v0, v1, v2]) (c_FnExactDfaRun a0 n1 s2 hb0a hb1a hb1b hb2a) rfl (fun i v y hv hy => ?_)).mono fun e W' ⟨he, hb⟩ => ?_
  · cases i with
    | zero => simp at hv hy; subst hv; subst hy; exact hrx0
    | succ i =>
      cases i with
      | zero => simp at hv hy; subst hv; subst hy; exact hrx1
      | succ i =>
        cases i with
        | zero => simp at hv hy; subst hv; subst hy; exact hrx2
        | succ i =>
          simp at hv
  subst he
  refine ⟨_, rfl, law_post rfl hW' hb (trodAll_mk1 (shut_bool Try.underlying4 true)) ?_ rfl⟩
  rw [List.append_assoc]
  exact trodAll_mk3 (Below.trod laidOut (by kernel_rfl) (of_decide_eq_true (by kernel_rfl)) h0 hb fun y hy => hW'.lt y (by simp [hy])) (Below.trod laidOut (by kernel_rfl) (of_decide_eq_true (by kernel_rfl)) h1 hb fun y hy => hW'.lt y (by simp [hy])) (Below.trod laidOut (by kernel_rfl) (of_decide_eq_true (by kernel_rfl)) h2 hb fun y hy => hW'.lt y (by simp [hy]))

theorem fnExactDfaRun_h : Ytbkbpnccnhaolaa.Rows.FnExactDfaRunSaid :=
  OpenClaim.holds_of_wide 3 Try.f3 rfl rfl rfl rfl rfl rfl rfl ⟨rfl, rfl, rfl, rfl, rfl⟩ rfl rfl rfl rfl rfl (by kernel_rfl) Try.func3 (by kernel_rfl)
    (of_decide_eq_true (by kernel_rfl)) (by unfold Func.isWrapper; first | (rw [if_pos (by decide +kernel)]; kernel_rfl) | (rw [if_neg (by decide +kernel)]; exact ⟨rfl, rfl⟩))
    (fun os started H enc _ => fnExactDfaRun_lifted os started H enc)
end Go.Fw
namespace Go.Proofs.Ytbkbpnccnhaolaa
theorem fnExactDfaRun_holds : Rows.FnExactDfaRunSaid := Go.Fw.fnExactDfaRun_h
end Go.Proofs.Ytbkbpnccnhaolaa
#print axioms Go.Proofs.Ytbkbpnccnhaolaa.fnExactDfaRun_holds
