/- FnExactTokenText: whatever the input, the law answers true, and leaves its input as it was. Conditions: none. -/
import Derived.Test.YtpecepipllbghaaDoorRows
import Derived.Test.YtpecepipllbghaaDoorCards
import Derived.Test.YtpecepipllbghaaDoorTie
import Derived.Lay
import Derived.SevenTiedAt
import Derived.Test.YtpecepipllbghaaDoorFv
import Derived.Test.YtpecepipllbghaaDoorTo
set_option linter.unusedSimpArgs false
set_option linter.unusedVariables false
namespace Go.Fw
open Go Go.Proofs Go.ChangeShapes Go.WideShapes Go.ChangeAt Go.RowKit

set_option maxRecDepth 100000 in
theorem fnExactTokenText_lifted (os : Os) (started : os.Started) (H : Type) (enc : TypeId × Value → H) :
    ReturnsInHanded {} Tryd.checked os 4 .any (fun w args => (YtpecepipllbghaaDoor.Rows.fnExactTokenTextSpec.pre enc Tryd.prog Tryd.f4 [] false w args ∧ laidMetH Tryd.prog YtpecepipllbghaaDoor.Rows.fnExactTokenTextRow.laid w) ∧ sizedMet enc Tryd.prog Tryd.f4 (OpenSpec.ofChange YtpecepipllbghaaDoor.Rows.fnExactTokenTextSpec) false w args) (YtpecepipllbghaaDoor.Rows.fnExactTokenTextSpec.post enc Tryd.prog Tryd.f4 false true false false) := by
  refine returnsInHanded_of_change_and (C := Tryd.checked) (X := fun w _ => laidMetH Tryd.prog YtpecepipllbghaaDoor.Rows.fnExactTokenTextRow.laid w) (fun _ _ _ hh h => h.of_heap hh) own started (by kernel_rfl) Tryd.func4
    (ChangeSpec.witness_shaped (enc := enc) (C := Tryd.checked) (os := os) (X := fun w _ => laidMetH Tryd.prog YtpecepipllbghaaDoor.Rows.fnExactTokenTextRow.laid w) false (World.laidAll Tryd.prog os YtpecepipllbghaaDoor.Rows.fnExactTokenTextRow.laid) #[.slice none 0 0, .string ⟨#[]⟩] 8 (World.laidAll_os _ _ _)
      (World.shaped_of_ZipB (by kernel_rfl) (by kernel_rfl)) (by kernel_rfl) (by kernel_rfl) (by kernel_rfl)
      (by rw [MakeChecks.laidMetH_plain _ _ _ (by kernel_rfl)]; exact laidMet_laidAll _ (by kernel_rfl) (by kernel_rfl))) ?_
  intro W base args ds gs before hval0 hW _ _ _ _
  have hval : ∀ (j : Nat) t v, Tryd.f4.params[j]? = some t → args[j]? = some v → Value.okWide Tryd.prog W .any base t v := hval0
  have hW' := hW
  obtain ⟨p, q, hA0, hV, rfl, hfz, hnd⟩ := hW
  have hA : DataW.TrodAll enc Tryd.prog W 0 (fun _ => true) true Tryd.f4.params.toList args.toList ds p := hA0
  rw [Tryd.params4] at hA hval
  obtain ⟨v0, v1, d0, d1, p0, p1, rfl, rfl, rfl, h0, h1⟩ := trodAll_two hA
  obtain ⟨rfl, rfl⟩ := trodVars_none hV
  have hw0 := hval 0 32 v0 rfl rfl
  have hw1 := hval 1 9 v1 rfl rfl
  clear hA0 hval0
  simp only [List.append_nil] at hW'
  obtain ⟨x0, hx0, hrx0⟩ := arg_data sh_dfas hw0 h0
  obtain ⟨ds0, rfl, hb0a⟩ := typ_dfas hx0
  obtain ⟨x1, hx1, hrx1⟩ := arg_data sh_str hw1 h1
  obtain ⟨s1, rfl, hb1a⟩ := typ_str hx1
  refine (law_walk (xs := [dsD ds0, sD s1]) (vs := [v0, v1]) (c_FnExactTokenText ds0 s1 hb0a hb1a) rfl (fun i v y hv hy => ?_)).mono fun e W' ⟨he, hb⟩ => ?_
  · cases i with
    | zero => simp at hv hy; subst hv; subst hy; exact hrx0
    | succ i =>
      cases i with
      | zero => simp at hv hy; subst hv; subst hy; exact hrx1
      | succ i =>
        simp at hv
  subst he
  refine ⟨_, rfl, law_post rfl hW' hb (trodAll_mk1 (shut_bool Tryd.underlying4 true)) ?_ rfl⟩
  exact trodAll_mk2 (Below.trod laidOut (by kernel_rfl) (of_decide_eq_true (by kernel_rfl)) h0 hb fun y hy => hW'.lt y (by simp [hy])) (Below.trod laidOut (by kernel_rfl) (of_decide_eq_true (by kernel_rfl)) h1 hb fun y hy => hW'.lt y (by simp [hy]))

theorem fnExactTokenText_h : YtpecepipllbghaaDoor.Rows.FnExactTokenTextSaid :=
  OpenClaim.holds_of_wide 4 Tryd.f4 rfl rfl rfl rfl rfl rfl rfl ⟨rfl, rfl, rfl, rfl, rfl⟩ rfl rfl rfl rfl rfl (by kernel_rfl) Tryd.func4 (by kernel_rfl)
    (of_decide_eq_true (by kernel_rfl)) (by unfold Func.isWrapper; first | (rw [if_pos (by decide +kernel)]; kernel_rfl) | (rw [if_neg (by decide +kernel)]; exact ⟨rfl, rfl⟩))
    (fun os started H enc _ => fnExactTokenText_lifted os started H enc)
theorem fnExactTokenText_card : YtpecepipllbghaaDoor.Rows.FnExactTokenTextCardSaid :=
  Claim7.holds_tied_plain_at .later [] [.data, .data, .data] true (true, "9052fd68256b5fbe414e22a5f5c8c23381bc8ba37f201f34fcd70e6c331074d6") false fnExactTokenText_h (fun _ h => by cases h) (by kernel_rfl) (fun _ h => by cases h) YtpecepipllbghaaDoor.fnExactTokenText_row_tie rfl ⟨rfl, rfl⟩ (by kernel_rfl) rfl
    (fun f fn hf hfn => by
      obtain rfl : f = 4 := Option.some.inj ((show Tryd.prog.funcNamed "loop.example/regularlanguages/laws.FnExactTokenText" = some 4 by kernel_rfl).symm.trans hf) |>.symm
      obtain rfl : fn = Tryd.f4 := (Option.some.inj (Tryd.func4.symm.trans hfn)).symm
      exact ⟨by kernel_rfl, fun j t ht => by
        rw [Tryd.params4] at ht
        have hm : t ∈ [32, 9] := by simpa using Array.mem_of_getElem? ht
        have hall : ([32, 9].all fun u => !Tryd.prog.wantsStandIn u) = true := by kernel_rfl
        exact (show Tryd.prog.wantsStandIn t = false by simpa using List.all_eq_true.1 hall t hm)⟩)
    (by kernel_rfl)
end Go.Fw
namespace Go.Proofs.YtpecepipllbghaaDoor
theorem fnExactTokenText_holds : Rows.FnExactTokenTextCardSaid := Go.Fw.fnExactTokenText_card
end Go.Proofs.YtpecepipllbghaaDoor
#print axioms Go.Proofs.YtpecepipllbghaaDoor.fnExactTokenText_holds
