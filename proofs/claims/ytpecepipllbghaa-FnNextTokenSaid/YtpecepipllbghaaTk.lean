/- Patterns, a text and a place that are drawn. -/
import Derived.Test.YtpecepipllbghaaOy
import Derived.Test.YtpecepipllbghaaOv
set_option linter.unusedSimpArgs false
set_option linter.unusedVariables false
namespace Go.Fw
open Go Go.Proofs
set_option linter.unusedSectionVars false
set_option linter.unnecessarySimpa false

set_option maxHeartbeats 1600000 in
set_option maxRecDepth 100000 in
theorem c_DrawNextToken (code : List UInt8) : TCalls Try.prog 13 [.d (.list (codeD code))] fun y => ∃ (ds : List Df) (s : List UInt8) (f : Int), y = [dsD ds, sD s, iD f] ∧ ds.length ≤ 5 ∧ (∀ a ∈ ds, a.tiny) ∧ s.length ≤ 200 ∧ -1 ≤ f ∧ f ≤ 201 := by
  refine tcalls_intro Ty.mixed Try.func13 rfl rfl rfl [] (by kernel_rfl) (by simp) ?_
  simp
  refine .fresh 700 (c_l20Open code) (by omega) (by simp) rfl (by simp) ?_
  rintro _ ⟨code', rfl, hc⟩
  simp [rdB]
  refine .lend (b := rdB (codeD code') 0) (d_l20Patterns code' (by omega) 0 14 (by omega) (by omega) (by omega)) (by simp [rdB]) (by simp) rfl (by simp) ?_
  rintro _ _ ⟨q, rfl, h1, h2, ds, rfl, hd, ht⟩
  simp [rdB]
  refine .lend (b := rdB (codeD code') q) (d_l20Long code' (by omega) q 14 (by omega) (by omega) (by omega)) (by simp [rdB]) (by simp) rfl (by simp) ?_
  rintro _ _ ⟨q1, rfl, h3, h4, s, rfl, hs⟩
  have hw : IntKind.i64.wrap ((s.length : Int) + 1) = s.length + 1 := wrap64 (by omega) (by omega)
  generalize hX : ds.map Df.d = X
  simp [rdB, hw]
  refine AnyVC.pre (Wk.mk (slots := [(5, .ptr 700 0), (6, .d (.list X)), (7, sA s)]) (heap := [(700, .bx [.d (.list (codeD code')), iA q1])]) (used := [700]) (by simp [hX]) (by simp)) ?_
  refine .one (schA [.pur 0, .pur 1, .pur 2, .pur 3, .pur 4, .pur 5, .pur 6, .pur 8, .pur 9, .pur 10, .pur 13] (.alt 7 [0, 1, 8, 9, 10, 13] (schA [] (.alt3 11 [0, 1, 13] (schA [] (.alt 12 [0, 1, 2, 3, 4, 5, 6, 8, 9, 10, 13] (sch [.eff 14 [0, 1, 8, 9, 10], .pur 15, .pur 16, .pur 17, .pur 18, .pur 19, .pur 20, .pur 21]) 14 [0, 1, 8, 9, 10] (sch [.pur 19, .pur 20, .eff 12 [0, 1, 2, 3, 4, 5, 6, 8, 9, 10, 13, 19, 20], .pur 15, .pur 16, .pur 17, .pur 18, .pur 21]))) 12 [0, 1, 2, 3, 4, 5, 6, 8, 9, 10, 13] (schA [] (.alt 11 [0, 1, 13] (sch [.eff 14 [0, 1, 8, 9, 10], .pur 15, .pur 16, .pur 17, .pur 18, .pur 19, .pur 20, .pur 21]) 14 [0, 1, 8, 9, 10] (sch [.pur 15, .pur 16, .pur 19, .pur 20, .eff 11 [0, 1, 13, 15, 16, 19, 20], .pur 17, .pur 18, .pur 21]))) 14 [0, 1, 8, 9, 10] (schA [.pur 19, .pur 20] (.alt 11 [0, 1, 13, 19, 20] (sch [.eff 12 [0, 1, 2, 3, 4, 5, 6, 8, 9, 10, 13, 19, 20], .pur 15, .pur 16, .pur 17, .pur 18, .pur 21]) 12 [0, 1, 2, 3, 4, 5, 6, 8, 9, 10, 13, 19, 20] (sch [.pur 15, .pur 16, .eff 11 [0, 1, 13, 19, 20, 15, 16], .pur 17, .pur 18, .pur 21]))))) 12 [0, 1, 2, 3, 4, 5, 6, 8, 9, 10, 13] (schA [.eff 7 [0, 1, 8, 9, 10, 13]] (.alt 11 [0, 1, 13] (sch [.eff 14 [0, 1, 8, 9, 10], .pur 15, .pur 16, .pur 17, .pur 18, .pur 19, .pur 20, .pur 21]) 14 [0, 1, 8, 9, 10] (sch [.pur 15, .pur 16, .pur 19, .pur 20, .eff 11 [0, 1, 13, 15, 16, 19, 20], .pur 17, .pur 18, .pur 21]))))) (by kernel_rfl) ?_
  simp [hw]
  repeat' apply And.intro
  all_goals try rfl
  all_goals refine .lend (b := rdB (codeD code') q1) (d_pick code' (by omega) q1 _ (by omega) (by omega) (by omega)) (by simp [rdB]) (by simp) rfl (by simp) ?_
  all_goals rintro _ _ ⟨q2, rfl, h5, h6, v, rfl, hv⟩
  all_goals first
    | (rcases pick8 hv with rfl | rfl | rfl | rfl | rfl | rfl | rfl | rfl)
    | (have u1 := pickB hv)
  all_goals simp [rdB, hw]
  all_goals repeat' apply And.intro
  all_goals try rfl
  all_goals refine .lend (b := rdB (codeD code') q2) (d_pick code' (by omega) q2 _ (by omega) (by omega) (by omega)) (by simp [rdB]) (by simp) rfl (by simp) ?_
  all_goals rintro _ _ ⟨q3, rfl, h7, h8, v', rfl, hv'⟩
  all_goals first
    | (rcases pick8 hv' with rfl | rfl | rfl | rfl | rfl | rfl | rfl | rfl)
    | (have u1 := pickB hv')
  all_goals simp [rdB, hw]
  all_goals repeat' first
    | exact ⟨ds, s, _, ⟨hX.symm, rfl, rfl⟩, hd, ht, hs, by omega, by omega⟩
    | exact ⟨by omega, ds, s, _, ⟨hX.symm, rfl, rfl⟩, hd, ht, hs, by omega, by omega⟩
    | rfl
    | apply And.intro
end Go.Fw
