/- Automata, texts and places that are drawn. -/
import Derived.Test.YtjnnalkjabenaaaOu
set_option linter.unusedSimpArgs false
set_option linter.unusedVariables false
namespace Go.Fw
open Go Go.Proofs
set_option linter.unusedSectionVars false
set_option linter.unnecessarySimpa false

theorem pick8 {v : Int} (h : pickOk 8 v) : v = 0 ∨ v = 1 ∨ v = 2 ∨ v = 3 ∨ v = 4 ∨ v = 5 ∨ v = 6 ∨ v = 7 := by
  obtain ⟨h1, h2, _⟩ := h
  have := h2 (by omega)
  omega
theorem pickB {v : Int} {n : Nat} (h : pickOk (min 256 ((n : Int) + 1)) v) : 0 ≤ v ∧ v ≤ n := by
  obtain ⟨h1, h2, _⟩ := h
  have := h2 (by omega)
  omega

def DfTxR (r : List D) : Prop := ∃ (a : Df) (s : List UInt8), r = [a.d, sD s] ∧ a.tiny ∧ s.length ≤ 200

set_option maxRecDepth 100000 in
theorem c_DrawFindAll (code : List UInt8) : TCalls Try.prog 76 [.d (.list (codeD code))] DfTxR := by
  refine tcalls_intro Ty.mixed Try.func76 rfl rfl rfl [] (by kernel_rfl) (by simp) ?_
  simp
  refine .fresh 700 (c_l20Open code) (by omega) (by simp) rfl (by simp) ?_
  rintro _ ⟨code', rfl, hc⟩
  simp [rdB]
  refine .lend (b := rdB (codeD code') 0) (d_l20Finite code' (by omega) 0 14 (by omega) (by omega) (by omega)) (by simp [rdB]) (by simp) rfl (by simp) ?_
  rintro _ _ ⟨q, rfl, h1, h2, a, rfl, ha⟩
  simp [rdB, Df.d]
  refine .one (sch [.pur 0, .pur 1, .eff 2 [0], .eff 3 [], .pur 4]) (by kernel_rfl) ?_
  simp
  refine .lend (b := rdB (codeD code') q) (d_l20Long code' (by omega) q 14 (by omega) (by omega) (by omega)) (by simp [rdB]) (by simp) rfl (by simp) ?_
  rintro _ _ ⟨q2, rfl, h3, h4, s, rfl, hs⟩
  simp [rdB]
  exact ⟨a, s, rfl, ha, hs⟩

set_option maxRecDepth 100000 in
theorem c_DrawFewestParts (code : List UInt8) : TCalls Try.prog 37 [.d (.list (codeD code))] DfTxR := by
  refine tcalls_intro Ty.mixed Try.func37 rfl rfl rfl [] (by kernel_rfl) (by simp) ?_
  simp
  refine .tdat (c_DrawFindAll code) rfl (by simp) ?_
  rintro _ ⟨a, s, rfl, ha, hs⟩
  simp [Df.d]
  exact ⟨a, s, rfl, ha, hs⟩

set_option maxHeartbeats 800000 in
set_option maxRecDepth 100000 in
theorem c_DrawFindFirst (code : List UInt8) : TCalls Try.prog 46 [.d (.list (codeD code))] fun y => ∃ (a : Df) (s : List UInt8) (f : Int), y = [a.d, sD s, iD f] ∧ a.tiny ∧ s.length ≤ 200 ∧ -1 ≤ f ∧ f ≤ 201 := by
  refine tcalls_intro Ty.mixed Try.func46 rfl rfl rfl [] (by kernel_rfl) (by simp) ?_
  simp
  refine .fresh 700 (c_l20Open code) (by omega) (by simp) rfl (by simp) ?_
  rintro _ ⟨code', rfl, hc⟩
  simp [rdB]
  refine .lend (b := rdB (codeD code') 0) (d_l20Finite code' (by omega) 0 14 (by omega) (by omega) (by omega)) (by simp [rdB]) (by simp) rfl (by simp) ?_
  rintro _ _ ⟨q, rfl, h1, h2, a, rfl, ha⟩
  simp [rdB, Df.d]
  refine .lend (b := rdB (codeD code') q) (d_l20Long code' (by omega) q 14 (by omega) (by omega) (by omega)) (by simp [rdB]) (by simp) rfl (by simp) ?_
  rintro _ _ ⟨q1, rfl, h3, h4, s, rfl, hs⟩
  have hw : IntKind.i64.wrap ((s.length : Int) + 1) = s.length + 1 := wrap64 (by omega) (by omega)
  simp [rdB, hw]
  refine AnyVC.pre (Wk.mk (slots := [(2, .ptr 200 0), (5, .ptr 700 0), (6, .ptr 600 0), (7, sA s)]) (heap := [(200, .bx [.nl, .nl]), (600, .bx [.d (rowsD a.next), .d (bsD a.ends)]), (700, .bx [.d (.list (codeD code')), iA q1])]) (used := [200, 600, 700]) (by simp) (by simp)) ?_
  refine .one (schA [.pur 0, .pur 1, .pur 2, .pur 3, .pur 4, .pur 5, .pur 6, .pur 8, .pur 9, .pur 10, .pur 13] (.alt 7 [0, 1, 8, 9, 10, 13] (schA [] (.alt3 11 [0, 1, 13] (schA [] (.alt 12 [0, 1, 2, 3, 4, 5, 6, 8, 9, 10, 13] (sch [.eff 14 [0, 1, 8, 9, 10], .pur 15, .pur 16, .pur 17, .pur 18, .eff 19 [1, 8, 9, 10, 15, 16, 17, 18], .pur 20, .pur 21]) 14 [0, 1, 8, 9, 10] (schA [] (.alt 12 [0, 1, 2, 3, 4, 5, 6, 8, 9, 10, 13] (sch [.pur 15, .pur 16, .pur 17, .pur 18, .eff 19 [1, 8, 9, 10, 15, 16, 17, 18], .pur 20, .pur 21]) 19 [1, 8, 9, 10] (sch [.pur 20, .eff 12 [0, 1, 2, 3, 4, 5, 6, 8, 9, 10, 13, 20], .pur 15, .pur 16, .pur 17, .pur 18, .pur 21]))))) 12 [0, 1, 2, 3, 4, 5, 6, 8, 9, 10, 13] (schA [] (.alt 11 [0, 1, 13] (sch [.eff 14 [0, 1, 8, 9, 10], .pur 15, .pur 16, .pur 17, .pur 18, .eff 19 [1, 8, 9, 10, 15, 16, 17, 18], .pur 20, .pur 21]) 14 [0, 1, 8, 9, 10] (schA [.pur 15, .pur 16] (.alt 11 [0, 1, 13, 15, 16] (sch [.pur 17, .pur 18, .eff 19 [1, 8, 9, 10, 15, 16, 17, 18], .pur 20, .pur 21]) 19 [1, 8, 9, 10, 15, 16] (sch [.pur 20, .eff 11 [0, 1, 13, 15, 16, 20], .pur 17, .pur 18, .pur 21]))))) 14 [0, 1, 8, 9, 10] (schA [] (.alt3 11 [0, 1, 13] (schA [] (.alt 12 [0, 1, 2, 3, 4, 5, 6, 8, 9, 10, 13] (sch [.pur 15, .pur 16, .pur 17, .pur 18, .eff 19 [1, 8, 9, 10, 15, 16, 17, 18], .pur 20, .pur 21]) 19 [1, 8, 9, 10] (sch [.pur 20, .eff 12 [0, 1, 2, 3, 4, 5, 6, 8, 9, 10, 13, 20], .pur 15, .pur 16, .pur 17, .pur 18, .pur 21]))) 12 [0, 1, 2, 3, 4, 5, 6, 8, 9, 10, 13] (schA [.pur 15, .pur 16] (.alt 11 [0, 1, 13, 15, 16] (sch [.pur 17, .pur 18, .eff 19 [1, 8, 9, 10, 15, 16, 17, 18], .pur 20, .pur 21]) 19 [1, 8, 9, 10, 15, 16] (sch [.pur 20, .eff 11 [0, 1, 13, 15, 16, 20], .pur 17, .pur 18, .pur 21]))) 19 [1, 8, 9, 10] (schA [.pur 20] (.alt 11 [0, 1, 13, 20] (sch [.eff 12 [0, 1, 2, 3, 4, 5, 6, 8, 9, 10, 13, 20], .pur 15, .pur 16, .pur 17, .pur 18, .pur 21]) 12 [0, 1, 2, 3, 4, 5, 6, 8, 9, 10, 13, 20] (sch [.pur 15, .pur 16, .eff 11 [0, 1, 13, 20, 15, 16], .pur 17, .pur 18, .pur 21]))))))) 12 [0, 1, 2, 3, 4, 5, 6, 8, 9, 10, 13] (schA [.eff 7 [0, 1, 8, 9, 10, 13]] (.alt 11 [0, 1, 13] (sch [.eff 14 [0, 1, 8, 9, 10], .pur 15, .pur 16, .pur 17, .pur 18, .eff 19 [1, 8, 9, 10, 15, 16, 17, 18], .pur 20, .pur 21]) 14 [0, 1, 8, 9, 10] (schA [.pur 15, .pur 16] (.alt 11 [0, 1, 13, 15, 16] (sch [.pur 17, .pur 18, .eff 19 [1, 8, 9, 10, 15, 16, 17, 18], .pur 20, .pur 21]) 19 [1, 8, 9, 10, 15, 16] (sch [.pur 20, .eff 11 [0, 1, 13, 15, 16, 20], .pur 17, .pur 18, .pur 21]))))))) (by kernel_rfl) ?_
  simp [hw]
  repeat' apply And.intro
  all_goals try rfl
  all_goals refine .lend (b := rdB (codeD code') q1) (d_pick code' (by omega) q1 _ (by omega) (by omega) (by omega)) (by simp [rdB]) (by simp) rfl (by simp) ?_
  all_goals rintro _ _ ⟨q2, rfl, h5, h6, v, rfl, hv⟩
  all_goals first
    | (rcases pick8 hv with rfl | rfl | rfl | rfl | rfl | rfl | rfl | rfl)
    | (have u1 := pickB hv)
  all_goals simp [rdB, hw]
  all_goals repeat' apply And.intro
  all_goals try rfl
  all_goals refine .lend (b := rdB (codeD code') q2) (d_pick code' (by omega) q2 _ (by omega) (by omega) (by omega)) (by simp [rdB]) (by simp) rfl (by simp) ?_
  all_goals rintro _ _ ⟨q3, rfl, h7, h8, v', rfl, hv'⟩
  all_goals first
    | (rcases pick8 hv' with rfl | rfl | rfl | rfl | rfl | rfl | rfl | rfl)
    | (have u1 := pickB hv')
  all_goals simp [rdB, hw]
  all_goals repeat' first
    | exact ⟨a, s, _, ⟨⟨rfl, rfl⟩, rfl, rfl⟩, ha, hs, by omega, by omega⟩
    | exact ⟨by omega, a, s, _, ⟨⟨rfl, rfl⟩, rfl, rfl⟩, ha, hs, by omega, by omega⟩
    | rfl
    | apply And.intro
end Go.Fw
