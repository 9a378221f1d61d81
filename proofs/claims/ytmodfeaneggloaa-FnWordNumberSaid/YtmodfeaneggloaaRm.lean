/- An automaton and a number that are drawn. -/
import Derived.Test.YtmodfeaneggloaaOu
set_option linter.unusedSimpArgs false
set_option linter.unusedVariables false
namespace Go.Fw
open Go Go.Proofs
set_option linter.unusedSectionVars false
set_option linter.unnecessarySimpa false

def ix8 (v : Int) : Int := [0, 0, 0, 0, 1, 1, 2, 3].getD v.toNat 0
theorem ixF {v : Int} (h : pickOk 8 v) : ([D.int .i64 0, D.int .i64 0, D.int .i64 0, D.int .i64 0, D.int .i64 1, D.int .i64 1, D.int .i64 2, D.int .i64 3][v.toNat]? = some (iD (ix8 v))) ∧
    (∀ h, [D.int .i64 0, D.int .i64 0, D.int .i64 0, D.int .i64 0, D.int .i64 1, D.int .i64 1, D.int .i64 2, D.int .i64 3][v.toNat]'h = iD (ix8 v)) ∧ 0 ≤ ix8 v ∧ ix8 v < 4 ∧ 0 ≤ v ∧ v < 8 ∧ v.toNat < 8 := by
  obtain ⟨h1, h2, _⟩ := h
  have h2 := h2 (by omega)
  obtain rfl | rfl | rfl | rfl | rfl | rfl | rfl | rfl : v = 0 ∨ v = 1 ∨ v = 2 ∨ v = 3 ∨ v = 4 ∨ v = 5 ∨ v = 6 ∨ v = 7 := by omega
  all_goals exact ⟨rfl, fun _ => rfl, by decide, by decide, by decide, by decide, by decide⟩
theorem ixC {v : Int} (h : pickOk 8 v) : ix8 v = 0 ∨ ix8 v = 1 ∨ ix8 v = 2 ∨ ix8 v = 3 := by
  have := ixF h
  omega
theorem pickR {v : Int} (h : pickOk 256 v) : 0 ≤ v ∧ v < 256 ∧ IntKind.i64.wrap (v * 17) = v * 17 := by
  obtain ⟨h1, h2, _⟩ := h
  have h2 := h2 (by omega)
  exact ⟨h1, by omega, wrap64 (by omega) (by omega)⟩
def DwnR (y : List D) : Prop := ∃ (a : Df) (n : Int), y = [a.d, iD n] ∧ a.tiny ∧ -1 ≤ n ∧ n ≤ 9223372036854775807
theorem dwn (a : Df) (ha : a.tiny) (n : Int) (h1 : -1 ≤ n) (h2 : n ≤ 9223372036854775807) : DwnR [.agg [rowsD a.next, bsD a.ends], iD n] := ⟨a, n, rfl, ha, h1, h2⟩

set_option maxHeartbeats 3200000 in
set_option maxRecDepth 100000 in
theorem c_DrawWordNumber (code : List UInt8) : TCalls Try.prog 31 [.d (.list (codeD code))] DwnR := by
  refine tcalls_intro Ty.mixed Try.func31 rfl rfl rfl [] (by kernel_rfl) (by simp) ?_
  simp
  refine .fresh 700 (c_l20Open code) (by omega) (by simp) rfl (by simp) ?_
  rintro _ ⟨code', rfl, hc⟩
  simp [rdB]
  refine .lend (b := rdB (codeD code') 0) (d_l20Finite code' (by omega) 0 14 (by omega) (by omega) (by omega)) (by simp [rdB]) (by simp) rfl (by simp) ?_
  rintro _ _ ⟨q1, rfl, h1, h2, a, rfl, ha⟩
  simp [rdB, Df.d]
  refine AnyVC.pre (Wk.mk (slots := [(2, .ptr 200 0), (4, .ptr 700 0), (5, .ptr 500 0)]) (heap := [(200, .bx [.nl, .nl]), (500, .bx [.d (rowsD a.next), .d (bsD a.ends)]), (700, .bx [.d (.list (codeD code')), iA q1])]) (used := [200, 500, 700]) (by simp) (by simp)) ?_
  refine .one (schA [.pur 0, .pur 1, .pur 3, .pur 8] (.alt 2 [0, 3, 8] (schA [] (.alt 4 [0, 8] (schA [.pur 5] (.alt3 6 [0, 8] (schA [] (.alt 7 [0, 1, 3, 8, 5] (sch [.eff 9 [0, 5], .pur 10, .pur 11, .pur 12, .pur 13, .eff 14 [5, 10, 11, 12, 13], .pur 15]) 9 [0, 5] (schA [] (.alt 7 [0, 1, 3, 8, 5] (sch [.pur 10, .pur 11, .pur 12, .pur 13, .eff 14 [5, 10, 11, 12, 13], .pur 15]) 14 [5] (sch [.eff 7 [0, 1, 3, 8, 5], .pur 10, .pur 11, .pur 12, .pur 13, .pur 15]))))) 7 [0, 1, 3, 8, 5] (schA [] (.alt 6 [0, 8] (sch [.eff 9 [0, 5], .pur 10, .pur 11, .pur 12, .pur 13, .eff 14 [5, 10, 11, 12, 13], .pur 15]) 9 [0, 5] (schA [.pur 10, .pur 11] (.alt 6 [0, 8, 10, 11] (sch [.pur 12, .pur 13, .eff 14 [5, 10, 11, 12, 13], .pur 15]) 14 [5, 10, 11] (sch [.eff 6 [0, 8, 10, 11], .pur 12, .pur 13, .pur 15]))))) 9 [0, 5] (schA [] (.alt3 6 [0, 8] (schA [] (.alt 7 [0, 1, 3, 8, 5] (sch [.pur 10, .pur 11, .pur 12, .pur 13, .eff 14 [5, 10, 11, 12, 13], .pur 15]) 14 [5] (sch [.eff 7 [0, 1, 3, 8, 5], .pur 10, .pur 11, .pur 12, .pur 13, .pur 15]))) 7 [0, 1, 3, 8, 5] (schA [.pur 10, .pur 11] (.alt 6 [0, 8, 10, 11] (sch [.pur 12, .pur 13, .eff 14 [5, 10, 11, 12, 13], .pur 15]) 14 [5, 10, 11] (sch [.eff 6 [0, 8, 10, 11], .pur 12, .pur 13, .pur 15]))) 14 [5] (schA [] (.alt 6 [0, 8] (sch [.eff 7 [0, 1, 3, 8, 5], .pur 10, .pur 11, .pur 12, .pur 13, .pur 15]) 7 [0, 1, 3, 8, 5] (sch [.pur 10, .pur 11, .eff 6 [0, 8, 10, 11], .pur 12, .pur 13, .pur 15]))))))) 7 [0, 1, 3, 8] (schA [.eff 4 [0, 8], .pur 5] (.alt 6 [0, 8] (sch [.eff 9 [0, 5], .pur 10, .pur 11, .pur 12, .pur 13, .eff 14 [5, 10, 11, 12, 13], .pur 15]) 9 [0, 5] (schA [.pur 10, .pur 11] (.alt 6 [0, 8, 10, 11] (sch [.pur 12, .pur 13, .eff 14 [5, 10, 11, 12, 13], .pur 15]) 14 [5, 10, 11] (sch [.eff 6 [0, 8, 10, 11], .pur 12, .pur 13, .pur 15]))))))) 7 [0, 1, 3, 8] (schA [.eff 2 [0, 3, 8], .eff 4 [0, 8], .pur 5] (.alt 6 [0, 8] (sch [.eff 9 [0, 5], .pur 10, .pur 11, .pur 12, .pur 13, .eff 14 [5, 10, 11, 12, 13], .pur 15]) 9 [0, 5] (schA [.pur 10, .pur 11] (.alt 6 [0, 8, 10, 11] (sch [.pur 12, .pur 13, .eff 14 [5, 10, 11, 12, 13], .pur 15]) 14 [5, 10, 11] (sch [.eff 6 [0, 8, 10, 11], .pur 12, .pur 13, .pur 15]))))))) (by kernel_rfl) ?_
  simp
  repeat' apply And.intro
  all_goals try rfl
  all_goals refine .lend (b := rdB (codeD code') q1) (d_pick code' (by omega) q1 _ (by omega) (by omega) (by omega)) (by simp [rdB]) (by simp) rfl (by simp) ?_
  all_goals rintro _ _ ⟨q2, rfl, h3, h4, v, rfl, hv⟩
  all_goals obtain ⟨x1, x2, x3, x4, x5, x6, x7⟩ := ixF hv
  all_goals simp [rdB, x1, x2, x3, x4, x5, x6, x7]
  all_goals repeat' apply And.intro
  all_goals try rfl
  all_goals refine .lend (b := rdB (codeD code') q2) (d_pick code' (by omega) q2 _ (by omega) (by omega) (by omega)) (by simp [rdB]) (by simp) rfl (by simp) ?_
  all_goals rintro _ _ ⟨q3, rfl, h5, h6, v', rfl, hv'⟩
  all_goals obtain ⟨y5, y6, y7⟩ := pickR hv'
  all_goals simp [rdB, x1, x2, x3, x4, x5, x6, x7, y5, y6, y7]
  all_goals repeat' apply And.intro
  all_goals try rfl
  all_goals refine .lend (b := rdB (codeD code') q3) (d_pick code' (by omega) q3 _ (by omega) (by omega) (by omega)) (by simp [rdB]) (by simp) rfl (by simp) ?_
  all_goals rintro _ _ ⟨q4, rfl, h7, h8, v'', rfl, hv''⟩
  all_goals obtain ⟨z1, z2, z3, z4, z5, z6, z7⟩ := ixF hv''
  all_goals simp [rdB, x1, x2, x3, x4, x5, x6, x7, y5, y6, y7, z1, z2, z3, z4, z5, z6, z7]
  all_goals rcases ixC hv'' with e | e | e | e
  all_goals simp [e, y7]
  all_goals repeat' first
    | exact dwn a ha _ (by omega) (by omega)
    | rfl
    | apply And.intro
end Go.Fw
