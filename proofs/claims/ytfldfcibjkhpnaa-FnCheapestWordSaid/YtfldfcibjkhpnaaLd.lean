/- The laws about roads: what is drawn; validity. -/
import Derived.Test.YtfldfcibjkhpnaaLc
import Derived.Test.YtfldfcibjkhpnaaLr
set_option linter.unusedSimpArgs false
set_option linter.unusedVariables false
namespace Go.Fw
open Go Go.Proofs

theorem codeD_len (code : List UInt8) : (codeD code).length = code.length := by simp [codeD]

theorem c_DrawRoadsValid (code : List UInt8) : DCalls Try.prog 19 [.d (.list (codeD code))] fun y => ∃ m rs, y = roadsD m rs ∧ rs.length ≤ 14 := by
  refine dcalls_intro Ty.mixed Try.func19 rfl rfl rfl [] (by kernel_rfl) (by simp) ?_
  simp
  refine .fresh 400 (c_l20Open code) (by omega) (by simp) rfl (by simp) ?_
  rintro _ ⟨code', rfl, hc⟩
  simp [rdB]
  refine .lend (b := rdB (codeD code') 0) (d_l20Roads code' (by omega) 0 2 (by omega) (by omega) (by omega)) (by simp [rdB]) (by simp) rfl (by simp) ?_
  rintro _ _ ⟨q, rfl, h1, h2, m, rs, rfl, hr⟩
  simp [rdB, roadsD, rsD]
  exact ⟨m, rs, ⟨rfl, rfl⟩, hr⟩

theorem c_DrawRoadsNfa (code : List UInt8) : DCalls Try.prog 24 [.d (.list (codeD code))] fun y => ∃ m rs, y = roadsD m rs ∧ rs.length ≤ 14 := by
  refine dcalls_intro Ty.mixed Try.func24 rfl rfl rfl [] (by kernel_rfl) (by simp) ?_
  simp
  refine .fresh 400 (c_l20Open code) (by omega) (by simp) rfl (by simp) ?_
  rintro _ ⟨code', rfl, hc⟩
  simp [rdB]
  refine .lend (b := rdB (codeD code') 0) (d_l20Roads code' (by omega) 0 12 (by omega) (by omega) (by omega)) (by simp [rdB]) (by simp) rfl (by simp) ?_
  rintro _ _ ⟨q, rfl, h1, h2, m, rs, rfl, hr⟩
  simp [rdB, roadsD, rsD]
  exact ⟨m, rs, ⟨rfl, rfl⟩, hr⟩

set_option maxRecDepth 100000 in
theorem c_DrawBestCost (code : List UInt8) : TCalls Try.prog 32 [.d (.list (codeD code))] fun y => ∃ m rs s, y = [roadsD m rs, sD s] ∧ rs.length ≤ 14 ∧ s.length ≤ 9 := by
  refine tcalls_intro Ty.mixed Try.func32 rfl rfl rfl [] (by kernel_rfl) (by simp) ?_
  simp
  refine .fresh 800 (c_l20Open code) (by omega) (by simp) rfl (by simp) ?_
  rintro _ ⟨code', rfl, hc⟩
  simp [rdB]
  refine .lend (b := rdB (codeD code') 0) (d_l20Roads code' (by omega) 0 14 (by omega) (by omega) (by omega)) (by simp [rdB]) (by simp) rfl (by simp) ?_
  rintro _ _ ⟨q, rfl, h1, h2, m, rs, rfl, hr⟩
  simp [rdB, roadsD, rsD]
  refine .lend (b := rdB (codeD code') q) (d_l20Word code' (by omega) q 14 (by omega) (by omega) (by omega)) (by simp [rdB]) (by simp) rfl (by simp) ?_
  rintro _ _ ⟨q2, rfl, h3, h4, s, rfl, hs⟩
  simp [rdB]
  refine .one (schA [.pur 0, .pur 1, .pur 2, .pur 3, .pur 5] (.alt 4 [0, 1, 2, 3, 5] (sch [.eff 6 [0, 1, 2, 3], .pur 7, .pur 8, .pur 9, .pur 10, .eff 11 [1, 2, 3, 7, 8, 9, 10], .pur 12]) 6 [0, 1, 2, 3] (schA [] (.alt 4 [0, 1, 2, 3, 5] (sch [.pur 7, .pur 8, .pur 9, .pur 10, .eff 11 [1, 2, 3, 7, 8, 9, 10], .pur 12]) 11 [1, 2, 3] (sch [.eff 4 [0, 1, 2, 3, 5], .pur 7, .pur 8, .pur 9, .pur 10, .pur 12]))))) (by kernel_rfl) ?_
  simp
  refine ⟨⟨rfl, ?_⟩, ?_⟩
  · refine .lend (b := rdB (codeD code') q2) (d_pick code' (by omega) q2 4 (by omega) (by omega) (by omega)) (by simp [rdB]) (by simp) rfl (by simp) ?_
    rintro _ _ ⟨q3, rfl, h5, h6, u, rfl, hu⟩
    obtain ⟨u1, u2, _⟩ := hu
    have u2 := u2 (by omega)
    obtain rfl | rfl | rfl | rfl : u = 0 ∨ u = 1 ∨ u = 2 ∨ u = 3 := by omega
    all_goals
      simp [rdB]
      exact ⟨⟨by omega, by omega⟩, m, rs, _, ⟨⟨rfl, rfl⟩, rfl⟩, hr, by simp; omega⟩
  · refine .lend (b := rdB (codeD code') q2) (d_pick code' (by omega) q2 4 (by omega) (by omega) (by omega)) (by simp [rdB]) (by simp) rfl (by simp) ?_
    rintro _ _ ⟨q3, rfl, h5, h6, u, rfl, hu⟩
    obtain ⟨u1, u2, _⟩ := hu
    have u2 := u2 (by omega)
    obtain rfl | rfl | rfl | rfl : u = 0 ∨ u = 1 ∨ u = 2 ∨ u = 3 := by omega
    all_goals
      simp [rdB]
      repeat' apply And.intro
      all_goals first | rfl | omega | exact ⟨m, rs, _, ⟨⟨rfl, rfl⟩, rfl⟩, hr, by simp; omega⟩

theorem c_DrawWayCount (code : List UInt8) : TCalls Try.prog 23 [.d (.list (codeD code))] fun y => ∃ m rs s, y = [roadsD m rs, sD s] ∧ rs.length ≤ 14 ∧ s.length ≤ 9 := by
  refine tcalls_intro Ty.mixed Try.func23 rfl rfl rfl [] (by kernel_rfl) (by simp) ?_
  simp
  refine .tdat (c_DrawBestCost code) rfl (by simp) ?_
  rintro _ ⟨m, rs, s, rfl, h1, h2⟩
  simp [roadsD, rsD]
  exact ⟨m, rs, s, ⟨⟨rfl, rfl⟩, rfl⟩, h1, h2⟩

set_option maxRecDepth 100000 in
theorem c_DrawCheapestWord (code : List UInt8) : TCalls Try.prog 39 [.d (.list (codeD code))] fun y => ∃ m rs n, y = [roadsD m rs, iD n] ∧ rs.length ≤ 14 ∧ -1 ≤ n ∧ n ≤ 9 := by
  refine tcalls_intro Ty.mixed Try.func39 rfl rfl rfl [] (by kernel_rfl) (by simp) ?_
  simp
  refine .fresh 700 (c_l20Open code) (by omega) (by simp) rfl (by simp) ?_
  rintro _ ⟨code', rfl, hc⟩
  simp [rdB]
  refine .lend (b := rdB (codeD code') 0) (d_l20Roads code' (by omega) 0 14 (by omega) (by omega) (by omega)) (by simp [rdB]) (by simp) rfl (by simp) ?_
  rintro _ _ ⟨q, rfl, h1, h2, m, rs, rfl, hr⟩
  simp [rdB, roadsD, rsD]
  refine .one (sch [.pur 0, .pur 1, .eff 2 [0], .eff 3 [], .pur 4]) (by kernel_rfl) ?_
  simp
  refine .lend (b := rdB (codeD code') q) (d_l20Length code' (by omega) q 8 (by omega) (by omega) (by omega) (by omega)) (by simp [rdB]) (by simp) rfl (by simp) ?_
  rintro _ _ ⟨q2, rfl, h3, h4, n, rfl, h5, h6⟩
  simp [rdB]
  exact ⟨m, rs, n, ⟨⟨rfl, rfl⟩, rfl⟩, hr, h5, by omega⟩

/-! ### FnRoadsValid -/

theorem okRoads_cost (n : Int) (rs : List Rd) (f l t c : Int) (hc : c < 0) : okRoads n (rs ++ [⟨f, l, t, c⟩]) = false := by
  have : (Rd.bad n ⟨f, l, t, c⟩) = true := by simp [Rd.bad, inR]; omega
  simp [okRoads, this]
theorem okRoads_to (n : Int) (rs : List Rd) (f l c : Int) : okRoads n (rs ++ [⟨f, l, n, c⟩]) = false := by
  cases hn : inR n 1 40 with
  | false => simp [okRoads, hn]
  | true =>
    simp [inR] at hn
    have : (Rd.bad n ⟨f, l, n, c⟩) = true := by
      rw [Rd.bad_eq, wrap64 (by omega) (by omega)]
      simp [inR]; omega
    simp [okRoads, this]

set_option maxRecDepth 100000 in
theorem c_FnRoadsValid (code : List UInt8) (hl : code.length ≤ 9223372036854775807) : DCalls Try.prog 4 [.d (.list (codeD code))] fun y => y = .bool true := by
  refine dcalls_intro Ty.mixed Try.func4 rfl rfl rfl [] (by kernel_rfl) (by simp) ?_
  simp [codeD_len]
  intro h20
  refine .ddat (c_DrawRoadsValid code) rfl (by simp) ?_
  rintro _ ⟨m, rs, rfl, hr⟩
  simp [roadsD, rsD]
  refine .dval (c_RoadsValid m rs (by omega)) rfl (by simp) rfl ?_
  simp
  refine .dval (c_sRoadsValid m rs (by omega)) rfl (by simp) rfl ?_
  simp
  refine .cutAt Unit (fun _ => [(3, .ptr 300 0), (4, .d (.bool (okRoads m rs))), (5, .ptr 500 0)]) (fun _ => [(300, .bx [iA m, .d (rsD rs)]), (500, .bx [iA m, .sl 4 2000 0 (rs.length + 1)]), (2000, .ar 4 ((rs ++ [Rd.mk 0 0 0 (-1)]).map Rd.d))]) [300, 500, 2000] (schA [.pur 0, .pur 1, .pur 3, .pur 4, .pur 6] (.alt3 2 [0, 1, 3, 4, 6] (schA [] (.alt3 5 [0, 1, 6] (schA [] (.alt 7 [0, 1, 3, 4] (schA [] (.alt 8 [0, 1] (sch [.pur 9, .eff 10 [0, 1, 3, 4, 6, 9], .eff 11 []]) 10 [0, 1, 3, 4, 6] (sch [.eff 8 [0, 1], .pur 9, .eff 11 []]))) 10 [0, 1, 3, 4, 6] (sch [.eff 7 [0, 1, 3, 4], .eff 8 [0, 1], .pur 9, .eff 11 []]))) 7 [0, 1, 3, 4] (schA [] (.alt 5 [0, 1, 6] (schA [] (.alt 8 [0, 1] (sch [.pur 9, .eff 10 [0, 1, 3, 4, 6, 9], .eff 11 []]) 10 [0, 1, 3, 4, 6] (sch [.eff 8 [0, 1], .pur 9, .eff 11 []]))) 10 [0, 1, 3, 4, 6] (sch [.eff 5 [0, 1, 6], .eff 8 [0, 1], .pur 9, .eff 11 []]))) 10 [0, 1, 3, 4, 6] (schA [] (.alt 5 [0, 1, 6] (sch [.eff 7 [0, 1, 3, 4], .eff 8 [0, 1], .pur 9, .eff 11 []]) 7 [0, 1, 3, 4] (sch [.eff 5 [0, 1, 6], .eff 8 [0, 1], .pur 9, .eff 11 []]))))) 7 [0, 1, 3, 4] (schA [] (.alt 2 [0, 1, 3, 4, 6] (schA [] (.alt 5 [0, 1, 6] (schA [] (.alt 8 [0, 1] (sch [.pur 9, .eff 10 [0, 1, 3, 4, 6, 9], .eff 11 []]) 10 [0, 1, 3, 4, 6] (sch [.eff 8 [0, 1], .pur 9, .eff 11 []]))) 10 [0, 1, 3, 4, 6] (sch [.eff 5 [0, 1, 6], .eff 8 [0, 1], .pur 9, .eff 11 []]))) 10 [0, 1, 3, 4, 6] (sch [.eff 2 [0, 1, 3, 4, 6], .eff 5 [0, 1, 6], .eff 8 [0, 1], .pur 9, .eff 11 []]))) 10 [0, 1, 3, 4, 6] (schA [] (.alt 2 [0, 1, 3, 4, 6] (schA [] (.alt 5 [0, 1, 6] (sch [.eff 7 [0, 1, 3, 4], .eff 8 [0, 1], .pur 9, .eff 11 []]) 7 [0, 1, 3, 4] (sch [.eff 5 [0, 1, 6], .eff 8 [0, 1], .pur 9, .eff 11 []]))) 7 [0, 1, 3, 4] (sch [.eff 2 [0, 1, 3, 4, 6], .eff 5 [0, 1, 6], .eff 8 [0, 1], .pur 9, .eff 11 []]))))) (by kernel_rfl) ?_ ?_
  · simp [rsD, Rd.d]
    omega
  intro _
  simp [rsD]
  refine .cutAt Unit (fun _ => [(4, .d (.bool (okRoads m rs))), (5, .ptr 500 0), (6, .ptr 600 0)]) (fun _ => [(500, .bx [iA m, .sl 4 2000 0 (rs.length + 1)]), (2000, .ar 4 ((rs ++ [Rd.mk 0 0 0 (-1)]).map Rd.d)), (600, .bx [iA m, .sl 4 3000 0 (rs.length + 1)]), (3000, .ar 4 ((rs ++ [Rd.mk 0 0 m 0]).map Rd.d))]) [500, 600, 2000, 3000] (schA [.pur 0, .pur 1, .pur 3, .pur 4, .pur 6, .pur 7, .pur 8] (.alt3 2 [0, 1, 3, 4, 6, 7, 8] (schA [] (.alt3 5 [0, 1, 6, 7, 8] (schA [] (.alt 9 [0, 1, 3, 4] (schA [] (.alt 10 [0, 1] (sch [.pur 11, .eff 12 [0, 1, 3, 4, 6, 7, 8, 11], .eff 13 []]) 12 [0, 1, 3, 4, 6, 7, 8] (sch [.eff 10 [0, 1], .pur 11, .eff 13 []]))) 12 [0, 1, 3, 4, 6, 7, 8] (sch [.eff 9 [0, 1, 3, 4], .eff 10 [0, 1], .pur 11, .eff 13 []]))) 9 [0, 1, 3, 4] (schA [] (.alt 5 [0, 1, 6, 7, 8] (schA [] (.alt 10 [0, 1] (sch [.pur 11, .eff 12 [0, 1, 3, 4, 6, 7, 8, 11], .eff 13 []]) 12 [0, 1, 3, 4, 6, 7, 8] (sch [.eff 10 [0, 1], .pur 11, .eff 13 []]))) 12 [0, 1, 3, 4, 6, 7, 8] (sch [.eff 5 [0, 1, 6, 7, 8], .eff 10 [0, 1], .pur 11, .eff 13 []]))) 12 [0, 1, 3, 4, 6, 7, 8] (schA [] (.alt 5 [0, 1, 6, 7, 8] (sch [.eff 9 [0, 1, 3, 4], .eff 10 [0, 1], .pur 11, .eff 13 []]) 9 [0, 1, 3, 4] (sch [.eff 5 [0, 1, 6, 7, 8], .eff 10 [0, 1], .pur 11, .eff 13 []]))))) 9 [0, 1, 3, 4] (schA [] (.alt 2 [0, 1, 3, 4, 6, 7, 8] (schA [] (.alt 5 [0, 1, 6, 7, 8] (schA [] (.alt 10 [0, 1] (sch [.pur 11, .eff 12 [0, 1, 3, 4, 6, 7, 8, 11], .eff 13 []]) 12 [0, 1, 3, 4, 6, 7, 8] (sch [.eff 10 [0, 1], .pur 11, .eff 13 []]))) 12 [0, 1, 3, 4, 6, 7, 8] (sch [.eff 5 [0, 1, 6, 7, 8], .eff 10 [0, 1], .pur 11, .eff 13 []]))) 12 [0, 1, 3, 4, 6, 7, 8] (sch [.eff 2 [0, 1, 3, 4, 6, 7, 8], .eff 5 [0, 1, 6, 7, 8], .eff 10 [0, 1], .pur 11, .eff 13 []]))) 12 [0, 1, 3, 4, 6, 7, 8] (schA [] (.alt 2 [0, 1, 3, 4, 6, 7, 8] (schA [] (.alt 5 [0, 1, 6, 7, 8] (sch [.eff 9 [0, 1, 3, 4], .eff 10 [0, 1], .pur 11, .eff 13 []]) 9 [0, 1, 3, 4] (sch [.eff 5 [0, 1, 6, 7, 8], .eff 10 [0, 1], .pur 11, .eff 13 []]))) 9 [0, 1, 3, 4] (sch [.eff 2 [0, 1, 3, 4, 6, 7, 8], .eff 5 [0, 1, 6, 7, 8], .eff 10 [0, 1], .pur 11, .eff 13 []]))))) (by kernel_rfl) ?_ ?_
  · simp [rsD, Rd.d]
    omega
  intro _
  have ht : ∀ r : Rd, [AV.d (D.agg [iD m, D.list ((((rs ++ [r]).map Rd.d).drop 0).take (rs.length + 1))])] = [AV.d (roadsD m (rs ++ [r]))] := fun r => by
    rw [List.drop_zero, List.take_of_length_le (by simp)]; rfl
  simp only [List.map_append, List.map_cons, List.map_nil] at ht
  simp
  refine .dvalE (c_RoadsValid m (rs ++ [Rd.mk 0 0 0 (-1)]) (by simp; omega)) rfl (ht _) (by simp) rfl ?_
  rw [okRoads_cost m rs _ _ _ _ (by omega)]
  simp
  refine .flatE (fun _ => c_RoadsValid m (rs ++ [Rd.mk 0 0 m 0]) (by simp; omega)) rfl (ht _) (by simp) rfl (by simp) ?_
  rw [okRoads_to]
  simp
  refine .flat (fun _ => c_alive) rfl (by simp) rfl (by simp) ?_
  simp

end Go.Fw
