/- Two automata that are drawn; the law about extra words. -/
import Derived.Test.YtmodfeaneggloaaQg
import Derived.Test.YtmodfeaneggloaaOl
import Derived.Test.YtmodfeaneggloaaOp
set_option linter.unusedSimpArgs false
set_option linter.unusedVariables false
namespace Go.Fw
open Go Go.Proofs
set_option linter.unusedSectionVars false
set_option linter.unnecessarySimpa false

set_option maxHeartbeats 800000 in
set_option maxRecDepth 100000 in
theorem d_l20Two (code : List UInt8) (hc : code.length ≤ 1048576) (p : Int) (hp : 0 ≤ p) (hp2 : p ≤ 1099511600000) :
    RCalls Try.prog 78 [] (rdB (codeD code) p) (Drew code p 210 fun r => ∃ a b : Df, r = .many [a.d, b.d] ∧ a.tiny ∧ b.tiny) := by
  refine rcalls_intro Ty.mixed Try.func78 rfl rfl rfl [] (by kernel_rfl) (by simp) ?_
  simp [rdB]
  refine .lend (b := rdB (codeD code) p) (d_l20Dfa code hc p 16 hp (by omega) (by omega)) (by simp [rdB]) (by simp) rfl (by simp) ?_
  rintro _ _ ⟨q, rfl, h1, h2, a, rfl, ha⟩
  have hf := ha.fine
  simp [rdB, Df.d]
  refine .lend (b := rdB (codeD code) q) (d_pick code hc q 4 (by omega) (by omega) (by omega)) (by simp [rdB]) (by simp) rfl (by simp) ?_
  rintro _ _ ⟨q1, rfl, h3, h4, v, rfl, hv⟩
  simp [rdB]
  refine ⟨fun hv0 => ?_, fun hv0 => ⟨fun hv1 => ?_, fun hv1 => ?_⟩⟩
  · refine .one (sch [.pur 0, .pur 1, .eff 2 [0], .eff 3 [], .eff 4 []]) (by kernel_rfl) ?_
    simp
    refine .ddat (c_sMinimize a hf) rfl (by simp [Df.d]) ?_
    rintro _ ⟨y, rfl, hy⟩
    simp [Df.d]
    have hyt : y.tiny := by
      rcases hy with ⟨_, h, _⟩ | ⟨_, rfl⟩
      · exact tiny_of_ok h.ok
      · exact ⟨by simp, by simp, by simp⟩
    exact ⟨rdB (codeD code) q1, rfl, q1, rfl, by omega, by omega, a, y, rfl, ha, hyt⟩
  · have hel := ha.el
    refine .cutAt Unit (fun _ => [(0, .ptr 1 0), (2, .ptr 200 0), (3, .ptr 300 0), (4, .ptr 400 0), (5, .ptr 500 0)]) (fun _ => [(1, .bx [.d (.list (codeD code)), iA q1]), (200, .bx [.nl, .nl]), (300, .bx [.nl, .nl]), (400, .bx [.d (rowsD a.next), .d (bsD a.ends)]), (500, .bx [.d (rowsD a.next), .sl 1 2000 0 a.ends.length]), (2000, .ar 1 (a.ends.map bD))]) [1, 200, 300, 400, 500, 2000] (schA [.pur 0, .pur 1, .pur 3, .pur 4] (.alt 2 [0, 1, 3, 4] (schA [] (.alt 5 [0, 1] (sch [.pur 6, .eff 7 [0, 1, 3, 4, 6], .eff 8 []]) 7 [0, 1, 3, 4] (sch [.eff 5 [0, 1], .pur 6, .eff 8 []]))) 7 [0, 1, 3, 4] (sch [.eff 2 [0, 1, 3, 4], .eff 5 [0, 1], .pur 6, .eff 8 []]))) (by kernel_rfl) ?_ ?_
    · simp
      refine ⟨?_, by omega, by omega⟩
      rintro y (⟨_, rfl⟩ | ⟨_, rfl⟩) <;> simp [bD]
    · intro _
      simp
      refine ⟨fun hpos => ?_, fun hz => ?_⟩
      · refine .lend (b := rdB (codeD code) q1) (d_pick code hc q1 _ (by omega) (by omega) (by omega)) (by simp [rdB]) (by simp) rfl (by simp) ?_
        rintro _ _ ⟨q2, rfl, h5, h6, u, rfl, hu⟩
        obtain ⟨u1, u2, _⟩ := hu
        have u2 := u2 (by omega)
        obtain ⟨u, rfl⟩ : ∃ z : Nat, u = z := ⟨u.toNat, by omega⟩
        have hul : u < a.ends.length := by omega
        obtain ⟨x, b1⟩ : ∃ x, a.ends[u]? = some x := ⟨_, List.getElem?_eq_getElem hul⟩
        have b2 : ∀ h, a.ends[u]'h = x := fun h => (List.getElem?_eq_some_iff.1 b1).2
        simp [rdB]
        refine .one (sch [.pur 0, .pur 1, .pur 2, .pur 3, .pur 4, .pur 5, .pur 6, .pur 7, .pur 8, .pur 9, .eff 10 []]) (by kernel_rfl) ?_
        simp [hul, b1, b2]
        refine .one (sch [.pur 0, .pur 1, .eff 2 [1], .eff 3 []]) (by kernel_rfl) ?_
        simp
        refine ⟨rdB (codeD code) q2, rfl, q2, rfl, by omega, by omega, a, ⟨a.next, a.ends.set u (!x)⟩, ?_, ha, ⟨ha.nl, by simp; exact hel, ha.row⟩⟩
        rw [List.take_of_length_le (by simp)]
        simp [List.map_set, bD]
      · refine .one (sch [.pur 0, .pur 1, .eff 2 [1], .eff 3 []]) (by kernel_rfl) ?_
        simp
        refine ⟨rdB (codeD code) q1, rfl, q1, rfl, by omega, by omega, a, a, ?_, ha, ha⟩
        rw [List.take_of_length_le (by simp)]
  · refine .one (sch [.pur 0, .pur 1, .eff 2 [0], .eff 3 [], .eff 4 []]) (by kernel_rfl) ?_
    simp
    refine .lend (b := rdB (codeD code) q1) (d_l20Dfa code hc q1 16 (by omega) (by omega) (by omega)) (by simp [rdB]) (by simp) rfl (by simp) ?_
    rintro _ _ ⟨q2, rfl, h5, h6, b, rfl, hb⟩
    simp [rdB, Df.d]
    exact ⟨rdB (codeD code) q2, rfl, q2, rfl, by omega, by omega, a, b, rfl, ha, hb⟩

end Go.Fw
