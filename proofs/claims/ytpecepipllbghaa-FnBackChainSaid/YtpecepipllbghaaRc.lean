/- An automaton is the same as itself. -/
import Derived.Test.YtpecepipllbghaaLv
set_option linter.unusedSimpArgs false
set_option linter.unusedVariables false
namespace Go.Fw
open Go Go.Proofs
set_option linter.unusedSectionVars false
set_option linter.unnecessarySimpa false

theorem c_selfInts (xs : List Int) (h1 : xs.length ≤ 9223372036854775806) : DCalls Try.prog 72 [.d (intsD xs), .d (intsD xs)] fun y => y = .bool true := by
  refine dcalls_intro Ty.mixed Try.func72 rfl rfl rfl [] (by kernel_rfl) (by simp) ?_
  simp
  refine LoopVC.at { i : Nat // i ≤ xs.length } (fun i => [(0, .d (intsD xs)), (1, .d (intsD xs)), (5, iA i.1)]) (fun _ => []) [] (fun i => xs.length - i.1) ⟨0, by simp⟩ (by simp) (by simp) ?_
  rintro ⟨i, hi⟩
  rcases Nat.lt_or_ge i xs.length with h | h
  · simp [h]
    refine .one (sch [.pur 0, .pur 1, .pur 2, .pur 3, .pur 4, .pur 5, .pur 6, .pur 7, .pur 8]) (by kernel_rfl) ?_
    simp [h]
    exact ⟨i + 1, .mk (by simp; exact wrap64 (by omega) (by omega)) (by simp), h, by omega⟩
  · simp [Nat.not_lt.2 h]
theorem c_selfFlags (A : List Bool) (hl : A.length ≤ 9223372036854775806) : DCalls Try.prog 73 [.d (bsD A), .d (bsD A)] fun y => y = .bool true := by
  refine dcalls_intro Ty.mixed Try.func73 rfl rfl rfl [] (by kernel_rfl) (by simp) ?_
  simp
  refine LoopVC.at { i : Nat // i ≤ A.length } (fun i => [(0, .d (bsD A)), (1, .d (bsD A)), (5, iA i.1)]) (fun _ => []) [] (fun i => A.length - i.1) ⟨0, by simp⟩ (by simp) (by simp) ?_
  rintro ⟨i, hi⟩
  rcases Nat.lt_or_ge i A.length with h | h
  · simp [h]
    refine .one (sch [.pur 0, .pur 1, .pur 2, .pur 3, .pur 4, .pur 5, .pur 6, .pur 7, .pur 8]) (by kernel_rfl) ?_
    simp [h]
    exact ⟨i + 1, .mk (by simp; exact wrap64 (by omega) (by omega)) (by simp), h, by omega⟩
  · simp [Nat.not_lt.2 h]
/-- Rows that are short enough. -/
structure Df.slim (a : Df) : Prop where
  len : a.next.length ≤ 1000000
  row : ∀ x ∈ a.next, x.length ≤ 1000000
  elen : a.ends.length ≤ 1000000
theorem slim_of {a : Df} (h : okDf a = true) : a.slim := by
  obtain ⟨n1, n2, n3⟩ := okDf_len h
  refine ⟨by omega, fun x hx => ?_, by omega⟩
  obtain ⟨i, hi, rfl⟩ := List.mem_iff_getElem.1 hx
  have := (okDf_row h hi).1
  rw [(getD_row (xs := a.next) (i := i) [] hi).2 hi]; omega
theorem slim_nil : (Df.mk [] []).slim := ⟨by simp, by simp, by simp⟩
theorem c_sameDfa (a : Df) (h : a.slim) : DCalls Try.prog 25 [.d a.d, .d a.d] fun y => y = .bool true := by
  refine dcalls_intro Ty.mixed Try.func25 rfl rfl rfl [2, 3] (by kernel_rfl) (by simp) ?_
  obtain ⟨h1, h2, h3⟩ := h
  simp [Df.d]
  refine LoopVC.at { i : Nat // i ≤ a.next.length } (fun i => [(2, .dp [.d (rowsD a.next), .d (bsD a.ends)]), (3, .dp [.d (rowsD a.next), .d (bsD a.ends)]), (5, iA i.1)]) (fun _ => []) [] (fun i => a.next.length - i.1) ⟨0, by simp⟩ (by simp) (by simp) ?_
  rintro ⟨i, hi⟩
  rcases Nat.lt_or_ge i a.next.length with h | h
  · have a1 := getD_row (xs := a.next) (i := i) [] h
    have hx := h2 _ (List.mem_of_getElem? a1.1)
    generalize a.next.getD i [] = nx at *
    simp [h, a1]
    refine .one (sch [.pur 0, .pur 1, .pur 2, .pur 3, .pur 4, .pur 5, .pur 6, .pur 7, .pur 8, .pur 9, .eff 10 [], .pur 11]) (by kernel_rfl) ?_
    simp [h, a1]
    refine .dval (c_selfInts nx (by omega)) rfl (by simp) rfl ?_
    simp
    exact ⟨i + 1, .mk (by simp; exact wrap64 (by omega) (by omega)) (by simp), h, by omega⟩
  · simp [Nat.not_lt.2 h]
    refine .dval (c_selfFlags a.ends (by omega)) rfl (by simp) rfl ?_
    simp
end Go.Fw
