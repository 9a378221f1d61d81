/- Automata with choices: what the specification computes of their sets of states; the law about words. -/
import Derived.Test.YteenfgdemklhcaaLx
import Derived.Test.YteenfgdemklhcaaMc
import Derived.Test.YteenfgdemklhcaaFwb
set_option linter.unusedSimpArgs false
set_option linter.unusedVariables false
namespace Go.Fw
open Go Go.Proofs

/-! ### The specification's -/

theorem c_l7Name (xs : List Int) (n : Int) (hl : xs.length ≤ 9223372036854775807) : DCalls Try.prog 94 [.d (intsD xs), iA n] fun y => y = iD (idxI (fun x => decide (x = n)) xs) := by
  refine dcalls_intro Ty.mixed Try.func94 rfl rfl rfl [] (by kernel_rfl) (by simp) ?_
  simp
  refine LoopVC.at { i : Nat // i ≤ xs.length ∧ ∀ j (h : j < xs.length), j < i → decide (xs[j] = n) = false } (fun i => [(0, .d (intsD xs)), (1, iA n), (5, iA i.1)]) (fun _ => []) [] (fun i => xs.length - i.1) ⟨0, by simp⟩ (by simp) (by simp) ?_
  rintro ⟨i, hi, hp⟩
  rcases Nat.lt_or_ge i xs.length with h | h
  · simp [h]
    exact ⟨fun ht => (idxI_found h hp (by simpa using ht)).symm, fun hf => ⟨i + 1, .mk (by simp; exact wrap64 (by omega) (by omega)) (by simp), ⟨h, by simpa using upto_succ hp h (by simpa using hf)⟩, by omega⟩⟩
  · simp [Nat.not_lt.2 h]
    exact (idxI_none h hp).symm

theorem setD_bool (xs : List Bool) (k : Nat) (b : Bool) : (xs.map bD).set k (.bool b) = (xs.set k b).map bD := by rw [List.map_set]

theorem any_take_succ {α : Type} {p : α → Bool} {xs : List α} {i : Nat} (h : i < xs.length) (hp : ∀ j (h : j < xs.length), j < i → p xs[j] = false) (hi : p xs[i] = false) : ∀ j (h : j < xs.length), j < i + 1 → p xs[j] = false := upto_succ hp h hi

end Go.Fw
