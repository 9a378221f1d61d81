/- Automata joined and repeated, as the reference does it. -/
import Derived.Test.YteenfgdemklhcaaOh
set_option linter.unusedSimpArgs false
set_option linter.unusedVariables false
namespace Go.Fw
open Go Go.Proofs
set_option linter.unusedSectionVars false
set_option linter.unnecessarySimpa false

/-- Moves between so many states, so many of them. -/
structure MsG (N : Int) (k : Nat) (ms : List Mv) : Prop where
  ok : msOk N ms
  len : ms.length = k
theorem MsG.snoc {N : Int} {k : Nat} {ms : List Mv} (h : MsG N k ms) {m : Mv} (h1 : 0 ≤ m.f ∧ m.f < N) (h2 : 0 ≤ m.t ∧ m.t < N) : MsG N (k + 1) (ms ++ [m]) := by
  refine ⟨fun x hx => ?_, by simp [h.len]⟩
  rcases List.mem_append.1 hx with hx | hx
  · exact h.ok x hx
  · simp at hx; subst hx; exact ⟨h1, h2⟩
theorem MvG.wide {a : Df} {k : Nat} {ms : List Mv} (h : MvG a k ms) {N : Int} (hN : a.next.length ≤ N) : MsG N k ms :=
  ⟨fun x hx => by have := h.ok x hx; unfold inst at *; omega, h.len⟩
theorem ends_in {a : Df} (h : okDf a = true) : (∀ x ∈ listE a.ends, 0 ≤ x ∧ x < a.next.length) ∧ (listE a.ends).length ≤ 40 := by
  obtain ⟨n1, n2, n3⟩ := okDf_len h
  refine ⟨fun x hx => ?_, ?_⟩
  · have := listE_in hx; omega
  · have := listE_le a.ends; omega
/-- An automaton, and if it could be made. -/
def MadeR (r : List D) : Prop := ∃ (x : Df) (ok : Bool), r = [x.d, .bool ok] ∧ (ok = true → okDf x = true)

theorem MsG.zero {N : Int} : MsG N 0 [] := ⟨by simp [msOk], rfl⟩

end Go.Fw
