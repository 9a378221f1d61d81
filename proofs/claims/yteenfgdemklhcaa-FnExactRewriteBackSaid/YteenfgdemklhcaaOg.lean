/- Automata as automata with choices; the automaton of the sets. -/
import Derived.Test.YteenfgdemklhcaaOf
import Derived.Test.YteenfgdemklhcaaFwb
set_option linter.unusedSimpArgs false
set_option linter.unusedVariables false
namespace Go.Fw
open Go Go.Proofs
set_option linter.unusedSectionVars false
set_option linter.unnecessarySimpa false

theorem listE_in {xs : List Bool} {x : Int} (h : x ∈ listE xs) : 0 ≤ x ∧ x < xs.length := by
  obtain ⟨g1, g2⟩ := mem_listE.1 h
  refine ⟨g1, ?_⟩
  rcases Nat.lt_or_ge x.toNat xs.length with h | h
  · omega
  · simp [List.getElem?_eq_none h] at g2
theorem listE_le (xs : List Bool) : (listE xs).length ≤ xs.length := by
  have := List.length_filter_le (fun k => xs.getD k false) (List.range xs.length)
  simp only [listE, List.length_map]
  simpa using this

/-- The moves so far. -/
structure MvG (a : Df) (k : Nat) (ms : List Mv) : Prop where
  ok : msOk a.next.length ms
  len : ms.length = k
theorem MvG.snoc {a : Df} {k : Nat} {ms : List Mv} (h : MvG a k ms) {m : Mv} (h1 : 0 ≤ m.f ∧ m.f < a.next.length) (h2 : 0 ≤ m.t ∧ m.t < a.next.length) : MvG a (k + 1) (ms ++ [m]) := by
  refine ⟨fun x hx => ?_, by simp [h.len]⟩
  rcases List.mem_append.1 hx with hx | hx
  · exact h.ok x hx
  · simp at hx; subst hx; exact ⟨h1, h2⟩

def NfaOfR (a : Df) (x : AV) (res : List (Nat × Blk)) : Prop := ∃ ms, MvG a (3 * a.next.length) ms ∧ x = .ag [iA a.next.length, .sl 3 801 0 (3 * a.next.length), .sl 1 1300 0 1, .d (intsD (listE a.ends))] ∧ res = [(801, .ar 3 (ms.map Mv.d)), (1300, .ar 1 [iD 0])]

/-- May words end in a set? -/
def finP (s : List Bool) (es : List Int) : Bool := es.any fun e => s.getD e.toNat false
def finE (a : Na) (s : List Bool) : Bool := finP s a.es
theorem finP_succ (s : List Bool) {es : List Int} {j : Nat} (h : j < es.length) : finP s (es.take (j + 1)) = (finP s (es.take j) || s.getD es[j].toNat false) := by
  unfold finP; rw [take_snoc h, List.any_append]; simp

end Go.Fw
