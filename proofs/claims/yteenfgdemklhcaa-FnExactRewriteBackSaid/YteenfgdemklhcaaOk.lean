/- Expressions that are drawn. -/
import Derived.Test.YteenfgdemklhcaaOj
import Derived.Test.YteenfgdemklhcaaLc
set_option linter.unusedSimpArgs false
set_option linter.unusedVariables false
namespace Go.Fw
open Go Go.Proofs
set_option linter.unusedSectionVars false
set_option linter.unnecessarySimpa false

/-- What is drawn: parts, not too many; the reader has moved on. -/
def MadeE (code : List UInt8) (p k : Int) (n : Nat) (sz : Nat) (xs b' : List D) : Prop := sz = 2 ∧ ∃ (e : List Pt) (p' : Int), xs = e.map Pt.d ∧ e.length ≤ n ∧ b' = rdB (codeD code) p' ∧ p ≤ p' ∧ p' ≤ p + k

theorem madeE1 (code : List UInt8) {p q K : Int} {n : Nat} (k l : Int) (h1 : p ≤ q) (h2 : q ≤ p + K) (h3 : 1 ≤ n) : MadeE code p K n 2 [.agg [iD k, iD l]] (rdB (codeD code) q) :=
  ⟨rfl, [⟨k, l⟩], q, rfl, by simpa using h3, rfl, h1, h2⟩
theorem fits2 (e : List Pt) : ∀ y ∈ e.map Pt.d, y.fits 2 := by
  intro y hy
  simp only [List.mem_map] at hy
  obtain ⟨p, _, rfl⟩ := hy
  exact ⟨rfl, by simp [Pt.d, D.cells, D.isAgg]⟩
theorem madeE2 (code : List UInt8) {p q K : Int} {n : Nat} (e : List Pt) (k : Int) (h1 : p ≤ q) (h2 : q ≤ p + K) (h3 : e.length + 1 ≤ n) : MadeE code p K n 2 (e.map Pt.d ++ [.agg [iD k, iD 0]]) (rdB (codeD code) q) :=
  ⟨rfl, e ++ [⟨k, 0⟩], q, by simp [Pt.d], by simpa using h3, rfl, h1, h2⟩
theorem madeE3 (code : List UInt8) {p q K : Int} {n : Nat} (e f : List Pt) (k : Int) (h1 : p ≤ q) (h2 : q ≤ p + K) (h3 : e.length + f.length + 1 ≤ n) : MadeE code p K n 2 (e.map Pt.d ++ (f.map Pt.d ++ [.agg [iD k, iD 0]])) (rdB (codeD code) q) :=
  ⟨rfl, e ++ f ++ [⟨k, 0⟩], q, by simp [Pt.d], by simp; omega, rfl, h1, h2⟩
end Go.Fw
