/- Automata that are drawn. -/
import Derived.Test.YteenfgdemklhcaaOk
set_option linter.unusedSimpArgs false
set_option linter.unusedVariables false
namespace Go.Fw
open Go Go.Proofs
set_option linter.unusedSectionVars false
set_option linter.unnecessarySimpa false

structure Df.tiny (a : Df) : Prop where
  nl : a.next.length ≤ 41
  el : a.ends.length ≤ 41
  row : ∀ x ∈ a.next, x.length ≤ 3
theorem Df.tiny.fine {a : Df} (h : a.tiny) : a.fine := ⟨by have := h.nl; omega, fun x hx => by have := h.row x hx; omega, by have := h.el; omega⟩
theorem tiny_of_ok {a : Df} (h : okDf a = true) : a.tiny := by
  obtain ⟨n1, n2, n3⟩ := okDf_len h
  refine ⟨by omega, by omega, fun x hx => ?_⟩
  obtain ⟨i, hi, rfl⟩ := List.mem_iff_getElem.1 hx
  have := (okDf_row h hi).1
  rw [← (getD_row (xs := a.next) (i := i) [] hi).2 hi] at this
  omega

/-- What is drawn of an automaton: so many states. -/
structure DfUp (k : Nat) (NX : List (List Int)) (EN : List Bool) : Prop where
  n : NX.length = k
  e : EN.length = k
  row : ∀ x ∈ NX, x.length ≤ 3
theorem DfUp.snoc {k : Nat} {NX : List (List Int)} {EN : List Bool} (h : DfUp k NX EN) {x : List Int} (hx : x.length = 3) (b : Bool) : DfUp (k + 1) (NX ++ [x]) (EN ++ [b]) := by
  refine ⟨by simp [h.n], by simp [h.e], fun y hy => ?_⟩
  rcases List.mem_append.1 hy with hy | hy
  · exact h.row y hy
  · simp at hy; subst hy; omega
structure DG where
  k : Nat
  NX : List (List Int)
  EN : List Bool
  q : Int
structure DR where
  c : Nat
  xs : List Int
  q : Int

theorem drewD (code : List UInt8) {p : Int} (x : Df) (hx : x.tiny) (q : Int) (h1 : p ≤ q) (h2 : q ≤ p + 100) {y : D} (hy : y = x.d) :
    ∃ b', [AV.d (D.list (codeD code)), AV.d (iD q)] = List.map AV.d b' ∧ Drew code p 100 (fun r => ∃ a : Df, r = .one a.d ∧ a.tiny) (RV.one y) b' :=
  ⟨rdB (codeD code) q, rfl, q, rfl, h1, h2, x, by rw [hy], hx⟩
theorem fitsT (NX : List (List Int)) (n : Nat) : ∀ y ∈ List.take n (List.map intsD NX).tail, y.fits 1 := by
  intro y hy
  obtain ⟨z, _, rfl⟩ := List.mem_map.1 (List.mem_of_mem_tail (List.mem_of_mem_take hy))
  exact ⟨rfl, by simp [D.cells, D.isAgg]⟩
theorem fitsB (NX : List (List Int)) : ∀ y ∈ (List.take NX.length (List.map intsD NX)).tail, y.fits 1 := by
  intro y hy
  obtain ⟨z, _, rfl⟩ := List.mem_map.1 (List.mem_of_mem_take (List.mem_of_mem_tail hy))
  exact ⟨rfl, by simp [D.cells, D.isAgg]⟩
theorem one1 {α : Type} {xs : List α} (f : α → D) (hf : ∀ x, (f x).cells.length = 1) (h : 1 < xs.length) : ((Option.map f xs[1]?).getD D.dflt).cells.length = 1 := by
  rw [List.getElem?_eq_getElem h]; exact hf _
end Go.Fw
