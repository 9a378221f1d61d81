/- Two automata side by side, as the reference runs them. -/
import Derived.Test.YteenfgdemklhcaaOg
set_option linter.unusedSimpArgs false
set_option linter.unusedVariables false
namespace Go.Fw
open Go Go.Proofs
set_option linter.unusedSectionVars false
set_option linter.unnecessarySimpa false

abbrev pR (p : Pr) : D := intsD [p.a, p.b]
/-- Where a pair has been found so far. -/
def fnd (L : List Pr) (s : Pr) (j : Nat) : Int := if s ∈ L.take j then ((L.take j).idxOf s : Int) else -1
theorem fnd_succ {L : List Pr} (hn : L.Nodup) {s : Pr} {j : Nat} (hj : j < L.length) : fnd L s (j + 1) = if L[j] = s then (j : Int) else fnd L s j := by
  unfold fnd
  rw [take_snoc hj]
  have hnj : L[j] ∉ L.take j := fun h => by
    obtain ⟨i, hi, e⟩ := List.mem_iff_getElem.1 h
    simp at hi
    rw [List.getElem_take] at e
    have := (List.getElem_inj hn).1 e
    omega
  by_cases e : L[j] = s
  · subst e
    rw [if_pos (List.mem_append.2 (.inr (List.mem_singleton.2 rfl))), if_pos rfl, List.idxOf_append, if_neg hnj]
    simp; omega
  · rw [if_neg e]
    by_cases h : s ∈ L.take j
    · rw [if_pos (List.mem_append.2 (.inl h)), if_pos h, List.idxOf_append, if_pos h]
    · have : s ∉ L.take j ++ [L[j]] := fun h' => by
        rcases List.mem_append.1 h' with h' | h'
        · exact h h'
        · exact e (List.mem_singleton.1 h').symm
      rw [if_neg this, if_neg h]

def nxP (a b : Df) (s : Pr) (c : Int) : Pr := ⟨a.go s.a c, b.go s.b c⟩
/-- May words end? Both, one, the first alone, exactly one. -/
def modeB (m : Int) (x y : Bool) : Bool := decide (m = 0) && x && y || decide (m = 1) && (x || y) || decide (m = 2) && x && !y || decide (m = 3) && (x != y)
def finM (a b : Df) (m : Int) (s : Pr) : Bool := modeB m (a.fin s.a) (b.fin s.b)
def okP (a b : Df) (s : Pr) : Prop := a.st s.a ∧ b.st s.b
theorem okP_step {a b : Df} (ha : okDf a = true) (hb : okDf b = true) {s : Pr} {c : Int} (h : okP a b s) (hc : 0 ≤ c ∧ c < 3) : okP a b (nxP a b s c) := ⟨go_st ha h.1 hc, go_st hb h.2 hc⟩
theorem met_okP {a b : Df} (ha : okDf a = true) (hb : okDf b = true) (k : Nat) : ∀ s ∈ metK (nxP a b) ⟨0, 0⟩ k, okP a b s :=
  metK_ind (p := okP a b) ⟨st0 ha, st0 hb⟩ (fun _ h => ⟨okP_step ha hb h (by omega), okP_step ha hb h (by omega), okP_step ha hb h (by omega)⟩) k

def PairR (a b : Df) (m : Int) (r : List D) : Prop := ∃ (x : Df) (ok : Bool), r = [x.d, .bool ok] ∧
  (ok = true → ∃ k, (metK (nxP a b) ⟨0, 0⟩ k).length ≤ k ∧ (metK (nxP a b) ⟨0, 0⟩ k).length ≤ 40 ∧ x = autoL (nxP a b) (finM a b m) (metK (nxP a b) ⟨0, 0⟩ k)) ∧
  (ok = false → ∃ k, 40 < (metK (nxP a b) ⟨0, 0⟩ k).length)
theorem PairR.ok {a b : Df} {m : Int} {r : List D} (h : PairR a b m r) : ∃ (x : Df) (ok : Bool), r = [x.d, .bool ok] ∧ (ok = true → okDf x = true) := by
  obtain ⟨x, ok, e, h1, _⟩ := h
  refine ⟨x, ok, e, fun ho => ?_⟩
  obtain ⟨k, k1, k2, rfl⟩ := h1 ho
  exact autoL_ok _ (metK_whole k1) k2

end Go.Fw
