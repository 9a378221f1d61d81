/- Into how many parts a text can be divided. -/
import Derived.Test.YteenfgdemklhcaaLv
set_option linter.unusedSimpArgs false
set_option linter.unusedVariables false
namespace Go.Fw
open Go Go.Proofs

/-! ### Into how many parts a text can be divided -/

def stepP (a : Df) (s : List UInt8) (bs : List Int) (j : Nat) (n : Int) (i : Nat) : Int := if (0 ≤ bs.getD i 0 ∧ a.acc ((s.take j).drop i) = true) ∧ (n < 0 ∨ bs.getD i 0 + 1 < n) then bs.getD i 0 + 1 else n
def partsN (a : Df) (s : List UInt8) (bs : List Int) (j i : Nat) : Int := (List.range i).foldl (stepP a s bs j) (-1)
def partsL (a : Df) (s : List UInt8) : Nat → List Int
  | 0 => [0]
  | j + 1 => partsL a s j ++ [partsN a s (partsL a s j) (j + 1) (j + 1)]
theorem partsN_succ (a : Df) (s : List UInt8) (bs : List Int) (j i : Nat) : partsN a s bs j (i + 1) = stepP a s bs j (partsN a s bs j i) i := by
  unfold partsN; rw [List.range_succ, List.foldl_append]; rfl
theorem partsN_bd (a : Df) (s : List UInt8) (bs : List Int) (j : Nat) : ∀ i, (∀ k, k < i → -1 ≤ bs.getD k 0 ∧ bs.getD k 0 ≤ k) → -1 ≤ partsN a s bs j i ∧ partsN a s bs j i ≤ i
  | 0, _ => by simp [partsN]
  | i + 1, h => by
    have ih := partsN_bd a s bs j i fun k hk => h k (by omega)
    have := h i (by omega)
    rw [partsN_succ]; unfold stepP
    split <;> omega
theorem partsL_len (a : Df) (s : List UInt8) : ∀ j, (partsL a s j).length = j + 1
  | 0 => rfl
  | j + 1 => by simp [partsL, partsL_len a s j]
theorem partsL_bd (a : Df) (s : List UInt8) : ∀ j k, k ≤ j → -1 ≤ (partsL a s j).getD k 0 ∧ (partsL a s j).getD k 0 ≤ k
  | 0, k, h => by
    have : k = 0 := by omega
    subst this; simp [partsL]
  | j + 1, k, h => by
    have ih := partsL_bd a s j
    have hl := partsL_len a s j
    simp only [partsL, List.getD_eq_getElem?_getD, List.getElem?_append]
    split
    · rename_i hk
      have := ih k (by omega)
      simpa [List.getD_eq_getElem?_getD] using this
    · have : k = j + 1 := by omega
      subst this
      have := partsN_bd a s (partsL a s j) (j + 1) (j + 1) fun k hk => ih k (by omega)
      simp [hl]; omega
def fewest (a : Df) (s : List UInt8) : Int := if okDf a && textOk s then (partsL a s s.length).getD s.length 0 else -1

/-- The row while one place is reckoned. -/
def rowP (a : Df) (s : List UInt8) (L j : Nat) (n : Int) : List Int := partsL a s j ++ n :: List.replicate (L - (j + 1)) 0
theorem rowP_len (a : Df) (s : List UInt8) {L j : Nat} (h : j < L) (n : Int) : (rowP a s L j n).length = L + 1 := by simp [rowP, partsL_len]; omega
theorem rowP_get (a : Df) (s : List UInt8) {L j i : Nat} (h : i ≤ j) (n : Int) : (rowP a s L j n).getD i 0 = (partsL a s j).getD i 0 := by
  simp only [rowP, List.getD_eq_getElem?_getD]
  rw [List.getElem?_append_left (by rw [partsL_len]; omega)]
theorem rowP_self (a : Df) (s : List UInt8) {L j : Nat} (n : Int) : (rowP a s L j n).getD (j + 1) 0 = n := by
  simp only [rowP, List.getD_eq_getElem?_getD]
  rw [List.getElem?_append_right (by rw [partsL_len]; omega), partsL_len]; simp
theorem rowP_set (a : Df) (s : List UInt8) {L j : Nat} (n x : Int) : (rowP a s L j n).set (j + 1) x = rowP a s L j x := by
  simp only [rowP]
  rw [List.set_append_right _ _ (by rw [partsL_len]; omega), partsL_len]; simp
theorem rowP_setD (a : Df) (s : List UInt8) {L j : Nat} (n x : Int) : ((rowP a s L j n).map iD).set (j + 1) (.int .i64 x) = (rowP a s L j x).map iD := by
  rw [← rowP_set a s n x, List.map_set]
theorem rowP_zero (a : Df) (s : List UInt8) {L j : Nat} (h : j < L) : partsL a s j ++ List.replicate (L - j) 0 = rowP a s L j 0 := by
  rw [rowP, show L - j = (L - (j + 1)) + 1 by omega, List.replicate_succ]
theorem rowP_done (a : Df) (s : List UInt8) {L j : Nat} : rowP a s L j (partsN a s (partsL a s j) (j + 1) (j + 1)) = partsL a s (j + 1) ++ List.replicate (L - (j + 1)) 0 := by
  simp [rowP, partsL]

end Go.Fw
