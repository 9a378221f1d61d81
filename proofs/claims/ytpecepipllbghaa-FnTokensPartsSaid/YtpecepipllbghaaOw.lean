/- The law about the fewest parts. -/
import Derived.Test.YtpecepipllbghaaOv
import Derived.Test.YtpecepipllbghaaMb
import Derived.Test.YtpecepipllbghaaOr
set_option linter.unusedSimpArgs false
set_option linter.unusedVariables false
namespace Go.Fw
open Go Go.Proofs
set_option linter.unusedSectionVars false
set_option linter.unnecessarySimpa false

/-! ### Into how many parts a text can be divided, in words -/

def Dv (a : Df) : Nat → List UInt8 → Prop
  | 0, s => s = []
  | n + 1, s => ∃ x y, s = x ++ y ∧ y ≠ [] ∧ a.acc y = true ∧ Dv a n x
theorem Dv.app {a : Df} {n : Nat} {x : List UInt8} (hx : Dv a n x) : ∀ {m : Nat} {y : List UInt8}, Dv a m y → Dv a (n + m) (x ++ y)
  | 0, y, h => by
    have : y = [] := h
    subst this; simpa using hx
  | m + 1, y, h => by
    obtain ⟨u, v, rfl, h1, h2, h3⟩ := h
    exact ⟨x ++ u, v, by simp, h1, h2, hx.app h3⟩

theorem partsN_ex (a : Df) (s : List UInt8) (bs : List Int) (j : Nat) : ∀ i, 0 ≤ partsN a s bs j i → ∃ k, k < i ∧ 0 ≤ bs.getD k 0 ∧ a.acc ((s.take j).drop k) = true ∧ partsN a s bs j i = bs.getD k 0 + 1
  | 0, h => by simp [partsN] at h
  | i + 1, h => by
    rw [partsN_succ] at h ⊢
    unfold stepP at h ⊢
    split
    · rename_i hc
      exact ⟨i, by omega, hc.1.1, hc.1.2, rfl⟩
    · rename_i hc
      rw [if_neg hc] at h
      obtain ⟨k, h1, h2, h3, h4⟩ := partsN_ex a s bs j i h
      exact ⟨k, by omega, h2, h3, h4⟩
theorem partsN_le (a : Df) (s : List UInt8) (bs : List Int) (j : Nat) : ∀ i k, k < i → 0 ≤ bs.getD k 0 → a.acc ((s.take j).drop k) = true → 0 ≤ partsN a s bs j i ∧ partsN a s bs j i ≤ bs.getD k 0 + 1
  | 0, k, h, _, _ => by omega
  | i + 1, k, h, h1, h2 => by
    rw [partsN_succ]
    unfold stepP
    rcases Nat.lt_or_ge k i with hk | hk
    · have := partsN_le a s bs j i k hk h1 h2
      split
      · rename_i hc
        have := hc.2
        have := hc.1.1
        omega
      · exact this
    · have : k = i := by omega
      subst this
      split
      · omega
      · rename_i hc
        have : ¬ (partsN a s bs j k < 0 ∨ bs.getD k 0 + 1 < partsN a s bs j k) := fun h => hc ⟨⟨h1, h2⟩, h⟩
        omega

def pv (a : Df) (s : List UInt8) (k : Nat) : Int := (partsL a s k).getD k 0
theorem pv_get (a : Df) (s : List UInt8) : ∀ J k, k ≤ J → (partsL a s J).getD k 0 = pv a s k
  | 0, k, h => by
    have : k = 0 := by omega
    subst this; rfl
  | J + 1, k, h => by
    rcases Nat.lt_or_ge k (J + 1) with hk | hk
    · rw [← pv_get a s J k (by omega)]
      simp only [partsL, List.getD_eq_getElem?_getD]
      rw [List.getElem?_append_left (by rw [partsL_len]; exact hk)]
    · have : k = J + 1 := by omega
      subst this; rfl
theorem pv_succ (a : Df) (s : List UInt8) (j : Nat) : pv a s (j + 1) = partsN a s (partsL a s j) (j + 1) (j + 1) := by
  have hl := partsL_len a s j
  unfold pv
  simp only [partsL, List.getD_eq_getElem?_getD]
  rw [List.getElem?_append_right (by omega), hl]; simp
theorem pv_dv (a : Df) (s : List UInt8) (j : Nat) (hj : j ≤ s.length) : (0 ≤ pv a s j → Dv a (pv a s j).toNat (s.take j)) ∧ ∀ n, Dv a n (s.take j) → 0 ≤ pv a s j ∧ pv a s j ≤ n := by
  induction j using Nat.strongRecOn with
  | _ j ih =>
    cases j with
    | zero =>
      have h0 : pv a s 0 = 0 := rfl
      refine ⟨fun _ => by rw [h0]; simp [Dv], fun n _ => by rw [h0]; omega⟩
    | succ j =>
      rw [pv_succ]
      constructor
      · intro h
        obtain ⟨k, h1, h2, h3, h4⟩ := partsN_ex a s _ _ _ h
        rw [pv_get a s j k (by omega)] at h2 h4
        rw [h4]
        have := (ih k h1 (by omega)).1 h2
        have he : (pv a s k + 1).toNat = (pv a s k).toNat + 1 := by omega
        rw [he]
        refine ⟨s.take k, (s.take (j + 1)).drop k, ?_, ?_, h3, this⟩
        · have := (List.take_append_drop k (s.take (j + 1))).symm
          rwa [List.take_take, Nat.min_eq_left (by omega)] at this
        · intro h
          have := congrArg List.length h
          simp at this; omega
      · intro n hn
        cases n with
        | zero =>
          have : s.take (j + 1) = [] := hn
          have := congrArg List.length this
          rw [List.length_take, List.length_nil] at this; omega
        | succ m =>
          obtain ⟨x, y, h1, h2, h3, h4⟩ := hn
          have hl : x.length + y.length = j + 1 := by
            have := congrArg List.length h1
            simp at this; omega
          have hy : 0 < y.length := List.length_pos_iff.2 h2
          have hx : x = s.take x.length := by
            have h := congrArg (List.take x.length) h1
            rw [List.take_take, Nat.min_eq_left (by omega), List.take_left] at h
            exact h.symm
          have hyd : y = (s.take (j + 1)).drop x.length := by rw [h1, List.drop_left]
          have hi := (ih x.length (by omega) (by omega)).2 m (hx ▸ h4)
          have := partsN_le a s (partsL a s j) (j + 1) (j + 1) x.length (by omega) (by rw [pv_get a s j _ (by omega)]; exact hi.1) (by rw [← hyd]; exact h3)
          rw [pv_get a s j _ (by omega)] at this
          omega

theorem fewest_dv {a : Df} {s : List UInt8} (h1 : okDf a = true) (h2 : textOk s = true) : (0 ≤ fewest a s → Dv a (fewest a s).toNat s) ∧ (∀ n, Dv a n s → 0 ≤ fewest a s ∧ fewest a s ≤ n) ∧ -1 ≤ fewest a s ∧ fewest a s ≤ s.length := by
  have e : fewest a s = pv a s s.length := by unfold fewest; rw [h1, h2]; rfl
  have h := pv_dv a s s.length (Nat.le_refl _)
  rw [List.take_length] at h
  have hb := partsL_bd a s s.length s.length (Nat.le_refl _)
  rw [e]
  exact ⟨h.1, h.2, hb⟩

theorem textOk_take {s : List UInt8} (h : textOk s = true) (n : Nat) : textOk (s.take n) = true := by
  have h1 := letters_all h
  have h2 := letters_len h
  simp only [textOk, lettersOk, Bool.and_eq_true, decide_eq_true_eq]
  refine ⟨take_all h1 n, ?_⟩
  simp; omega
theorem textOk_drop {s : List UInt8} (h : textOk s = true) (n : Nat) : textOk (s.drop n) = true := by
  have h1 := letters_all h
  have h2 := letters_len h
  simp only [textOk, lettersOk, Bool.and_eq_true, decide_eq_true_eq]
  refine ⟨?_, by simp; omega⟩
  rw [List.all_eq_true] at h1 ⊢
  exact fun x hx => h1 x (List.mem_of_mem_drop hx)

theorem fewest_nil {a : Df} {s : List UInt8} (h1 : okDf a = true) (h2 : textOk s = true) : fewest a s = 0 ↔ s = [] := by
  obtain ⟨h3, h4, _⟩ := fewest_dv h1 h2
  constructor
  · intro h
    rw [h] at h3
    exact h3 (by omega)
  · intro h
    have := h4 0 h
    omega
theorem fewest_one {a : Df} {s : List UInt8} (h1 : okDf a = true) (h2 : textOk s = true) (hs : s ≠ []) : a.acc s = true ↔ fewest a s = 1 := by
  obtain ⟨h3, h4, _⟩ := fewest_dv h1 h2
  have h0 : ¬ fewest a s = 0 := fun h => hs ((fewest_nil h1 h2).1 h)
  constructor
  · intro h
    have := h4 1 ⟨[], s, rfl, hs, h, rfl⟩
    omega
  · intro h
    rw [h] at h3
    obtain ⟨x, y, rfl, _, h6, h7⟩ := h3 (by omega)
    have : x = [] := h7
    subst this; exact h6
theorem fewest_two {a : Df} {s : List UInt8} (h1 : okDf a = true) (h2 : textOk s = true) (H : Nat) (ha : 0 ≤ fewest a (s.take H)) (hb : 0 ≤ fewest a (s.drop H)) : 0 ≤ fewest a s ∧ fewest a s ≤ fewest a (s.take H) + fewest a (s.drop H) := by
  have h3 := (fewest_dv h1 (textOk_take h2 H)).1 ha
  have h4 := (fewest_dv h1 (textOk_drop h2 H)).1 hb
  have h5 := h3.app h4
  rw [List.take_append_drop] at h5
  have := (fewest_dv h1 h2).2.1 _ h5
  omega

end Go.Fw
