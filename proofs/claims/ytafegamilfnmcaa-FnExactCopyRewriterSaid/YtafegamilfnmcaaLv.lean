/- Automata: validity, where words lead. -/
import Derived.Test.YtafegamilfnmcaaLj
set_option linter.unusedSimpArgs false
set_option linter.unusedVariables false
namespace Go.Fw
open Go Go.Proofs

theorem takeM {α β : Type} (f : α → β) (xs : List α) : (xs.map f).take xs.length = xs.map f := List.take_of_length_le (by simp)

structure Df where
  next : List (List Int)
  ends : List Bool
deriving DecidableEq
abbrev bD (b : Bool) : D := .bool b
abbrev bsD (xs : List Bool) : D := .list (xs.map bD)
abbrev rowsD (xs : List (List Int)) : D := .list (xs.map intsD)
def Df.d (a : Df) : D := .agg [rowsD a.next, bsD a.ends]

/-- Is a row as it has to be, where states are numbered up to 'w'? -/
def dRow (w : Int) (r : List Int) : Bool := decide (r.length = 3) && r.all fun t => inR t 0 w
def okDf (a : Df) : Bool := a.next.all (dRow ((a.next.length : Int) - 1)) && inR a.next.length 1 40 && decide (a.ends.length = a.next.length)

/-- The state behind a letter's number; behind letters. -/
def Df.go (a : Df) (q c : Int) : Int := (a.next.getD q.toNat []).getD c.toNat 0
def Df.run (a : Df) (q : Int) (s : List UInt8) : Int := s.foldl (fun q b => a.go q (ltr b)) q
def Df.fin (a : Df) (q : Int) : Bool := a.ends.getD q.toNat false
def Df.acc (a : Df) (s : List UInt8) : Bool := a.fin (a.run 0 s)
/-- Is it a state's number? -/
def Df.st (a : Df) (q : Int) : Prop := 0 ≤ q ∧ q < a.next.length

theorem okDf_len {a : Df} (h : okDf a = true) : 1 ≤ a.next.length ∧ a.next.length ≤ 40 ∧ a.ends.length = a.next.length := by
  simp only [okDf, Bool.and_eq_true, decide_eq_true_eq, inR] at h
  omega
theorem okDf_row {a : Df} (h : okDf a = true) {k : Nat} (hk : k < a.next.length) : (a.next.getD k []).length = 3 ∧ ∀ t ∈ a.next.getD k [], a.st t := by
  simp only [okDf, Bool.and_eq_true, List.all_eq_true] at h
  have e1 := getD_row (xs := a.next) (i := k) [] hk
  have := h.1.1 _ (List.mem_of_getElem? e1.1)
  simp only [dRow, Bool.and_eq_true, decide_eq_true_eq, List.all_eq_true] at this
  refine ⟨this.1, fun t ht => ?_⟩
  have h2 := this.2 t ht
  simp [inR] at h2
  exact ⟨h2.1, by omega⟩
theorem go_st {a : Df} (h : okDf a = true) {q c : Int} (hq : a.st q) (hc : 0 ≤ c ∧ c < 3) : a.st (a.go q c) := by
  obtain ⟨h1, h2⟩ := okDf_row h (k := q.toNat) (by have := hq; unfold Df.st at this; omega)
  have e := getD_row (xs := a.next.getD q.toNat []) (i := c.toNat) 0 (by omega)
  exact h2 _ (List.mem_of_getElem? e.1)
theorem run_snoc (a : Df) (q : Int) {s : List UInt8} {i : Nat} (h : i < s.length) : a.run q (s.take (i + 1)) = a.go (a.run q (s.take i)) (ltr s[i]) := by
  unfold Df.run; rw [foldl_take2 _ _ h]
theorem run_app (a : Df) (q : Int) (s t : List UInt8) : a.run q (s ++ t) = a.run (a.run q s) t := by
  unfold Df.run; rw [List.foldl_append]
theorem run_st {a : Df} (h : okDf a = true) : ∀ {s : List UInt8} {q : Int}, a.st q → s.all isL = true → a.st (a.run q s)
  | [], q, hq, _ => hq
  | b :: s, q, hq, hs => by
    simp only [List.all_cons, Bool.and_eq_true] at hs
    have hb := ltr_of hs.1
    exact run_st h (s := s) (go_st h hq (by omega)) hs.2
theorem st0 {a : Df} (h : okDf a = true) : a.st 0 := by have := okDf_len h; exact ⟨by omega, by omega⟩

/-! ### Validity -/

theorem ibeq (a b : Nat) : ((a : Int) == (b : Int)) = decide (a = b) := by rw [Bool.eq_iff_iff]; simp; omega
theorem letters_all {s : List UInt8} {m : Int} (h : lettersOk s m = true) : s.all isL = true := by
  simp only [lettersOk, Bool.and_eq_true] at h; exact h.1
theorem okDf_bad {a : Df} {i : Nat} (h : i < a.next.length) (hr : dRow ((a.next.length : Int) - 1) (a.next.getD i []) = false) : okDf a = false := by
  have : a.next.all (dRow ((a.next.length : Int) - 1)) = false := by
    rw [List.all_eq_false]
    exact ⟨_, List.mem_of_getElem? (getD_row (xs := a.next) (i := i) [] h).1, by rw [hr]; decide⟩
  simp [okDf, this]

/-- Lengths that Go can have. -/
structure Df.fine (a : Df) : Prop where
  len : a.next.length ≤ 9223372036854775807
  row : ∀ x ∈ a.next, x.length ≤ 9223372036854775807
  elen : a.ends.length ≤ 9223372036854775807

/-- The state of a row's letter is none. -/
theorem dRow_bad {w : Int} {r : List Int} {j : Nat} (hj : j < r.length) (h : inR r[j] 0 w = false) : dRow w r = false := by
  have : r.all (fun t => inR t 0 w) = false := all_false hj h
  simp [dRow, this]

/-! ### Where words lead -/

def inSt (a : Df) (q : Int) : Bool := inR q 0 ((a.next.length : Int) - 1)
def runDf (a : Df) (q : Int) (s : List UInt8) : Int := if okDf a && wordOk s && inSt a q then a.run q s else -1
theorem inSt_st {a : Df} {q : Int} : inSt a q = true ↔ a.st q := by simp [inSt, inR, Df.st]; omega

theorem fin_row {a : Df} (h : okDf a = true) {q : Int} (hq : a.st q) : q.toNat < a.ends.length ∧ 0 ≤ q ∧ q < a.ends.length ∧ a.ends[q.toNat]? = some (a.fin q) ∧ ∀ h, a.ends[q.toNat]'h = a.fin q := by
  have h1 := okDf_len h
  have h2 := hq.1
  have h3 := hq.2
  have hk : q.toNat < a.ends.length := by omega
  exact ⟨hk, h2, by omega, getD_row false hk⟩

def accDf (a : Df) (s : List UInt8) : Bool := okDf a && wordOk s && a.acc s
theorem runDf_word {a : Df} {s : List UInt8} (h1 : okDf a = true) (h2 : wordOk s = true) : runDf a 0 s = a.run 0 s ∧ a.st (a.run 0 s) := by
  have h3 := st0 h1
  exact ⟨by simp [runDf, h1, h2, inSt_st.2 h3], run_st h1 h3 (letters_all h2)⟩
theorem runDf_neg {a : Df} {s : List UInt8} {q : Int} (h : ¬ (okDf a = true ∧ wordOk s = true)) : runDf a q s = -1 := by
  unfold runDf; rw [if_neg]; simp only [Bool.and_eq_true]; exact fun h' => h h'.1
end Go.Fw
