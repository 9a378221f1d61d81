/- Marks in rows, and what is found of them. -/
import Derived.Test.YtpecepipllbghaaDoorMe
import Derived.Test.YtpecepipllbghaaDoorFwb
set_option linter.unusedSimpArgs false
set_option linter.unusedVariables false
namespace Go.Fw
open Go Go.Proofs

/-- Numbers from k on. -/
def marksI (k : Int) (n : Nat) : List Int := (List.range n).map fun (i : Nat) => k + i
theorem marksI_len (k : Int) (n : Nat) : (marksI k n).length = n := by simp [marksI]
theorem marksI_succ (k : Int) (n : Nat) : marksI k (n + 1) = marksI k n ++ [k + n] := by simp [marksI, List.range_succ]
theorem marksI_get (k : Int) {n i : Nat} (h : i < n) : (marksI k n)[i]'(by rw [marksI_len]; exact h) = k + i := by simp [marksI]

theorem take_set_snoc {α : Type} {ys : List α} {i : Nat} (h : i < ys.length) (x : α) : (ys.set i x).take (i + 1) = ys.take i ++ [x] := by
  rw [take_snoc (by simpa using h), List.take_set_of_le (Nat.le_refl _)]; simp

/-! ### Moves -/

def marksM (k : Int) (n : Nat) : List Mv := (List.range n).map fun (i : Nat) => ⟨k + 3 * i, k + 3 * i + 1, k + 3 * i + 2⟩
theorem marksM_len (k : Int) (n : Nat) : (marksM k n).length = n := by simp [marksM]
theorem marksM_succ (k : Int) (n : Nat) : marksM k (n + 1) = marksM k n ++ [⟨k + 3 * n, k + 3 * n + 1, k + 3 * n + 2⟩] := by simp [marksM, List.range_succ]
theorem marksM_get (k : Int) {n i : Nat} (h : i < n) : (marksM k n)[i]'(by rw [marksM_len]; exact h) = ⟨k + 3 * i, k + 3 * i + 1, k + 3 * i + 2⟩ := by simp [marksM]

/-- The automaton with choices in which all cells are marked. -/
def marksNa (k n : Int) (x y z : Nat) : Na := ⟨n, marksM k x, marksI (k + 3 * x) y, marksI (k + 3 * x + y) z⟩

/-- An automaton with choices in three new rows. -/
def naAg (a : Na) (i1 i2 i3 : Nat) : AV := .ag [iA a.n, .sl 3 i1 0 a.ms.length, .sl 1 i2 0 a.fs.length, .sl 1 i3 0 a.es.length]
def naRes (a : Na) (i1 i2 i3 : Nat) : List (Nat × Blk) := [(i1, .ar 3 (a.ms.map Mv.d)), (i2, .ar 1 (a.fs.map iD)), (i3, .ar 1 (a.es.map iD))]
theorem naAg_flat (a : Na) (i1 i2 i3 : Nat) : (naAg a i1 i2 i3).flatR = true := by simp [naAg, AV.flatR, AV.flat2, AV.flat1, D.flat, D.one]
theorem naRes_flat (a : Na) (i1 i2 i3 : Nat) : (naRes a i1 i2 i3).all (fun p => p.2.flatR) = true := by
  simp [naRes, Blk.flatR, Mv.d, D.flat, D.one]
theorem naAg_back (a : Na) (base i1 i2 i3 : Nat) (h1 : 100 ≤ i1) (h2 : 100 ≤ i2) (h3 : 100 ≤ i3) (n12 : i1 ≠ i2) (n13 : i1 ≠ i3) (n23 : i2 ≠ i3) : (naAg a i1 i2 i3).back (fun _ => 0) base [] (naRes a i1 i2 i3) = naAg a base (base + 1) (base + 2) := by
  simp [naAg, naRes, AV.back, AV.kp, AV.kpL, AV.ren, AV.renL, outE, renOf, posOf, show ¬ i1 < 100 by omega, show ¬ i2 < 100 by omega, show ¬ i3 < 100 by omega, n12.symm, n13.symm, n23.symm]

/-! ### Roads -/

end Go.Fw
